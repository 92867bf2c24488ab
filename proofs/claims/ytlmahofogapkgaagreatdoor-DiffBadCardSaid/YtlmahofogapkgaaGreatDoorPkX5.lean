/-
  Part 5 of 6 of the proof that DiffBad returns true for every list of numbers, every path and every number, and leaves its arguments as they were. No condition beyond the given statement.
-/
import Derived.Maps.RangeRun
import Derived.Maps.Range
import Derived.Defers
import Derived.Recover
import Derived.WalkKit
import Derived.Shelf.Strings.Cut
import Derived.Shelf.Strconv.AtoiAll
import Derived.Shelf.Small.Strs
import Derived.Ground.NamesProg
import Derived.Test.YtlmahofogapkgaaGreatDoorProg
import Derived.Test.YtlmahofogapkgaaGreatDoorPkX4
set_option linter.unusedVariables false
set_option linter.unusedSimpArgs false
set_option linter.all false
set_option maxRecDepth 20000
set_option maxHeartbeats 4000000
namespace Go.Proofs.YtlmahofogapkgaaGreatDoor.X
section
open Go Go.RowKit Go.Proofs K
variable {pk : Pk}
theorem eF {l : ByteArray} {rows : List (List D)} : XQ Tryz.prog pk 22 [xs l, xr rows] (xd [.c (.string l), .s rows]) := by
  refine XQ.en Tryz.func22 Tryz.ntmps22 (fun w0 own H V v0 hf => ?_)
  refine G (T := T) 1000 rfl ?_
  exact Fq (T := T) rfl rfl
theorem oO : ∀ (n : Nat) (t : Tr), t.size ≤ n → t.size ≤ 1000000000 → XQ Tryz.prog pk 23 [xd (trd t)] (xi (t.size : Nat)) := by
  intro n
  induction n with
  | zero => intro t h; have := t.size_pos; omega
  | succ n ih =>
    rintro ⟨l, ks⟩ hn hs
    have hkl := Tr.len_le ks
    rw [al]
    simp only [Tr.size] at hs
    refine XQ.en Tryz.func23 Tryz.ntmps23 (fun w0 own H V v0 hf => ?_)
    refine Gs (T := T) 100001 rfl ?_
    refine (FzTo.bz 0 rfl).c ?_
    refine G (T := T) 1000 rfl ?_
    refine Lq [7, 8] (fun (q : Nat) r => (3, xi ((Tr.sizes (ks.take q) + 1 : Nat) : Int)) :: (9, xi (q : Nat)) :: r) (fun q => []) 1 (fun q => q ≤ ks.length) (fun q => ks.length - q) 0 rfl (Nat.zero_le _) ?_
    rintro j hj
    refine G (T := T) 1000 rfl ?_
    refine If rfl (fun h => ?_) (fun h => ?_)
    · have hjl := of_decide_eq_true h; rw [List.length_map] at hjl
      obtain ⟨y, hy⟩ := ae (l := ks) (j := j) (by omega)
      have hsz1 := Tr.sizes_take ks j y hy
      have hsz2 := Tr.sizes_take_le ks (j + 1)
      refine G (T := T) 1000 rfl ?_
      refine Ix (T := T) j (ab hy) rfl rfl rfl rfl ⟨rfl, rfl⟩ rfl rfl ?_
      refine G (T := T) 1000 rfl ?_
      refine Cq (ih y (Tr.size_kid (List.mem_of_getElem? hy) hn) (by omega)) rfl rfl rfl rfl rfl ⟨rfl, rfl⟩ ?_
      refine G (T := T) 16 rfl ?_
      refine G (T := T) 1000 rfl ?_
      rw [show ((Tr.sizes (ks.take j) + 1 : Nat) : Int) + (y.size : Nat) = ((Tr.sizes (ks.take (j + 1)) + 1 : Nat) : Int) by omega]
      exact Nq (j + 1) (by omega) (by show _ - (j + 1) < _ - j; omega)
    · have hjl := of_decide_eq_false h; rw [List.length_map] at hjl
      obtain rfl : j = ks.length := by omega
      rw [List.take_length]
      refine G (T := T) 1000 rfl ?_
      exact Fq (T := T) rfl rfl
def qPoll : Sm := .mk 12 eS ty4z 0 [] [] [] []
def qMain : Fu := ⟨⟨#[109, 97, 105, 110]⟩, [], .mk 7 eS 0 [], [qPoll], false, 0, 0⟩
def qProg : Pg := ⟨[], [], [qMain]⟩
theorem qProg_ok : qProg.ok 100 := by
  refine ⟨by decide, by decide, by decide, fun x h => (by cases h), fun x h => (by cases h), fun x h => ?_⟩
  rw [List.mem_singleton.1 h]
  exact ⟨by decide, by decide, fun x h => (by cases h), ⟨⟨by omega, by omega⟩, by decide, ⟨by omega, by omega⟩, trivial⟩, by decide, ⟨⟨⟨by omega, by omega⟩, by decide, aV, ⟨by omega, by omega⟩, trivial, trivial, trivial, trivial⟩, trivial⟩, by decide, (show I64 0 from ⟨by omega, by omega⟩), (show (0 : Int) ≤ 0 ∧ (0 : Int) ≤ 65535 by omega)⟩
abbrev qTree : Tr := .node ⟨#[112, 114, 111, 103, 114, 97, 109]⟩ [.node ⟨#[116, 121, 112, 101, 115]⟩ [], .node ⟨#[103, 108, 111, 98, 97, 108, 115]⟩ [], .node ⟨#[102, 117, 110, 99, 115]⟩ [.node ⟨#[102, 110, 32, 109, 97, 105, 110]⟩ [.node ⟨#[112, 97, 114, 97, 109, 115]⟩ [], .node ⟨#[114, 101, 115, 117, 108, 116]⟩ [.node ⟨#[118, 111, 105, 100]⟩ []], .node ⟨#[98, 111, 100, 121]⟩ [.node ⟨#[112, 111, 108, 108]⟩ []]]]]
theorem oP : cD qProg = qTree := by decide +kernel
theorem oQ (hT : ∀ H, pk.hy H → TabH H) : XQ Tryz.prog pk 8 [] (xb true) := by
  have h1 := iE (pk := pk) hT (B := 100) (by decide) qProg_ok
  rw [oP] at h1
  have h2 := ref_same (pk := pk) 100 (by decide) qTree qTree (by decide +kernel)
  rw [(Tr.eqb_iff _ _).2 rfl] at h2
  have h3 := oO (pk := pk) 100 qTree (by decide +kernel) (by decide +kernel)
  rw [show qTree.size = 10 by decide +kernel] at h3
  refine XQ.en Tryz.func8 Tryz.ntmps8 (fun w0 own H V v0 hf => ?_)
  refine G (T := T) 1000 rfl ?_
  iterate 14
    refine Cq eF rfl rfl rfl rfl rfl ⟨rfl, rfl⟩ ?_
    refine G (T := T) 1000 rfl ?_
  refine Cq (diff_1 hT) rfl rfl rfl rfl rfl ⟨rfl, rfl⟩ ?_
  refine G (T := T) 1000 rfl ?_
  iterate 2
    refine Cq eF rfl rfl rfl rfl rfl ⟨rfl, rfl⟩ ?_
    refine G (T := T) 1000 rfl ?_
  refine Cq (diff_2 hT) rfl rfl rfl rfl rfl ⟨rfl, rfl⟩ ?_
  refine G (T := T) 1000 rfl ?_
  refine Cq eF rfl rfl rfl rfl rfl ⟨rfl, rfl⟩ ?_
  refine G (T := T) 1000 rfl ?_
  refine Cq apply_a rfl rfl rfl rfl rfl ⟨rfl, rfl⟩ ?_
  refine G (T := T) 1000 rfl ?_
  refine Cq eF rfl rfl rfl rfl rfl ⟨rfl, rfl⟩ ?_
  refine G (T := T) 1000 rfl ?_
  refine Cq invert_b rfl rfl rfl rfl rfl ⟨rfl, rfl⟩ ?_
  refine G (T := T) 1000 rfl ?_
  refine Cq h1 rfl rfl rfl rfl rfl ⟨rfl, rfl⟩ ?_
  refine G (T := T) 1000 rfl ?_
  refine Cq h2 rfl rfl rfl rfl rfl ⟨rfl, rfl⟩ ?_
  refine G (T := T) 1000 rfl ?_
  iterate 7
    refine Ix (T := T) 0 rfl rfl rfl rfl rfl ⟨rfl, rfl⟩ rfl rfl ?_
    refine G (T := T) 1000 rfl ?_
  refine Cq h3 rfl rfl rfl rfl rfl ⟨rfl, rfl⟩ ?_
  refine G (T := T) 1000 rfl ?_
  exact Fe (T := T) rfl rfl
end
end Go.Proofs.YtlmahofogapkgaaGreatDoor.X
namespace Go.Proofs.YtlmahofogapkgaaGreatDoor.K
open Go Go.RowKit Go.Proofs
theorem kh {t : Ty4} {k : Int} (h : aA t k = true) : t = .mk k eS 0 [] := by
  obtain ⟨k', nm, n, ts⟩ := t
  simp only [aA, Bool.and_eq_true, decide_eq_true_eq] at h
  obtain ⟨⟨⟨rfl, rfl⟩, rfl⟩, h4⟩ := h
  rw [List.length_eq_zero_iff] at h4; subst h4; rfl
end Go.Proofs.YtlmahofogapkgaaGreatDoor.K
namespace Go.Proofs.YtlmahofogapkgaaGreatDoor.X
open Go Go.RowKit Go.Proofs K
instance memB (b : ByteArray) : ∀ l : List ByteArray, Decidable (b ∈ l)
  | [] => isFalse (by simp)
  | x :: r => match decEq b x, memB b r with
    | isTrue h, _ => isTrue (by rw [h]; exact List.mem_cons_self ..)
    | _, isTrue h => isTrue (List.mem_cons_of_mem _ h)
    | isFalse h, isFalse k => isFalse (by simp [h, k])
def badL : List ByteArray := [⟨#[110, 117, 109, 32, 48, 55]⟩, ⟨#[110, 117, 109, 32, 54, 53, 53, 51, 54]⟩, ⟨#[110, 117, 109]⟩, ⟨#[110, 117, 109, 32, 53, 32]⟩, ⟨#[105, 100, 32, 49, 120]⟩, ⟨#[105, 100]⟩, ⟨#[117, 110, 97, 114, 121, 32, 43]⟩, ⟨#[98, 105, 110, 97, 114, 121]⟩, ⟨#[99, 97, 108, 108]⟩, ⟨#[102, 111, 111]⟩, ⟨#[]⟩, ⟨#[105, 110, 32, 50, 53, 54]⟩]
def badW : List ByteArray := [iz, w_id, eM, dq, ep, ⟨#[102, 111, 111]⟩, ⟨#[]⟩, w_in]
theorem bad_word : ∀ b ∈ badL, ad b ∈ badW := by decide +kernel
mutual
def noB : Tr → Prop
  | .node L ks => (ks = [] → L ∉ badL) ∧ fa ks
def fa : List Tr → Prop
  | [] => True
  | t :: r => noB t ∧ fa r
end
theorem noBs_of : ∀ {l : List Tr}, (∀ t ∈ l, noB t) → fa l
  | [], _ => trivial
  | t :: r, h => ⟨h t (List.mem_cons_self ..), noBs_of fun u hu => h u (List.mem_cons_of_mem _ hu)⟩
theorem nU : ∀ {l : List Tr} {t : Tr}, fa l → t ∈ l → noB t
  | u :: us, t, h, hm => by
    rcases List.mem_cons.1 hm with rfl | hm
    · exact h.1
    · exact nU h.2 hm
theorem eG {α : Type} {f : α → Tr} {l : List α} (h : ∀ x ∈ l, noB (f x)) : fa (l.map f) := noBs_of fun t ht => by
  obtain ⟨x, hx, rfl⟩ := List.mem_map.1 ht
  exact h x hx
theorem nV {w p : ByteArray} (h1 : iK w = true) (h2 : w ∉ badW) : ao w p ∉ badL := fun h => h2 (by
  have := bad_word _ h
  rwa [dx h1] at this)
theorem lab_word {w : ByteArray} (h1 : iK w = true) (h2 : w ∉ badW) : w ∉ badL := by
  have := nV (p := ⟨#[]⟩) h1 h2
  rwa [ao, if_pos rfl] at this
theorem bE {w p : ByteArray} {ks : List Tr} (h1 : iK w = true) (h2 : w ∉ badW) (h : fa ks) : noB (.node (ao w p) ks) := ⟨fun _ => nV h1 h2, h⟩
theorem aW {w : ByteArray} {ks : List Tr} (h1 : iK w = true) (h2 : w ∉ badW) (h : fa ks) : noB (.node w ks) := ⟨fun _ => lab_word h1 h2, h⟩
theorem gA : ∀ {a b : List Tr}, fa a → fa b → fa (a ++ b)
  | [], _, _, h => h
  | _ :: _, _, h, k => ⟨h.1, gA h.2 k⟩
mutual
theorem nb_ty : ∀ t : Ty4, rTy t = true → noB (tTy t)
  | .mk k nm n ts, h => by
    simp only [rTy] at h
    rw [tTy]
    by_cases h4 : k = 4
    · subst h4
      simp only [if_true, Bool.and_eq_true, decide_eq_true_eq] at h
      have hts := List.length_eq_zero_iff.1 h.2
      subst hts
      exact bE (w := em) (by decide +kernel) (by decide +kernel) trivial
    · rw [if_neg h4] at h
      by_cases h1 : k = 1 ∨ k = 2 ∨ k = 3
      · rw [if_pos h1] at h
        simp only [Bool.and_eq_true, decide_eq_true_eq] at h
        have hts := List.length_eq_zero_iff.1 h.2
        subst hts
        rcases h1 with rfl | rfl | rfl
        · exact aW (w := w_u16) (by decide +kernel) (by decide +kernel) trivial
        · exact aW (w := w_u8) (by decide +kernel) (by decide +kernel) trivial
        · exact aW (w := w_s16) (by decide +kernel) (by decide +kernel) trivial
      · rw [if_neg h1] at h
        by_cases h2 : k = 5 ∨ k = 6
        · rw [if_pos h2] at h
          simp only [Bool.and_eq_true, decide_eq_true_eq] at h
          have hr := nb_tys ts h.2
          rcases h2 with rfl | rfl
          · exact bE (w := bZ) (by decide +kernel) (by decide +kernel) hr
          · exact bE (w := fe) (by decide +kernel) (by decide +kernel) hr
        · rw [if_neg h2] at h; cases h
theorem nb_tys : ∀ l : List Ty4, rTys l = true → fa (tTys l)
  | [], _ => trivial
  | t :: r, h => by
    simp only [rTys, Bool.and_eq_true] at h
    exact ⟨nb_ty t h.1, nb_tys r h.2⟩
end
theorem nW {m : Nat} (h : m ≤ 9223372036854775807) : aR (bd m) = some (m : Int) := atoi_dec (n := (m : Int)) (by omega) (by omega)
theorem bad_num {p : ByteArray} (h : ao iz p ∈ badL) : p ∈ [(⟨#[48, 55]⟩ : ByteArray), ⟨#[54, 53, 53, 51, 54]⟩, ⟨#[]⟩, ⟨#[53, 32]⟩] := by
  have h1 : ∀ b ∈ badL, ad b = iz → ah b ∈ [(⟨#[48, 55]⟩ : ByteArray), ⟨#[54, 53, 53, 51, 54]⟩, ⟨#[]⟩, ⟨#[53, 32]⟩] := by decide +kernel
  have := h1 _ h (dx (by decide +kernel))
  rwa [eN (by decide +kernel)] at this
theorem bad_id {p : ByteArray} (h : ao w_id p ∈ badL) : p ∈ [(⟨#[49, 120]⟩ : ByteArray), ⟨#[]⟩] := by
  have h1 : ∀ b ∈ badL, ad b = w_id → ah b ∈ [(⟨#[49, 120]⟩ : ByteArray), ⟨#[]⟩] := by decide +kernel
  have := h1 _ h (dx (by decide +kernel))
  rwa [eN (by decide +kernel)] at this
theorem bad_in {p : ByteArray} (h : ao w_in p ∈ badL) : p = ⟨#[50, 53, 54]⟩ := by
  have h1 : ∀ b ∈ badL, ad b = w_in → ah b = (⟨#[50, 53, 54]⟩ : ByteArray) := by decide +kernel
  have := h1 _ h (dx (by decide +kernel))
  rwa [eN (by decide +kernel)] at this
theorem bad_call {p : ByteArray} (h : ao ep p ∈ badL) : p = ⟨#[]⟩ := by
  have h1 : ∀ b ∈ badL, ad b = ep → ah b = (⟨#[]⟩ : ByteArray) := by decide +kernel
  have := h1 _ h (dx (by decide +kernel))
  rwa [eN (by decide +kernel)] at this
mutual
theorem nb_ex : ∀ e : Ex, rEx e = true → noB (tEx e)
  | .mk k nm n ks, h => by
    simp only [rEx, Bool.and_eq_true, decide_eq_true_eq, Bool.or_eq_true] at h
    obtain ⟨⟨⟨⟨hk, hn⟩, hl⟩, hlim⟩, hks⟩ := h
    rw [tEx]
    refine ⟨fun he hb => ?_, nb_exs ks hks⟩
    have h0 : ks = [] := by cases ks with
      | nil => rfl
      | cons => simp [tExs] at he
    subst h0
    have hc : k = 1 ∨ k = 2 ∨ k = 11 ∨ k = 14 := by
      rcases hl with hl | hl
      · exact .inr (.inr (.inr hl))
      · simp only [List.length_nil, cT] at hl
        by_cases h1 : k = 1 ∨ k = 2 ∨ k = 11
        · omega
        · rw [if_neg h1] at hl; split at hl <;> simp at hl
    rcases hc with rfl | rfl | rfl | rfl
    · have hn : n.toNat < 65536 := by
        have : n < 65536 := hlim
        omega
      have h2 : bd n.toNat ∈ _ := bad_num hb
      have h3 := nW (m := n.toNat) (by omega)
      simp only [List.mem_cons, List.not_mem_nil, or_false] at h2
      rcases h2 with h2 | h2 | h2 | h2
      · rw [h2, show aR (⟨#[48, 55]⟩ : ByteArray) = some 7 by decide +kernel] at h3
        injection h3 with h3
        have h4 : n.toNat = 7 := by omega
        rw [h4] at h2
        have h5 : bb (cN 7) = ⟨#[48, 55]⟩ := h2
        rw [bx (by decide)] at h5
        exact absurd h5 (by decide)
      · rw [h2, show aR (⟨#[54, 53, 53, 51, 54]⟩ : ByteArray) = some 65536 by decide +kernel] at h3
        injection h3 with h3
        omega
      · rw [h2, show aR (⟨#[]⟩ : ByteArray) = none by decide +kernel] at h3
        cases h3
      · rw [h2, show aR (⟨#[53, 32]⟩ : ByteArray) = none by decide +kernel] at h3
        cases h3
    · have h2 : nm ∈ _ := bad_id hb
      have h3 : ai nm = true := hn
      simp only [List.mem_cons, List.not_mem_nil, or_false] at h2
      rcases h2 with rfl | rfl
      · exact absurd h3 (by decide +kernel)
      · exact absurd h3 (by decide +kernel)
    · have hn : n.toNat < 256 := by
        have : n < 256 := hlim
        omega
      have h2 : bd n.toNat = _ := bad_in hb
      have h3 := nW (m := n.toNat) (by omega)
      rw [h2, show aR (⟨#[50, 53, 54]⟩ : ByteArray) = some 256 by decide +kernel] at h3
      injection h3 with h3
      omega
    · have h2 : nm = _ := bad_call hb
      have h3 : ai nm = true := hn
      subst h2
      exact absurd h3 (by decide +kernel)
theorem nb_exs : ∀ l : List Ex, rExs l = true → fa (tExs l)
  | [], _ => trivial
  | t :: r, h => by
    simp only [rExs, Bool.and_eq_true] at h
    exact ⟨nb_ex t h.1, nb_exs r h.2⟩
end
theorem smW_ok {k : Int} (h : 1 ≤ k ∧ k ≤ 14) : iK (smW k) = true ∧ smW k ∉ badW := by
  have : k = 1 ∨ k = 2 ∨ k = 3 ∨ k = 4 ∨ k = 5 ∨ k = 6 ∨ k = 7 ∨ k = 8 ∨ k = 9 ∨ k = 10 ∨ k = 11 ∨ k = 12 ∨ k = 13 ∨ k = 14 := by omega
  rcases this with rfl | rfl | rfl | rfl | rfl | rfl | rfl | rfl | rfl | rfl | rfl | rfl | rfl | rfl <;> exact ⟨by decide +kernel, by decide +kernel⟩
mutual
theorem nb_sm : ∀ s : Sm, rSm s = true → noB (tSm s)
  | .mk k nm t n xs b el cs, h => by
    simp only [rSm, Bool.and_eq_true, decide_eq_true_eq] at h
    obtain ⟨⟨⟨⟨⟨⟨⟨⟨⟨⟨⟨⟨⟨⟨hk, _⟩, _⟩, hxs⟩, _⟩, ht⟩, _⟩, _⟩, _⟩, _⟩, _⟩, _⟩, hb⟩, hel⟩, hcs⟩ := h
    have h1 := nb_exs xs hxs
    have h2 := kj b hb
    have h3 := kj el hel
    have h4 := nb_cs cs hcs
    obtain ⟨hw1, hw2⟩ := smW_ok hk
    rw [tSm]
    refine bE hw1 hw2 (gA ?_ (gA h1 ?_))
    · split
      · rename_i hk1
        rw [if_pos hk1] at ht
        exact ⟨nb_ty t ht, trivial⟩
      · trivial
    · unfold smT
      split
      · exact ⟨aW (by decide +kernel) (by decide +kernel) h2, aW (by decide +kernel) (by decide +kernel) h3, trivial⟩
      · split
        · exact ⟨aW (by decide +kernel) (by decide +kernel) h2, trivial⟩
        · split
          · exact h2
          · split
            · exact gA h4 ⟨aW (by decide +kernel) (by decide +kernel) h3, trivial⟩
            · trivial
theorem kj : ∀ l : List Sm, cB l = true → fa (fZ l)
  | [], _ => trivial
  | t :: r, h => by
    simp only [cB, Bool.and_eq_true] at h
    exact ⟨nb_sm t h.1, kj r h.2⟩
theorem nb_cs : ∀ l : List (List Sm), rCs l = true → fa (tCs l)
  | [], _ => trivial
  | c :: r, h => by
    simp only [rCs, Bool.and_eq_true] at h
    exact ⟨aW (by decide +kernel) (by decide +kernel) (kj c h.1), nb_cs r h.2⟩
end
theorem nb_par {w : ByteArray} {p : Par} (h1 : iK w = true) (h2 : w ∉ badW) (h : cm p = true) : noB (cC w p) := by
  simp only [cm, Bool.and_eq_true] at h
  exact bE h1 h2 ⟨nb_ty _ h.2, trivial⟩
theorem km {w : ByteArray} {n : Int} (h1 : iK w = true) (h2 : w ∉ badW) : noB (eY w n) := bE h1 h2 trivial
theorem nb_td {t : Td} (h : rTd t = true) : noB (tTd t) := by
  simp only [rTd, Bool.and_eq_true, List.all_eq_true] at h
  unfold tTd
  have h3 : fa (t.fs.map (cC dR)) := eG fun x hx => nb_par (by decide +kernel) (by decide +kernel) (h.2 x hx)
  cases t.un
  · exact bE (w := er) (by decide +kernel) (by decide +kernel) h3
  · exact bE (w := df) (by decide +kernel) (by decide +kernel) h3
theorem nb_gb {g : Gb} (h : rGb g = true) : noB (tGb g) := by
  simp only [rGb, Bool.and_eq_true] at h
  have ht := nb_ty _ h.1.2
  unfold tGb
  split
  · exact bE (by decide +kernel) (by decide +kernel) ⟨ht, km (by decide +kernel) (by decide +kernel), trivial⟩
  · exact bE (by decide +kernel) (by decide +kernel) ⟨ht, km (by decide +kernel) (by decide +kernel), km (by decide +kernel) (by decide +kernel), bE (by decide +kernel) (by decide +kernel) trivial, trivial⟩
theorem nb_res {t : Ty4} (h : (aA t 7 || rTy t) = true) : noB (tTy t) := by
  rw [Bool.or_eq_true] at h
  rcases h with h | h
  · rw [kh h]
    exact aW (w := w_void) (by decide +kernel) (by decide +kernel) trivial
  · exact nb_ty t h
theorem nb_fu {f : Fu} (h : rFu f = true) : noB (tFu f) := by
  simp only [rFu, Bool.and_eq_true, List.all_eq_true] at h
  obtain ⟨⟨⟨_, hps⟩, hres⟩, hb⟩ := h
  have h1 : fa (f.ps.map (cC bq)) := eG fun x hx => nb_par (by decide +kernel) (by decide +kernel) (hps x hx)
  have h2 := nb_res hres
  unfold tFu
  split
  · exact bE (by decide +kernel) (by decide +kernel) ⟨aW (by decide +kernel) (by decide +kernel) h1, aW (by decide +kernel) (by decide +kernel) ⟨h2, trivial⟩, km (by decide +kernel) (by decide +kernel), km (by decide +kernel) (by decide +kernel), trivial⟩
  · rename_i hf
    rw [if_neg hf] at hb
    simp only [Bool.and_eq_true] at hb
    exact bE (by decide +kernel) (by decide +kernel) ⟨aW (by decide +kernel) (by decide +kernel) h1, aW (by decide +kernel) (by decide +kernel) ⟨h2, trivial⟩, aW (by decide +kernel) (by decide +kernel) (kj _ hb.2), trivial⟩
theorem nb_tree {p : Pg} (h : rPg p = true) : noB (cD p) := by
  rw [cD, if_pos h, tPg]
  simp only [rPg, Bool.and_eq_true, List.all_eq_true] at h
  obtain ⟨⟨h1, h2⟩, h3⟩ := h
  exact aW (by decide +kernel) (by decide +kernel) ⟨aW (by decide +kernel) (by decide +kernel) (eG fun x hx => nb_td (h1 x hx)), aW (by decide +kernel) (by decide +kernel) (eG fun x hx => nb_gb (h2 x hx)), aW (by decide +kernel) (by decide +kernel) (eG fun x hx => nb_fu (h3 x hx)), trivial⟩
def c8 : Tr → List Nat → Tr → Tr
  | _, [], b => b
  | .node l ks, i :: r, b => match ks[i]? with
    | some k => .node l (ks.set i (c8 k r b))
    | none => .node l ks
section
open Go Go.RowKit Go.Proofs K
variable {pk : Pk}
def iO : Tr → List Nat → Option Tr
  | t, [] => some t
  | .node _ ks, i :: r => match ks[i]? with
    | some k => iO k r
    | none => none
abbrev natD (q : Nat) : List D := [.c (.int .i64 (q : Int))]
theorem ref_Put {b : Tr} : ∀ (p : List Nat) {t s : Tr}, p.length ≤ 1000000 → lbO t → iO t p = some s → XQ Tryz.prog pk 21 [xd (trd t), xr (p.map natD), xd (trd b)] (xd (trd (c8 t p b)))
  | [], t, s, _, _, _ => by
    rw [c8]
    refine XQ.en Tryz.func21 Tryz.ntmps21 (fun w0 own H V v0 hf => ?_)
    refine Gs (T := T) 100001 rfl ?_
    refine (FzTo.bz 0 rfl).c ?_
    refine (FzTo.bz 1 rfl).c ?_
    refine G (T := T) 1000 rfl ?_
    refine IfT rfl rfl ?_
    refine G (T := T) 1000 rfl ?_
    exact Fq (T := T) rfl rfl
  | q :: p, .node l ks, s, hp, hl, hs => by
    simp only [List.length_cons] at hp
    have hkl := hl.2.1
    rw [iO] at hs
    split at hs
    · rename_i k hk
      have hql : q < ks.length := (List.getElem?_eq_some_iff.1 hk).1
      have hr := ref_Put (b := b) p (by omega) (aC hl.2.2 (List.mem_of_getElem? hk)) hs
      have hput : c8 (.node l ks) (q :: p) b = .node l (ks.set q (c8 k p b)) := by rw [c8, hk]
      rw [hput, al, al]
      have hone : ∀ r ∈ (q :: p).map natD, r.length = 1 := fun r hr => by
        obtain ⟨x, _, rfl⟩ := List.mem_map.1 hr; rfl
      have htwo : ∀ r ∈ aj ks, r.length = 2 := fun r hr => by
        obtain ⟨x, _, rfl⟩ := List.mem_map.1 hr; rfl
      have hpl : ((q :: p).map natD).length = p.length + 1 := by rw [List.length_map, List.length_cons]
      refine XQ.en Tryz.func21 Tryz.ntmps21 (fun w0 own H V v0 hf => ?_)
      refine Gs (T := T) 100001 rfl ?_
      refine (FzTo.bz 0 rfl).c ?_
      refine (FzTo.bz 1 rfl).c ?_
      refine G (T := T) 1000 rfl ?_
      refine IfF rfl (decide_eq_false (by rw [hpl]; omega)) ?_
      refine G (T := T) 100004 rfl ?_
      refine (Nrh 3 1 35 2 rfl rfl rfl rfl rfl).c ?_
      have hkk : (aj ks).length = ks.length := List.length_map ..
      refine G (T := T) 19 rfl ?_
      refine Ap (T := T) rfl htwo rfl rfl rfl rfl rfl rfl ⟨rfl, rfl⟩ (by omega) (by omega) ?_
      refine G (T := T) 1000 rfl ?_
      refine Ix (T := T) 0 (r := natD q) rfl rfl rfl rfl rfl ⟨rfl, rfl⟩ rfl rfl ?_
      refine G (T := T) 1000 rfl ?_
      refine Ix (T := T) 0 (r := natD q) rfl rfl rfl rfl rfl ⟨rfl, rfl⟩ rfl rfl ?_
      refine G (T := T) 1000 rfl ?_
      refine Ix (T := T) q (ab hk) rfl rfl rfl rfl ⟨rfl, rfl⟩ rfl rfl ?_
      refine G (T := T) 34 rfl ?_
      refine Sd (T := T) (ri := none) 1 (p.length + 1) ⟨_, _, rfl, rfl⟩ rfl rfl rfl rfl ⟨rfl, rfl⟩ rfl (by rw [hpl]; rfl) (by omega) (by omega) hone ?_
      rw [show List.take (p.length + 1 - 1) (List.drop 1 (List.map natD (q :: p))) = p.map natD by rw [List.map_cons, List.drop_succ_cons, List.drop_zero, List.take_of_length_le (by simp)]]
      refine G (T := T) 1000 rfl ?_
      refine Cq hr rfl rfl rfl rfl rfl ⟨rfl, rfl⟩ ?_
      refine G (T := T) 1000 rfl ?_
      have hk2 : ([] ++ aj ks)[q]? = some (trd k) := ab hk
      refine Iq (T := T) q rfl rfl rfl rfl rfl ⟨rfl, rfl⟩ rfl (by omega) rfl ?_
      refine G (T := T) 1000 rfl ?_
      refine Sr (T := T) (rows := [] ++ aj ks) hk2 rfl rfl rfl rfl rfl rfl rfl ⟨rfl, rfl⟩ rfl rfl ?_
      have hset2 : setR ([] ++ aj ks) q 0 (trd (c8 k p b)) = aj (ks.set q (c8 k p b)) := by
        rw [setR, hk2]
        show ([] ++ aj ks).set q (List.take 0 _ ++ (trd (c8 k p b) ++ [])) = _
        rw [List.nil_append, List.take_zero, List.nil_append, List.append_nil]
        exact (List.map_set ..).symm
      rw [show [D.c (.string (lb (c8 k p b))), D.s (kd (c8 k p b))] = trd (c8 k p b) from rfl, hset2]
      refine G (T := T) 1000 rfl ?_
      refine MS.fze 4 rfl ?_ (by repeat' (first | exact trivial | apply And.intro | rfl))
      exact Fq (T := T) rfl rfl
    · cases hs
end
section
open Go Go.RowKit Go.Proofs K
variable {pk : Pk}
theorem nX {l : List Tr} (J : Tr → Par) {fc : FuncId} {fs cs : List D} (hl : l.length ≤ 100000000000) (hcl : ∀ t ∈ l, XQ Tryz.prog pk fc (cs9 fs cs [xd (trd t)]) (xd (paD (J t)))) : XQ Tryz.prog pk 101 [xr (aj l), xf fc fs cs] (xr ((l.map J).map paD)) := by
  refine XQ.en Tryz.func101 Tryz.ntmps101 (fun w0 own H V v0 hf => ?_)
  refine G (T := T) 1000 rfl ?_
  refine (Nr 5 83 5 rfl rfl).c ?_
  refine Lq [1, 8, 9] (fun (q : Nat × List (List D)) r => (5, .a (.c (.l 0 1 5 0 q.1 q.1))) :: (10, xi (q.1 : Nat)) :: r) (fun q => [⟨0, 1, .row q.1 q.2 83 5⟩]) 1 (fun q => q.1 ≤ l.length ∧ q.2 = ((l.take q.1).map J).map paD) (fun q => l.length - q.1) (0, []) rfl ⟨Nat.zero_le _, rfl⟩ ?_
  rintro ⟨j, R⟩ ⟨hj, hR⟩; dsimp only at hj hR ⊢
  refine G (T := T) 1000 rfl ?_
  refine If rfl (fun h => ?_) (fun h => ?_)
  · have hjl := of_decide_eq_true h; rw [List.length_map] at hjl
    obtain ⟨y, hy⟩ := ae (l := l) (j := j) (by omega)
    refine G (T := T) 12 rfl ?_
    refine Ix (T := T) j (ab hy) rfl rfl rfl rfl ⟨rfl, rfl⟩ rfl rfl ?_
    refine G (T := T) 1000 rfl ?_
    refine Cv (hcl y (List.mem_of_getElem? hy)) rfl rfl rfl rfl rfl ⟨rfl, rfl⟩ ?_
    refine G (T := T) 1000 rfl ?_
    exact Nq (j + 1, R ++ [paD (J y)]) ⟨by omega, by dsimp only; rw [hR, List.take_add_one, hy]; simp⟩ (by show _ - (j + 1) < _ - j; omega)
  · have hjl := of_decide_eq_false h; rw [List.length_map] at hjl
    refine G (T := T) 1000 rfl ?_
    rw [List.take_of_length_le (by omega)] at hR; subst hR
    refine MS.fze 0 rfl ?_ (by repeat' (first | exact trivial | apply And.intro | rfl | (simp; omega)))
    exact Fq (T := T) rfl rfl
theorem nY {l : List Tr} (J : Tr → Ex) {fc : FuncId} {fs cs : List D} (hl : l.length ≤ 100000000000) (hcl : ∀ t ∈ l, XQ Tryz.prog pk fc (cs9 fs cs [xd (trd t)]) (xd (exD (J t)))) : XQ Tryz.prog pk 150 [xr (aj l), xf fc fs cs] (xr ((l.map J).map exD)) := by
  refine XQ.en Tryz.func150 Tryz.ntmps150 (fun w0 own H V v0 hf => ?_)
  refine G (T := T) 1000 rfl ?_
  refine (Nr 5 87 4 rfl rfl).c ?_
  refine Lq [1, 8, 9] (fun (q : Nat × List (List D)) r => (5, .a (.c (.l 0 1 4 0 q.1 q.1))) :: (10, xi (q.1 : Nat)) :: r) (fun q => [⟨0, 1, .row q.1 q.2 87 4⟩]) 1 (fun q => q.1 ≤ l.length ∧ q.2 = ((l.take q.1).map J).map exD) (fun q => l.length - q.1) (0, []) rfl ⟨Nat.zero_le _, rfl⟩ ?_
  rintro ⟨j, R⟩ ⟨hj, hR⟩; dsimp only at hj hR ⊢
  refine G (T := T) 1000 rfl ?_
  refine If rfl (fun h => ?_) (fun h => ?_)
  · have hjl := of_decide_eq_true h; rw [List.length_map] at hjl
    obtain ⟨y, hy⟩ := ae (l := l) (j := j) (by omega)
    refine G (T := T) 12 rfl ?_
    refine Ix (T := T) j (ab hy) rfl rfl rfl rfl ⟨rfl, rfl⟩ rfl rfl ?_
    refine G (T := T) 1000 rfl ?_
    refine Cv (hcl y (List.mem_of_getElem? hy)) rfl rfl rfl rfl rfl ⟨rfl, rfl⟩ ?_
    refine G (T := T) 1000 rfl ?_
    exact Nq (j + 1, R ++ [exD (J y)]) ⟨by omega, by dsimp only; rw [hR, List.take_add_one, hy]; simp⟩ (by show _ - (j + 1) < _ - j; omega)
  · have hjl := of_decide_eq_false h; rw [List.length_map] at hjl
    refine G (T := T) 1000 rfl ?_
    rw [List.take_of_length_le (by omega)] at hR; subst hR
    refine MS.fze 0 rfl ?_ (by repeat' (first | exact trivial | apply And.intro | rfl | (simp; omega)))
    exact Fq (T := T) rfl rfl
theorem gC {l : List Tr} (J : Tr → Sm) {fc : FuncId} {fs cs : List D} (hl : l.length ≤ 100000000000) (hcl : ∀ t ∈ l, XQ Tryz.prog pk fc (cs9 fs cs [xd (trd t)]) (xd (smD (J t)))) : XQ Tryz.prog pk 106 [xr (aj l), xf fc fs cs] (xr ((l.map J).map smD)) := by
  refine XQ.en Tryz.func106 Tryz.ntmps106 (fun w0 own H V v0 hf => ?_)
  refine G (T := T) 1000 rfl ?_
  refine (Nr 5 66 11 rfl rfl).c ?_
  refine Lq [1, 8, 9] (fun (q : Nat × List (List D)) r => (5, .a (.c (.l 0 1 11 0 q.1 q.1))) :: (10, xi (q.1 : Nat)) :: r) (fun q => [⟨0, 1, .row q.1 q.2 66 11⟩]) 1 (fun q => q.1 ≤ l.length ∧ q.2 = ((l.take q.1).map J).map smD) (fun q => l.length - q.1) (0, []) rfl ⟨Nat.zero_le _, rfl⟩ ?_
  rintro ⟨j, R⟩ ⟨hj, hR⟩; dsimp only at hj hR ⊢
  refine G (T := T) 1000 rfl ?_
  refine If rfl (fun h => ?_) (fun h => ?_)
  · have hjl := of_decide_eq_true h; rw [List.length_map] at hjl
    obtain ⟨y, hy⟩ := ae (l := l) (j := j) (by omega)
    refine G (T := T) 12 rfl ?_
    refine Ix (T := T) j (ab hy) rfl rfl rfl rfl ⟨rfl, rfl⟩ rfl rfl ?_
    refine G (T := T) 1000 rfl ?_
    refine Cv (hcl y (List.mem_of_getElem? hy)) rfl rfl rfl rfl rfl ⟨rfl, rfl⟩ ?_
    refine G (T := T) 1000 rfl ?_
    exact Nq (j + 1, R ++ [smD (J y)]) ⟨by omega, by dsimp only; rw [hR, List.take_add_one, hy]; simp⟩ (by show _ - (j + 1) < _ - j; omega)
  · have hjl := of_decide_eq_false h; rw [List.length_map] at hjl
    refine G (T := T) 1000 rfl ?_
    rw [List.take_of_length_le (by omega)] at hR; subst hR
    refine MS.fze 0 rfl ?_ (by repeat' (first | exact trivial | apply And.intro | rfl | (simp; omega)))
    exact Fq (T := T) rfl rfl
theorem back_45 {l : List Tr} (J : Tr → Td) {fc : FuncId} {fs cs : List D} (hl : l.length ≤ 100000000000) (hcl : ∀ t ∈ l, XQ Tryz.prog pk fc (cs9 fs cs [xd (trd t)]) (xd (tdD (J t)))) : XQ Tryz.prog pk 45 [xr (aj l), xf fc fs cs] (xr ((l.map J).map tdD)) := by
  refine XQ.en Tryz.func45 Tryz.ntmps45 (fun w0 own H V v0 hf => ?_)
  refine G (T := T) 1000 rfl ?_
  refine (Nr 5 85 3 rfl rfl).c ?_
  refine Lq [1, 8, 9] (fun (q : Nat × List (List D)) r => (5, .a (.c (.l 0 1 3 0 q.1 q.1))) :: (10, xi (q.1 : Nat)) :: r) (fun q => [⟨0, 1, .row q.1 q.2 85 3⟩]) 1 (fun q => q.1 ≤ l.length ∧ q.2 = ((l.take q.1).map J).map tdD) (fun q => l.length - q.1) (0, []) rfl ⟨Nat.zero_le _, rfl⟩ ?_
  rintro ⟨j, R⟩ ⟨hj, hR⟩; dsimp only at hj hR ⊢
  refine G (T := T) 1000 rfl ?_
  refine If rfl (fun h => ?_) (fun h => ?_)
  · have hjl := of_decide_eq_true h; rw [List.length_map] at hjl
    obtain ⟨y, hy⟩ := ae (l := l) (j := j) (by omega)
    refine G (T := T) 12 rfl ?_
    refine Ix (T := T) j (ab hy) rfl rfl rfl rfl ⟨rfl, rfl⟩ rfl rfl ?_
    refine G (T := T) 1000 rfl ?_
    refine Cv (hcl y (List.mem_of_getElem? hy)) rfl rfl rfl rfl rfl ⟨rfl, rfl⟩ ?_
    refine G (T := T) 1000 rfl ?_
    exact Nq (j + 1, R ++ [tdD (J y)]) ⟨by omega, by dsimp only; rw [hR, List.take_add_one, hy]; simp⟩ (by show _ - (j + 1) < _ - j; omega)
  · have hjl := of_decide_eq_false h; rw [List.length_map] at hjl
    refine G (T := T) 1000 rfl ?_
    rw [List.take_of_length_le (by omega)] at hR; subst hR
    refine MS.fze 0 rfl ?_ (by repeat' (first | exact trivial | apply And.intro | rfl | (simp; omega)))
    exact Fq (T := T) rfl rfl
theorem back_48 {l : List Tr} (J : Tr → Gb) {fc : FuncId} {fs cs : List D} (hl : l.length ≤ 100000000000) (hcl : ∀ t ∈ l, XQ Tryz.prog pk fc (cs9 fs cs [xd (trd t)]) (xd (gbD (J t)))) : XQ Tryz.prog pk 48 [xr (aj l), xf fc fs cs] (xr ((l.map J).map gbD)) := by
  refine XQ.en Tryz.func48 Tryz.ntmps48 (fun w0 own H V v0 hf => ?_)
  refine G (T := T) 1000 rfl ?_
  refine (Nr 5 80 8 rfl rfl).c ?_
  refine Lq [1, 8, 9] (fun (q : Nat × List (List D)) r => (5, .a (.c (.l 0 1 8 0 q.1 q.1))) :: (10, xi (q.1 : Nat)) :: r) (fun q => [⟨0, 1, .row q.1 q.2 80 8⟩]) 1 (fun q => q.1 ≤ l.length ∧ q.2 = ((l.take q.1).map J).map gbD) (fun q => l.length - q.1) (0, []) rfl ⟨Nat.zero_le _, rfl⟩ ?_
  rintro ⟨j, R⟩ ⟨hj, hR⟩; dsimp only at hj hR ⊢
  refine G (T := T) 1000 rfl ?_
  refine If rfl (fun h => ?_) (fun h => ?_)
  · have hjl := of_decide_eq_true h; rw [List.length_map] at hjl
    obtain ⟨y, hy⟩ := ae (l := l) (j := j) (by omega)
    refine G (T := T) 12 rfl ?_
    refine Ix (T := T) j (ab hy) rfl rfl rfl rfl ⟨rfl, rfl⟩ rfl rfl ?_
    refine G (T := T) 1000 rfl ?_
    refine Cv (hcl y (List.mem_of_getElem? hy)) rfl rfl rfl rfl rfl ⟨rfl, rfl⟩ ?_
    refine G (T := T) 1000 rfl ?_
    exact Nq (j + 1, R ++ [gbD (J y)]) ⟨by omega, by dsimp only; rw [hR, List.take_add_one, hy]; simp⟩ (by show _ - (j + 1) < _ - j; omega)
  · have hjl := of_decide_eq_false h; rw [List.length_map] at hjl
    refine G (T := T) 1000 rfl ?_
    rw [List.take_of_length_le (by omega)] at hR; subst hR
    refine MS.fze 0 rfl ?_ (by repeat' (first | exact trivial | apply And.intro | rfl | (simp; omega)))
    exact Fq (T := T) rfl rfl
theorem back_50 {l : List Tr} (J : Tr → Fu) {fc : FuncId} {fs cs : List D} (hl : l.length ≤ 100000000000) (hcl : ∀ t ∈ l, XQ Tryz.prog pk fc (cs9 fs cs [xd (trd t)]) (xd (fuD (J t)))) : XQ Tryz.prog pk 50 [xr (aj l), xf fc fs cs] (xr ((l.map J).map fuD)) := by
  refine XQ.en Tryz.func50 Tryz.ntmps50 (fun w0 own H V v0 hf => ?_)
  refine G (T := T) 1000 rfl ?_
  refine (Nr 5 71 10 rfl rfl).c ?_
  refine Lq [1, 8, 9] (fun (q : Nat × List (List D)) r => (5, .a (.c (.l 0 1 10 0 q.1 q.1))) :: (10, xi (q.1 : Nat)) :: r) (fun q => [⟨0, 1, .row q.1 q.2 71 10⟩]) 1 (fun q => q.1 ≤ l.length ∧ q.2 = ((l.take q.1).map J).map fuD) (fun q => l.length - q.1) (0, []) rfl ⟨Nat.zero_le _, rfl⟩ ?_
  rintro ⟨j, R⟩ ⟨hj, hR⟩; dsimp only at hj hR ⊢
  refine G (T := T) 1000 rfl ?_
  refine If rfl (fun h => ?_) (fun h => ?_)
  · have hjl := of_decide_eq_true h; rw [List.length_map] at hjl
    obtain ⟨y, hy⟩ := ae (l := l) (j := j) (by omega)
    refine G (T := T) 12 rfl ?_
    refine Ix (T := T) j (ab hy) rfl rfl rfl rfl ⟨rfl, rfl⟩ rfl rfl ?_
    refine G (T := T) 1000 rfl ?_
    refine Cv (hcl y (List.mem_of_getElem? hy)) rfl rfl rfl rfl rfl ⟨rfl, rfl⟩ ?_
    refine G (T := T) 1000 rfl ?_
    exact Nq (j + 1, R ++ [fuD (J y)]) ⟨by omega, by dsimp only; rw [hR, List.take_add_one, hy]; simp⟩ (by show _ - (j + 1) < _ - j; omega)
  · have hjl := of_decide_eq_false h; rw [List.length_map] at hjl
    refine G (T := T) 1000 rfl ?_
    rw [List.take_of_length_le (by omega)] at hR; subst hR
    refine MS.fze 0 rfl ?_ (by repeat' (first | exact trivial | apply And.intro | rfl | (simp; omega)))
    exact Fq (T := T) rfl rfl
theorem bV {α β : Type} {f : α → Option β} : ∀ {l : List α} {x : α}, x ∈ l → f x = none → cn f l = none
  | u :: us, x, hm, h => by
    rcases List.mem_cons.1 hm with rfl | hm
    · rw [cn, h]; rfl
    · rw [cn, bV hm h]; cases f u <;> rfl
theorem fq_fields (h : FTk pk) {ks : List Tr} (hn : ks.length ≤ 100000000000) (hl : lbsO ks) (hp : cn fPar ks = none → pk.ψ) : XQ Tryz.prog pk 101 [xr (aj ks), xf 102 [] []] (xr ((ks.map ib).map paD)) :=
  nX (l := ks) ib hn (fun t ht => nR h (aC hl ht) (fun e => hp (bV ht e)))
def jTd (t : Tr) : Td := ⟨ah (lb t), decide (ad (lb t) = df), t.kids.map ib⟩
theorem ft_def (h : FTk pk) {t : Tr} (hl : lbO t) (hp : fTd t = none → pk.ψ) : XQ Tryz.prog pk 47 [xd (trd t)] (xd (tdD (jTd t))) := by
  obtain ⟨L, ks⟩ := t
  rw [show tdD (jTd (.node L ks)) = [.c (.string (ah L)), .c (.bool (decide (ad L = df))), .s ((ks.map ib).map paD)] from rfl]
  have hs := bL h (t := .node L ks) hl.1
  rw [al] at hs ⊢
  refine XQ.en Tryz.func47 Tryz.ntmps47 (fun w0 own H V v0 hf => ?_)
  refine G (T := T) 100001 rfl ?_
  refine (FzTo.bz 0 rfl).c ?_
  refine G (T := T) 1000 rfl ?_
  refine Cq hs rfl rfl rfl rfl rfl ⟨rfl, rfl⟩ ?_
  refine G (T := T) 1000 rfl ?_
  refine Cq (fq_fields h hl.2.1 hl.2.2 (fun e => hp (by show (cn fPar ks).map _ = none; rw [e]; rfl))) rfl rfl rfl rfl rfl ⟨rfl, rfl⟩ ?_
  refine G (T := T) 1000 rfl ?_
  exact Fq (T := T) rfl rfl
end
section
open Go Go.RowKit Go.Proofs K
variable {pk : Pk}
theorem equalFunc {ks js : List Tr} (hcl : ∀ y ∈ ks, ∀ z, XQ Tryz.prog pk 53 (cs9 [] [] [xd (trd y), xd (trd z)]) (xb (y.eqb z))) : XQ Tryz.prog pk 108 [xr (aj ks), xr (aj js), xf 53 [] []] (xb (Tr.eqbs ks js)) := by
  refine XQ.en Tryz.func108 Tryz.ntmps108 (fun w0 own H V v0 hf => ?_)
  refine Ln 0 rfl (fun hl => ?_); rw [List.length_map] at hl
  refine G (T := T) 1000 rfl ?_
  refine If rfl (fun h => ?_) (fun h => ?_)
  · have hne := of_decide_eq_true h; rw [List.length_map, List.length_map] at hne
    refine G (T := T) 1000 rfl ?_
    rw [j7 (by omega)]
    exact Fe (T := T) rfl rfl
  have hlen := of_decide_eq_false h; rw [List.length_map, List.length_map] at hlen
  refine G (T := T) 1000 rfl ?_
  refine Lq [1, 2, 15, 16] (fun q r => (6, xb false) :: (17, xi (q : Nat)) :: r) (fun q => []) 0 (fun q => q ≤ ks.length ∧ Tr.eqbs ks js = Tr.eqbs (ks.drop q) (js.drop q)) (fun q => ks.length - q) 0 rfl ⟨Nat.zero_le _, rfl⟩ ?_
  rintro j ⟨hj, hI⟩
  refine G (T := T) 1000 rfl ?_
  refine If rfl (fun h => ?_) (fun h => ?_)
  · have hjl := of_decide_eq_true h; rw [List.length_map] at hjl
    obtain ⟨y, hy⟩ := ae (l := ks) (j := j) (by omega)
    obtain ⟨z, hz⟩ := ae (l := js) (j := j) (by omega)
    rw [iY hy, iY hz, Tr.eqbs] at hI
    refine G (T := T) 1000 rfl ?_
    refine Ix (T := T) j (ab hy) rfl rfl rfl rfl ⟨rfl, rfl⟩ rfl rfl ?_
    refine G (T := T) 1000 rfl ?_
    refine Ix (T := T) j (ab hz) rfl rfl rfl rfl ⟨rfl, rfl⟩ rfl rfl ?_
    refine G (T := T) 1000 rfl ?_
    refine Cv (hcl y (List.mem_of_getElem? hy) z) rfl rfl rfl rfl rfl ⟨rfl, rfl⟩ ?_
    refine G (T := T) 1000 rfl ?_
    refine If rfl (fun h => ?_) (fun h => ?_)
    · rw [Bool.not_eq_true'] at h
      refine G (T := T) 1000 rfl ?_
      rw [hI, h]
      exact Fe (T := T) rfl rfl
    · rw [Bool.not_eq_false'] at h
      refine G (T := T) 1000 rfl ?_
      exact Nq (j + 1) ⟨by omega, by rw [hI, h, Bool.true_and]⟩ (by show _ - (j + 1) < _ - j; omega)
  · have hjl := of_decide_eq_false h; rw [List.length_map] at hjl
    refine G (T := T) 1000 rfl ?_
    rw [hI, List.drop_of_length_le (by omega), List.drop_of_length_le (by omega)]
    exact Fe (T := T) rfl rfl
theorem diff_Same (m : Nat) : ∀ (t u : Tr), t.size ≤ m → XQ Tryz.prog pk 53 [xd (trd t), xd (trd u)] (xb (t.eqb u)) := by
  induction m with
  | zero => intro t u h; have := t.size_pos; omega
  | succ m ih =>
  intro t u hm
  obtain ⟨l, ks⟩ := t
  obtain ⟨l', js⟩ := u
  rw [al, al, Tr.eqb, gO]
  refine XQ.en Tryz.func53 Tryz.ntmps53 (fun w0 own H V v0 hf => ?_)
  refine Gs (T := T) 100001 rfl ?_
  refine (FzTo.bz 0 rfl).c ?_
  refine (FzTo.bz 1 rfl).c ?_
  refine Gs (T := T) 1000 rfl ?_
  refine Cs (fun _ => equalFunc (ks := ks) (js := js) (fun y hy z => ih y z (Tr.size_kid hy hm))) rfl rfl rfl rfl rfl rfl rfl rfl ?_
  refine Gs (T := T) 1000 rfl ?_
  exact Fe (T := T) rfl rfl
end
section
open Go Go.RowKit Go.Proofs K
variable {pk : Pk}
theorem nZ {k : Int} : XQ Tryz.prog pk 174 [xi k] (xb (ce k)) := by
  refine XQ.en Tryz.func174 Tryz.ntmps174 (fun w0 own H V v0 hf => ?_)
  refine Gs (T := T) 1000 rfl ?_
  refine Fe (T := T) rfl (congrArg xb ?_)
  unfold ce
  by_cases h1 : k = 1 <;> by_cases h2 : k = 9 <;> by_cases h3 : k = 10 <;> by_cases h4 : k = 11 <;> simp [h1, h2, h3, h4]
end
open Go.ChangeMaps Go.MapKept
open Go.WideMaps
def Iz (b : Nat) (o : Obj) : Nat → Obj → Prop := fun b' o' => b' = b ∧ o' = o
def entries : Obj → List MapEntry
  | .map es _ => es.toList
  | _ => []
def It (b : Nat) (o : Obj) (done : List MapEntry) (io : Obj) : Prop :=
  ∃ es clock seen, o = .map es clock ∧ io = .mapIter (some b) clock seen clock ∧ seen.toList = done.map (·.born) ∧ done.Nodup ∧ ∀ x ∈ done, x ∈ entries o
theorem MapR.entries {P : Program} {k e : TypeId} {o : Obj} {n : Nat} {f : Value → Option Value} (h : MapR P k e o n f) : (X.entries o).length = n ∧ ((X.entries o).map (·.key)).Nodup ∧ (∀ x ∈ X.entries o, f x.key = some x.val) ∧ ∀ key kl, keyOf P k key = some kl → f key ≠ none → ∃ x ∈ X.entries o, x.key = key := by
  obtain ⟨es, clock, rfl, F, rfl, hf, hg⟩ := h
  exact ⟨by simp [X.entries], F.stamped.2.2, hf, hg⟩
theorem nd_len {α : Type} : ∀ {d l : List α}, d.Nodup → (∀ x ∈ d, x ∈ l) → d.length ≤ l.length
  | [], _, _, _ => Nat.zero_le _
  | x :: d, l, hn, hs => by
    obtain ⟨a, b, rfl⟩ := List.append_of_mem (hs x (List.mem_cons_self ..))
    obtain ⟨h1, h2⟩ := List.nodup_cons.1 hn
    have := nd_len (l := a ++ b) h2 (fun y hy => by
      have := hs y (List.mem_cons_of_mem _ hy)
      simp only [List.mem_append, List.mem_cons] at this ⊢
      rcases this with h | rfl | h
      · exact .inl h
      · exact absurd hy h1
      · exact .inr h)
    simp only [List.length_cons, List.length_append] at this ⊢; omega
theorem nd_snoc {α : Type} {d l : List α} {z : α} (hn : d.Nodup) (hs : ∀ x ∈ d, x ∈ l) (hz : z ∈ l) (hd : z ∉ d) : (d ++ [z]).Nodup ∧ (∀ x ∈ d ++ [z], x ∈ l) ∧ l.length - (d ++ [z]).length < l.length - d.length := by
  have h1 : (d ++ [z]).Nodup := by
    rw [List.nodup_append]
    exact ⟨hn, by simp, by intro x h1 y h2 h3; simp at h2; subst h2; subst h3; exact hd h1⟩
  have h2 : ∀ x ∈ d ++ [z], x ∈ l := fun x hx => by
    rcases List.mem_append.1 hx with h | h
    · exact hs x h
    · rw [List.mem_singleton.1 h]; exact hz
  refine ⟨h1, h2, ?_⟩
  have := nd_len h1 h2
  simp only [List.length_append, List.length_cons, List.length_nil] at this ⊢; omega
section
variable {P : Program} {x : Cx P} {T : Tb P} {k : List Fr} {E Er : XE} {hp : XH} {nx i : Nat} {ops : List Oper} {dm : Option (List Rc)} {l : List (Nat × Oper)} {d : Tmp} {ty : TypeId} {pos : String} {af : Array Edge} {g : Option (Nat × Bool)} {pk : Pk}
theorem SR.told {B : Bs} {Q : Nat → Obj → Prop} {j : Nat} {V : Vn} {H : Hp} {sg : Seg} {env : Env} (hs : SR B ⟨E, hp, nx⟩ V H sg env) (h : xlk E j = some (.a (.c (.d (.mp Q))))) : ∃ b o, Q b o ∧ SR B ⟨(j, .a (.c (.d (.mp (Iz b o))))) :: E, hp, nx⟩ V H sg env := by
  obtain ⟨v, h1, h2⟩ := hs.lk _ _ h
  simp only [XV.rel, XA.rel, XC.rel, rd] at h2
  obtain ⟨b, o, rfl, h3, h4⟩ := h2
  refine ⟨b, o, h4, fun i u hu => ?_, hs.hr, hs.top, hs.nd, hs.fresh, hs.le, hs.vle, hs.keep, hs.sub, hs.nxle⟩
  simp only [xlk] at hu
  cases hb : Nat.beq j i with
  | true =>
    rw [hb] at hu; cases hu
    rw [← Nat.eq_of_beq_eq_true hb]
    exact ⟨_, h1, by simp only [XV.rel, XA.rel, XC.rel, rd]; exact ⟨b, o, rfl, h3, rfl, rfl⟩⟩
  | false => rw [hb] at hu; exact hs.lk i u hu
theorem Ter {Q : Nat → Obj → Prop} (j : Nat) (h : xlk E j = some (.a (.c (.d (.mp Q))))) (hk : ∀ b o, Q b o → (MS.r ops none l k ⟨(j, .a (.c (.d (.mp (Iz b o))))) :: E, hp, nx⟩).ok x) : (MS.r ops none l k ⟨E, hp, nx⟩).ok x := fun B Q hB hp hK V H sg env hs =>
  let ⟨b, o, h4, h5⟩ := SR.told hs h
  hk b o h4 B Q hB hp hK V H sg env h5
theorem LS.rg {ops : Array Oper} {d : Option Tmp} {t kt e : TypeId} {m : Operand} {b n : Nat} {o : Obj} {f : Value → Option Value} (hm : xev Er m = some (.a (.c (.d (.mp (Iz b o)))))) (ht : T.bt.get t = some (.m kt e)) (hM : MapR P kt e o n f) :
    LS P pk ops { dst := d, op := .range t m, type := ty, pos := pos, after := af, guard := none } Er [] nx (nx + 1) (fun x fp' => x = .a (.c (.p nx 0 0)) ∧ fp' = [⟨nx, 0, .mp (It b o [])⟩]) := by
  intro w0 N Q' rest env own H V sg hl hV htp hf hd _ hh
  have hV0 := HR0 hV
  subst hV0
  obtain ⟨w1, h1, h2⟩ := hl.lks _ _ hm
  simp only [XV.rel, XA.rel, XC.rel, rd] at h2
  obtain ⟨b', o', rfl, h3, rfl, rfl⟩ := h2
  obtain ⟨es, clock, rfl, F, rfl, hf', hg'⟩ := hM
  have htu := kJ (BT.all_get T.ok ht)
  refine TL.valE (φ := fun v own' H' => ∃ r, v = .pointer (some ⟨r, 0, none⟩) ∧ own' = [(r, .mapIter (some b') clock #[] clock)] :: [] :: own ∧ H' = H) rfl hd
    (fun a w ha hw => ⟨_, _, _, w.alloc (.mapIter (some b') clock #[] clock), ?_, ⟨w.heap.size, rfl, rfl, rfl⟩, hw.new _⟩) ?_
  · have hb' := MapKept.run_getObj_map (P := P) (hw.imm b' _ h3)
    have : (Instr.range t (.map (some b'))).run P w = .ok (.pointer (some ⟨w.heap.size, 0, none⟩)) (w.alloc (.mapIter (some b') clock #[] clock)) := by
      simp [Instr.range, run_underlying htu, hb', Result.andThen]
    simp [execOp, ha.ev h1, this]
  · rintro v own' H' ⟨r, rfl, rfl, rfl⟩
    obtain ⟨k1, k2, k3⟩ := bS (V := V) (H := H') (g := r) (ex := 0) (o := .mapIter (some b') clock #[] clock) (xo := .mp (It b' (.map es clock) [])) hf ⟨es, clock, #[], rfl, rfl, rfl, List.nodup_nil, by simp⟩
    have h9 := hh (.pointer (some ⟨r, 0, none⟩)) (.a (.c (.p nx 0 0))) _ _ H' _ ⟨rfl, rfl⟩ (by simp only [XV.rel, XA.rel, XC.rel]; exact ⟨r, 0, Vn.new_at .., rfl⟩) k1 k2 k3 (Le.refl _)
    exact TL.flat (own' := [(r, .mapIter (some b') clock #[] clock)] :: own) (by simp) h9
theorem Rg {t kt e : TypeId} {m : Operand} {b n : Nat} {o : Obj} {f : Value → Option Value} (hM : MapR P kt e o n f) (hEr : vis dm ops { dst := some d, op := .range t m, type := ty, pos := pos, after := af, guard := g } E = Er) (hm : xev Er m = some (.a (.c (.d (.mp (Iz b o)))))) (ht : T.bt.get t = some (.m kt e)) (hb : an ops Er g = some true ∧ okD x.N (some d) = true)
    (hk : (MS.r ops (push dm ⟨i, [nx], true, false⟩) l k ⟨(d, .a (.c (.p nx 0 0))) :: E, ⟨nx, 0, .mp (It b o [])⟩ :: hp, nx + 1⟩).ok x) (hdk : DkM dm ops ⟨i, [nx], true, false⟩ := by first | exact trivial | (refine DK.mk ?_; decide +kernel)) :
    (MS.r ops dm ((i, { dst := some d, op := .range t m, type := ty, pos := pos, after := af, guard := g }) :: l) k ⟨E, hp, nx⟩).ok x := by
  subst hEr
  have e0 : aa ([] : XH) ++ List.range' nx (nx + 1 - nx) = [nx] := by simp [aa]
  refine MS.op (fp := []) (rest := hp) true false hb.2 (.refl _) (Nat.le_succ _) (LS.yes (o := { dst := some d, op := .range t m, type := ty, pos := pos, after := af, guard := g }) hb.1 (LS.rg (T := T) hm ht hM)) (by rw [e0]; exact hdk) (fun _ => ⟨_, _, ⟨rfl, rfl⟩, fun _ _ h => h⟩) (fun h => by cases h) ?_
  rintro q fp' ⟨rfl, rfl⟩
  refine ⟨fun b' hb' => .inr ?_, by simp [aa], fun h => (by cases h), _, .refl _, ?_⟩
  · obtain rfl := List.mem_singleton.1 hb'
    exact ⟨Nat.le_refl _, Nat.lt_succ_self _⟩
  · rw [e0]; exact hk
theorem LS.ny {ops : Array Oper} {d : Option Tmp} {m : Operand} {b n gp t0 : Nat} {kt e : TypeId} {o : Obj} {f : Value → Option Value} {done : List MapEntry} {mj : Operand} (kx vx : Value → XA) (hM : MapR P kt e o n f) (hy : xev Er m = some (.a (.c (.p gp t0 0)))) (hm : xev Er mj = some (.a (.c (.d (.mp (Iz b o))))))
    (hkx : ∀ z ∈ entries o, ∀ V H, (kx z.key).rel V H z.key) (hvx : ∀ z ∈ entries o, ∀ V H, (vx z.val).rel V H z.val) :
    LS P pk ops { dst := d, op := .next m false, type := ty, pos := pos, after := af, guard := none } Er [⟨gp, t0, .mp (It b o done)⟩] nx nx (fun x fp' => ((∀ z ∈ entries o, z ∈ done) ∧ x = .t [.c (.d (.c (.bool false)))] ∧ fp' = [⟨gp, t0, .mp (It b o done)⟩]) ∨ ∃ z, z ∈ entries o ∧ z ∉ done ∧ x = .t [.c (.d (.c (.bool true))), kx z.key, vx z.val] ∧ fp' = [⟨gp, t0, .mp (It b o (done ++ [z]))⟩]) := by
  intro w0 N Q' rest env own H V sg hl hV htp hf hd _ hh
  obtain ⟨w1, h1, h2⟩ := hl.lks _ _ hy
  obtain ⟨w2, _, h4⟩ := hl.lks _ _ hm
  simp only [XV.rel, XA.rel, XC.rel, rd] at h2 h4
  obtain ⟨r, e0, hr0, rfl⟩ := h2
  obtain ⟨b', o', rfl, hb, rfl, rfl⟩ := h4
  obtain ⟨s1, s2, rfl, h7, rfl⟩ := hV
  obtain ⟨r', ob, ex, rfl, h8, h9⟩ := h7.resolve_right (by rintro ⟨_, _, _, _, h8, _⟩; cases h8)
  simp only at h8
  rw [h8] at hr0; cases hr0
  obtain ⟨es, clock, seen, rfl, rfl, hseen, hnd, hsub⟩ := (show It b' o' done ob from h9)
  obtain ⟨es', clock', he, F, _, _, _⟩ := hM
  cases he
  intro a w ha hw
  have hr : w.heap[r]? = some (.mapIter (some b') clock seen clock) := hw.own_blk (i := 0) (j := 0) rfl rfl
  have hmem : ∀ e ∈ es.toList, (seen.contains e.born = true ↔ e ∈ done) := by
    intro e hes
    constructor
    · intro h
      have h2 : e.born ∈ seen.toList := by simpa using h
      rw [hseen] at h2
      obtain ⟨x', hx', hb'⟩ := List.mem_map.1 h2
      have hx2 := hsub x' hx'
      have hn := F.stamped.2.1
      have : x' = e := by
        obtain ⟨p, hp⟩ := List.getElem?_of_mem hx2
        obtain ⟨q, hq⟩ := List.getElem?_of_mem hes
        have hpl := (List.getElem?_eq_some_iff.1 hp).1
        have e1 : (es.toList.map (·.born))[p]? = some x'.born := by rw [List.getElem?_map]; simp only [entries] at hp; rw [hp]; rfl
        have e2 : (es.toList.map (·.born))[q]? = some e.born := by rw [List.getElem?_map, hq]; rfl
        rw [hb', ← e2] at e1
        have := (List.getElem?_inj (by simpa [entries] using hpl) hn).1 e1
        subst this
        simp only [entries] at hp
        rw [hp] at hq
        exact Option.some.inj hq
      exact this ▸ hx'
    · intro h
      have : e.born ∈ seen.toList := by rw [hseen]; exact List.mem_map.2 ⟨e, h, rfl⟩
      simpa using this
  refine wpList_plain rfl fun K hK => ?_
  unfold Oper.wp
  rcases run_next_at (P := P) w ty r b' clock clock seen es clock hr (hw.imm b' _ hb) F.stamped.1 (Nat.le_refl _) with ⟨h0, hrun⟩ | ⟨e, he, w1, hw1, hrun⟩
  · have hop : (execOp a.eval { dst := d, op := .next m false, type := ty, pos := pos, after := af, guard := none }).run P w = .ok (.value (.tuple #[.bool false])) w := by simp [execOp, ha.ev h1, hrun]
    rw [hop]
    refine hK _ _ (hh (.tuple #[.bool false]) (.t [.c (.d (.c (.bool false)))]) _ V H [(r, .mapIter (some b') clock seen clock)] (.inl ⟨fun e hes => ?_, rfl, rfl⟩) ⟨_, rfl, by simp only [XA.rels, XA.rel, XC.rel, rd, and_true]; exact ⟨trivial, rfl⟩⟩ ⟨_, [], rfl, .inl ⟨r, _, _, rfl, h8, h9⟩, rfl⟩ htp (VX.refl _ _ _) (Le.refl _) _ _ (ha.put hd _) hw)
    rw [← hmem e hes]
    cases hc : seen.contains e.born with
    | true => rfl
    | false =>
      have : e ∈ leftOf es seen := by
        unfold leftOf
        rw [Array.mem_filter]
        exact ⟨by simpa [entries] using hes, by simp only [hc]; rfl⟩
      rw [Array.eq_empty_of_size_eq_zero h0] at this
      simp at this
  · have hop : (execOp a.eval { dst := d, op := .next m false, type := ty, pos := pos, after := af, guard := none }).run P w = .ok (.value (.tuple #[.bool true, e.key, e.val])) (setBlock w1 r (.mapIter (some b') clock (seen.push e.born) clock)) := by simp [execOp, ha.ev h1, hrun]
    rw [hop]
    have he2 : e ∈ es.toList ∧ seen.contains e.born = false := by
      have h1 : e ∈ es ∧ ¬ e.born ∈ seen := by simpa [leftOf] using he
      exact ⟨by simpa using h1.1, by simpa using h1.2⟩
    have hno : e ∉ done := fun h => by rw [← hmem e he2.1, he2.2] at h; cases h
    have hst : St w0 H ([(r, .mapIter (some b') clock seen clock)] :: own) w1 := by
      rcases hw1 with rfl | rfl
      · exact hw
      · exact hw.drew
    have hit : It b' (.map es clock) (done ++ [e]) (.mapIter (some b') clock (seen.push e.born) clock) := ⟨es, clock, seen.push e.born, rfl, rfl, by simp [hseen], by
      rw [List.nodup_append]
      exact ⟨hnd, by simp, by intro x' h1 y' h2 h3; simp at h2; subst h2; subst h3; exact hno h1⟩, by
      intro x' h1
      rcases List.mem_append.1 h1 with h1 | h1
      · exact hsub x' h1
      · simp at h1; subst h1; exact he2.1⟩
    exact hK _ _ (hh (.tuple #[.bool true, e.key, e.val]) (.t [.c (.d (.c (.bool true))), kx e.key, vx e.val]) _ V H [(r, .mapIter (some b') clock (seen.push e.born) clock)] (.inr ⟨e, he2.1, hno, rfl, rfl⟩) ⟨_, rfl, by simp only [XA.rels, and_true]; exact ⟨by simp only [XA.rel, XC.rel, rd]; exact ⟨trivial, rfl⟩, hkx e he2.1 V H, hvx e he2.1 V H⟩⟩ ⟨_, [], rfl, .inl ⟨r, _, _, rfl, h8, hit⟩, rfl⟩ (fun q hq t' ht' => by rw [List.mem_singleton] at hq; subst hq; exact htp _ (List.mem_singleton.2 rfl) t' ht') (VX.refl _ _ _) (Le.refl _) _ _ (ha.put hd _) (by simpa using hst.setObj (i := 0) (j := 0) rfl rfl))
theorem Ny {m : Operand} {b n gp t0 : Nat} {kt e : TypeId} {o : Obj} {f : Value → Option Value} {done : List MapEntry} {hp' : XO → XH} (mj : Operand) (kx vx : Value → XA) (hM : MapR P kt e o n f) (hkx : ∀ z ∈ entries o, ∀ V H, (kx z.key).rel V H z.key) (hvx : ∀ z ∈ entries o, ∀ V H, (vx z.val).rel V H z.val)
    (hEr : vis dm ops { dst := some d, op := .next m false, type := ty, pos := pos, after := af, guard := g } E = Er) (hy : xev Er m = some (.a (.c (.p gp t0 0)))) (hm : xev Er mj = some (.a (.c (.d (.mp (Iz b o)))))) (hg : au hp gp = some ⟨gp, t0, .mp (It b o done)⟩) (hset' : ∀ o', bl hp gp t0 o' = some (hp' o')) (hb : an ops Er g = some true ∧ okD x.N (some d) = true)
    (hover : (∀ z ∈ entries o, z ∈ done) → (MS.r ops (push dm ⟨i, [gp], true, true⟩) l k ⟨(d, .t [.c (.d (.c (.bool false)))]) :: E, hp' (.mp (It b o done)), nx⟩).ok x)
    (hnext : ∀ z, z ∈ entries o → z ∉ done → (MS.r ops (push dm ⟨i, [gp], true, true⟩) l k ⟨(d, .t [.c (.d (.c (.bool true))), kx z.key, vx z.val]) :: E, hp' (.mp (It b o (done ++ [z]))), nx⟩).ok x)
    (hdk : DkM dm ops ⟨i, [gp], true, true⟩ := by first | exact trivial | (refine DK.mk ?_; decide +kernel)) (hrl : RlM dm ops i l := by first | exact trivial | (refine RL.mk ?_; decide +kernel)) :
    (MS.r ops dm ((i, { dst := some d, op := .next m false, type := ty, pos := pos, after := af, guard := g }) :: l) k ⟨E, hp, nx⟩).ok x := by
  subst hEr
  obtain ⟨p1, p2, p3⟩ := aG hg
  have e0 : aa [(⟨gp, t0, .mp (It b o done)⟩ : XB)] ++ List.range' nx (nx - nx) = [gp] := by simp [aa]
  refine MS.op (fp := [⟨gp, t0, .mp (It b o done)⟩]) (rest := bX hp gp) true true hb.2 p1 (Nat.le_refl _) (LS.yes (o := { dst := some d, op := .next m false, type := ty, pos := pos, after := af, guard := g }) hb.1 (LS.ny (n := n) (kt := kt) (e := e) (f := f) kx vx hM hy hm hkx hvx)) (by rw [e0]; exact hdk) (fun h => by cases h) (fun _ => hrl) ?_
  rintro q fp' (⟨h1, rfl, rfl⟩ | ⟨z, h1, h2, rfl, rfl⟩)
  · refine ⟨by simp [aa], by simp [aa], fun h => (by cases h), _, p3 _ _ _ (hset' _), ?_⟩
    rw [e0]; exact hover h1
  · refine ⟨by simp [aa], by simp [aa], fun h => (by cases h), _, p3 _ _ _ (hset' _), ?_⟩
    rw [e0]; exact hnext z h1 h2
theorem LS.ey {ops : Array Oper} {d : Option Tmp} {m mj : Operand} {b n gp t0 : Nat} {kt e : TypeId} {o : Obj} {f : Value → Option Value} {done : List MapEntry} {z : MapEntry} (kx vx : XA) (hM : MapR P kt e o n f) (hy : xev Er m = some (.a (.c (.p gp t0 0)))) (hm : xev Er mj = some (.a (.c (.d (.mp (Iz b o))))))
    (hkx : ∀ V H, kx.rel V H z.key) (hvx : ∀ V H, vx.rel V H z.val) :
    LS P pk ops { dst := d, op := .entry m, type := ty, pos := pos, after := af, guard := none } Er [⟨gp, t0, .mp (It b o (done ++ [z]))⟩] nx nx (fun x fp' => x = .t [kx, vx] ∧ fp' = [⟨gp, t0, .mp (It b o (done ++ [z]))⟩]) := by
  intro w0 N Q' rest env own H V sg hl hV htp hf hd _ hh
  obtain ⟨w1, h1, h2⟩ := hl.lks _ _ hy
  obtain ⟨w2, _, h4⟩ := hl.lks _ _ hm
  simp only [XV.rel, XA.rel, XC.rel, rd] at h2 h4
  obtain ⟨r, e0, hr0, rfl⟩ := h2
  obtain ⟨b', o', rfl, hb, rfl, rfl⟩ := h4
  obtain ⟨s1, s2, rfl, h7, rfl⟩ := hV
  obtain ⟨r', ob, ex, rfl, h8, h9⟩ := h7.resolve_right (by rintro ⟨_, _, _, _, h8, _⟩; cases h8)
  simp only at h8
  rw [h8] at hr0; cases hr0
  obtain ⟨es, clock, seen, rfl, rfl, hseen, hnd, hsub⟩ := (show It b' o' (done ++ [z]) ob from h9)
  obtain ⟨es', clock', he, F, _, _, _⟩ := hM
  cases he
  intro a w ha hw
  have hs : seen = ((done.map (·.born)).toArray).push z.born := by
    have : seen.toList = (((done.map (·.born)).toArray).push z.born).toList := by simp [hseen]
    exact Array.toList_inj.1 this
  have hr : w.heap[r]? = some (.mapIter (some b') clock (((done.map (·.born)).toArray).push z.born) clock) := by rw [← hs]; exact hw.own_blk (i := 0) (j := 0) rfl rfl
  have hrun := run_entry_at (P := P) w r b' clock _ es clock z hr (hw.imm b' _ hb) (hsub z (by simp)) F.stamped.2.1
  refine wpList_plain rfl fun K hK => ?_
  unfold Oper.wp
  have hop : (execOp a.eval { dst := d, op := .entry m, type := ty, pos := pos, after := af, guard := none }).run P w = .ok (.value (.tuple #[z.key, z.val])) w := by simp [execOp, ha.ev h1, hrun]
  rw [hop]
  exact hK _ _ (hh (.tuple #[z.key, z.val]) (.t [kx, vx]) _ V H [(r, .mapIter (some b') clock seen clock)] ⟨rfl, rfl⟩ ⟨_, rfl, by simp only [XA.rels, and_true]; exact ⟨hkx V H, hvx V H⟩⟩ ⟨_, [], rfl, .inl ⟨r, _, _, rfl, h8, h9⟩, rfl⟩ htp (VX.refl _ _ _) (Le.refl _) _ _ (ha.put hd _) hw)
theorem Ey {m : Operand} {b n gp t0 : Nat} {kt e : TypeId} {o : Obj} {f : Value → Option Value} {done : List MapEntry} {z : MapEntry} (mj : Operand) (kx vx : XA) (hM : MapR P kt e o n f) (hkx : ∀ V H, kx.rel V H z.key) (hvx : ∀ V H, vx.rel V H z.val)
    (hEr : vis dm ops { dst := some d, op := .entry m, type := ty, pos := pos, after := af, guard := g } E = Er) (hy : xev Er m = some (.a (.c (.p gp t0 0)))) (hm : xev Er mj = some (.a (.c (.d (.mp (Iz b o)))))) (hg : au hp gp = some ⟨gp, t0, .mp (It b o (done ++ [z]))⟩) (hb : an ops Er g = some true ∧ okD x.N (some d) = true)
    (hk : (MS.r ops (push dm ⟨i, [gp], false, false⟩) l k ⟨(d, .t [kx, vx]) :: E, hp, nx⟩).ok x) (hdk : DkM dm ops ⟨i, [gp], false, false⟩ := by first | exact trivial | (refine DK.mk ?_; decide +kernel)) :
    (MS.r ops dm ((i, { dst := some d, op := .entry m, type := ty, pos := pos, after := af, guard := g }) :: l) k ⟨E, hp, nx⟩).ok x := MS.rd1 hg hEr hb (LS.ey (n := n) (kt := kt) (e := e) (f := f) kx vx hM hy hm hkx hvx) hdk hk
end
section
open Go Go.RowKit Go.Proofs K
variable {pk : Pk}
mutual
def jEx : Tr → Ex
  | .node L ks => match aB gZ (ad L) with
    | none => .mk 0 eS 0 []
    | some k => if ce k = true then .mk k eS (IntKind.u16.wrap (eZ (ah L))) (gD ks) else .mk k (ah L) 0 (gD ks)
def gD : List Tr → List Ex
  | [] => []
  | t :: r => jEx t :: gD r
end
theorem eH : ∀ l : List Tr, gD l = l.map jEx
  | [] => rfl
  | t :: r => by rw [gD, eH r]; rfl
theorem jEx_eq {L : ByteArray} {ks : List Tr} {k : Int} (h : aB gZ (ad L) = some k) : jEx (.node L ks) = if ce k = true then .mk k eS (IntKind.u16.wrap (eZ (ah L))) (ks.map jEx) else .mk k (ah L) 0 (ks.map jEx) := by
  rw [jEx, h, eH]
theorem kn : ∀ l : List Tr, iL l = cn fEx l
  | [] => rfl
  | t :: r => by rw [iL, kn r]; rfl
theorem n6 {key v : Value} : ∀ {l : List (Int × Value)}, av l key = some v → ∃ p ∈ l, key = .int .i64 p.1 ∧ v = p.2
  | (n, u) :: r, h => by
    rw [av] at h
    split at h
    · rename_i e; cases h; exact ⟨_, List.mem_cons_self .., e, rfl⟩
    · obtain ⟨p, h1, h2⟩ := n6 h
      exact ⟨p, List.mem_cons_of_mem _ h1, h2⟩
theorem ie {key v : Value} (h : av aK key = some v) : ∃ k w, key = .int .i64 k ∧ v = .string w ∧ (1 ≤ k ∧ k ≤ 15) ∧ aB gZ w = some k := by
  obtain ⟨p, h1, h2, h3⟩ := n6 h
  simp only [aK, List.mem_cons, List.not_mem_nil, or_false] at h1
  rcases h1 with rfl | rfl | rfl | rfl | rfl | rfl | rfl | rfl | rfl | rfl | rfl | rfl | rfl | rfl | rfl
  all_goals exact ⟨_, _, h2, h3, by omega, by decide⟩
theorem wordT_get {k : Int} {w : ByteArray} (h : aB gZ w = some k) : av aK (.int .i64 k) = some (.string w) ∧ I64 k := by
  have hm := bU h
  simp only [gZ, List.mem_cons, List.not_mem_nil, or_false, Prod.mk.injEq] at hm
  rcases hm with ⟨rfl, rfl⟩ | ⟨rfl, rfl⟩ | ⟨rfl, rfl⟩ | ⟨rfl, rfl⟩ | ⟨rfl, rfl⟩ | ⟨rfl, rfl⟩ | ⟨rfl, rfl⟩ | ⟨rfl, rfl⟩ | ⟨rfl, rfl⟩ | ⟨rfl, rfl⟩ | ⟨rfl, rfl⟩ | ⟨rfl, rfl⟩ | ⟨rfl, rfl⟩ | ⟨rfl, rfl⟩ | ⟨rfl, rfl⟩
  all_goals exact ⟨by simp [aK, av], by constructor <;> omega⟩
abbrev cx (v : Value) : XA := .c (.d (.c v))
theorem mV {v u : Value} (h : u = v) (h1 : v.oneCell' = true) (V : Vn) (H : Hp) : (cx v).rel V H u := by
  subst h; simp only [XA.rel, XC.rel, rd]; exact ⟨trivial, h1⟩
theorem ft_expr (h : FTk pk) : ∀ (n : Nat) (t : Tr), t.size ≤ n → lbO t → (fEx t = none → pk.ψ) → XQ Tryz.prog pk 148 [xd (trd t)] (xd (exD (jEx t))) := by
  intro n
  induction n with
  | zero => intro t hn; cases t; simp only [Tr.size] at hn; omega
  | succ n ih =>
    rintro ⟨L, ks⟩ hn hl hp
    have hps : (ah L).size ≤ 1000000000 := gx hl.1
    have hs := bL h (t := .node L ks) hl.1
    rw [fEx] at hp
    rw [al, show lb (.node L ks) = L from rfl] at hs
    rw [al]
    generalize hR : jEx (.node L ks) = R
    refine XQ.en Tryz.func148 Tryz.ntmps148 (fun w0 own H V v0 hf => ?_)
    refine G (T := T) 100001 rfl ?_
    refine (FzTo.bz 0 rfl).c ?_
    refine G (T := T) 1000 rfl ?_
    refine Cq hs rfl rfl rfl rfl rfl ⟨rfl, rfl⟩ ?_
    refine G (T := T) 1000 rfl ?_
    refine Cq j5 rfl rfl rfl rfl rfl ⟨rfl, rfl⟩ ?_
    refine Ter 13 rfl (fun b o hM => ?_)
    refine Rg (T := T) hM rfl rfl rfl ⟨rfl, rfl⟩ ?_
    obtain ⟨_, _, hen, bm⟩ := MapR.entries hM
    have hkx : ∀ z ∈ entries o, ∀ V H, (cx z.key).rel V H z.key := fun z hz V H => by
      obtain ⟨k, w, e1, e2, _⟩ := ie (hen z hz)
      exact mV rfl (by rw [e1]; rfl) V H
    have hvx : ∀ z ∈ entries o, ∀ V H, (cx z.val).rel V H z.val := fun z hz V H => by
      obtain ⟨k, w, e1, e2, _⟩ := ie (hen z hz)
      exact mV rfl (by rw [e2]; rfl) V H
    refine G (T := T) 1000 rfl ?_
    refine Lq [1, 2, 3, 4, 13, 14] (fun (q : List MapEntry) r => r) (fun q => [⟨2, 0, .mp (It b o q)⟩, ⟨1, 0, .cells [.d (.c (.int .i64 0)), .d (.c (.string eS)), .d (.c (.int .u16 0)), .z] 87⟩]) 3 (fun q => q.Nodup ∧ (∀ z ∈ q, z ∈ entries o) ∧ ∀ z ∈ q, z.val ≠ .string (ad L)) (fun q => (entries o).length - q.length) [] rfl ⟨List.nodup_nil, by simp, by simp⟩ ?_
    rintro q ⟨hq1, hq2, hq3⟩
    refine G (T := T) 1000 rfl ?_
    refine Ny (.tmp 13) cx cx hM hkx hvx rfl rfl rfl rfl (fun _ => rfl) ⟨rfl, rfl⟩ (fun hover => ?_) (fun z hz hzn => ?_)
    · refine G (T := T) 1000 rfl ?_
      refine If rfl (fun h1 => by cases h1) (fun _ => ?_)
      have hno : aB gZ (ad L) = none := by
        cases hk : aB gZ (ad L) with
        | none => rfl
        | some k =>
          obtain ⟨h1, h2⟩ := wordT_get hk
          obtain ⟨z, hz, hzk⟩ := bm _ _ (key3 h2) (by rw [h1]; simp)
          have h3 := hen z hz
          rw [hzk, h1] at h3
          exact absurd (Option.some.inj h3).symm (hq3 z (hover z hz))
      refine G (T := T) 1000 rfl ?_
      refine Mf (by kernel_rfl) rfl rfl ⟨rfl, rfl⟩ ?_
      refine G (T := T) 1000 rfl ?_
      exact Pn rfl h.pc (hp (by rw [hno]; rfl))
    · obtain ⟨k, w, ek, ew, hk15, hlk⟩ := ie (hen z hz)
      refine G (T := T) 1000 rfl ?_
      refine If rfl (fun _ => ?_) (fun h1 => by cases h1)
      refine G (T := T) 1000 rfl ?_
      refine Ey (.tmp 13) (cx (.int .i64 k)) (cx (.string w)) hM (mV ek rfl) (mV ew rfl) rfl rfl rfl rfl ⟨rfl, rfl⟩ ?_
      refine G (T := T) 1000 rfl ?_
      refine If rfl (fun h1 => ?_) (fun h1 => ?_)
      · have hw : w = ad L := of_decide_eq_true h1
        subst hw
        rw [jEx_eq hlk] at hR
        rw [hlk, Option.bind_some] at hp
        refine G (T := T) 1000 rfl ?_
        refine Cq (nY (l := ks) jEx (fc := 148) (fs := []) (cs := []) hl.2.1 (fun t ht => ih t (Tr.size_kid ht hn) (aC hl.2.2 ht) (fun e => hp (by rw [kn, bV ht e]; rfl)))) rfl rfl rfl rfl rfl ⟨rfl, rfl⟩ ?_
        refine G (T := T) 1000 rfl ?_
        refine Cq (nZ (k := k)) rfl rfl rfl rfl rfl ⟨rfl, rfl⟩ ?_
        refine G (T := T) 1000 rfl ?_
        refine If rfl (fun h2 => ?_) (fun h2 => ?_)
        · rw [if_pos h2] at hR; subst hR
          refine G (T := T) 1000 rfl ?_
          refine Cq (dE h hps (fun e => hp (by rw [e]; cases iL ks <;> simp [h2]))) rfl rfl rfl rfl rfl ⟨rfl, rfl⟩ ?_
          refine G (T := T) 1000 rfl ?_
          rw [et]
          exact Fq (T := T) rfl rfl
        · rw [if_neg (by rw [h2]; simp)] at hR; subst hR
          refine G (T := T) 1000 rfl ?_
          rw [et]
          exact Fq (T := T) rfl rfl
      · have hw : w ≠ ad L := of_decide_eq_false h1
        refine G (T := T) 1000 rfl ?_
        obtain ⟨n1, n2, n3⟩ := nd_snoc hq1 hq2 hz hzn
        refine Nq (q ++ [z]) ⟨n1, n2, fun y hy => ?_⟩ n3
        rcases List.mem_append.1 hy with hy | hy
        · exact hq3 y hy
        · rw [List.mem_singleton.1 hy, ew]; exact fun e => hw (by injection e)
end
section
open Go Go.RowKit Go.Proofs K
variable {pk : Pk}
def hexJ (b : UInt8) : Nat := (cp b).getD 0
def cK : List UInt8 → List UInt8
  | a :: b :: r => UInt8.ofNat (16 * hexJ a + hexJ b) :: cK r
  | _ => []
def jHexB (s : ByteArray) : ByteArray := bb (cK s.data.toList)
theorem unhexD_lt {b : UInt8} {d : Nat} (h : cp b = some d) : d < 16 := by
  unfold cp at h
  split at h
  · cases h; omega
  · split at h
    · cases h; omega
    · cases h
theorem n7 {b : UInt8} : (hexI b = -1 ∧ cp b = none) ∨ (hexI b = (hexJ b : Int) ∧ (cp b).isSome = true ∧ hexJ b < 16) := by
  unfold hexI hexJ
  cases h : cp b with
  | none => exact .inl ⟨rfl, rfl⟩
  | some d => exact .inr ⟨rfl, rfl, unhexD_lt h⟩
theorem lj {a b : UInt8} : ∀ {p : List UInt8}, p.length % 2 = 0 → cK (p ++ [a, b]) = cK p ++ [UInt8.ofNat (16 * hexJ a + hexJ b)]
  | [], _ => rfl
  | [_], h => by simp at h
  | c :: d :: r, h => by
    simp only [List.cons_append, cK]
    rw [lj (by simp only [List.length_cons] at h; omega)]
theorem ko : ∀ {l r : List UInt8}, jS l = some r → l.length % 2 = 0 ∧ cK l = r ∧ ∀ b ∈ l, (cp b).isSome = true
  | [], r, h => by cases h; exact ⟨rfl, rfl, by simp⟩
  | [_], r, h => by cases h
  | a :: b :: l, r, h => by
    rw [jS] at h
    obtain ⟨x, hx, h⟩ := Option.bind_eq_some_iff.1 h
    obtain ⟨y, hy, h⟩ := Option.bind_eq_some_iff.1 h
    obtain ⟨q, hq, rfl⟩ := Option.map_eq_some_iff.1 h
    obtain ⟨h1, rfl, h3⟩ := ko hq
    refine ⟨by simp only [List.length_cons]; omega, by simp [cK, hexJ, hx, hy], fun c hc => ?_⟩
    rcases List.mem_cons.1 hc with rfl | hc
    · rw [hx]; rfl
    · rcases List.mem_cons.1 hc with rfl | hc
      · rw [hy]; rfl
      · exact h3 c hc
theorem iI {s : ByteArray} (h : s.data.toList.length % 2 = 0 → (∀ b ∈ s.data.toList, (cp b).isSome = true) → False) : mD s = none := by
  cases h1 : jS s.data.toList with
  | none => rw [mD, h1]; rfl
  | some r =>
    obtain ⟨h2, _, h3⟩ := ko h1
    exact (h h2 h3).elim
theorem take_two {l : List UInt8} {j : Nat} {a b : UInt8} (ha : l[2 * j]? = some a) (hb : l[2 * j + 1]? = some b) : l.take (2 * (j + 1)) = l.take (2 * j) ++ [a, b] := by
  rw [show 2 * (j + 1) = 2 * j + 1 + 1 by omega, List.take_add_one, List.take_add_one, ha, hb]; simp
theorem wrapH {x y : Nat} (hx : x < 16) (hy : y < 16) : IntKind.u8.wrap (16 * (x : Int) + (y : Int)) = ((UInt8.ofNat (16 * x + y)).toNat : Int) := by
  have e : (UInt8.ofNat (16 * x + y)).toNat = 16 * x + y := by rw [UInt8.toNat_ofNat']; omega
  rw [e]
  unfold IntKind.wrap
  simp [IntKind.bits, IntKind.signed] <;> omega
theorem ft_bytes (h : FTk pk) {s : ByteArray} (hs : s.size ≤ 1000000000) (hp : mD s = none → pk.ψ) : XQ Tryz.prog pk 105 [xs s] (xs (jHexB s)) := by
  have hsz : s.data.toList.length = s.size := rfl
  refine XQ.en Tryz.func105 Tryz.ntmps105 (fun w0 own H V v0 hf => ?_)
  refine G (T := T) 1000 rfl ?_
  refine Ce (cA h.pc (b := decide ((s.size : Int).tmod 2 = 0)) (fun hb => hp (iI fun h1 _ => of_decide_eq_false hb (by rw [hsz] at h1; rw [Int.tmod_eq_emod_of_nonneg (by omega)]; omega)))) rfl rfl rfl rfl rfl ⟨rfl, rfl⟩ ?_
  rintro _ ⟨rfl, hev⟩
  have hev : s.size % 2 = 0 := by
    have := of_decide_eq_true hev
    rw [Int.tmod_eq_emod_of_nonneg (by omega)] at this; omega
  refine G (T := T) 100003 rfl ?_
  refine (Nr 3 5 1 rfl rfl).c ?_
  refine G (T := T) 1000 rfl ?_
  refine Lq [0] (fun (q : Nat × List (List D)) r => (3, .a (.c (.l 0 1 1 0 q.1 q.1))) :: (4, xi ((2 * q.1 : Nat) : Int)) :: r) (fun q => [⟨0, 1, .row q.1 q.2 5 1⟩]) 1 (fun q => 2 * q.1 ≤ s.size ∧ q.2 = bH (cK (s.data.toList.take (2 * q.1)))) (fun q => s.size - q.1) (0, []) rfl ⟨Nat.zero_le _, rfl⟩ ?_
  rintro ⟨j, R⟩ ⟨hj, hR⟩; dsimp only at hj hR ⊢
  refine G (T := T) 1000 rfl ?_
  refine If rfl (fun h1 => ?_) (fun h1 => ?_)
  · have hlt : 2 * j < s.size := by have := of_decide_eq_true h1; omega
    have hlt2 : 2 * j + 1 < s.size := by omega
    obtain ⟨a, ha⟩ := ae (l := s.data.toList) (j := 2 * j) hlt
    obtain ⟨b, hb⟩ := ae (l := s.data.toList) (j := 2 * j + 1) hlt2
    have ea : s.data.getD ((2 * j : Nat) : Int).toNat 0 = a := by
      rw [Array.getElem?_toList] at ha
      rw [Int.toNat_natCast]
      simp [Array.getD_eq_getD_getElem?, ha]
    have eb : s.data.getD (((2 * j : Nat) : Int) + 1).toNat 0 = b := by
      rw [Array.getElem?_toList] at hb
      rw [show (((2 * j : Nat) : Int) + 1).toNat = 2 * j + 1 by omega]
      simp [Array.getD_eq_getD_getElem?, hb]
    have ga := n7 (b := a)
    have gb := n7 (b := b)
    refine G (T := T) 21 rfl ?_
    rw [ea]
    refine Cq (h.idx a) rfl rfl rfl rfl rfl ⟨rfl, rfl⟩ ?_
    refine G (T := T) 26 rfl ?_
    rw [eb]
    refine Cq (h.idx b) rfl rfl rfl rfl rfl ⟨rfl, rfl⟩ ?_
    refine Gs (T := T) 1000 rfl ?_
    refine Ce (cA h.pc (b := decide (hexI a ≥ 0) && decide (hexI b ≥ 0)) (fun hc => hp (iI fun _ bm => by
      have p1 := bm a (List.mem_of_getElem? ha)
      have p2 := bm b (List.mem_of_getElem? hb)
      rcases ga with ⟨_, g1⟩ | ⟨g1, _, _⟩
      · rw [g1] at p1; cases p1
      · rcases gb with ⟨_, g2⟩ | ⟨g2, _, _⟩
        · rw [g2] at p2; cases p2
        · rw [g1, g2] at hc
          simp at hc))) rfl rfl rfl rfl rfl ⟨rfl, rfl⟩ ?_
    rintro _ ⟨rfl, hxy⟩
    simp only [Bool.and_eq_true, decide_eq_true_eq] at hxy
    obtain ⟨xa, _, xa16⟩ := ga.resolve_left (fun g => by omega)
    obtain ⟨xb, _, xb16⟩ := gb.resolve_left (fun g => by omega)
    refine G (T := T) 39 rfl ?_
    rw [xa, xb]
    refine G (T := T) 40 rfl ?_
    rw [wrapH xa16 xb16]
    refine G (T := T) 1000 rfl ?_
    refine Nq (j + 1, R ++ bH [UInt8.ofNat (16 * hexJ a + hexJ b)]) ⟨by dsimp only; omega, ?_⟩ (by show _ - (j + 1) < _ - j; omega)
    dsimp only
    rw [hR, take_two ha hb, lj (by rw [List.length_take]; omega), bH, bH, bH, List.map_append]
  · have hlt : ¬ ((2 * j : Nat) : Int) < s.size := of_decide_eq_false h1
    have hjl : 2 * j = s.size := by omega
    rw [List.take_of_length_le (by omega)] at hR; subst hR
    refine G (T := T) 1000 rfl ?_
    have hl : j = (cK s.data.toList).length := by
      have : ∀ (n : Nat) (l : List UInt8), l.length = 2 * n → (cK l).length = n := by
        intro n
        induction n with
        | zero => intro l hl; rw [List.length_eq_zero_iff.1 hl]; rfl
        | succ n ih =>
          intro l hl
          match l, hl with
          | a :: b :: r, hl => simp only [cK, List.length_cons]; rw [ih r (by simp only [List.length_cons] at hl; omega)]
      exact (this j _ (by omega)).symm
    refine Cb (T := T) rfl rfl rfl rfl rfl ⟨rfl, rfl⟩ hl hl ?_
    refine G (T := T) 1000 rfl ?_
    exact Fe (T := T) rfl rfl
theorem lbO_uJ : lbO uJ := ⟨by decide, by decide, trivial⟩
theorem cf {t : Tr} (h : lbO t) (i : Nat) : lbO (aE t i) := by
  obtain ⟨L, ks⟩ := t
  rw [aE]
  cases hk : (Tr.node L ks).kids[i]? with
  | none => exact lbO_uJ
  | some k => exact aC h.2.2 (List.mem_of_getElem? hk)
theorem fC {t : Tr} (h : lbO t) : (lb t).size ≤ 1000000000 := by obtain ⟨L, ks⟩ := t; exact h.1
theorem dG {t k : Tr} {i : Nat} (h : t.kids[i]? = some k) : aE t i = k := by rw [aE, h]; rfl
theorem lab_lb (t : Tr) : t.lab = lb t := by cases t; rfl
theorem gE {t : Tr} {i : Nat} (h : t.kids[i]? = none ∨ aR (ah (lb (aE t i))) = none) : d8 t.kids i = none := by
  rw [d8, aI]
  cases hk : t.kids[i]? with
  | none => rfl
  | some k =>
    rcases h with h | h
    · rw [hk] at h; cases h
    · rw [dG hk] at h
      exact h
def jGb (t : Tr) : Gb :=
  if ad (lb t) = fX then ⟨ah (lb t), jTy (aE t 0), -1, IntKind.u16.wrap (eZ (ah (lb (aE t 1)))), K.eS⟩
  else ⟨ah (lb t), jTy (aE t 0), eZ (ah (lb (aE t 1))), IntKind.u16.wrap (eZ (ah (lb (aE t 2)))), jHexB (ah (lb (aE t 3)))⟩
theorem ft_global (h : FTk pk) {t : Tr} (hl : lbO t) (hp : fGb t = none → pk.ψ) : XQ Tryz.prog pk 49 [xd (trd t)] (xd (gbD (jGb t))) := by
  have hl' := hl
  obtain ⟨L, ks⟩ := t
  rw [fGb] at hp
  have p0 : aI (Tr.node L ks).kids (0 : Int).toNat fTy = none → pk.ψ := fun e => hp (by rw [show aI ks 0 fTy = none from e]; rfl)
  have p1 : (Tr.node L ks).kids[(1 : Int).toNat]? = none ∨ aR (ah (lb (aE (.node L ks) (1 : Int).toNat))) = none → pk.ψ := fun e => hp (by
    rw [show d8 ks 1 = none from gE e]; cases aI ks 0 fTy <;> simp)
  rw [jGb, show lb (.node L ks) = L from rfl]
  refine XQ.en Tryz.func49 Tryz.ntmps49 (fun w0 own H V v0 hf => ?_)
  refine G (T := T) 100001 rfl ?_
  refine (FzTo.bz 0 rfl).c ?_
  refine G (T := T) 1000 rfl ?_
  refine Cq (bL h (t := .node L ks) hl.1) rfl rfl rfl rfl rfl ⟨rfl, rfl⟩ ?_
  refine G (T := T) 1000 rfl ?_
  refine Cq (dk h (t := .node L ks) (i := 0) (by omega) (fun e => p0 (bj e))) rfl rfl rfl rfl rfl ⟨rfl, rfl⟩ ?_
  refine G (T := T) 1000 rfl ?_
  refine Cq (gz h (t := .node L ks) hl' 0 p0) rfl rfl rfl rfl rfl ⟨rfl, rfl⟩ ?_
  refine G (T := T) 1000 rfl ?_
  refine If rfl (fun h1 => ?_) (fun h1 => ?_)
  · have hw : ad L = fX := of_decide_eq_true h1
    rw [if_pos hw]
    refine G (T := T) 1000 rfl ?_
    refine Cq (gy h (t := .node L ks) (i := 1) (by omega) (fC (cf hl' _)) p1) rfl rfl rfl rfl rfl ⟨rfl, rfl⟩ ?_
    refine G (T := T) 1000 rfl ?_
    exact Fq (T := T) rfl rfl
  · have hw : ¬ ad L = fX := of_decide_eq_false h1
    rw [if_neg hw]
    refine G (T := T) 1000 rfl ?_
    refine Cq (gy h (t := .node L ks) (i := 1) (by omega) (fC (cf hl' _)) p1) rfl rfl rfl rfl rfl ⟨rfl, rfl⟩ ?_
    refine G (T := T) 1000 rfl ?_
    refine Cq (gy h (t := .node L ks) (i := 2) (by omega) (fC (cf hl' _)) (fun e => hp (by
      simp only [if_neg hw, show d8 ks 2 = none from gE e]; cases aI ks 0 fTy <;> cases d8 ks 1 <;> simp))) rfl rfl rfl rfl rfl ⟨rfl, rfl⟩ ?_
    refine G (T := T) 1000 rfl ?_
    have p3 : ∀ f : Tr → Option ByteArray, aI ks 3 f = none → ((aI ks 0 fTy).bind fun t => if ad L = fX then Option.map (fun a => (⟨ah L, t, -1, IntKind.u16.wrap a, K.eS⟩ : Gb)) (d8 ks 1) else (d8 ks 1).bind fun b => (d8 ks 2).bind fun a => Option.map (fun s => (⟨ah L, t, b, IntKind.u16.wrap a, s⟩ : Gb)) (aI ks 3 f)) = none := fun f e => by
      simp only [if_neg hw, e]; cases aI ks 0 fTy <;> cases d8 ks 1 <;> cases d8 ks 2 <;> simp
    refine Cq (dk h (t := .node L ks) (i := 3) (by omega) (fun e => hp (p3 _ (bj e)))) rfl rfl rfl rfl rfl ⟨rfl, rfl⟩ ?_
    refine G (T := T) 1000 rfl ?_
    refine Cq (bL h (t := aE (.node L ks) (3 : Int).toNat) (fC (cf hl' _))) rfl rfl rfl rfl rfl ⟨rfl, rfl⟩ ?_
    refine G (T := T) 1000 rfl ?_
    refine Cq (ft_bytes h (s := ah (lb (aE (.node L ks) (3 : Int).toNat))) (gx (fC (cf hl' _))) (fun e => hp (p3 _ (by
      rw [aI]
      cases hk : ks[3]? with
      | none => rfl
      | some k => rw [show aE (.node L ks) (3 : Int).toNat = k from dG (t := .node L ks) hk, ← lab_lb] at e; exact e)))) rfl rfl rfl rfl rfl ⟨rfl, rfl⟩ ?_
    refine G (T := T) 1000 rfl ?_
    exact Fq (T := T) rfl rfl
end
def fb (ks : List Tr) (i : Nat) : Tr := (ks[i]?).getD uJ
def dc {α : Type} (cs : List (List α)) (i : Nat) : List α := (cs[i]?).getD []
def dH (k : Int) (p : ByteArray) (ks : List Tr) (ss : List Sm) (cs : List (List Sm)) : Sm :=
  if k = 1 then .mk 1 p (jTy (fb ks 0)) 0 [jEx (fb ks 1)] [] [] []
  else if k = 3 then .mk 3 K.eS ty4z 0 [jEx (fb ks 0)] (dc cs 1) (dc cs 2) []
  else if k = 4 then .mk 4 p ty4z 0 [jEx (fb ks 0)] (dc cs 1) [] []
  else if k = 5 ∨ k = 6 then .mk k p ty4z 0 [] ss [] []
  else if k = 7 ∨ k = 8 then .mk k p ty4z 0 [] [] [] []
  else if k = 9 then .mk 9 K.eS ty4z 0 [jEx (fb ks 0)] [] (dc cs (ks.length - 1)) ((cs.take (ks.length - 1)).drop 1)
  else if k = 12 ∨ k = 13 then .mk k K.eS ty4z 0 [] [] [] []
  else if k = 11 then .mk 11 K.eS ty4z (IntKind.u16.wrap (eZ p)) (ks.map jEx) [] [] [] else .mk k K.eS ty4z 0 (ks.map jEx) [] [] []
mutual
def jSm : Tr → Sm
  | .node L ks => match aB cq (ad L) with
    | none => .mk 0 K.eS ty4z 0 [] [] [] []
    | some k => dH k (ah L) ks (jSms ks) (jKs ks)
def jSms : List Tr → List Sm
  | [] => []
  | t :: r => jSm t :: jSms r
def jKs : List Tr → List (List Sm)
  | [] => []
  | .node _ ks :: r => jSms ks :: jKs r
end
theorem gF : ∀ l : List Tr, jSms l = l.map jSm
  | [] => rfl
  | t :: r => by rw [jSms, gF r]; rfl
theorem jKs_map : ∀ l : List Tr, jKs l = l.map fun u => u.kids.map jSm
  | [] => rfl
  | .node _ ks :: r => by rw [jKs, gF, jKs_map r]; rfl
theorem gG : ∀ l : List Tr, gc l = cn fSm l
  | [] => rfl
  | t :: r => by rw [gc, gG r]; rfl
theorem mW : ∀ l : List Tr, fKs l = l.map fun u => cn fSm u.kids
  | [] => rfl
  | .node _ ks :: r => by rw [fKs, gG, mW r]; rfl
theorem cg {L : ByteArray} {ks : List Tr} {k : Int} (h : aB cq (ad L) = some k) : jSm (.node L ks) = dH k (ah L) ks (ks.map jSm) (ks.map fun u => u.kids.map jSm) := by
  rw [jSm, h, gF, jKs_map]
theorem i8 (L : ByteArray) (ks : List Tr) (i : Nat) : dc (ks.map fun u => u.kids.map jSm) i = (aN (.node L ks) i).map jSm := by
  rw [dc, aN, aE, List.getElem?_map]
  show _ = List.map jSm ((ks[i]?).getD uJ).kids
  cases ks[i]? <;> rfl
section
open Go Go.RowKit Go.Proofs K
section
variable {P : Program} {x : Cx P} {k : List Fr} {E Er : XE} {hp : XH} {nx i : Nat} {ops : List Oper} {dm : Option (List Rc)} {l : List (Nat × Oper)} {d : Tmp} {ty : TypeId} {pos : String} {af : Array Edge} {g : Option (Nat × Bool)} {a b : Operand} {tx t' : TypeId} {u v : Bool}
theorem EqB (hu : P.underlying tx = some .bool) (hEr : vis dm ops { dst := some d, op := .binOp .eql tx a b t', type := ty, pos := pos, after := af, guard := g } E = Er) (ha : xev Er a = some (xb u)) (hb : xev Er b = some (xb v)) (hd : an ops Er g = some true ∧ okD x.N (some d) = true)
    (hk : (MS.r ops (push dm ⟨i, [], false, false⟩) l k ⟨(d, xb (u == v)) :: E, hp, nx⟩).ok x) (hdk : DkM dm ops ⟨i, [], false, false⟩ := by first | exact trivial | (refine DK.mk ?_; decide +kernel)) :
    (MS.r ops dm ((i, { dst := some d, op := .binOp .eql tx a b t', type := ty, pos := pos, after := af, guard := g }) :: l) k ⟨E, hp, nx⟩).ok x := by
  refine MS.val hEr hd ?_ hdk hk
  intro w0 N Q rest env own H V sg hl hV htp hf hd _ hh
  obtain ⟨p, h1, h2⟩ := hl.lks _ _ ha
  obtain ⟨q, h3, h4⟩ := hl.lks _ _ hb
  rw [aP h2] at h1
  rw [aP h4] at h3
  refine Qa hd (fun ac ha w => ?_) (hh (.bool (u == v)) _ [] V H sg ⟨rfl, rfl⟩ (by simp only [XV.rel, XA.rel, XC.rel, rd]; exact ⟨trivial, rfl⟩) hV htp (VX.refl _ _ _) (Le.refl _))
  have e1 : ∀ d w, (Op.equalIn (d + 1) tx (.bool u) (.bool v)).run P w = .ok (u == v) w := fun d w => by simp [Op.equalIn, run_underlying hu]
  have e2 : ∀ w, (Op.equal tx (.bool u) (.bool v)).run P w = .ok (u == v) w := fun w => e1 9999 w
  have e3 : eqGuard .eql tx a b (.bool u) (.bool v) = (Pure.pure () : Sem Unit) := rfl
  simp [execOp, ha.ev h1, ha.ev h3, e3, binOp, e2]
theorem NeB (hu : P.underlying tx = some .bool) (hEr : vis dm ops { dst := some d, op := .binOp .neq tx a b t', type := ty, pos := pos, after := af, guard := g } E = Er) (ha : xev Er a = some (xb u)) (hb : xev Er b = some (xb v)) (hd : an ops Er g = some true ∧ okD x.N (some d) = true)
    (hk : (MS.r ops (push dm ⟨i, [], false, false⟩) l k ⟨(d, xb (!(u == v))) :: E, hp, nx⟩).ok x) (hdk : DkM dm ops ⟨i, [], false, false⟩ := by first | exact trivial | (refine DK.mk ?_; decide +kernel)) :
    (MS.r ops dm ((i, { dst := some d, op := .binOp .neq tx a b t', type := ty, pos := pos, after := af, guard := g }) :: l) k ⟨E, hp, nx⟩).ok x := by
  refine MS.val hEr hd ?_ hdk hk
  intro w0 N Q rest env own H V sg hl hV htp hf hd _ hh
  obtain ⟨p, h1, h2⟩ := hl.lks _ _ ha
  obtain ⟨q, h3, h4⟩ := hl.lks _ _ hb
  rw [aP h2] at h1
  rw [aP h4] at h3
  refine Qa hd (fun ac ha w => ?_) (hh (.bool (!(u == v))) _ [] V H sg ⟨rfl, rfl⟩ (by simp only [XV.rel, XA.rel, XC.rel, rd]; exact ⟨trivial, rfl⟩) hV htp (VX.refl _ _ _) (Le.refl _))
  have e1 : ∀ d w, (Op.equalIn (d + 1) tx (.bool u) (.bool v)).run P w = .ok (u == v) w := fun d w => by simp [Op.equalIn, run_underlying hu]
  have e2 : ∀ w, (Op.equal tx (.bool u) (.bool v)).run P w = .ok (u == v) w := fun w => e1 9999 w
  have e3 : eqGuard .neq tx a b (.bool u) (.bool v) = (Pure.pure () : Sem Unit) := rfl
  simp [execOp, ha.ev h1, ha.ev h3, e3, binOp, e2]
end
variable {pk : Pk}
theorem beqT (b : Bool) : (b == b) = true := beq_self_eq_true b
theorem deq {α : Type} (a : α) [Decidable (a = a)] : decide (a = a) = true := decide_eq_true rfl
theorem dne {α : Type} (a : α) [Decidable (a ≠ a)] : decide (a ≠ a) = false := decide_eq_false (fun h => h rfl)
theorem eR : ∀ (m : Nat) (t : Ty4), t.size ≤ m → m ≤ 100000000000 → XQ Tryz.prog pk 56 [xd (tyD t), xd (tyD t)] (xb true) := by
  intro m
  induction m with
  | zero => intro t h; have := t.size_pos; omega
  | succ m ih =>
  rintro ⟨k, nm, n, ts⟩ hm hB
  have hsz : (Ty4.mk k nm n ts).size = Ty4.sizes ts + 1 := rfl
  have hlen : (ts.map tyD).length = ts.length := List.length_map ..
  have hle := Ty4.len_le ts
  rw [fw]
  refine XQ.en Tryz.func56 Tryz.ntmps56 (fun w0 own H V v0 hf => ?_)
  refine Gs (T := T) 100001 rfl ?_
  refine (FzTo.bz 0 rfl).c ?_
  refine (FzTo.bz 1 rfl).c ?_
  refine Gs (T := T) 1000 rfl ?_
  refine If rfl (fun h => absurd h (by simp)) (fun _ => ?_)
  refine G (T := T) 1000 rfl ?_
  refine Lq [2, 3] (fun (q : Nat) r => (5, xi (q : Nat)) :: r) (fun q => []) 2 (fun q => q ≤ ts.length) (fun q => ts.length - q) 0 rfl (Nat.zero_le _) ?_
  intro j hj
  refine G (T := T) 1000 rfl ?_
  refine If rfl (fun h => ?_) (fun h => ?_)
  · have hjl := of_decide_eq_true h
    obtain ⟨y, hy⟩ := ae (l := ts) (j := j) (by omega)
    refine G (T := T) 1000 rfl ?_
    refine Ix (T := T) j (ab hy) rfl rfl rfl rfl ⟨rfl, rfl⟩ rfl rfl ?_
    refine G (T := T) 1000 rfl ?_
    refine Ix (T := T) j (ab hy) rfl rfl rfl rfl ⟨rfl, rfl⟩ rfl rfl ?_
    refine G (T := T) 1000 rfl ?_
    refine Cq (ih y (by have := Ty4.size_mem (List.mem_of_getElem? hy); omega) (by omega)) rfl rfl rfl rfl rfl ⟨rfl, rfl⟩ ?_
    refine G (T := T) 1000 rfl ?_
    refine If rfl (fun h => absurd h (by simp)) (fun _ => ?_)
    refine G (T := T) 1000 rfl ?_
    exact Nq (j + 1) (by show j + 1 ≤ ts.length; omega) (by show _ - (j + 1) < _ - j; omega)
  · refine G (T := T) 1000 rfl ?_
    exact Fe (T := T) rfl rfl
theorem iJ {l : List Par} (h : ∀ p ∈ l, p.ty.size ≤ 100000000000) (hl : l.length ≤ 100000000000) : XQ Tryz.prog pk 55 [xr (l.map paD), xr (l.map paD)] (xb true) := by
  have hlen : (l.map paD).length = l.length := List.length_map ..
  refine XQ.en Tryz.func55 Tryz.ntmps55 (fun w0 own H V v0 hf => ?_)
  refine G (T := T) 1000 rfl ?_
  refine If rfl (fun h => absurd h (by simp)) (fun _ => ?_)
  refine G (T := T) 1000 rfl ?_
  refine Lq [0, 1] (fun (q : Nat) r => (5, xi (q : Nat)) :: r) (fun q => []) 0 (fun q => q ≤ l.length) (fun q => l.length - q) 0 rfl (Nat.zero_le _) ?_
  intro j hj
  refine G (T := T) 1000 rfl ?_
  refine If rfl (fun h1 => ?_) (fun h1 => ?_)
  · have hjl := of_decide_eq_true h1
    obtain ⟨y, hy⟩ := ae (l := l) (j := j) (by omega)
    refine G (T := T) 1000 rfl ?_
    refine Ix (T := T) j (ab hy) rfl rfl rfl rfl ⟨rfl, rfl⟩ rfl rfl ?_
    refine G (T := T) 1000 rfl ?_
    refine Ix (T := T) j (ab hy) rfl rfl rfl rfl ⟨rfl, rfl⟩ rfl rfl ?_
    refine G (T := T) 1000 rfl ?_
    refine Cq (eR _ y.ty (Nat.le_refl _) (h y (List.mem_of_getElem? hy))) rfl rfl rfl rfl rfl ⟨rfl, rfl⟩ ?_
    refine G (T := T) 1000 rfl ?_
    refine Ix (T := T) j (ab hy) rfl rfl rfl rfl ⟨rfl, rfl⟩ rfl rfl ?_
    refine G (T := T) 1000 rfl ?_
    refine Ix (T := T) j (ab hy) rfl rfl rfl rfl ⟨rfl, rfl⟩ rfl rfl ?_
    refine G (T := T) 1000 rfl ?_
    refine If rfl (fun h => absurd h (by simp)) (fun _ => ?_)
    refine G (T := T) 1000 rfl ?_
    exact Nq (j + 1) (by show j + 1 ≤ l.length; omega) (by show _ - (j + 1) < _ - j; omega)
  · refine G (T := T) 1000 rfl ?_
    exact Fe (T := T) rfl rfl
theorem smD_blD (c : List Sm) : blD c = [.s (c.map smD)] := rfl
theorem oR : ∀ (m : Nat) (l : List Ex), Ex.sizes l ≤ m → m ≤ 100000000000 → XQ Tryz.prog pk 151 [xr (l.map exD), xr (l.map exD)] (xb true) := by
  intro m
  induction m with
  | zero =>
    intro l h _
    have hl := Ex.len_le l
    obtain rfl : l = [] := List.length_eq_zero_iff.1 (by omega)
    refine XQ.en Tryz.func151 Tryz.ntmps151 (fun w0 own H V v0 hf => ?_)
    refine G (T := T) 1000 rfl ?_
    refine If rfl (fun h => absurd h (by simp)) (fun _ => ?_)
    refine G (T := T) 1000 rfl ?_
    refine Lq [0, 1] (fun (q : Nat) r => (5, xi (q : Nat)) :: r) (fun q => []) 0 (fun q => q = 0) (fun q => 0) 0 rfl rfl ?_
    rintro _ rfl
    refine G (T := T) 1000 rfl ?_
    refine If rfl (fun h => absurd h (by simp)) (fun h => ?_)
    refine G (T := T) 1000 rfl ?_
    exact Fe (T := T) rfl rfl
  | succ m ih =>
  intro l hm hB
  have hlen : (l.map exD).length = l.length := List.length_map ..
  have hle := Ex.len_le l
  refine XQ.en Tryz.func151 Tryz.ntmps151 (fun w0 own H V v0 hf => ?_)
  refine G (T := T) 1000 rfl ?_
  refine If rfl (fun h => absurd h (by simp)) (fun _ => ?_)
  refine G (T := T) 1000 rfl ?_
  refine Lq [0, 1] (fun (q : Nat) r => (5, xi (q : Nat)) :: r) (fun q => []) 0 (fun q => q ≤ l.length) (fun q => l.length - q) 0 rfl (Nat.zero_le _) ?_
  intro j hj
  refine G (T := T) 1000 rfl ?_
  refine If rfl (fun h1 => ?_) (fun h1 => ?_)
  · have hjl := of_decide_eq_true h1
    obtain ⟨y, hy⟩ := ae (l := l) (j := j) (by omega)
    have hys := Ex.size_mem (List.mem_of_getElem? hy)
    obtain ⟨k, nm, n, ks⟩ := y
    have hsz : (Ex.mk k nm n ks).size = Ex.sizes ks + 1 := rfl
    have hgy := ab (f := exD) hy
    rw [et] at hgy
    refine G (T := T) 1000 rfl ?_
    refine Ix (T := T) j hgy rfl rfl rfl rfl ⟨rfl, rfl⟩ rfl rfl ?_
    refine G (T := T) 1000 rfl ?_
    refine Ix (T := T) j hgy rfl rfl rfl rfl ⟨rfl, rfl⟩ rfl rfl ?_
    refine G (T := T) 1000 rfl ?_
    refine Cq (ih ks (by omega) (by omega)) rfl rfl rfl rfl rfl ⟨rfl, rfl⟩ ?_
    refine G (T := T) 1000 rfl ?_
    refine Ix (T := T) j hgy rfl rfl rfl rfl ⟨rfl, rfl⟩ rfl rfl ?_
    refine G (T := T) 1000 rfl ?_
    refine Ix (T := T) j hgy rfl rfl rfl rfl ⟨rfl, rfl⟩ rfl rfl ?_
    refine G (T := T) 43 rfl ?_
    rw [dne]
    refine G (T := T) 1000 rfl ?_
    refine Ix (T := T) j hgy rfl rfl rfl rfl ⟨rfl, rfl⟩ rfl rfl ?_
    refine G (T := T) 1000 rfl ?_
    refine Ix (T := T) j hgy rfl rfl rfl rfl ⟨rfl, rfl⟩ rfl rfl ?_
    refine G (T := T) 56 rfl ?_
    rw [dne]
    refine G (T := T) 1000 rfl ?_
    refine Ix (T := T) j hgy rfl rfl rfl rfl ⟨rfl, rfl⟩ rfl rfl ?_
    refine G (T := T) 1000 rfl ?_
    refine Ix (T := T) j hgy rfl rfl rfl rfl ⟨rfl, rfl⟩ rfl rfl ?_
    refine G (T := T) 1000 rfl ?_
    refine If rfl (fun h => absurd h (by simp)) (fun _ => ?_)
    refine G (T := T) 1000 rfl ?_
    exact Nq (j + 1) (by show j + 1 ≤ l.length; omega) (by show _ - (j + 1) < _ - j; omega)
  · refine G (T := T) 1000 rfl ?_
    exact Fe (T := T) rfl rfl
theorem oS : ∀ (m : Nat) (l : List Sm), Sm.sizes l ≤ m → m ≤ 100000000000 → XQ Tryz.prog pk 109 [xr (l.map smD), xr (l.map smD)] (xb true) := by
  intro m
  induction m with
  | zero =>
    intro l h _
    have hl := Sm.len_le l
    obtain rfl : l = [] := List.length_eq_zero_iff.1 (by omega)
    refine XQ.en Tryz.func109 Tryz.ntmps109 (fun w0 own H V v0 hf => ?_)
    refine G (T := T) 1000 rfl ?_
    refine If rfl (fun h => absurd h (by simp)) (fun _ => ?_)
    refine G (T := T) 1000 rfl ?_
    refine Lq [0, 1] (fun (q : Nat) r => (5, xi (q : Nat)) :: r) (fun q => []) 0 (fun q => q = 0) (fun q => 0) 0 rfl rfl ?_
    rintro _ rfl
    refine G (T := T) 1000 rfl ?_
    refine If rfl (fun h => absurd h (by simp)) (fun h => ?_)
    refine G (T := T) 1000 rfl ?_
    exact Fe (T := T) rfl rfl
  | succ m ih =>
  intro l hm hB
  have hlen : (l.map smD).length = l.length := List.length_map ..
  have hle := Sm.len_le l
  refine XQ.en Tryz.func109 Tryz.ntmps109 (fun w0 own H V v0 hf => ?_)
  refine G (T := T) 1000 rfl ?_
  refine If rfl (fun h => absurd h (by simp)) (fun _ => ?_)
  refine G (T := T) 1000 rfl ?_
  refine Lq [0, 1] (fun (q : Nat) r => (5, xi (q : Nat)) :: r) (fun q => []) 0 (fun q => q ≤ l.length) (fun q => l.length - q) 0 rfl (Nat.zero_le _) ?_
  intro j hj
  refine G (T := T) 1000 rfl ?_
  refine If rfl (fun h1 => ?_) (fun h1 => ?_)
  · have hjl := of_decide_eq_true h1
    obtain ⟨y, hy⟩ := ae (l := l) (j := j) (by omega)
    have hys := Sm.size_mem (List.mem_of_getElem? hy)
    obtain ⟨k, nm, t, n, es, b, el, cs⟩ := y
    have hsz : (Sm.mk k nm t n es b el cs).size = t.size + Ex.sizes es + Sm.sizes b + Sm.sizes el + Sm.csizes cs + 1 := rfl
    have hgy := ab (f := smD) hy
    rw [aQ] at hgy
    have hcl : (cs.map blD).length = cs.length := List.length_map ..
    have hcle := Sm.clen_le cs
    refine G (T := T) 1000 rfl ?_
    refine Ix (T := T) j hgy rfl rfl rfl rfl ⟨rfl, rfl⟩ rfl rfl ?_
    refine G (T := T) 1000 rfl ?_
    refine Ix (T := T) j hgy rfl rfl rfl rfl ⟨rfl, rfl⟩ rfl rfl ?_
    refine G (T := T) 1000 rfl ?_
    refine Cq (oR _ es (Nat.le_refl _) (by omega)) rfl rfl rfl rfl rfl ⟨rfl, rfl⟩ ?_
    refine G (T := T) 1000 rfl ?_
    refine Ix (T := T) j hgy rfl rfl rfl rfl ⟨rfl, rfl⟩ rfl rfl ?_
    refine G (T := T) 1000 rfl ?_
    refine Ix (T := T) j hgy rfl rfl rfl rfl ⟨rfl, rfl⟩ rfl rfl ?_
    refine G (T := T) 1000 rfl ?_
    refine Cq (ih b (by omega) (by omega)) rfl rfl rfl rfl rfl ⟨rfl, rfl⟩ ?_
    refine G (T := T) 1000 rfl ?_
    refine Ix (T := T) j hgy rfl rfl rfl rfl ⟨rfl, rfl⟩ rfl rfl ?_
    refine G (T := T) 1000 rfl ?_
    refine Ix (T := T) j hgy rfl rfl rfl rfl ⟨rfl, rfl⟩ rfl rfl ?_
    refine G (T := T) 1000 rfl ?_
    refine Cq (ih el (by omega) (by omega)) rfl rfl rfl rfl rfl ⟨rfl, rfl⟩ ?_
    refine G (T := T) 1000 rfl ?_
    refine Ix (T := T) j hgy rfl rfl rfl rfl ⟨rfl, rfl⟩ rfl rfl ?_
    refine G (T := T) 1000 rfl ?_
    refine Ix (T := T) j hgy rfl rfl rfl rfl ⟨rfl, rfl⟩ rfl rfl ?_
    refine G (T := T) 1000 rfl ?_
    refine Cq (eR _ t (Nat.le_refl _) (by omega)) rfl rfl rfl rfl rfl ⟨rfl, rfl⟩ ?_
    refine G (T := T) 1000 rfl ?_
    refine Ix (T := T) j hgy rfl rfl rfl rfl ⟨rfl, rfl⟩ rfl rfl ?_
    refine G (T := T) 1000 rfl ?_
    refine Ix (T := T) j hgy rfl rfl rfl rfl ⟨rfl, rfl⟩ rfl rfl ?_
    refine G (T := T) 93 rfl ?_
    rw [dne]
    refine G (T := T) 1000 rfl ?_
    refine Ix (T := T) j hgy rfl rfl rfl rfl ⟨rfl, rfl⟩ rfl rfl ?_
    refine G (T := T) 1000 rfl ?_
    refine Ix (T := T) j hgy rfl rfl rfl rfl ⟨rfl, rfl⟩ rfl rfl ?_
    refine G (T := T) 106 rfl ?_
    rw [dne]
    refine G (T := T) 1000 rfl ?_
    refine Ix (T := T) j hgy rfl rfl rfl rfl ⟨rfl, rfl⟩ rfl rfl ?_
    refine G (T := T) 1000 rfl ?_
    refine Ix (T := T) j hgy rfl rfl rfl rfl ⟨rfl, rfl⟩ rfl rfl ?_
    refine G (T := T) 119 rfl ?_
    rw [dne]
    refine G (T := T) 1000 rfl ?_
    refine Ix (T := T) j hgy rfl rfl rfl rfl ⟨rfl, rfl⟩ rfl rfl ?_
    refine G (T := T) 1000 rfl ?_
    refine Ix (T := T) j hgy rfl rfl rfl rfl ⟨rfl, rfl⟩ rfl rfl ?_
    refine G (T := T) 1000 rfl ?_
    refine If rfl (fun h => absurd h (by simp)) (fun _ => ?_)
    refine G (T := T) 1000 rfl ?_
    refine Lq [0, 1, 5] (fun (q : Nat) r => (10, xi (q : Nat)) :: r) (fun q => []) 0 (fun q => q ≤ cs.length) (fun q => cs.length - q) 0 rfl (Nat.zero_le _) ?_
    intro i hi
    refine G (T := T) 1000 rfl ?_
    refine Ix (T := T) j hgy rfl rfl rfl rfl ⟨rfl, rfl⟩ rfl rfl ?_
    refine G (T := T) 1000 rfl ?_
    refine If rfl (fun h2 => ?_) (fun h2 => ?_)
    · have hil := of_decide_eq_true h2
      obtain ⟨c, hc⟩ := ae (l := cs) (j := i) (by omega)
      have hcs := Sm.csize_mem (List.mem_of_getElem? hc)
      have hgc := ab (f := blD) hc
      rw [smD_blD] at hgc
      refine G (T := T) 1000 rfl ?_
      refine Ix (T := T) j hgy rfl rfl rfl rfl ⟨rfl, rfl⟩ rfl rfl ?_
      refine G (T := T) 1000 rfl ?_
      refine Ix (T := T) i hgc rfl rfl rfl rfl ⟨rfl, rfl⟩ rfl rfl ?_
      refine G (T := T) 1000 rfl ?_
      refine Ix (T := T) j hgy rfl rfl rfl rfl ⟨rfl, rfl⟩ rfl rfl ?_
      refine G (T := T) 1000 rfl ?_
      refine Ix (T := T) i hgc rfl rfl rfl rfl ⟨rfl, rfl⟩ rfl rfl ?_
      refine G (T := T) 1000 rfl ?_
      refine Cq (ih c (by omega) (by omega)) rfl rfl rfl rfl rfl ⟨rfl, rfl⟩ ?_
      refine G (T := T) 1000 rfl ?_
      refine If rfl (fun h => absurd h (by simp)) (fun _ => ?_)
      refine G (T := T) 1000 rfl ?_
      exact Nq (i + 1) (by show i + 1 ≤ cs.length; omega) (by show _ - (i + 1) < _ - i; omega)
    · refine G (T := T) 1000 rfl ?_
      exact Nq (j + 1) (by show j + 1 ≤ l.length; omega) (by show _ - (j + 1) < _ - j; omega)
  · refine G (T := T) 1000 rfl ?_
    exact Fe (T := T) rfl rfl
theorem same_func {B : Nat} {f : Fu} (hf : f.ok B) (hB : B ≤ 90000000000) : XQ Tryz.prog pk 57 [xd (fuD f), xd (fuD f)] (xb true) := by
  obtain ⟨h1, h2, h3, h4, h5, h6, h7, h8, h9⟩ := hf
  refine XQ.en Tryz.func57 Tryz.ntmps57 (fun w0 own H V v0 hf => ?_)
  refine G (T := T) 100001 rfl ?_
  refine (FzTo.bz 0 rfl).c ?_
  refine (FzTo.bz 1 rfl).c ?_
  refine G (T := T) 1000 rfl ?_
  refine Cq (iJ (l := f.ps) (fun p hp => by have := (h3 p hp).2.2; omega) (by omega)) rfl rfl rfl rfl rfl ⟨rfl, rfl⟩ ?_
  refine G (T := T) 1000 rfl ?_
  refine Cq (eR _ f.res (Nat.le_refl _) (by omega)) rfl rfl rfl rfl rfl ⟨rfl, rfl⟩ ?_
  refine G (T := T) 1000 rfl ?_
  refine Cq (oS _ f.body (Nat.le_refl _) (by omega)) rfl rfl rfl rfl rfl ⟨rfl, rfl⟩ ?_
  refine G (T := T) 36 rfl ?_
  rw [deq]
  refine G (T := T) 1000 rfl ?_
  refine EqB Tryz.underlying4 rfl rfl rfl ⟨rfl, rfl⟩ ?_
  rw [beqT]
  refine G (T := T) 1000 rfl ?_
  refine Eqs rfl rfl rfl rfl rfl (by kernel_rfl) (jX _ _ _ _) ⟨rfl, rfl⟩ ?_
  refine G (T := T) 1000 rfl ?_
  exact Fe (T := T) rfl (congrArg xb (by simp))
theorem ref_Equal {B : Nat} {p : Pg} (hp : p.ok B) (hB : B ≤ 90000000000) : XQ Tryz.prog pk 17 [xd (pgD p), xd (pgD p)] (xb true) := by
  obtain ⟨tl, gl, fl, ht, hg, hfs⟩ := hp
  have l1 : (p.ts.map tdD).length = p.ts.length := List.length_map ..
  have l2 : (p.gs.map gbD).length = p.gs.length := List.length_map ..
  have l3 : (p.fs.map fuD).length = p.fs.length := List.length_map ..
  refine XQ.en Tryz.func17 Tryz.ntmps17 (fun w0 own H V v0 hf => ?_)
  refine Gs (T := T) 100001 rfl ?_
  refine (FzTo.bz 0 rfl).c ?_
  refine (FzTo.bz 1 rfl).c ?_
  refine Gs (T := T) 1000 rfl ?_
  refine If rfl (fun h => absurd h (by simp)) (fun _ => ?_)
  refine G (T := T) 1000 rfl ?_
  refine Lq [2, 3] (fun (q : Nat) r => (5, xi (q : Nat)) :: r) (fun q => []) 2 (fun q => q ≤ p.ts.length) (fun q => p.ts.length - q) 0 rfl (Nat.zero_le _) ?_
  intro j hj
  refine G (T := T) 1000 rfl ?_
  refine If rfl (fun h1 => ?_) (fun h1 => ?_)
  · have hjl := of_decide_eq_true h1
    obtain ⟨y, hy⟩ := ae (l := p.ts) (j := j) (by omega)
    obtain ⟨_, y2, y3⟩ := ht y (List.mem_of_getElem? hy)
    refine G (T := T) 1000 rfl ?_
    refine Ix (T := T) j (ab hy) rfl rfl rfl rfl ⟨rfl, rfl⟩ rfl rfl ?_
    refine G (T := T) 1000 rfl ?_
    refine Ix (T := T) j (ab hy) rfl rfl rfl rfl ⟨rfl, rfl⟩ rfl rfl ?_
    refine G (T := T) 1000 rfl ?_
    refine Cq (iJ (l := y.fs) (fun q hq => by have := (y3 q hq).2.2; omega) (by omega)) rfl rfl rfl rfl rfl ⟨rfl, rfl⟩ ?_
    refine G (T := T) 71 rfl ?_
    rw [dne]
    refine G (T := T) 1000 rfl ?_
    refine NeB Tryz.underlying4 rfl rfl rfl ⟨rfl, rfl⟩ ?_
    rw [beqT]
    refine G (T := T) 1000 rfl ?_
    refine If rfl (fun h => absurd h (by simp)) (fun _ => ?_)
    refine G (T := T) 1000 rfl ?_
    exact Nqn (fun k => k) (j + 1) (by show j + 1 ≤ p.ts.length; omega) (by show _ - (j + 1) < _ - j; omega)
  refine G (T := T) 1000 rfl ?_
  refine Lq [2, 3] (fun (q : Nat) r => (9, xi (q : Nat)) :: r) (fun q => []) 2 (fun q => q ≤ p.gs.length) (fun q => p.gs.length - q) 0 rfl (Nat.zero_le _) ?_
  intro j hj
  refine G (T := T) 1000 rfl ?_
  refine If rfl (fun h1 => ?_) (fun h1 => ?_)
  · have hjl := of_decide_eq_true h1
    obtain ⟨y, hy⟩ := ae (l := p.gs) (j := j) (by omega)
    obtain ⟨_, y2, y3, _⟩ := hg y (List.mem_of_getElem? hy)
    refine G (T := T) 1000 rfl ?_
    refine Ix (T := T) j (ab hy) rfl rfl rfl rfl ⟨rfl, rfl⟩ rfl rfl ?_
    refine G (T := T) 1000 rfl ?_
    refine Ix (T := T) j (ab hy) rfl rfl rfl rfl ⟨rfl, rfl⟩ rfl rfl ?_
    refine G (T := T) 1000 rfl ?_
    refine Cq (eR _ y.ty (Nat.le_refl _) (by omega)) rfl rfl rfl rfl rfl ⟨rfl, rfl⟩ ?_
    refine G (T := T) 109 rfl ?_
    rw [dne]
    refine G (T := T) 116 rfl ?_
    rw [dne]
    refine G (T := T) 123 rfl ?_
    rw [dne]
    refine G (T := T) 1000 rfl ?_
    refine If rfl (fun h => absurd h (by simp)) (fun _ => ?_)
    refine G (T := T) 1000 rfl ?_
    exact Nqn (fun k => k) (j + 1) (by show j + 1 ≤ p.gs.length; omega) (by show _ - (j + 1) < _ - j; omega)
  refine G (T := T) 1000 rfl ?_
  refine Lq [2, 3] (fun (q : Nat) r => (13, xi (q : Nat)) :: r) (fun q => []) 2 (fun q => q ≤ p.fs.length) (fun q => p.fs.length - q) 0 rfl (Nat.zero_le _) ?_
  intro j hj
  refine G (T := T) 1000 rfl ?_
  refine If rfl (fun h1 => ?_) (fun h1 => ?_)
  · have hjl := of_decide_eq_true h1
    obtain ⟨y, hy⟩ := ae (l := p.fs) (j := j) (by omega)
    refine G (T := T) 1000 rfl ?_
    refine Ix (T := T) j (ab hy) rfl rfl rfl rfl ⟨rfl, rfl⟩ rfl rfl ?_
    refine G (T := T) 1000 rfl ?_
    refine Ix (T := T) j (ab hy) rfl rfl rfl rfl ⟨rfl, rfl⟩ rfl rfl ?_
    refine G (T := T) 1000 rfl ?_
    refine Cq (same_func (hfs y (List.mem_of_getElem? hy)) hB) rfl rfl rfl rfl rfl ⟨rfl, rfl⟩ ?_
    refine G (T := T) 1000 rfl ?_
    refine If rfl (fun h => absurd h (by simp)) (fun _ => ?_)
    refine G (T := T) 1000 rfl ?_
    exact Nq (j + 1) (by show j + 1 ≤ p.fs.length; omega) (by show _ - (j + 1) < _ - j; omega)
  refine G (T := T) 1000 rfl ?_
  exact Fe (T := T) rfl rfl
end
section
open Go Go.RowKit Go.Proofs K
variable {pk : Pk}
theorem gH (h : FTk pk) {t : Tr} (hl : lbO t) (i : Int) (hp : aI t.kids i.toNat fEx = none → pk.ψ) : XQ Tryz.prog pk 148 [xd (trd (aE t i.toNat))] (xd (exD (jEx (aE t i.toNat)))) := by
  refine ft_expr h _ _ (Nat.le_refl _) (cf hl _) (fun e => hp ?_)
  cases hk : t.kids[i.toNat]? with
  | none => exact bj hk
  | some k => rw [dG hk] at e; rw [aI, hk]; exact e
theorem lst_no {α : Type} {ks : List Tr} {cs : List (Option α)} {i : Nat} {w : ByteArray} (h : ∀ u, ks[i]? = some u → lb u ≠ w) : d7 ks cs i w = none := by
  rw [d7]
  cases hk : ks[i]? with
  | none => rfl
  | some u => show (if u.lab = w then _ else none) = none; rw [if_neg (by rw [lab_lb]; exact h u hk)]
theorem lst_no2 {α : Type} {ks : List Tr} {cs : List (Option α)} {i : Nat} {w : ByteArray} (h : ∀ c, cs[i]? = some c → c = none) : d7 ks cs i w = none := by
  rw [d7]
  cases hk : ks[i]? with
  | none => rfl
  | some u =>
    show (if u.lab = w then (cs[i]?).bind id else none) = none
    split
    · cases hc : cs[i]? with
      | none => rfl
      | some c => rw [h c hc]; rfl
    · rfl
theorem mX (ks : List Tr) : (aj ks).length = ks.length := List.length_map ..
theorem ft_switch (h : FTk pk) {L : ByteArray} {ks : List Tr} (hl : lbO (.node L ks)) (h2 : 2 ≤ ks.length) (hx : aI ks 0 fEx = none → pk.ψ) (hc : ∀ i u, 1 ≤ i → i < ks.length - 1 → ks[i]? = some u → XQ Tryz.prog pk 106 [xr (aj u.kids), xf 107 [] []] (xr ((u.kids.map jSm).map smD)))
    (hd : XQ Tryz.prog pk 46 [xd (trd (.node L ks)), xi ((ks.length : Int) - 1), xs bh] (xr (aj (aN (.node L ks) (ks.length - 1))))) (he : XQ Tryz.prog pk 106 [xr (aj (aN (.node L ks) (ks.length - 1))), xf 107 [] []] (xr (((aN (.node L ks) (ks.length - 1)).map jSm).map smD))) :
    XQ Tryz.prog pk 149 [xd (trd (.node L ks))] (xd (smD (.mk 9 K.eS ty4z 0 [jEx (fb ks 0)] [] ((aN (.node L ks) (ks.length - 1)).map jSm) (((ks.map fun u => u.kids.map jSm).take (ks.length - 1)).drop 1)))) := by
  have k0 := dk h (t := .node L ks) (i := 0) (by omega) (fun e => hx (bj e))
  have k1 := gH h (t := .node L ks) hl 0 hx
  have hlk : ks.length ≤ 100000000000 := hl.2.1
  have hkl := mX ks
  have hone : ∀ r ∈ aj ks, r.length = 2 := fun r hr => by obtain ⟨t, _, rfl⟩ := List.mem_map.1 hr; rfl
  rw [al] at k0 hd ⊢
  rw [aQ]
  refine XQ.en Tryz.func149 Tryz.ntmps149 (fun w0 own H V v0 hf => ?_)
  refine G (T := T) 100001 rfl ?_
  refine (FzTo.bz 0 rfl).c ?_
  refine G (T := T) 1000 rfl ?_
  refine Cq k0 rfl rfl rfl rfl rfl ⟨rfl, rfl⟩ ?_
  refine G (T := T) 1000 rfl ?_
  refine Cq k1 rfl rfl rfl rfl rfl ⟨rfl, rfl⟩ ?_
  refine G (T := T) 19 rfl ?_
  refine Sd (T := T) 1 (ks.length - 1) ⟨_, _, rfl, rfl⟩ ⟨_, _, rfl, rfl⟩ rfl rfl rfl ⟨rfl, rfl⟩ rfl (by show ((aj ks).length : Int) - 1 = _; omega) (by omega) (by omega) hone ?_
  refine G (T := T) 1000 rfl ?_
  obtain ⟨cs, hcs⟩ : ∃ cs, cs = (ks.drop 1).take (ks.length - 1 - 1) := ⟨_, rfl⟩
  have hcl : cs.length = ks.length - 1 - 1 := by rw [hcs, List.length_take, List.length_drop]; omega
  have ecs : List.take (ks.length - 1 - 1) (List.drop 1 (aj ks)) = aj cs := by rw [hcs, aj, aj, List.map_take, List.map_drop]
  have ecs2 : ((ks.map fun u => u.kids.map jSm).take (ks.length - 1)).drop 1 = cs.map fun u => u.kids.map jSm := by
    rw [hcs, ← List.map_take, ← List.map_drop, List.drop_take]
  rw [ecs, ecs2]
  refine (Nrh 2 10 63 1 rfl rfl rfl rfl rfl).c ?_
  refine Lq [1, 2, 3, 4, 19, 20] (fun (q : Nat × List (List D)) r => (21, xi (q.1 : Nat)) :: r) (fun q => [⟨3, 1, .row q.1 q.2 63 1⟩, ⟨2, 0, .cells [.d (.c (.int .i64 9)), .d (.c (.string eS)), .d (.c (.int .i64 0)), .d (.c (.string eS)), .d (.c (.int .i64 0)), .z, .d (.c (.int .u16 0)), .d (.s [exD (jEx (aE (.node L ks) (0 : Int).toNat))]), .z, .z, .l 3 1 1 0 q.1 q.1] 66⟩, ⟨1, 0, .cells [.d (.c (.int .i64 0)), .d (.c (.string eS)), .d (.c (.int .i64 0)), .d (.c (.string eS)), .d (.c (.int .i64 0)), .z, .d (.c (.int .u16 0)), .z, .z, .z, .z] 66⟩]) 4 (fun q => q.1 ≤ cs.length ∧ q.2 = ((cs.take q.1).map fun u => u.kids.map jSm).map blD) (fun q => cs.length - q.1) (0, []) rfl ⟨Nat.zero_le _, rfl⟩ ?_
  rintro ⟨j, R⟩ ⟨hj, hR⟩; dsimp only at hj hR ⊢
  have hcl2 := mX cs
  refine G (T := T) 1000 rfl ?_
  refine If rfl (fun h1 => ?_) (fun h1 => ?_)
  · have hjl := of_decide_eq_true h1
    obtain ⟨u, hu⟩ := ae (l := cs) (j := j) (by omega)
    have hu' : ks[j + 1]? = some u := by
      rw [hcs, List.getElem?_take, if_pos (by omega), List.getElem?_drop] at hu
      rw [← hu]; congr 1; omega
    have hcu := hc (j + 1) u (by omega) (by omega) hu'
    obtain ⟨lu, us⟩ := u
    refine G (T := T) 1000 rfl ?_
    refine Ix (T := T) j (ab hu) rfl rfl rfl rfl ⟨rfl, rfl⟩ rfl rfl ?_
    rw [al]
    refine G (T := T) 1000 rfl ?_
    refine Cq hcu rfl rfl rfl rfl rfl ⟨rfl, rfl⟩ ?_
    refine G (T := T) 1000 rfl ?_
    refine Nq (j + 1, R ++ [blD (us.map jSm)]) ⟨by dsimp only; omega, by dsimp only; rw [hR, List.take_add_one, hu]; simp [Tr.kids]⟩ (by show _ - (j + 1) < _ - j; omega)
  · have hjl := of_decide_eq_false h1
    rw [List.take_of_length_le (by omega)] at hR; subst hR
    refine G (T := T) 1000 rfl ?_
    rw [hkl]
    refine Cq hd rfl rfl rfl rfl rfl ⟨rfl, rfl⟩ ?_
    refine G (T := T) 1000 rfl ?_
    refine Cq he rfl rfl rfl rfl rfl ⟨rfl, rfl⟩ ?_
    refine G (T := T) 100009 rfl ?_
    refine Zc 3 rfl ?_ (by repeat' (first | exact trivial | apply And.intro | rfl | (simp; omega)))
    refine G (T := T) 1000 rfl ?_
    exact Fq (T := T) rfl rfl
theorem ll {α : Type} : ∀ {l : List (Option α)}, none ∈ l → allO l = none
  | x :: r, h => by
    rw [allO]
    rcases List.mem_cons.1 h with rfl | h
    · rfl
    · rw [ll h]; cases x <;> rfl
theorem lst_mem {L : ByteArray} {ks : List Tr} {i : Nat} {t : Tr} (h : t ∈ aN (.node L ks) i) : ∃ u, ks[i]? = some u ∧ t ∈ u.kids := by
  rw [aN, aE] at h
  cases hk : ks[i]? with
  | none => rw [show (Tr.node L ks).kids[i]? = none from hk] at h; cases h
  | some u => rw [show (Tr.node L ks).kids[i]? = some u from hk] at h; exact ⟨u, rfl, h⟩
theorem ft_stmt (h : FTk pk) : ∀ (n : Nat) (t : Tr), t.size ≤ n → lbO t → (fSm t = none → pk.ψ) → XQ Tryz.prog pk 107 [xd (trd t)] (xd (smD (jSm t))) := by
  intro n
  induction n with
  | zero => intro t hn; cases t; simp only [Tr.size] at hn; omega
  | succ n ih =>
  rintro ⟨L, ks⟩ hn hl hp
  have hps : (ah L).size ≤ 1000000000 := gx hl.1
  have hs := bL h (t := .node L ks) hl.1
  have eT := al L ks
  rw [fSm] at hp
  have hk : ∀ k, aB cq (ad L) = some k → fSmK k (ah L) ks (gc ks) (fKs ks) = none → pk.ψ := fun k e1 e2 => hp (by rw [e1]; exact e2)
  have kid : ∀ (i : Int), 0 ≤ i → (ks[i.toNat]? = none → pk.ψ) → XQ Tryz.prog pk 99 [xd [.c (.string L), .s (aj ks)], xi i] (xd (trd (aE (.node L ks) i.toNat))) := fun i h0 hp => by rw [← eT]; exact dk h h0 hp
  have hsz2 : ∀ u ∈ ks, ∀ t ∈ u.kids, t.size ≤ n := fun u hu t ht => by
    obtain ⟨l', us⟩ := u
    have h1 := Tr.size_kid hu hn
    exact Tr.size_kid ht (Nat.le_succ_of_le h1)
  have cas : ∀ u ∈ ks, (cn fSm u.kids = none → pk.ψ) → XQ Tryz.prog pk 106 [xr (aj u.kids), xf 107 [] []] (xr ((u.kids.map jSm).map smD)) := fun u hu hp => by
    have hlu := aC hl.2.2 hu
    obtain ⟨l', us⟩ := u
    exact gC (l := us) jSm (fc := 107) (fs := []) (cs := []) hlu.2.1 (fun t ht => ih t (hsz2 _ hu t ht) (aC hlu.2.2 ht) (fun e => hp (bV ht e)))
  have blk : ∀ (i : Int) (w : ByteArray), 0 ≤ i → (d7 ks (fKs ks) i.toNat w = none → pk.ψ) → XQ Tryz.prog pk 46 [xd [.c (.string L), .s (aj ks)], xi i, xs w] (xr (aj (aN (.node L ks) i.toNat))) ∧ XQ Tryz.prog pk 106 [xr (aj (aN (.node L ks) i.toNat)), xf 107 [] []] (xr (((aN (.node L ks) i.toNat).map jSm).map smD)) := fun i w h0 hp => by
    refine ⟨by rw [← eT]; exact cO h h0 (fun hn => hp (lst_no hn)), ?_⟩
    have hlk := cf hl i.toNat
    refine gC (l := aN (.node L ks) i.toNat) jSm (fc := 107) (fs := []) (cs := []) (by rw [aN]; generalize aE (.node L ks) i.toNat = v at hlk; obtain ⟨_, _⟩ := v; exact hlk.2.1) (fun t ht => ?_)
    obtain ⟨u, hu, htu⟩ := lst_mem ht
    have hum := List.mem_of_getElem? hu
    have hlu := aC hl.2.2 hum
    refine ih t (hsz2 u hum t htu) (by obtain ⟨_, _⟩ := u; exact aC hlu.2.2 htu) (fun e => hp (lst_no2 fun c hc => ?_))
    rw [mW, List.getElem?_map, hu] at hc
    rw [← Option.some.inj hc]; exact bV htu e
  have all : (gc ks = none → pk.ψ) → XQ Tryz.prog pk 106 [xr (aj ks), xf 107 [] []] (xr ((ks.map jSm).map smD)) := fun hp =>
    gC (l := ks) jSm (fc := 107) (fs := []) (cs := []) hl.2.1 (fun t ht => ih t (Tr.size_kid ht hn) (aC hl.2.2 ht) (fun e => hp (by rw [gG]; exact bV ht e)))
  rw [show lb (.node L ks) = L from rfl, eT] at hs
  rw [eT]
  refine XQ.en Tryz.func107 Tryz.ntmps107 (fun w0 own H V v0 hf => ?_)
  refine G (T := T) 100001 rfl ?_
  refine (FzTo.bz 0 rfl).c ?_
  refine G (T := T) 1000 rfl ?_
  refine Cq hs rfl rfl rfl rfl rfl ⟨rfl, rfl⟩ ?_
  refine G (T := T) 1000 rfl ?_
  refine If rfl (fun h1 => ?_) (fun h1 => ?_)
  · have hW : ad L = w_let := of_decide_eq_true h1
    have hlk : aB cq (ad L) = some 1 := by rw [hW]; rfl
    rw [cg hlk, show dH 1 (ah L) ks (ks.map jSm) (ks.map fun u => u.kids.map jSm) = .mk 1 (ah L) (jTy (fb ks 0)) 0 [jEx (fb ks 1)] [] [] [] from rfl]
    have p0 : aI ks 0 fTy = none → pk.ψ := fun e => hk 1 hlk (by show (aI ks 0 fTy).bind _ = none; rw [e]; rfl)
    have p1 : aI ks 1 fEx = none → pk.ψ := fun e => hk 1 hlk (by show (aI ks 0 fTy).bind (fun t => (aI ks 1 fEx).map fun x => Sm.mk 1 (ah L) t 0 [x] [] [] []) = none; rw [e]; cases aI ks 0 fTy <;> rfl)
    refine G (T := T) 1000 rfl ?_
    refine Cq (kid 0 (by omega) (fun e => p0 (bj e))) rfl rfl rfl rfl rfl ⟨rfl, rfl⟩ ?_
    refine G (T := T) 1000 rfl ?_
    refine Cq (gz h hl 0 p0) rfl rfl rfl rfl rfl ⟨rfl, rfl⟩ ?_
    refine G (T := T) 1000 rfl ?_
    refine Cq (kid 1 (by omega) (fun e => p1 (bj e))) rfl rfl rfl rfl rfl ⟨rfl, rfl⟩ ?_
    refine G (T := T) 1000 rfl ?_
    refine Cq (gH h hl 1 p1) rfl rfl rfl rfl rfl ⟨rfl, rfl⟩ ?_
    refine G (T := T) 1000 rfl ?_
    rw [aQ]
    exact Fq (T := T) rfl rfl
  have n_let : ¬ ad L = w_let := of_decide_eq_false h1
  clear h1
  refine G (T := T) 1000 rfl ?_
  refine If rfl (fun h1 => ?_) (fun h1 => ?_)
  · have hW : ad L = w_if := of_decide_eq_true h1
    have hlk : aB cq (ad L) = some 3 := by rw [hW]; rfl
    rw [cg hlk, show dH 3 (ah L) ks (ks.map jSm) (ks.map fun u => u.kids.map jSm) = .mk 3 K.eS ty4z 0 [jEx (fb ks 0)] (dc (ks.map fun u => u.kids.map jSm) 1) (dc (ks.map fun u => u.kids.map jSm) 2) [] from rfl]
    have p0 : aI ks 0 fEx = none ∨ d7 ks (fKs ks) 1 cW = none ∨ d7 ks (fKs ks) 2 di = none → pk.ψ := fun e => hk 3 hlk (by
      show (aI ks 0 fEx).bind (fun x => (d7 ks (fKs ks) 1 cW).bind fun b => (d7 ks (fKs ks) 2 di).map fun e => Sm.mk 3 K.eS ty4z 0 [x] b e []) = none
      rcases e with e | e | e
      · rw [e]; rfl
      · rw [e]; cases aI ks 0 fEx <;> rfl
      · rw [e]; cases aI ks 0 fEx <;> cases d7 ks (fKs ks) 1 cW <;> rfl)
    rw [i8 L ks 1, i8 L ks 2]
    refine G (T := T) 1000 rfl ?_
    refine Cq (kid 0 (by omega) (fun e => p0 (.inl (bj e)))) rfl rfl rfl rfl rfl ⟨rfl, rfl⟩ ?_
    refine G (T := T) 1000 rfl ?_
    refine Cq (gH h hl 0 (fun e => p0 (.inl e))) rfl rfl rfl rfl rfl ⟨rfl, rfl⟩ ?_
    refine G (T := T) 1000 rfl ?_
    refine Cq ((blk 1 cW (by omega) (fun e => p0 (.inr (.inl e)))).1) rfl rfl rfl rfl rfl ⟨rfl, rfl⟩ ?_
    refine G (T := T) 1000 rfl ?_
    refine Cq ((blk 1 cW (by omega) (fun e => p0 (.inr (.inl e)))).2) rfl rfl rfl rfl rfl ⟨rfl, rfl⟩ ?_
    refine G (T := T) 1000 rfl ?_
    refine Cq ((blk 2 di (by omega) (fun e => p0 (.inr (.inr e)))).1) rfl rfl rfl rfl rfl ⟨rfl, rfl⟩ ?_
    refine G (T := T) 1000 rfl ?_
    refine Cq ((blk 2 di (by omega) (fun e => p0 (.inr (.inr e)))).2) rfl rfl rfl rfl rfl ⟨rfl, rfl⟩ ?_
    refine G (T := T) 1000 rfl ?_
    rw [aQ]
    exact Fq (T := T) rfl rfl
  have n_if : ¬ ad L = w_if := of_decide_eq_false h1
  clear h1
  refine G (T := T) 1000 rfl ?_
  refine If rfl (fun h1 => ?_) (fun h1 => ?_)
  · have hW : ad L = fU := of_decide_eq_true h1
    have hlk : aB cq (ad L) = some 4 := by rw [hW]; rfl
    rw [cg hlk, show dH 4 (ah L) ks (ks.map jSm) (ks.map fun u => u.kids.map jSm) = .mk 4 (ah L) ty4z 0 [jEx (fb ks 0)] (dc (ks.map fun u => u.kids.map jSm) 1) [] [] from rfl]
    have p0 : aI ks 0 fEx = none ∨ d7 ks (fKs ks) 1 bp = none → pk.ψ := fun e => hk 4 hlk (by
      show (aI ks 0 fEx).bind (fun x => (d7 ks (fKs ks) 1 bp).map fun b => Sm.mk 4 (ah L) ty4z 0 [x] b [] []) = none
      rcases e with e | e
      · rw [e]; rfl
      · rw [e]; cases aI ks 0 fEx <;> rfl)
    rw [i8 L ks 1]
    refine G (T := T) 1000 rfl ?_
    refine Cq (kid 0 (by omega) (fun e => p0 (.inl (bj e)))) rfl rfl rfl rfl rfl ⟨rfl, rfl⟩ ?_
    refine G (T := T) 1000 rfl ?_
    refine Cq (gH h hl 0 (fun e => p0 (.inl e))) rfl rfl rfl rfl rfl ⟨rfl, rfl⟩ ?_
    refine G (T := T) 1000 rfl ?_
    refine Cq ((blk 1 bp (by omega) (fun e => p0 (.inr e))).1) rfl rfl rfl rfl rfl ⟨rfl, rfl⟩ ?_
    refine G (T := T) 1000 rfl ?_
    refine Cq ((blk 1 bp (by omega) (fun e => p0 (.inr e))).2) rfl rfl rfl rfl rfl ⟨rfl, rfl⟩ ?_
    refine G (T := T) 1000 rfl ?_
    rw [aQ]
    exact Fq (T := T) rfl rfl
  have n_while : ¬ ad L = fU := of_decide_eq_false h1
  clear h1
  refine G (T := T) 1000 rfl ?_
  refine If rfl (fun h1 => ?_) (fun h1 => ?_)
  · have hW : ad L = jM := of_decide_eq_true h1
    have hlk : aB cq (ad L) = some 5 := by rw [hW]; rfl
    rw [cg hlk, show dH 5 (ah L) ks (ks.map jSm) (ks.map fun u => u.kids.map jSm) = .mk 5 (ah L) ty4z 0 [] (ks.map jSm) [] [] from rfl]
    have p0 : gc ks = none → pk.ψ := fun e => hk 5 hlk (by show (gc ks).map _ = none; rw [e]; rfl)
    refine G (T := T) 1000 rfl ?_
    refine Cq (all p0) rfl rfl rfl rfl rfl ⟨rfl, rfl⟩ ?_
    refine G (T := T) 1000 rfl ?_
    rw [aQ]
    exact Fq (T := T) rfl rfl
  have n_loop : ¬ ad L = jM := of_decide_eq_false h1
  clear h1
  refine G (T := T) 1000 rfl ?_
  refine If rfl (fun h1 => ?_) (fun h1 => ?_)
  · have hW : ad L = fV := of_decide_eq_true h1
    have hlk : aB cq (ad L) = some 6 := by rw [hW]; rfl
    rw [cg hlk, show dH 6 (ah L) ks (ks.map jSm) (ks.map fun u => u.kids.map jSm) = .mk 6 (ah L) ty4z 0 [] (ks.map jSm) [] [] from rfl]
    have p0 : gc ks = none → pk.ψ := fun e => hk 6 hlk (by show (gc ks).map _ = none; rw [e]; rfl)
    refine G (T := T) 1000 rfl ?_
    refine Cq (all p0) rfl rfl rfl rfl rfl ⟨rfl, rfl⟩ ?_
    refine G (T := T) 1000 rfl ?_
    rw [aQ]
    exact Fq (T := T) rfl rfl
  have n_block : ¬ ad L = fV := of_decide_eq_false h1
  clear h1
  refine G (T := T) 1000 rfl ?_
  refine If rfl (fun h1 => ?_) (fun h1 => ?_)
  · have hW : ad L = fW := of_decide_eq_true h1
    have hlk : aB cq (ad L) = some 7 := by rw [hW]; rfl
    rw [cg hlk, show dH 7 (ah L) ks (ks.map jSm) (ks.map fun u => u.kids.map jSm) = .mk 7 (ah L) ty4z 0 [] [] [] [] from rfl]
    refine G (T := T) 1000 rfl ?_
    rw [aQ]
    exact Fq (T := T) rfl rfl
  have n_break : ¬ ad L = fW := of_decide_eq_false h1
  clear h1
  refine G (T := T) 1000 rfl ?_
  refine If rfl (fun h1 => ?_) (fun h1 => ?_)
  · have hW : ad L = cU := of_decide_eq_true h1
    have hlk : aB cq (ad L) = some 8 := by rw [hW]; rfl
    rw [cg hlk, show dH 8 (ah L) ks (ks.map jSm) (ks.map fun u => u.kids.map jSm) = .mk 8 (ah L) ty4z 0 [] [] [] [] from rfl]
    refine G (T := T) 1000 rfl ?_
    rw [aQ]
    exact Fq (T := T) rfl rfl
  have n_continue : ¬ ad L = cU := of_decide_eq_false h1
  clear h1
  refine G (T := T) 1000 rfl ?_
  refine If rfl (fun h1 => ?_) (fun h1 => ?_)
  · have hW : ad L = cV := of_decide_eq_true h1
    have hlk : aB cq (ad L) = some 9 := by rw [hW]; rfl
    rw [cg hlk, show dH 9 (ah L) ks (ks.map jSm) (ks.map fun u => u.kids.map jSm) = .mk 9 K.eS ty4z 0 [jEx (fb ks 0)] [] (dc (ks.map fun u => u.kids.map jSm) (ks.length - 1)) (((ks.map fun u => u.kids.map jSm).take (ks.length - 1)).drop 1) from rfl]
    have p9 : ks.length < 2 ∨ (aI ks 0 fEx = none ∨ allO (((fKs ks).take (ks.length - 1)).drop 1) = none ∨ d7 ks (fKs ks) (ks.length - 1) bh = none) → pk.ψ := fun e => hk 9 hlk (by
      show (if ks.length < 2 then none else (aI ks 0 fEx).bind fun x => (allO (((fKs ks).take (ks.length - 1)).drop 1)).bind fun c => (d7 ks (fKs ks) (ks.length - 1) bh).map fun e => Sm.mk 9 K.eS ty4z 0 [x] [] e c) = none
      split
      · rfl
      · rcases e with e | e | e | e
        · omega
        · rw [e]; rfl
        · rw [e]; cases aI ks 0 fEx <;> rfl
        · rw [e]; cases aI ks 0 fEx <;> cases allO (((fKs ks).take (ks.length - 1)).drop 1) <;> rfl)
    have hkl := mX ks
    rw [i8 L ks (ks.length - 1)]
    refine G (T := T) 1000 rfl ?_
    refine Ce (cA h.pc (b := decide (((aj ks).length : Int) ≥ 2)) (fun hb => p9 (.inl (by have := of_decide_eq_false hb; omega)))) rfl rfl rfl rfl rfl ⟨rfl, rfl⟩ ?_
    rintro _ ⟨rfl, hb⟩
    have h2 : 2 ≤ ks.length := by have := of_decide_eq_true hb; omega
    have hb9 := blk ((ks.length : Int) - 1) bh (by omega) (fun e => p9 (.inr (.inr (.inr (by rw [show ks.length - 1 = ((ks.length : Int) - 1).toNat by omega]; exact e)))))
    rw [show ((ks.length : Int) - 1).toNat = ks.length - 1 by omega] at hb9
    have hs9 := ft_switch h hl h2 (fun e => p9 (.inr (.inl e))) (fun i u hi1 hi2 hu => cas u (List.mem_of_getElem? hu) (fun e => p9 (.inr (.inr (.inl (ll (by
      refine List.mem_iff_getElem?.2 ⟨i - 1, ?_⟩
      rw [List.getElem?_drop, List.getElem?_take, if_pos (by omega), mW, List.getElem?_map, show 1 + (i - 1) = i by omega, hu]
      exact congrArg some e))))))) (by rw [eT]; exact hb9.1) hb9.2
    rw [eT] at hs9
    refine G (T := T) 1000 rfl ?_
    refine Cq (hs9) rfl rfl rfl rfl rfl ⟨rfl, rfl⟩ ?_
    refine G (T := T) 1000 rfl ?_
    exact Fq (T := T) rfl rfl
  have n_switch : ¬ ad L = cV := of_decide_eq_false h1
  clear h1
  refine G (T := T) 1000 rfl ?_
  refine If rfl (fun h1 => ?_) (fun h1 => ?_)
  · have hW : ad L = jO := of_decide_eq_true h1
    have hlk : aB cq (ad L) = some 12 := by rw [hW]; rfl
    rw [cg hlk, show dH 12 (ah L) ks (ks.map jSm) (ks.map fun u => u.kids.map jSm) = .mk 12 K.eS ty4z 0 [] [] [] [] from rfl]
    refine G (T := T) 1000 rfl ?_
    rw [aQ]
    exact Fq (T := T) rfl rfl
  have n_poll : ¬ ad L = jO := of_decide_eq_false h1
  clear h1
  refine G (T := T) 1000 rfl ?_
  refine If rfl (fun h1 => ?_) (fun h1 => ?_)
  · have hW : ad L = jP := of_decide_eq_true h1
    have hlk : aB cq (ad L) = some 13 := by rw [hW]; rfl
    rw [cg hlk, show dH 13 (ah L) ks (ks.map jSm) (ks.map fun u => u.kids.map jSm) = .mk 13 K.eS ty4z 0 [] [] [] [] from rfl]
    refine G (T := T) 1000 rfl ?_
    rw [aQ]
    exact Fq (T := T) rfl rfl
  have n_halt : ¬ ad L = jP := of_decide_eq_false h1
  clear h1
  have hxs : ∀ k, aB cq (ad L) = some k → (k = 2 ∨ k = 10 ∨ k = 14 ∨ k = 11) → iL ks = none → pk.ψ := fun k hlk h4 e => hk k hlk (by
    rcases h4 with rfl | rfl | rfl | rfl
    all_goals (show (iL ks).bind _ = none; rw [e]; rfl))
  refine G (T := T) 1000 rfl ?_
  have hex : (iL ks = none → pk.ψ) → XQ Tryz.prog pk 150 [xr (aj ks), xf 148 [] []] (xr ((ks.map jEx).map exD)) := fun hp =>
    nY (l := ks) jEx (fc := 148) (fs := []) (cs := []) hl.2.1 (fun t ht => ft_expr h _ t (Nat.le_refl _) (aC hl.2.2 ht) (fun e => hp (by rw [kn]; exact bV ht e)))
  have hor : iL ks = none → pk.ψ := fun e => by
    cases hlk : aB cq (ad L) with
    | none => exact hp (by rw [hlk]; rfl)
    | some k =>
      have hm := bU hlk
      simp only [cq, List.mem_cons, List.not_mem_nil, or_false, Prod.mk.injEq] at hm
      rcases hm with ⟨rfl, e1⟩ | ⟨rfl, e1⟩ | ⟨rfl, e1⟩ | ⟨rfl, e1⟩ | ⟨rfl, e1⟩ | ⟨rfl, e1⟩ | ⟨rfl, e1⟩ | ⟨rfl, e1⟩ | ⟨rfl, e1⟩ | ⟨rfl, e1⟩ | ⟨rfl, e1⟩ | ⟨rfl, e1⟩ | ⟨rfl, e1⟩ | ⟨rfl, e1⟩
      all_goals first
        | exact absurd e1 ‹_›
        | exact hxs _ hlk (by omega) e
  refine Cq (hex hor) rfl rfl rfl rfl rfl ⟨rfl, rfl⟩ ?_
  refine G (T := T) 1000 rfl ?_
  refine If rfl (fun h1 => ?_) (fun h1 => ?_)
  · have hW : ad L = dr := of_decide_eq_true h1
    have hlk : aB cq (ad L) = some 2 := by rw [hW]; rfl
    rw [cg hlk, show dH 2 (ah L) ks (ks.map jSm) (ks.map fun u => u.kids.map jSm) = .mk 2 K.eS ty4z 0 (ks.map jEx) [] [] [] from rfl]
    refine G (T := T) 1000 rfl ?_
    rw [aQ]
    exact Fq (T := T) rfl rfl
  have n_assign : ¬ ad L = dr := of_decide_eq_false h1
  clear h1
  refine G (T := T) 1000 rfl ?_
  refine If rfl (fun h1 => ?_) (fun h1 => ?_)
  · have hW : ad L = dt := of_decide_eq_true h1
    have hlk : aB cq (ad L) = some 10 := by rw [hW]; rfl
    rw [cg hlk, show dH 10 (ah L) ks (ks.map jSm) (ks.map fun u => u.kids.map jSm) = .mk 10 K.eS ty4z 0 (ks.map jEx) [] [] [] from rfl]
    refine G (T := T) 1000 rfl ?_
    rw [aQ]
    exact Fq (T := T) rfl rfl
  have n_return : ¬ ad L = dt := of_decide_eq_false h1
  clear h1
  refine G (T := T) 1000 rfl ?_
  refine If rfl (fun h1 => ?_) (fun h1 => ?_)
  · have hW : ad L = w_do := of_decide_eq_true h1
    have hlk : aB cq (ad L) = some 14 := by rw [hW]; rfl
    rw [cg hlk, show dH 14 (ah L) ks (ks.map jSm) (ks.map fun u => u.kids.map jSm) = .mk 14 K.eS ty4z 0 (ks.map jEx) [] [] [] from rfl]
    refine G (T := T) 1000 rfl ?_
    rw [aQ]
    exact Fq (T := T) rfl rfl
  have n_do : ¬ ad L = w_do := of_decide_eq_false h1
  clear h1
  refine G (T := T) 1000 rfl ?_
  refine Ce (cA h.pc (b := decide (ad L = jN)) (fun hb => hp (by
    have n_out := of_decide_eq_false hb
    cases hlk : aB cq (ad L) with
    | none => rfl
    | some k =>
      have hm := bU hlk
      simp only [cq, List.mem_cons, List.not_mem_nil, or_false, Prod.mk.injEq] at hm
      rcases hm with ⟨rfl, e1⟩ | ⟨rfl, e1⟩ | ⟨rfl, e1⟩ | ⟨rfl, e1⟩ | ⟨rfl, e1⟩ | ⟨rfl, e1⟩ | ⟨rfl, e1⟩ | ⟨rfl, e1⟩ | ⟨rfl, e1⟩ | ⟨rfl, e1⟩ | ⟨rfl, e1⟩ | ⟨rfl, e1⟩ | ⟨rfl, e1⟩ | ⟨rfl, e1⟩
      all_goals exact absurd e1 ‹_›))) rfl rfl rfl rfl rfl ⟨rfl, rfl⟩ ?_
  rintro _ ⟨rfl, hb⟩
  have hlk : aB cq (ad L) = some 11 := by rw [of_decide_eq_true hb]; rfl
  rw [cg hlk, show dH 11 (ah L) ks (ks.map jSm) (ks.map fun u => u.kids.map jSm) = .mk 11 K.eS ty4z (IntKind.u16.wrap (eZ (ah L))) (ks.map jEx) [] [] [] from rfl]
  refine G (T := T) 1000 rfl ?_
  refine Cq (dE h hps (fun e => hk 11 hlk (by
    show (iL ks).bind (fun xs => (aR (ah L)).map fun n => Sm.mk 11 K.eS ty4z (IntKind.u16.wrap n) xs [] [] []) = none
    rw [e]; cases iL ks <;> rfl))) rfl rfl rfl rfl rfl ⟨rfl, rfl⟩ ?_
  refine G (T := T) 1000 rfl ?_
  rw [aQ]
  exact Fq (T := T) rfl rfl
end
section
open Go Go.RowKit Go.Proofs K
variable {pk : Pk}
theorem kids_no {ks : List Tr} {i : Nat} {w : ByteArray} (h : ∀ u, ks[i]? = some u → lb u ≠ w) : bG ks i w = none := by
  rw [bG]
  cases hk : ks[i]? with
  | none => rfl
  | some u => show (if u.lab = w then _ else none) = none; rw [if_neg (by rw [lab_lb]; exact h u hk)]
theorem kids_some {t : Tr} {i : Nat} {w : ByteArray} {l : List Tr} (h : bG t.kids i w = some l) : aN t i = l := by
  obtain ⟨u, hu, h⟩ := Option.bind_eq_some_iff.1 (show (t.kids[i]?).bind _ = some l from h)
  split at h
  · cases h; rw [aN, dG hu]
  · cases h
theorem lstO {t : Tr} (h : lbO t) (i : Nat) : (aN t i).length ≤ 100000000000 ∧ lbsO (aN t i) := by
  have := cf h i
  rw [aN]
  generalize aE t i = v at this ⊢
  obtain ⟨L, ks⟩ := v
  exact ⟨this.2.1, this.2.2⟩
theorem dI {β : Type} {t : Tr} {i : Nat} {w : ByteArray} {g : Tr → Option β} : ((∀ u, t.kids[i]? = some u → lb u ≠ w) ∨ ∃ x ∈ aN t i, g x = none) → (bG t.kids i w).bind (cn g) = none := fun h => by
  cases hk : bG t.kids i w with
  | none => rfl
  | some l =>
    rcases h with h | ⟨x, hx, h⟩
    · rw [kids_no h] at hk; cases hk
    · rw [kids_some hk] at hx
      exact bV hx h
def jFu (t : Tr) : Fu :=
  if ad (lb t) = cd then ⟨ah (lb t), (aN t 0).map ib, jTy (aE (aE t 1) 0), [], true, eZ (ah (lb (aE t 2))), IntKind.u16.wrap (eZ (ah (lb (aE t 3))))⟩
  else ⟨ah (lb t), (aN t 0).map ib, jTy (aE (aE t 1) 0), (aN t 2).map jSm, false, 0, 0⟩
theorem ft_func (h : FTk pk) {t : Tr} (hl : lbO t) (hp : fFu t = none → pk.ψ) : XQ Tryz.prog pk 51 [xd (trd t)] (xd (fuD (jFu t))) := by
  have hl' := hl
  obtain ⟨L, ks⟩ := t
  rw [fFu] at hp
  have q0 : ((∀ u, (Tr.node L ks).kids[0]? = some u → lb u ≠ aT) ∨ ∃ x ∈ aN (.node L ks) 0, fPar x = none) → pk.ψ := fun e => hp (by
    rw [show (bG ks 0 aT).bind (cn fPar) = none from dI (t := .node L ks) e]; rfl)
  have q1 : aI ks 1 (fun t => aI t.kids 0 fTy) = none → pk.ψ := fun e => hp (by rw [e]; cases (bG ks 0 aT).bind (cn fPar) <;> rfl)
  have q2 : aI (aE (.node L ks) 1).kids 0 fTy = none → pk.ψ := fun e => q1 (by
    rw [aI]
    cases hk : ks[1]? with
    | none => rfl
    | some u => rw [dG (t := .node L ks) hk] at e; exact e)
  obtain ⟨ol, os⟩ := lstO hl' 0
  obtain ⟨o2, os2⟩ := lstO hl' 2
  rw [jFu, show lb (.node L ks) = L from rfl]
  refine XQ.en Tryz.func51 Tryz.ntmps51 (fun w0 own H V v0 hf => ?_)
  refine G (T := T) 100001 rfl ?_
  refine (FzTo.bz 0 rfl).c ?_
  refine G (T := T) 1000 rfl ?_
  refine Cq (bL h (t := .node L ks) hl.1) rfl rfl rfl rfl rfl ⟨rfl, rfl⟩ ?_
  refine G (T := T) 1000 rfl ?_
  refine Cq (cO h (t := .node L ks) (i := 0) (w := aT) (by omega) (fun e => q0 (.inl e))) rfl rfl rfl rfl rfl ⟨rfl, rfl⟩ ?_
  refine G (T := T) 1000 rfl ?_
  refine Cq (nX (l := aN (.node L ks) (0 : Int).toNat) ib (fc := 102) (fs := []) (cs := []) ol (fun t ht => nR h (aC os ht) (fun e => q0 (.inr ⟨t, ht, e⟩)))) rfl rfl rfl rfl rfl ⟨rfl, rfl⟩ ?_
  refine G (T := T) 1000 rfl ?_
  refine Cq (dk h (t := .node L ks) (i := 1) (by omega) (fun e => q1 (bj e))) rfl rfl rfl rfl rfl ⟨rfl, rfl⟩ ?_
  refine G (T := T) 1000 rfl ?_
  refine Cq (dk h (t := aE (.node L ks) (1 : Int).toNat) (i := 0) (by omega) (fun e => q2 (bj e))) rfl rfl rfl rfl rfl ⟨rfl, rfl⟩ ?_
  refine G (T := T) 1000 rfl ?_
  refine Cq (gz h (t := aE (.node L ks) (1 : Int).toNat) (cf hl' _) 0 q2) rfl rfl rfl rfl rfl ⟨rfl, rfl⟩ ?_
  refine G (T := T) 1000 rfl ?_
  refine If rfl (fun h1 => ?_) (fun h1 => ?_)
  · have hw : ad L = cd := of_decide_eq_true h1
    rw [if_pos hw]
    have q3 : d8 ks 2 = none ∨ d8 ks 3 = none → pk.ψ := fun e => hp (by
      simp only [if_pos hw]
      rcases e with e | e
      · rw [e]; cases (bG ks 0 aT).bind (cn fPar) <;> cases aI ks 1 (fun t => aI t.kids 0 fTy) <;> rfl
      · rw [e]; cases (bG ks 0 aT).bind (cn fPar) <;> cases aI ks 1 (fun t => aI t.kids 0 fTy) <;> cases d8 ks 2 <;> rfl)
    refine G (T := T) 1000 rfl ?_
    refine Cq (gy h (t := .node L ks) (i := 2) (by omega) (fC (cf hl' _)) (fun e => q3 (.inl (gE (t := .node L ks) e)))) rfl rfl rfl rfl rfl ⟨rfl, rfl⟩ ?_
    refine G (T := T) 1000 rfl ?_
    refine Cq (gy h (t := .node L ks) (i := 3) (by omega) (fC (cf hl' _)) (fun e => q3 (.inr (gE (t := .node L ks) e)))) rfl rfl rfl rfl rfl ⟨rfl, rfl⟩ ?_
    refine G (T := T) 1000 rfl ?_
    exact Fq (T := T) rfl rfl
  · have hw : ¬ ad L = cd := of_decide_eq_false h1
    rw [if_neg hw]
    have q3 : ((∀ u, (Tr.node L ks).kids[2]? = some u → lb u ≠ bp) ∨ ∃ x ∈ aN (.node L ks) 2, fSm x = none) → pk.ψ := fun e => hp (by
      simp only [if_neg hw]
      have e9 : (bG ks 2 bp).bind gc = none := by
        have : gc = cn fSm := funext gG
        rw [this]
        exact dI (t := .node L ks) e
      rw [e9]; cases (bG ks 0 aT).bind (cn fPar) <;> cases aI ks 1 (fun t => aI t.kids 0 fTy) <;> rfl)
    refine G (T := T) 1000 rfl ?_
    refine Cq (cO h (t := .node L ks) (i := 2) (w := bp) (by omega) (fun e => q3 (.inl e))) rfl rfl rfl rfl rfl ⟨rfl, rfl⟩ ?_
    refine G (T := T) 1000 rfl ?_
    refine Cq (gC (l := aN (.node L ks) (2 : Int).toNat) jSm (fc := 107) (fs := []) (cs := []) o2 (fun t ht => ft_stmt h _ t (Nat.le_refl _) (aC os2 ht) (fun e => q3 (.inr ⟨t, ht, e⟩)))) rfl rfl rfl rfl rfl ⟨rfl, rfl⟩ ?_
    refine G (T := T) 1000 rfl ?_
    exact Fq (T := T) rfl rfl
def jPg (t : Tr) : Pg := ⟨(aN t 0).map jTd, (aN t 1).map jGb, (aN t 2).map jFu⟩
end
end Go.Proofs.YtlmahofogapkgaaGreatDoor.X
namespace Go.Proofs.YtlmahofogapkgaaGreatDoor.K
open Go Go.RowKit
abbrev wrgV : Value := .iface 113 (.agg #[])
abbrev wrg : PanicEntry := { v := wrgV, recovered := false }
def RetP (w0 : World) (H : Hp) (own : List Seg) (φ : Value → List Seg → Hp → Prop) (ψ : Prop) : Ending → World → Prop := fun e w =>
  Ret w0 φ e w ∨ (e = .panicked [wrg] ∧ ψ ∧ ∃ H', Le H H' ∧ St w0 H' own w)
def FnP (P : Program) (f : FuncId) (args : List Value) (w0 : World) (H : Hp) (own : List Seg) (φ : Value → List Seg → Hp → Prop) (ψ : Prop) : Prop :=
  ∀ w, St w0 H own w → Calls P f args.toArray w (RetP w0 H own φ ψ)
section
variable {P : Program} {w0 : World} {N : Nat} {Q : Exit → Act → World → Prop} {env : Env} {own B : List Seg} {H H0 : Hp} {ops : Array Oper} {rest : List Oper} {fn : Func} {φ : Value → List Seg → Hp → Prop} {ψ ψ' : Prop}
variable {d : Option Tmp} {ty : TypeId} {pos : String} {af : Array Edge}
end
end Go.Proofs.YtlmahofogapkgaaGreatDoor.K
namespace Go.Proofs.YtlmahofogapkgaaGreatDoor.X
open Go Go.RowKit K
def dsA (ds : List Deferred) (a : Act) : Act := { a with defers := ds }
theorem eU (ds : List Deferred) (a : Act) (d : Option Tmp) (v : Value) : (dsA ds a).put d v = dsA ds (a.put d v) := by cases d <;> rfl
theorem dsA_eval (ds : List Deferred) (a : Act) : (dsA ds a).eval = a.eval := funext fun x => by cases x <;> rfl
theorem bC (a : Act) (d : Option Tmp) (v : Value) : (a.put d v).defers = a.defers := by cases d <;> rfl
def okA (ds : List Deferred) (Q : Exit → Act → World → Prop) : Exit → Act → World → Prop := fun e a w => a.defers = [] ∧ Q e (dsA ds a) w
section
variable {P : Program} {ds : List Deferred} {Q : Exit → Act → World → Prop} {ops : Array Oper}
theorem op_no (hno : ∀ a w, ¬ Q .outgrown a w) {o : Oper} {a : Act} {w : World} {next : Act → World → Prop} (h : o.wp P a w next (okA ds Q)) (hn : ∀ a w, next a w → a.defers = []) : a.defers = [] := by
  unfold Oper.wp at h
  generalize (execOp a.eval o).run P w = r at h
  have hlet : ¬ LetsOut (okA ds Q) := by rintro ⟨a, w, _, h⟩; exact hno _ _ h
  cases r with
  | ok nx w' =>
    cases nx with
    | value v => have := hn _ _ h; rwa [bC] at this
    | skip => have := hn _ _ h; rwa [bC] at this
    | defer d => have := hn _ _ h; rw [bC] at this; cases this
    | enter f args =>
      obtain ⟨e, w2, fr, hR, _⟩ := h []
      cases e with
      | returned v => have := hn _ _ hR; rwa [bC] at this
      | panicked ch => exact hR.1
      | outgrown => exact (hlet hR).elim
    | row row args =>
      obtain ⟨v, w2, hR, _⟩ := h default []
      have := hn _ _ hR; rwa [bC] at this
    | _ => exact h.elim
  | halt x w' =>
    cases x with
    | panic v => exact h.1
    | _ => exact h.elim
theorem op_ds (hno : ∀ a w, ¬ Q .outgrown a w) {o : Oper} {a : Act} {w : World} {next next' : Act → World → Prop} (h : o.wp P a w next (okA ds Q)) (hn : ∀ a w, next a w → a.defers = []) (hk : ∀ a w, next a w → next' (dsA ds a) w) : o.wp P (dsA ds a) w next' Q := by
  unfold Oper.wp at h ⊢
  rw [dsA_eval]
  generalize (execOp a.eval o).run P w = r at h ⊢
  have hlet : ¬ LetsOut (okA ds Q) := by rintro ⟨a, w, _, h⟩; exact hno _ _ h
  cases r with
  | ok nx w' =>
    cases nx with
    | value v => rw [Oper.upon_value, eU]; exact hk _ _ h
    | skip => rw [Oper.upon_skip, eU]; exact hk _ _ h
    | defer d => have := hn _ _ h; rw [bC] at this; cases this
    | enter f args =>
      refine Calls.mono h ?_
      intro e w2 hR
      cases e with
      | returned v => show next' ((dsA ds a).put o.dst v) w2; rw [eU]; exact hk _ _ hR
      | panicked ch => exact hR.2
      | outgrown => exact (hlet hR).elim
    | row row args =>
      refine Rows.mono h ?_
      intro v w2 hR
      rw [eU]; exact hk _ _ hR
    | _ => exact h.elim
  | halt x w' =>
    cases x with
    | panic v => exact h.2
    | _ => exact h.elim
theorem ja (hno : ∀ a w, ¬ Q .outgrown a w) {p : Prop} (h : p ∧ LetsOut (okA ds Q)) : False := by
  obtain ⟨_, a, w, _, h⟩ := h; exact hno _ _ h
theorem ig (hno : ∀ a w, ¬ Q .outgrown a w) : ∀ (l : List Oper) (a : Act) (w : World), wpList P ops (okA ds Q) l a w → a.defers = []
  | [], _, _, h => h.1
  | o :: rest, a, w, h => by
    simp only [wpList] at h
    split at h
    · rcases h with h | h
      · exact op_no hno h (ig hno rest)
      · exact (ja hno h).elim
    · have := ig hno rest _ _ h; rwa [bC] at this
theorem ij (hno : ∀ a w, ¬ Q .outgrown a w) : ∀ (l : List Oper) (a : Act) (w : World), wpList P ops (okA ds Q) l a w → wpList P ops Q l (dsA ds a) w
  | [], _, _, h => h.2
  | o :: rest, a, w, h => by
    simp only [wpList] at h ⊢
    rw [show yielded ops (dsA ds a).tmps = yielded ops a.tmps from rfl]
    split at h
    · rename_i hw
      rw [if_pos hw]
      rcases h with h | h
      · exact .inl (op_ds hno h (ig hno rest) (ij hno rest))
      · exact (ja hno h).elim
    · rename_i hw
      rw [if_neg hw, eU]
      exact ij hno rest _ _ h
theorem wpOp_no (hno : ∀ a w, ¬ Q .outgrown a w) {i : Nat} {K : Act → World → Prop} {a : Act} {w : World} (h : wpOp P ops (okA ds Q) i K a w) (hK : ∀ a w, K a w → a.defers = []) : a.defers = [] := by
  unfold wpOp at h
  split at h
  · exact hK _ _ h
  · split at h
    · rcases h with h | h
      · exact op_no hno h hK
      · exact (ja hno h).elim
    · have := hK _ _ h; rwa [bC] at this
theorem wpOp_ds (hno : ∀ a w, ¬ Q .outgrown a w) {i : Nat} {K K' : Act → World → Prop} {a : Act} {w : World} (h : wpOp P ops (okA ds Q) i K a w) (hK : ∀ a w, K a w → a.defers = []) (hk : ∀ a w, K a w → K' (dsA ds a) w) : wpOp P ops Q i K' (dsA ds a) w := by
  unfold wpOp at h ⊢
  cases ho : ops[i]? with
  | none => simp only [ho] at h ⊢; exact hk _ _ h
  | some o =>
    simp only [ho] at h ⊢
    rw [show yielded ops (dsA ds a).tmps = yielded ops a.tmps from rfl]
    split at h
    · rename_i hw
      rw [if_pos hw]
      rcases h with h | h
      · exact .inl (op_ds hno h hK hk)
      · exact (ja hno h).elim
    · rename_i hw
      rw [if_neg hw, eU]
      exact hk _ _ h
theorem n8 (hno : ∀ a w, ¬ Q .outgrown a w) {md : Region.Mode} : ∀ (n : Nat) (lst : Array Bool) (a : Act) (w : World), wpAny P md ops (okA ds Q) n lst a w → a.defers = []
  | 0, _, _, _, h => h.2.1
  | n + 1, lst, a, w, h => by
    obtain ⟨h1, h2⟩ := h
    cases hr : Region.ready md ops lst with
    | nil => exact (h1 hr).1
    | cons i r => exact wpOp_no hno (h2 i (by rw [hr]; exact List.mem_cons_self ..)) (n8 hno n _)
theorem n9 (hno : ∀ a w, ¬ Q .outgrown a w) {md : Region.Mode} : ∀ (n : Nat) (lst : Array Bool) (a : Act) (w : World), wpAny P md ops (okA ds Q) n lst a w → wpAny P md ops Q n lst (dsA ds a) w
  | 0, _, _, _, h => ⟨h.1, h.2.2⟩
  | n + 1, lst, a, w, h => ⟨fun hr => (h.1 hr).2, fun i hi => wpOp_ds hno (h.2 i hi) (n8 hno n _) (n9 hno n _)⟩
end
section
variable {P : Program} {ds : List Deferred} {Q : Exit → Act → World → Prop} {w0 : World} {N : Nat} {env : Env} {own : List Seg} {H : Hp}
def TCD (ds : List Deferred) (P : Program) (w0 : World) (N : Nat) (Q : Exit → Act → World → Prop) (c : Code) (env : Env) (own : List Seg) (H : Hp) : Prop := ∀ a w, At N env a → St w0 H own w → c.wp P Q (dsA ds a) w
theorem TCD.reg {i : Nat} {l : List Oper} {y : Code} (hno : ∀ a w, ¬ Q .outgrown a w) (h : TL P w0 N (okA ds (Exit.then (y.wp P Q) Q)) l.toArray l env own H) : TCD ds P w0 N Q (.seq (.region i l.toArray false) y) env own H := fun a w ha hw =>
  wp_seq (wp_region_lit (ij (Q := Exit.then (y.wp P Q) Q) hno _ _ _ (h a w ha hw)))
theorem TCD.drw {i : Nat} {l : List Oper} {y : Code} (hm : P.follows .mixedOrders = true) (hno : ∀ a w, ¬ Q .outgrown a w) (h : ∀ a w, At N env a → St w0 H own w → wpAny P .any l.toArray (okA ds (Exit.then (y.wp P Q) Q)) l.toArray.size (Array.replicate l.toArray.size false) a { w with drawn := w.drawn + 1 }) : TCD ds P w0 N Q (.seq (.region i l.toArray true) y) env own H := fun a w ha hw =>
  wp_seq (wp_region_any hm (n9 (Q := Exit.then (y.wp P Q) Q) hno _ _ _ _ (h a w ha hw)))
theorem TQ.dsq {y : Code} (h : TCD ds P w0 N Q y env own H) : TQ w0 N (okA ds (Exit.then (y.wp P Q) Q)) .normal env own H := fun a w ha hw => ⟨ha.defers, h a w ha hw⟩
end
theorem XQ.toFnP {P : Program} {pk : Pk} {f : FuncId} {args : List XV} {R : XV} (h : XQ P pk f args R) (hpc : pk.pc = wrg) {w0 : World} {own : List Seg} {H : Hp} {vals : List Value} (hy : pk.hy H) (hv : XVs.rels (fun _ _ => none) H args vals) : FnP P f vals w0 H own (fun r o H' => R.rel (fun _ _ => none) H' r ∧ o = own ∧ Le H H') pk.ψ := by
  obtain ⟨h1, h2, h3, h4⟩ := h
  intro w hw
  have hw' : St w0 H ([] :: own) w := hw.flat (List.Perm.refl _)
  refine Calls.mono (h4 ⟨w0, own, H, fun _ _ => none, 0, [], pk, fun _ _ h => absurd rfl h, ⟨by intro g hg; simp at hg, hy⟩⟩ rfl rfl rfl [] vals hv rfl (by intro b hb; simp at hb) w hw') ?_
  rintro e w' (⟨v, r, hp', V', H', sg', rfl, ⟨rfl, rfl⟩, q1, q2, q3, q4, q5, q6, q7, q8, q9, q10⟩ | ⟨rfl, q1, H', q2, q3⟩)
  · have := HR0 q2
    subst this
    refine .inl ⟨v, own, H', rfl, ⟨?_, rfl, q9⟩, q10.flat (List.Perm.refl _)⟩
    have e : V' = fun _ _ => none := by funext g t; exact q7 g t (Nat.zero_le _)
    rw [← e]; exact q1
  · exact .inr ⟨by rw [hpc], q1, H', q2, q3⟩
section
variable {P : Program} {Q : Exit → Act → World → Prop} {ops : Array Oper} {w0 : World} {N : Nat} {env : Env} {own : List Seg} {H : Hp} {rest : List Oper} {d : Option Tmp} {ty : TypeId} {pos : String} {af : Array Edge}
theorem eV {a : Act} {d : Option Tmp} {v : Value} {i : Nat} (h : d ≠ some i) : (a.put d v).tmps[i]? = a.tmps[i]? := by
  cases d with
  | none => rfl
  | some d =>
    have e : d ≠ i := fun e => h (by rw [e])
    simp [Act.put, e]
def pinQ (i : Nat) (u : Option Value) (Q : Exit → Act → World → Prop) : Exit → Act → World → Prop := fun e a w => a.tmps[i]? = u ∧ Q e a w
theorem op_pin (hno : ∀ a w, ¬ Q .outgrown a w) {i : Nat} {u : Option Value} {o : Oper} {a : Act} {w : World} {next next' : Act → World → Prop} (ha : a.tmps[i]? = u) (hd : o.dst ≠ some i) (h : o.wp P a w next Q) (hk : ∀ a w, a.tmps[i]? = u → next a w → next' a w) : o.wp P a w next' (pinQ i u Q) := by
  unfold Oper.wp at h ⊢
  generalize (execOp a.eval o).run P w = r at h ⊢
  have hlet : ¬ LetsOut Q := by rintro ⟨a, w, h⟩; exact hno _ _ h
  cases r with
  | ok nx w' =>
    cases nx with
    | value v => exact hk _ _ (by rw [eV hd]; exact ha) h
    | skip => exact hk _ _ (by rw [eV hd]; exact ha) h
    | defer d => exact hk _ _ (by rw [eV hd]; exact ha) h
    | enter f args =>
      refine Calls.mono h ?_
      intro e w2 hR
      cases e with
      | returned v => exact hk _ _ (by rw [eV hd]; exact ha) hR
      | panicked ch => exact ⟨ha, hR⟩
      | outgrown => exact (hlet hR).elim
    | row row args =>
      refine Rows.mono h ?_
      intro v w2 hR
      exact hk _ _ (by rw [eV hd]; exact ha) hR
    | _ => exact h.elim
  | halt x w' =>
    cases x with
    | panic v => exact ⟨ha, h⟩
    | _ => exact h.elim
theorem wpOp_pin (hno : ∀ a w, ¬ Q .outgrown a w) {i j : Nat} {u : Option Value} {K K' : Act → World → Prop} {a : Act} {w : World} (hd : ∀ (j : Nat) (o : Oper), ops[j]? = some o → o.dst ≠ some i) (ha : a.tmps[i]? = u) (h : wpOp P ops Q j K a w) (hk : ∀ a w, a.tmps[i]? = u → K a w → K' a w) : wpOp P ops (pinQ i u Q) j K' a w := by
  unfold wpOp at h ⊢
  cases ho : ops[j]? with
  | none => simp only [ho] at h ⊢; exact hk _ _ ha h
  | some o =>
    simp only [ho] at h ⊢
    split at h
    · rename_i hw
      rw [if_pos hw]
      rcases h with h | ⟨_, h⟩
      · exact .inl (op_pin hno ha (hd j o ho) h hk)
      · obtain ⟨a, w, h⟩ := h; exact (hno _ _ h).elim
    · rename_i hw
      rw [if_neg hw]
      exact hk _ _ (by rw [eV (hd j o ho)]; exact ha) h
theorem ik (hno : ∀ a w, ¬ Q .outgrown a w) {md : Region.Mode} {i : Nat} {u : Option Value} (hd : ∀ (j : Nat) (o : Oper), ops[j]? = some o → o.dst ≠ some i) : ∀ (n : Nat) (lst : Array Bool) (a : Act) (w : World), a.tmps[i]? = u → wpAny P md ops Q n lst a w → wpAny P md ops (pinQ i u Q) n lst a w
  | 0, _, _, _, ha, h => ⟨h.1, ha, h.2⟩
  | n + 1, lst, a, w, ha, h => ⟨fun hr => ⟨ha, h.1 hr⟩, fun j hj => wpOp_pin hno hd ha (h.2 j hj) (fun a w ha h => ik hno hd n _ a w ha h)⟩
theorem Oper.wp_post {Q' : Exit → Act → World → Prop} (hQ : ∀ e a w, Q e a w → Q' e a w) {o : Oper} {a : Act} {w : World} {next : Act → World → Prop} (h : o.wp P a w next Q) : o.wp P a w next Q' := by
  unfold Oper.wp at h ⊢
  generalize (execOp a.eval o).run P w = r at h ⊢
  cases r with
  | ok nx w' =>
    cases nx with
    | enter f args =>
      refine Calls.mono h ?_
      intro e w2 hR
      cases e with
      | returned v => exact hR
      | panicked ch => exact hQ _ _ _ hR
      | outgrown => obtain ⟨a, w, h⟩ := hR; exact ⟨a, w, hQ _ _ _ h⟩
    | _ => exact h
  | halt x w' =>
    cases x with
    | panic v => exact hQ _ _ _ h
    | _ => exact h
theorem dX {Q' : Exit → Act → World → Prop} (hQ : ∀ e a w, Q e a w → Q' e a w) {md : Region.Mode} : ∀ (n : Nat) (lst : Array Bool) (a : Act) (w : World), wpAny P md ops Q n lst a w → wpAny P md ops Q' n lst a w
  | 0, _, _, _, h => ⟨h.1, hQ _ _ _ h.2⟩
  | n + 1, lst, a, w, h => ⟨fun hr => hQ _ _ _ (h.1 hr), fun j hj => by
    have := h.2 j hj
    unfold wpOp at this ⊢
    cases ho : ops[j]? with
    | none => simp only [ho] at this ⊢; exact dX hQ n _ _ _ this
    | some o =>
      simp only [ho] at this ⊢
      split at this
      · rename_i hw
        rw [if_pos hw]
        rcases this with h | ⟨h1, a, w, h2⟩
        · exact .inl (Oper.wp_post hQ (Oper.wp_mono (fun a w h => dX hQ n _ a w h) h))
        · exact .inr ⟨h1, a, w, hQ _ _ _ h2⟩
      · rename_i hw
        rw [if_neg hw]
        exact dX hQ n _ _ _ this⟩
theorem oT {md : Region.Mode} (i j : Nat) {u v : Option Value} (hi : ∀ (k : Nat) (o : Oper), ops[k]? = some o → o.dst ≠ some i) (hj : ∀ (k : Nat) (o : Oper), ops[k]? = some o → o.dst ≠ some j) {n : Nat} {lst : Array Bool} {a : Act} {w : World} (hu : a.tmps[i]? = u) (hv : a.tmps[j]? = v)
    (h : wpAny P md ops (fun e a w => e ≠ .outgrown ∧ (a.tmps[i]? = u → a.tmps[j]? = v → Q e a w)) n lst a w) : wpAny P md ops Q n lst a w := by
  have hno : ∀ a w, ¬ (fun e (a : Act) (w : World) => e ≠ .outgrown ∧ (a.tmps[i]? = u → a.tmps[j]? = v → Q e a w)) .outgrown a w := fun a w h => h.1 rfl
  exact dX (fun e a w ⟨h3, h2, _, h⟩ => h h2 h3) _ _ _ _ (ik (fun a w h => hno a w h.2) hj _ _ _ _ hv (ik hno hi _ _ _ _ hu h))
theorem TL.callE {f : FuncId} {xs : List Operand} {vs : List Value} {tys : Array TypeId} {φ : Value → List Seg → Hp → Prop} {ψ : Prop} (hc : Callable P f) (h : FnP P f vs w0 H own φ ψ) (hx : Evs env xs vs) (hd : okD N d = true)
    (hpan : ψ → ∀ a w H', At N env a → Le H H' → St w0 H' own w → Q (.panic [K.wrg]) a w) (hn : ∀ v own' H', φ v own' H' → TL P w0 N Q ops rest (aq d v env) own' H') :
    TL P w0 N Q ops ({ dst := d, op := .call { callee := .value (.func f), args := xs.toArray, argTypes := tys }, type := ty, pos := pos, after := af, guard := none } :: rest) env own H := fun a w ha hw => by
  refine wpList_plain rfl fun K hK => ?_
  have hm := Evs.map ha hx
  have hrun : (execOp a.eval { dst := d, op := .call { callee := .value (.func f), args := xs.toArray, argTypes := tys }, type := ty, pos := pos, after := af, guard := none }).run P w = .ok (.enter f vs.toArray) w := by
    simp [execOp, resolve, Deferred.ofValue, invoke, Act.eval, hm, hc.run]
  unfold Oper.wp
  rw [hrun]
  refine (h w hw).mono ?_
  rintro e w' (⟨v, own', H', rfl, hp, hw'⟩ | ⟨rfl, h1, H', h2, h3⟩)
  · exact hK _ _ (hn v own' H' hp _ _ (ha.put hd v) hw')
  · exact hpan h1 a w' H' ha h2 h3
end
theorem OdA {P : Program} {x : Cx P} {ops : List Oper} {s : XS} {L : List (Nat × Oper)} (π : List Nat) (hl : kP ops π = some L) (h : (MS.r ops (some []) L [] s).ok x) (hπ : OdK ops π := by exact ⟨by decide +kernel⟩) :
    ∀ V H sg env, SR x.B s V H sg env → ∀ a w, At x.N env a → St x.B.w0 H (sg :: x.B.own) w → wpAny P .any ops.toArray x.R ops.toArray.size (Array.replicate ops.toArray.size false) a { w with drawn := w.drawn + 1 } := by
  obtain ⟨h1, h2⟩ := jE hl
  exact XR.any (Q := x.R) x.pan hπ.ok (h1 ▸ h h2) (fun s' hs' V H sg env hr => hs' V H sg env hr)
def offH (H : Hp) (b : Nat) : Hp := fun k => if k = b then none else H k
theorem Le.off {H H' : Hp} {b : Nat} (h : Le H H') (hb : H b = none) : Le H (offH H' b) := fun k o hk => by
  unfold offH
  split
  · rename_i e; subst e; rw [hb] at hk; cases hk
  · exact h k o hk
theorem St.off {w0 w : World} {H : Hp} {own : List Seg} {b : Nat} {o : Obj} (h : St w0 H own w) (hb : H b = some o) : St w0 (offH H b) ([(b, o)] :: own) w := by
  have hne : ∀ p ∈ own.flatten, p.1 ≠ b := fun p hp e => by have := h.apart p hp; rw [e, hb] at this; cases this
  refine ⟨h.os, h.tape, h.output, fun k o' hk => ?_, fun p hp => ?_, fun p hp => ?_, ?_⟩
  · unfold offH at hk
    split at hk
    · cases hk
    · exact h.imm k o' hk
  · rcases List.mem_append.1 (by simpa using hp : p ∈ [(b, o)] ++ own.flatten) with hp | hp
    · rw [List.mem_singleton.1 hp]; exact h.imm _ _ hb
    · exact h.own_at p hp
  · unfold offH
    split
    · rfl
    · rename_i hpb
      rcases List.mem_append.1 (by simpa using hp : p ∈ [(b, o)] ++ own.flatten) with hp | hp
      · rw [List.mem_singleton.1 hp] at hpb; exact absurd rfl hpb
      · exact h.apart p hp
  · show (b :: own.flatten.map (·.1)).Nodup
    refine List.nodup_cons.2 ⟨fun hm => ?_, h.nodup⟩
    obtain ⟨p, hp, e⟩ := List.mem_map.1 hm
    exact hne p hp e
open Go.Proofs
theorem i29 : Tryz.prog.info? 29 = some Tryz.t29 := by kernel_rfl
theorem i39 : Tryz.prog.info? 39 = some Tryz.t39 := by kernel_rfl
theorem i113 : Tryz.prog.info? 113 = some Tryz.t113 := by kernel_rfl
instance : Ty Tryz.prog 29 true 3 := Ty.of Tryz.underlying29 i29
instance : Ty Tryz.prog 39 false 1 := Ty.of Tryz.underlying39 i39
instance : Ty Tryz.prog 113 true 0 := Ty.of Tryz.underlying113 i113
instance : Str Tryz.prog 29 [(0, 1), (1, 1), (2, 1)] #[.slice none 0 0, .slice none 0 0, .slice none 0 0] := Str.of Tryz.underlying29 i29 rfl rfl (by kernel_rfl) (by kernel_rfl)
instance : K.Zr Tryz.prog 113 #[] := ⟨_, _, i113, rfl, rfl⟩
theorem oU (p q : Addr) (w : World) : CallsD Tryz.prog 44 #[.pointer (some p), .pointer (some q)] .returning w fun e u' w' => e = .returned (.tuple #[]) ∧ u' = .returning ∧ w' = w := by
  refine callsD_of_wpS Tryz.func44 rfl fun c₀ cs hu => ?_
  apply wpS_seq
  apply wpS_region
  simp [wpOpsS, go_sem, recoverD, hu, Tryz.ntmps44, Exit.thenS]
  apply wpS_seq
  apply wpS_seq
  apply wpS_region
  have hu3 : ∀ w, (Op.equal 20 .nilIface .nilIface).run Tryz.prog w = .ok true w := fun w => by
    have : ∀ d w, (Op.equalIn (d + 1) 20 .nilIface .nilIface).run Tryz.prog w = .ok true w := fun d w => by simp [Op.equalIn, run_underlying Tryz.underlying20]
    exact this 9999 w
  have hu4 : ∀ w, (binOp .eql 20 .nilIface .nilIface).run Tryz.prog w = .ok (.bool true) w := fun w => by simp [binOp, hu3]
  simp [wpOpsS, go_sem, Exit.thenS, Act.put, Act.eval, hu4]
  refine wpS_cond (t := true) (by simp [Act.eval, Array.replicate]) ?_
  simp only [if_true]
  refine wpS_of_wp (wp_ret ?_)
  cases c₀
  simp_all [bodyPostS, results, Exit.thenS, show Tryz.f44.results = #[] from rfl]
abbrev zPg : List Value := [.slice none 0 0, .slice none 0 0, .slice none 0 0]
theorem oa {w0 : World} {H : Hp} {own : List Seg} (b c : Nat) (x0 x1 x2 y : Value) (w : World) (hw : St w0 H ([(b, .cells #[x0, x1, x2] 29 (0, 0))] :: [(c, .cells #[y] 39 (0, 0))] :: own) w) : CallsD Tryz.prog 44 #[.pointer (some ⟨b, 0, none⟩), .pointer (some ⟨c, 0, none⟩)] (.panicking [wrg]) w fun e u' w' => e = .returned (.tuple #[]) ∧ u' = .panicking [{ wrg with recovered := true }] ∧ St w0 H ([(b, .cells zPg.toArray 29 (0, 0))] :: [(c, .cells #[.int .i64 20] 39 (0, 0))] :: own) w' := by
  refine callsD_of_wpS Tryz.func44 rfl fun c₀ cs hu => ?_
  apply wpS_seq
  apply wpS_region
  simp [wpOpsS, go_sem, recoverD, hu, Tryz.ntmps44, Exit.thenS]
  apply wpS_seq
  apply wpS_seq
  apply wpS_region
  have hu3 : ∀ w, (Op.equal 20 (.iface 113 (.agg #[])) .nilIface).run Tryz.prog w = .ok false w := fun w => by
    have : ∀ d w, (Op.equalIn (d + 1) 20 (.iface 113 (.agg #[])) .nilIface).run Tryz.prog w = .ok false w := fun d w => by simp [Op.equalIn, run_underlying Tryz.underlying20]
    exact this 9999 w
  have hu4 : ∀ w, (binOp .eql 20 (.iface 113 (.agg #[])) .nilIface).run Tryz.prog w = .ok (.bool false) w := fun w => by simp [binOp, hu3]
  simp [wpOpsS, go_sem, Exit.thenS, Act.put, Act.eval, hu4]
  refine wpS_cond (t := false) (by simp [Act.eval, Array.replicate]) ?_
  simp only [Bool.false_eq_true, if_false]
  refine wpS_of_wp (wp_skip ?_)
  simp only [Exit.thenS]
  refine wpS_of_wp ?_
  have hta : ∀ w, (Instr.typeAssert (.iface 113 (.agg #[])) 20 113 true).run Tryz.prog w = .ok (.tuple #[.agg #[], .bool true]) w := fun w => by
    simp [Instr.typeAssert, run_underlying Tryz.underlying113]
  generalize ha : (⟨_, _⟩ : Act) = a
  have hat : At 17 [(0, .pointer (some ⟨b, 0, none⟩)), (1, .pointer (some ⟨c, 0, none⟩)), (2, .iface 113 (.agg #[]))] a := by
    subst ha
    refine ⟨rfl, by simp, fun i v hv => ?_⟩
    rcases i with _ | _ | _ | i
    · cases hv; rfl
    · cases hv; rfl
    · cases hv; rfl
    · cases hv
  refine (show TC Tryz.prog w0 17 _ _ _ _ H from ?_) a w hat hw
  clear hat ha
  refine TC.seq ?_
  refine TC.region ?_
  refine TL.move rfl rfl ?_
  refine Qa (v := .tuple #[.agg #[], .bool true]) rfl (fun a ha w => by simp [execOp, ha.ev (show ev _ (.tmp 9) = some (.iface 113 (.agg #[])) from rfl), hta]) ?_
  refine TL.move rfl rfl ?_
  refine TL.extract rfl rfl rfl ?_
  refine TL.extract rfl rfl rfl ?_
  refine TL.new rfl (fun g => ?_)
  refine TL.storeA 0 0 (vs := []) rfl rfl rfl rfl rfl trivial (by simp) rfl rfl rfl ?_
  refine TL.assign rfl rfl ?_
  refine TL.nil (TQ.then_n ?_)
  refine TC.seq (TC.seq (TC.region ?_))
  refine TL.move rfl rfl ?_
  refine TL.not rfl rfl ?_
  refine TL.nil (TQ.then_n ?_)
  refine TC.cond_f rfl (TC.skip (TQ.then_n ?_))
  refine TC.region ?_
  refine TL.struct [] trivial rfl rfl ?_
  refine TL.storeA 1 0 (vs := zPg) rfl rfl rfl rfl rfl ⟨rfl, rfl, rfl, trivial⟩ (by simp) rfl rfl rfl ?_
  refine TL.store1 2 0 rfl rfl rfl rfl rfl (by simp) rfl rfl rfl ?_
  refine TL.nil (fun a w ha hw => ?_)
  simp only [Exit.thenS, bodyPostS]
  exact ⟨ha.defers, _, rfl, .tuple #[], by simp [results, show Tryz.f44.results = #[] from rfl], rfl, rfl, hw.tail⟩
section
open Go Go.RowKit Go.Proofs K
theorem i25 : Tryz.prog.info? 25 = some Tryz.t25 := by kernel_rfl
theorem i26 : Tryz.prog.info? 26 = some Tryz.t26 := by kernel_rfl
theorem i27 : Tryz.prog.info? 27 = some Tryz.t27 := by kernel_rfl
theorem i35 : Tryz.prog.info? 35 = some Tryz.t35 := by kernel_rfl
instance ity25 : Ty Tryz.prog 25 false 1 := Ty.of Tryz.underlying25 i25
instance ity26 : Ty Tryz.prog 26 false 1 := Ty.of Tryz.underlying26 i26
instance ity27 : Ty Tryz.prog 27 false 1 := Ty.of Tryz.underlying27 i27
instance ity35 : Ty Tryz.prog 35 true 2 := Ty.of Tryz.underlying35 i35
instance : Fld Tryz.prog 29 0 0 := Fld.of (f := 0) Tryz.underlying29 rfl ity25 rfl
instance : Fld Tryz.prog 29 1 1 := Fld.of (f := 1) Tryz.underlying29 rfl ity26 rfl
instance : Fld Tryz.prog 29 2 2 := Fld.of (f := 2) Tryz.underlying29 rfl ity27 rfl
instance : K.Zr Tryz.prog 29 #[.slice none 0 0, .slice none 0 0, .slice none 0 0] := ⟨_, _, i29, rfl, rfl⟩
instance : K.Zr Tryz.prog 39 #[.int .i64 0] := ⟨_, _, i39, rfl, rfl⟩
def ftOk (t : Tr) : Bool := rPg (jPg t) && (cD (jPg t)).eqb t
def ftR (t : Tr) : XV := if ftOk t then .t [.g (pgD (jPg t)), cx (.int .i64 0)] else .t [.g [.s [], .s [], .s []], cx (.int .i64 20)]
abbrev dfr (b c : Nat) : Deferred := { target := .fn (.func 44) #[.pointer (some ⟨b, 0, none⟩), .pointer (some ⟨c, 0, none⟩)], args := #[] }
abbrev ftφ (t : Tr) (own : List Seg) (H : Hp) : Value → List Seg → Hp → Prop := fun r o H' => (ftR t).rel (fun _ _ => none) H' r ∧ o = own ∧ Le H H'
abbrev ftQ (t : Tr) (w0 : World) (own : List Seg) (H : Hp) : Exit → Act → World → Prop := bodyPostD Tryz.prog Tryz.f15 (Ret w0 (ftφ t own H))
theorem kp {t : Tr} {w0 : World} {own : List Seg} {H : Hp} : ∀ a w, ¬ ftQ t w0 own H .outgrown a w := fun a w ⟨_, _, _, h, _⟩ => nomatch h
theorem kq {b c : Nat} {x0 x1 x2 y : Value} {w0 w : World} {H : Hp} {own : List Seg} {tmps : Array Value} (h2 : tmps[2]? = some (.pointer (some ⟨b, 0, none⟩))) (h3 : tmps[3]? = some (.pointer (some ⟨c, 0, none⟩))) (hw : St w0 H ([(b, .cells #[x0, x1, x2] 29 (0, 0))] :: [(c, .cells #[y] 39 (0, 0))] :: own) w) (hy : y.oneCell' = true) (hx : x0.oneCell' = true ∧ x1.oneCell' = true ∧ x2.oneCell' = true) :
    (results Tryz.f15 tmps).run Tryz.prog w = .ok (.tuple #[.agg #[x0, x1, x2], y]) w := by
  have e2 : tmps.getD 2 undef = .pointer (some ⟨b, 0, none⟩) := by simp [Array.getD_eq_getD_getElem?, h2]
  have e3 : tmps.getD 3 undef = .pointer (some ⟨c, 0, none⟩) := by simp [Array.getD_eq_getD_getElem?, h3]
  have hb := hw.own_at (b, .cells #[x0, x1, x2] 29 (0, 0)) (by simp)
  have hc := hw.own_at (c, .cells #[y] 39 (0, 0)) (by simp)
  have l1 := bv (P := Tryz.prog) (w := w) (t := 29) (agg := true) (n := 3) (b := b) (o := 0) (vs := [x0, x1, x2]) (v := .agg #[x0, x1, x2]) inferInstance rfl rfl (fun j u hu => by
    rw [bc hb]
    exact cAt.get (o := 0) (vs := [x0, x1, x2]) ⟨rfl, rfl, rfl, trivial⟩ j u hu)
  have l2 := bv (P := Tryz.prog) (w := w) (t := 39) (agg := false) (n := 1) (b := c) (o := 0) (vs := [y]) (v := y) inferInstance rfl rfl (fun j u hu => by
    rw [bc hc]
    exact cAt.get (o := 0) (vs := [y]) ⟨rfl, trivial⟩ j u hu)
  simp [results, show Tryz.f15.results = #[.cell 2 29, .cell 3 39] from rfl, h2, h3, asAddr, l1, l2]
theorem rd_nil {H : Hp} : rd H (.s []) (.slice none 0 0) := ⟨none, 0, 0, rfl, Nat.le_refl _, Nat.zero_le _, .inl rfl⟩
section
variable {t : Tr} {w0 : World} {own : List Seg} {H0 : Hp} {b c : Nat}
theorem fD (hbad : ftOk t = false) {a : Act} {w : World} {H' : Hp} {x0 x1 x2 y : Value} (h2 : a.tmps[2]? = some (.pointer (some ⟨b, 0, none⟩))) (h3 : a.tmps[3]? = some (.pointer (some ⟨c, 0, none⟩))) (hle : Le H0 H') (hw : St w0 H' ([(b, .cells #[x0, x1, x2] 29 (0, 0))] :: [(c, .cells #[y] 39 (0, 0))] :: own) w) : ftQ t w0 own H0 (.panic [wrg]) (dsA [dfr b c] a) w := by
  show Leaves Tryz.prog Tryz.f15 a.tmps _ [dfr b c] (.panicking [wrg]) w
  refine leaves_cons (f := 44) (args := #[.pointer (some ⟨b, 0, none⟩), .pointer (some ⟨c, 0, none⟩)]) (by simp) (by simp [go_sem]) ?_
  refine (oa b c x0 x1 x2 y w hw).mono ?_
  rintro e u' w' ⟨rfl, rfl, hw'⟩
  show Leaves Tryz.prog Tryz.f15 a.tmps _ [] .returning w'
  refine ⟨_, kq h2 h3 hw' rfl ⟨rfl, rfl, rfl⟩, _, own, H', rfl, ⟨?_, rfl, hle⟩, hw'.tail.tail⟩
  rw [ftR, hbad]
  exact ⟨_, rfl, ⟨⟨_, rfl, rd_nil, rd_nil, rd_nil, trivial⟩, ⟨rfl, rfl⟩, trivial⟩⟩
theorem ft_ret (hgood : ftOk t = true) {a : Act} {w : World} {H' : Hp} {x0 x1 x2 : Value} (h2 : a.tmps[2]? = some (.pointer (some ⟨b, 0, none⟩))) (h3 : a.tmps[3]? = some (.pointer (some ⟨c, 0, none⟩))) (hle : Le H0 H') (hr : rdL H' (pgD (jPg t)) [x0, x1, x2]) (hw : St w0 H' ([(b, .cells #[x0, x1, x2] 29 (0, 0))] :: [(c, .cells #[.int .i64 0] 39 (0, 0))] :: own) w) : ftQ t w0 own H0 .ret (dsA [dfr b c] a) w := by
  show Leaves Tryz.prog Tryz.f15 a.tmps _ [dfr b c] .returning w
  refine leaves_cons (f := 44) (args := #[.pointer (some ⟨b, 0, none⟩), .pointer (some ⟨c, 0, none⟩)]) (by simp) (by simp [go_sem]) ?_
  refine (oU _ _ w).mono ?_
  rintro e u' w' ⟨rfl, rfl, rfl⟩
  show Leaves Tryz.prog Tryz.f15 a.tmps _ [] .returning w'
  have ho := hr.ones
  refine ⟨_, kq h2 h3 hw rfl ⟨ho x0 (by simp), ho x1 (by simp), ho x2 (by simp)⟩, _, own, H', rfl, ⟨?_, rfl, hle⟩, hw.tail.tail⟩
  rw [ftR, hgood]
  exact ⟨_, rfl, ⟨⟨_, rfl, hr⟩, ⟨rfl, rfl⟩, trivial⟩⟩
end
theorem rev3 {α : Type} (a b c : α) (l : List α) : (c :: b :: a :: l).Perm (a :: b :: c :: l) := (List.Perm.swap b c _).trans ((List.Perm.cons b (List.Perm.swap a c l)).trans (List.Perm.swap a b _))
variable {pk pkF : Pk}
theorem from_tree {t : Tr} {B : Nat} (h : FTk pkF) (hbad : pkF.ψ → ftOk t = false) (hps : fPg0 t = none → pkF.ψ) (hgo : ftOk t = false → pkF.ψ) (hT : ∀ H, pkF.hy H → TabH H) (hl : lbO t) (hB : B ≤ 90000000000) (hok : (jPg t).ok B) (hy : ∀ H, pk.hy H → pkF.hy H) : XQ Tryz.prog pk 15 [xd (trd t)] (ftR t) := by
  refine XQ.ofFn (Callable.of Tryz.func15 (by decide) rfl) (fun w0 own H V vals hyH hv => ?_) rfl (by unfold ftR; split <;> rfl)
  have hR : ∀ V H v, (ftR t).rel (fun _ _ => none) H v → (ftR t).rel V H v := fun V H v h => by
    unfold ftR at h ⊢
    split at h
    · rename_i e; rw [if_pos e]; obtain ⟨us, rfl, h⟩ := h; exact ⟨us, rfl, by
        obtain ⟨us⟩ := us
        match us, h with
        | [a, b], h => exact h⟩
    · rename_i e; rw [if_neg e]; obtain ⟨us, rfl, h⟩ := h; exact ⟨us, rfl, by
        obtain ⟨us⟩ := us
        match us, h with
        | [a, b], h => exact h⟩
  match vals, hv with
  | [v], hv =>
  obtain ⟨⟨⟨us⟩, rfl, hus⟩, _⟩ := hv
  match us, hus with
  | [s0, s1], hus =>
  suffices hmain : K.Fn Tryz.prog 15 [.agg #[s0, s1]] w0 H own (ftφ t own H) from fun w hw => (hmain w hw).mono fun e w' ⟨v, o, H', e1, ⟨e2, e3⟩, e4⟩ => ⟨v, o, H', e1, ⟨hR V H' v e2, e3⟩, e4⟩
  intro w hw
  refine calls_of_wp_defers Tryz.func15 rfl ?_
  have hat : At 27 [(0, .agg #[s0, s1])] { tmps := [Value.agg #[s0, s1]].toArray ++ Array.replicate (Tryz.f15.ntmps - [Value.agg #[s0, s1]].toArray.size) undef, defers := [] } := by
    refine ⟨rfl, by simp [show Tryz.f15.ntmps = 27 from Tryz.ntmps15], fun i v hv => ?_⟩
    rcases i with _ | i
    · have e : v = .agg #[s0, s1] := by simp only [lk] at hv; exact (Option.some.inj hv).symm
      rw [e, Array.getElem?_append_left (by simp)]; rfl
    · cases hv
  refine (show TC Tryz.prog w0 27 (ftQ t w0 own H) _ _ own H from ?_) _ w hat hw
  clear hat hw w
  refine TC.seq (TC.region ?_)
  refine TL.box rfl rfl rfl (fun g1 => ?_)
  refine TL.new rfl (fun g2 => ?_)
  refine TL.new rfl (fun g3 => ?_)
  refine TL.nil (TQ.then_n ?_)
  refine TC.seq (TC.region ?_)
  refine TL.makeFunc (vs := []) (us := [_, _]) trivial ⟨rfl, rfl, trivial⟩ rfl ?_
  intro a w ha hw
  refine wpList_plain rfl fun K hK => ?_
  unfold Oper.wp
  have hrun : ∀ op : Oper, op.op = .defer { callee := .value (.tmp 4), args := #[], argTypes := #[] } → (execOp a.eval op).run Tryz.prog w = .ok (.defer (dfr g2 g3)) w := fun op e => by
    simp [execOp, e, ha.ev (show ev _ (.tmp 4) = some (.func (.func 44) #[] #[.pointer (some ⟨g2, 0, none⟩), .pointer (some ⟨g3, 0, none⟩)]) from rfl), resolve, Deferred.ofValue]
  rw [hrun _ rfl]
  refine hK _ _ ?_
  show Code.wp _ _ _ _ _
  obtain ⟨hw, hle, hz⟩ := (hw.perm (own' := [(g1, .cells #[s0, s1] 35 (0, 0))] :: [(g2, .cells #[.slice none 0 0, .slice none 0 0, .slice none 0 0] 29 (0, 0))] :: [(g3, .cells #[.int .i64 0] 39 (0, 0))] :: own) (rev3 ..).symm).freeze
  have hz := hz _ (List.mem_singleton.2 rfl)
  generalize addH H [(g1, .cells #[s0, s1] 35 (0, 0))] = H1 at hw hle hz
  have hus := hus.mono hle
  have hat1 : hAt H1 g1 0 [s0, s1] := by simp only at hz; exact ⟨by simp [cel, hz], by simp [cel, hz], trivial⟩
  have hyF := pkF.mono hle (hy _ hyH)
  have e0 : ({ a with defers := dfr g2 g3 :: a.defers } : Act).put none undef = dsA [dfr g2 g3] a := by rw [ha.defers]; rfl
  rw [e0]
  refine (show TCD [dfr g2 g3] Tryz.prog w0 27 (ftQ t w0 own H) _ _ _ H1 from ?_) a w ha hw
  clear e0 hrun hK K ha
  have o0 := lstO hl 0
  have o1 := lstO hl 1
  have o2 := lstO hl 2
  have q0 : ((∀ u, t.kids[0]? = some u → lb u ≠ bu) ∨ ∃ x ∈ aN t 0, fTd x = none) → pkF.ψ := fun e => hps (by
    have := dI (t := t) e
    obtain ⟨L, ks⟩ := t
    rw [fPg0, show (bG ks 0 bu).bind (cn fTd) = none from this]; rfl)
  have q1 : ((∀ u, t.kids[1]? = some u → lb u ≠ bi) ∨ ∃ x ∈ aN t 1, fGb x = none) → pkF.ψ := fun e => hps (by
    have := dI (t := t) e
    obtain ⟨L, ks⟩ := t
    rw [fPg0, show (bG ks 1 bi).bind (cn fGb) = none from this]; cases (bG ks 0 bu).bind (cn fTd) <;> rfl)
  have q2 : ((∀ u, t.kids[2]? = some u → lb u ≠ cM) ∨ ∃ x ∈ aN t 2, fFu x = none) → pkF.ψ := fun e => hps (by
    have := dI (t := t) e
    obtain ⟨L, ks⟩ := t
    rw [fPg0, show (bG ks 2 cM).bind (cn fFu) = none from this]; cases (bG ks 0 bu).bind (cn fTd) <;> cases (bG ks 1 bi).bind (cn fGb) <;> rfl)
  refine TCD.reg kp ?_
  refine TL.load_immA (n := 2) (vs := [s0, s1]) rfl hat1 rfl rfl ?_
  refine TL.callE (Callable.of Tryz.func46 (by decide) rfl) ((cO h (t := t) (i := 0) (w := bu) (by omega) (fun e => q0 (.inl e))).toFnP (vals := [_, _, _]) h.pc hyF ⟨⟨_, rfl, hus⟩, ⟨rfl, rfl⟩, ⟨rfl, rfl⟩, trivial⟩) ⟨rfl, rfl, rfl, trivial⟩ rfl (fun hψ a w H' ha hle' hw => ⟨ha.defers, fD (hbad hψ) (ha.slots 2 _ rfl) (ha.slots 3 _ rfl) (hle.trans hle') hw⟩) ?_
  rintro r0a _ H0a ⟨hr, rfl, hle'⟩
  have hle := hle.trans hle'; have hus := hus.mono hle'; have hat1 := hAt.mono hle' hat1; have hyF := pkF.mono hle' hyF
  refine TL.callE (Callable.of Tryz.func45 (by decide) rfl) ((back_45 (l := aN t ((0 : Int)).toNat) jTd (fc := 47) (fs := []) (cs := []) o0.1 (fun u hu => ft_def h (aC o0.2 hu) (fun e => q0 (.inr ⟨u, hu, e⟩)))).toFnP (vals := [_, _]) h.pc hyF ⟨hr, ⟨#[], #[], rfl, trivial, trivial⟩, trivial⟩) ⟨rfl, rfl, trivial⟩ rfl (fun hψ a w H' ha hle' hw => ⟨ha.defers, fD (hbad hψ) (ha.slots 2 _ rfl) (ha.slots 3 _ rfl) (hle.trans hle') hw⟩) ?_
  clear hr
  rintro r0b _ H0b ⟨hb0, rfl, hle'⟩
  have hle := hle.trans hle'; have hus := hus.mono hle'; have hat1 := hAt.mono hle' hat1; have hyF := pkF.mono hle' hyF
  have hb0 : rd H0b (.s (((aN t 0).map jTd).map tdD)) r0b := hb0
  refine TL.fieldAddr rfl rfl ?_
  refine TL.store1 0 0 rfl rfl rfl rfl hb0.one (by simp) rfl rfl rfl ?_
  refine TL.nil (TQ.dsq ?_)
  refine TCD.reg kp ?_
  refine TL.load_immA (n := 2) (vs := [s0, s1]) rfl hat1 rfl rfl ?_
  refine TL.callE (Callable.of Tryz.func46 (by decide) rfl) ((cO h (t := t) (i := 1) (w := bi) (by omega) (fun e => q1 (.inl e))).toFnP (vals := [_, _, _]) h.pc hyF ⟨⟨_, rfl, hus⟩, ⟨rfl, rfl⟩, ⟨rfl, rfl⟩, trivial⟩) ⟨rfl, rfl, rfl, trivial⟩ rfl (fun hψ a w H' ha hle' hw => ⟨ha.defers, fD (hbad hψ) (ha.slots 2 _ rfl) (ha.slots 3 _ rfl) (hle.trans hle') hw⟩) ?_
  rintro r1a _ H1a ⟨hr, rfl, hle'⟩
  have hle := hle.trans hle'; have hus := hus.mono hle'; have hat1 := hAt.mono hle' hat1; have hyF := pkF.mono hle' hyF; have hb0 := rd.mono hle' hb0
  refine TL.callE (Callable.of Tryz.func48 (by decide) rfl) ((back_48 (l := aN t ((1 : Int)).toNat) jGb (fc := 49) (fs := []) (cs := []) o1.1 (fun u hu => ft_global h (aC o1.2 hu) (fun e => q1 (.inr ⟨u, hu, e⟩)))).toFnP (vals := [_, _]) h.pc hyF ⟨hr, ⟨#[], #[], rfl, trivial, trivial⟩, trivial⟩) ⟨rfl, rfl, trivial⟩ rfl (fun hψ a w H' ha hle' hw => ⟨ha.defers, fD (hbad hψ) (ha.slots 2 _ rfl) (ha.slots 3 _ rfl) (hle.trans hle') hw⟩) ?_
  clear hr
  rintro r1b _ H1b ⟨hb1, rfl, hle'⟩
  have hle := hle.trans hle'; have hus := hus.mono hle'; have hat1 := hAt.mono hle' hat1; have hyF := pkF.mono hle' hyF; have hb0 := rd.mono hle' hb0
  have hb1 : rd H1b (.s (((aN t 1).map jGb).map gbD)) r1b := hb1
  refine TL.fieldAddr rfl rfl ?_
  refine TL.store1 0 0 rfl rfl rfl rfl hb1.one (by simp) rfl rfl rfl ?_
  refine TL.nil (TQ.dsq ?_)
  refine TCD.reg kp ?_
  refine TL.load_immA (n := 2) (vs := [s0, s1]) rfl hat1 rfl rfl ?_
  refine TL.callE (Callable.of Tryz.func46 (by decide) rfl) ((cO h (t := t) (i := 2) (w := cM) (by omega) (fun e => q2 (.inl e))).toFnP (vals := [_, _, _]) h.pc hyF ⟨⟨_, rfl, hus⟩, ⟨rfl, rfl⟩, ⟨rfl, rfl⟩, trivial⟩) ⟨rfl, rfl, rfl, trivial⟩ rfl (fun hψ a w H' ha hle' hw => ⟨ha.defers, fD (hbad hψ) (ha.slots 2 _ rfl) (ha.slots 3 _ rfl) (hle.trans hle') hw⟩) ?_
  rintro r2a _ H2a ⟨hr, rfl, hle'⟩
  have hle := hle.trans hle'; have hus := hus.mono hle'; have hat1 := hAt.mono hle' hat1; have hyF := pkF.mono hle' hyF; have hb0 := rd.mono hle' hb0; have hb1 := rd.mono hle' hb1
  refine TL.callE (Callable.of Tryz.func50 (by decide) rfl) ((back_50 (l := aN t ((2 : Int)).toNat) jFu (fc := 51) (fs := []) (cs := []) o2.1 (fun u hu => ft_func h (aC o2.2 hu) (fun e => q2 (.inr ⟨u, hu, e⟩)))).toFnP (vals := [_, _]) h.pc hyF ⟨hr, ⟨#[], #[], rfl, trivial, trivial⟩, trivial⟩) ⟨rfl, rfl, trivial⟩ rfl (fun hψ a w H' ha hle' hw => ⟨ha.defers, fD (hbad hψ) (ha.slots 2 _ rfl) (ha.slots 3 _ rfl) (hle.trans hle') hw⟩) ?_
  clear hr
  rintro r2b _ H2b ⟨hb2, rfl, hle'⟩
  have hle := hle.trans hle'; have hus := hus.mono hle'; have hat1 := hAt.mono hle' hat1; have hyF := pkF.mono hle' hyF; have hb0 := rd.mono hle' hb0; have hb1 := rd.mono hle' hb1
  have hb2 : rd H2b (.s (((aN t 2).map jFu).map fuD)) r2b := hb2
  refine TL.fieldAddr rfl rfl ?_
  refine TL.store1 0 0 rfl rfl rfl rfl hb2.one (by simp) rfl rfl rfl ?_
  refine TL.nil (TQ.dsq ?_)
  refine TCD.drw T.mx kp (fun a w ha hw => ?_)
  have hwn := hw.apart (g2, .cells #[r0b, r1b, r2b] 29 (0, 0)) (by simp)
  have hd : rdL H2b (pgD (jPg t)) [r0b, r1b, r2b] := ⟨hb0, hb1, hb2, trivial⟩
  obtain ⟨hw5, hle5, hz5⟩ := (show St w0 H2b ([(g2, .cells #[r0b, r1b, r2b] 29 (0, 0))] :: [(g3, .cells #[.int .i64 0] 39 (0, 0))] :: own) w from hw).freeze
  have hz5 := hz5 _ (List.mem_singleton.2 rfl)
  generalize addH H2b [(g2, .cells #[r0b, r1b, r2b] 29 (0, 0))] = H5 at hw5 hle5 hz5
  simp only at hz5 hwn
  have hat5 : hAt H5 g2 0 [r0b, r1b, r2b] := ⟨by simp [cel, hz5], by simp [cel, hz5], by simp [cel, hz5], trivial⟩
  have hq5 : rds H5 g2 0 (pgD (jPg t)) := rds.of hat5 (hd.mono hle5)
  have ht5 : rds H5 g1 0 (trd t) := rds.of (hAt.mono hle5 hat1) (hus.mono hle5)
  have hyF5 := pkF.mono hle5 hyF
  have hs2 := ha.slots 2 _ rfl
  have hs3 := ha.slots 3 _ rfl
  have nodst : ∀ (i : Nat) (l : List Oper), (l.all fun o => decide (o.dst ≠ some i)) = true → ∀ (k : Nat) (o : Oper), l.toArray[k]? = some o → o.dst ≠ some i := fun i l hl k o ho => by
    have := List.all_eq_true.1 hl o (by rw [List.getElem?_toArray] at ho; exact List.mem_of_getElem? ho)
    simpa using this
  refine oT 2 3 (nodst 2 _ (by decide)) (nodst 3 _ (by decide)) hs2 hs3 ?_
  have hg2n : ∀ H', Le H5 H' → Le H (offH H' g2) ∧ Le H2b (offH H' g2) ∧ H' g2 = some (.cells #[r0b, r1b, r2b] 29 (0, 0)) := fun H' hle' => by
    have hn0 : H g2 = none := by
      cases hh : H g2 with
      | none => rfl
      | some o => rw [hle _ _ hh] at hwn; cases hwn
    exact ⟨Le.off ((hle.trans hle5).trans hle') hn0, Le.off (hle5.trans hle') hwn, hle' _ _ hz5⟩
  let B5 : Bs := ⟨w0, [(g3, .cells #[.int .i64 0] 39 (0, 0))] :: own, H5, fun _ _ => none, 0, [], pkF, fun _ _ h => absurd rfl h, ⟨by intro g hg; simp at hg, hyF5⟩⟩
  refine OdA (x := { B := B5, N := 27, R := _, pan := ?_ }) (List.range 9) rfl ?_ (by exact ⟨by decide +kernel⟩) (fun _ _ => none) H5 [] _ ⟨?_, rfl, by intro b hb; simp at hb, List.nodup_nil, fun _ _ _ => rfl, Le.refl _, VLe.refl _, fun _ _ _ h => absurd rfl h, by intro b hb; simp at hb, Nat.le_refl _⟩ a w ha (hw5.flat (List.Perm.refl _)) (s := ⟨[(1, .a (.c (.d (.p (trd t))))), (2, .a (.c (.d (.p (pgD (jPg t))))))], [], 0⟩)
  · intro a w H' hψ hd0 hle' hw'
    obtain ⟨l1, l2, l3⟩ := hg2n H' hle'
    refine ⟨by simp, fun p2 p3 => ⟨hd0, ?_⟩⟩
    show ftQ t w0 own H (.panic [pkF.pc]) _ w
    rw [h.pc]
    exact fD (hbad hψ) p2 p3 l1 (St.off hw' l3)
  · refine Gs (T := T) 1000 rfl ?_
    refine Cq (kX hok) rfl rfl rfl rfl rfl ⟨rfl, rfl⟩ ?_
    refine Gs (T := T) 1000 rfl ?_
    refine Cs (fun _ => iE hT hB hok) rfl rfl rfl rfl rfl rfl rfl rfl ?_
    refine Gs (T := T) 1000 rfl ?_
    refine Cs (fun _ => diff_Same _ (cD (jPg t)) t (Nat.le_refl _)) rfl rfl rfl rfl rfl rfl rfl rfl ?_
    refine Gs (T := T) 1000 rfl ?_
    refine Ce (cA h.pc (b := ftOk t) hgo) rfl rfl rfl rfl rfl ⟨rfl, rfl⟩ ?_
    rintro _ ⟨rfl, hgood⟩
    refine G (T := T) 1000 rfl ?_
    intro V6 H6 sg6 env6 hs6 a6 w6 ha6 hw6
    refine ⟨by simp, fun p2 p3 => ⟨ha6.defers, ?_⟩⟩
    obtain ⟨l1, l2, l3⟩ := hg2n H6 hs6.le
    have hat6 : At 27 [(2, .pointer (some ⟨g2, 0, none⟩)), (3, .pointer (some ⟨g3, 0, none⟩))] a6 := ⟨ha6.defers, ha6.size, fun i v hv => by
      rcases i with _ | _ | _ | _ | i
      · cases hv
      · cases hv
      · rw [p2, ← hv]; rfl
      · rw [p3, ← hv]; rfl
      · cases hv⟩
    refine (show TCD [dfr g2 g3] Tryz.prog w0 27 (ftQ t w0 own H) _ [(2, .pointer (some ⟨g2, 0, none⟩)), (3, .pointer (some ⟨g3, 0, none⟩))] ([(g2, .cells #[r0b, r1b, r2b] 29 (0, 0))] :: [(g3, .cells #[.int .i64 0] 39 (0, 0))] :: own) (offH H6 g2) from ?_) a6 w6 hat6 (St.off hw6.tail l3)
    have hd6 := hd.mono l2
    have ho := hd6.ones
    refine TCD.reg kp ?_
    refine TL.load_ownA 0 0 [r0b, r1b, r2b] rfl rfl rfl ⟨rfl, rfl, rfl, trivial⟩ rfl rfl ?_
    refine TL.storeA 0 0 (vs := [r0b, r1b, r2b]) rfl rfl rfl rfl rfl ⟨ho r0b (by simp), ho r1b (by simp), ho r2b (by simp), trivial⟩ (by simp) rfl rfl rfl ?_
    refine TL.store1 1 0 rfl rfl rfl rfl rfl (by simp) rfl rfl rfl ?_
    refine TL.nil (TQ.dsq ?_)
    exact fun a w ha hw => wp_ret (ft_ret hgood (ha.slots 2 _ rfl) (ha.slots 3 _ rfl) l1 hd6 hw)
  · intro i v hv
    rcases i with _ | _ | _ | i
    · cases hv
    · cases hv
      exact ⟨_, rfl, by simp only [XV.rel, XA.rel, XC.rel, rd]; exact ⟨g1, 0, rfl, ht5⟩⟩
    · cases hv
      exact ⟨_, rfl, by simp only [XV.rel, XA.rel, XC.rel, rd]; exact ⟨g2, 0, rfl, hq5⟩⟩
    · cases hv
end
end Go.Proofs.YtlmahofogapkgaaGreatDoor.X
namespace Go.Proofs
open Go.Shelf
def Tryz.laysCut_ren : Go.Shelf.Ren := ⟨fun | 145 => 145 | 220 => 177 | 219 => 198 | 217 => 179 | 225 => 217 | 224 => 218 | 267 => 219 | 266 => 201 | 314 => 234 | n => n, fun | 9 => 9 | 4 => 4 | 59 => 210 | 3 => 3 | 5 => 5 | 46 => 203 | 146 => 282 | 51 => 279 | n => n, fun | 1 => 0 | n => n⟩
theorem Tryz.laysCut : Go.Proofs.Lays.n145 Tryz.prog Tryz.laysCut_ren := {
  mixed := by kernel_rfl
  f145 := Tryz.func145.trans (congrArg some (by kernel_rfl))
  f217 := Tryz.func179.trans (congrArg some (by kernel_rfl))
  f219 := Tryz.func198.trans (congrArg some (by kernel_rfl))
  f220 := Tryz.func177.trans (congrArg some (by kernel_rfl))
  f224 := Tryz.func218.trans (congrArg some (by kernel_rfl))
  f225 := Tryz.func217.trans (congrArg some (by kernel_rfl))
  f266 := Tryz.func201.trans (congrArg some (by kernel_rfl))
  f267 := Tryz.func219.trans (congrArg some (by kernel_rfl))
  f314 := Tryz.func234.trans (congrArg some (by kernel_rfl))
  t3 := Tryz.underlying3
  a3 := Tryz.isAgg3
  z3 := Tryz.sizeOf3
  v3 := Tryz.zeroValue3
  t4 := Tryz.underlying4
  a4 := Tryz.isAgg4
  z4 := Tryz.sizeOf4
  v4 := Tryz.zeroValue4
  t5 := Tryz.underlying5
  a5 := Tryz.isAgg5
  z5 := Tryz.sizeOf5
  v5 := Tryz.zeroValue5
  t9 := Tryz.underlying9
  a9 := Tryz.isAgg9
  z9 := Tryz.sizeOf9
  v9 := Tryz.zeroValue9
  t46 := Tryz.underlying203
  a46 := Tryz.isAgg203
  z46 := Tryz.sizeOf203
  v46 := Tryz.zeroValue203
  t51 := Tryz.underlying279
  a51 := Tryz.isAgg279
  z51 := Tryz.sizeOf279
  v51 := Tryz.zeroValue279
  t59 := Tryz.underlying210
  a59 := Tryz.isAgg210
  z59 := Tryz.sizeOf210
  v59 := Tryz.zeroValue210
  t146 := Tryz.underlying282
  a146 := Tryz.isAgg282
  z146 := Tryz.sizeOf282
  v146 := Tryz.zeroValue282
  g1 := by kernel_rfl }
def Tryz.laysAtoi_ren : Go.Shelf.Ren := ⟨fun | 172 => 178 | 244 => 199 | 245 => 200 | 247 => 220 | 279 => 221 | 280 => 222 | 281 => 223 | 282 => 224 | 287 => 235 | 316 => 236 | 171 => 140 | 205 => 237 | 321 => 240 | 322 => 241 | 243 => 173 | 246 => 196 | 283 => 213 | 284 => 214 | 285 => 215 | 286 => 216 | 129 => 230 | 317 => 229 | 318 => 231 | 319 => 232 | 320 => 233 | 337 => 238 | 338 => 239 | n => n, fun | 9 => 9 | 3 => 3 | 75 => 234 | 76 => 235 | 4 => 4 | 5 => 5 | 167 => 267 | 37 => 53 | 0 => 0 | 85 => 268 | 2 => 2 | 168 => 270 | 53 => 262 | 175 => 284 | 46 => 203 | 210 => 287 | 127 => 291 | 145 => 294 | 143 => 292 | 21 => 21 | 171 => 261 | 173 => 265 | 212 => 278 | 51 => 279 | 20 => 20 | 213 => 280 | 232 => 295 | 233 => 296 | 80 => 193 | n => n, fun | 15 => 2 | 16 => 3 | 17 => 1 | 18 => 4 | 19 => 5 | n => n⟩
theorem Tryz.laysAtoi : Go.Proofs.LaysC.n172 Tryz.prog Tryz.laysAtoi_ren := {
  mixed := by kernel_rfl
  f129 := Tryz.func230.trans (congrArg some (by kernel_rfl))
  f171 := Tryz.func140.trans (congrArg some (by kernel_rfl))
  f172 := Tryz.func178.trans (congrArg some (by kernel_rfl))
  f205 := Tryz.func237.trans (congrArg some (by kernel_rfl))
  f243 := Tryz.func173.trans (congrArg some (by kernel_rfl))
  f244 := Tryz.func199.trans (congrArg some (by kernel_rfl))
  f245 := Tryz.func200.trans (congrArg some (by kernel_rfl))
  f246 := Tryz.func196.trans (congrArg some (by kernel_rfl))
  f247 := Tryz.func220.trans (congrArg some (by kernel_rfl))
  f279 := Tryz.func221.trans (congrArg some (by kernel_rfl))
  f280 := Tryz.func222.trans (congrArg some (by kernel_rfl))
  f281 := Tryz.func223.trans (congrArg some (by kernel_rfl))
  f282 := Tryz.func224.trans (congrArg some (by kernel_rfl))
  f283 := Tryz.func213.trans (congrArg some (by kernel_rfl))
  f284 := Tryz.func214.trans (congrArg some (by kernel_rfl))
  f285 := Tryz.func215.trans (congrArg some (by kernel_rfl))
  f286 := Tryz.func216.trans (congrArg some (by kernel_rfl))
  f287 := Tryz.func235.trans (congrArg some (by kernel_rfl))
  f316 := Tryz.func236.trans (congrArg some (by kernel_rfl))
  f317 := Tryz.func229.trans (congrArg some (by kernel_rfl))
  f318 := Tryz.func231.trans (congrArg some (by kernel_rfl))
  f319 := Tryz.func232.trans (congrArg some (by kernel_rfl))
  f320 := Tryz.func233.trans (congrArg some (by kernel_rfl))
  f321 := Tryz.func240.trans (congrArg some (by kernel_rfl))
  f322 := Tryz.func241.trans (congrArg some (by kernel_rfl))
  f337 := Tryz.func238.trans (congrArg some (by kernel_rfl))
  f338 := Tryz.func239.trans (congrArg some (by kernel_rfl))
  t0 := Tryz.underlying0
  a0 := Tryz.isAgg0
  z0 := Tryz.sizeOf0
  v0 := Tryz.zeroValue0
  t2 := Tryz.underlying2
  a2 := Tryz.isAgg2
  z2 := Tryz.sizeOf2
  v2 := Tryz.zeroValue2
  t3 := Tryz.underlying3
  a3 := Tryz.isAgg3
  z3 := Tryz.sizeOf3
  v3 := Tryz.zeroValue3
  t4 := Tryz.underlying4
  a4 := Tryz.isAgg4
  z4 := Tryz.sizeOf4
  v4 := Tryz.zeroValue4
  t5 := Tryz.underlying5
  a5 := Tryz.isAgg5
  z5 := Tryz.sizeOf5
  v5 := Tryz.zeroValue5
  t9 := Tryz.underlying9
  a9 := Tryz.isAgg9
  z9 := Tryz.sizeOf9
  v9 := Tryz.zeroValue9
  t20 := Tryz.underlying20
  a20 := Tryz.isAgg20
  z20 := Tryz.sizeOf20
  v20 := Tryz.zeroValue20
  t21 := Tryz.underlying21
  a21 := Tryz.isAgg21
  z21 := Tryz.sizeOf21
  v21 := Tryz.zeroValue21
  t37 := Tryz.underlying53
  a37 := Tryz.isAgg53
  z37 := Tryz.sizeOf53
  v37 := Tryz.zeroValue53
  t46 := Tryz.underlying203
  a46 := Tryz.isAgg203
  z46 := Tryz.sizeOf203
  v46 := Tryz.zeroValue203
  t51 := Tryz.underlying279
  a51 := Tryz.isAgg279
  z51 := Tryz.sizeOf279
  v51 := Tryz.zeroValue279
  t53 := Tryz.underlying262
  a53 := Tryz.isAgg262
  z53 := Tryz.sizeOf262
  v53 := Tryz.zeroValue262
  t75 := Tryz.underlying234
  a75 := Tryz.isAgg234
  z75 := Tryz.sizeOf234
  v75 := Tryz.zeroValue234
  t76 := Tryz.underlying235
  a76 := Tryz.isAgg235
  z76 := Tryz.sizeOf235
  v76 := Tryz.zeroValue235
  t85 := Tryz.underlying268
  a85 := Tryz.isAgg268
  z85 := Tryz.sizeOf268
  v85 := Tryz.zeroValue268
  t127 := Tryz.underlying291
  a127 := Tryz.isAgg291
  z127 := Tryz.sizeOf291
  v127 := Tryz.zeroValue291
  t143 := Tryz.underlying292
  a143 := Tryz.isAgg292
  z143 := Tryz.sizeOf292
  v143 := Tryz.zeroValue292
  t145 := Tryz.underlying294
  a145 := Tryz.isAgg294
  z145 := Tryz.sizeOf294
  v145 := Tryz.zeroValue294
  t167 := Tryz.underlying267
  a167 := Tryz.isAgg267
  z167 := Tryz.sizeOf267
  v167 := Tryz.zeroValue267
  t168 := Tryz.underlying270
  a168 := Tryz.isAgg270
  z168 := Tryz.sizeOf270
  v168 := Tryz.zeroValue270
  t171 := Tryz.underlying261
  a171 := Tryz.isAgg261
  z171 := Tryz.sizeOf261
  v171 := Tryz.zeroValue261
  t173 := Tryz.underlying265
  a173 := Tryz.isAgg265
  z173 := Tryz.sizeOf265
  v173 := Tryz.zeroValue265
  t175 := Tryz.underlying284
  a175 := Tryz.isAgg284
  z175 := Tryz.sizeOf284
  v175 := Tryz.zeroValue284
  t210 := Tryz.underlying287
  a210 := Tryz.isAgg287
  z210 := Tryz.sizeOf287
  v210 := Tryz.zeroValue287
  t212 := Tryz.underlying278
  a212 := Tryz.isAgg278
  z212 := Tryz.sizeOf278
  v212 := Tryz.zeroValue278
  t213 := Tryz.underlying280
  a213 := Tryz.isAgg280
  z213 := Tryz.sizeOf280
  t232 := Tryz.underlying295
  a232 := Tryz.isAgg295
  z232 := Tryz.sizeOf295
  v232 := Tryz.zeroValue295
  t233 := Tryz.underlying296
  a233 := Tryz.isAgg296
  z233 := Tryz.sizeOf296
  v233 := Tryz.zeroValue296
  g15 := by kernel_rfl
  g16 := by kernel_rfl
  g17 := by kernel_rfl
  g18 := by kernel_rfl
  g19 := by kernel_rfl
  t80 := Tryz.underlying193
  a80 := Tryz.isAgg193
  z80 := Tryz.sizeOf193
  v80 := Tryz.zeroValue193
  i0 := by kernel_rfl
  i2 := by kernel_rfl
  i3 := by kernel_rfl
  i4 := by kernel_rfl
  i5 := by kernel_rfl
  i9 := by kernel_rfl
  i20 := by kernel_rfl
  i21 := by kernel_rfl
  i37 := by kernel_rfl
  i46 := by kernel_rfl
  i51 := by kernel_rfl
  i53 := by kernel_rfl
  i75 := by kernel_rfl
  i76 := by kernel_rfl
  i80 := by kernel_rfl
  i85 := by kernel_rfl
  i127 := by kernel_rfl
  i143 := by kernel_rfl
  i145 := by kernel_rfl
  i167 := by kernel_rfl
  i168 := by kernel_rfl
  i171 := by kernel_rfl
  i173 := by kernel_rfl
  i175 := by kernel_rfl
  i210 := by kernel_rfl
  i212 := by kernel_rfl
  i232 := by kernel_rfl
  i233 := by kernel_rfl
  m15 := by kernel_rfl
  m16 := by kernel_rfl
  m17 := by kernel_rfl
  m18 := by kernel_rfl
  m19 := by kernel_rfl
  c0 := by kernel_rfl
  c2 := by kernel_rfl
  c3 := by kernel_rfl
  c4 := by kernel_rfl
  c5 := by kernel_rfl
  c9 := by kernel_rfl
  c20 := by kernel_rfl
  c21 := by kernel_rfl
  c37 := by kernel_rfl
  c46 := by kernel_rfl
  c51 := by kernel_rfl
  c53 := by kernel_rfl
  c75 := by kernel_rfl
  c76 := by kernel_rfl
  c80 := by kernel_rfl
  c85 := by kernel_rfl
  c127 := by kernel_rfl
  c143 := by kernel_rfl
  c145 := by kernel_rfl
  c167 := by kernel_rfl
  c168 := by kernel_rfl
  c171 := by kernel_rfl
  c173 := by kernel_rfl
  c175 := by kernel_rfl
  c210 := by kernel_rfl
  c212 := by kernel_rfl
  c213 := by kernel_rfl
  c232 := by kernel_rfl
  c233 := by kernel_rfl }
def Tryz.laysIdx_ren : Go.Shelf.Ren := ⟨fun | 137 => 147 | 217 => 179 | 266 => 201 | n => n, fun | 9 => 9 | 5 => 5 | 3 => 3 | n => n, fun | n => n⟩
theorem Tryz.laysIdx : Go.Proofs.Lays.n137 Tryz.prog Tryz.laysIdx_ren := {
  mixed := by kernel_rfl
  f137 := Tryz.func147.trans (congrArg some (by kernel_rfl))
  f217 := Tryz.func179.trans (congrArg some (by kernel_rfl))
  f266 := Tryz.func201.trans (congrArg some (by kernel_rfl))
  t3 := Tryz.underlying3
  a3 := Tryz.isAgg3
  z3 := Tryz.sizeOf3
  v3 := Tryz.zeroValue3
  t5 := Tryz.underlying5
  a5 := Tryz.isAgg5
  z5 := Tryz.sizeOf5
  v5 := Tryz.zeroValue5
  t9 := Tryz.underlying9
  a9 := Tryz.isAgg9
  z9 := Tryz.sizeOf9
  v9 := Tryz.zeroValue9 }
end Go.Proofs
namespace Go.Proofs.YtlmahofogapkgaaGreatDoor.X
open Go Go.RowKit Go.Proofs K
theorem idx_cut : ∀ l : List UInt8, Lib.index l [32] = if co l < l.length then (co l : Int) else -1
  | [] => rfl
  | b :: r => by
    unfold Lib.index
    rw [idx_cut r]
    by_cases h : b = 32
    · subst h
      simp [co, List.isPrefixOf]
    · have h1 : ([32] : List UInt8).isPrefixOf (b :: r) = false := by simp [List.isPrefixOf, Ne.symm h]
      have hc : co (b :: r) = co r + 1 := by rw [co, if_neg h]
      rw [h1, hc, List.length_cons]
      by_cases h2 : co r < r.length
      · have h3 : ((co r : Int) == -1) = false := by rw [beq_eq_false_iff_ne]; omega
        rw [if_pos h2, if_pos (show co r + 1 < r.length + 1 by omega)]
        simp [h3]
      · rw [if_neg h2, if_neg (show ¬ co r + 1 < r.length + 1 by omega)]
        simp
theorem lib_cut (l : List UInt8) : Lib.cut l [32] = (l.take (co l), l.drop (co l + 1), decide (co l < l.length)) := by
  have h0 := cutN_le l
  unfold Lib.cut
  rw [idx_cut]
  by_cases h : co l < l.length
  · rw [if_pos h, if_pos (by omega), decide_eq_true h]
    simp
  · rw [if_neg h, if_neg (by decide), decide_eq_false h, List.take_of_length_le (by omega), List.drop_of_length_le (by omega)]
theorem oc : ∀ (l : List UInt8) (acc u : Nat), Lib.parseUint10 acc l = .ok u → dT l acc = some u
  | [], acc, u, h => by simp only [Lib.parseUint10] at h; injection h with h; rw [dT, h]
  | c :: r, acc, u, h => by
    simp only [Lib.parseUint10] at h
    split at h
    · rename_i h1
      split at h
      · cases h
      · split at h
        · cases h
        · rw [dT, if_pos h1]; exact oc r _ u h
    · cases h
def synE {α : Type} : Lib.NumEnd α → Prop
  | .ok _ => False
  | .range => False
  | _ => True
theorem lm : ∀ (l : List UInt8) (acc : Nat), synE (Lib.parseUint10 acc l) → dT l acc = none
  | [], acc, h => by simp only [Lib.parseUint10] at h; exact h.elim
  | c :: r, acc, h => by
    simp only [Lib.parseUint10] at h
    split at h
    · rename_i h1
      split at h
      · exact h.elim
      · split at h
        · exact h.elim
        · rw [dT, if_pos h1]; exact lm r _ h
    · rename_i h1; rw [dT, if_neg h1]
theorem dig_ge : ∀ (l : List UInt8) (acc u : Nat), dT l acc = some u → acc ≤ u
  | [], acc, u, h => by simp only [dT] at h; injection h with h; omega
  | c :: r, acc, u, h => by
    simp only [dT] at h
    split at h
    · have := dig_ge r _ u h; omega
    · cases h
theorem ln : ∀ (l : List UInt8) (acc u : Nat), Lib.parseUint10 acc l = .range → dT l acc = some u → 18446744073709551616 ≤ u
  | [], acc, u, h, _ => by simp only [Lib.parseUint10] at h; cases h
  | c :: r, acc, u, h, hd => by
    simp only [Lib.parseUint10] at h
    split at h
    · rename_i h1
      rw [dT, if_pos h1] at hd
      have h2 := dig_ge r _ u hd
      split at h
      · omega
      · split at h
        · omega
        · exact ln r _ u h hd
    · cases h
theorem sgn_cons (c : UInt8) (r : List UInt8) : sgnV (c :: r) = (dy (if c.toNat = 43 ∨ c.toNat = 45 then r else c :: r)).map fun n : Nat => if c.toNat = 45 then -(n : Int) else (n : Int) := by
  have hc : ∀ k : UInt8, c.toNat = k.toNat → c = k := fun k h => UInt8.toNat_inj.1 h
  by_cases h1 : c.toNat = 45
  · have := hc 45 h1; subst this
    simp only [sgnV]
    show _ = Option.map _ (dy r)
    cases dy r <;> rfl
  · by_cases h2 : c.toNat = 43
    · have := hc 43 h2; subst this
      simp only [sgnV]
      show _ = Option.map _ (dy r)
      cases dy r <;> rfl
    · rw [if_neg (by omega)]
      simp only [if_neg h1]
      unfold sgnV
      split
      · rename_i e; injection e with e _; subst e; exact absurd rfl h1
      · rename_i e; injection e with e _; subst e; exact absurd rfl h2
      · cases dy (c :: r) <;> rfl
theorem mag_ok {l : List UInt8} {u : Nat} (h : Lib.parseMag l = .ok u) : dy l = some u := by
  unfold Lib.parseMag at h
  split at h
  · cases h
  · rename_i h1; rw [dy, if_neg h1]; exact oc _ _ _ h
theorem mag_syn {l : List UInt8} (h : synE (Lib.parseMag l)) : dy l = none := by
  unfold Lib.parseMag at h
  split at h
  · rename_i h1; rw [dy, if_pos h1]
  · rename_i h1; rw [dy, if_neg h1]; exact lm _ _ h
theorem mag_rng {l : List UInt8} {u : Nat} (h : Lib.parseMag l = .range) (hu : dy l = some u) : 18446744073709551616 ≤ u := by
  unfold Lib.parseMag at h
  split at h
  · cases h
  · rename_i h1; rw [dy, if_neg h1] at hu; exact ln _ _ _ h hu
theorem atoi_all (s : ByteArray) : (∃ v, Lib.atoiAll s.data.toList = .ok v ∧ aR s = some v) ∨ ((synE (Lib.atoiAll s.data.toList) ∨ Lib.atoiAll s.data.toList = .range) ∧ aR s = none) := by
  unfold aR
  generalize s.data.toList = l
  cases l with
  | nil => exact .inr ⟨.inl trivial, by simp [sgnV, dy]⟩
  | cons c r =>
    rw [sgn_cons]
    simp only [Lib.atoiAll]
    generalize (if c.toNat = 43 ∨ c.toNat = 45 then r else c :: r) = m
    by_cases hy : synE (Lib.parseMag m)
    · rw [mag_syn hy]
      refine .inr ⟨.inl ?_, rfl⟩
      revert hy
      cases Lib.parseMag m <;> intro hy <;> first | trivial | exact hy.elim
    cases hm : Lib.parseMag m with
    | ok u =>
      rw [mag_ok hm]
      simp only [Option.map_some, Option.bind_some]
      by_cases hc : c.toNat = 45
      · simp only [hc, not_true, false_and, if_false, true_and, if_true]
        by_cases h1 : 9223372036854775808 < u
        · rw [if_pos h1]; exact .inr ⟨.inr rfl, by (try dsimp only); exact if_neg (by omega)⟩
        · rw [if_neg h1]; exact .inl ⟨_, rfl, by (try dsimp only); exact if_pos (by omega)⟩
      · simp only [hc, not_false_iff, true_and, false_and, if_false]
        by_cases h1 : 9223372036854775808 ≤ u
        · rw [if_pos h1]; exact .inr ⟨.inr rfl, by (try dsimp only); exact if_neg (by omega)⟩
        · rw [if_neg h1]; exact .inl ⟨_, rfl, by (try dsimp only); exact if_pos (by omega)⟩
    | range =>
      refine .inr ⟨.inr rfl, ?_⟩
      cases hu : dy m with
      | none => rfl
      | some u =>
        have := mag_rng hm hu
        simp only [Option.map_some, Option.bind_some]
        split <;> (try dsimp only)
        · exact if_neg (by omega)
        · exact if_neg (by omega)
    | _ => rw [hm] at hy; exact absurd trivial hy
theorem hex_at (b : UInt8) : Lib.indexByte [48, 49, 50, 51, 52, 53, 54, 55, 56, 57, 97, 98, 99, 100, 101, 102] b = match cp b with | some d => (d : Int) | none => -1 := by
  have h : ∀ n, n < 256 → Lib.indexByte [48, 49, 50, 51, 52, 53, 54, 55, 56, 57, 97, 98, 99, 100, 101, 102] (UInt8.ofNat n) = match cp (UInt8.ofNat n) with | some d => (d : Int) | none => -1 := by decide +kernel
  have := h b.toNat b.toNat_lt
  rwa [UInt8.ofNat_toNat] at this
section
open Go Go.RowKit Go.Proofs K
structure VarH (H : Hp) : Prop where
  mx : ∃ m e fz, H 0 = some (.cells #[.int .i64 m] e fz)
  sy : ∃ ev e fz, H 2 = some (.cells #[ev] e fz) ∧ (ev = .nilIface ∨ ∃ te pe, ev = .iface te pe)
  rg : ∃ ev e fz, H 3 = some (.cells #[ev] e fz) ∧ (ev = .nilIface ∨ ∃ te pe, ev = .iface te pe)
theorem VarH.mono {H H' : Hp} (hl : Le H H') (h : VarH H) : VarH H' := by
  obtain ⟨⟨m, e, fz, h1⟩, ⟨ev, e2, fz2, h2, h3⟩, ⟨ev3, e3, fz3, h4, h5⟩⟩ := h
  exact ⟨⟨m, e, fz, hl _ _ h1⟩, ⟨ev, e2, fz2, hl _ _ h2, h3⟩, ⟨ev3, e3, fz3, hl _ _ h4, h5⟩⟩
theorem St.below {w0 w w' : World} {own : List Seg} {H : Hp} (h : St w0 H own w) (b : Below w.heap.size w w') : St w0 H own w' := by
  have up : ∀ {k : Nat} {o : Obj}, w.heap[k]? = some o → w'.heap[k]? = some o := fun {k} {o} hk => by rw [b.block k (Array.getElem?_eq_some_iff.1 hk).1, hk]
  exact ⟨b.os.trans h.os, ⟨b.tape.trans h.tape.1, Nat.zero_le _⟩, b.output.trans h.output, fun k o hk => up (h.imm k o hk), fun p hp => up (h.own_at p hp), h.apart, h.nodup⟩
section
variable {P : Program} {pk : Pk} {f : FuncId} {args : List XV} {Ψ : XV → Prop}
theorem XP.ofFn (hcl : Callable P f) (hp : ∀ r, Ψ r → pure r = true) (h : ∀ w0 own H V vals, pk.hy H → XVs.rels V H args vals → K.Fn P f vals w0 H own (fun r o H' => (∃ R, Ψ R ∧ R.rel V H' r) ∧ o = own ∧ Le H H')) (ha : XVs.all (fun _ _ => false) args = true := by rfl) : XP P pk f args Ψ := by
  refine ⟨ha, hp, hcl, ?_⟩
  rintro ⟨w0, own, H, V, nx0, F, pk', v0, hF⟩ rfl rfl rfl sg vals hr hh ht w hw
  have hsg := HR0 hh
  subst hsg
  refine Calls.mono (h w0 ([] :: own) H V vals hF.2 hr w hw) ?_
  rintro e w' ⟨r, o, H', rfl, ⟨⟨R, q1, h1⟩, rfl, h2⟩, h3⟩
  have hn : ∀ g t, V g t = none := fun g t => by
    cases hv : V g t with
    | none => rfl
    | some i => have := (v0 g t (by rw [hv]; simp)).2; simp [aa] at this
  exact .inl ⟨r, R, [], V, H', [], rfl, ⟨q1, rfl⟩, h1, rfl, by intro b hb; simp at hb, List.nodup_nil, by intro b hb; simp at hb, VLe.refl _, fun g t _ => hn g t, fun g t _ k => absurd (hn g t) k, h2, h3⟩
end
variable {pk : Pk}
theorem std_Cut (hV : ∀ H, pk.hy H → VarH H) {s : ByteArray} (hs : s.size ≤ 1000000000) : XQ Tryz.prog pk 145 [xs s, xs ⟨#[32]⟩] (.t [xs' (ad s), xs' (ah s), xb' (decide (co s.data.toList < s.data.toList.length))]) := XQ.ofFn inferInstance (fun w0 own H V vals hy hv => by
  match vals, hv with
  | [v, u], hv =>
    have := aP hv.1; subst this
    have := aP hv.2.1; subst this
    obtain ⟨m, e, fz, hm⟩ := (hV H hy).mx
    intro w hw
    have hb := hw.imm _ _ hm
    refine Calls.mono (Any.strings_Cut Tryz.laysCut s ⟨#[32]⟩ m w (by omega) (by show w.cell? ⟨0, 0, none⟩ = _; simp [World.cell?, hb])) ?_
    rintro e w' ⟨rfl, n, rfl⟩
    rw [lib_cut]
    refine ⟨_, own, H, rfl, ⟨⟨_, rfl, ?_⟩, rfl, Le.refl _⟩, ⟨hw.os, ⟨hw.tape.1, Nat.zero_le _⟩, hw.output, hw.imm, hw.own_at, hw.apart, hw.nodup⟩⟩
    skip
    exact ⟨⟨rfl, rfl⟩, ⟨rfl, rfl⟩, ⟨rfl, rfl⟩, trivial⟩)
theorem std_Atoi (hV : ∀ H, pk.hy H → VarH H) {s : ByteArray} (hs : s.size ≤ 1000000000) : XP Tryz.prog pk 178 [xs s] (fun r => (∃ n, aR s = some n ∧ r = .t [xi' n, .c (.d (.c .nilIface))]) ∨ (aR s = none ∧ ∃ n t v, r = .t [xi' n, .c (.d (.c (.iface t v)))])) := XP.ofFn inferInstance (by rintro r (⟨n, _, rfl⟩ | ⟨_, n, t, v, rfl⟩) <;> rfl) (fun w0 own H V vals hy hv => by
  match vals, hv with
  | [v], hv =>
    have := aP hv.1; subst this
    obtain ⟨ev, e, fz, hm, hev⟩ := (hV H hy).sy
    obtain ⟨ev2, e2, fz2, hm2, hev2⟩ := (hV H hy).rg
    intro w hw
    have hb := hw.imm _ _ hm
    have hb2 := hw.imm _ _ hm2
    rcases atoi_all s with ⟨v, h1, h2⟩ | ⟨h1 | h1, h2⟩
    · refine Calls.mono (Any.strconv_Atoi_ok Tryz.laysAtoi s (by omega) v h1 w) ?_
      rintro e w' ⟨rfl, hw'⟩
      refine ⟨_, own, H, rfl, ⟨⟨_, .inl ⟨v, h2, rfl⟩, ⟨_, rfl, ?_⟩⟩, rfl, Le.refl _⟩, ?_⟩
      · skip
        exact ⟨⟨rfl, rfl⟩, ⟨rfl, rfl⟩, trivial⟩
      · rcases hw' with rfl | ⟨t, rfl⟩
        · exact hw
        · exact St.below hw (Lib.bytesWorld_below _ _ _)
    · refine Calls.mono (Any.strconv_Atoi_syntax Tryz.laysAtoi s (by omega) (by revert h1; cases Lib.atoiAll s.data.toList <;> intro h1 <;> first | rfl | exact h1.elim) ev w (by show w.cell? ⟨2, 0, none⟩ = _; simp [World.cell?, hb]) hev) ?_
      rintro e w' ⟨N, rfl, _, _, hbl⟩
      refine ⟨_, own, H, rfl, ⟨⟨_, .inr ⟨h2, 0, Tryz.laysAtoi_ren.t 168, .pointer (some ⟨N, 0, none⟩), rfl⟩, ⟨_, rfl, ?_⟩⟩, rfl, Le.refl _⟩, St.below hw hbl⟩
      skip
      exact ⟨⟨rfl, rfl⟩, ⟨rfl, rfl⟩, trivial⟩
    · refine Calls.mono (Any.strconv_Atoi_range Tryz.laysAtoi s (by omega) h1 ev2 w (by show w.cell? ⟨3, 0, none⟩ = _; simp [World.cell?, hb2]) hev2) ?_
      rintro e w' ⟨N, rfl, _, _, hbl⟩
      refine ⟨_, own, H, rfl, ⟨⟨_, .inr ⟨h2, Lib.atoiSat s.data.toList, Tryz.laysAtoi_ren.t 168, .pointer (some ⟨N, 0, none⟩), rfl⟩, ⟨_, rfl, ?_⟩⟩, rfl, Le.refl _⟩, St.below hw hbl⟩
      skip
      exact ⟨⟨rfl, rfl⟩, ⟨rfl, rfl⟩, trivial⟩)
theorem std_Idx (b : UInt8) : XQ Tryz.prog pk 147 [xs ⟨#[48, 49, 50, 51, 52, 53, 54, 55, 56, 57, 97, 98, 99, 100, 101, 102]⟩, xv (.int .u8 (b.toNat : Int))] (xi (hexI b)) := XQ.ofFn inferInstance (fun w0 own H V vals hy hv => by
  match vals, hv with
  | [v, u], hv =>
    have := aP hv.1; subst this
    have := aP hv.2.1; subst this
    intro w hw
    refine Calls.mono (Any.strings_IndexByte Tryz.laysIdx _ (b.toNat : Int) w) ?_
    rintro e w' ⟨rfl, rfl⟩
    rw [show ((b.toNat : Int).toNat.toUInt8) = b by simp, show (ByteArray.mk #[48, 49, 50, 51, 52, 53, 54, 55, 56, 57, 97, 98, 99, 100, 101, 102]).data.toList = [48, 49, 50, 51, 52, 53, 54, 55, 56, 57, 97, 98, 99, 100, 101, 102] from rfl, hex_at]
    refine ⟨_, own, H, rfl, ⟨?_, rfl, Le.refl _⟩, hw⟩
    simp only [XV.rel, XA.rel, XC.rel, rd, hexI]
    exact ⟨rfl, rfl⟩)
theorem ftk_of (hV : ∀ H, pk.hy H → VarH H) (hp : pk.pc = wrg) : FTk pk := ⟨hp, fun _ hs => std_Cut hV hs, fun _ hs => std_Atoi hV hs, std_Idx⟩
end
mutual
def lbM : Tr → Prop
  | .node l ks => l.size ≤ 1000000 ∧ cH ks
def cH : List Tr → Prop
  | [] => True
  | t :: r => lbM t ∧ cH r
end
theorem ku : ∀ {l : List Tr} {t : Tr}, cH l → t ∈ l → lbM t
  | u :: us, t, h, hm => by
    rcases List.mem_cons.1 hm with rfl | hm
    · exact h.1
    · exact ku h.2 hm
theorem jb (s : ByteArray) : (ah s).size ≤ s.size := by
  have e2 : s.data.toList.length = s.size := rfl
  rw [ah, bb_len, List.length_drop]; omega
theorem numJ_I (s : ByteArray) : I64 (eZ s) := by
  unfold eZ aR
  cases sgnV s.data.toList with
  | none => exact ⟨by decide, by decide⟩
  | some n =>
    simp only [Option.bind_some]
    split
    · rename_i h; exact h
    · exact ⟨by decide, by decide⟩
theorem il : ∀ t : Tr, lbM t → (jTy t).ok ∧ (jTy t).size ≤ 2 * t.size
  | .node L ks, h => by
    have hp := jb L
    have hL := h.1
    have hsz : 0 < (Tr.node L ks).size := Tr.size_pos _
    have h0 : ∀ (k : Int) (nm : ByteArray), I64 k → nm.size ≤ 1000000 → (Ty4.mk k nm 0 []).ok ∧ (Ty4.mk k nm 0 []).size ≤ 2 * (Tr.node L ks).size := fun k nm hk hn => ⟨⟨hk, hn, ⟨by omega, by omega⟩, trivial⟩, by simp only [Ty4.size, Ty4.sizes]; omega⟩
    rw [jTy_eq]
    split
    · exact h0 _ _ ⟨by omega, by omega⟩ (by decide)
    split
    · exact h0 _ _ ⟨by omega, by omega⟩ (by decide)
    split
    · exact h0 _ _ ⟨by omega, by omega⟩ (by decide)
    split
    · exact h0 _ _ ⟨by omega, by omega⟩ (by decide)
    split
    · exact h0 _ _ ⟨by omega, by omega⟩ (by omega)
    have h1 : (hdJ ks).ok ∧ (hdJ ks).size + 1 ≤ 2 * (Tr.node L ks).size := by
      match ks, h with
      | [], _ => exact ⟨⟨⟨by omega, by omega⟩, by decide, ⟨by omega, by omega⟩, trivial⟩, by simp [hdJ, Ty4.size, Ty4.sizes, Tr.size, Tr.sizes]⟩
      | k :: r, h =>
        have := il k h.2.1
        refine ⟨this.1, ?_⟩
        have h2 := this.2
        show (jTy k).size + 1 ≤ _
        simp only [Tr.size, Tr.sizes]; omega
    refine ⟨⟨?_, by decide, numJ_I _, h1.1, trivial⟩, ?_⟩
    · split <;> exact ⟨by omega, by omega⟩
    · simp only [Ty4.size, Ty4.sizes]; omega
theorem dJ (n : Int) : 0 ≤ IntKind.u16.wrap n ∧ IntKind.u16.wrap n ≤ 65535 := by
  unfold IntKind.wrap
  simp [IntKind.bits, IntKind.signed] <;> omega
theorem bU {w : ByteArray} : ∀ {l : List (Int × ByteArray)} {k : Int}, aB l w = some k → ∃ p ∈ l, p.1 = k
  | [], _, h => by cases h
  | (n, a) :: r, k, h => by
    simp only [aB] at h
    split at h
    · cases h; exact ⟨_, List.mem_cons_self .., rfl⟩
    · obtain ⟨p, h1, h2⟩ := bU h
      exact ⟨p, List.mem_cons_of_mem _ h1, h2⟩
theorem exK_I {w : ByteArray} {k : Int} (h : aB gZ w = some k) : I64 k := by
  obtain ⟨p, h1, rfl⟩ := bU h
  have : ∀ p ∈ gZ, I64 p.1 := by decide +kernel
  exact this p h1
theorem smK_I {w : ByteArray} {k : Int} (h : aB cq w = some k) : I64 k := by
  obtain ⟨p, h1, rfl⟩ := bU h
  have : ∀ p ∈ cq, I64 p.1 := by decide +kernel
  exact this p h1
mutual
theorem jEx_ok : ∀ t : Tr, lbM t → (jEx t).ok ∧ (jEx t).size ≤ t.size
  | .node L ks, h => by
    have hp := jb L
    have hL := h.1
    have hk := mY ks h.2
    rw [jEx]
    split
    · exact ⟨⟨⟨by omega, by omega⟩, by decide, ⟨by omega, by omega⟩, trivial⟩, by simp only [Ex.size, Ex.sizes, Tr.size]; omega⟩
    · rename_i k hlk
      split
      · exact ⟨⟨exK_I hlk, by decide, dJ _, hk.1⟩, by simp only [Ex.size, Tr.size]; omega⟩
      · exact ⟨⟨exK_I hlk, by omega, ⟨by omega, by omega⟩, hk.1⟩, by simp only [Ex.size, Tr.size]; omega⟩
theorem mY : ∀ l : List Tr, cH l → Ex.oks (gD l) ∧ Ex.sizes (gD l) ≤ Tr.sizes l
  | [], _ => ⟨trivial, Nat.le_refl _⟩
  | t :: r, h => by
    have h1 := jEx_ok t h.1
    have h2 := mY r h.2
    exact ⟨⟨h1.1, h2.1⟩, by simp only [gD, Ex.sizes, Tr.sizes]; omega⟩
end
theorem gI : ∀ {cs : List (List Sm)} (i : Nat), Sm.okc cs → Sm.oks (dc cs i)
  | [], i, _ => by simp [dc, Sm.oks]
  | c :: r, 0, h => h.1
  | c :: r, i + 1, h => gI (cs := r) i h.2
theorem od : ∀ {cs : List (List Sm)} (i : Nat), Sm.okc cs → Sm.okc (cs.take i)
  | [], i, h => by simpa using h
  | c :: r, 0, _ => trivial
  | c :: r, i + 1, h => ⟨h.1, od i h.2⟩
theorem oe : ∀ {cs : List (List Sm)} (i : Nat), Sm.okc cs → Sm.okc (cs.drop i)
  | [], i, h => by simpa using h
  | c :: r, 0, h => h
  | c :: r, i + 1, h => oe (cs := r) i h.2
theorem im : ∀ {ks : List Tr} (i : Nat), cH ks → lbM (fb ks i)
  | [], i, _ => by
    show lbM ((([] : List Tr)[i]?).getD _)
    exact ⟨by decide, trivial⟩
  | k :: r, 0, h => h.1
  | k :: r, i + 1, h => im (ks := r) i h.2
theorem oV {ks : List Tr} (h : cH ks) : Ex.oks (ks.map jEx) := by rw [← eH]; exact (mY ks h).1
theorem jSmK_o {k : Int} {p : ByteArray} {ks : List Tr} {ss : List Sm} {cs : List (List Sm)} (hk : I64 k) (hp : p.size ≤ 1000000) (hks : cH ks) (hss : Sm.oks ss) (hcs : Sm.okc cs) : (dH k p ks ss cs).ok := by
  have h0 : ∀ i, (jEx (fb ks i)).ok := fun i => (jEx_ok _ (im i hks)).1
  have he := oV hks
  have z : I64 0 := ⟨by omega, by omega⟩
  have zr : (0 : Int) ≤ 0 ∧ (0 : Int) ≤ 65535 := ⟨by omega, by omega⟩
  have e0 : (K.eS : ByteArray).size ≤ 1000000 := by decide
  unfold dH
  split
  · exact ⟨⟨by omega, by omega⟩, hp, (il _ (im 0 hks)).1, zr, ⟨h0 1, trivial⟩, trivial, trivial, trivial⟩
  split
  · exact ⟨⟨by omega, by omega⟩, e0, aV, zr, ⟨h0 0, trivial⟩, gI 1 hcs, gI 2 hcs, trivial⟩
  split
  · exact ⟨⟨by omega, by omega⟩, hp, aV, zr, ⟨h0 0, trivial⟩, gI 1 hcs, trivial, trivial⟩
  split
  · exact ⟨hk, hp, aV, zr, trivial, hss, trivial, trivial⟩
  split
  · exact ⟨hk, hp, aV, zr, trivial, trivial, trivial, trivial⟩
  split
  · exact ⟨⟨by omega, by omega⟩, e0, aV, zr, ⟨h0 0, trivial⟩, trivial, gI _ hcs, oe 1 (od _ hcs)⟩
  split
  · exact ⟨hk, e0, aV, zr, trivial, trivial, trivial, trivial⟩
  split
  · exact ⟨⟨by omega, by omega⟩, e0, aV, dJ _, he, trivial, trivial, trivial⟩
  · exact ⟨hk, e0, aV, zr, he, trivial, trivial, trivial⟩
mutual
theorem jSm_o : ∀ t : Tr, lbM t → (jSm t).ok
  | .node L ks, h => by
    have hp := jb L
    have hL := h.1
    have h1 := mZ ks h.2
    have h2 := jKs_o ks h.2
    rw [jSm]
    split
    · exact ⟨⟨by omega, by omega⟩, by decide, aV, ⟨by omega, by omega⟩, trivial, trivial, trivial, trivial⟩
    · rename_i k hlk
      exact jSmK_o (smK_I hlk) (by omega) h.2 h1 h2
theorem mZ : ∀ l : List Tr, cH l → Sm.oks (jSms l)
  | [], _ => trivial
  | t :: r, h => ⟨jSm_o t h.1, mZ r h.2⟩
theorem jKs_o : ∀ l : List Tr, cH l → Sm.okc (jKs l)
  | [], _ => trivial
  | .node _ ks :: r, h => ⟨mZ ks h.1.2, jKs_o r h.2⟩
end
theorem eW : ∀ (ks : List Tr) (i : Nat), (fb ks i).size ≤ Tr.sizes ks + 1
  | [], i => by
    show ((([] : List Tr)[i]?).getD uJ).size ≤ _
    simp [uJ, Tr.size, Tr.sizes]
  | k :: r, 0 => by show k.size ≤ _; simp only [Tr.sizes]; omega
  | k :: r, i + 1 => by
    have := eW r i
    show (fb r i).size ≤ _
    simp only [Tr.sizes]; omega
theorem jE_kid : ∀ (ks : List Tr), (jEx (fb ks 0)).size ≤ Ex.sizes (ks.map jEx) + 1
  | [] => by decide +kernel
  | k :: r => by show (jEx k).size ≤ _; simp only [List.map_cons, Ex.sizes]; omega
theorem cs_two : ∀ (c : List (List Sm)), Sm.sizes (dc c 1) + Sm.sizes (dc c 2) ≤ Sm.csizes c
  | [] => by simp [dc, Sm.sizes]
  | [_] => by simp [dc, Sm.sizes]
  | [_, b] => by simp [dc, Sm.sizes, Sm.csizes]; omega
  | a :: b :: d :: r => by simp [dc, Sm.csizes]; omega
theorem cs_last : ∀ (c : List (List Sm)) (m : Nat), Sm.csizes (c.take m) + Sm.sizes (dc c m) ≤ Sm.csizes c
  | [], m => by simp [dc, Sm.sizes, Sm.csizes]
  | a :: r, 0 => by simp [dc, Sm.csizes]; omega
  | a :: r, m + 1 => by
    have := cs_last r m
    show Sm.csizes (a :: r.take m) + Sm.sizes (dc r m) ≤ _
    simp only [Sm.csizes]; omega
theorem cs_drop : ∀ (c : List (List Sm)), Sm.csizes (c.drop 1) ≤ Sm.csizes c
  | [] => Nat.le_refl _
  | a :: r => by show Sm.csizes r ≤ _; simp only [Sm.csizes]; omega
theorem jSmK_s {k : Int} {p : ByteArray} {ks : List Tr} {ss : List Sm} {cs : List (List Sm)} (hks : cH ks) (hA : Ex.sizes (ks.map jEx) + Sm.sizes ss ≤ 6 * Tr.sizes ks) (hB : Ex.sizes (ks.map jEx) + Sm.csizes cs ≤ 6 * Tr.sizes ks) : (dH k p ks ss cs).size ≤ 6 * Tr.sizes ks + 5 := by
  have z : ty4z.size = 1 := by decide
  have e0 := jE_kid ks
  have t0 := (il _ (im 0 hks)).2
  have k0 := eW ks 0
  have x1 := (jEx_ok _ (im 1 hks)).2
  have k1 := eW ks 1
  have h2 := cs_two cs
  have h3 := cs_last cs (ks.length - 1)
  have h4 := cs_drop (cs.take (ks.length - 1))
  unfold dH
  split
  · simp only [Sm.size, Ex.sizes, Sm.sizes, Sm.csizes]; omega
  split
  · simp only [Sm.size, Ex.sizes, Sm.sizes, Sm.csizes, z]; omega
  split
  · simp only [Sm.size, Ex.sizes, Sm.sizes, Sm.csizes, z]; omega
  split
  · simp only [Sm.size, Ex.sizes, Sm.sizes, Sm.csizes, z]; omega
  split
  · simp only [Sm.size, Ex.sizes, Sm.sizes, Sm.csizes, z]; omega
  split
  · simp only [Sm.size, Ex.sizes, Sm.sizes, Sm.csizes, z]; omega
  split
  · simp only [Sm.size, Ex.sizes, Sm.sizes, Sm.csizes, z]; omega
  split
  · simp only [Sm.size, Ex.sizes, Sm.sizes, Sm.csizes, z]; omega
  · simp only [Sm.size, Ex.sizes, Sm.sizes, Sm.csizes, z]; omega
theorem og {w : ByteArray} {k : Int} (h : aB gZ w = some k) : aB cq w = none := by
  have key : ∀ {l : List (Int × ByteArray)}, aB l w = some k → ∃ p ∈ l, p.2 = w := by
    intro l
    induction l with
    | nil => intro h; cases h
    | cons a r ih =>
      intro h
      obtain ⟨n, a⟩ := a
      simp only [aB] at h
      split at h
      · rename_i e; exact ⟨_, List.mem_cons_self .., e⟩
      · obtain ⟨p, h1, h2⟩ := ih h
        exact ⟨p, List.mem_cons_of_mem _ h1, h2⟩
  obtain ⟨p, h1, rfl⟩ := key h
  have : ∀ p ∈ gZ, aB cq p.2 = none := by decide +kernel
  exact this p h1
mutual
theorem gB : ∀ t : Tr, lbM t → (jEx t).size + (jSm t).size ≤ 6 * t.size
  | .node L ks, h => by
    have h1 := gBs ks h.2
    have h2 := gKs ks h.2
    cases hx : aB gZ (ad L) with
    | some k =>
      rw [jSm, og hx]
      have e1 : (jEx (.node L ks)).size = Ex.sizes (gD ks) + 1 := by
        rw [jEx, hx]
        show Ex.size (if ce k = true then _ else _) = _
        split <;> rfl
      rw [e1]
      have e2 : (Sm.mk 0 K.eS ty4z 0 [] [] [] []).size = 2 := by decide
      show _ + (Sm.mk 0 K.eS ty4z 0 [] [] [] []).size ≤ _
      rw [e2]
      simp only [Tr.size]; omega
    | none =>
      have e1 : (jEx (.node L ks)).size = 1 := by
        rw [jEx, hx]; rfl
      rw [e1, jSm]
      split
      · have e2 : (Sm.mk 0 K.eS ty4z 0 [] [] [] []).size = 2 := by decide
        rw [e2]
        simp only [Tr.size]; omega
      · have := jSmK_s (k := ‹Int›) (p := ah L) h.2 (by rw [← eH]; exact h1) (by rw [← eH]; exact h2)
        simp only [Tr.size]; omega
theorem gBs : ∀ l : List Tr, cH l → Ex.sizes (gD l) + Sm.sizes (jSms l) ≤ 6 * Tr.sizes l
  | [], _ => Nat.le_refl _
  | t :: r, h => by
    have h1 := gB t h.1
    have h2 := gBs r h.2
    simp only [gD, jSms, Ex.sizes, Sm.sizes, Tr.sizes]; omega
theorem gKs : ∀ l : List Tr, cH l → Ex.sizes (gD l) + Sm.csizes (jKs l) ≤ 6 * Tr.sizes l
  | [], _ => Nat.le_refl _
  | .node L ks :: r, h => by
    have h1 := gBs ks h.1.2
    have h2 := gKs r h.2
    have h3 : (jEx (.node L ks)).size ≤ Ex.sizes (gD ks) + 1 := by
      rw [jEx]
      split
      · simp only [Ex.size, Ex.sizes]; omega
      · split <;> simp only [Ex.size] <;> omega
    simp only [gD, jKs, Ex.sizes, Sm.csizes, Tr.sizes, Tr.size]; omega
end
theorem fE {t : Tr} (h : lbM t) (i : Nat) : lbM (aE t i) ∧ (aE t i).size ≤ t.size := by
  obtain ⟨L, ks⟩ := t
  have h1 := im i h.2
  have h2 := eW ks i
  exact ⟨h1, by simp only [Tr.size]; exact h2⟩
theorem lb_M {t : Tr} (h : lbM t) : (lb t).size ≤ 1000000 := by obtain ⟨L, ks⟩ := t; exact h.1
theorem kids_M {t : Tr} (h : lbM t) : ∀ u ∈ t.kids, lbM u ∧ u.size ≤ t.size := by
  obtain ⟨L, ks⟩ := t
  intro u hu
  have := Tr.size_mem (show u ∈ ks from hu)
  exact ⟨ku h.2 hu, by simp only [Tr.size]; omega⟩
theorem oh (t : Tr) : t.kids.length ≤ t.size := by
  obtain ⟨L, ks⟩ := t
  have := Tr.len_le ks
  simp only [Tr.size, Tr.kids]; omega
theorem lstJ_M {t : Tr} (h : lbM t) (i : Nat) : (aN t i).length ≤ t.size ∧ ∀ u ∈ aN t i, lbM u ∧ u.size ≤ t.size := by
  obtain ⟨h1, h2⟩ := fE h i
  exact ⟨Nat.le_trans (oh _) h2, fun u hu => ⟨(kids_M h1 u hu).1, Nat.le_trans (kids_M h1 u hu).2 h2⟩⟩
theorem dY {t : Tr} (h : lbM t) : (ah (lb t)).size ≤ 1000000 := Nat.le_trans (jb _) (lb_M h)
theorem jPar_ok {t : Tr} {B : Nat} (h : lbM t) (hB : 2 * t.size ≤ B) : (ib t).ok B := by
  obtain ⟨h1, h2⟩ := fE h 0
  have h3 := il _ h1
  exact ⟨dY h, h3.1, by show (jTy (aE t 0)).size ≤ B; omega⟩
theorem jTd_ok {t : Tr} {B : Nat} (h : lbM t) (hB : 2 * t.size ≤ B) : (jTd t).ok B := by
  refine ⟨dY h, by show (t.kids.map ib).length ≤ B; rw [List.length_map]; have := oh t; omega, fun p hp => ?_⟩
  obtain ⟨u, hu, rfl⟩ := List.mem_map.1 (show p ∈ t.kids.map ib from hp)
  obtain ⟨h1, h2⟩ := kids_M h u hu
  exact jPar_ok h1 (by omega)
theorem lp : ∀ (n : Nat) (l : List UInt8), l.length ≤ n → (cK l).length ≤ l.length
  | 0, l, h => by cases l with
    | nil => simp [cK]
    | cons => simp at h
  | n + 1, [], _ => by simp [cK]
  | n + 1, [a], _ => by simp [cK]
  | n + 1, a :: b :: r, h => by
    have := lp n r (by simp at h; omega)
    simp only [cK, List.length_cons]; omega
theorem jGb_ok {t : Tr} {B : Nat} (h : lbM t) (hB : 2 * t.size ≤ B) (h1 : 1000000 ≤ B) : (jGb t).ok B := by
  obtain ⟨k1, k2⟩ := fE h 0
  have h3 := il _ k1
  unfold jGb
  split
  · exact ⟨dY h, h3.1, by show (jTy (aE t 0)).size ≤ B; omega, (show I64 (-1) from ⟨by omega, by omega⟩), dJ _, by show (K.eS : ByteArray).size ≤ B; exact Nat.zero_le _⟩
  · refine ⟨dY h, h3.1, by show (jTy (aE t 0)).size ≤ B; omega, numJ_I _, dJ _, ?_⟩
    show (jHexB (ah (lb (aE t 3)))).size ≤ B
    have e1 := dY (fE h 3).1
    have e2 := lp _ (ah (lb (aE t 3))).data.toList (Nat.le_refl _)
    have e3 : (ah (lb (aE t 3))).data.toList.length = (ah (lb (aE t 3))).size := rfl
    rw [jHexB, bb_len]; omega
theorem sms_ok {l : List Tr} (h : ∀ u ∈ l, lbM u) : Sm.oks (l.map jSm) ∧ Sm.sizes (l.map jSm) ≤ 6 * Tr.sizes l := by
  have hl : cH l := by
    induction l with
    | nil => trivial
    | cons a r ih => exact ⟨h a (List.mem_cons_self ..), ih fun u hu => h u (List.mem_cons_of_mem _ hu)⟩
  have h1 := gBs l hl
  rw [← gF]
  exact ⟨mZ l hl, by omega⟩
theorem oW (t : Tr) : Tr.sizes t.kids + 1 = t.size := by obtain ⟨L, ks⟩ := t; simp only [Tr.kids, Tr.size]
theorem jFu_ok {t : Tr} {B : Nat} (h : lbM t) (hB : 6 * t.size ≤ B) : (jFu t).ok B := by
  obtain ⟨l1, l2⟩ := lstJ_M h 0
  have hps : ((aN t 0).map ib).length ≤ B := by rw [List.length_map]; omega
  have hpo : ∀ p ∈ (aN t 0).map ib, p.ok B := fun p hp => by
    obtain ⟨u, hu, rfl⟩ := List.mem_map.1 hp
    obtain ⟨h1, h2⟩ := l2 u hu
    exact jPar_ok h1 (by omega)
  obtain ⟨a1, a2⟩ := fE h 1
  obtain ⟨b1, b2⟩ := fE a1 0
  have h3 := il _ b1
  unfold jFu
  split
  · exact ⟨dY h, hps, hpo, h3.1, by show (jTy _).size ≤ B; omega, trivial, by show Sm.sizes [] ≤ B; exact Nat.zero_le _, numJ_I _, dJ _⟩
  · obtain ⟨c1, c2⟩ := fE h 2
    have h4 := sms_ok (l := aN t 2) (fun u hu => ((lstJ_M h 2).2 u hu).1)
    have h5 := oW (aE t 2)
    have h6 : Tr.sizes (aN t 2) ≤ t.size := by show Tr.sizes (aE t 2).kids ≤ _; omega
    exact ⟨dY h, hps, hpo, h3.1, by show (jTy _).size ≤ B; omega, h4.1, by show Sm.sizes ((aN t 2).map jSm) ≤ B; omega, (show I64 0 from ⟨by omega, by omega⟩), (show (0 : Int) ≤ 0 ∧ (0 : Int) ≤ 65535 from ⟨by omega, by omega⟩)⟩
theorem jPg_ok {t : Tr} {B : Nat} (h : lbM t) (hB : 6 * t.size ≤ B) (h1 : 1000000 ≤ B) : (jPg t).ok B := by
  have l := fun i => lstJ_M h i
  refine ⟨by show ((aN t 0).map jTd).length ≤ B; rw [List.length_map]; have := (l 0).1; omega, by show ((aN t 1).map jGb).length ≤ B; rw [List.length_map]; have := (l 1).1; omega, by show ((aN t 2).map jFu).length ≤ B; rw [List.length_map]; have := (l 2).1; omega, fun x hx => ?_, fun x hx => ?_, fun x hx => ?_⟩
  · obtain ⟨u, hu, rfl⟩ := List.mem_map.1 (show x ∈ (aN t 0).map jTd from hx)
    obtain ⟨k1, k2⟩ := (l 0).2 u hu
    exact jTd_ok k1 (by omega)
  · obtain ⟨u, hu, rfl⟩ := List.mem_map.1 (show x ∈ (aN t 1).map jGb from hx)
    obtain ⟨k1, k2⟩ := (l 1).2 u hu
    exact jGb_ok k1 (by omega) h1
  · obtain ⟨u, hu, rfl⟩ := List.mem_map.1 (show x ∈ (aN t 2).map jFu from hx)
    obtain ⟨k1, k2⟩ := (l 2).2 u hu
    exact jFu_ok k1 (by omega)
mutual
theorem lbO_of : ∀ {t : Tr}, lbM t → t.size ≤ 100000000000 → lbO t
  | .node L ks, h, hs => by
    have h1 := Tr.len_le ks
    simp only [Tr.size] at hs
    exact ⟨Nat.le_trans h.1 (by decide), by omega, lbsO_of h.2 (by omega)⟩
theorem lbsO_of : ∀ {l : List Tr}, cH l → Tr.sizes l ≤ 100000000000 → lbsO l
  | [], _, _ => trivial
  | t :: r, h, hs => by
    simp only [Tr.sizes] at hs
    exact ⟨lbO_of h.1 (by omega), lbsO_of h.2 (by omega)⟩
end
theorem oi {b : ByteArray} (hb : b ∈ badL) : ∀ (p : List Nat) {t s : Tr}, iO t p = some s → ¬ noB (c8 t p (.node b []))
  | [], t, s, _, h => by
    rw [c8] at h
    exact h.1 rfl hb
  | q :: p, .node l ks, s, hs, h => by
    rw [iO] at hs
    split at hs
    · rename_i k hk
      have hql : q < ks.length := (List.getElem?_eq_some_iff.1 hk).1
      rw [c8, hk] at h
      exact oi hb p hs (nU h.2 (List.mem_of_getElem? (i := q) (by rw [List.getElem?_set_self hql])))
    · cases hs
theorem gJ {b : Tr} {c : Nat} : ∀ {ks : List Tr} {q : Nat} {k : Tr}, ks[q]? = some k → b.size ≤ k.size + c → Tr.sizes (ks.set q b) ≤ Tr.sizes ks + c
  | [], _, _, h, _ => by simp at h
  | x :: r, 0, k, h, hc => by
    simp only [List.getElem?_cons_zero, Option.some.injEq] at h
    subst h
    simp only [List.set_cons_zero, Tr.sizes]; omega
  | x :: r, q + 1, k, h, hc => by
    have := gJ (q := q) (by simpa using h) hc
    simp only [List.set_cons_succ, Tr.sizes]; omega
theorem lq {b : Tr} : ∀ (p : List Nat) {t : Tr}, (c8 t p b).size ≤ t.size + b.size
  | [], t => by rw [c8]; omega
  | q :: p, .node l ks => by
    rw [c8]
    split
    · rename_i k hk
      have := gJ hk (lq p (t := k) (b := b))
      simp only [Tr.size]; omega
    · omega
theorem eX : ∀ (a b : List Tr), Tr.sizes (a ++ b) = Tr.sizes a + Tr.sizes b
  | [], b => by simp [Tr.sizes]
  | t :: r, b => by simp only [List.cons_append, Tr.sizes, eX r b]; omega
mutual
theorem eI : ∀ t : Ty4, (tTy t).size = t.size
  | .mk k nm n ts => by rw [tTy, Tr.size, lv ts, Ty4.size]
theorem lv : ∀ l : List Ty4, Tr.sizes (tTys l) = Ty4.sizes l
  | [] => rfl
  | t :: r => by rw [tTys, Tr.sizes, eI t, lv r, Ty4.sizes]
end
mutual
theorem tEx_size : ∀ t : Ex, (tEx t).size = t.size
  | .mk k nm n ts => by rw [tEx, Tr.size, ip ts, Ex.size]
theorem ip : ∀ l : List Ex, Tr.sizes (tExs l) = Ex.sizes l
  | [] => rfl
  | t :: r => by rw [tExs, Tr.sizes, tEx_size t, ip r, Ex.sizes]
end
mutual
theorem tSm_size : ∀ s : Sm, (tSm s).size ≤ 3 * s.size
  | .mk k nm t n xs b el cs => by
    have h1 := dK b
    have h2 := dK el
    have h3 := oj cs
    have h4 := eI t
    have h5 := t.size_pos
    have h6 : Tr.sizes (if k = 1 then [tTy t] else []) ≤ t.size := by
      split
      · simp only [Tr.sizes]; omega
      · simp only [Tr.sizes]; omega
    have h7 : Tr.sizes (smT k (fZ b) (fZ el) (tCs cs)) ≤ 3 * Sm.sizes b + 3 * Sm.sizes el + 3 * Sm.csizes cs + 2 := by
      unfold smT
      split
      · simp only [Tr.sizes, Tr.size]; omega
      · split
        · simp only [Tr.sizes, Tr.size]; omega
        · split
          · omega
          · split
            · rw [eX]; simp only [Tr.sizes, Tr.size]; omega
            · simp only [Tr.sizes]; omega
    rw [tSm, Tr.size, eX, eX, ip, Sm.size]
    omega
theorem dK : ∀ l : List Sm, Tr.sizes (fZ l) ≤ 3 * Sm.sizes l
  | [] => Nat.le_refl _
  | t :: r => by
    have := tSm_size t
    have := dK r
    simp only [fZ, Tr.sizes, Sm.sizes]; omega
theorem oj : ∀ l : List (List Sm), Tr.sizes (tCs l) ≤ 3 * Sm.csizes l
  | [] => Nat.le_refl _
  | c :: r => by
    have := dK c
    have := oj r
    simp only [tCs, Tr.sizes, Tr.size, Sm.csizes]; omega
end
theorem bF {w p : ByteArray} {a b : Nat} (hw : w.size ≤ a) (hp : p.size ≤ b) (h : a + b + 1 ≤ 1000000) : (ao w p).size ≤ 1000000 := by
  unfold ao
  split
  · omega
  · rw [ByteArray.size_append, ByteArray.size_append]
    show _ + (1 + _) ≤ _
    omega
theorem gK : ∀ {a b : List Tr}, cH a → cH b → cH (a ++ b)
  | [], _, _, h => h
  | _ :: _, _, h, k => ⟨h.1, gK h.2 k⟩
theorem dL {α : Type} {f : α → Tr} : ∀ {l : List α}, (∀ x ∈ l, lbM (f x)) → cH (l.map f)
  | [], _ => trivial
  | x :: r, h => ⟨h x (List.mem_cons_self ..), dL fun y hy => h y (List.mem_cons_of_mem _ hy)⟩
theorem m0 {n : Nat} (h : n ≤ 9223372036854775807) : (bd n).size ≤ 20 := g5 (by show _ < 100000000000000000000; omega)
theorem om {k : Int} {nm : ByteArray} (h : bn k nm = true) : nm.size ≤ 24 := by
  have am : ∀ {l : List ByteArray}, (∀ x ∈ l, x.size ≤ 24) → aF nm l = true → nm.size ≤ 24 := fun hl ha => by
    obtain ⟨x, hx, he⟩ := List.any_eq_true.1 ha
    rw [← of_decide_eq_true he]; exact hl x hx
  unfold bn at h
  split at h
  · exact ak h
  split at h
  · exact am (by decide) h
  split at h
  · exact am (by decide) h
  split at h
  · exact am (by decide) h
  · rw [of_decide_eq_true h]; decide
mutual
theorem lm_ty : ∀ t : Ty4, rTy t = true → lbM (tTy t)
  | .mk k nm n ts, h => by
    simp only [rTy] at h
    rw [tTy]
    by_cases h4 : k = 4
    · subst h4
      simp only [if_true, Bool.and_eq_true, decide_eq_true_eq] at h
      have hts := List.length_eq_zero_iff.1 h.2
      subst hts
      exact ⟨bF (w := em) (a := 10) (by decide) (ak h.1.1) (by decide), trivial⟩
    · rw [if_neg h4] at h
      by_cases h1 : k = 1 ∨ k = 2 ∨ k = 3
      · rw [if_pos h1] at h
        simp only [Bool.and_eq_true, decide_eq_true_eq] at h
        have hts := List.length_eq_zero_iff.1 h.2
        subst hts
        rcases h1 with rfl | rfl | rfl
        · exact ⟨(by decide : w_u16.size ≤ 1000000), trivial⟩
        · exact ⟨(by decide : w_u8.size ≤ 1000000), trivial⟩
        · exact ⟨(by decide : w_s16.size ≤ 1000000), trivial⟩
      · rw [if_neg h1] at h
        by_cases h2 : k = 5 ∨ k = 6
        · rw [if_pos h2] at h
          simp only [Bool.and_eq_true, decide_eq_true_eq] at h
          have hr := lm_tys ts h.2
          have hn : n ≤ 65535 := by have := h.1.1.2; split at this <;> omega
          have hd := m0 (n := n.toNat) (by omega)
          rcases h2 with rfl | rfl
          · exact ⟨bF (w := bZ) (a := 10) (by decide) hd (by decide), hr⟩
          · exact ⟨bF (w := fe) (a := 10) (by decide) hd (by decide), hr⟩
        · rw [if_neg h2] at h; cases h
theorem lm_tys : ∀ l : List Ty4, rTys l = true → cH (tTys l)
  | [], _ => trivial
  | t :: r, h => by
    simp only [rTys, Bool.and_eq_true] at h
    exact ⟨lm_ty t h.1, lm_tys r h.2⟩
end
mutual
theorem lm_ex : ∀ e : Ex, rEx e = true → lbM (tEx e)
  | .mk k nm n ks, h => by
    simp only [rEx, Bool.and_eq_true, decide_eq_true_eq, Bool.or_eq_true] at h
    obtain ⟨⟨⟨⟨hk, hn⟩, _⟩, hlim⟩, hks⟩ := h
    have hl : n < 65536 := by
      have : cI k ≤ 65536 := by unfold cI; split <;> (try split) <;> (try split) <;> omega
      omega
    have hd := m0 (n := n.toNat) (by omega)
    rw [tEx]
    refine ⟨bF (exW_size hk) (b := 24) ?_ (by decide), lm_exs ks hks⟩
    split
    · omega
    · exact om hn
theorem lm_exs : ∀ l : List Ex, rExs l = true → cH (tExs l)
  | [], _ => trivial
  | t :: r, h => by
    simp only [rExs, Bool.and_eq_true] at h
    exact ⟨lm_ex t h.1, lm_exs r h.2⟩
end
theorem oo {k : Int} {nm : ByteArray} (h : bI k nm = true) : nm.size ≤ 24 := by
  unfold bI at h
  split at h
  · exact ak h
  · rw [Bool.or_eq_true] at h
    rcases h with h | h
    · rw [of_decide_eq_true h]; decide
    · rw [Bool.and_eq_true] at h; exact ak h.2
mutual
theorem lm_sm : ∀ s : Sm, rSm s = true → lbM (tSm s)
  | .mk k nm t n xs b el cs, h => by
    simp only [rSm, Bool.and_eq_true, decide_eq_true_eq] at h
    obtain ⟨⟨⟨⟨⟨⟨⟨⟨⟨⟨⟨⟨⟨⟨hk, _⟩, _⟩, hxs⟩, hnm⟩, ht⟩, hn⟩, _⟩, _⟩, _⟩, _⟩, _⟩, hb⟩, hel⟩, hcs⟩ := h
    have h1 := lm_exs xs hxs
    have h2 := kv b hb
    have h3 := kv el hel
    have h4 := lm_cs cs hcs
    have hl : n < 256 := by
      rw [Bool.or_eq_true, Bool.and_eq_true, decide_eq_true_eq, decide_eq_true_eq] at hn
      rcases hn with hn | hn
      · omega
      · exact hn.2
    have hd := m0 (n := n.toNat) (by omega)
    rw [tSm]
    refine ⟨?_, gK ?_ (gK h1 ?_)⟩
    · unfold smL
      refine bF (smW_size hk) (b := 24) ?_ (by decide)
      split
      · omega
      · exact oo hnm
    · split
      · rename_i hk1
        rw [if_pos hk1] at ht
        exact ⟨lm_ty t ht, trivial⟩
      · trivial
    · unfold smT
      split
      · exact ⟨⟨by decide, h2⟩, ⟨by decide, h3⟩, trivial⟩
      · split
        · exact ⟨⟨by decide, h2⟩, trivial⟩
        · split
          · exact h2
          · split
            · exact gK h4 ⟨⟨by decide, h3⟩, trivial⟩
            · trivial
theorem kv : ∀ l : List Sm, cB l = true → cH (fZ l)
  | [], _ => trivial
  | t :: r, h => by
    simp only [cB, Bool.and_eq_true] at h
    exact ⟨lm_sm t h.1, kv r h.2⟩
theorem lm_cs : ∀ l : List (List Sm), rCs l = true → cH (tCs l)
  | [], _ => trivial
  | c :: r, h => by
    simp only [rCs, Bool.and_eq_true] at h
    exact ⟨⟨by decide, kv c h.1⟩, lm_cs r h.2⟩
end
theorem lm_par {w : ByteArray} {p : Par} (hw : w.size ≤ 10) (h : cm p = true) : lbM (cC w p) := by
  simp only [cm, Bool.and_eq_true] at h
  exact ⟨bF hw (ak h.1) (by decide), lm_ty _ h.2, trivial⟩
theorem ky {w : ByteArray} {n : Int} (hw : w.size ≤ 10) (hn : n ≤ 9223372036854775807) : lbM (eY w n) := ⟨bF hw (m0 (n := n.toNat) (by omega)) (by decide), trivial⟩
theorem lm_td {t : Td} (h : rTd t = true) : lbM (tTd t) := by
  simp only [rTd, Bool.and_eq_true, List.all_eq_true] at h
  refine ⟨bF (a := 10) (by split <;> decide) (ak h.1) (by decide), dL fun x hx => lm_par (by decide) (h.2 x hx)⟩
theorem lm_gb {g : Gb} (h : rGb g = true) (ha : g.addr ≤ 65535) (hb : g.bank ≤ 9223372036854775807) (hy : g.bytes.size ≤ 400000) : lbM (tGb g) := by
  simp only [rGb, Bool.and_eq_true] at h
  have ht := lm_ty _ h.1.2
  have hx := g6 g.bytes
  unfold tGb
  split
  · exact ⟨bF (w := fX) (a := 10) (by decide) (ak h.1.1) (by decide), ht, ky (by decide) (by omega), trivial⟩
  · exact ⟨bF (w := iU) (a := 10) (by decide) (ak h.1.1) (by decide), ht, ky (by decide) hb, ky (by decide) (by omega), ⟨bF (w := fY) (a := 10) (b := 800000) (by decide) (by omega) (by decide), trivial⟩, trivial⟩
theorem lm_fu {f : Fu} (h : rFu f = true) (hx : f.x ≤ 9223372036854775807) (hy : f.y ≤ 65535) : lbM (tFu f) := by
  simp only [rFu, Bool.and_eq_true, List.all_eq_true] at h
  obtain ⟨⟨⟨hn, hps⟩, hres⟩, hb⟩ := h
  have h1 : cH (f.ps.map (cC bq)) := dL fun x hx => lm_par (by decide) (hps x hx)
  have h2 : lbM (tTy f.res) := by
    rw [Bool.or_eq_true] at hres
    rcases hres with h | h
    · rw [kh h]; exact ⟨(by decide : w_void.size ≤ 1000000), trivial⟩
    · exact lm_ty _ h
  unfold tFu
  split
  · exact ⟨bF (w := cd) (a := 10) (by decide) (ak hn) (by decide), ⟨by decide, h1⟩, ⟨by decide, h2, trivial⟩, ky (by decide) hx, ky (by decide) (by omega), trivial⟩
  · rename_i hf
    rw [if_neg hf] at hb
    simp only [Bool.and_eq_true] at hb
    exact ⟨bF (w := w_fn) (a := 10) (by decide) (ak hn) (by decide), ⟨by decide, h1⟩, ⟨by decide, h2, trivial⟩, ⟨by decide, kv _ hb.2⟩, trivial⟩
theorem lm_tree {p : Pg} {B : Nat} (h : rPg p = true) (hp : p.ok B) (hy : ∀ g ∈ p.gs, g.bytes.size ≤ 400000) : lbM (cD p) := by
  rw [cD, if_pos h, tPg]
  simp only [rPg, Bool.and_eq_true, List.all_eq_true] at h
  obtain ⟨⟨h1, h2⟩, h3⟩ := h
  exact ⟨by decide, ⟨by decide, dL fun x hx => lm_td (h1 x hx)⟩, ⟨by decide, dL fun x hx => lm_gb (h2 x hx) (hp.g x hx).2.2.2.2.1.2 (hp.g x hx).2.2.2.1.2 (hy x hx)⟩, ⟨by decide, dL fun x hx => lm_fu (h3 x hx) (hp.f x hx).2.2.2.2.2.2.2.1.2 (hp.f x hx).2.2.2.2.2.2.2.2.2⟩, trivial⟩
theorem oq {b : Tr} (hb : lbM b) : ∀ {ks : List Tr} {q : Nat}, cH ks → cH (ks.set q b)
  | [], _, h => h
  | _ :: _, 0, h => ⟨hb, h.2⟩
  | _ :: _, _ + 1, h => ⟨h.1, oq hb h.2⟩
theorem lbM_put {b : Tr} (hb : lbM b) : ∀ (p : List Nat) {t : Tr}, lbM t → lbM (c8 t p b)
  | [], t, _ => by rw [c8]; exact hb
  | q :: p, .node l ks, h => by
    rw [c8]
    split
    · rename_i k hk
      exact ⟨h.1, oq (lbM_put hb p (ku h.2 (List.mem_of_getElem? hk))) h.2⟩
    · exact h
section
open Go Go.RowKit Go.Proofs K
variable {pk : Pk}
theorem PrG'.of {p : Par} (h : dB p.nm = true ∧ rTy p.ty = true ∧ p.ty.ok ∧ p.ty.size ≤ 8) : cm p = true ∧ p.ok BG := by
  obtain ⟨h1, h2, h3, h4⟩ := h
  have hi := mN h1
  have := ak hi
  exact ⟨by rw [cm, hi, h2]; rfl, by omega, h3, by unfold BG; omega⟩
theorem FR.facts {f : Fu} (h : FR f) {nm : ByteArray} (hn : ai nm = true) {b : List Sm} (hb : SGs 399999999 b) {fl : Bool} {x y : Int} (hf : fl = false ∧ x = 0 ∧ y = 0) : rFu ⟨nm, f.ps, f.res, b, fl, x, y⟩ = true ∧ Fu.ok BG ⟨nm, f.ps, f.res, b, fl, x, y⟩ := by
  obtain ⟨rfl, rfl, rfl⟩ := hf
  have hs := ak hn
  have hps : f.ps.all cm = true := List.all_eq_true.2 fun p hp => (PrG'.of (h.ps p hp)).1
  have hres : (aA f.res 7 || rTy f.res) = true := by rcases h.res.1 with q | q <;> rw [q] <;> simp
  refine ⟨?_, by show nm.size ≤ _; omega, by show f.ps.length ≤ _; have := h.pl; unfold BG; omega, fun p hp => (PrG'.of (h.ps p hp)).2, h.res.2.1, by show f.res.size ≤ _; have := h.res.2.2; unfold BG; omega, hb.o, Nat.le_trans hb.s (by unfold BG; omega), ⟨by show (_ : Int) ≤ 0; omega, by show (0 : Int) ≤ _; omega⟩, by show (0 : Int) ≤ 0; omega, by show (0 : Int) ≤ _; omega⟩
  show (ai nm && f.ps.all cm && (aA f.res 7 || rTy f.res) && (decide ((0 : Int) = 0 ∧ (0 : Int) = 0) && cB b)) = true
  rw [hn, hps, hres, hb.r]; rfl
theorem MP.facts {p : Pg} (h : MP p) : rPg p = true ∧ p.ok BG := by
  obtain ⟨tn, s1, s2, fs, hd, ht, h1, h2, rfl, hl1, hl2, hn, hF, hh⟩ := h
  have hts : ∀ x ∈ fB tn, TdG x := fun x hx => by
    unfold fB at hx
    (repeat' split at hx) <;> simp only [List.mem_cons, List.not_mem_nil, or_false] at hx
    · rw [hx]; exact tdS_G
    · rcases hx with rfl | rfl
      · exact tdS_G
      · exact tdU_G
  have hgs : ∀ x ∈ dj tn ++ [gbT s1, gbW s2], GbG x := fun x hx => by
    rcases List.mem_append.1 hx with hx | hx
    · unfold dj at hx
      rcases List.mem_append.1 hx with hx | hx
      · exact gbs0_G x hx
      · (repeat' split at hx) <;> simp only [List.mem_cons, List.not_mem_nil, or_false] at hx
        · rw [hx]; exact gbS_G
        · rcases hx with rfl | rfl
          · exact gbS_G
          · exact gbU_G
    · simp only [List.mem_cons, List.not_mem_nil, or_false] at hx
      rcases hx with rfl | rfl
      · exact gbT_G h1
      · exact gbW_G h2
  have hfs : ∀ x ∈ fs ++ hd, FuG x := fun x hx => by
    rcases List.mem_append.1 hx with hx | hx
    · obtain ⟨a, b⟩ := hF x hx
      exact FR.facts a (mO a.nm) b a.body.2
    · rcases hh with rfl | ⟨b, rfl, hb⟩
      · cases hx
      · rw [List.mem_singleton.1 hx]
        exact FR.facts (f := ⟨⟨#[109, 97, 105, 110]⟩, [], .mk 7 eS 0 [], [], false, 0, 0⟩) (mU (by decide) (fun _ h => by cases h) (Nat.zero_le _) (by omega)) (nm := intN) (by decide +kernel) (hb.mono (by omega)) ⟨rfl, rfl, rfl⟩
  have l1 : (fB tn).length ≤ 2 := by unfold fB; (repeat' split) <;> decide
  have l0 : (dj tn).length ≤ 7 := by unfold dj; (repeat' split) <;> decide
  have l2 : (dj tn ++ [gbT s1, gbW s2]).length ≤ 9 := by rw [List.length_append]; simp only [List.length_cons, List.length_nil]; omega
  have l3 : (fs ++ hd).length ≤ 5 := by
    rw [List.length_append]
    rcases hh with rfl | ⟨b, rfl, _⟩ <;> simp only [List.length_cons, List.length_nil] <;> omega
  exact pg_G l1 l2 l3 hts hgs hfs
theorem ints_one (l : List Int) : ∀ r ∈ l.map iM, r.length = 1 := fun r hr => by
  obtain ⟨s, _, rfl⟩ := List.mem_map.1 hr
  rfl
theorem ot {l : List Int} (h1 : ∀ n ∈ l, I64 n) : XP Tryz.prog pk 9 [xr (l.map iM)] (fun r => ∃ p, r = xd (pgD p) ∧ MP p) := by
  refine XP.en Tryz.func9 Tryz.ntmps9 (by rintro _ ⟨p, rfl, _⟩; rfl) (fun w0 own H V v0 hf => ?_)
  refine Ln 0 rfl (fun hl => ?_); rw [List.length_map] at hl
  refine G (T := T) 7 rfl ?_
  have hm : (min ((l.map iM).length : Int) 120) = ((min l.length 120 : Nat) : Int) := by rw [List.length_map]; omega
  refine Sd (T := T) (li := none) 0 (min l.length 120) rfl ⟨_, _, rfl, rfl⟩ rfl rfl rfl ⟨rfl, rfl⟩ rfl hm (Nat.zero_le _) (by rw [List.length_map]; omega) (ints_one l) ?_
  rw [List.drop_zero, Nat.sub_zero, ← List.map_take]
  refine G (T := T) 1000 rfl ?_
  refine Ce (mk_Made (l := l.take (min l.length 120)) (fun n hn => h1 n (List.mem_of_mem_take hn)) (by rw [List.length_take]; omega)) rfl rfl rfl rfl rfl ⟨rfl, rfl⟩ ?_
  rintro _ ⟨p, rfl, hp⟩
  refine G (T := T) 1000 rfl ?_
  exact Fp (T := T) (xd (pgD p)) ⟨p, rfl, hp⟩ rfl rfl
end
theorem gL {C : Nat} : ∀ {l : List Tr}, (∀ t ∈ l, t.size ≤ C) → Tr.sizes l ≤ l.length * C
  | [], _ => by simp [Tr.sizes]
  | t :: r, h => by
    have h1 := h t (List.mem_cons_self ..)
    have h2 := gL (C := C) (l := r) fun u hu => h u (List.mem_cons_of_mem _ hu)
    simp only [Tr.sizes, List.length_cons, Nat.add_mul]; omega
theorem tPar_size (w : ByteArray) (p : Par) : (cC w p).size = p.ty.size + 1 := by
  unfold cC
  simp only [Tr.size, Tr.sizes, eI]; try omega
theorem ou {f : Fu} (hp : ∀ p ∈ f.ps, p.ty.size ≤ 8) (hl : f.ps.length ≤ 3) (hr : f.res.size ≤ 8) (hb : Sm.sizes f.body ≤ 400000000) : (tFu f).size ≤ 1300000000 := by
  have h1 : Tr.sizes (f.ps.map (cC bq)) ≤ (f.ps.map (cC bq)).length * 9 := gL fun t ht => by
    obtain ⟨p, h2, rfl⟩ := List.mem_map.1 ht
    have := hp p h2
    rw [tPar_size]; omega
  rw [List.length_map] at h1
  have h2 := dK f.body
  have h3 := eI f.res
  unfold tFu
  split <;> simp only [Tr.size, Tr.sizes, eY] <;> omega
theorem tGb_size (g : Gb) : (tGb g).size ≤ g.ty.size + 5 := by
  have h3 := eI g.ty
  unfold tGb
  split <;> simp only [Tr.size, Tr.sizes, eY] <;> omega
theorem MP_tree {p : Pg} (h : MP p) : (cD p).size ≤ 12000000000 ∧ lbM (cD p) := by
  have hf := h.facts
  obtain ⟨tn, s1, s2, fs, hd, _, h1, h2, rfl, _, hl2, _, hF, hh⟩ := h
  have hg : ∀ g ∈ dj tn ++ [gbT s1, gbW s2], g.bytes.size ≤ 400000 := by
    intro g hg
    rcases List.mem_append.1 hg with hg | hg
    · have : ∀ n, n < 3 → ∀ g ∈ dj n, g.bytes.size ≤ 400000 := by decide +kernel
      exact this tn (by omega) g hg
    · simp only [List.mem_cons, List.not_mem_nil, or_false] at hg
      rcases hg with rfl | rfl
      · show s1.size ≤ _; omega
      · show s2.size ≤ _; omega
  refine ⟨?_, lm_tree hf.1 hf.2 hg⟩
  rw [cD, if_pos hf.1, tPg]
  have hgl : (dj tn ++ [gbT s1, gbW s2]).length ≤ 9 := by
    have l0 : (dj tn).length ≤ 7 := by unfold dj; (repeat' split) <;> decide
    rw [List.length_append]; simp only [List.length_cons, List.length_nil]; omega
  have e1 : Tr.sizes ((fB tn).map tTd) ≤ 1000 := by
    have : ∀ n, n < 3 → Tr.sizes ((fB n).map tTd) ≤ 1000 := by decide +kernel
    exact this tn (by omega)
  have e2 : Tr.sizes ((dj tn ++ [gbT s1, gbW s2]).map tGb) ≤ ((dj tn ++ [gbT s1, gbW s2]).map tGb).length * 400000005 := gL fun t ht => by
    obtain ⟨g, h3, rfl⟩ := List.mem_map.1 ht
    have h4 := tGb_size g
    have h5 := (hf.2.g g h3).2.2.1
    unfold BG at h5
    omega
  have e3 : Tr.sizes ((fs ++ hd).map tFu) ≤ ((fs ++ hd).map tFu).length * 1300000000 := gL fun t ht => by
    obtain ⟨f, h3, rfl⟩ := List.mem_map.1 ht
    rcases List.mem_append.1 h3 with h3 | h3
    · obtain ⟨a, b⟩ := hF f h3
      exact ou (fun q hq => (a.ps q hq).2.2.2) a.pl a.res.2.2 (by have := b.s; omega)
    · rcases hh with rfl | ⟨b, rfl, hb⟩
      · cases h3
      · rw [List.mem_singleton.1 h3]
        exact ou (fun q hq => by cases hq) (Nat.zero_le _) (by show (Ty4.mk 7 eS 0 []).size ≤ 8; simp [Ty4.size, Ty4.sizes]) (by have := hb.s; show Sm.sizes b ≤ _; omega)
  have l3 : (fs ++ hd).length ≤ 5 := by
    rw [List.length_append]
    rcases hh with rfl | ⟨b, rfl, _⟩ <;> simp only [List.length_cons, List.length_nil] <;> omega
  rw [List.length_map] at e2 e3
  have m2 := Nat.mul_le_mul_right 400000005 hgl
  have m3 := Nat.mul_le_mul_right 1300000000 l3
  simp only [Tr.size, Tr.sizes]
  omega
section
open Go Go.RowKit Go.Proofs K
theorem ov {u : Tr} (h : ¬ noB u) : ftOk u = false := by
  cases e : ftOk u with
  | false => rfl
  | true =>
    simp only [ftOk, Bool.and_eq_true] at e
    have h1 := (Tr.eqb_iff _ _).1 e.2
    exact absurd (h1 ▸ nb_tree e.1) h
variable {pk : Pk}
theorem from_bad (hT : ∀ H, pk.hy H → TabH H) (hV : ∀ H, pk.hy H → VarH H) {u : Tr} (hn : ¬ noB u) (hm : lbM u) (hs : 6 * u.size ≤ 90000000000) : XQ Tryz.prog pk 15 [xd (trd u)] (ftR u) :=
  from_tree (pkF := { pk with pc := wrg, ψ := True }) (B := 90000000000) (ftk_of hV rfl) (fun _ => ov hn) (fun _ => trivial) (fun _ => trivial) hT (lbO_of hm (by omega)) (by decide) (jPg_ok hm hs (by decide)) (fun _ h => h)
end
section
open Go Go.RowKit Go.Proofs K
variable {pk : Pk}
theorem len0 {α : Type} {f : α → List D} {l : List α} : decide (((l.map f).length : Int) = 0) = decide (l.length = 0) := by rw [List.length_map]; exact decide_eq_decide.2 (by omega)
theorem oX (t : Ty4) : XQ Tryz.prog pk 158 [xd (tyD t)] (xb (aA t 0)) := by
  obtain ⟨k', nm, n, ts⟩ := t
  rw [fw]
  refine XQ.en Tryz.func158 Tryz.ntmps158 (fun w0 own H V v0 hf => ?_)
  refine Gs (T := T) 100001 rfl ?_
  refine (FzTo.bz 0 rfl).c ?_
  refine Gs (T := T) 1000 rfl ?_
  refine Fe (T := T) rfl ?_
  show xb (_ && decide (((ts.map tyD).length : Int) = 0)) = _
  rw [len0]; rfl
theorem dZ : ∀ (m : Nat) {t : Ty4}, t.size ≤ m → t.ok → XQ Tryz.prog pk 30 [xd (tyD t)] (xb (rTy t)) := by
  intro m
  induction m with
  | zero => intro t hm; have := t.size_pos; omega
  | succ m ih =>
  intro t hm hok
  obtain ⟨k, nm, n, ts⟩ := t
  obtain ⟨hk, hn, hn2, hts⟩ := hok
  rw [fw]
  have hsz : (Ty4.mk k nm n ts).size = Ty4.sizes ts + 1 := rfl
  obtain ⟨u0, hu0⟩ : ∃ u0 : Ty4, ts.length = 1 → ts = [u0] := by
    match ts with
    | [] => exact ⟨.mk 0 eS 0 [], fun h => by simp at h⟩
    | [x] => exact ⟨x, fun _ => rfl⟩
    | _ :: _ :: _ => exact ⟨.mk 0 eS 0 [], fun h => by simp at h⟩
  have l1 : decide (((ts.map tyD).length : Int) = 1) = true → ts = [u0] := fun h => hu0 (by have := of_decide_eq_true h; rw [List.length_map] at this; omega)
  have hu : decide (((ts.map tyD).length : Int) = 1) = true → (ts.map tyD)[0]? = some (tyD u0) := fun h => by rw [l1 h]; rfl
  have ihu : decide (((ts.map tyD).length : Int) = 1) = true → XQ Tryz.prog pk 30 [xd (tyD u0)] (xb (rTy u0)) := fun h => by
    have e := l1 h
    subst e
    exact ih (by simp only [Ty4.sizes] at hsz; omega) hts.1
  have last : k = 5 ∨ k = 6 → ((((decide (nm = ⟨#[]⟩) && decide (0 ≤ n)) && decide (n ≤ if k = 6 then 64 else 65535)) && decide (((ts.map tyD).length : Int) = 1)) && rTy u0) = rTy (.mk k nm n ts) := fun hq => by
    rw [ty_eq (.inr ⟨hq, rfl, rfl⟩)]
    cases hl : decide (((ts.map tyD).length : Int) = 1) with
    | true => rw [List.length_map] at hl; rw [hl, l1 (by rw [List.length_map]; exact hl)]; simp
    | false => rw [List.length_map] at hl; rw [hl]; simp
  refine XQ.en Tryz.func30 Tryz.ntmps30 (fun w0 own H V v0 hf => ?_)
  refine Gs (T := T) 100001 rfl ?_
  refine (FzTo.bz 0 rfl).c ?_
  refine Gs (T := T) 1000 rfl ?_
  refine If rfl (fun h => ?_) (fun h => ?_)
  · have h9 := of_decide_eq_true h
    refine Gs (T := T) 1000 rfl ?_
    refine IfT rfl h ?_
    refine Gs (T := T) 1000 rfl ?_
    exact Fe (T := T) rfl (by
      rw [rTy, if_neg (by omega), if_pos (by omega)]
      show xb (_ && decide (((ts.map tyD).length : Int) = 0)) = _
      rw [len0])
  have h2 := of_decide_eq_false h
  refine Gs (T := T) 1000 rfl ?_
  refine If rfl (fun h => ?_) (fun h => ?_)
  · have h9 := of_decide_eq_true h
    refine Gs (T := T) 1000 rfl ?_
    refine IfT rfl h ?_
    refine Gs (T := T) 1000 rfl ?_
    exact Fe (T := T) rfl (by
      rw [rTy, if_neg (by omega), if_pos (by omega)]
      show xb (_ && decide (((ts.map tyD).length : Int) = 0)) = _
      rw [len0])
  have h1 := of_decide_eq_false h
  refine Gs (T := T) 1000 rfl ?_
  refine If rfl (fun h => ?_) (fun h => ?_)
  · have h9 := of_decide_eq_true h
    refine Gs (T := T) 1000 rfl ?_
    exact Fe (T := T) rfl (by
      rw [rTy, if_neg (by omega), if_pos (by omega)]
      show xb (_ && decide (((ts.map tyD).length : Int) = 0)) = _
      rw [len0])
  have h3 := of_decide_eq_false h
  refine Gs (T := T) 1000 rfl ?_
  refine If rfl (fun h => ?_) (fun h => ?_)
  · have h9 := of_decide_eq_true h
    refine Gs (T := T) 1000 rfl ?_
    refine Cq (bR (by omega)) rfl rfl rfl rfl rfl ⟨rfl, rfl⟩ ?_
    refine Gs (T := T) 1000 rfl ?_
    exact Fe (T := T) rfl (by
      rw [rTy, if_pos h9]
      show xb (_ && decide (((ts.map tyD).length : Int) = 0)) = _
      rw [len0])
  have h4 := of_decide_eq_false h
  refine Gs (T := T) 1000 rfl ?_
  refine If rfl (fun h => ?_) (fun h => ?_)
  · have h9 := of_decide_eq_true h
    refine Gs (T := T) 1000 rfl ?_
    refine IfT rfl h ?_
    refine G (T := T) 1000 rfl ?_
    refine Cf [1] (fun (_ : Unit) r => (4, xi (if k = 6 then 64 else 65535)) :: r) (fun _ => []) 1 (fun _ => True) rfl ?_ ?_
    · refine If rfl (fun h => ?_) (fun h => ?_)
      · rw [if_pos (of_decide_eq_true h)]
        refine G (T := T) 1000 rfl ?_
        exact Dn () trivial
      · rw [if_neg (of_decide_eq_false h)]
        refine G (T := T) 1000 rfl ?_
        exact Dn () trivial
    rintro _ -
    refine Gs (T := T) 1000 rfl ?_
    refine Is (T := T) 0 (tyD u0) (fun h => ⟨hu (Bool.and_eq_true_iff.1 h).2, rfl⟩) rfl rfl rfl rfl rfl rfl rfl rfl ?_
    refine Gs (T := T) 1000 rfl ?_
    refine Cs (fun h => ihu (Bool.and_eq_true_iff.1 h).2) rfl rfl rfl rfl rfl rfl rfl rfl ?_
    refine Gs (T := T) 1000 rfl ?_
    exact Fe (T := T) rfl (congrArg xb (last (by omega)))
  have h5 := of_decide_eq_false h
  refine Gs (T := T) 1000 rfl ?_
  refine If rfl (fun h => ?_) (fun h => ?_)
  · have h9 := of_decide_eq_true h
    refine G (T := T) 1000 rfl ?_
    refine Cf [1] (fun (_ : Unit) r => (4, xi (if k = 6 then 64 else 65535)) :: r) (fun _ => []) 1 (fun _ => True) rfl ?_ ?_
    · refine If rfl (fun h => ?_) (fun h => ?_)
      · rw [if_pos (of_decide_eq_true h)]
        refine G (T := T) 1000 rfl ?_
        exact Dn () trivial
      · rw [if_neg (of_decide_eq_false h)]
        refine G (T := T) 1000 rfl ?_
        exact Dn () trivial
    rintro _ -
    refine Gs (T := T) 1000 rfl ?_
    refine Is (T := T) 0 (tyD u0) (fun h => ⟨hu (Bool.and_eq_true_iff.1 h).2, rfl⟩) rfl rfl rfl rfl rfl rfl rfl rfl ?_
    refine Gs (T := T) 1000 rfl ?_
    refine Cs (fun h => ihu (Bool.and_eq_true_iff.1 h).2) rfl rfl rfl rfl rfl rfl rfl rfl ?_
    refine Gs (T := T) 1000 rfl ?_
    exact Fe (T := T) rfl (congrArg xb (last (by omega)))
  have h6 := of_decide_eq_false h
  refine Gs (T := T) 1000 rfl ?_
  exact Fe (T := T) rfl (congrArg xb (by rw [rTy, if_neg (by omega), if_neg (by omega), if_neg (by omega)]))
theorem cF {α : Type} {p : α → Bool} {l : List α} {j : Nat} {y : α} (h : (l.take j).all p = true) (hy : l[j]? = some y) (hp : p y = true) : (l.take (j + 1)).all p = true := by
  rw [List.take_succ, hy, List.all_append, h]; simp [hp]
theorem bW {α : Type} {p : α → Bool} {l : List α} {y : α} (hy : y ∈ l) (hp : p y = false) : l.all p = false := by
  rw [Bool.eq_false_iff]; intro h
  rw [List.all_eq_true.1 h y hy] at hp; cases hp
theorem kz {l : List Par} (hl : l.length ≤ 100000000000) (hok : ∀ p ∈ l, p.nm.size ≤ 1000000 ∧ p.ty.ok) : XQ Tryz.prog pk 29 [xr (l.map paD)] (xb (l.all cm)) := by
  refine XQ.en Tryz.func29 Tryz.ntmps29 (fun w0 own H V v0 hf => ?_)
  refine G (T := T) 1000 rfl ?_
  refine Lq [0] (fun q r => (2, xb false) :: (3, xi (q : Nat)) :: r) (fun q => []) 0 (fun q => q ≤ l.length ∧ (l.take q).all cm = true) (fun q => l.length - q) 0 rfl ⟨Nat.zero_le _, rfl⟩ ?_
  rintro j ⟨hj, hI⟩
  refine G (T := T) 1000 rfl ?_
  refine If rfl (fun h => ?_) (fun h => ?_)
  · have hjl := of_decide_eq_true h; rw [List.length_map] at hjl
    obtain ⟨y, hy⟩ := ae (l := l) (j := j) (by omega)
    have hym := List.mem_of_getElem? hy
    obtain ⟨o1, o2⟩ := hok y hym
    refine G (T := T) 1000 rfl ?_
    refine Ix (T := T) j (ab hy) rfl rfl rfl rfl ⟨rfl, rfl⟩ rfl rfl ?_
    refine G (T := T) 1000 rfl ?_
    refine Cq (bR (by omega)) rfl rfl rfl rfl rfl ⟨rfl, rfl⟩ ?_
    refine G (T := T) 1000 rfl ?_
    refine Ix (T := T) j (ab hy) rfl rfl rfl rfl ⟨rfl, rfl⟩ rfl rfl ?_
    refine G (T := T) 1000 rfl ?_
    refine Cq (dZ _ (Nat.le_refl _) o2) rfl rfl rfl rfl rfl ⟨rfl, rfl⟩ ?_
    refine Gs (T := T) 1000 rfl ?_
    have e9 : (!ai y.nm || !rTy y.ty) = !cm y := by rw [cm, Bool.not_and]
    refine If rfl (fun h => ?_) (fun h => ?_)
    · rw [e9] at h
      refine G (T := T) 1000 rfl ?_
      exact Fe (T := T) rfl (congrArg xb (bW hym (by simpa using h)).symm)
    · rw [e9] at h
      refine G (T := T) 1000 rfl ?_
      exact Nq (j + 1) ⟨by omega, cF hI hy (by simpa using h)⟩ (by show _ - (j + 1) < _ - j; omega)
  · have hjl := of_decide_eq_false h; rw [List.length_map] at hjl
    refine G (T := T) 1000 rfl ?_
    rw [List.take_of_length_le (by omega)] at hI
    exact Fe (T := T) rfl (congrArg xb hI.symm)
end
section
open Go Go.RowKit Go.Proofs K
variable {pk : Pk}
theorem ref_shape (k : Int) (a b c : D) : XQ Tryz.prog pk 181 [xd [.c (.int .i64 k), a, b, c]] (xd [.c (.int .i64 (shp k).1), .c (.int .i64 (shp k).2.1), .c (.int .i64 (shp k).2.2)]) := by
  refine XQ.en Tryz.func181 Tryz.ntmps181 (fun w0 own H V v0 hf => ?_)
  refine G (T := T) 100001 rfl ?_
  refine (FzTo.bz 0 rfl).c ?_
  refine G (T := T) 1000 rfl ?_
  iterate 15
    refine If rfl (fun h => ?_) (fun h => ?_)
    rotate_left
    have := of_decide_eq_false h
    refine G (T := T) 1000 rfl ?_
  · rw [show shp k = (-1, 0, 0) from by unfold shp; (repeat rw [if_neg (by omega)])]
    exact Fq (T := T) rfl rfl
  all_goals
    have h9 := of_decide_eq_true h
    subst h9
    refine G (T := T) 1000 rfl ?_
    first
      | exact Fq (T := T) rfl rfl
      | (refine IfT rfl h ?_; refine G (T := T) 1000 rfl ?_; exact Fq (T := T) rfl rfl)
end
section
open Go Go.RowKit Go.Proofs K
variable {pk : Pk}
theorem oY : XQ Tryz.prog pk 202 [] (xr (levL.map fun l => [D.s (l.map cu)])) := by
  refine XQ.en Tryz.func202 Tryz.ntmps202 (fun w0 own H V v0 hf => ?_)
  refine G (T := T) 1000 rfl ?_
  exact Fq (T := T) rfl rfl
def rankI (s : ByteArray) : Int := idxI (aF s) levL
theorem rank_lev (s : ByteArray) : decide (0 ≤ rankI s) = aF s opsL := by rw [ops_lev]; exact iW _ _
theorem ref_rank (s : ByteArray) : XQ Tryz.prog pk 182 [xs s] (xi (rankI s)) := by
  refine XQ.en Tryz.func182 Tryz.ntmps182 (fun w0 own H V v0 hf => ?_)
  refine G (T := T) 1000 rfl ?_
  refine Cq oY rfl rfl rfl rfl rfl ⟨rfl, rfl⟩ ?_
  have hl : levL.length = 8 := rfl
  have hb : ∀ l ∈ levL, l.length ≤ 1000000 := by decide
  rw [rankI]
  generalize levL = L at hl hb ⊢
  refine G (T := T) 1000 rfl ?_
  refine Lq [0, 3] (fun q r => (2, xi 0) :: (4, xi (q : Nat)) :: r) (fun q => []) 0 (fun q => q ≤ L.length ∧ (L.take q).any (aF s) = false) (fun q => L.length - q) 0 rfl ⟨Nat.zero_le _, rfl⟩ ?_
  rintro j ⟨hj, hI⟩
  refine G (T := T) 1000 rfl ?_
  refine If rfl (fun h => ?_) (fun h => ?_)
  · have hjl := of_decide_eq_true h; rw [List.length_map] at hjl
    obtain ⟨y, hy⟩ := ae (l := L) (j := j) (by omega)
    refine G (T := T) 1000 rfl ?_
    refine Ix (T := T) j (ab hy) rfl rfl rfl rfl ⟨rfl, rfl⟩ rfl rfl ?_
    refine G (T := T) 1000 rfl ?_
    refine Cq (k7 (hb y (List.mem_of_getElem? hy)) s) rfl rfl rfl rfl rfl ⟨rfl, rfl⟩ ?_
    refine G (T := T) 1000 rfl ?_
    refine If rfl (fun h => ?_) (fun h => ?_)
    · refine G (T := T) 1000 rfl ?_
      exact Fe (T := T) rfl (by show xi _ = xi _; rw [eO hI hy h])
    · refine G (T := T) 1000 rfl ?_
      exact Nq (j + 1) ⟨by omega, eu hI hy h⟩ (by show _ - (j + 1) < _ - j; omega)
  · have hjl := of_decide_eq_false h; rw [List.length_map] at hjl
    refine G (T := T) 1000 rfl ?_
    exact Fe (T := T) rfl (by show xi _ = xi _; rw [ge hI (by omega)])
theorem oZ : ∀ (m : Nat), m ≤ 100000000000 → ∀ {e : Ex}, e.size ≤ m → e.ok → XQ Tryz.prog pk 159 [xd (exD e)] (xb (rEx e)) := by
  intro m
  induction m with
  | zero => intro _ e hm; have := e.size_pos; omega
  | succ m ih =>
  intro hB e hm hok
  obtain ⟨k, nm, n, ks⟩ := e
  obtain ⟨hk, hn, hn2, hks⟩ := hok
  have hsz : (Ex.mk k nm n ks).size = Ex.sizes ks + 1 := rfl
  have hlen := Ex.len_le ks
  rw [et, rEx_split hn2.1]
  refine XQ.en Tryz.func159 Tryz.ntmps159 (fun w0 own H V v0 hf => ?_)
  refine G (T := T) 100001 rfl ?_
  refine (FzTo.bz 0 rfl).c ?_
  refine G (T := T) 1000 rfl ?_
  refine Cq (ref_shape k _ _ _) rfl rfl rfl rfl rfl ⟨rfl, rfl⟩ ?_
  refine Gs (T := T) 1000 rfl ?_
  have e1 : ((decide (0 ≤ (shp k).1) && decide (((ks.map exD).length : Int) ≠ (shp k).1)) || decide ((shp k).2.1 ≤ n)) = iB k n ks.length := by rw [iB, List.length_map]
  refine If rfl (fun h => ?_) (fun h => ?_)
  · rw [show iB k n ks.length = true from e1.symm.trans h]
    refine G (T := T) 1000 rfl ?_
    exact Fe (T := T) rfl rfl
  have h1 : iB k n ks.length = false := e1.symm.trans h
  have hin := exOne_in hn2.1 h1
  rw [h1]
  refine G (T := T) 200000 rfl ?_
  refine Cf [1, 2] (fun (_ : Unit) r => (4, xb (bn k nm)) :: r) (fun _ => []) 2 (fun _ => True) rfl ?_ ?_
  · refine G (T := T) 1000 rfl ?_
    refine If rfl (fun h => ?_) (fun h => ?_)
    · rw [nv ((shp_nm1 hin).1 (of_decide_eq_true h))]
      refine G (T := T) 1000 rfl ?_
      refine Cq (bR (by omega)) rfl rfl rfl rfl rfl ⟨rfl, rfl⟩ ?_
      refine G (T := T) 1000 rfl ?_
      exact Dn () trivial
    have h2 : ¬ (k = 2 ∨ k = 3 ∨ k = 14) := fun q => absurd ((shp_nm1 hin).2 q) (of_decide_eq_false h)
    refine G (T := T) 1000 rfl ?_
    refine If rfl (fun h => ?_) (fun h => ?_)
    · rw [exName_un (of_decide_eq_true h)]
      refine Gs (T := T) 1000 rfl ?_
      exact Dn () trivial
    have h3 := of_decide_eq_false h
    refine G (T := T) 1000 rfl ?_
    refine If rfl (fun h => ?_) (fun h => ?_)
    · rw [nw (of_decide_eq_true h)]
      refine Gs (T := T) 1000 rfl ?_
      exact Dn () trivial
    have h4 := of_decide_eq_false h
    refine G (T := T) 1000 rfl ?_
    refine If rfl (fun h => ?_) (fun h => ?_)
    · rw [oC (of_decide_eq_true h), ← rank_lev]
      refine G (T := T) 1000 rfl ?_
      refine Cq (ref_rank nm) rfl rfl rfl rfl rfl ⟨rfl, rfl⟩ ?_
      refine G (T := T) 1000 rfl ?_
      exact Dn () trivial
    have h5 := of_decide_eq_false h
    rw [nz h2 h3 h4 h5]
    refine G (T := T) 1000 rfl ?_
    exact Dn () trivial
  rintro _ -
  refine G (T := T) 1000 rfl ?_
  refine If rfl (fun h => ?_) (fun h => ?_)
  · rw [notT h]
    refine G (T := T) 1000 rfl ?_
    exact Fe (T := T) rfl rfl
  rw [notF h, Bool.not_false, Bool.true_and, Bool.true_and]
  refine G (T := T) 1000 rfl ?_
  refine Lq [1] (fun q r => (2, xb false) :: (5, xi (q : Nat)) :: r) (fun q => []) 2 (fun q => q ≤ ks.length ∧ (ks.take q).all rEx = true) (fun q => ks.length - q) 0 rfl ⟨Nat.zero_le _, rfl⟩ ?_
  rintro j ⟨hj, hI⟩
  refine G (T := T) 1000 rfl ?_
  refine If rfl (fun h => ?_) (fun h => ?_)
  · have hjl := of_decide_eq_true h; rw [List.length_map] at hjl
    obtain ⟨y, hy⟩ := ae (l := ks) (j := j) (by omega)
    have hym := List.mem_of_getElem? hy
    refine G (T := T) 1000 rfl ?_
    refine Ix (T := T) j (ab hy) rfl rfl rfl rfl ⟨rfl, rfl⟩ rfl rfl ?_
    refine G (T := T) 1000 rfl ?_
    refine Cq (ih (by omega) (by have := Ex.size_mem hym; omega) (Ex.oks_mem hks hym)) rfl rfl rfl rfl rfl ⟨rfl, rfl⟩ ?_
    refine G (T := T) 1000 rfl ?_
    refine If rfl (fun h => ?_) (fun h => ?_)
    · refine G (T := T) 1000 rfl ?_
      exact Fe (T := T) rfl (congrArg xb (bW hym (by simpa using h)).symm)
    · refine G (T := T) 1000 rfl ?_
      exact Nq (j + 1) ⟨by omega, cF hI hy (by simpa using h)⟩ (by show _ - (j + 1) < _ - j; omega)
  · have hjl := of_decide_eq_false h; rw [List.length_map] at hjl
    refine G (T := T) 1000 rfl ?_
    rw [List.take_of_length_le (by omega)] at hI
    exact Fe (T := T) rfl (congrArg xb hI.symm)
end
section
open Go Go.RowKit Go.Proofs K
variable {pk : Pk}
theorem ref_kind (s : Sm) : XQ Tryz.prog pk 157 [xd (smD s)] (xd [.c (.int .i64 (K.kd (sk s) 0)), .c (.int .i64 (K.kd (sk s) 1)), .c (.int .i64 (K.kd (sk s) 2)), .c (.int .i64 (K.kd (sk s) 3)), .c (.int .i64 (K.kd (sk s) 4)), .c (.int .i64 (K.kd (sk s) 5))]) := by
  unfold smD
  generalize sk s = k
  refine XQ.en Tryz.func157 Tryz.ntmps157 (fun w0 own H V v0 hf => ?_)
  refine G (T := T) 100001 rfl ?_
  refine (FzTo.bz 0 rfl).c ?_
  refine G (T := T) 1000 rfl ?_
  iterate 14
    refine If rfl (fun h => ?_) (fun h => ?_)
    rotate_left
    have := of_decide_eq_false h
    refine G (T := T) 1000 rfl ?_
    try (refine IfF rfl h ?_; refine G (T := T) 1000 rfl ?_)
  · have e : ∀ j, K.kd k j = [1, 0, 0, 0, 0, 0].getD j 0 := fun j => by unfold K.kd; rw [mG (by omega)]
    rw [e, e, e, e, e, e]
    exact Fq (T := T) rfl rfl
  all_goals
    have h9 := of_decide_eq_true h
    subst h9
    refine G (T := T) 1000 rfl ?_
    first
      | exact Fq (T := T) rfl rfl
      | (refine IfT rfl h ?_; refine G (T := T) 1000 rfl ?_; exact Fq (T := T) rfl rfl)
abbrev smE (l : List Sm) (f : FuncId) (pk : Pk) : Prop := ∀ s ∈ l, XQ Tryz.prog pk f [xd (smD s)] (xb (rSm s))
theorem lw {l : List Sm} (hl : l.length ≤ 100000000000) (h : smE l 126 pk) : XQ Tryz.prog pk 77 [xr (l.map smD)] (xb (cB l)) := by
  rw [aZ]
  refine XQ.en Tryz.func77 Tryz.ntmps77 (fun w0 own H V v0 hf => ?_)
  refine G (T := T) 1000 rfl ?_
  refine Lq [0] (fun q r => (2, xb false) :: (3, xi (q : Nat)) :: r) (fun q => []) 0 (fun q => q ≤ l.length ∧ (l.take q).all rSm = true) (fun q => l.length - q) 0 rfl ⟨Nat.zero_le _, rfl⟩ ?_
  rintro j ⟨hj, hI⟩
  refine G (T := T) 1000 rfl ?_
  refine If rfl (fun h => ?_) (fun h => ?_)
  · have hjl := of_decide_eq_true h; rw [List.length_map] at hjl
    obtain ⟨y, hy⟩ := ae (l := l) (j := j) (by omega)
    have hym := List.mem_of_getElem? hy
    refine G (T := T) 1000 rfl ?_
    refine Ix (T := T) j (ab hy) rfl rfl rfl rfl ⟨rfl, rfl⟩ rfl rfl ?_
    refine G (T := T) 15 rfl ?_
    refine Cq (by first | exact h y hym | (rename_i hh _ _ _ _ _ _ _ _ _; exact hh y hym) | exact (‹smE l 126 pk› y hym)) rfl rfl rfl rfl rfl ⟨rfl, rfl⟩ ?_
    refine G (T := T) 1000 rfl ?_
    refine If rfl (fun h => ?_) (fun h => ?_)
    · refine G (T := T) 1000 rfl ?_
      exact Fe (T := T) rfl (congrArg xb (bW hym (by simpa using h)).symm)
    · refine G (T := T) 1000 rfl ?_
      exact Nq (j + 1) ⟨by omega, cF hI hy (by simpa using h)⟩ (by show _ - (j + 1) < _ - j; omega)
  · have hjl := of_decide_eq_false h; rw [List.length_map] at hjl
    refine G (T := T) 1000 rfl ?_
    rw [List.take_of_length_le (by omega)] at hI
    exact Fe (T := T) rfl (congrArg xb hI.symm)
theorem ek_kind (e : Ex) : ek e = e.kind := by cases e; rfl
theorem place_neq (k : Int) : (((((decide (k ≠ 2) && decide (k ≠ 3)) && decide (k ≠ 4)) && decide (k ≠ 5)) && decide (k ≠ 7)) && decide (k ≠ 8)) = !bo k := by
  unfold bo
  rw [Bool.eq_iff_iff]
  simp only [Bool.and_eq_true, decide_eq_true_eq, Bool.not_eq_true', decide_eq_false_iff_not]
  omega
theorem o7 : ∀ (m : Nat), m ≤ 100000000000 → ∀ {s : Sm}, s.size ≤ m → s.ok → XQ Tryz.prog pk 126 [xd (smD s)] (xb (rSm s)) := by
  intro m
  induction m with
  | zero => intro _ e hm; have := e.size_pos; omega
  | succ m ih =>
  intro hB s hm hok
  have hkind := ref_kind (pk := pk) s
  obtain ⟨k, nm, t, n, es, b, el, cs⟩ := s
  obtain ⟨hk, hn, ht, hn2, hx, hb, he, hc⟩ := hok
  have hsz : (Sm.mk k nm t n es b el cs).size = t.size + Ex.sizes es + Sm.sizes b + Sm.sizes el + Sm.csizes cs + 1 := rfl
  have l1 := Ex.len_le es
  have l2 := Sm.clen_le cs
  have l3 := Sm.len_le b
  have l4 := Sm.len_le el
  have blk : ∀ {l : List Sm}, Sm.sizes l ≤ m → Sm.oks l → XQ Tryz.prog pk 77 [xr (l.map smD)] (xb (cB l)) := fun {l} h1 h2 => lw (by have := Sm.len_le l; omega) (fun s hs => ih (by omega) (by have := Sm.size_mem hs; omega) (Sm.oks_mem h2 hs))
  rw [aQ] at hkind ⊢
  change XQ Tryz.prog pk 157 _ (xd [.c (.int .i64 (K.kd k 0)), .c (.int .i64 (K.kd k 1)), .c (.int .i64 (K.kd k 2)), .c (.int .i64 (K.kd k 3)), .c (.int .i64 (K.kd k 4)), .c (.int .i64 (K.kd k 5))]) at hkind
  rw [rSm_split hn2.1]
  refine XQ.en Tryz.func126 Tryz.ntmps126 (fun w0 own H V v0 hf => ?_)
  refine G (T := T) 100001 rfl ?_
  refine (FzTo.bz 0 rfl).c ?_
  refine G (T := T) 1000 rfl ?_
  refine Cq hkind rfl rfl rfl rfl rfl ⟨rfl, rfl⟩ ?_
  refine G (T := T) 1000 rfl ?_
  refine Cq (bR (s := nm) (by omega)) rfl rfl rfl rfl rfl ⟨rfl, rfl⟩ ?_
  refine Gs (T := T) 1000 rfl ?_
  let KB : XH := [⟨1, 0, .cells [.d (.c (.int .i64 (K.kd k 0))), .d (.c (.int .i64 (K.kd k 1))), .d (.c (.int .i64 (K.kd k 2))), .d (.c (.int .i64 (K.kd k 3))), .d (.c (.int .i64 (K.kd k 4))), .d (.c (.int .i64 (K.kd k 5)))] 220⟩]
  refine Cf [1, 2, 3] (fun (_ : Unit) r => (4, xb (eA k nm)) :: r) (fun _ => KB) 2 (fun _ => True) rfl ?_ ?_
  · refine If rfl (fun h => ?_) (fun h => ?_)
    · have h2 : K.kd k 2 = 0 ∨ (K.kd k 2 = 2 ∧ nm = ⟨#[]⟩) := by simpa using h
      rw [eA, if_pos h2]
      refine Gs (T := T) 1000 rfl ?_
      exact Dn () trivial
    · have h2 : ¬ (K.kd k 2 = 0 ∨ (K.kd k 2 = 2 ∧ nm = ⟨#[]⟩)) := fun q => by
        have e : (decide (K.kd k 2 = 0) || (decide (K.kd k 2 = 2) && decide (nm = ⟨#[]⟩))) = true := by simpa using q
        rw [show (decide (K.kd k 2 = 0) || (decide (K.kd k 2 = 2) && decide (nm = ⟨#[]⟩))) = false from h] at e; cases e
      rw [eA, if_neg h2]
      refine G (T := T) 1000 rfl ?_
      exact Dn () trivial
  rintro _ -
  refine G (T := T) 1000 rfl ?_
  refine Cq (oX t) rfl rfl rfl rfl rfl ⟨rfl, rfl⟩ ?_
  refine G (T := T) 1000 rfl ?_
  refine Cf [1, 2, 3, 4] (fun (_ : Unit) r => (5, xb (dg k t)) :: r) (fun _ => KB) 2 (fun _ => True) rfl ?_ ?_
  · refine If rfl (fun h => ?_) (fun h => ?_)
    · rw [dg, if_pos (of_decide_eq_true h)]
      refine G (T := T) 1000 rfl ?_
      refine Cq (dZ _ (Nat.le_refl _) ht) rfl rfl rfl rfl rfl ⟨rfl, rfl⟩ ?_
      refine G (T := T) 1000 rfl ?_
      exact Dn () trivial
    · rw [dg, if_neg (of_decide_eq_false h)]
      refine G (T := T) 1000 rfl ?_
      exact Dn () trivial
  rintro _ -
  refine Gs (T := T) 1000 rfl ?_
  have e8 : (((((decide (((es.map exD).length : Int) < K.kd k 0) || decide (K.kd k 1 < ((es.map exD).length : Int))) || !eA k nm) || !dg k t) || decide (255 < n)) || (decide (k ≠ 11) && decide (n ≠ 0))) = cz k n es.length (eA k nm) (dg k t) := by rw [cz, List.length_map]
  refine If rfl (fun h => ?_) (fun h => ?_)
  · rw [show cz k n es.length (eA k nm) (dg k t) = true from e8.symm.trans h]
    refine G (T := T) 1000 rfl ?_
    exact Fe (T := T) rfl rfl
  have h8 : cz k n es.length (eA k nm) (dg k t) = false := e8.symm.trans h
  have hleast := nA h8
  rw [h8]
  refine Gs (T := T) 1000 rfl ?_
  have e10 : (((decide (K.kd k 3 = 0) && decide (0 < ((b.map smD).length : Int))) || (decide (K.kd k 4 = 0) && decide (0 < ((el.map smD).length : Int)))) || (decide (K.kd k 5 = 0) && decide (0 < ((cs.map blD).length : Int)))) = kT k b.length el.length cs.length := by rw [kT, List.length_map, List.length_map, List.length_map]
  refine If rfl (fun h => ?_) (fun h => ?_)
  · rw [show kT k b.length el.length cs.length = true from e10.symm.trans h]
    refine G (T := T) 1000 rfl ?_
    exact Fe (T := T) rfl rfl
  rw [show kT k b.length el.length cs.length = false from e10.symm.trans h]
  simp only [Bool.not_false, Bool.true_and]
  refine G (T := T) 1000 rfl ?_
  refine Lq [1] (fun q r => (2, xb false) :: (6, xi (q : Nat)) :: r) (fun q => []) 2 (fun q => q ≤ es.length ∧ (es.take q).all rEx = true) (fun q => es.length - q) 0 rfl ⟨Nat.zero_le _, rfl⟩ ?_
  rintro j ⟨hj, hI⟩
  refine G (T := T) 1000 rfl ?_
  refine If rfl (fun h => ?_) (fun h => ?_)
  · have hjl := of_decide_eq_true h; rw [List.length_map] at hjl
    obtain ⟨y, hy⟩ := ae (l := es) (j := j) (by omega)
    have hym := List.mem_of_getElem? hy
    refine G (T := T) 1000 rfl ?_
    refine Ix (T := T) j (ab hy) rfl rfl rfl rfl ⟨rfl, rfl⟩ rfl rfl ?_
    refine G (T := T) 1000 rfl ?_
    refine Cq (oZ _ (by have := Ex.size_mem hym; omega) (Nat.le_refl _) (Ex.oks_mem hx hym)) rfl rfl rfl rfl rfl ⟨rfl, rfl⟩ ?_
    refine G (T := T) 1000 rfl ?_
    refine If rfl (fun h => ?_) (fun h => ?_)
    · refine G (T := T) 1000 rfl ?_
      rw [bW hym (by simpa using h)]
      exact Fe (T := T) rfl rfl
    · refine G (T := T) 1000 rfl ?_
      exact Nq (j + 1) ⟨by omega, cF hI hy (by simpa using h)⟩ (by show _ - (j + 1) < _ - j; omega)
  have hjl := of_decide_eq_false h; rw [List.length_map] at hjl
  rw [List.take_of_length_le (by omega)] at hI
  rw [hI, Bool.true_and]
  obtain ⟨u, hu⟩ : ∃ u : Ex, 1 ≤ es.length → es[0]? = some u ∧ es.map exD = exD u :: (es.drop 1).map exD ∧ ∀ p, bK p es = p (ek u) := by
    match es with
    | [] => exact ⟨.mk 0 eS 0 [], fun h => by simp at h⟩
    | x :: r => exact ⟨x, fun _ => ⟨rfl, rfl, fun p => by rw [ek_kind]; rfl⟩⟩
  have k14 : k = 14 → 1 ≤ es.length := fun q => by subst q; have : K.kd 14 0 = 1 := rfl; omega
  have k2 : k = 2 → 1 ≤ es.length := fun q => by subst q; have : K.kd 2 0 = 2 := rfl; omega
  refine Gs (T := T) 132 rfl ?_
  refine Is (T := T) 0 (exD u) (fun h => ⟨by rw [(hu (k14 (of_decide_eq_true h))).2.1]; rfl, rfl⟩) rfl rfl rfl rfl rfl rfl rfl rfl ?_
  refine Gs (T := T) 1000 rfl ?_
  have a1 : (decide (k = 14) && decide (ek u ≠ 14)) = (decide (k = 14) && !bK (fun j => decide (j = 14)) es) := by
    by_cases q : k = 14
    · rw [decide_eq_true q, (hu (k14 q)).2.2, decide_not]
    · rw [decide_eq_false q]; rfl
  refine If rfl (fun h => ?_) (fun h => ?_)
  · rw [show (decide (k = 14) && !bK (fun j => decide (j = 14)) es) = true from a1.symm.trans h]
    refine G (T := T) 1000 rfl ?_
    exact Fe (T := T) rfl rfl
  rw [show (decide (k = 14) && !bK (fun j => decide (j = 14)) es) = false from a1.symm.trans h, Bool.not_false, Bool.true_and]
  refine G (T := T) 1000 rfl ?_
  generalize hZ : ((decide (k = 2) && !bK bo es)) = Z
  refine Cf [1, 2] (fun (_ : Unit) r => r) (fun _ => []) 2 (fun _ => Z = false) rfl ?_ ?_
  · refine If rfl (fun h => ?_) (fun h => ?_)
    · have h2 := of_decide_eq_true h
      refine Gs (T := T) 142 rfl ?_
      refine Ix (T := T) 0 (r := exD u) (by rw [(hu (k2 h2)).2.1]; rfl) rfl rfl rfl rfl ⟨rfl, rfl⟩ rfl rfl ?_
      refine Gs (T := T) 1000 rfl ?_
      have a2 : (((((decide (ek u ≠ 2) && decide (ek u ≠ 3)) && decide (ek u ≠ 4)) && decide (ek u ≠ 5)) && decide (ek u ≠ 7)) && decide (ek u ≠ 8)) = Z := by rw [place_neq, ← hZ, decide_eq_true h2, (hu (k2 h2)).2.2, Bool.true_and]
      refine If rfl (fun h => ?_) (fun h => ?_)
      · have a3 : Z = true := a2.symm.trans h
        subst a3
        refine G (T := T) 1000 rfl ?_
        exact Fe (T := T) rfl rfl
      · have a3 : Z = false := a2.symm.trans h
        refine G (T := T) 1000 rfl ?_
        exact Dn () a3
    · refine G (T := T) 1000 rfl ?_
      exact Dn () (by rw [← hZ, h]; rfl)
  rintro _ rfl
  rw [Bool.not_false, Bool.true_and]
  refine G (T := T) 1000 rfl ?_
  refine Lq [1] (fun q r => (2, xb false) :: (9, xi (q : Nat)) :: r) (fun q => []) 2 (fun q => q ≤ cs.length ∧ (cs.take q).all cB = true) (fun q => cs.length - q) 0 rfl ⟨Nat.zero_le _, rfl⟩ ?_
  rintro j ⟨hj, hI⟩
  refine G (T := T) 1000 rfl ?_
  refine If rfl (fun h => ?_) (fun h => ?_)
  · have hjl := of_decide_eq_true h; rw [List.length_map] at hjl
    obtain ⟨y, hy⟩ := ae (l := cs) (j := j) (by omega)
    have hym := List.mem_of_getElem? hy
    refine G (T := T) 1000 rfl ?_
    refine Ix (T := T) j (ab hy) rfl rfl rfl rfl ⟨rfl, rfl⟩ rfl rfl ?_
    refine G (T := T) 1000 rfl ?_
    refine Cq (blk (by have := Sm.csize_mem hym; omega) (Sm.okc_mem hc hym)) rfl rfl rfl rfl rfl ⟨rfl, rfl⟩ ?_
    refine G (T := T) 1000 rfl ?_
    refine If rfl (fun h => ?_) (fun h => ?_)
    · refine G (T := T) 1000 rfl ?_
      rw [bW hym (by simpa using h)]
      exact Fe (T := T) rfl rfl
    · refine G (T := T) 1000 rfl ?_
      exact Nq (j + 1) ⟨by omega, cF hI hy (by simpa using h)⟩ (by show _ - (j + 1) < _ - j; omega)
  have hjl := of_decide_eq_false h; rw [List.length_map] at hjl
  rw [List.take_of_length_le (by omega)] at hI
  rw [hI, Bool.true_and, ← aZ, ← aZ]
  refine G (T := T) 1000 rfl ?_
  refine Cq (blk (by omega) hb) rfl rfl rfl rfl rfl ⟨rfl, rfl⟩ ?_
  refine G (T := T) 1000 rfl ?_
  refine Cq (blk (by omega) he) rfl rfl rfl rfl rfl ⟨rfl, rfl⟩ ?_
  refine Gs (T := T) 1000 rfl ?_
  exact Fe (T := T) rfl rfl
end
section
open Go Go.RowKit Go.Proofs K
variable {pk : Pk}
theorem tyS_len (t : Ty4) : aA t 7 = (((decide (tk t = 7) && decide (tnm t = eS)) && decide (tn t = 0)) && decide (((tyS t).length : Int) = 0)) := by
  obtain ⟨k, nm, n, ts⟩ := t
  show _ = (((decide (k = 7) && decide (nm = eS)) && decide (n = 0)) && decide (((tyR ts).length : Int) = 0))
  rw [tyR_eq, len0]; rfl
theorem o8 {f : Fu} {B : Nat} (hB : B ≤ 90000000000) (hok : f.ok B) : XQ Tryz.prog pk 31 [xd (fuD f)] (xb (rFu f)) := by
  obtain ⟨h1, h2, h3, h4, h5, h6, h7, h8, h9⟩ := hok
  have hbl := Sm.len_le f.body
  have hty := dZ (pk := pk) _ (Nat.le_refl _) h4
  have hst := lw (pk := pk) (l := f.body) (by omega) (fun s hs => o7 _ (by have := Sm.size_mem hs; omega) (Nat.le_refl _) (Sm.oks_mem h6 hs))
  unfold fuD rFu
  refine XQ.en Tryz.func31 Tryz.ntmps31 (fun w0 own H V v0 hf => ?_)
  refine G (T := T) 100001 rfl ?_
  refine (FzTo.bz 0 rfl).c ?_
  refine G (T := T) 1000 rfl ?_
  refine Cq (bR (s := f.nm) (by omega)) rfl rfl rfl rfl rfl ⟨rfl, rfl⟩ ?_
  refine G (T := T) 1000 rfl ?_
  refine Cq (kz (l := f.ps) (by omega) (fun p hp => ⟨(h3 p hp).1, (h3 p hp).2.1⟩)) rfl rfl rfl rfl rfl ⟨rfl, rfl⟩ ?_
  refine Gs (T := T) 100004 rfl ?_
  refine Gs (T := T) 1000 rfl ?_
  refine Cq hty rfl rfl rfl rfl rfl ⟨rfl, rfl⟩ ?_
  refine Gs (T := T) 1000 rfl ?_
  have a1 : ((!ai f.nm || !f.ps.all cm) || (!(((decide (tk f.res = 7) && decide (tnm f.res = eS)) && decide (tn f.res = 0)) && decide (((tyS f.res).length : Int) = 0)) && !rTy f.res)) = !((ai f.nm && f.ps.all cm) && (aA f.res 7 || rTy f.res)) := by
    rw [← tyS_len, Bool.not_and, Bool.not_and, Bool.not_or]
  refine If rfl (fun h => ?_) (fun h => ?_)
  · rw [notT (a1.symm.trans h), Bool.false_and]
    refine G (T := T) 1000 rfl ?_
    exact Fe (T := T) rfl rfl
  rw [notF (a1.symm.trans h), Bool.true_and]
  refine G (T := T) 1000 rfl ?_
  refine If rfl (fun h => ?_) (fun h => ?_)
  · rw [if_pos h]
    refine Gs (T := T) 1000 rfl ?_
    refine Fe (T := T) rfl ?_
    show xb ((decide (((f.body.map smD).length : Int) = 0) && _) && _) = _
    rw [len0]
  · rw [if_neg (by rw [h]; exact Bool.false_ne_true)]
    refine Gs (T := T) 74 rfl ?_
    refine Eqs rfl rfl rfl rfl rfl (by kernel_rfl) (jX _ _ _ _) ⟨rfl, rfl⟩ ?_
    refine Gs (T := T) 1000 rfl ?_
    refine Cs (fun _ => hst) rfl rfl rfl rfl rfl rfl rfl rfl ?_
    refine Gs (T := T) 1000 rfl ?_
    refine Fe (T := T) rfl (congrArg xb ?_)
    congr 1
    rw [Bool.eq_iff_iff]; simp
theorem ref_Right {p : Pg} {B : Nat} (hB : B ≤ 90000000000) (hok : p.ok B) : XQ Tryz.prog pk 11 [xd (pgD p)] (xb (rPg p)) := by
  have htl := hok.tl
  have hgl := hok.gl
  have hfl := hok.fl
  refine XQ.en Tryz.func11 Tryz.ntmps11 (fun w0 own H V v0 hf => ?_)
  unfold rPg
  refine G (T := T) 100001 rfl ?_
  refine (FzTo.bz 0 rfl).c ?_
  refine G (T := T) 1000 rfl ?_
  refine Lq [1] (fun q r => (2, xb false) :: (3, xi (q : Nat)) :: r) (fun q => []) 1 (fun q => q ≤ p.ts.length ∧ (p.ts.take q).all rTd = true) (fun q => p.ts.length - q) 0 rfl ⟨Nat.zero_le _, rfl⟩ ?_
  rintro j ⟨hj, hI⟩
  refine G (T := T) 1000 rfl ?_
  refine If rfl (fun h => ?_) (fun h => ?_)
  · have hjl := of_decide_eq_true h; rw [List.length_map] at hjl
    obtain ⟨y, hy⟩ := ae (l := p.ts) (j := j) (by omega)
    have hym := List.mem_of_getElem? hy
    obtain ⟨o1, o2, o3⟩ := hok.t y hym
    refine G (T := T) 1000 rfl ?_
    refine Ix (T := T) j (ab hy) rfl rfl rfl rfl ⟨rfl, rfl⟩ rfl rfl ?_
    refine G (T := T) 1000 rfl ?_
    refine Cq (bR (s := y.nm) (by omega)) rfl rfl rfl rfl rfl ⟨rfl, rfl⟩ ?_
    refine G (T := T) 1000 rfl ?_
    refine Ix (T := T) j (ab hy) rfl rfl rfl rfl ⟨rfl, rfl⟩ rfl rfl ?_
    refine G (T := T) 1000 rfl ?_
    refine Cq (kz (l := y.fs) (by omega) (fun p hp => ⟨(o3 p hp).1, (o3 p hp).2.1⟩)) rfl rfl rfl rfl rfl ⟨rfl, rfl⟩ ?_
    refine Gs (T := T) 1000 rfl ?_
    have e9 : (!ai y.nm || !y.fs.all cm) = !rTd y := by rw [rTd, Bool.not_and]
    refine If rfl (fun h => ?_) (fun h => ?_)
    · rw [e9] at h
      refine G (T := T) 1000 rfl ?_
      rw [bW hym (by simpa using h)]
      exact Fe (T := T) rfl rfl
    · rw [e9] at h
      refine G (T := T) 1000 rfl ?_
      exact Nq (j + 1) ⟨by omega, cF hI hy (by simpa using h)⟩ (by show _ - (j + 1) < _ - j; omega)
  have hjl := of_decide_eq_false h; rw [List.length_map] at hjl
  rw [List.take_of_length_le (by omega)] at hI
  rw [hI, Bool.true_and]
  refine G (T := T) 1000 rfl ?_
  refine Lq [1] (fun q r => (2, xb false) :: (6, xi (q : Nat)) :: r) (fun q => []) 1 (fun q => q ≤ p.gs.length ∧ (p.gs.take q).all rGb = true) (fun q => p.gs.length - q) 0 rfl ⟨Nat.zero_le _, rfl⟩ ?_
  rintro j ⟨hj, hI⟩
  refine G (T := T) 1000 rfl ?_
  refine If rfl (fun h => ?_) (fun h => ?_)
  · have hjl := of_decide_eq_true h; rw [List.length_map] at hjl
    obtain ⟨y, hy⟩ := ae (l := p.gs) (j := j) (by omega)
    have hym := List.mem_of_getElem? hy
    obtain ⟨o1, o2, o3, o4, o5, o6⟩ := hok.g y hym
    refine G (T := T) 1000 rfl ?_
    refine Ix (T := T) j (ab hy) rfl rfl rfl rfl ⟨rfl, rfl⟩ rfl rfl ?_
    refine G (T := T) 100012 rfl ?_
    refine (FzTo.bz 1 rfl).c ?_
    refine G (T := T) 1000 rfl ?_
    refine Cq (bR (s := y.nm) (by omega)) rfl rfl rfl rfl rfl ⟨rfl, rfl⟩ ?_
    refine G (T := T) 1000 rfl ?_
    refine Cq (dZ _ (Nat.le_refl _) o2) rfl rfl rfl rfl rfl ⟨rfl, rfl⟩ ?_
    refine Gs (T := T) 1000 rfl ?_
    have e9 : ((((!ai y.nm || !rTy y.ty) || decide (y.bank < -1)) || decide (63 < y.bank)) || (decide (y.bank < 0) && decide (y.bytes ≠ ⟨#[]⟩))) = !rGb y := by
      rw [rGb, decide_not]
      have i1 : decide (y.bank < -1) = !decide (-1 ≤ y.bank) := by rw [← decide_not]; exact decide_eq_decide.2 (by omega)
      have i2 : decide (63 < y.bank) = !decide (y.bank < 64) := by rw [← decide_not]; exact decide_eq_decide.2 (by omega)
      have i3 : decide (y.bank < 0) = !decide (0 ≤ y.bank) := by rw [← decide_not]; exact decide_eq_decide.2 (by omega)
      have i4 : decide (y.bank = -1) = (decide (-1 ≤ y.bank) && !decide (0 ≤ y.bank)) := by rw [← i3, ← Bool.decide_and]; exact decide_eq_decide.2 (by omega)
      have i5 : decide (0 ≤ y.bank) = true → decide (-1 ≤ y.bank) = true := fun h => decide_eq_true (by have := of_decide_eq_true h; omega)
      have i6 : decide (0 ≤ y.bank) = false → decide (y.bank < 64) = true := fun h => decide_eq_true (by have := of_decide_eq_false h; omega)
      rw [i1, i2, i3, i4]
      revert i5 i6
      generalize decide (0 ≤ y.bank) = A
      generalize decide (-1 ≤ y.bank) = C
      generalize decide (y.bank < 64) = D'
      cases ai y.nm <;> cases rTy y.ty <;> cases A <;> cases C <;> cases D' <;> simp
    refine If rfl (fun h => ?_) (fun h => ?_)
    · rw [e9] at h
      refine G (T := T) 1000 rfl ?_
      rw [bW hym (by simpa using h)]
      exact Fe (T := T) rfl rfl
    · rw [e9] at h
      refine G (T := T) 1000 rfl ?_
      exact Nq (j + 1) ⟨by omega, cF hI hy (by simpa using h)⟩ (by show _ - (j + 1) < _ - j; omega)
  have hjl := of_decide_eq_false h; rw [List.length_map] at hjl
  rw [List.take_of_length_le (by omega)] at hI
  rw [hI, Bool.true_and]
  refine G (T := T) 1000 rfl ?_
  refine Lq [1] (fun q r => (2, xb false) :: (10, xi (q : Nat)) :: r) (fun q => []) 1 (fun q => q ≤ p.fs.length ∧ (p.fs.take q).all rFu = true) (fun q => p.fs.length - q) 0 rfl ⟨Nat.zero_le _, rfl⟩ ?_
  rintro j ⟨hj, hI⟩
  refine G (T := T) 1000 rfl ?_
  refine If rfl (fun h => ?_) (fun h => ?_)
  · have hjl := of_decide_eq_true h; rw [List.length_map] at hjl
    obtain ⟨y, hy⟩ := ae (l := p.fs) (j := j) (by omega)
    have hym := List.mem_of_getElem? hy
    refine G (T := T) 1000 rfl ?_
    refine Ix (T := T) j (ab hy) rfl rfl rfl rfl ⟨rfl, rfl⟩ rfl rfl ?_
    refine G (T := T) 1000 rfl ?_
    refine Cq (o8 hB (hok.f y hym)) rfl rfl rfl rfl rfl ⟨rfl, rfl⟩ ?_
    refine G (T := T) 1000 rfl ?_
    refine If rfl (fun h => ?_) (fun h => ?_)
    · refine G (T := T) 1000 rfl ?_
      rw [bW hym (by simpa using h)]
      exact Fe (T := T) rfl rfl
    · refine G (T := T) 1000 rfl ?_
      exact Nq (j + 1) ⟨by omega, cF hI hy (by simpa using h)⟩ (by show _ - (j + 1) < _ - j; omega)
  have hjl := of_decide_eq_false h; rw [List.length_map] at hjl
  rw [List.take_of_length_le (by omega)] at hI
  rw [hI]
  refine G (T := T) 1000 rfl ?_
  exact Fe (T := T) rfl rfl
end
section
open Go Go.RowKit Go.Proofs K
variable {pk : Pk}
abbrev c0B : XB := ⟨1, 0, .cells [.d (.c (.string eS)), .z] 35⟩
theorem pb {p : Pg} {B : Nat} (hB : B ≤ 90000000000) (hok : p.ok B) (hR : XQ Tryz.prog pk 11 [xd (pgD p)] (xb (rPg p))) : XQ Tryz.prog pk 19 [xd (pgD p)] (xd (trd (cD p))) := by
  have htl := hok.tl
  have hgl := hok.gl
  have hfl := hok.fl
  refine XQ.en Tryz.func19 Tryz.ntmps19 (fun w0 own H V v0 hf => ?_)
  refine G (T := T) 100001 rfl ?_
  refine (FzTo.bz 0 rfl).c ?_
  refine G (T := T) 1000 rfl ?_
  refine Cq hR rfl rfl rfl rfl rfl ⟨rfl, rfl⟩ ?_
  refine G (T := T) 1000 rfl ?_
  refine If rfl (fun h => ?_) (fun h => ?_)
  · rw [cD, if_neg (by simpa using h)]
    refine G (T := T) 1000 rfl ?_
    exact Fq (T := T) rfl rfl
  have h9 : rPg p = true := by simpa using h
  rw [cD, if_pos h9, tPg]
  rw [rPg] at h9
  simp only [Bool.and_eq_true] at h9
  refine G (T := T) 1000 rfl ?_
  refine (Nrh 2 1 35 2 rfl rfl rfl rfl rfl).c ?_
  refine Lq [1, 2, 4] (fun (q : Nat × List (List D)) r => (5, xi (q.1 : Nat)) :: r) (fun q => [⟨3, 1, .row q.1 q.2 35 2⟩, ⟨2, 0, .cells [.d (.c (.string bu)), .l 3 1 2 0 q.1 q.1] 35⟩, c0B]) 4 (fun q => q.1 ≤ p.ts.length ∧ q.2 = aj ((p.ts.take q.1).map tTd)) (fun q => p.ts.length - q.1) (0, []) rfl ⟨Nat.zero_le _, rfl⟩ ?_
  rintro ⟨j, R⟩ ⟨hj, hR1⟩; dsimp only at hj hR1 ⊢
  refine G (T := T) 1000 rfl ?_
  refine If rfl (fun h => ?_) (fun h => ?_)
  · have hjl := of_decide_eq_true h; rw [List.length_map] at hjl
    obtain ⟨y, hy⟩ := ae (l := p.ts) (j := j) (by omega)
    have hym := List.mem_of_getElem? hy
    obtain ⟨o1, o2, o3⟩ := hok.t y hym
    have hry := List.all_eq_true.1 h9.1.1 y hym
    rw [rTd, Bool.and_eq_true] at hry
    refine G (T := T) 1000 rfl ?_
    refine Ix (T := T) j (ab hy) rfl rfl rfl rfl ⟨rfl, rfl⟩ rfl rfl ?_
    refine G (T := T) 1000 rfl ?_
    refine Cf [1, 2, 4, 5] (fun (_ : Unit) r => (6, xs (if y.un then df else er)) :: r) (fun _ => [⟨3, 1, .row j R 35 2⟩, ⟨2, 0, .cells [.d (.c (.string bu)), .l 3 1 2 0 j j] 35⟩, c0B]) 4 (fun _ => True) rfl ?_ ?_
    · refine If rfl (fun h => ?_) (fun h => ?_)
      · refine G (T := T) 1000 rfl ?_
        rw [if_pos h]
        exact Dn () trivial
      · refine G (T := T) 1000 rfl ?_
        rw [if_neg (by rw [h]; simp)]
        exact Dn () trivial
    rintro _ -
    refine G (T := T) 1000 rfl ?_
    refine Ix (T := T) j (ab hy) rfl rfl rfl rfl ⟨rfl, rfl⟩ rfl rfl ?_
    refine G (T := T) 1000 rfl ?_
    refine Cq (aU (p := y.nm) (by split <;> decide) (by omega)) rfl rfl rfl rfl rfl ⟨rfl, rfl⟩ ?_
    refine G (T := T) 1000 rfl ?_
    refine Ix (T := T) j (ab hy) rfl rfl rfl rfl ⟨rfl, rfl⟩ rfl rfl ?_
    refine G (T := T) 1000 rfl ?_
    refine Cq (gu (w := dR) (B := B) (by decide) (by omega) o2 o3 (List.all_eq_true.1 hry.2)) rfl rfl rfl rfl rfl ⟨rfl, rfl⟩ ?_
    refine G (T := T) 1000 rfl ?_
    exact Nq (j + 1, R ++ [[.c (.string (ao (if y.un then df else er) y.nm)), .s (aj (y.fs.map (cC dR)))]]) ⟨by omega, by dsimp only; rw [hR1, aH tTd hy, aO, tTd, al]⟩ (by show _ - (j + 1) < _ - j; omega)
  have hjl := of_decide_eq_false h; rw [List.length_map] at hjl
  rw [List.take_of_length_le (by omega)] at hR1; subst hR1
  refine G (T := T) 100014 rfl ?_
  refine Zc 3 rfl ?_
  refine G (T := T) 1000 rfl ?_
  refine (Nrh 4 1 35 2 rfl rfl rfl rfl rfl).c ?_
  refine Lq [1, 2, 4, 8] (fun (q : Nat × List (List D)) r => (9, xi (q.1 : Nat)) :: r) (fun q => [⟨5, 1, .row q.1 q.2 35 2⟩, ⟨4, 0, .cells [.d (.c (.string bi)), .l 5 1 2 0 q.1 q.1] 35⟩, ⟨2, 0, .cells [.d (.c (.string bu)), .d (.s (aj (p.ts.map tTd)))] 35⟩, c0B]) 6 (fun q => q.1 ≤ p.gs.length ∧ q.2 = aj ((p.gs.take q.1).map tGb)) (fun q => p.gs.length - q.1) (0, []) rfl ⟨Nat.zero_le _, rfl⟩ ?_
  rintro ⟨j, R⟩ ⟨hj, hR1⟩; dsimp only at hj hR1 ⊢
  refine G (T := T) 1000 rfl ?_
  refine If rfl (fun h => ?_) (fun h => ?_)
  · have hjl := of_decide_eq_true h; rw [List.length_map] at hjl
    obtain ⟨y, hy⟩ := ae (l := p.gs) (j := j) (by omega)
    have hym := List.mem_of_getElem? hy
    refine G (T := T) 66 rfl ?_
    refine Ix (T := T) j (ab hy) rfl rfl rfl rfl ⟨rfl, rfl⟩ rfl rfl ?_
    refine G (T := T) 1000 rfl ?_
    refine Cq (mL hB (hok.g y hym) (List.all_eq_true.1 h9.1.2 y hym)) rfl rfl rfl rfl rfl ⟨rfl, rfl⟩ ?_
    refine G (T := T) 1000 rfl ?_
    exact Nq (j + 1, R ++ [trd (tGb y)]) ⟨by omega, by dsimp only; rw [hR1, aH tGb hy, aO]⟩ (by show _ - (j + 1) < _ - j; omega)
  have hjl := of_decide_eq_false h; rw [List.length_map] at hjl
  rw [List.take_of_length_le (by omega)] at hR1; subst hR1
  refine G (T := T) 100019 rfl ?_
  refine Zc 5 rfl ?_
  refine G (T := T) 1000 rfl ?_
  refine (Nrh 6 1 35 2 rfl rfl rfl rfl rfl).c ?_
  refine Lq [1, 2, 4, 8, 10] (fun (q : Nat × List (List D)) r => (11, xi (q.1 : Nat)) :: r) (fun q => [⟨7, 1, .row q.1 q.2 35 2⟩, ⟨6, 0, .cells [.d (.c (.string cM)), .l 7 1 2 0 q.1 q.1] 35⟩, ⟨4, 0, .cells [.d (.c (.string bi)), .d (.s (aj (p.gs.map tGb)))] 35⟩, ⟨2, 0, .cells [.d (.c (.string bu)), .d (.s (aj (p.ts.map tTd)))] 35⟩, c0B]) 8 (fun q => q.1 ≤ p.fs.length ∧ q.2 = aj ((p.fs.take q.1).map tFu)) (fun q => p.fs.length - q.1) (0, []) rfl ⟨Nat.zero_le _, rfl⟩ ?_
  rintro ⟨j, R⟩ ⟨hj, hR1⟩; dsimp only at hj hR1 ⊢
  refine G (T := T) 1000 rfl ?_
  refine If rfl (fun h => ?_) (fun h => ?_)
  · have hjl := of_decide_eq_true h; rw [List.length_map] at hjl
    obtain ⟨y, hy⟩ := ae (l := p.fs) (j := j) (by omega)
    have hym := List.mem_of_getElem? hy
    refine G (T := T) 85 rfl ?_
    refine Ix (T := T) j (ab hy) rfl rfl rfl rfl ⟨rfl, rfl⟩ rfl rfl ?_
    refine G (T := T) 1000 rfl ?_
    refine Cq (oK (fun h1 h2 h3 => oL _ h1 (Nat.le_refl _) h2 h3) hB (hok.f y hym) (List.all_eq_true.1 h9.2 y hym)) rfl rfl rfl rfl rfl ⟨rfl, rfl⟩ ?_
    refine G (T := T) 1000 rfl ?_
    exact Nq (j + 1, R ++ [trd (tFu y)]) ⟨by omega, by dsimp only; rw [hR1, aH tFu hy, aO]⟩ (by show _ - (j + 1) < _ - j; omega)
  have hjl := of_decide_eq_false h; rw [List.length_map] at hjl
  rw [List.take_of_length_le (by omega)] at hR1; subst hR1
  refine G (T := T) 100024 rfl ?_
  refine Zc 7 rfl ?_
  refine G (T := T) 1000 rfl ?_
  refine Fq (T := T) rfl ?_
  rw [al]
  show _ = xd [.c (.string gX), .s [trd (.node bu (p.ts.map tTd)), trd (.node bi (p.gs.map tGb)), trd (.node cM (p.fs.map tFu))]]
  rw [al, al, al]
  rfl
end
end Go.Proofs.YtlmahofogapkgaaGreatDoor.X
