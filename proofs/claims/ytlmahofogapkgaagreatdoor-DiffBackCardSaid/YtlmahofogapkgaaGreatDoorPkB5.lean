/-
  Part 5 of 6 of the proof that DiffBack returns true for every list of numbers and every triple, and leaves its arguments as they were. No condition beyond the given statement.
-/
import Derived.Defers
import Derived.Recover
import Derived.WalkKit
import Derived.Shelf.Strings.Cut
import Derived.Shelf.Strconv.AtoiAll
import Derived.Shelf.Small.Strs
import Derived.Ground.NamesProg
import Derived.Test.YtlmahofogapkgaaGreatDoorProg
import Derived.Test.YtlmahofogapkgaaGreatDoorPkB4
set_option linter.unusedVariables false
set_option linter.unusedSimpArgs false
set_option linter.all false
set_option maxRecDepth 20000
set_option maxHeartbeats 8000000
namespace Go.Proofs.YtlmahofogapkgaaGreatDoor.X
open Go Go.RowKit Go.Proofs K
mutual
def lbM : Tr → Prop
  | .node l ks => l.size ≤ 1000000 ∧ dA ks
def dA : List Tr → Prop
  | [] => True
  | t :: r => lbM t ∧ dA r
end
theorem oU : ∀ {l : List Tr} {t : Tr}, dA l → t ∈ l → lbM t
  | u :: us, t, h, hm => by
    rcases List.mem_cons.1 hm with rfl | hm
    · exact h.1
    · exact oU h.2 hm
theorem jC (s : ByteArray) : (ae s).size ≤ s.size := by
  have e2 : s.data.toList.length = s.size := rfl
  rw [ae, bb_len, List.length_drop]; omega
theorem numJ_I (s : ByteArray) : I64 (dw s) := by
  unfold dw bh
  cases sgnV s.data.toList with
  | none => exact ⟨by decide, by decide⟩
  | some n =>
    simp only [Option.bind_some]
    split
    · rename_i h; exact h
    · exact ⟨by decide, by decide⟩
theorem iD : ∀ t : Tr, lbM t → (jTy t).ok ∧ (jTy t).size ≤ 2 * t.size
  | .node L ks, h => by
    have hp := jC L
    have hL := h.1
    have hsz : 0 < (Tr.node L ks).size := Tr.size_pos _
    have h0 : ∀ (k : Int) (nm : ByteArray), I64 k → nm.size ≤ 1000000 → (Ty4.mk k nm 0 []).ok ∧ (Ty4.mk k nm 0 []).size ≤ 2 * (Tr.node L ks).size := fun k nm hk hn => ⟨⟨hk, hn, ⟨by omega, by omega⟩, trivial⟩, by simp only [Ty4.size, Ty4.sizes]; omega⟩
    rw [jTy_eq]
    split
    · exact h0 _ _ ⟨by omega, by omega⟩ (by decide)
    split
    · exact h0 _ _ ⟨by omega, by omega⟩ (by decide)
    split
    · exact h0 _ _ ⟨by omega, by omega⟩ (by decide)
    split
    · exact h0 _ _ ⟨by omega, by omega⟩ (by decide)
    split
    · exact h0 _ _ ⟨by omega, by omega⟩ (by omega)
    have h1 : (hdJ ks).ok ∧ (hdJ ks).size + 1 ≤ 2 * (Tr.node L ks).size := by
      match ks, h with
      | [], _ => exact ⟨⟨⟨by omega, by omega⟩, by decide, ⟨by omega, by omega⟩, trivial⟩, by simp [hdJ, Ty4.size, Ty4.sizes, Tr.size, Tr.sizes]⟩
      | k :: r, h =>
        have := iD k h.2.1
        refine ⟨this.1, ?_⟩
        have h2 := this.2
        show (jTy k).size + 1 ≤ _
        simp only [Tr.size, Tr.sizes]; omega
    refine ⟨⟨?_, by decide, numJ_I _, h1.1, trivial⟩, ?_⟩
    · split <;> exact ⟨by omega, by omega⟩
    · simp only [Ty4.size, Ty4.sizes]; omega
theorem dR (n : Int) : 0 ≤ IntKind.u16.wrap n ∧ IntKind.u16.wrap n ≤ 65535 := by
  unfold IntKind.wrap
  simp [IntKind.bits, IntKind.signed] <;> omega
theorem cd {w : ByteArray} : ∀ {l : List (Int × ByteArray)} {k : Int}, aC l w = some k → ∃ p ∈ l, p.1 = k
  | [], _, h => by cases h
  | (n, a) :: r, k, h => by
    simp only [aC] at h
    split at h
    · cases h; exact ⟨_, List.mem_cons_self .., rfl⟩
    · obtain ⟨p, h1, h2⟩ := cd h
      exact ⟨p, List.mem_cons_of_mem _ h1, h2⟩
theorem exK_I {w : ByteArray} {k : Int} (h : aC gH w = some k) : I64 k := by
  obtain ⟨p, h1, rfl⟩ := cd h
  have : ∀ p ∈ gH, I64 p.1 := by decide +kernel
  exact this p h1
theorem smK_I {w : ByteArray} {k : Int} (h : aC cq w = some k) : I64 k := by
  obtain ⟨p, h1, rfl⟩ := cd h
  have : ∀ p ∈ cq, I64 p.1 := by decide +kernel
  exact this p h1
mutual
theorem jEx_ok : ∀ t : Tr, lbM t → (jEx t).ok ∧ (jEx t).size ≤ t.size
  | .node L ks, h => by
    have hp := jC L
    have hL := h.1
    have hk := nN ks h.2
    rw [jEx]
    split
    · exact ⟨⟨⟨by omega, by omega⟩, by decide, ⟨by omega, by omega⟩, trivial⟩, by simp only [Ex.size, Ex.sizes, Tr.size]; omega⟩
    · rename_i k hlk
      split
      · exact ⟨⟨exK_I hlk, by decide, dR _, hk.1⟩, by simp only [Ex.size, Tr.size]; omega⟩
      · exact ⟨⟨exK_I hlk, by omega, ⟨by omega, by omega⟩, hk.1⟩, by simp only [Ex.size, Tr.size]; omega⟩
theorem nN : ∀ l : List Tr, dA l → Ex.oks (gR l) ∧ Ex.sizes (gR l) ≤ Tr.sizes l
  | [], _ => ⟨trivial, Nat.le_refl _⟩
  | t :: r, h => by
    have h1 := jEx_ok t h.1
    have h2 := nN r h.2
    exact ⟨⟨h1.1, h2.1⟩, by simp only [gR, Ex.sizes, Tr.sizes]; omega⟩
end
theorem gY : ∀ {cs : List (List Sm)} (i : Nat), Sm.okc cs → Sm.oks (cP cs i)
  | [], i, _ => by simp [cP, Sm.oks]
  | c :: r, 0, h => h.1
  | c :: r, i + 1, h => gY (cs := r) i h.2
theorem oV : ∀ {cs : List (List Sm)} (i : Nat), Sm.okc cs → Sm.okc (cs.take i)
  | [], i, h => by simpa using h
  | c :: r, 0, _ => trivial
  | c :: r, i + 1, h => ⟨h.1, oV i h.2⟩
theorem oW : ∀ {cs : List (List Sm)} (i : Nat), Sm.okc cs → Sm.okc (cs.drop i)
  | [], i, h => by simpa using h
  | c :: r, 0, h => h
  | c :: r, i + 1, h => oW (cs := r) i h.2
theorem iE : ∀ {ks : List Tr} (i : Nat), dA ks → lbM (et ks i)
  | [], i, _ => by
    show lbM ((([] : List Tr)[i]?).getD _)
    exact ⟨by decide, trivial⟩
  | k :: r, 0, h => h.1
  | k :: r, i + 1, h => iE (ks := r) i h.2
theorem pM {ks : List Tr} (h : dA ks) : Ex.oks (ks.map jEx) := by rw [← eW]; exact (nN ks h).1
theorem jSmK_o {k : Int} {p : ByteArray} {ks : List Tr} {ss : List Sm} {cs : List (List Sm)} (hk : I64 k) (hp : p.size ≤ 1000000) (hks : dA ks) (hss : Sm.oks ss) (hcs : Sm.okc cs) : (dy k p ks ss cs).ok := by
  have h0 : ∀ i, (jEx (et ks i)).ok := fun i => (jEx_ok _ (iE i hks)).1
  have he := pM hks
  have z : I64 0 := ⟨by omega, by omega⟩
  have zr : (0 : Int) ≤ 0 ∧ (0 : Int) ≤ 65535 := ⟨by omega, by omega⟩
  have e0 : (K.eS : ByteArray).size ≤ 1000000 := by decide
  unfold dy
  split
  · exact ⟨⟨by omega, by omega⟩, hp, (iD _ (iE 0 hks)).1, zr, ⟨h0 1, trivial⟩, trivial, trivial, trivial⟩
  split
  · exact ⟨⟨by omega, by omega⟩, e0, aq, zr, ⟨h0 0, trivial⟩, gY 1 hcs, gY 2 hcs, trivial⟩
  split
  · exact ⟨⟨by omega, by omega⟩, hp, aq, zr, ⟨h0 0, trivial⟩, gY 1 hcs, trivial, trivial⟩
  split
  · exact ⟨hk, hp, aq, zr, trivial, hss, trivial, trivial⟩
  split
  · exact ⟨hk, hp, aq, zr, trivial, trivial, trivial, trivial⟩
  split
  · exact ⟨⟨by omega, by omega⟩, e0, aq, zr, ⟨h0 0, trivial⟩, trivial, gY _ hcs, oW 1 (oV _ hcs)⟩
  split
  · exact ⟨hk, e0, aq, zr, trivial, trivial, trivial, trivial⟩
  split
  · exact ⟨⟨by omega, by omega⟩, e0, aq, dR _, he, trivial, trivial, trivial⟩
  · exact ⟨hk, e0, aq, zr, he, trivial, trivial, trivial⟩
mutual
theorem jSm_o : ∀ t : Tr, lbM t → (jSm t).ok
  | .node L ks, h => by
    have hp := jC L
    have hL := h.1
    have h1 := nO ks h.2
    have h2 := jKs_o ks h.2
    rw [jSm]
    split
    · exact ⟨⟨by omega, by omega⟩, by decide, aq, ⟨by omega, by omega⟩, trivial, trivial, trivial, trivial⟩
    · rename_i k hlk
      exact jSmK_o (smK_I hlk) (by omega) h.2 h1 h2
theorem nO : ∀ l : List Tr, dA l → Sm.oks (jSms l)
  | [], _ => trivial
  | t :: r, h => ⟨jSm_o t h.1, nO r h.2⟩
theorem jKs_o : ∀ l : List Tr, dA l → Sm.okc (jKs l)
  | [], _ => trivial
  | .node _ ks :: r, h => ⟨nO ks h.1.2, jKs_o r h.2⟩
end
theorem fu : ∀ (ks : List Tr) (i : Nat), (et ks i).size ≤ Tr.sizes ks + 1
  | [], i => by
    show ((([] : List Tr)[i]?).getD uJ).size ≤ _
    simp [uJ, Tr.size, Tr.sizes]
  | k :: r, 0 => by show k.size ≤ _; simp only [Tr.sizes]; omega
  | k :: r, i + 1 => by
    have := fu r i
    show (et r i).size ≤ _
    simp only [Tr.sizes]; omega
theorem jE_kid : ∀ (ks : List Tr), (jEx (et ks 0)).size ≤ Ex.sizes (ks.map jEx) + 1
  | [] => by decide +kernel
  | k :: r => by show (jEx k).size ≤ _; simp only [List.map_cons, Ex.sizes]; omega
theorem cs_two : ∀ (c : List (List Sm)), Sm.sizes (cP c 1) + Sm.sizes (cP c 2) ≤ Sm.csizes c
  | [] => by simp [cP, Sm.sizes]
  | [_] => by simp [cP, Sm.sizes]
  | [_, b] => by simp [cP, Sm.sizes, Sm.csizes]; omega
  | a :: b :: d :: r => by simp [cP, Sm.csizes]; omega
theorem cs_last : ∀ (c : List (List Sm)) (m : Nat), Sm.csizes (c.take m) + Sm.sizes (cP c m) ≤ Sm.csizes c
  | [], m => by simp [cP, Sm.sizes, Sm.csizes]
  | a :: r, 0 => by simp [cP, Sm.csizes]; omega
  | a :: r, m + 1 => by
    have := cs_last r m
    show Sm.csizes (a :: r.take m) + Sm.sizes (cP r m) ≤ _
    simp only [Sm.csizes]; omega
theorem cs_drop : ∀ (c : List (List Sm)), Sm.csizes (c.drop 1) ≤ Sm.csizes c
  | [] => Nat.le_refl _
  | a :: r => by show Sm.csizes r ≤ _; simp only [Sm.csizes]; omega
theorem jSmK_s {k : Int} {p : ByteArray} {ks : List Tr} {ss : List Sm} {cs : List (List Sm)} (hks : dA ks) (hA : Ex.sizes (ks.map jEx) + Sm.sizes ss ≤ 6 * Tr.sizes ks) (hB : Ex.sizes (ks.map jEx) + Sm.csizes cs ≤ 6 * Tr.sizes ks) : (dy k p ks ss cs).size ≤ 6 * Tr.sizes ks + 5 := by
  have z : ty4z.size = 1 := by decide
  have e0 := jE_kid ks
  have t0 := (iD _ (iE 0 hks)).2
  have k0 := fu ks 0
  have x1 := (jEx_ok _ (iE 1 hks)).2
  have k1 := fu ks 1
  have h2 := cs_two cs
  have h3 := cs_last cs (ks.length - 1)
  have h4 := cs_drop (cs.take (ks.length - 1))
  unfold dy
  split
  · simp only [Sm.size, Ex.sizes, Sm.sizes, Sm.csizes]; omega
  split
  · simp only [Sm.size, Ex.sizes, Sm.sizes, Sm.csizes, z]; omega
  split
  · simp only [Sm.size, Ex.sizes, Sm.sizes, Sm.csizes, z]; omega
  split
  · simp only [Sm.size, Ex.sizes, Sm.sizes, Sm.csizes, z]; omega
  split
  · simp only [Sm.size, Ex.sizes, Sm.sizes, Sm.csizes, z]; omega
  split
  · simp only [Sm.size, Ex.sizes, Sm.sizes, Sm.csizes, z]; omega
  split
  · simp only [Sm.size, Ex.sizes, Sm.sizes, Sm.csizes, z]; omega
  split
  · simp only [Sm.size, Ex.sizes, Sm.sizes, Sm.csizes, z]; omega
  · simp only [Sm.size, Ex.sizes, Sm.sizes, Sm.csizes, z]; omega
theorem oX {w : ByteArray} {k : Int} (h : aC gH w = some k) : aC cq w = none := by
  have key : ∀ {l : List (Int × ByteArray)}, aC l w = some k → ∃ p ∈ l, p.2 = w := by
    intro l
    induction l with
    | nil => intro h; cases h
    | cons a r ih =>
      intro h
      obtain ⟨n, a⟩ := a
      simp only [aC] at h
      split at h
      · rename_i e; exact ⟨_, List.mem_cons_self .., e⟩
      · obtain ⟨p, h1, h2⟩ := ih h
        exact ⟨p, List.mem_cons_of_mem _ h1, h2⟩
  obtain ⟨p, h1, rfl⟩ := key h
  have : ∀ p ∈ gH, aC cq p.2 = none := by decide +kernel
  exact this p h1
mutual
theorem gB : ∀ t : Tr, lbM t → (jEx t).size + (jSm t).size ≤ 6 * t.size
  | .node L ks, h => by
    have h1 := gBs ks h.2
    have h2 := gKs ks h.2
    cases hx : aC gH (ad L) with
    | some k =>
      rw [jSm, oX hx]
      have e1 : (jEx (.node L ks)).size = Ex.sizes (gR ks) + 1 := by
        rw [jEx, hx]
        show Ex.size (if dn k = true then _ else _) = _
        split <;> rfl
      rw [e1]
      have e2 : (Sm.mk 0 K.eS ty4z 0 [] [] [] []).size = 2 := by decide
      show _ + (Sm.mk 0 K.eS ty4z 0 [] [] [] []).size ≤ _
      rw [e2]
      simp only [Tr.size]; omega
    | none =>
      have e1 : (jEx (.node L ks)).size = 1 := by
        rw [jEx, hx]; rfl
      rw [e1, jSm]
      split
      · have e2 : (Sm.mk 0 K.eS ty4z 0 [] [] [] []).size = 2 := by decide
        rw [e2]
        simp only [Tr.size]; omega
      · have := jSmK_s (k := ‹Int›) (p := ae L) h.2 (by rw [← eW]; exact h1) (by rw [← eW]; exact h2)
        simp only [Tr.size]; omega
theorem gBs : ∀ l : List Tr, dA l → Ex.sizes (gR l) + Sm.sizes (jSms l) ≤ 6 * Tr.sizes l
  | [], _ => Nat.le_refl _
  | t :: r, h => by
    have h1 := gB t h.1
    have h2 := gBs r h.2
    simp only [gR, jSms, Ex.sizes, Sm.sizes, Tr.sizes]; omega
theorem gKs : ∀ l : List Tr, dA l → Ex.sizes (gR l) + Sm.csizes (jKs l) ≤ 6 * Tr.sizes l
  | [], _ => Nat.le_refl _
  | .node L ks :: r, h => by
    have h1 := gBs ks h.1.2
    have h2 := gKs r h.2
    have h3 : (jEx (.node L ks)).size ≤ Ex.sizes (gR ks) + 1 := by
      rw [jEx]
      split
      · simp only [Ex.size, Ex.sizes]; omega
      · split <;> simp only [Ex.size] <;> omega
    simp only [gR, jKs, Ex.sizes, Sm.csizes, Tr.sizes, Tr.size]; omega
end
theorem fW {t : Tr} (h : lbM t) (i : Nat) : lbM (aB t i) ∧ (aB t i).size ≤ t.size := by
  obtain ⟨L, ks⟩ := t
  have h1 := iE i h.2
  have h2 := fu ks i
  exact ⟨h1, by simp only [Tr.size]; exact h2⟩
theorem lb_M {t : Tr} (h : lbM t) : (lb t).size ≤ 1000000 := by obtain ⟨L, ks⟩ := t; exact h.1
theorem kids_M {t : Tr} (h : lbM t) : ∀ u ∈ t.kids, lbM u ∧ u.size ≤ t.size := by
  obtain ⟨L, ks⟩ := t
  intro u hu
  have := Tr.size_mem (show u ∈ ks from hu)
  exact ⟨oU h.2 hu, by simp only [Tr.size]; omega⟩
theorem oY (t : Tr) : t.kids.length ≤ t.size := by
  obtain ⟨L, ks⟩ := t
  have := Tr.len_le ks
  simp only [Tr.size, Tr.kids]; omega
theorem lstJ_M {t : Tr} (h : lbM t) (i : Nat) : (aT t i).length ≤ t.size ∧ ∀ u ∈ aT t i, lbM u ∧ u.size ≤ t.size := by
  obtain ⟨h1, h2⟩ := fW h i
  exact ⟨Nat.le_trans (oY _) h2, fun u hu => ⟨(kids_M h1 u hu).1, Nat.le_trans (kids_M h1 u hu).2 h2⟩⟩
theorem ed {t : Tr} (h : lbM t) : (ae (lb t)).size ≤ 1000000 := Nat.le_trans (jC _) (lb_M h)
theorem jPar_ok {t : Tr} {B : Nat} (h : lbM t) (hB : 2 * t.size ≤ B) : (fC t).ok B := by
  obtain ⟨h1, h2⟩ := fW h 0
  have h3 := iD _ h1
  exact ⟨ed h, h3.1, by show (jTy (aB t 0)).size ≤ B; omega⟩
theorem jTd_ok {t : Tr} {B : Nat} (h : lbM t) (hB : 2 * t.size ≤ B) : (jTd t).ok B := by
  refine ⟨ed h, by show (t.kids.map fC).length ≤ B; rw [List.length_map]; have := oY t; omega, fun p hp => ?_⟩
  obtain ⟨u, hu, rfl⟩ := List.mem_map.1 (show p ∈ t.kids.map fC from hp)
  obtain ⟨h1, h2⟩ := kids_M h u hu
  exact jPar_ok h1 (by omega)
theorem my : ∀ (n : Nat) (l : List UInt8), l.length ≤ n → (cM l).length ≤ l.length
  | 0, l, h => by cases l with
    | nil => simp [cM]
    | cons => simp at h
  | n + 1, [], _ => by simp [cM]
  | n + 1, [a], _ => by simp [cM]
  | n + 1, a :: b :: r, h => by
    have := my n r (by simp at h; omega)
    simp only [cM, List.length_cons]; omega
theorem jGb_ok {t : Tr} {B : Nat} (h : lbM t) (hB : 2 * t.size ≤ B) (h1 : 1000000 ≤ B) : (jGb t).ok B := by
  obtain ⟨k1, k2⟩ := fW h 0
  have h3 := iD _ k1
  unfold jGb
  split
  · exact ⟨ed h, h3.1, by show (jTy (aB t 0)).size ≤ B; omega, (show I64 (-1) from ⟨by omega, by omega⟩), dR _, by show (K.eS : ByteArray).size ≤ B; exact Nat.zero_le _⟩
  · refine ⟨ed h, h3.1, by show (jTy (aB t 0)).size ≤ B; omega, numJ_I _, dR _, ?_⟩
    show (kT (ae (lb (aB t 3)))).size ≤ B
    have e1 := ed (fW h 3).1
    have e2 := my _ (ae (lb (aB t 3))).data.toList (Nat.le_refl _)
    have e3 : (ae (lb (aB t 3))).data.toList.length = (ae (lb (aB t 3))).size := rfl
    rw [kT, bb_len]; omega
theorem sms_ok {l : List Tr} (h : ∀ u ∈ l, lbM u) : Sm.oks (l.map jSm) ∧ Sm.sizes (l.map jSm) ≤ 6 * Tr.sizes l := by
  have hl : dA l := by
    induction l with
    | nil => trivial
    | cons a r ih => exact ⟨h a (List.mem_cons_self ..), ih fun u hu => h u (List.mem_cons_of_mem _ hu)⟩
  have h1 := gBs l hl
  rw [← gV]
  exact ⟨nO l hl, by omega⟩
theorem pN (t : Tr) : Tr.sizes t.kids + 1 = t.size := by obtain ⟨L, ks⟩ := t; simp only [Tr.kids, Tr.size]
theorem jFu_ok {t : Tr} {B : Nat} (h : lbM t) (hB : 6 * t.size ≤ B) : (jFu t).ok B := by
  obtain ⟨l1, l2⟩ := lstJ_M h 0
  have hps : ((aT t 0).map fC).length ≤ B := by rw [List.length_map]; omega
  have hpo : ∀ p ∈ (aT t 0).map fC, p.ok B := fun p hp => by
    obtain ⟨u, hu, rfl⟩ := List.mem_map.1 hp
    obtain ⟨h1, h2⟩ := l2 u hu
    exact jPar_ok h1 (by omega)
  obtain ⟨a1, a2⟩ := fW h 1
  obtain ⟨b1, b2⟩ := fW a1 0
  have h3 := iD _ b1
  unfold jFu
  split
  · exact ⟨ed h, hps, hpo, h3.1, by show (jTy _).size ≤ B; omega, trivial, by show Sm.sizes [] ≤ B; exact Nat.zero_le _, numJ_I _, dR _⟩
  · obtain ⟨c1, c2⟩ := fW h 2
    have h4 := sms_ok (l := aT t 2) (fun u hu => ((lstJ_M h 2).2 u hu).1)
    have h5 := pN (aB t 2)
    have h6 : Tr.sizes (aT t 2) ≤ t.size := by show Tr.sizes (aB t 2).kids ≤ _; omega
    exact ⟨ed h, hps, hpo, h3.1, by show (jTy _).size ≤ B; omega, h4.1, by show Sm.sizes ((aT t 2).map jSm) ≤ B; omega, (show I64 0 from ⟨by omega, by omega⟩), (show (0 : Int) ≤ 0 ∧ (0 : Int) ≤ 65535 from ⟨by omega, by omega⟩)⟩
theorem jPg_ok {t : Tr} {B : Nat} (h : lbM t) (hB : 6 * t.size ≤ B) (h1 : 1000000 ≤ B) : (jPg t).ok B := by
  have l := fun i => lstJ_M h i
  refine ⟨by show ((aT t 0).map jTd).length ≤ B; rw [List.length_map]; have := (l 0).1; omega, by show ((aT t 1).map jGb).length ≤ B; rw [List.length_map]; have := (l 1).1; omega, by show ((aT t 2).map jFu).length ≤ B; rw [List.length_map]; have := (l 2).1; omega, fun x hx => ?_, fun x hx => ?_, fun x hx => ?_⟩
  · obtain ⟨u, hu, rfl⟩ := List.mem_map.1 (show x ∈ (aT t 0).map jTd from hx)
    obtain ⟨k1, k2⟩ := (l 0).2 u hu
    exact jTd_ok k1 (by omega)
  · obtain ⟨u, hu, rfl⟩ := List.mem_map.1 (show x ∈ (aT t 1).map jGb from hx)
    obtain ⟨k1, k2⟩ := (l 1).2 u hu
    exact jGb_ok k1 (by omega) h1
  · obtain ⟨u, hu, rfl⟩ := List.mem_map.1 (show x ∈ (aT t 2).map jFu from hx)
    obtain ⟨k1, k2⟩ := (l 2).2 u hu
    exact jFu_ok k1 (by omega)
mutual
theorem kV : ∀ {t : Tr}, lbM t → t.size ≤ 100000000000 → lbO t
  | .node L ks, h, hs => by
    have h1 := Tr.len_le ks
    simp only [Tr.size] at hs
    exact ⟨Nat.le_trans h.1 (by decide), by omega, lbsO_of h.2 (by omega)⟩
theorem lbsO_of : ∀ {l : List Tr}, dA l → Tr.sizes l ≤ 100000000000 → jc l
  | [], _, _ => trivial
  | t :: r, h, hs => by
    simp only [Tr.sizes] at hs
    exact ⟨kV h.1 (by omega), lbsO_of h.2 (by omega)⟩
end
end Go.Proofs.YtlmahofogapkgaaGreatDoor.X
namespace Go.Proofs.YtlmahofogapkgaaGreatDoor.K
open Go Go.RowKit Go.Proofs
theorem aI {t : Ty4} {k : Int} (h : aD t k = true) : t = .mk k eS 0 [] := by
  obtain ⟨k', nm, n, ts⟩ := t
  simp only [aD, Bool.and_eq_true, decide_eq_true_eq] at h
  obtain ⟨⟨⟨rfl, rfl⟩, rfl⟩, h4⟩ := h
  rw [List.length_eq_zero_iff] at h4; subst h4; rfl
mutual
theorem kW : ∀ e : Ex, rEx e = true → e.ok → fEx (tEx e) = some e
  | .mk k nm n ks, h, ho => by
    simp only [rEx, Bool.and_eq_true, decide_eq_true_eq, Bool.or_eq_true] at h
    obtain ⟨⟨⟨⟨hk, hn⟩, hl⟩, hlim⟩, hks⟩ := h
    obtain ⟨_, _, ⟨hn0, hn1⟩, hoks⟩ := ho
    obtain ⟨h1, h2⟩ := exW_look hk
    simp only [tEx, fEx]
    rw [bm h2, aU h2, h1, kX ks hks hoks]
    simp only [Option.bind_some]
    cases hx : dn k with
    | true =>
      simp only [if_true]
      rw [eJ hn0 (by omega)]
      simp only [Option.map_some, dK hn0 hn1]
      have : nm = eS := by
        simp only [dn, decide_eq_true_eq] at hx
        simp only [bp] at hn
        rcases hx with rfl | rfl | rfl | rfl <;> simpa using hn
      rw [this]
    | false =>
      simp only [Bool.false_eq_true, if_false]
      have : n = 0 := by
        simp only [dn, decide_eq_false_iff_not] at hx
        have e : cu k = 1 := by simp only [cu]; rw [if_neg (by omega), if_neg (by omega), if_neg (by omega)]
        omega
      rw [this]
theorem kX : ∀ l : List Ex, fA l = true → Ex.oks l → fR (eo l) = some l
  | [], _, _ => rfl
  | e :: r, h, ho => by
    simp only [fA, Bool.and_eq_true] at h
    simp only [eo, fR, kW e h.1 ho.1, kX r h.2 ho.2, Option.bind_some, Option.map_some]
end
theorem ee : ∀ a b : List Tr, fKs (a ++ b) = fKs a ++ fKs b
  | [], b => rfl
  | .node _ ks :: r, b => by simp only [List.cons_append, fKs, ee r b]
theorem nP : ∀ a : List Tr, (fKs a).length = a.length
  | [] => rfl
  | .node _ ks :: r => by simp only [fKs, List.length_cons, nP r]
structure SmF (k : Int) (nm : ByteArray) (t : Ty4) (n : Int) (xs : List Ex) (b el : List Sm) (cs : List (List Sm)) : Prop where
  k_ : 1 ≤ k ∧ k ≤ 14
  least_ : aF k ≤ (xs.length : Int)
  most_ : (xs.length : Int) ≤ aL k
  xs_ : fA xs = true
  nm_ : aV k nm = true
  t_ : (if k = 1 then rTy t else aD t 0) = true
  n_ : n = 0 ∨ (smPo k = true ∧ n < 256)
  b_ : ip k = true ∨ b = []
  el_ : i7 k = true ∨ el = []
  cs_ : i8 k = true ∨ cs = []
  rb_ : cp b = true
  re_ : cp el = true
  rc_ : rCs cs = true
theorem rSm_back {k : Int} {nm : ByteArray} {t : Ty4} {n : Int} {xs : List Ex} {b el : List Sm} {cs : List (List Sm)} (h : rSm (.mk k nm t n xs b el cs) = true) : SmF k nm t n xs b el cs := by
  simp only [rSm, Bool.and_eq_true, decide_eq_true_eq, Bool.or_eq_true, List.length_eq_zero_iff] at h
  obtain ⟨⟨⟨⟨⟨⟨⟨⟨⟨⟨⟨⟨⟨⟨h1, h2⟩, h3⟩, h4⟩, h5⟩, h6⟩, h7⟩, h8⟩, h9⟩, h10⟩, h11⟩, h12⟩, h13⟩, h14⟩, h15⟩ := h
  exact ⟨h1, h2, h3, h4, h5, h6, h7, h8, h9, h10, h13, h14, h15⟩
theorem len1 {α : Type} {l : List α} (h1 : (1 : Int) ≤ l.length) (h2 : (l.length : Int) ≤ 1) : ∃ x, l = [x] := by
  match l, h1, h2 with
  | [x], _, _ => exact ⟨x, rfl⟩
  | [], h, _ => simp at h
  | _ :: _ :: r, _, h => simp at h; omega
theorem fSmK_sm {k : Int} {nm : ByteArray} {t : Ty4} {n : Int} {xs : List Ex} {b el : List Sm} {cs : List (List Sm)} (h : SmF k nm t n xs b el cs) (hn : 0 ≤ n) (hxs : Ex.oks xs)
    (hb : dJ (dh b) = some b) (he : dJ (dh el) = some el) (hc : fKs (tCs cs) = cs.map some) {K : List Tr} (hK : K = (if k = 1 then [tTy t] else []) ++ (eo xs ++ smT k (dh b) (dh el) (tCs cs))) :
    ep k (if k = 11 then cw n.toNat else nm) K (dJ K) (fKs K) = some (.mk k nm t n xs b el cs) := by
  obtain ⟨hk, hl, hm, hx, hnm, ht, hn2, hb2, hel2, hcs2, _, _, _⟩ := h
  have hX := kX xs hx hxs
  have hcase : k = 1 ∨ k = 2 ∨ k = 3 ∨ k = 4 ∨ k = 5 ∨ k = 6 ∨ k = 7 ∨ k = 8 ∨ k = 9 ∨ k = 10 ∨ k = 11 ∨ k = 12 ∨ k = 13 ∨ k = 14 := by omega
  have hbl : ∀ {p : Prop}, (ip k = true → False) → b = [] := fun {_} hf => hb2.resolve_left hf
  rcases hcase with rfl | rfl | rfl | rfl | rfl | rfl | rfl | rfl | rfl | rfl | rfl | rfl | rfl | rfl
  · have e1 : b = [] := hb2.resolve_left (by decide); have e2 : el = [] := hel2.resolve_left (by decide); have e3 : cs = [] := hcs2.resolve_left (by decide); have e4 : n = 0 := hn2.resolve_right (fun h => absurd h.1 (by decide))
    obtain ⟨x, rfl⟩ := len1 hl hm
    simp only [eo, fR] at hX
    have hx1 : fEx (tEx x) = some x := by
      have := kW x (by simpa [fA] using hx) hxs.1
      exact this
    subst e1 e2 e3 e4
    rw [if_pos rfl] at ht
    have ht1 := kF t (.inl ht)
    subst hK
    simp [ep, aA, eo, smT, ht1, hx1]
  · have e1 : b = [] := hb2.resolve_left (by decide); have e2 : el = [] := hel2.resolve_left (by decide); have e3 : cs = [] := hcs2.resolve_left (by decide); have e4 : n = 0 := hn2.resolve_right (fun h => absurd h.1 (by decide))
    have e5 : nm = eS := by simpa [aV, cL, cZ] using hnm
    have e6 := aI (by simpa using ht)
    subst e1 e2 e3 e4 e5 e6 hK
    simp [ep, smT, hX, ty4z]
  · have e3 : cs = [] := hcs2.resolve_left (by decide); have e4 : n = 0 := hn2.resolve_right (fun h => absurd h.1 (by decide))
    have e5 : nm = eS := by simpa [aV, cL, cZ] using hnm
    have e6 := aI (by simpa using ht)
    obtain ⟨x, rfl⟩ := len1 hl hm
    have hx1 : fEx (tEx x) = some x := kW x (by simpa [fA] using hx) hxs.1
    subst e3 e4 e5 e6 hK
    simp [ep, aA, di, eo, smT, hx1, hb, he, fKs, Tr.lab, ty4z, ee, nP]
    cases hh : tEx x; simp [fKs, hb, he]
  · have e2 : el = [] := hel2.resolve_left (by decide); have e3 : cs = [] := hcs2.resolve_left (by decide); have e4 : n = 0 := hn2.resolve_right (fun h => absurd h.1 (by decide))
    have e6 := aI (by simpa using ht)
    obtain ⟨x, rfl⟩ := len1 hl hm
    have hx1 : fEx (tEx x) = some x := kW x (by simpa [fA] using hx) hxs.1
    subst e2 e3 e4 e6 hK
    simp [ep, aA, di, eo, smT, hx1, hb, he, fKs, Tr.lab, ty4z, ee, nP]
    cases hh : tEx x; simp [fKs, hb, he]
  · have e2 : el = [] := hel2.resolve_left (by decide); have e3 : cs = [] := hcs2.resolve_left (by decide); have e4 : n = 0 := hn2.resolve_right (fun h => absurd h.1 (by decide))
    have e6 := aI (by simpa using ht)
    have e7 : xs = [] := List.length_eq_zero_iff.1 (by have : aL 5 = 0 := by decide
                                                       omega)
    subst e2 e3 e4 e6 e7 hK
    simp [ep, eo, smT, hb, ty4z]
  · have e2 : el = [] := hel2.resolve_left (by decide); have e3 : cs = [] := hcs2.resolve_left (by decide); have e4 : n = 0 := hn2.resolve_right (fun h => absurd h.1 (by decide))
    have e6 := aI (by simpa using ht)
    have e7 : xs = [] := List.length_eq_zero_iff.1 (by have : aL 6 = 0 := by decide
                                                       omega)
    subst e2 e3 e4 e6 e7 hK
    simp [ep, eo, smT, hb, ty4z]
  · have e1 : b = [] := hb2.resolve_left (by decide); have e2 : el = [] := hel2.resolve_left (by decide); have e3 : cs = [] := hcs2.resolve_left (by decide); have e4 : n = 0 := hn2.resolve_right (fun h => absurd h.1 (by decide))
    have e6 := aI (by simpa using ht)
    have e7 : xs = [] := List.length_eq_zero_iff.1 (by have : aL 7 = 0 := by decide
                                                       omega)
    subst e1 e2 e3 e4 e6 e7 hK
    simp [ep, ty4z]
  · have e1 : b = [] := hb2.resolve_left (by decide); have e2 : el = [] := hel2.resolve_left (by decide); have e3 : cs = [] := hcs2.resolve_left (by decide); have e4 : n = 0 := hn2.resolve_right (fun h => absurd h.1 (by decide))
    have e6 := aI (by simpa using ht)
    have e7 : xs = [] := List.length_eq_zero_iff.1 (by have : aL 8 = 0 := by decide
                                                       omega)
    subst e1 e2 e3 e4 e6 e7 hK
    simp [ep, ty4z]
  · have e1 : b = [] := hb2.resolve_left (by decide); have e4 : n = 0 := hn2.resolve_right (fun h => absurd h.1 (by decide))
    have e5 : nm = eS := by simpa [aV, cL, cZ] using hnm
    have e6 := aI (by simpa using ht)
    obtain ⟨x, rfl⟩ := len1 hl hm
    have hx1 : fEx (tEx x) = some x := kW x (by simpa [fA] using hx) hxs.1
    have hlc : (tCs cs).length = cs.length := by rw [nv]; simp
    have hK2 : K = tEx x :: (tCs cs ++ [.node bl (dh el)]) := by rw [hK]; simp [eo, smT]
    have hfk : fKs K = (fKs [tEx x]).getD 0 none :: (cs.map some ++ [some el]) := by
      rw [hK2]; cases hh : tEx x; simp [fKs, ee, hc, he]
    have hlen : K.length = cs.length + 2 := by rw [hK2]; simp [hlc]
    have g0 : K[0]? = some (tEx x) := by rw [hK2]; rfl
    have gl : K[K.length - 1]? = some (.node bl (dh el)) := by
      rw [hlen, hK2, show cs.length + 2 - 1 = cs.length + 1 by omega, List.getElem?_cons_succ, List.getElem?_append_right (by omega), hlc]; simp
    have gc : (fKs K)[K.length - 1]? = some (some el) := by
      rw [hlen, hfk, show cs.length + 2 - 1 = cs.length + 1 by omega, List.getElem?_cons_succ, List.getElem?_append_right (by simp)]; simp
    have gm : ((fKs K).take (K.length - 1)).drop 1 = cs.map some := by
      rw [hlen, hfk, show cs.length + 2 - 1 = cs.length + 1 by omega, List.take_succ_cons, List.drop_succ_cons, List.drop_zero, List.take_append_of_le_length (by simp), List.take_of_length_le (by simp)]
    subst e1 e4 e5 e6
    have h2 : ¬ K.length < 2 := by omega
    simp only [ep]
    rw [if_neg (by decide), if_neg (by decide), if_neg (by decide), if_neg (by decide), if_neg (by decide), if_pos trivial, if_neg h2]
    simp only [aA, di, g0, gl, gc, gm, lU, Option.bind_some, hx1, Tr.lab, if_true, id, Option.map_some, ty4z]
  · have e1 : b = [] := hb2.resolve_left (by decide); have e2 : el = [] := hel2.resolve_left (by decide); have e3 : cs = [] := hcs2.resolve_left (by decide); have e4 : n = 0 := hn2.resolve_right (fun h => absurd h.1 (by decide))
    have e5 : nm = eS := by simpa [aV, cL, cZ] using hnm
    have e6 := aI (by simpa using ht)
    subst e1 e2 e3 e4 e5 e6 hK
    simp [ep, smT, hX, ty4z]
  · have e1 : b = [] := hb2.resolve_left (by decide); have e2 : el = [] := hel2.resolve_left (by decide); have e3 : cs = [] := hcs2.resolve_left (by decide)
    have e5 : nm = eS := by simpa [aV, cL, cZ] using hnm
    have e6 := aI (by simpa using ht)
    have e8 : n ≤ 65535 := by omega
    subst e1 e2 e3 e5 e6 hK
    have ha := eJ hn (by omega)
    simp [ep, smT, hX, ty4z, ha, dK hn e8]
  · have e1 : b = [] := hb2.resolve_left (by decide); have e2 : el = [] := hel2.resolve_left (by decide); have e3 : cs = [] := hcs2.resolve_left (by decide); have e4 : n = 0 := hn2.resolve_right (fun h => absurd h.1 (by decide))
    have e5 : nm = eS := by simpa [aV, cL, cZ] using hnm
    have e6 := aI (by simpa using ht)
    have e7 : xs = [] := List.length_eq_zero_iff.1 (by have : aL 12 = 0 := by decide
                                                       omega)
    subst e1 e2 e3 e4 e5 e6 e7 hK
    simp [ep, ty4z]
  · have e1 : b = [] := hb2.resolve_left (by decide); have e2 : el = [] := hel2.resolve_left (by decide); have e3 : cs = [] := hcs2.resolve_left (by decide); have e4 : n = 0 := hn2.resolve_right (fun h => absurd h.1 (by decide))
    have e5 : nm = eS := by simpa [aV, cL, cZ] using hnm
    have e6 := aI (by simpa using ht)
    have e7 : xs = [] := List.length_eq_zero_iff.1 (by have : aL 13 = 0 := by decide
                                                       omega)
    subst e1 e2 e3 e4 e5 e6 e7 hK
    simp [ep, ty4z]
  · have e1 : b = [] := hb2.resolve_left (by decide); have e2 : el = [] := hel2.resolve_left (by decide); have e3 : cs = [] := hcs2.resolve_left (by decide); have e4 : n = 0 := hn2.resolve_right (fun h => absurd h.1 (by decide))
    have e5 : nm = eS := by simpa [aV, cL, cZ] using hnm
    have e6 := aI (by simpa using ht)
    subst e1 e2 e3 e4 e5 e6 hK
    simp [ep, smT, hX, ty4z]
mutual
theorem fSm_sm : ∀ s : Sm, rSm s = true → s.ok → fSm (tSm s) = some s
  | .mk k nm t n xs b el cs, h, ho => by
    have hf := rSm_back h
    obtain ⟨h1, h2⟩ := smW_look hf.k_
    obtain ⟨_, _, _, hn, hox, hob, hoe, hoc⟩ := ho
    simp only [tSm, fSm, smL]
    rw [bm h2, aU h2, h1, Option.bind_some]
    exact fSmK_sm hf hn.1 hox (eZ b hf.rb_ hob) (eZ el hf.re_ hoe) (fKs_cs cs hf.rc_ hoc) rfl
theorem eZ : ∀ l : List Sm, cp l = true → Sm.oks l → dJ (dh l) = some l
  | [], _, _ => rfl
  | e :: r, h, ho => by
    simp only [cp, Bool.and_eq_true] at h
    simp only [dh, dJ, fSm_sm e h.1 ho.1, eZ r h.2 ho.2, Option.bind_some, Option.map_some]
theorem fKs_cs : ∀ l : List (List Sm), rCs l = true → Sm.okc l → fKs (tCs l) = l.map some
  | [], _, _ => rfl
  | e :: r, h, ho => by
    simp only [rCs, Bool.and_eq_true] at h
    simp only [tCs, fKs, eZ e h.1 ho.1, fKs_cs r h.2 ho.2, List.map_cons]
end
theorem gZ (l : ByteArray) (ks : List Tr) : (Tr.node l ks).lab = l := rfl
theorem iF (l : ByteArray) (ks : List Tr) : (Tr.node l ks).kids = ks := rfl
theorem dS {α β : Type} {f : β → Option α} {g : α → β} : ∀ {l : List α}, (∀ x ∈ l, f (g x) = some x) → bu f (l.map g) = some l
  | [], _ => rfl
  | x :: r, h => by
    simp only [List.map_cons, bu, h x (by simp), dS (l := r) (fun y hy => h y (by simp [hy])), Option.bind_some, Option.map_some]
theorem oZ {w : ByteArray} (hw : noSp w = true) {p : Par} (h : cv p = true) : eK (d7 w p) = some p := by
  simp only [cv, Bool.and_eq_true] at h
  simp [d7, eK, aA, aU hw, kF p.ty (.inl h.2)]
theorem fTd_td {t : Td} (h : rTd t = true) : fTd (tTd t) = some t := by
  simp only [rTd, Bool.and_eq_true, List.all_eq_true] at h
  obtain ⟨nm, un, fs⟩ := t
  have hp := dS (f := eK) (g := d7 gD) (l := fs) (fun p hp => oZ (by decide) (h.2 p hp))
  cases un with
  | true =>
    simp only [tTd, fTd, if_true, hp, Option.map_some]
    rw [bm (by decide), aU (by decide)]; simp
  | false =>
    simp only [tTd, fTd, if_false, hp, Option.map_some, Bool.false_eq_true]
    rw [bm (by decide), aU (by decide)]
    simp
theorem jD {w : ByteArray} (hw : noSp w = true) {n : Int} (h0 : 0 ≤ n) (h1 : n ≤ 9223372036854775807) : bh (ae (fO w n).lab) = some n := by
  simp only [fO, Tr.lab, aU hw]
  exact eJ h0 h1
theorem fGb_gb {B : Nat} {g : Gb} (h : rGb g = true) (ho : g.ok B) : fGb (tGb g) = some g := by
  simp only [rGb, Bool.and_eq_true, Bool.or_eq_true, decide_eq_true_eq] at h
  obtain ⟨nm, ty, bank, addr, bytes⟩ := g
  obtain ⟨_, _, _, _, ⟨ha0, ha1⟩, _⟩ := ho
  simp only at h ha0 ha1
  obtain ⟨⟨_, ht⟩, hb⟩ := h
  have ht1 := kF ty (.inl ht)
  have hn1 := jD (w := w_at) (by decide) ha0 (by omega)
  rcases hb with ⟨rfl, rfl⟩ | ⟨hb0, hb1⟩
  · simp only [tGb]
    rw [if_pos (by decide)]
    simp only [fGb]
    rw [bm (by decide), aU (by decide)]
    simp [aA, dj, ht1, hn1, dK ha0 ha1]
  · have hn2 := jD (w := eH) (by decide) hb0 (by omega)
    simp only [tGb]
    rw [if_neg (by omega)]
    simp only [fGb]
    rw [bm (by decide), aU (by decide)]
    have d1 : ¬ ju = gF := by decide
    simp only [if_neg d1]
    simp [aA, dj, ht1, hn1, hn2, dK ha0 ha1, gZ, aU (w := w_bytes) (by decide), pz]
theorem fFu_fu {B : Nat} {f : Fu} (h : rFu f = true) (ho : f.ok B) : fFu (tFu f) = some f := by
  simp only [rFu, Bool.and_eq_true, Bool.or_eq_true, List.all_eq_true] at h
  obtain ⟨nm, ps, res, body, fl, x, y⟩ := f
  obtain ⟨_, _, _, _, _, hob, _, hx, hy⟩ := ho
  simp only at h hx hy hob
  obtain ⟨⟨⟨_, hps⟩, hr⟩, hb⟩ := h
  have hp := dS (f := eK) (g := d7 cF) (l := ps) (fun p hp => oZ (by decide) (hps p hp))
  have hr1 := kF res hr.symm
  cases fl with
  | true =>
    simp only [if_true, Bool.and_eq_true, decide_eq_true_eq] at hb
    obtain ⟨⟨hb0, hb1⟩, hb2⟩ := hb
    rw [List.length_eq_zero_iff] at hb0; subst hb0
    have hn1 := jD (w := eH) (by decide) hb1 (by omega)
    have hn2 := jD (w := w_at) (by decide) hy.1 (by omega)
    simp only [tFu, if_true, fFu]
    rw [bm (by decide), aU (by decide)]
    simp [bv, aA, dj, gZ, iF, hp, hr1, hn1, hn2, dK hy.1 hy.2]
  | false =>
    simp only [Bool.false_eq_true, if_false, Bool.and_eq_true, decide_eq_true_eq] at hb
    obtain ⟨⟨rfl, rfl⟩, hb2⟩ := hb
    have hs := eZ body hb2 hob
    simp only [tFu, Bool.false_eq_true, if_false, fFu]
    rw [bm (by decide), aU (by decide)]
    have d1 : ¬ w_fn = cI := by decide
    simp only [if_neg d1]
    simp [bv, aA, gZ, iF, hp, hr1, hs]
theorem fPg_pg {B : Nat} {p : Pg} (h : rPg p = true) (ho : p.ok B) : fPg (tPg p) = some p := by
  have h' := h
  simp only [rPg, Bool.and_eq_true, List.all_eq_true] at h'
  obtain ⟨⟨h1, h2⟩, h3⟩ := h'
  have e1 := dS (f := fTd) (g := tTd) (l := p.ts) (fun x hx => fTd_td (h1 x hx))
  have e2 := dS (f := fGb) (g := tGb) (l := p.gs) (fun x hx => fGb_gb (h2 x hx) (ho.g x hx))
  have e3 := dS (f := fFu) (g := tFu) (l := p.fs) (fun x hx => fFu_fu (h3 x hx) (ho.f x hx))
  have e : fPg0 (tPg p) = some p := by simp [fPg0, tPg, bv, gZ, iF, e1, e2, e3]
  simp only [fPg, e, Option.bind_some, h, true_and, if_true]
end Go.Proofs.YtlmahofogapkgaaGreatDoor.K
namespace Go.Proofs.YtlmahofogapkgaaGreatDoor.X
open Go Go.RowKit Go.MapKept Go.ChangeMaps K
section
variable {P : Program} {w0 : World} {N : Nat} {Q : Exit → Act → World → Prop} {env : Env} {own : List Seg} {H : Hp} {ops : Array Oper} {rest : List Oper} {d : Option Tmp} {ty : TypeId} {pos : String} {af : Array Edge}
theorem TL.mapUpR (i j : Nat) {t k e : TypeId} {m x y : Operand} {g n : Nat} {seg : Seg} {o : Obj} {f : Value → Option Value} (f' : Value → Option Value) {key v : Value} {kl : Lit} (hm : ev env m = some (.map (some g))) (hx : ev env x = some key) (hy : ev env y = some v)
    (hi : own[i]? = some seg) (hj : seg[j]? = some (g, o)) (K : Maps.Keyed P k) [ht : Und P t (.map k e)] (ho : MapR P k e o n f) (hn : n < maxLen) (hk : keyOf P k key = some kl) (hnone : f key = none)
    (hg1 : f' key = some v) (hg2 : ∀ s, s ≠ key → f' s = f s) (hd : okD N d = true)
    (h : ∀ o', MapR P k e o' (n + 1) f' → TL P w0 N Q ops rest (ao d undef env) (own.set i (seg.set j (g, o'))) H) :
    TL P w0 N Q ops ({ dst := d, op := .mapUpdate t m x y, type := ty, pos := pos, after := af, guard := none } :: rest) env own H :=
  fun a w ha hw => by
    have hb := hw.own_blk hi hj
    obtain ⟨o', hrun, ho'⟩ := MapR.put K ht.eq hb ho hn hk (d := .lit (.bool true)) rfl hnone hg1 hg2
    refine wpList_plain rfl fun K hK => ?_
    unfold Oper.wp
    have hr : (execOp a.eval { dst := d, op := .mapUpdate t m x y, type := ty, pos := pos, after := af, guard := none }).run P w = .ok .skip (setBlock w g o') := by
      simp [execOp, ha.ev hm, ha.ev hx, ha.ev hy, hrun, Result.andThen]
    rw [hr]
    exact hK _ _ (h o' ho' _ _ (ha.put hd undef) (hw.setObj hi hj))
end
section
variable {P : Program} {pk : Pk} {T : Tb P} {Er : XE} {nx : Nat} {ops : Array Oper} {d : Option Tmp} {ty : TypeId} {pos : String} {af : Array Edge} {g t0 : Nat} {Q Q' : Obj → Prop}
theorem HRm {V : Vn} {H : Hp} {sg : Seg} (h : HR V H [⟨g, t0, .mp Q⟩] sg) : ∃ b ob ex, sg = [(b, ob)] ∧ V g t0 = some (some b, ex) ∧ Q ob := by
  obtain ⟨s1, s2, rfl, h7, rfl⟩ := h
  rcases h7 with ⟨b', ob, ex, rfl, h8, h9⟩ | ⟨_, _, _, _, h8, _⟩
  · exact ⟨b', ob, ex, rfl, h8, h9⟩
  · cases h8
theorem LS.lookO {t kt e : TypeId} {m y : Operand} {key : Value} {kl : Lit} {c : Bool} {z : Value} {R yv : XV} (hm : xev Er m = some (.a (.c (.m g t0)))) (hy : xev Er y = some yv) (hyv : vOf yv = some key) (ht : T.bt.get t = some (.m kt e)) (K : Maps.Keyed P kt) (hk : keyOf P kt key = some kl) (hz : ∀ w, (zeroValue e).run P w = .ok z w)
    (hQ : ∀ o, Q o → ∃ n f, MapR P kt e o n f ∧ ∀ V H, R.rel V H (if c then .tuple #[(f key).getD z, .bool (f key).isSome] else (f key).getD z)) :
    LS P pk ops { dst := d, op := .lookup t m y c, type := ty, pos := pos, after := af, guard := none } Er [⟨g, t0, .mp Q⟩] nx nx (fun x fp' => x = R ∧ fp' = [⟨g, t0, .mp Q⟩]) := by
  intro w0 N Q2 rest env own H V sg hl hV htp hf hd _ hh
  obtain ⟨w1, h1, h2⟩ := hl.lks _ _ hm
  obtain ⟨w2, h3, h4⟩ := hl.lks _ _ hy
  have := eC hyv h4; subst this
  simp only [XV.rel, XA.rel, XC.rel] at h2
  obtain ⟨b, e0, hb, rfl⟩ := h2
  obtain ⟨b', ob, ex, rfl, h8, h9⟩ := HRm hV
  rw [h8] at hb; cases hb
  obtain ⟨n, f, hM, hR⟩ := hQ ob h9
  haveI := Und.mk (lI (BT.all_get T.ok ht))
  exact TL.lookR 0 0 h1 h3 rfl rfl K hM hk hz hd (hh _ R [⟨g, t0, .mp Q⟩] V H _ ⟨rfl, rfl⟩ (hR V H) hV htp (VX.refl _ _ _) (Le.refl _))
theorem LS.lenO {t kt e : TypeId} {m : Operand} {n : Nat} (hm : xev Er m = some (.a (.c (.m g t0)))) (ht : T.bt.get t = some (.m kt e)) (hQ : ∀ o, Q o → ∃ f, MapR P kt e o n f) :
    LS P pk ops { dst := d, op := .call { callee := .builtin .len, args := #[m], argTypes := #[t] }, type := ty, pos := pos, after := af, guard := none } Er [⟨g, t0, .mp Q⟩] nx nx (fun x fp' => x = xi (n : Nat) ∧ fp' = [⟨g, t0, .mp Q⟩]) := by
  intro w0 N Q2 rest env own H V sg hl hV htp hf hd _ hh
  obtain ⟨w1, h1, h2⟩ := hl.lks _ _ hm
  simp only [XV.rel, XA.rel, XC.rel] at h2
  obtain ⟨b, e0, hb, rfl⟩ := h2
  obtain ⟨b', ob, ex, rfl, h8, h9⟩ := HRm hV
  rw [h8] at hb; cases hb
  obtain ⟨f, hM⟩ := hQ ob h9
  haveI := Und.mk (lI (BT.all_get T.ok ht))
  exact TL.lenMapR 0 0 h1 rfl rfl hM hd (hh _ (xi (n : Nat)) [⟨g, t0, .mp Q⟩] V H _ ⟨rfl, rfl⟩ ⟨rfl, rfl⟩ hV htp (VX.refl _ _ _) (Le.refl _))
theorem LS.insO {t kt e : TypeId} {m y z : Operand} {key v : Value} {kl : Lit} {yv zv : XV} (hm : xev Er m = some (.a (.c (.m g t0)))) (hy : xev Er y = some yv) (hyv : vOf yv = some key) (hz : xev Er z = some zv) (hzv : vOf zv = some v) (ht : T.bt.get t = some (.m kt e)) (K : Maps.Keyed P kt) (hk : keyOf P kt key = some kl)
    (hQ : ∀ o, Q o → ∃ n f f', MapR P kt e o n f ∧ n < maxLen ∧ f key = none ∧ f' key = some v ∧ (∀ s, s ≠ key → f' s = f s) ∧ ∀ o', MapR P kt e o' (n + 1) f' → Q' o') :
    LS P pk ops { dst := d, op := .mapUpdate t m y z, type := ty, pos := pos, after := af, guard := none } Er [⟨g, t0, .mp Q⟩] nx nx (fun x fp' => x = .u ∧ fp' = [⟨g, t0, .mp Q'⟩]) := by
  intro w0 N Q2 rest env own H V sg hl hV htp hf hd _ hh
  obtain ⟨w1, h1, h2⟩ := hl.lks _ _ hm
  obtain ⟨w2, h3, h4⟩ := hl.lks _ _ hy
  obtain ⟨w3, h5, h6⟩ := hl.lks _ _ hz
  have := eC hyv h4; subst this
  have := eC hzv h6; subst this
  simp only [XV.rel, XA.rel, XC.rel] at h2
  obtain ⟨b, e0, hb, rfl⟩ := h2
  obtain ⟨b', ob, ex, rfl, h8, h9⟩ := HRm hV
  rw [h8] at hb; cases hb
  obtain ⟨n, f, f', hM, hn, h10, h11, h12, h13⟩ := hQ ob h9
  haveI := Und.mk (lI (BT.all_get T.ok ht))
  refine TL.mapUpR 0 0 f' h1 h3 h5 rfl rfl K hM hn hk h10 h11 h12 hd (fun o' ho' => ?_)
  exact hh undef .u _ V H [(b, o')] ⟨rfl, rfl⟩ rfl ⟨[(b, o')], [], rfl, .inl ⟨b, o', _, rfl, h8, h13 o' ho'⟩, rfl⟩ (fun q hq t' ht' => by rw [List.mem_singleton] at hq; subst hq; exact htp _ (List.mem_singleton.2 rfl) t' ht') (VX.refl _ _ _) (Le.refl _)
end
section
variable {P : Program} {x : Cx P} {T : Tb P} {k : List Fr} {E Er : XE} {hp hp' : XH} {nx i : Nat} {ops : List Oper} {dm : Option (List Rc)} {l : List (Nat × Oper)} {d : Tmp} {dd : Option Tmp} {ty : TypeId} {pos : String} {af : Array Edge} {g : Option (Nat × Bool)} {gm t0 : Nat} {Q Q' : Obj → Prop}
theorem Lw {t kt e : TypeId} {m y : Operand} {key : Value} {kl : Lit} {c : Bool} {z : Value} {yv : XV} (R : XV) (K : Maps.Keyed P kt) (hk : keyOf P kt key = some kl) (hz : ∀ w, (zeroValue e).run P w = .ok z w) (hQ : ∀ o, Q o → ∃ n f, MapR P kt e o n f ∧ ∀ V H, R.rel V H (if c then .tuple #[(f key).getD z, .bool (f key).isSome] else (f key).getD z))
    (hEr : vis dm ops { dst := some d, op := .lookup t m y c, type := ty, pos := pos, after := af, guard := g } E = Er) (hm : xev Er m = some (.a (.c (.m gm t0)))) (hg : an hp gm = some ⟨gm, t0, .mp Q⟩) (hy : xev Er y = some yv) (hyv : vOf yv = some key) (ht : T.bt.get t = some (.m kt e)) (hb : ak ops Er g = some true ∧ okD x.N (some d) = true)
    (hk' : (MS.r ops (push dm ⟨i, [gm], false, false⟩) l k ⟨(d, R) :: E, hp, nx⟩).ok x) (hdk : DkM dm ops ⟨i, [gm], false, false⟩ := by first | exact trivial | (refine DK.mk ?_; decide +kernel)) :
    (MS.r ops dm ((i, { dst := some d, op := .lookup t m y c, type := ty, pos := pos, after := af, guard := g }) :: l) k ⟨E, hp, nx⟩).ok x :=
  MS.rd1 hg hEr hb (LS.lookO (T := T) hm hy hyv ht K hk hz hQ) hdk hk'
theorem Lm {t kt e : TypeId} {m : Operand} (n : Nat) (hQ : ∀ o, Q o → ∃ f, MapR P kt e o n f)
    (hEr : vis dm ops { dst := some d, op := .call { callee := .builtin .len, args := #[m], argTypes := #[t] }, type := ty, pos := pos, after := af, guard := g } E = Er) (hm : xev Er m = some (.a (.c (.m gm t0)))) (hg : an hp gm = some ⟨gm, t0, .mp Q⟩) (ht : T.bt.get t = some (.m kt e)) (hb : ak ops Er g = some true ∧ okD x.N (some d) = true)
    (hk' : (MS.r ops (push dm ⟨i, [gm], false, false⟩) l k ⟨(d, xi (n : Nat)) :: E, hp, nx⟩).ok x) (hdk : DkM dm ops ⟨i, [gm], false, false⟩ := by first | exact trivial | (refine DK.mk ?_; decide +kernel)) :
    (MS.r ops dm ((i, { dst := some d, op := .call { callee := .builtin .len, args := #[m], argTypes := #[t] }, type := ty, pos := pos, after := af, guard := g }) :: l) k ⟨E, hp, nx⟩).ok x :=
  MS.rd1 hg hEr hb (LS.lenO (T := T) hm ht hQ) hdk hk'
theorem Mw {t kt e : TypeId} {m y z : Operand} {key v : Value} {kl : Lit} {yv zv : XV} (Q' : Obj → Prop) (K : Maps.Keyed P kt) (hk : keyOf P kt key = some kl) (hQ : ∀ o, Q o → ∃ n f f', MapR P kt e o n f ∧ n < maxLen ∧ f key = none ∧ f' key = some v ∧ (∀ s, s ≠ key → f' s = f s) ∧ ∀ o', MapR P kt e o' (n + 1) f' → Q' o')
    (hEr : vis dm ops { dst := dd, op := .mapUpdate t m y z, type := ty, pos := pos, after := af, guard := g } E = Er) (hm : xev Er m = some (.a (.c (.m gm t0)))) (hg : an hp gm = some ⟨gm, t0, .mp Q⟩) (hy : xev Er y = some yv) (hyv : vOf yv = some key) (hz : xev Er z = some zv) (hzv : vOf zv = some v) (ht : T.bt.get t = some (.m kt e)) (hset' : bc hp gm t0 (.mp Q') = some hp') (hb : ak ops Er g = some true ∧ okD x.N dd = true)
    (hk' : (MS.r ops (push dm ⟨i, [gm], true, false⟩) l k ⟨cj dd .u E, hp', nx⟩).ok x) (hdk : DkM dm ops ⟨i, [gm], true, false⟩ := by first | exact trivial | (refine DK.mk ?_; decide +kernel)) :
    (MS.r ops dm ((i, { dst := dd, op := .mapUpdate t m y z, type := ty, pos := pos, after := af, guard := g }) :: l) k ⟨E, hp, nx⟩).ok x :=
  MS.wr1 hg hset' hEr hb (LS.insO (T := T) hm hy hyv hz hzv ht K hk hQ) hdk hk'
theorem Ckz {f : FuncId} {args : List XV} {B F : XH} {m : Nat} {R : XV} {d : Option Tmp} {opd : Operand} {xs : List Operand} {tys : Array TypeId} {fv : XV} {us : List XV} {ps rest : XH} (gs : List Nat) (X : XH) (h : XM P x.B.pk f args B m m (fun r hp' => r = R ∧ hp' = F))
    (hEr : vis dm ops { dst := d, op := .call { callee := .value opd, args := xs.toArray, argTypes := tys }, type := ty, pos := pos, after := af, guard := g } E = Er) (hfv : xev Er opd = some fv) (hfn : fnv fv = some (f, [], [])) (hus : d3 (xev Er) xs = some us) (hpk : dC gs hp = some (ps, rest))
    (hargs : cos (XVs.ren (muc gs m nx (ps.map (·.t))) args) us = XVs.ren (muc gs m nx (ps.map (·.t))) args) (hfp : ps = aZ (muc gs m nx (ps.map (·.t))) B) (hb : (ak ops Er g = some true ∧ aa ps = gs) ∧ (okD x.N d && (bT gs && gs.all (fun g => Nat.blt g nx))) = true) (hX : aZ (muc gs m nx (ps.map (·.t))) F = X) (hR : pure R = true)
    (hk : (MS.r ops (push dm ⟨i, gs, true, true⟩) l k ⟨cj d R E, X ++ rest, nx⟩).ok x)
    (hdk : DkM dm ops ⟨i, gs, true, true⟩ := by first | exact trivial | (refine DK.mk ?_; decide +kernel)) (hrl : RlM dm ops i l := by first | exact trivial | (refine RL.mk ?_; decide +kernel)) :
    (MS.r ops dm ((i, { dst := d, op := .call { callee := .value opd, args := xs.toArray, argTypes := tys }, type := ty, pos := pos, after := af, guard := g }) :: l) k ⟨E, hp, nx⟩).ok x := by
  have e1 : gs ++ List.range' nx (m - m) = gs := by simp
  refine Cm gs h hEr hfv hfn hus hpk hargs hfp hb ?_ (by rw [e1]; exact hdk) hrl
  rintro r hp' ⟨rfl, rfl⟩
  rw [e1, hX, XV.ren_pure hR, Nat.sub_self, Nat.add_zero]
  exact hk
end
open Go.Proofs
def fX : List Nat → List UInt8
  | [] => []
  | i :: r => d6 i ++ (44 :: fX r)
theorem iX : ∀ a b, fX (a ++ b) = fX a ++ fX b
  | [], _ => rfl
  | i :: r, b => by simp only [List.cons_append, fX, iX r b, List.append_assoc]
theorem decN_inj {n m : Nat} (h : d6 n = d6 m) : n = m := by
  have h1 := kB n
  rw [h, kB m] at h1
  injection h1 with h1
  exact h1.symm
theorem decN_no (n : Nat) : ∀ c ∈ d6 n, c ≠ 44 := fun c hc e => by
  have := (kC n c hc).1
  subst e
  exact absurd this (by decide)
theorem pb : ∀ {a b : List Nat}, fX a = fX b → a = b
  | [], [], _ => rfl
  | [], i :: r, h => by simp [fX] at h
  | i :: r, [], h => by simp [fX] at h
  | i :: r, j :: s, h => by
    simp only [fX] at h
    obtain ⟨h1, h2⟩ := nX (decN_no i) (decN_no j) h
    rw [decN_inj h1, pb h2]
theorem kY : ∀ {l : List Nat}, (∀ i ∈ l, i < 10 ^ 20) → (fX l).length ≤ 21 * l.length
  | [], _ => by simp [fX]
  | i :: r, h => by
    have h1 := kY (l := r) (fun j hj => h j (List.mem_cons_of_mem _ hj))
    have h2 := kA 19 i (h i (List.mem_cons_self ..))
    simp only [fX, List.length_append, List.length_cons]; omega
def shX (S : List Tr) (t : Tr) : Value := .agg #[.string t.lab, .string (bb (fX (t.kids.map S.idxOf)))]
structure IdX (S : List Tr) (f : Value → Option Value) : Prop where
  nodup : S.Nodup
  closed : ∀ t ∈ S, ∀ k ∈ t.kids, k ∈ S
  has : ∀ (i : Nat) (t : Tr), S[i]? = some t → f (shX S t) = some (.int .i64 (i : Int))
  only : ∀ (v : Value), f v ≠ none → ∃ t ∈ S, v = shX S t
theorem shX_inj {S : List Tr} {t u : Tr} (ht : ∀ k ∈ t.kids, k ∈ S) (hu : ∀ k ∈ u.kids, k ∈ S) (h : shX S t = shX S u) : t = u := by
  unfold shX at h
  simp only [Value.agg.injEq, Array.mk.injEq, List.cons.injEq, and_true, Value.string.injEq] at h
  obtain ⟨h1, h2⟩ := h
  have h3 := map_inj ht hu (pb (bb_inj h2))
  obtain ⟨l, ks⟩ := t
  obtain ⟨l', ks'⟩ := u
  simp only [Tr.lab, Tr.kids] at h1 h3
  rw [h1, h3]
theorem jE {S X : List Tr} {t : Tr} (h : ∀ k ∈ t.kids, k ∈ S) : shX (S ++ X) t = shX S t := by
  unfold shX
  rw [show t.kids.map (S ++ X).idxOf = t.kids.map S.idxOf from List.map_congr_left fun k hk => na (h k hk)]
theorem IdX.nil : IdX [] (fun _ => none) := ⟨List.nodup_nil, by simp, by simp, fun v h => absurd rfl h⟩
theorem IdX.get {S : List Tr} {f : Value → Option Value} (h : IdX S f) {t : Tr} (ht : t ∈ S) : f (shX S t) = some (.int .i64 (S.idxOf t : Nat)) := h.has _ _ (m9 ht)
theorem IdX.miss {S : List Tr} {f : Value → Option Value} (h : IdX S f) {t : Tr} (ht : t ∉ S) (hk : ∀ k ∈ t.kids, k ∈ S) : f (shX S t) = none := by
  cases e : f (shX S t) with
  | none => rfl
  | some v =>
    obtain ⟨u, hu, he⟩ := h.only _ (by rw [e]; simp)
    rw [shX_inj hk (h.closed u hu) he] at ht
    exact absurd hu ht
theorem IdX.add {S : List Tr} {f : Value → Option Value} (h : IdX S f) {t : Tr} (ht : t ∉ S) (hk : ∀ k ∈ t.kids, k ∈ S) : IdX (S ++ [t]) (putF f (shX S t) (.int .i64 (S.length : Nat))) := by
  have hc : ∀ u ∈ S, ∀ k ∈ u.kids, k ∈ S := h.closed
  refine ⟨?_, ?_, ?_, ?_⟩
  · rw [List.nodup_append]
    exact ⟨h.nodup, by simp, fun a ha b hb => by simp at hb; subst hb; intro e; exact ht (e ▸ ha)⟩
  · intro u hu k hku
    rcases List.mem_append.1 hu with hu | hu
    · exact List.mem_append_left _ (hc u hu k hku)
    · simp at hu; subst hu; exact List.mem_append_left _ (hk k hku)
  · intro i u hi
    rcases Nat.lt_or_ge i S.length with hlt | hge
    · rw [List.getElem?_append_left hlt] at hi
      have hu := List.mem_of_getElem? hi
      rw [jE (hc u hu), fF, h.has i u hi]
      intro e
      exact ht ((shX_inj (hc u hu) hk e) ▸ hu)
    · rw [List.getElem?_append_right hge] at hi
      have hi0 : i = S.length := by
        rcases Nat.lt_or_ge S.length i with h1 | h1
        · rw [List.getElem?_eq_none (by simp; omega)] at hi; cases hi
        · omega
      subst hi0
      simp at hi
      subst hi
      rw [jE hk, lK]
  · intro v hv
    by_cases e : v = shX S t
    · exact ⟨t, by simp, by rw [jE hk]; exact e⟩
    · rw [fF _ _ _ _ e] at hv
      obtain ⟨u, hu, he⟩ := h.only v hv
      exact ⟨u, List.mem_append_left _ hu, by rw [jE (hc u hu)]; exact he⟩
mutual
def mS : Tr → List Tr → List Tr
  | .node l ks, S => if Tr.node l ks ∈ mSL ks S then mSL ks S else mSL ks S ++ [.node l ks]
def mSL : List Tr → List Tr → List Tr
  | [], S => S
  | t :: r, S => mSL r (mS t S)
end
theorem kZ : ∀ (a b S : List Tr), mSL (a ++ b) S = mSL b (mSL a S)
  | [], _, _ => rfl
  | t :: r, b, S => by rw [List.cons_append, mSL, mSL, kZ r b]
theorem lc {ks : List Tr} {k : Nat} {x : Tr} (h : ks[k]? = some x) (S : List Tr) : mSL (ks.take (k + 1)) S = mS x (mSL (ks.take k) S) := by
  rw [List.take_add_one, h, kZ]; rfl
mutual
theorem mS_ext : ∀ (t : Tr) (S : List Tr), ∃ X, mS t S = S ++ X
  | .node l ks, S => by
    obtain ⟨X, hX⟩ := nQ ks S
    rw [mS]
    split
    · exact ⟨X, hX⟩
    · exact ⟨X ++ [.node l ks], by rw [hX, List.append_assoc]⟩
theorem nQ : ∀ (ks S : List Tr), ∃ X, mSL ks S = S ++ X
  | [], S => ⟨[], by rw [mSL, List.append_nil]⟩
  | t :: r, S => by
    obtain ⟨X, hX⟩ := mS_ext t S
    obtain ⟨Y, hY⟩ := nQ r (mS t S)
    exact ⟨X ++ Y, by rw [mSL, hY, hX, List.append_assoc]⟩
end
theorem mS_mem : ∀ (t : Tr) (S : List Tr), t ∈ mS t S
  | .node l ks, S => by
    rw [mS]
    split
    · assumption
    · simp
theorem ef : ∀ {ks : List Tr} (S : List Tr), ∀ x ∈ ks, x ∈ mSL ks S
  | t :: r, S, x, hx => by
    rw [mSL]
    rcases List.mem_cons.1 hx with rfl | hx
    · obtain ⟨X, hX⟩ := nQ r (mS x S)
      rw [hX]; exact List.mem_append_left _ (mS_mem x S)
    · exact ef _ x hx
mutual
theorem mS_len : ∀ (t : Tr) (S : List Tr), (mS t S).length ≤ S.length + t.size
  | .node l ks, S => by
    have := g5 ks S
    rw [mS, Tr.size]
    split
    · omega
    · rw [List.length_append, List.length_singleton]; omega
theorem g5 : ∀ (ks S : List Tr), (mSL ks S).length ≤ S.length + Tr.sizes ks
  | [], S => by rw [mSL, Tr.sizes]; omega
  | t :: r, S => by
    have h1 := mS_len t S
    have h2 := g5 r (mS t S)
    rw [mSL, Tr.sizes]; omega
end
abbrev ClS (S : List Tr) : Prop := ∀ t ∈ S, ∀ k ∈ t.kids, k ∈ S
mutual
theorem mS_cl : ∀ (t : Tr) {S : List Tr}, ClS S → ClS (mS t S)
  | .node l ks, S, h => by
    have h1 := ld ks h
    rw [mS]
    split
    · exact h1
    · intro t ht k hk
      rcases List.mem_append.1 ht with ht | ht
      · exact List.mem_append_left _ (h1 t ht k hk)
      · rw [List.mem_singleton] at ht; subst ht
        exact List.mem_append_left _ (ef S k hk)
theorem ld : ∀ (ks : List Tr) {S : List Tr}, ClS S → ClS (mSL ks S)
  | [], _, h => h
  | t :: r, _, h => ld r (mS_cl t h)
end
mutual
def szD (S : List Tr) : Tr → List D
  | .node l ks => .c (.string l) :: .c (.int .i64 (S.idxOf (Tr.node l ks) : Nat)) :: .c (.int .i64 ((Tr.node l ks).size : Nat)) :: .s (szR S ks) :: trd (.node l ks)
def szR (S : List Tr) : List Tr → List (List D)
  | [] => []
  | t :: r => [.p (szD S t)] :: szR S r
end
theorem dg (S : List Tr) : ∀ (t : Tr), szD S t = [.c (.string t.lab), .c (.int .i64 (S.idxOf t : Nat)), .c (.int .i64 (t.size : Nat)), .s (szR S t.kids), .c (.string t.lab), .s (aP t.kids)]
  | .node l ks => by rw [szD, ba]; rfl
def szp (S : List Tr) (t : Tr) : List D := [.p (szD S t)]
theorem g6 (S : List Tr) : ∀ l, szR S l = l.map (szp S)
  | [] => rfl
  | t :: r => by rw [szR, g6 S r]; rfl
mutual
theorem szD_ext {S X : List Tr} (hc : ∀ t ∈ S, ∀ k ∈ t.kids, k ∈ S) : ∀ {t : Tr}, t ∈ S → szD (S ++ X) t = szD S t
  | .node l ks, ht => by
    rw [szD, szD, na ht, nR hc (l := ks) (hc _ ht)]
theorem nR {S X : List Tr} (hc : ∀ t ∈ S, ∀ k ∈ t.kids, k ∈ S) : ∀ {l : List Tr}, (∀ t ∈ l, t ∈ S) → szR (S ++ X) l = szR S l
  | [], _ => rfl
  | t :: r, h => by rw [szR, szR, szD_ext hc (h t (List.mem_cons_self ..)), nR hc (fun k hk => h k (List.mem_cons_of_mem _ hk))]
end
theorem szm_ext {S X : List Tr} (hc : ∀ t ∈ S, ∀ k ∈ t.kids, k ∈ S) {l : List Tr} (h : ∀ t ∈ l, t ∈ S) : l.map (szp (S ++ X)) = l.map (szp S) := by rw [← g6, ← g6, nR hc h]
def QI (S : List Tr) (o : Obj) : Prop := ∃ f, IdX S f ∧ MapR Tryz.prog 175 3 o S.length f
section
open Go Go.RowKit Go.Proofs K
variable {pk : Pk}
abbrev dfB (S : List Tr) (QM : Obj → Prop) : XH := [⟨0, 0, .cells [.m 1 0, .m 2 0] 104⟩, ⟨1, 0, .mp (QI S)⟩, ⟨2, 0, .mp QM⟩]
abbrev MeasT (pk : Pk) (t : Tr) : Prop := ∀ (S : List Tr) (QM : Obj → Prop), ClS S → S.length + t.size ≤ 4000000 → XM Tryz.prog pk 41 [.a (.c (.p 0 0 0)), xd (trd t)] (dfB S QM) 3 3 (fun r hp' => r = .a (.c (.d (.p (szD (mS t S) t)))) ∧ hp' = dfB (mS t S) QM)
abbrev mB (l : ByteArray) (ks S : List Tr) (QM : Obj → Prop) (q : Nat) (R : List (List D)) (m : Int) : XH := [⟨0, 0, .cells [.m 1 0, .m 2 0] 104⟩, ⟨1, 0, .mp (QI S)⟩, ⟨2, 0, .mp QM⟩, ⟨4, 0, .cells [.d (.c (.string l)), .d (.c (.int .i64 0)), .d (.c (.int .i64 m)), .l 5 0 1 0 q q, .d (.c (.string l)), .d (.s (aP ks))] 166⟩, ⟨5, 0, .row q R 106 1⟩]
structure MI (S ks : List Tr) (q : Nat × List (List D) × ByteArray × Int) : Prop where
  le : q.1 ≤ ks.length
  R : q.2.1 = (ks.take q.1).map (szp (mSL (ks.take q.1) S))
  k : q.2.2.1 = bb (fX ((ks.take q.1).map (mSL (ks.take q.1) S).idxOf))
  m : q.2.2.2 = ((Tr.sizes (ks.take q.1) + 1 : Nat) : Int)
theorem iY (hT : ∀ H, pk.hy H → TabH H) : ∀ (n : Nat) (t : Tr), t.size ≤ n → t.size ≤ 1000000 → lbO t → MeasT pk t := by
  intro n
  induction n with
  | zero => intro t h; have := t.size_pos; omega
  | succ n ih =>
    rintro ⟨l, ks⟩ hn hs hl S QM hcl hS
    rw [ba]
    refine XM.en Tryz.func41 Tryz.ntmps41 (fun w0 own H V v0 hf => ?_)
    refine Gs (T := T) 100001 rfl ?_
    refine (FzTo.bz 3 rfl).c ?_
    refine G (T := T) 6 rfl ?_
    refine (Nrh 4 3 106 1 rfl rfl rfl rfl rfl).r ?_
    refine G (T := T) 1000 rfl ?_
    refine Lq [0, 3, 5, 18, 19] (fun (q : Nat × List (List D) × ByteArray × Int) r => (6, xs q.2.2.1) :: (20, xi (q.1 : Nat)) :: r) (fun q => mB l ks (mSL (ks.take q.1) S) QM q.1 q.2.1 q.2.2.2) 6 (MI S ks) (fun q => ks.length - q.1) (0, [], ⟨#[]⟩, 1) rfl ⟨Nat.zero_le _, rfl, rfl, rfl⟩ ?_
    rintro ⟨j, R, kb, m⟩ ⟨hj, hR, hkb, hm⟩; dsimp only at hj hR hkb hm ⊢
    refine G (T := T) 1000 rfl ?_
    refine If rfl (fun h => ?_) (fun h => ?_)
    · have hjl := of_decide_eq_true h; rw [List.length_map] at hjl
      obtain ⟨y, hy⟩ := ah (l := ks) (j := j) (by omega)
      refine G (T := T) 1000 rfl ?_
      refine Ix (T := T) j (ab hy) rfl rfl rfl rfl ⟨rfl, rfl⟩ rfl rfl ?_
      refine G (T := T) 26 rfl ?_
      obtain ⟨X, hX⟩ := mS_ext y (mSL (ks.take j) S)
      have hsz1 := Tr.sizes_take ks j y hy
      have hsz2 := Tr.sizes_take_le ks (j + 1)
      have hsl := g5 (ks.take j) S
      have hlo := aH hl.2.2 (List.mem_of_getElem? hy)
      simp only [Tr.size] at hn hs hS
      have hc := ih y (Tr.size_kid (l := l) (List.mem_of_getElem? hy) (by simpa only [Tr.size] using hn)) (by omega) hlo (mSL (ks.take j) S) QM (ld _ hcl) (by omega)
      rw [dg _ y] at hc
      refine Ckz [0, 1, 2] (dfB (mSL (ks.take (j + 1)) S) QM) hc rfl rfl rfl rfl rfl rfl rfl ⟨⟨rfl, rfl⟩, rfl⟩ (by rw [lc hy]; rfl) rfl ?_
      have hkl := Tr.len_le ks
      have hil := Nat.lt_of_lt_of_le (List.idxOf_lt_length_of_mem (mS_mem y (mSL (ks.take j) S))) (mS_len y (mSL (ks.take j) S))
      refine G (T := T) 53 rfl ?_
      refine Cq (dM hT (by omega) (by omega)) rfl rfl rfl rfl rfl ⟨rfl, rfl⟩ ?_
      have hd1 : (cw ((List.idxOf y (mS y (mSL (ks.take j) S)) : Nat) : Int).toNat).size ≤ 1000 := Nat.le_trans (it (by show _ < 100000000000000000000; omega)) (by decide)
      have hd2 : kb.size ≤ 21 * 1000000 := by
        have := kY (l := (ks.take j).map (mSL (ks.take j) S).idxOf) (fun i hi => by
          obtain ⟨z, hz, rfl⟩ := List.mem_map.1 hi
          have := List.idxOf_lt_length_of_mem (ef S z hz)
          show _ < 100000000000000000000
          omega)
        rw [List.length_map, List.length_take] at this
        rw [hkb, ji]; omega
      have hd3 : (cw ((List.idxOf y (mS y (mSL (ks.take j) S)) : Nat) : Int).toNat ++ (⟨#[44]⟩ : ByteArray)).size ≤ 1001 := by rw [ByteArray.size_append]; exact Nat.add_le_add hd1 (Nat.le_refl 1)
      have h44 : (⟨#[44]⟩ : ByteArray).size = 1 := rfl
      refine G (T := T) 1000 rfl ?_
      refine Nq (j + 1, _, _, _) ⟨by omega, ?_, ?_, ?_⟩ (by show _ - (j + 1) < _ - j; omega) ⟨⟨_, _, rfl, rfl⟩, rfl, rfl⟩
      · dsimp only
        rw [hR, lc hy, cz (szp _) hy, hX, szm_ext (ld _ hcl) (ef S), szp, dg]
      · dsimp only
        rw [hkb, lc hy, cz (List.idxOf · _) hy, iX, hX, List.map_congr_left fun k hk => na (ef S k hk)]
        show _ ++ (bb _ ++ bb [44]) = _
        rw [lJ, lJ]
        rfl
      · dsimp only
        rw [hm, hsz1]; omega
    · have hjl := of_decide_eq_false h; rw [List.length_map] at hjl
      obtain rfl : j = ks.length := by omega
      rw [List.take_length] at hR hkb hm ⊢
      have hkk : ∀ k ∈ (Tr.node l ks).kids, k ∈ mSL ks S := ef S
      have hkey : shX (mSL ks S) (.node l ks) = .agg #[.string l, .string kb] := by rw [hkb]; rfl
      have hkb2 : kb.size ≤ 9223372036854775807 := by
        have := kY (l := ks.map (mSL ks S).idxOf) (fun i hi => by
          obtain ⟨z, hz, rfl⟩ := List.mem_map.1 hi
          have h1 := List.idxOf_lt_length_of_mem (ef S z hz)
          have h2 := g5 ks S
          simp only [Tr.size] at hS
          show _ < 100000000000000000000
          omega)
        have hkl := Tr.len_le ks
        simp only [Tr.size] at hs
        rw [List.length_map] at this
        rw [hkb, ji]; omega
      have hk5 := key115 (a := l) (b := kb) (Nat.le_trans hl.1 (by decide)) hkb2
      rw [← hkey] at hk5
      by_cases hin : Tr.node l ks ∈ mSL ks S
      · have hmS : mS (.node l ks) S = mSL ks S := by rw [mS, if_pos hin]
        rw [hmS, dg, g6]
        subst hR hm
        have hR5 : ∀ o, QI (mSL ks S) o → ∃ n f, MapR Tryz.prog 175 3 o n f ∧ ∀ V H, XV.rel V H (.t [.c (.d (.c (.int .i64 ((mSL ks S).idxOf (.node l ks) : Nat)))), .c (.d (.c (.bool true)))]) (if true then .tuple #[(f (shX (mSL ks S) (.node l ks))).getD (.int .i64 0), .bool (f (shX (mSL ks S) (.node l ks))).isSome] else (f (shX (mSL ks S) (.node l ks))).getD (.int .i64 0)) := fun o ⟨f, h1, h2⟩ => ⟨_, f, h2, fun V H => by
          rw [h1.get hin]; exact ⟨_, rfl, ⟨rfl, rfl⟩, ⟨rfl, rfl⟩, trivial⟩⟩
        rw [hkey] at hR5 hk5
        refine G (T := T) 66 rfl ?_
        refine Lw (T := T) _ K115 hk5 zero3 hR5 rfl rfl rfl rfl rfl rfl ⟨rfl, rfl⟩ ?_
        refine G (T := T) 1000 rfl ?_
        refine IfF rfl rfl ?_
        refine G (T := T) 1000 rfl ?_
        refine MS.fze 5 rfl ?_ (by repeat' (first | exact trivial | apply And.intro | rfl))
        refine (FzTo.bz 4 rfl).e ?_
        exact Fm (T := T) id _ _ ⟨rfl, rfl⟩ rfl ⟨⟨_, _, rfl, rfl⟩, rfl, rfl⟩
      · have hmS : mS (.node l ks) S = mSL ks S ++ [.node l ks] := by rw [mS, if_neg hin]
        have hsl := g5 ks S
        rw [hmS, dg, g6, idx_new hin, szm_ext (l := (Tr.node l ks).kids) (ld ks hcl) hkk]
        subst hR hm
        have hR5 : ∀ o, QI (mSL ks S) o → ∃ n f, MapR Tryz.prog 175 3 o n f ∧ ∀ V H, XV.rel V H (.t [.c (.d (.c (.int .i64 0))), .c (.d (.c (.bool false)))]) (if true then .tuple #[(f (shX (mSL ks S) (.node l ks))).getD (.int .i64 0), .bool (f (shX (mSL ks S) (.node l ks))).isSome] else (f (shX (mSL ks S) (.node l ks))).getD (.int .i64 0)) := fun o ⟨f, h1, h2⟩ => ⟨_, f, h2, fun V H => by
          rw [h1.miss hin hkk]; exact ⟨_, rfl, ⟨rfl, rfl⟩, ⟨rfl, rfl⟩, trivial⟩⟩
        have hR6 : ∀ o, QI (mSL ks S) o → ∃ n f f', MapR Tryz.prog 175 3 o n f ∧ n < maxLen ∧ f (shX (mSL ks S) (.node l ks)) = none ∧ f' (shX (mSL ks S) (.node l ks)) = some (.int .i64 ((mSL ks S).length : Nat)) ∧ (∀ s, s ≠ shX (mSL ks S) (.node l ks) → f' s = f s) ∧ ∀ o', MapR Tryz.prog 175 3 o' (n + 1) f' → QI (mSL ks S ++ [.node l ks]) o' := fun o ⟨f, h1, h2⟩ => ⟨_, f, _, h2, by
          simp only [Tr.size] at hS hs
          show _ < 9223372036854775807
          omega, h1.miss hin hkk, lK .., fun s h3 => fF _ _ _ _ h3, fun o' h3 => ⟨_, h1.add hin hkk, by rw [List.length_append]; exact h3⟩⟩
        rw [hkey] at hR5 hR6 hk5
        refine G (T := T) 66 rfl ?_
        refine Lw (T := T) _ K115 hk5 zero3 hR5 rfl rfl rfl rfl rfl rfl ⟨rfl, rfl⟩ ?_
        refine G (T := T) 1000 rfl ?_
        refine IfT rfl rfl ?_
        refine G (T := T) 75 rfl ?_
        refine Lm (T := T) (kt := 175) (e := 3) (mSL ks S).length (fun o ⟨f, _, h2⟩ => ⟨f, h2⟩) rfl rfl rfl rfl ⟨rfl, rfl⟩ ?_
        refine G (T := T) 1000 rfl ?_
        refine Mw (T := T) _ K115 hk5 hR6 rfl rfl rfl rfl rfl rfl rfl rfl rfl ⟨rfl, rfl⟩ ?_
        refine G (T := T) 1000 rfl ?_
        refine MS.fze 5 rfl ?_ (by repeat' (first | exact trivial | apply And.intro | rfl))
        refine (FzTo.bz 4 rfl).e ?_
        exact Fm (T := T) id _ _ ⟨rfl, rfl⟩ rfl ⟨⟨_, _, rfl, rfl⟩, rfl, rfl⟩
end
end Go.Proofs.YtlmahofogapkgaaGreatDoor.X
namespace Go.Proofs.YtlmahofogapkgaaGreatDoor.K
open Go Go.RowKit Go.Proofs
def fro : List Tr → List Tr → Nat
  | x :: a, y :: b => if x = y then fro a b + 1 else 0
  | _, _ => 0
theorem fro_is : ∀ {a b : List Tr} {i : Nat}, i ≤ a.length → i ≤ b.length → a.take i = b.take i → (a.length ≤ i ∨ b.length ≤ i ∨ a[i]? ≠ b[i]?) → fro a b = i
  | [], b, i, h1, _, _, _ => by simp at h1; subst h1; cases b <;> rfl
  | x :: a, [], i, _, h2, _, _ => by simp at h2; subst h2; rfl
  | x :: a, y :: b, 0, _, _, _, h => by
    simp at h
    simp only [fro]
    rw [if_neg h]
  | x :: a, y :: b, i + 1, h1, h2, h3, h => by
    simp only [List.take_succ_cons, List.cons.injEq] at h3
    simp only [fro]
    rw [if_pos h3.1, fro_is (by simpa using h1) (by simpa using h2) h3.2 (by simpa using h)]
theorem fro_le : ∀ (a b : List Tr), fro a b ≤ a.length ∧ fro a b ≤ b.length
  | [], b => by cases b <;> simp [fro]
  | x :: a, [] => by simp [fro]
  | x :: a, y :: b => by
    have := fro_le a b
    simp only [fro]
    split
    · simp; omega
    · simp
def rv (f : Nat) (a : List Tr) : List Tr := (a.drop f).reverse
def bak (f : Nat) (a b : List Tr) : Nat := fro (rv f a) (rv f b)
theorem rv_len (f : Nat) (a : List Tr) : (rv f a).length = a.length - f := by simp [rv]
theorem rv_at {f : Nat} {a : List Tr} {k : Nat} (h : k < a.length - f) : (rv f a)[k]? = a[a.length - 1 - k]? := by
  have h1 : k < (a.drop f).length := by simp; omega
  unfold rv
  rw [List.getElem?_reverse h1, List.getElem?_drop, List.length_drop]
  congr 1
  omega
theorem idx_eq {S : List Tr} {x y : Tr} (hx : x ∈ S) (hy : y ∈ S) : ((S.idxOf x : Int) = (S.idxOf y : Int)) ↔ x = y :=
  ⟨fun h => idx_inj hx hy (by omega), fun h => by rw [h]⟩
section
variable {P : Program} {w0 : World} {N : Nat} {Q : Exit → Act → World → Prop} {env : Env} {own : List Seg} {H : Hp} {ops : Array Oper} {rest : List Oper}
variable {d : Option Tmp} {ty : TypeId} {pos : String} {af : Array Edge}
end
end Go.Proofs.YtlmahofogapkgaaGreatDoor.K
namespace Go.Proofs.YtlmahofogapkgaaGreatDoor.X
section
open Go Go.RowKit Go.Proofs K
variable {pk : Pk}
theorem jF {S a : List Tr} {i : Nat} {x : Tr} (h : a[i]? = some x) : (a.map (szp S))[i]? = some [.p [.c (.string x.lab), .c (.int .i64 (S.idxOf x : Nat)), .c (.int .i64 (x.size : Nat)), .s (szR S x.kids), .c (.string x.lab), .s (aP x.kids)]] := by
  rw [List.getElem?_map, h, ← dg]; rfl
def onF (a b : List Tr) (i : Nat) : Bool := decide (i < a.length) && (decide (i < b.length) && decide (a[i]? = b[i]?))
theorem pd {a b : List Tr} {i : Nat} (h : onF a b i = true) : i < a.length ∧ i < b.length ∧ a[i]? = b[i]? := by
  simp only [onF, Bool.and_eq_true, decide_eq_true_eq] at h
  exact h
theorem mA {a b : List Tr} {i : Nat} (h : onF a b i = false) : a.length ≤ i ∨ b.length ≤ i ∨ a[i]? ≠ b[i]? := by
  simp only [onF, Bool.and_eq_false_iff, decide_eq_false_iff_not, Nat.not_lt] at h
  exact h
theorem trim_f {S a b : List Tr} (ha : a.length ≤ 1000000) (hb : b.length ≤ 1000000) (hSa : ∀ x ∈ a, x ∈ S) (hSb : ∀ x ∈ b, x ∈ S) : XQ Tryz.prog pk 93 [xr (a.map (szp S)), xr (b.map (szp S))] (.t [.c (.d (.c (.int .i64 (fro a b : Nat)))), .c (.d (.c (.int .i64 (bak (fro a b) a b : Nat))))]) := by
  have hfl := fro_le a b
  have hma : (a.map (szp S)).length = a.length := List.length_map ..
  have hmb : (b.map (szp S)).length = b.length := List.length_map ..
  refine XQ.en Tryz.func93 Tryz.ntmps93 (fun w0 own H V v0 hf => ?_)
  refine G (T := T) 200000 rfl ?_
  refine Cf [0, 1] (fun (_ : Unit) r => (4, xi (fro a b : Nat)) :: (5, xi 0) :: r) (fun _ => []) 0 (fun _ => True) rfl ?_ ?_
  · refine G (T := T) 1000 rfl ?_
    refine Lq [0, 1, 5] (fun q r => (4, xi (q : Nat)) :: r) (fun q => []) 0 (fun q => q ≤ a.length ∧ q ≤ b.length ∧ a.take q = b.take q) (fun q => a.length - q) 0 rfl ⟨Nat.zero_le _, Nat.zero_le _, by simp⟩ ?_
    rintro j ⟨hj1, hj2, hj3⟩
    refine MC.seq ?_
    refine Cu [0, 1, 4, 5] (fun (_ : Unit) r => (32, xb (onF a b j)) :: r) (fun _ => []) 0 (fun _ => True) rfl ?_ ?_
    · refine G (T := T) 10 rfl ?_
      refine Sp 9 rfl (fun h => ?_) (fun h => ?_)
      · have h1 := of_decide_eq_true h; rw [List.length_map] at h1
        obtain ⟨x, hx⟩ := ah (l := a) (j := j) (by omega)
        refine G (T := T) 15 rfl ?_
        refine Sp 14 rfl (fun h => ?_) (fun h => ?_)
        · have h2 := of_decide_eq_true h; rw [List.length_map] at h2
          obtain ⟨y, hy⟩ := ah (l := b) (j := j) (by omega)
          refine G (T := T) 1000 rfl ?_
          refine Ix (T := T) j (jF hx) rfl rfl rfl rfl ⟨rfl, rfl⟩ rfl rfl ?_
          refine G (T := T) 1000 rfl ?_
          refine Ix (T := T) j (jF hy) rfl rfl rfl rfl ⟨rfl, rfl⟩ rfl rfl ?_
          refine G (T := T) 1000 rfl ?_
          have e1 : onF a b j = decide ((S.idxOf x : Int) = (S.idxOf y : Int)) := by
            unfold onF
            rw [hx, hy, decide_eq_true (by omega), decide_eq_true (by omega), Bool.true_and, Bool.true_and]
            refine decide_eq_decide.2 ?_
            rw [idx_eq (hSa _ (List.mem_of_getElem? hx)) (hSb _ (List.mem_of_getElem? hy))]
            exact ⟨fun h => by injection h, fun h => by rw [h]⟩
          rw [e1]
          exact Dn () trivial
        · have h2 := of_decide_eq_false h; rw [List.length_map] at h2
          refine G (T := T) 1000 rfl ?_
          rw [show onF a b j = false by rw [onF, decide_eq_false (p := j < b.length) (by omega), Bool.false_and, Bool.and_false]]
          exact Dn () trivial
      · have h1 := of_decide_eq_false h; rw [List.length_map] at h1
        refine G (T := T) 1000 rfl ?_
        rw [show onF a b j = false by rw [onF, decide_eq_false (p := j < a.length) (by omega), Bool.false_and]]
        exact Dn () trivial
    · rintro ⟨⟩ -
      refine G (T := T) 1000 rfl ?_
      refine If rfl (fun h => ?_) (fun h => ?_)
      · obtain ⟨h1, h2, h3⟩ := pd h
        refine G (T := T) 1000 rfl ?_
        exact Nq (j + 1) ⟨by omega, by omega, by rw [List.take_add_one, List.take_add_one, h3, hj3]⟩ (by show _ - (j + 1) < _ - j; omega)
      · have hz := fro_is hj1 hj2 hj3 (mA h)
        subst hz
        refine G (T := T) 1000 rfl ?_
        exact Dn () trivial
  · rintro ⟨⟩ -
    refine G (T := T) 200002 rfl ?_
    refine Cf [4] (fun (_ : Unit) r => (5, xi (bak (fro a b) a b : Nat)) :: r) (fun _ => []) 0 (fun _ => True) rfl ?_ ?_
    · refine G (T := T) 1000 rfl ?_
      generalize hfe : fro a b = f at *
      have hra := rv_len f a
      have hrb := rv_len f b
      refine Lq [0, 1, 4] (fun q r => (5, xi (q : Nat)) :: r) (fun q => []) 0 (fun q => q ≤ (rv f a).length ∧ q ≤ (rv f b).length ∧ (rv f a).take q = (rv f b).take q) (fun q => (rv f a).length - q) 0 rfl ⟨Nat.zero_le _, Nat.zero_le _, by simp⟩ ?_
      rintro j ⟨hj1, hj2, hj3⟩
      refine MC.seq ?_
      refine Cu [0, 1, 4, 5] (fun (_ : Unit) r => (73, xb (onF (rv f a) (rv f b) j)) :: r) (fun _ => []) 0 (fun _ => True) rfl ?_ ?_
      · refine G (T := T) 41 rfl ?_
        refine Sp 40 rfl (fun h => ?_) (fun h => ?_)
        · have h1 := of_decide_eq_true h; rw [List.length_map] at h1
          obtain ⟨x, hx⟩ := ah (l := a) (j := a.length - 1 - j) (by omega)
          refine G (T := T) 48 rfl ?_
          refine Sp 47 rfl (fun h => ?_) (fun h => ?_)
          · have h2 := of_decide_eq_true h; rw [List.length_map] at h2
            obtain ⟨y, hy⟩ := ah (l := b) (j := b.length - 1 - j) (by omega)
            have hx' := hx
            have hy' := hy
            rw [← rv_at (f := f) (by omega)] at hx' hy'
            refine G (T := T) 1000 rfl ?_
            refine Ix (T := T) (a.length - 1 - j) (jF hx) rfl rfl rfl rfl ⟨rfl, rfl⟩ (by rw [List.length_map]; omega) rfl ?_
            refine G (T := T) 1000 rfl ?_
            refine Ix (T := T) (b.length - 1 - j) (jF hy) rfl rfl rfl rfl ⟨rfl, rfl⟩ (by rw [List.length_map]; omega) rfl ?_
            refine G (T := T) 1000 rfl ?_
            have e1 : onF (rv f a) (rv f b) j = decide ((S.idxOf x : Int) = (S.idxOf y : Int)) := by
              unfold onF
              rw [hx', hy', decide_eq_true (by omega), decide_eq_true (by omega), Bool.true_and, Bool.true_and]
              refine decide_eq_decide.2 ?_
              rw [idx_eq (hSa _ (List.mem_of_getElem? hx)) (hSb _ (List.mem_of_getElem? hy))]
              exact ⟨fun h => by injection h, fun h => by rw [h]⟩
            rw [e1]
            exact Dn () trivial
          · have h2 := of_decide_eq_false h; rw [List.length_map] at h2
            refine G (T := T) 1000 rfl ?_
            rw [show onF (rv f a) (rv f b) j = false by rw [onF, decide_eq_false (p := j < (rv f b).length) (by omega), Bool.false_and, Bool.and_false]]
            exact Dn () trivial
        · have h1 := of_decide_eq_false h; rw [List.length_map] at h1
          refine G (T := T) 1000 rfl ?_
          rw [show onF (rv f a) (rv f b) j = false by rw [onF, decide_eq_false (p := j < (rv f a).length) (by omega), Bool.false_and]]
          exact Dn () trivial
      · rintro ⟨⟩ -
        refine G (T := T) 1000 rfl ?_
        refine If rfl (fun h => ?_) (fun h => ?_)
        · obtain ⟨h1, h2, h3⟩ := pd h
          refine G (T := T) 1000 rfl ?_
          exact Nq (j + 1) ⟨by omega, by omega, by rw [List.take_add_one, List.take_add_one, h3, hj3]⟩ (by show _ - (j + 1) < _ - j; omega)
        · have hz := fro_is hj1 hj2 hj3 (mA h)
          subst hz
          refine G (T := T) 1000 rfl ?_
          exact Dn () trivial
    · rintro ⟨⟩ -
      refine G (T := T) 1000 rfl ?_
      exact Fe (T := T) rfl rfl
end
open Go Go.RowKit Go.MapKept Go.ChangeMaps K
section
variable {P : Program} {pk : Pk} {T : Tb P} {Er : XE} {nx : Nat} {ops : Array Oper} {d : Option Tmp} {ty : TypeId} {pos : String} {af : Array Edge}
theorem LS.mkc {t : TypeId} {y z : Operand} {kl kc : IntKind} {jl : Int} {e by_ : Nat} (n : Nat) (dz : D) (hy : xev Er y = some (xv (.int kl jl))) (hz : xev Er z = some (xv (.int kc jl))) (ht : T.bt.get t = some (.sl e 1 by_)) (hj : jl = (n : Int)) (hb : by_ * n ≤ 281474976710656) (hm : n ≤ 9223372036854775807)
    (hzero : ∀ z : Value, Sl P t e 1 by_ z → ∀ H, rdL H [dz] z.cells.toList) :
    LS P pk ops { dst := d, op := .makeSlice t y z, type := ty, pos := pos, after := af, guard := none } Er [] nx (nx + 1) (fun x fp' => x = .a (.c (.l nx 0 1 0 n n)) ∧ fp' = [⟨nx, 0, .cells (List.replicate n (.d dz)) e⟩]) := by
  intro w0 N Q rest env own H V sg hl hV htp hf hd _ hh
  obtain ⟨v, h1, h2⟩ := hl.lks _ _ hy
  have := aO h2; subst this
  obtain ⟨w, h3, h4⟩ := hl.lks _ _ hz
  have := aO h4; subst this
  obtain ⟨zv, hS⟩ := aW (BT.all_get T.ok ht)
  have hzc := hzero zv hS
  have hzs : zv.cells.size = 1 := hS.zs
  obtain rfl := HR0 hV
  refine TL.makeSlice n h1 h3 hj hb hm hd fun gn => ?_
  obtain ⟨u, hu⟩ : ∃ u, zv.cells = #[u] := by
    have : zv.cells.toList.length = 1 := by simpa using hzs
    match h9 : zv.cells.toList, this with
    | [u], _ => exact ⟨u, by rw [← Array.toList_inj, h9]⟩
  have hmade : madeCells zv.cells (n * 1) = (List.replicate n u).toArray := by
    refine Array.ext_getElem? fun q => ?_
    simp only [madeCells, List.getElem?_toArray, List.getElem?_replicate, Nat.mul_one]
    by_cases hq : q < n
    · simp [hq, hu, Nat.mod_one]
    · simp [hq]
  rw [hmade]
  obtain ⟨f1, f2, f3⟩ := bD (V := V) (H := H) (nx := nx) (g := gn) (ex := 0) (o := .cells (List.replicate n u).toArray e (0, 0)) (xo := .cells (List.replicate n (.d dz)) e) hf ⟨List.replicate n u, by
      have key : ∀ n : Nat, rels (V.new nx 0 (some gn, 0)) H (List.replicate n (.d dz)) (List.replicate n u) := by
        intro n
        induction n with
        | zero => exact trivial
        | succ n ih =>
          rw [List.replicate_succ, List.replicate_succ]
          refine ⟨?_, ih⟩
          have := hzc H
          rw [hu] at this
          simp only [XC.rel]
          exact this.1
      exact key n, rfl, rfl⟩
  exact TL.flat (own' := [(gn, .cells (List.replicate n u).toArray e (0, 0))] :: own) (List.Perm.refl _) (hh _ _ _ _ H _ ⟨rfl, rfl⟩ (by
    simp only [XV.rel, XA.rel, XC.rel]
    exact ⟨some gn, 0, Vn.new_at .., by simp⟩) f1 f2 f3 (Le.refl _))
theorem LS.iqc {t : TypeId} {o iv : Operand} {ki : IntKind} {jv : Int} {e by_ gp t0 n m e' : Nat} {c : List XC} (j : Nat)
    (ho : xev Er o = some (.a (.c (.l gp t0 1 0 n m)))) (hi : xev Er iv = some (xv (.int ki jv))) (ht : T.bt.get t = some (.sl e 1 by_)) (hj : jv = (j : Int)) (hlt : j < n) :
    LS P pk ops { dst := d, op := .indexAddr t o iv, type := ty, pos := pos, after := af, guard := none } Er [⟨gp, t0, .cells c e'⟩] nx nx (fun x fp' => x = .a (.c (.p gp t0 j)) ∧ fp' = [⟨gp, t0, .cells c e'⟩]) := by
  intro w0 N Q rest env own H V sg hl hV htp hf hd _ hh
  obtain ⟨v, h1, h2⟩ := hl.lks _ _ ho
  obtain ⟨w, h3, h4⟩ := hl.lks _ _ hi
  have := aO h4; subst this
  simp only [XV.rel, XA.rel, XC.rel] at h2
  obtain ⟨b, ex, h5, rfl⟩ := h2
  obtain ⟨z, hS⟩ := aW (BT.all_get T.ok ht)
  obtain ⟨b', us, ex', rfl, h6, h7, rfl⟩ := HRc hV
  rw [h5] at h6
  cases h6
  rw [Option.map_some, Nat.zero_mul] at h1
  refine TL.indexAddr j h1 h3 hj hlt hd (hh _ _ _ V H _ ⟨rfl, rfl⟩ ?_ hV htp (VX.refl _ _ _) (Le.refl _))
  simp only [XV.rel, XA.rel, XC.rel]
  exact ⟨b', _, h5, by simp⟩
end
section
variable {P : Program} {x : Cx P} {T : Tb P} {k : List Fr} {E Er : XE} {hp hp' : XH} {nx i : Nat} {ops : List Oper} {dm : Option (List Rc)} {l : List (Nat × Oper)} {d : Tmp} {ty : TypeId} {pos : String} {af : Array Edge} {g : Option (Nat × Bool)} {t : TypeId} {o iv y z : Operand} {ki : IntKind} {jv : Int} {e by_ gp t0 n m e' : Nat} {c : List XC}
theorem Mzc {jl : Int} {kl kc : IntKind} (n : Nat) (dz : D) (hy : xev Er y = some (xv (.int kl jl))) (hz : xev Er z = some (xv (.int kc jl))) (hEr : vis dm ops { dst := some d, op := .makeSlice t y z, type := ty, pos := pos, after := af, guard := g } E = Er) (ht : T.bt.get t = some (.sl e 1 by_)) (hb : ak ops Er g = some true ∧ okD x.N (some d) = true) (hj : jl = (n : Int)) (hbn : by_ * n ≤ 281474976710656) (hm : n ≤ 9223372036854775807) (hzero : ∀ z : Value, Sl P t e 1 by_ z → ∀ H, rdL H [dz] z.cells.toList)
    (hk : (MS.r ops (push dm ⟨i, [nx], true, false⟩) l k ⟨(d, .a (.c (.l nx 0 1 0 n n))) :: E, ⟨nx, 0, .cells (List.replicate n (.d dz)) e⟩ :: hp, nx + 1⟩).ok x) (hdk : DkM dm ops ⟨i, [nx], true, false⟩ := by first | exact trivial | (refine DK.mk ?_; decide +kernel)) : (MS.r ops dm ((i, { dst := some d, op := .makeSlice t y z, type := ty, pos := pos, after := af, guard := g }) :: l) k ⟨E, hp, nx⟩).ok x := by
  subst hEr
  have e0 : aa ([] : XH) ++ List.range' nx (nx + 1 - nx) = [nx] := by simp [aa]
  refine MS.op (fp := []) (rest := hp) true false hb.2 (.refl _) (Nat.le_succ _) (LS.yes (o := { dst := some d, op := .makeSlice t y z, type := ty, pos := pos, after := af, guard := g }) hb.1 (LS.mkc (T := T) n dz hy hz ht hj hbn hm hzero)) (by rw [e0]; exact hdk) (fun _ => ⟨_, _, ⟨rfl, rfl⟩, fun _ _ h => h⟩) (fun h => by cases h) ?_
  rintro q fp' ⟨rfl, rfl⟩
  refine ⟨fun b' hb' => .inr ?_, by simp [aa], fun h => (by cases h), _, .refl _, ?_⟩
  · obtain rfl := List.mem_singleton.1 hb'
    exact ⟨Nat.le_refl _, Nat.lt_succ_self _⟩
  · rw [e0]; exact hk
theorem Iqc (j : Nat) (ho : xev Er o = some (.a (.c (.l gp t0 1 0 n m)))) (hEr : vis dm ops { dst := some d, op := .indexAddr t o iv, type := ty, pos := pos, after := af, guard := g } E = Er) (hi : xev Er iv = some (xv (.int ki jv))) (hg : an hp gp = some ⟨gp, t0, .cells c e'⟩) (ht : T.bt.get t = some (.sl e 1 by_)) (hb : ak ops Er g = some true ∧ okD x.N (some d) = true) (hj : jv = (j : Int)) (hlt : j < n)
    (hk : (MS.r ops (push dm ⟨i, [gp], false, false⟩) l k ⟨(d, .a (.c (.p gp t0 j))) :: E, hp, nx⟩).ok x) (hdk : DkM dm ops ⟨i, [gp], false, false⟩ := by first | exact trivial | (refine DK.mk ?_; decide +kernel)) : (MS.r ops dm ((i, { dst := some d, op := .indexAddr t o iv, type := ty, pos := pos, after := af, guard := g }) :: l) k ⟨E, hp, nx⟩).ok x :=
  MS.rd1 hg hEr hb (LS.iqc (T := T) j ho hi ht hj hlt) hdk hk
theorem HR.crow {V : Vn} {H : Hp} {g t e n : Nat} {c : List XC} {ds : List D} (hds : eu c = some ds) (hn : n = ds.length) (hm : n ≤ 9223372036854775807) : ∀ {hp hp' : XH} {sg : Seg}, an hp g = some ⟨g, t, .cells c e⟩ → bc hp g t (.row n (ds.map fun d => [d]) e 1) = some hp' → HR V H hp sg → HR V H hp' sg ∧ hp'.map (fun b => (b.g, b.t)) = hp.map fun b => (b.g, b.t)
  | [], _, _, h, _, _ => by cases h
  | ⟨g', t', o'⟩ :: r, hp', sg, h, hst, ⟨s1, s2, h0, h1, h2⟩ => by
    simp only [an] at h
    simp only [bc] at hst
    cases hb : Nat.beq g' g with
    | true =>
      rw [hb] at h hst
      simp only [cond_true, Option.some.injEq, XB.mk.injEq] at h hst
      obtain ⟨rfl, rfl, rfl⟩ := h
      subst hst
      rcases h1 with ⟨b, ob, ex, k1, k2, us, k3, rfl, rfl⟩ | ⟨_, _, _, _, k3, _⟩
      · have hfl : ∀ l : List D, (l.map fun d => [d]).flatten = l := fun l => by induction l with
          | nil => rfl
          | cons a l ih => rw [List.map_cons, List.flatten_cons, ih]; rfl
        refine ⟨⟨s1, s2, h0, .inl ⟨b, _, 0, k1, k2, us, [], by rw [List.length_map]; exact hn, by rw [hfl]; exact bO hds k3, fun q hq => ?_, by simp, by simp, by simpa [maxLen] using hm, Nat.one_pos⟩, h2⟩, rfl⟩
        obtain ⟨a, _, rfl⟩ := List.mem_map.1 hq
        rfl
      · cases k3
    | false =>
      rw [hb] at h hst
      simp only [cond_false] at h hst
      split at hst
      · rename_i l hl
        cases hst
        obtain ⟨k1, k2⟩ := HR.crow hds hn hm h hl h2
        exact ⟨⟨s1, s2, h0, h1, k1⟩, by simp only [List.map_cons, k2]⟩
      · cases hst
theorem SRto.cr {g t n : Nat} {ds : List D} (g0 : Nat) (hg : an hp g0 = some ⟨g, t, .cells c e⟩) (hgg : g = g0) (hds : eu c = some ds) (hn : n = ds.length) (hset' : bc hp g0 t (.row n (ds.map fun d => [d]) e 1) = some hp') (hm : n ≤ 9223372036854775807) : SRto ⟨E, hp, nx⟩ ⟨E, hp', nx⟩ := fun B V H sg env hs => by
  subst hgg
  obtain ⟨k1, k2⟩ := HR.crow hds hn hm hg hset' hs.hr
  exact ⟨V, hs.same k1 k2⟩
def Unr (x : Cx P) (c : Code) (k : List Fr) : Nat → XS → Prop
  | 0, _ => False
  | n + 1, s => (MS.c c (.l (fun m s' => m = n ∧ Unr x c k n s') (n + 1) :: k) s).ok x
theorem MC.unr {c : Code} {s : XS} (n : Nat) (h : Unr x c k n s) : MC x (.loop c) k s := fun V H sg env hs a w ha hw => by
  refine wp_loop_ghost (fun n a w => ∃ env own H, JJ x.B (Unr x c k) n env own H ∧ At x.N env a ∧ St x.B.w0 H own w) n ⟨env, _, H, ⟨s, V, sg, h, hs, rfl⟩, ha, hw⟩ ?_
  rintro n a w ⟨env, own, H, ⟨s, V, sg, hJ, hs, rfl⟩, ha, hw⟩
  cases n with
  | zero => exact hJ.elim
  | succ n =>
    refine wp_mono ((show MC x c _ s from hJ) V H sg env hs a w ha hw) ?_
    intro e a' w' hq
    cases e with
    | normal => obtain ⟨n', env, own, H, hlt, ⟨s2, V2, sg2, ⟨rfl, hJ'⟩, hs2, rfl⟩, ha', hw'⟩ := hq; exact ⟨n', hlt, env, _, H, ⟨s2, V2, sg2, hJ', hs2, rfl⟩, ha', hw'⟩
    | exit id => exact hq
    | goto l => exact hq
    | ret => exact hq
    | panic ch => exact hq
    | outgrown => exact hq
theorem Un {c : Code} {s : XS} (n : Nat) (h : (MS.c c (.l (fun m s' => m = n ∧ Unr x c k n s') (n + 1) :: k) s).ok x) : (MS.c (.loop c) k s).ok x := MC.unr (n + 1) h
theorem Nu {c : Code} {s : XS} {k' : List Fr} {n : Nat} (h : (MS.c c (.l (fun m s' => m = n ∧ Unr x c k' n s') (n + 1) :: k') s).ok x) : (MS.e .normal (.l (fun m s' => m = n + 1 ∧ Unr x c k' (n + 1) s') (n + 2) :: k) s).ok x :=
  fun V H sg env hs a w ha hw => ⟨n + 1, env, _, H, Nat.lt_succ_self _, ⟨s, V, sg, ⟨rfl, h⟩, hs, rfl⟩, ha, hw⟩
theorem pf {E : XE} : ∀ {ls : List Nat} {acc E1 : XE}, kf E ls acc = some E1 → ELe acc E → ELe E1 E
  | [], _, _, h, ha => by cases h; exact ha
  | t :: r, acc, E1, h, ha => by
    simp only [kf] at h
    split at h
    · rename_i v hv
      refine pf h fun j u hj => ?_
      simp only [xlk] at hj
      cases hb : Nat.beq t j with
      | true => rw [hb, cond_true] at hj; cases hj; rw [← Nat.eq_of_beq_eq_true hb]; exact hv
      | false => rw [hb] at hj; exact ha j u hj
    · cases h
theorem Ks {c : Code} {E1 : XE} (ls : List Nat) (hls : kf E ls [] = some E1) (h : (MS.c c k ⟨E1, hp, nx⟩).ok x) : (MS.c c k ⟨E, hp, nx⟩).ok x :=
  fun V H sg env hs => h V H sg env (hs.le_ (pf hls fun _ _ hj => by cases hj))
theorem TL.eqlPt {w0 : World} {N : Nat} {Q : Exit → Act → World → Prop} {env : Env} {own : List Seg} {H : Hp} {ops : Array Oper} {rest : List Oper} {d : Option Tmp} {af : Array Edge} {x y : Operand} {tx t' e : TypeId} {p : Option Addr} (hu : P.underlying tx = some (.pointer e)) (hx : ev env x = some (.pointer p)) (hy : ev env y = some (.pointer none)) (hd : okD N d = true)
    (h : TL P w0 N Q ops rest (ao d (.bool p.isNone) env) own H) :
    TL P w0 N Q ops ({ dst := d, op := .binOp .eql tx x y t', type := ty, pos := pos, after := af, guard := none } :: rest) env own H :=
  Qa hd (fun a ha w => by
    have hr : ∀ d, (Op.equalIn (d + 1) tx (.pointer p) (.pointer none)).run P w = .ok p.isNone w := fun d => by
      cases p <;> simp [Op.equalIn, run_underlying hu]
    have hr2 : (Op.equal tx (.pointer p) (.pointer none)).run P w = .ok p.isNone w := hr 9999
    simp [execOp, eqGuard, binOp, ha.ev hx, ha.ev hy, hr2]) h
theorem LS.eqz {pk : Pk} {ops : Array Oper} {y : Operand} {t t' e sz by_ : Nat} {yv : XC} {b : Bool} (ht : T.bt.get t = some (.sl e sz by_)) (hy : xev Er y = some (.a (.c yv))) (hv : (b = true ∧ yv = .z) ∨ (b = false ∧ ∃ r rs, yv = .d (.s (r :: rs)))) :
    LS P pk ops { dst := some d, op := .binOp .eql t y (.const (.slice none 0 0)) t', type := ty, pos := pos, after := af, guard := none } Er [] nx nx (fun x fp' => x = xb b ∧ fp' = []) := by
  intro w0 N Q rest env own H V sg hl hV htp hf hd _ hh
  obtain ⟨u, h1, h2⟩ := hl.lks _ _ hy
  obtain ⟨z, hS⟩ := aW (BT.all_get T.ok ht)
  haveI := Und.mk hS.und
  have hh' := hh (.bool b) (xb b) _ V H sg ⟨rfl, rfl⟩ (by simp only [XV.rel, XA.rel, XC.rel, rd]; exact ⟨trivial, rfl⟩) hV htp (VX.refl _ _ _) (Le.refl _)
  simp only [XV.rel, XA.rel] at h2
  rcases hv with ⟨rfl, rfl⟩ | ⟨rfl, r, rs, rfl⟩
  · simp only [XC.rel] at h2
    subst h2
    exact TL.eqlNilB h1 rfl hd (fun _ => hh') (fun h => absurd rfl h)
  · simp only [XC.rel, rd] at h2
    obtain ⟨A, c, sz', rfl, _, _, h5⟩ := h2
    rcases h5 with h5 | ⟨b, o, rfl, _⟩
    · cases h5
    · exact TL.eqlNilB h1 rfl hd (fun h => by cases h) (fun _ => hh')
theorem Ez {t t' e sz by_ : Nat} (b : Bool) {yv : XC} (ht : T.bt.get t = some (.sl e sz by_)) (hv : (b = true ∧ yv = .z) ∨ (b = false ∧ ∃ r rs, yv = .d (.s (r :: rs)))) (hEr : vis dm ops { dst := some d, op := .binOp .eql t y (.const (.slice none 0 0)) t', type := ty, pos := pos, after := af, guard := g } E = Er) (hy : xev Er y = some (.a (.c yv))) (hb : ak ops Er g = some true ∧ okD x.N (some d) = true)
    (hk : (MS.r ops (push dm ⟨i, [], false, false⟩) l k ⟨(d, xb b) :: E, hp, nx⟩).ok x) (hdk : DkM dm ops ⟨i, [], false, false⟩ := by first | exact trivial | (refine DK.mk ?_; decide +kernel)) :
    (MS.r ops dm ((i, { dst := some d, op := .binOp .eql t y (.const (.slice none 0 0)) t', type := ty, pos := pos, after := af, guard := g }) :: l) k ⟨E, hp, nx⟩).ok x := MS.val hEr hb (LS.eqz (T := T) ht hy hv) hdk hk
theorem LS.eqp {pk : Pk} {ops : Array Oper} {y : Operand} {t t' e : Nat} {yv : XC} {b : Bool} (hu : P.underlying t = some (.pointer e)) (hy : xev Er y = some (.a (.c yv))) (hv : (b = true ∧ yv = .d (.c (.pointer none))) ∨ (b = false ∧ ((∃ g t o, yv = .p g t o) ∨ ∃ xs, yv = .d (.p xs)))) :
    LS P pk ops { dst := some d, op := .binOp .eql t y (.const (.pointer none)) t', type := ty, pos := pos, after := af, guard := none } Er [] nx nx (fun x fp' => x = xb b ∧ fp' = []) := by
  intro w0 N Q rest env own H V sg hl hV htp hf hd _ hh
  obtain ⟨u, h1, h2⟩ := hl.lks _ _ hy
  have hh' := hh (.bool b) (xb b) _ V H sg ⟨rfl, rfl⟩ (by simp only [XV.rel, XA.rel, XC.rel, rd]; exact ⟨trivial, rfl⟩) hV htp (VX.refl _ _ _) (Le.refl _)
  simp only [XV.rel, XA.rel] at h2
  rcases hv with ⟨rfl, rfl⟩ | ⟨rfl, ⟨g, t, o, rfl⟩ | ⟨xs, rfl⟩⟩
  · simp only [XC.rel, rd] at h2
    obtain ⟨rfl, _⟩ := h2
    exact TL.eqlPt hu h1 rfl hd hh'
  · simp only [XC.rel] at h2
    obtain ⟨b, ex, _, rfl⟩ := h2
    exact TL.eqlPt hu h1 rfl hd hh'
  · simp only [XC.rel, rd] at h2
    obtain ⟨b, o, rfl, _⟩ := h2
    exact TL.eqlPt hu h1 rfl hd hh'
theorem Ep {t t' e : Nat} (b : Bool) {yv : XC} (hu : P.underlying t = some (.pointer e)) (hv : (b = true ∧ yv = .d (.c (.pointer none))) ∨ (b = false ∧ ((∃ g t o, yv = .p g t o) ∨ ∃ xs, yv = .d (.p xs)))) (hEr : vis dm ops { dst := some d, op := .binOp .eql t y (.const (.pointer none)) t', type := ty, pos := pos, after := af, guard := g } E = Er) (hy : xev Er y = some (.a (.c yv))) (hb : ak ops Er g = some true ∧ okD x.N (some d) = true)
    (hk : (MS.r ops (push dm ⟨i, [], false, false⟩) l k ⟨(d, xb b) :: E, hp, nx⟩).ok x) (hdk : DkM dm ops ⟨i, [], false, false⟩ := by first | exact trivial | (refine DK.mk ?_; decide +kernel)) :
    (MS.r ops dm ((i, { dst := some d, op := .binOp .eql t y (.const (.pointer none)) t', type := ty, pos := pos, after := af, guard := g }) :: l) k ⟨E, hp, nx⟩).ok x := MS.val hEr hb (LS.eqp hu hy hv) hdk hk
theorem Ckr {f : FuncId} {args : List XV} {B F : XH} {m : Nat} {R : XV} {d : Option Tmp} {opd : Operand} {xs : List Operand} {tys : Array TypeId} {fv : XV} {us : List XV} {ps rest : XH} (gs : List Nat) (R' : XV) (X : XH) (h : XM P x.B.pk f args B m m (fun r hp' => r = R ∧ hp' = F))
    (hEr : vis dm ops { dst := d, op := .call { callee := .value opd, args := xs.toArray, argTypes := tys }, type := ty, pos := pos, after := af, guard := g } E = Er) (hfv : xev Er opd = some fv) (hfn : fnv fv = some (f, [], [])) (hus : d3 (xev Er) xs = some us) (hpk : dC gs hp = some (ps, rest))
    (hargs : cos (XVs.ren (muc gs m nx (ps.map (·.t))) args) us = XVs.ren (muc gs m nx (ps.map (·.t))) args) (hfp : ps = aZ (muc gs m nx (ps.map (·.t))) B) (hb : (ak ops Er g = some true ∧ aa ps = gs) ∧ (okD x.N d && (bT gs && gs.all (fun g => Nat.blt g nx))) = true) (hX : aZ (muc gs m nx (ps.map (·.t))) F = X) (hR : R.ren (muc gs m nx (ps.map (·.t))) = R')
    (hk : (MS.r ops (push dm ⟨i, gs, true, true⟩) l k ⟨cj d R' E, X ++ rest, nx⟩).ok x)
    (hdk : DkM dm ops ⟨i, gs, true, true⟩ := by first | exact trivial | (refine DK.mk ?_; decide +kernel)) (hrl : RlM dm ops i l := by first | exact trivial | (refine RL.mk ?_; decide +kernel)) :
    (MS.r ops dm ((i, { dst := d, op := .call { callee := .value opd, args := xs.toArray, argTypes := tys }, type := ty, pos := pos, after := af, guard := g }) :: l) k ⟨E, hp, nx⟩).ok x := by
  have e1 : gs ++ List.range' nx (m - m) = gs := by simp
  refine Cm gs h hEr hfv hfn hus hpk hargs hfp hb ?_ (by rw [e1]; exact hdk) hrl
  rintro r hp' ⟨rfl, rfl⟩
  rw [e1, hX, hR, Nat.sub_self, Nat.add_zero]
  exact hk
theorem Ckf {f : FuncId} {args : List XV} {B : XH} {m : Nat} {R : XV} {d : Option Tmp} {opd : Operand} {xs : List Operand} {tys : Array TypeId} {fv : XV} {us : List XV} {ps rest : XH} (gs : List Nat) (R' : XV) (h : XM P x.B.pk f args B m m (fun r hp' => r = R ∧ hp' = B))
    (hEr : vis dm ops { dst := d, op := .call { callee := .value opd, args := xs.toArray, argTypes := tys }, type := ty, pos := pos, after := af, guard := g } E = Er) (hfv : xev Er opd = some fv) (hfn : fnv fv = some (f, [], [])) (hus : d3 (xev Er) xs = some us) (hpk : dC gs hp = some (ps, rest))
    (hargs : cos (XVs.ren (muc gs m nx (ps.map (·.t))) args) us = XVs.ren (muc gs m nx (ps.map (·.t))) args) (hfp : ps = aZ (muc gs m nx (ps.map (·.t))) B) (hb : (ak ops Er g = some true ∧ aa ps = gs) ∧ (okD x.N d && (bT gs && gs.all (fun g => Nat.blt g nx))) = true) (hR : R.ren (muc gs m nx (ps.map (·.t))) = R')
    (hk : (MS.r ops (push dm ⟨i, gs, false, false⟩) l k ⟨cj d R' E, ps ++ rest, nx⟩).ok x)
    (hdk : DkM dm ops ⟨i, gs, false, false⟩ := by first | exact trivial | (refine DK.mk ?_; decide +kernel)) :
    (MS.r ops dm ((i, { dst := d, op := .call { callee := .value opd, args := xs.toArray, argTypes := tys }, type := ty, pos := pos, after := af, guard := g }) :: l) k ⟨E, hp, nx⟩).ok x := by
  obtain ⟨hc, hm, hcl, h3⟩ := h
  have e1 : List.range' nx (nx + (m - m) - nx) = [] := by simp
  have e0 : aa ps ++ List.range' nx (nx + (m - m) - nx) = gs := by rw [hb.1.2, e1, List.append_nil]
  have hnd : (aa ps).Nodup := by
    have h2 := hb.2
    simp only [Bool.and_eq_true] at h2
    rw [hb.1.2]
    exact dB h2.2.1
  refine MS.call gs false false h3 hEr hfv hfn hcl hus hpk (SubV.stat hargs) hfp hc ⟨hb.1, ?_⟩ (by rw [e0]; exact hdk) (fun _ r hp' h => ⟨by rw [h.2]; exact hfp.symm, by simp⟩) (fun _ => ⟨R, B, ⟨rfl, rfl⟩, fun _ _ h => h, by rw [← hfp]; exact fun b hb => .inl (List.mem_map.2 ⟨b, hb, rfl⟩), by rw [← hfp]; exact hnd⟩) (fun h => by cases h) ?_
  · have h2 := hb.2
    simp only [Bool.and_eq_true] at h2 ⊢
    exact ⟨h2.1, h2.2.1, h2.2.2, hm⟩
  · rintro r hp' ⟨rfl, rfl⟩
    rw [e0, ← hfp, Nat.sub_self, Nat.add_zero, hR]
    exact hk
end
def IsSl (n : Nat) (v : Value) : Prop := ∃ A c, v = .slice A n c
theorem iG {P : Program} (w : World) (t ty e : TypeId) (i : TypeInfo) (ht : P.underlying t = some (.slice e)) (hi : P.info? e = some i) (a : Addr) (n c : Nat) (B : Option Addr) (c' : Nat) (hnc : n ≤ c) : (Builtin.append_ #[t, t] ty #[.slice (some a) n c, .slice B 0 c']).run P w = .ok (.slice (some a) n c) w := by
  cases B <;> simp [Builtin.append_, run_underlying ht, sizeOf, typeInfo, hi, Builtin.lenOf, Builtin.firstCells, hnc, storeCells, loadCells, loadCellsFrom]
section
variable {P : Program} {pk : Pk} {T : Tb P} {Er : XE} {nx : Nat} {ops : Array Oper} {d : Option Tmp} {ty : TypeId} {pos : String} {af : Array Edge}
theorem LS.slo {t : TypeId} {o : Operand} {lo hi : Option Operand} {li ri : Option Int} {e sz by_ gp t0 n c e' m : Nat} {rows : List (List D)} (a b : Nat)
    (ho : xev Er o = some (.a (.c (.l gp t0 sz 0 n c)))) (h1 : im Er lo li) (h2 : im Er hi ri) (ht : T.bt.get t = some (.sl e sz by_)) (ha : li.getD 0 = (a : Int)) (hb : ri.getD (n : Int) = (b : Int)) (hab : a ≤ b) (hbc : b ≤ c) (hac : a < c) (hm : 0 < m) :
    LS P pk ops { dst := d, op := .slice t o lo hi none, type := ty, pos := pos, after := af, guard := none } Er [⟨gp, t0, .row m rows e' sz⟩] nx nx (fun x fp' => x = .a (.c (.l gp t0 sz a (b - a) (c - a))) ∧ fp' = [⟨gp, t0, .row m rows e' sz⟩]) := by
  intro w0 N Q rest env own H V sg hl hV htp hf hd _ hh
  obtain ⟨v, h3, h4⟩ := hl.lks _ _ ho
  simp only [XV.rel, XA.rel, XC.rel] at h4
  obtain ⟨bb, ex, h5, rfl⟩ := h4
  obtain ⟨z, hS⟩ := aW (BT.all_get T.ok ht)
  rcases HRr hV with ⟨b', us, jk, ex', _, h6, _⟩ | ⟨_, _, h6, _⟩
  · rw [h5] at h6
    cases h6
    rw [Option.map_some, Nat.zero_mul] at h3
    refine TL.slice a b h3 (fe hl h1) (fe hl h2) ha hb hab (by omega) hd (hh _ _ _ V H _ ⟨rfl, rfl⟩ ?_ hV htp (VX.refl _ _ _) (Le.refl _))
    simp only [XV.rel, XA.rel, XC.rel]
    refine ⟨some b', ex, h5, ?_⟩
    rw [if_neg (by omega), Option.map_some, Option.map_some, show c + ex - a = c - a + ex by omega]
    simp [Addr.add]
    try exact fun h => h.symm
  · omega
theorem LS.slw {t : TypeId} {o : Operand} {lo hi : Option Operand} {li ri : Option Int} {e sz by_ gp t0 n c : Nat} (a b : Nat)
    (ho : xev Er o = some (.a (.c (.l gp t0 sz 0 n c)))) (h1 : im Er lo li) (h2 : im Er hi ri) (ht : T.bt.get t = some (.sl e sz by_)) (ha : li.getD 0 = (a : Int)) (hb : ri.getD (n : Int) = (b : Int)) (hab : a ≤ b) (hbc : b ≤ c) :
    LS P pk ops { dst := d, op := .slice t o lo hi none, type := ty, pos := pos, after := af, guard := none } Er [] nx nx (fun x fp' => x = .a (.c (.w (IsSl (b - a)))) ∧ fp' = []) := by
  intro w0 N Q rest env own H V sg hl hV htp hf hd _ hh
  obtain ⟨v, h3, h4⟩ := hl.lks _ _ ho
  simp only [XV.rel, XA.rel, XC.rel] at h4
  obtain ⟨bb, ex, h5, rfl⟩ := h4
  obtain ⟨z, hS⟩ := aW (BT.all_get T.ok ht)
  refine TL.slice a b h3 (fe hl h1) (fe hl h2) ha hb hab (by omega) hd (hh _ _ _ V H _ ⟨rfl, rfl⟩ ?_ hV htp (VX.refl _ _ _) (Le.refl _))
  simp only [XV.rel, XA.rel, XC.rel]
  exact ⟨rfl, _, _, rfl⟩
theorem LS.slm {t : TypeId} {o y1 y2 y3 : Operand} {k1 k2 k3 : IntKind} {e sz by_ gp t0 n c : Nat} (a b m : Nat)
    (ho : xev Er o = some (.a (.c (.l gp t0 sz 0 n c)))) (h1 : xev Er y1 = some (xv (.int k1 a))) (h2 : xev Er y2 = some (xv (.int k2 b))) (h3 : xev Er y3 = some (xv (.int k3 m))) (ht : T.bt.get t = some (.sl e sz by_)) (hab : a ≤ b) (hbm : b ≤ m) (hmc : m ≤ c) :
    LS P pk ops { dst := d, op := .slice t o (some y1) (some y2) (some y3), type := ty, pos := pos, after := af, guard := none } Er [] nx nx (fun x fp' => x = .a (.c (.w (IsSl (b - a)))) ∧ fp' = []) := by
  intro w0 N Q rest env own H V sg hl hV htp hf hd _ hh
  obtain ⟨v, h4, h5⟩ := hl.lks _ _ ho
  obtain ⟨u1, q1, r1⟩ := hl.lks _ _ h1
  obtain ⟨u2, q2, r2⟩ := hl.lks _ _ h2
  obtain ⟨u3, q3, r3⟩ := hl.lks _ _ h3
  have := aO r1; subst this
  have := aO r2; subst this
  have := aO r3; subst this
  simp only [XV.rel, XA.rel, XC.rel] at h5
  obtain ⟨bb, ex, h6, rfl⟩ := h5
  obtain ⟨z, hS⟩ := aW (BT.all_get T.ok ht)
  obtain ⟨i, hi, _, hs, _⟩ := hS.ex
  refine Qa hd (fun ac ha w => by
    have hb : (Instr.sliceBounds true n (c + ex) (some (ac.eval y1)) (some (ac.eval y2)) (some (ac.eval y3))).run P w = .ok (a, b, m) w := by
      simp [Instr.sliceBounds, Instr.sliceBound, asIntOf, ha.ev q1, ha.ev q2, ha.ev q3, hab, hbm]
      omega
    simp [execOp, Instr.sliceAt, Instr.slice, run_underlying hS.und, ha.ev h4, hb, hS.sizeOf]) (hh (.slice (if m = a then bb.map (fun b => ⟨b, 0 * sz, none⟩) else (bb.map (fun b => (⟨b, 0 * sz, none⟩ : Addr))).map (·.add (a * sz))) (b - a) (m - a)) _ _ V H _ ⟨rfl, rfl⟩ (by
    simp only [XV.rel, XA.rel, XC.rel]
    exact ⟨rfl, _, _, rfl⟩) hV htp (VX.refl _ _ _) (Le.refl _))
theorem LS.ap0 {t : TypeId} {o y : Operand} {e sz by_ gp t0 n c e' m : Nat} {rows : List (List D)} (ho : xev Er o = some (.a (.c (.l gp t0 sz 0 n c)))) (hy : xev Er y = some (.a (.c (.w (IsSl 0))))) (ht : T.bt.get t = some (.sl e sz by_)) (hnc : n ≤ c) (hm : 0 < m) :
    LS P pk ops { dst := d, op := .call { callee := .builtin .append, args := [o, y].toArray, argTypes := [t, t].toArray }, type := ty, pos := pos, after := af, guard := none } Er [⟨gp, t0, .row m rows e' sz⟩] nx nx (fun x fp' => x = .a (.c (.l gp t0 sz 0 n c)) ∧ fp' = [⟨gp, t0, .row m rows e' sz⟩]) := by
  intro w0 N Q rest env own H V sg hl hV htp hf hd _ hh
  obtain ⟨v, h3, h4⟩ := hl.lks _ _ ho
  obtain ⟨u, q1, q2⟩ := hl.lks _ _ hy
  simp only [XV.rel, XA.rel, XC.rel] at h4 q2
  obtain ⟨bb, ex, h5, rfl⟩ := h4
  obtain ⟨_, A, c', rfl⟩ := q2
  obtain ⟨z, hS⟩ := aW (BT.all_get T.ok ht)
  obtain ⟨i, hi, _, _, _⟩ := hS.ex
  rcases HRr hV with ⟨b', us, jk, ex', _, h6, _⟩ | ⟨_, _, h6, _⟩
  · rw [h5] at h6
    cases h6
    have hr := fun w => iG (P := P) w t ty e i hS.und hi ⟨b', 0 * sz, none⟩ n (c + ex) A c' (by omega)
    refine Qa hd (fun ac ha w => by
      have e1 := ha.ev h3
      have e2 := ha.ev q1
      have e3 := hr w
      simp only [execOp, resolve, invoke, builtin, List.map_toArray, List.map_cons, List.map_nil, e1, e2, Sem.run_bind, Sem.run_pure, Option.map_some, e3, Result.andThen_ok]) (hh (.slice (some ⟨b', 0 * sz, none⟩) n (c + ex)) _ _ V H _ ⟨rfl, rfl⟩ (by
      simp only [XV.rel, XA.rel, XC.rel]
      exact ⟨some b', ex, h5, rfl⟩) hV htp (VX.refl _ _ _) (Le.refl _))
  · omega
theorem LS.clr {t : TypeId} {o : Operand} {e sz by_ gp t0 k e' m a : Nat} {rows : List (List D)} {r dz : List D} (hr : rows[a]? = some r) (ho : xev Er o = some (.a (.c (.l gp t0 sz a 1 k)))) (ht : T.bt.get t = some (.sl e sz by_)) (hzero : ∀ z : Value, Sl P t e sz by_ z → ∀ H, rdL H dz z.cells.toList) :
    LS P pk ops { dst := d, op := .call { callee := .builtin .clear, args := [o].toArray, argTypes := [t].toArray }, type := ty, pos := pos, after := af, guard := none } Er [⟨gp, t0, .row m rows e' sz⟩] nx nx (fun x fp' => x = .t [] ∧ fp' = [⟨gp, t0, .row m (rows.set a dz) e' sz⟩]) := by
  intro w0 N Q rest env own H V sg hl hV htp hf hd _ hh
  obtain ⟨v, h1, h2⟩ := hl.lks _ _ ho
  simp only [XV.rel, XA.rel, XC.rel] at h2
  obtain ⟨b, ex, h5, rfl⟩ := h2
  obtain ⟨z, hS⟩ := aW (BT.all_get T.ok ht)
  have hzc := hzero z hS
  have hzl : z.cells.toList.length = sz := by simpa using hS.zs
  have hz1 : (Builtin.zeroCells z.cells 1).toList = z.cells.toList := by
    simp only [Builtin.zeroCells, Nat.one_mul, Array.toList_map, Array.toList_range]
    refine List.ext_getElem (by simp) fun q hq1 hq2 => ?_
    have hq : q < z.cells.size := by simpa using hq2
    simp [Nat.mod_eq_of_lt hq, hq]
  rcases HRr hV with ⟨b', us, jk, ex', rfl, h6, h7, h8, h9, q1, q2, q3⟩ | ⟨_, _, _, h6⟩
  · rw [h5] at h6
    cases h6
    obtain ⟨v1, vs, v2, rfl, k1, k2, k3, k4, k5⟩ := nl h8 h9 hr
    have hput : bS ((v1 ++ (vs ++ v2)) ++ jk).toArray (a * sz) z.cells.toList = ((v1 ++ (z.cells.toList ++ v2)) ++ jk).toArray := by
      rw [← Array.toList_inj, gk _ _ _ (by simp only [List.size_toArray, List.length_append]; omega)]
      have e1 : ((v1 ++ (vs ++ v2)) ++ jk) = v1 ++ (vs ++ (v2 ++ jk)) := by simp
      simp only [e1]
      rw [List.take_append_of_le_length (by omega), List.take_of_length_le (by omega), List.drop_append, List.drop_of_length_le (l := v1) (by omega)]
      rw [show a * sz + z.cells.toList.length - v1.length = vs.length by omega, List.drop_append, List.drop_of_length_le (Nat.le_refl _)]
      simp
    have hjl : a < rows.length := (List.getElem?_eq_some_iff.1 hr).1
    have hfl : (rows.set a dz).flatten = (rows.take a).flatten ++ (dz ++ (rows.drop (a + 1)).flatten) := by
      rw [List.set_eq_take_append_cons_drop, if_pos hjl, List.flatten_append, List.flatten_cons]
    rw [Option.map_some] at h1
    refine TL.clear 0 0 h1 rfl rfl Nat.one_pos (by rw [hz1]; exact (hzc H).ones) (by rw [hz1]; simp only [List.size_toArray, List.length_append]; omega) hd ?_
    rw [hz1, hput]
    refine hh (.tuple #[]) (.t []) _ V H _ ⟨rfl, rfl⟩ ⟨_, rfl, trivial⟩ (HR.one (.inl ⟨_, _, ex, rfl, h5, _, jk, ?_, ?_, ?_, rfl, q1, q2, q3⟩)) ?_ (VX.refl _ _ _) (Le.refl _)
    · rw [List.length_set]; exact h7
    · rw [hfl]
      exact rdL.append k4 (rdL.append (hzc H) k5)
    · intro q hq
      rcases List.mem_or_eq_of_mem_set hq with hq | rfl
      · exact h9 q hq
      · rw [(hzc H).len, hzl]
    · intro y hy' t hlt
      obtain rfl := List.mem_singleton.1 hy'
      exact htp _ (List.mem_singleton.2 rfl) t hlt
  · subst h6; simp at hr
end
section
variable {P : Program} {x : Cx P} {T : Tb P} {k : List Fr} {E Er : XE} {hp hp' : XH} {nx i : Nat} {ops : List Oper} {dm : Option (List Rc)} {l : List (Nat × Oper)} {d : Tmp} {dd : Option Tmp} {ty : TypeId} {pos : String} {af : Array Edge} {g : Option (Nat × Bool)} {t : TypeId} {o y y1 y2 y3 : Operand} {e sz by_ gp t0 n c e' m : Nat} {rows : List (List D)}
theorem Slo {lo hi : Option Operand} {li ri : Option Int} (a b : Nat) (h1 : im Er lo li) (h2 : im Er hi ri) (ho : xev Er o = some (.a (.c (.l gp t0 sz 0 n c)))) (hEr : vis dm ops { dst := some d, op := .slice t o lo hi none, type := ty, pos := pos, after := af, guard := g } E = Er) (hg : an hp gp = some ⟨gp, t0, .row m rows e' sz⟩) (ht : T.bt.get t = some (.sl e sz by_)) (hb : ak ops Er g = some true ∧ okD x.N (some d) = true) (ha : li.getD 0 = (a : Int)) (hbn : ri.getD (n : Int) = (b : Int)) (hab : a ≤ b) (hbc : b ≤ c) (hac : a < c) (hm : 0 < m)
    (hk : (MS.r ops (push dm ⟨i, [gp], false, false⟩) l k ⟨(d, .a (.c (.l gp t0 sz a (b - a) (c - a)))) :: E, hp, nx⟩).ok x) (hdk : DkM dm ops ⟨i, [gp], false, false⟩ := by first | exact trivial | (refine DK.mk ?_; decide +kernel)) :
    (MS.r ops dm ((i, { dst := some d, op := .slice t o lo hi none, type := ty, pos := pos, after := af, guard := g }) :: l) k ⟨E, hp, nx⟩).ok x := MS.rd1 hg hEr hb (LS.slo (T := T) a b ho h1 h2 ht ha hbn hab hbc hac hm) hdk hk
theorem Slw {lo hi : Option Operand} {li ri : Option Int} (a b : Nat) (h1 : im Er lo li) (h2 : im Er hi ri) (ho : xev Er o = some (.a (.c (.l gp t0 sz 0 n c)))) (hEr : vis dm ops { dst := some d, op := .slice t o lo hi none, type := ty, pos := pos, after := af, guard := g } E = Er) (ht : T.bt.get t = some (.sl e sz by_)) (hb : ak ops Er g = some true ∧ okD x.N (some d) = true) (ha : li.getD 0 = (a : Int)) (hbn : ri.getD (n : Int) = (b : Int)) (hab : a ≤ b) (hbc : b ≤ c)
    (hk : (MS.r ops (push dm ⟨i, [], false, false⟩) l k ⟨(d, .a (.c (.w (IsSl (b - a))))) :: E, hp, nx⟩).ok x) (hdk : DkM dm ops ⟨i, [], false, false⟩ := by first | exact trivial | (refine DK.mk ?_; decide +kernel)) :
    (MS.r ops dm ((i, { dst := some d, op := .slice t o lo hi none, type := ty, pos := pos, after := af, guard := g }) :: l) k ⟨E, hp, nx⟩).ok x := MS.val hEr hb (LS.slw (T := T) a b ho h1 h2 ht ha hbn hab hbc) hdk hk
theorem Slm {k1 k2 k3 : IntKind} (a b m : Nat) (ho : xev Er o = some (.a (.c (.l gp t0 sz 0 n c)))) (h1 : xev Er y1 = some (xv (.int k1 a))) (h2 : xev Er y2 = some (xv (.int k2 b))) (h3 : xev Er y3 = some (xv (.int k3 m))) (hEr : vis dm ops { dst := some d, op := .slice t o (some y1) (some y2) (some y3), type := ty, pos := pos, after := af, guard := g } E = Er) (ht : T.bt.get t = some (.sl e sz by_)) (hb : ak ops Er g = some true ∧ okD x.N (some d) = true) (hab : a ≤ b) (hbm : b ≤ m) (hmc : m ≤ c)
    (hk : (MS.r ops (push dm ⟨i, [], false, false⟩) l k ⟨(d, .a (.c (.w (IsSl (b - a))))) :: E, hp, nx⟩).ok x) (hdk : DkM dm ops ⟨i, [], false, false⟩ := by first | exact trivial | (refine DK.mk ?_; decide +kernel)) :
    (MS.r ops dm ((i, { dst := some d, op := .slice t o (some y1) (some y2) (some y3), type := ty, pos := pos, after := af, guard := g }) :: l) k ⟨E, hp, nx⟩).ok x := MS.val hEr hb (LS.slm (T := T) a b m ho h1 h2 h3 ht hab hbm hmc) hdk hk
theorem Ap0 (ho : xev Er o = some (.a (.c (.l gp t0 sz 0 n c)))) (hy : xev Er y = some (.a (.c (.w (IsSl 0))))) (hEr : vis dm ops { dst := some d, op := .call { callee := .builtin .append, args := [o, y].toArray, argTypes := [t, t].toArray }, type := ty, pos := pos, after := af, guard := g } E = Er) (hg : an hp gp = some ⟨gp, t0, .row m rows e' sz⟩) (ht : T.bt.get t = some (.sl e sz by_)) (hb : ak ops Er g = some true ∧ okD x.N (some d) = true) (hnc : n ≤ c) (hm : 0 < m)
    (hk : (MS.r ops (push dm ⟨i, [gp], false, false⟩) l k ⟨(d, .a (.c (.l gp t0 sz 0 n c))) :: E, hp, nx⟩).ok x) (hdk : DkM dm ops ⟨i, [gp], false, false⟩ := by first | exact trivial | (refine DK.mk ?_; decide +kernel)) :
    (MS.r ops dm ((i, { dst := some d, op := .call { callee := .builtin .append, args := [o, y].toArray, argTypes := [t, t].toArray }, type := ty, pos := pos, after := af, guard := g }) :: l) k ⟨E, hp, nx⟩).ok x := MS.rd1 hg hEr hb (LS.ap0 (T := T) ho hy ht hnc hm) hdk hk
theorem Cl1 {a k' : Nat} {r dz : List D} (hr : rows[a]? = some r) (hzero : ∀ z : Value, Sl P t e sz by_ z → ∀ H, rdL H dz z.cells.toList) (ho : xev Er o = some (.a (.c (.l gp t0 sz a 1 k')))) (hEr : vis dm ops { dst := dd, op := .call { callee := .builtin .clear, args := [o].toArray, argTypes := [t].toArray }, type := ty, pos := pos, after := af, guard := g } E = Er) (hg : an hp gp = some ⟨gp, t0, .row m rows e' sz⟩) (hset' : bc hp gp t0 (.row m (rows.set a dz) e' sz) = some hp') (ht : T.bt.get t = some (.sl e sz by_)) (hb : ak ops Er g = some true ∧ okD x.N dd = true)
    (hk : (MS.r ops (push dm ⟨i, [gp], true, false⟩) l k ⟨cj dd (.t []) E, hp', nx⟩).ok x) (hdk : DkM dm ops ⟨i, [gp], true, false⟩ := by first | exact trivial | (refine DK.mk ?_; decide +kernel)) :
    (MS.r ops dm ((i, { dst := dd, op := .call { callee := .builtin .clear, args := [o].toArray, argTypes := [t].toArray }, type := ty, pos := pos, after := af, guard := g }) :: l) k ⟨E, hp, nx⟩).ok x := MS.wr1 hg hset' hEr hb (LS.clr (T := T) hr ho ht hzero) hdk hk
end
section
open Go Go.RowKit Go.Proofs K
variable {pk : Pk}
theorem zero22 (z : Value) (hz : Sl Tryz.prog 170 22 1 24 z) (H : Hp) : rdL H [.s []] z.cells.toList := by
  obtain ⟨i, hi, hz1, _⟩ := hz.ex
  obtain ⟨inf, zv, hi2, hz2, hc⟩ := cX (BT.all_get T.ok (i := 22) (v := .sl 3 1 8) rfl)
  rw [hi2] at hi; cases hi
  rw [hz2] at hz1; cases hz1
  have h9 := hc (fun _ _ => none) H
  revert h9
  generalize z.cells.toList = us
  intro h9
  match us, h9 with
  | [u], h9 =>
    have h8 : u = .slice none 0 0 := h9.1
    subst h8
    exact ⟨by simp only [rd]; exact ⟨none, 0, 1, rfl, Nat.le_refl _, by decide, .inl trivial⟩, trivial⟩
theorem zero3' (z : Value) (hz : Sl Tryz.prog 22 3 1 8 z) (H : Hp) : rdL H [.c (.int .i64 0)] z.cells.toList := by
  obtain ⟨i, hi, hz1, _⟩ := hz.ex
  obtain ⟨inf, zv, hi2, hz2, hc⟩ := cX (BT.all_get T.ok (i := 3) (v := .i .i64) rfl)
  rw [hi2] at hi; cases hi
  rw [hz2] at hz1; cases hz1
  have h9 := hc (fun _ _ => none) H
  revert h9
  generalize z.cells.toList = us
  intro h9
  match us, h9 with
  | [u], h9 => exact ⟨by have h8 : XC.rel (fun _ _ => none) H (.d (.c (.int .i64 0))) u := h9.1; simpa only [XC.rel] using h8, trivial⟩
theorem table_1 {S : List Tr} {QM : Obj → Prop} {la : ByteArray} {n : Int} {r : List D} : XM Tryz.prog pk 94 [.a (.c (.p 0 0 0)), xr [[.p (.c (.string la) :: .c (.int .i64 n) :: .c (.int .i64 1) :: r)]], xr []] (dfB S QM) 3 3 (fun r hp' => r = xr [[.s [[.c (.int .i64 1)]]], [.s [[.c (.int .i64 0)]]]] ∧ hp' = dfB S QM) := by
  have hl1 : ([[D.p (.c (.string la) :: .c (.int .i64 n) :: .c (.int .i64 1) :: r)]] : List (List D)).length = 1 := rfl
  have hl0 : ([] : List (List D)).length = 0 := rfl
  refine XM.en Tryz.func94 Tryz.ntmps94 (fun w0 own H V v0 hf => ?_)
  refine G (T := T) 1000 rfl ?_
  refine Mzc (T := T) 2 (.s []) rfl rfl rfl rfl ⟨rfl, rfl⟩ rfl (by decide) (by decide) zero22 ?_
  refine G (T := T) 1000 rfl ?_
  refine Un 2 ?_
  refine G (T := T) 1000 rfl ?_
  refine IfT rfl rfl ?_
  refine G (T := T) 1000 rfl ?_
  refine Mz (T := T) 1 [.c (.int .i64 0)] rfl rfl rfl rfl ⟨rfl, rfl⟩ rfl (by decide) (by decide) zero3' ?_
  refine G (T := T) 1000 rfl ?_
  refine Iqc (T := T) 1 rfl rfl rfl rfl rfl ⟨rfl, rfl⟩ rfl (by decide) ?_
  refine G (T := T) 1000 rfl ?_
  refine Un 1 ?_
  refine G (T := T) 1000 rfl ?_
  refine IfT rfl rfl ?_
  refine G (T := T) 1000 rfl ?_
  refine IfT rfl rfl ?_
  refine G (T := T) 1000 rfl ?_
  refine Nu ?_
  refine G (T := T) 1000 rfl ?_
  refine IfF rfl rfl ?_
  refine G (T := T) 1000 rfl ?_
  refine MS.fze 4 rfl ?_ (by repeat' (first | exact trivial | apply And.intro | rfl))
  refine Nu ?_
  refine Ks [0, 1, 2, 7, 8] rfl ?_
  refine G (T := T) 1000 rfl ?_
  refine IfT rfl rfl ?_
  refine G (T := T) 1000 rfl ?_
  refine Mz (T := T) 1 [.c (.int .i64 0)] rfl rfl rfl rfl ⟨rfl, rfl⟩ rfl (by decide) (by decide) zero3' ?_
  refine G (T := T) 1000 rfl ?_
  refine Iqc (T := T) 0 rfl rfl rfl rfl rfl ⟨rfl, rfl⟩ rfl (by decide) ?_
  refine G (T := T) 1000 rfl ?_
  refine Un 1 ?_
  refine G (T := T) 1000 rfl ?_
  refine IfT rfl rfl ?_
  refine G (T := T) 1000 rfl ?_
  refine IfF rfl rfl ?_
  refine G (T := T) 1000 rfl ?_
  refine IfF rfl rfl ?_
  refine G (T := T) 1000 rfl ?_
  refine IfT rfl rfl ?_
  refine G (T := T) 1000 rfl ?_
  refine Iqc (T := T) 0 rfl rfl rfl rfl rfl ⟨rfl, rfl⟩ rfl (by decide) ?_
  refine G (T := T) 1000 rfl ?_
  refine Iqc (T := T) 1 rfl rfl rfl rfl rfl ⟨rfl, rfl⟩ rfl (by decide) ?_
  refine G (T := T) 1000 rfl ?_
  refine Ix (T := T) 0 rfl rfl rfl rfl rfl ⟨rfl, rfl⟩ rfl rfl ?_
  refine G (T := T) 1000 rfl ?_
  refine Ix (T := T) 0 rfl rfl rfl rfl rfl ⟨rfl, rfl⟩ rfl rfl ?_
  refine G (T := T) 1000 rfl ?_
  refine Iq (T := T) 0 rfl rfl rfl rfl rfl ⟨rfl, rfl⟩ rfl (by decide) rfl ?_
  refine G (T := T) 1000 rfl ?_
  refine Sr (T := T) rfl rfl rfl rfl rfl rfl rfl rfl ⟨rfl, rfl⟩ rfl rfl ?_
  refine G (T := T) 1000 rfl ?_
  refine Nu ?_
  refine G (T := T) 1000 rfl ?_
  refine IfF rfl rfl ?_
  refine G (T := T) 1000 rfl ?_
  refine MS.fze 5 rfl ?_ (by repeat' (first | exact trivial | apply And.intro | rfl))
  refine Nu ?_
  refine Ks [0, 1, 2, 7, 8] rfl ?_
  refine G (T := T) 1000 rfl ?_
  refine IfF rfl rfl ?_
  refine G (T := T) 1000 rfl ?_
  refine (SRto.cr 3 rfl rfl rfl rfl rfl (by decide)).e ?_
  refine MS.fze 3 rfl ?_ (by repeat' (first | exact trivial | apply And.intro | rfl))
  exact Fm (T := T) id _ _ ⟨rfl, rfl⟩ rfl ⟨⟨_, _, rfl, rfl⟩, rfl, rfl⟩
end
section
open Go Go.RowKit Go.Proofs K
variable {pk : Pk}
theorem clone_f : ∀ (n : Nat) (t : Tr), t.size ≤ n → lbO t → XQ Tryz.prog pk 42 [xd (trd t)] (xd (trd t)) := by
  intro n
  induction n with
  | zero => intro t h; have := t.size_pos; omega
  | succ n ih =>
    rintro ⟨l, ks⟩ hn hl
    have hkl := hl.2.1
    rw [ba]
    refine XQ.en Tryz.func42 Tryz.ntmps42 (fun w0 own H V v0 hf => ?_)
    refine Gs (T := T) 100001 rfl ?_
    refine (FzTo.bz 0 rfl).c ?_
    refine G (T := T) 100002 rfl ?_
    refine (Nrh 2 1 35 2 rfl rfl rfl rfl rfl).c ?_
    refine G (T := T) 1000 rfl ?_
    refine Lq [2, 3, 10, 11] (fun (q : Nat × List (List D)) r => (12, xi (q.1 : Nat)) :: r) (fun q => [⟨1, 0, .cells [.d (.c (.string ⟨#[]⟩)), .z] 35⟩, ⟨2, 0, .cells [.d (.c (.string l)), .l 3 0 2 0 q.1 q.1] 35⟩, ⟨3, 0, .row q.1 q.2 35 2⟩]) 4 (fun q => q.1 ≤ ks.length ∧ q.2 = aP (ks.take q.1)) (fun q => ks.length - q.1) (0, []) rfl ⟨Nat.zero_le _, rfl⟩ ?_
    rintro ⟨j, R⟩ ⟨hj, hR⟩; dsimp only at hj hR ⊢
    refine G (T := T) 1000 rfl ?_
    refine If rfl (fun h => ?_) (fun h => ?_)
    · have hjl := of_decide_eq_true h; rw [List.length_map] at hjl
      obtain ⟨y, hy⟩ := ah (l := ks) (j := j) (by omega)
      refine G (T := T) 1000 rfl ?_
      refine Ix (T := T) j (ab hy) rfl rfl rfl rfl ⟨rfl, rfl⟩ rfl rfl ?_
      refine G (T := T) 1000 rfl ?_
      refine Cq (ih y (Tr.size_kid (List.mem_of_getElem? hy) hn) (aH hl.2.2 (List.mem_of_getElem? hy))) rfl rfl rfl rfl rfl ⟨rfl, rfl⟩ ?_
      refine G (T := T) 1000 rfl ?_
      refine Nq (j + 1, R ++ [trd y]) ⟨by omega, by dsimp only; rw [hR]; exact (cz trd hy).symm⟩ (by show _ - (j + 1) < _ - j; omega)
    · have hjl := of_decide_eq_false h; rw [List.length_map] at hjl
      rw [List.take_of_length_le (by omega)] at hR; subst hR
      refine G (T := T) 1000 rfl ?_
      refine MS.fze 3 rfl ?_ (by repeat' (first | exact trivial | apply And.intro | rfl))
      exact Fq (T := T) rfl rfl
theorem lg {t : Tr} (hl : lbO t) : XQ Tryz.prog pk 42 [xd (trd t)] (xd (trd t)) := clone_f t.size t (Nat.le_refl _) hl
theorem clone_own {l : ByteArray} {ks : List Tr} (hl : lbO (.node l ks)) : XM Tryz.prog pk 42 [xd (trd (.node l ks))] [] 0 1 (fun r hp' => ∃ _ : Unit, True ∧ r = .a (.a [.d (.c (.string l)), .l 0 0 2 0 ks.length ks.length]) ∧ hp' = [⟨0, 0, .row ks.length (aP ks) 35 2⟩]) := by
  have hkl := hl.2.1
  rw [ba]
  refine XM.en Tryz.func42 Tryz.ntmps42 (fun w0 own H V v0 hf => ?_)
  refine Gs (T := T) 100001 rfl ?_
  refine (FzTo.bz 0 rfl).c ?_
  refine G (T := T) 100002 rfl ?_
  refine (Nrh 2 1 35 2 rfl rfl rfl rfl rfl).c ?_
  refine G (T := T) 1000 rfl ?_
  refine Lq [2, 3, 10, 11] (fun (q : Nat × List (List D)) r => (12, xi (q.1 : Nat)) :: r) (fun q => [⟨1, 0, .cells [.d (.c (.string ⟨#[]⟩)), .z] 35⟩, ⟨2, 0, .cells [.d (.c (.string l)), .l 3 0 2 0 q.1 q.1] 35⟩, ⟨3, 0, .row q.1 q.2 35 2⟩]) 4 (fun q => q.1 ≤ ks.length ∧ q.2 = aP (ks.take q.1)) (fun q => ks.length - q.1) (0, []) rfl ⟨Nat.zero_le _, rfl⟩ ?_
  rintro ⟨j, R⟩ ⟨hj, hR⟩; dsimp only at hj hR ⊢
  refine G (T := T) 1000 rfl ?_
  refine If rfl (fun h => ?_) (fun h => ?_)
  · have hjl := of_decide_eq_true h; rw [List.length_map] at hjl
    obtain ⟨y, hy⟩ := ah (l := ks) (j := j) (by omega)
    refine G (T := T) 1000 rfl ?_
    refine Ix (T := T) j (ab hy) rfl rfl rfl rfl ⟨rfl, rfl⟩ rfl rfl ?_
    refine G (T := T) 1000 rfl ?_
    refine Cq (lg (aH hl.2.2 (List.mem_of_getElem? hy))) rfl rfl rfl rfl rfl ⟨rfl, rfl⟩ ?_
    refine G (T := T) 1000 rfl ?_
    refine Nq (j + 1, R ++ [trd y]) ⟨by omega, by dsimp only; rw [hR]; exact (cz trd hy).symm⟩ (by show _ - (j + 1) < _ - j; omega)
  · have hjl := of_decide_eq_false h; rw [List.length_map] at hjl
    obtain rfl : j = ks.length := by omega
    rw [List.take_length] at hR; subst hR
    refine G (T := T) 1000 rfl ?_
    exact Fm (T := T) (fun _ => 3) _ _ ⟨(), trivial, rfl, rfl⟩ rfl ⟨⟨_, _, rfl, rfl⟩, rfl, rfl⟩
theorem mC : XQ Tryz.prog pk 92 [.a (.c .z)] (.a (.c .z)) := by
  refine XQ.en Tryz.func92 Tryz.ntmps92 (fun w0 own H V v0 hf => ?_)
  refine G (T := T) 1000 rfl ?_
  refine Ez (T := T) true rfl (.inl ⟨rfl, rfl⟩) rfl rfl ⟨rfl, rfl⟩ ?_
  refine G (T := T) 1000 rfl ?_
  refine IfT rfl rfl ?_
  refine G (T := T) 1000 rfl ?_
  exact Fq (T := T) rfl rfl
theorem clone_q {r : List D} {rs : List (List D)} (hl : (r :: rs).length ≤ 1000000) (h1 : ∀ q ∈ r :: rs, q.length = 1) : XQ Tryz.prog pk 92 [xr (r :: rs)] (xr (r :: rs)) := by
  refine XQ.en Tryz.func92 Tryz.ntmps92 (fun w0 own H V v0 hf => ?_)
  refine G (T := T) 1000 rfl ?_
  refine Ez (T := T) false rfl (.inr ⟨rfl, _, _, rfl⟩) rfl rfl ⟨rfl, rfl⟩ ?_
  refine G (T := T) 1000 rfl ?_
  refine IfF rfl rfl ?_
  refine G (T := T) 5 rfl ?_
  refine Br (T := T) rfl rfl rfl rfl rfl ⟨rfl, rfl⟩ ?_
  refine G (T := T) 7 rfl ?_
  refine Ap (T := T) rfl h1 rfl rfl rfl rfl rfl rfl ⟨rfl, rfl⟩ (by omega) (by omega) ?_
  refine G (T := T) 1000 rfl ?_
  refine MS.fze 0 rfl ?_ (by repeat' (first | exact trivial | apply And.intro | rfl))
  exact Fq (T := T) rfl rfl
theorem edits_3 {S : List Tr} {QM : Obj → Prop} {la lb : ByteArray} {n m : Int} {r : List D} {c d : D} {t : Tr} (hn : n ≠ m) (hab : la ≠ lb) (ht : lbO t) :
    XM Tryz.prog pk 40 [.a (.c (.p 0 0 0)), .a (.c (.d (.p (.c (.string la) :: .c (.int .i64 n) :: r)))), .a (.c (.d (.p (.c (.string lb) :: .c (.int .i64 m) :: c :: d :: trd t)))), .a (.c .z), .a (.c .z)] (dfB S QM) 3 3 (fun r hp' => r = xr [.c (.int .i64 3) :: .s [] :: trd t] ∧ hp' = dfB S QM) := by
  obtain ⟨l, ks⟩ := t
  have hcl := lg (pk := pk) ht
  rw [ba] at hcl ⊢
  refine XM.en Tryz.func40 Tryz.ntmps40 (fun w0 own H V v0 hf => ?_)
  refine G (T := T) 1000 rfl ?_
  refine IfF rfl (decide_eq_false hn) ?_
  refine G (T := T) 1000 rfl ?_
  refine IfT rfl (by simpa using hab) ?_
  refine (Nr 4 73 4 rfl rfl).c ?_
  refine G (T := T) 1000 rfl ?_
  refine Cq mC rfl rfl rfl rfl rfl ⟨rfl, rfl⟩ ?_
  refine G (T := T) 1000 rfl ?_
  refine Cq hcl rfl rfl rfl rfl rfl ⟨rfl, rfl⟩ ?_
  refine G (T := T) 1000 rfl ?_
  refine MS.fze 3 rfl ?_ (by repeat' (first | exact trivial | apply And.intro | rfl))
  exact Fm (T := T) id _ _ ⟨rfl, rfl⟩ rfl ⟨⟨_, _, rfl, rfl⟩, rfl, rfl⟩
end
section
open Go Go.RowKit Go.Proofs K
variable {pk : Pk}
abbrev lA : ByteArray := ⟨#[97]⟩
abbrev lB : ByteArray := ⟨#[98]⟩
abbrev lX : ByteArray := ⟨#[120]⟩
abbrev lY : ByteArray := ⟨#[121]⟩
abbrev uA : Tr := .node lA []
abbrev uB : Tr := .node lB []
abbrev uXab : Tr := .node lX [uA, uB]
abbrev uXb : Tr := .node lX [uB]
abbrev uXa : Tr := .node lX [uA]
abbrev uYa : Tr := .node lY [uA]
abbrev dT (l : ByteArray) (n : Int) : List D := [.c (.string l), .c (.int .i64 n), .c (.int .i64 1), .s [], .c (.string l), .s []]
theorem edits_2 {S : List Tr} {QM : Obj → Prop} {n m : Int} {q1 q2 : D} {r1 r2 : List D} (hn : n ≠ m) (hS : ∀ x ∈ [uA, uB], x ∈ S) (ha : szD S uA = dT lA 0) (hb : szD S uB = dT lB 1) :
    XM Tryz.prog pk 40 [.a (.c (.p 0 0 0)), .a (.c (.d (.p (.c (.string lX) :: .c (.int .i64 n) :: q1 :: .s [[.p (dT lA 0)], [.p (dT lB 1)]] :: r1)))), .a (.c (.d (.p (.c (.string lX) :: .c (.int .i64 m) :: q2 :: .s [[.p (dT lB 1)]] :: r2)))), .a (.c .z), .a (.c .z)] (dfB S QM) 3 3 (fun r hp' => r = xr [[.c (.int .i64 2), .s [[.c (.int .i64 0)]], .c (.string ⟨#[]⟩), .s []]] ∧ hp' = dfB S QM) := by
  have ht := trim_f (pk := pk) (S := S) (a := [uA, uB]) (b := [uB]) (by decide) (by decide) hS (fun x hx => hS x (by simp only [List.mem_cons] at hx ⊢; exact .inr hx))
  rw [show fro [uA, uB] [uB] = 0 by decide +kernel, show bak 0 [uA, uB] [uB] = 1 by decide +kernel] at ht
  simp only [List.map_cons, List.map_nil, szp, ha, hb] at ht
  have hl2 : ([[D.p (dT lA 0)], [D.p (dT lB 1)]] : List (List D)).length = 2 := rfl
  have hl1 : ([[D.p (dT lB 1)]] : List (List D)).length = 1 := rfl
  have hla : ([[D.p (dT lA 0)]] : List (List D)).length = 1 := rfl
  have hl0 : ([] : List (List D)).length = 0 := rfl
  refine XM.en Tryz.func40 Tryz.ntmps40 (fun w0 own H V v0 hf => ?_)
  refine G (T := T) 1000 rfl ?_
  refine IfF rfl (decide_eq_false hn) ?_
  refine G (T := T) 1000 rfl ?_
  refine IfF rfl rfl ?_
  refine G (T := T) 1000 rfl ?_
  refine Cq ht rfl rfl rfl rfl rfl ⟨rfl, rfl⟩ ?_
  refine G (T := T) 1000 rfl ?_
  refine Sd (T := T) 0 1 ⟨_, _, rfl, rfl⟩ ⟨_, _, rfl, rfl⟩ rfl rfl rfl ⟨rfl, rfl⟩ rfl rfl (by decide) (by decide) (by intro r hr; simp only [List.mem_cons, List.not_mem_nil, or_false] at hr; rcases hr with rfl | rfl <;> rfl) ?_
  rw [show List.take (1 - 0) (List.drop 0 [[D.p (dT lA 0)], [D.p (dT lB 1)]]) = [[D.p (dT lA 0)]] from rfl]
  refine G (T := T) 1000 rfl ?_
  refine Sd (T := T) 0 0 ⟨_, _, rfl, rfl⟩ ⟨_, _, rfl, rfl⟩ rfl rfl rfl ⟨rfl, rfl⟩ rfl rfl (by decide) (by decide) (by intro r hr; simp only [List.mem_cons, List.not_mem_nil, or_false] at hr; subst hr; rfl) ?_
  rw [show List.take (0 - 0) (List.drop 0 [[D.p (dT lB 1)]]) = [] from rfl]
  refine G (T := T) 1000 rfl ?_
  refine Ckz [0, 1, 2] (dfB S QM) table_1 rfl rfl rfl rfl rfl rfl rfl ⟨⟨rfl, rfl⟩, rfl⟩ rfl rfl ?_
  refine G (T := T) 1000 rfl ?_
  refine Un 1 ?_
  refine G (T := T) 1000 rfl ?_
  refine IfT rfl rfl ?_
  refine G (T := T) 105 rfl ?_
  refine Cq mC rfl rfl rfl rfl rfl ⟨rfl, rfl⟩ ?_
  refine (Nr 104 3 1 rfl rfl).r ?_
  refine G (T := T) 1000 rfl ?_
  refine MS.fzc 3 rfl ?_ (by repeat' (first | exact trivial | apply And.intro | rfl))
  refine IfF rfl rfl ?_
  refine G (T := T) 1000 rfl ?_
  refine Ix (T := T) 0 rfl rfl rfl rfl rfl ⟨rfl, rfl⟩ rfl rfl ?_
  refine G (T := T) 1000 rfl ?_
  refine Ix (T := T) 0 rfl rfl rfl rfl rfl ⟨rfl, rfl⟩ rfl rfl ?_
  refine G (T := T) 1000 rfl ?_
  refine Ix (T := T) 1 rfl rfl rfl rfl rfl ⟨rfl, rfl⟩ rfl rfl ?_
  refine G (T := T) 1000 rfl ?_
  refine Ix (T := T) 0 rfl rfl rfl rfl rfl ⟨rfl, rfl⟩ rfl rfl ?_
  refine G (T := T) 1000 rfl ?_
  refine Ix (T := T) 0 rfl rfl rfl rfl rfl ⟨rfl, rfl⟩ rfl rfl ?_
  refine G (T := T) 1000 rfl ?_
  refine IfT rfl rfl ?_
  refine (Nr 4 73 4 rfl rfl).c ?_
  refine G (T := T) 1000 rfl ?_
  refine Nu ?_
  refine G (T := T) 1000 rfl ?_
  refine IfF rfl rfl ?_
  refine G (T := T) 1000 rfl ?_
  refine MS.fze 4 rfl ?_ (by repeat' (first | exact trivial | apply And.intro | rfl))
  exact Fm (T := T) id _ _ ⟨rfl, rfl⟩ rfl ⟨⟨_, _, rfl, rfl⟩, rfl, rfl⟩
theorem diff_of {a b : Tr} {da db : List D} {R : List (List D)} (ha : lbO a) (hb : lbO b) (hsa : a.size ≤ 1000000) (hsb : b.size ≤ 1000000) (hT : ∀ H, pk.hy H → TabH H)
    (hda : szD (mS a []) a = da) (hdb : szD (mS b (mS a [])) b = db) (he : XM Tryz.prog pk 40 [.a (.c (.p 0 0 0)), .a (.c (.d (.p da))), .a (.c (.d (.p db))), .a (.c .z), .a (.c .z)] (dfB (mS b (mS a [])) (fun _ => True)) 3 3 (fun r hp' => r = xr R ∧ hp' = dfB (mS b (mS a [])) (fun _ => True))) :
    XQ Tryz.prog pk 13 [xd (trd a), xd (trd b)] (xr R) := by
  have h1 := iY hT a.size a (Nat.le_refl _) hsa ha [] (fun _ => True) (fun t ht => by cases ht) (by show 0 + _ ≤ _; omega)
  have h2 := iY hT b.size b (Nat.le_refl _) hsb hb (mS a []) (fun _ => True) (mS_cl a (fun t ht => by cases ht)) (by have : (mS a []).length ≤ 0 + a.size := mS_len a []; omega)
  rw [hda] at h1
  rw [hdb] at h2
  refine XQ.en Tryz.func13 Tryz.ntmps13 (fun w0 own H V v0 hf => ?_)
  refine Gs (T := T) 100001 rfl ?_
  refine (FzTo.bz 0 rfl).c ?_
  refine (FzTo.bz 1 rfl).c ?_
  refine G (T := T) 1000 rfl ?_
  refine Mm (QI []) ⟨_, IdX.nil, MapR.nil _ _ _⟩ ⟨rfl, rfl⟩ ?_
  refine Mm (fun _ => True) trivial ⟨rfl, rfl⟩ ?_
  refine G (T := T) 100002 rfl ?_
  refine Ods (T := T) [0, 1, 2, 4, 5, 3, 6, 7, 8] rfl ?_
  refine G (T := T) 1000 rfl ?_
  refine Ckz [4, 2, 3] [⟨4, 0, .cells [.m 2 0, .m 3 0] 104⟩, ⟨2, 0, .mp (QI (mS a []))⟩, ⟨3, 0, .mp (fun _ => True)⟩] h1 rfl rfl rfl rfl rfl rfl rfl ⟨⟨rfl, rfl⟩, rfl⟩ rfl rfl ?_
  refine Ckz [4, 2, 3] [⟨4, 0, .cells [.m 2 0, .m 3 0] 104⟩, ⟨2, 0, .mp (QI (mS b (mS a [])))⟩, ⟨3, 0, .mp (fun _ => True)⟩] h2 rfl rfl rfl rfl rfl rfl rfl ⟨⟨rfl, rfl⟩, rfl⟩ rfl rfl ?_
  refine Ckz [4, 2, 3] [⟨4, 0, .cells [.m 2 0, .m 3 0] 104⟩, ⟨2, 0, .mp (QI (mS b (mS a [])))⟩, ⟨3, 0, .mp (fun _ => True)⟩] he rfl rfl rfl rfl rfl rfl rfl ⟨⟨rfl, rfl⟩, rfl⟩ rfl rfl ?_
  refine G (T := T) 1000 rfl ?_
  exact Fq (T := T) rfl rfl
theorem lb_A : lbO uA := ⟨by decide, by decide, trivial⟩
theorem lb_B : lbO uB := ⟨by decide, by decide, trivial⟩
theorem lb_Xab : lbO uXab := ⟨by decide, by decide, lb_A, lb_B, trivial⟩
theorem lb_Xb : lbO uXb := ⟨by decide, by decide, lb_B, trivial⟩
theorem lb_Xa : lbO uXa := ⟨by decide, by decide, lb_A, trivial⟩
theorem lb_Ya : lbO uYa := ⟨by decide, by decide, lb_A, trivial⟩
theorem lf_0 (S : List Tr) : szD (uA :: S) uA = dT lA 0 := by
  rw [dg, show (uA :: S).idxOf uA = 0 from List.idxOf_cons_self]; rfl
theorem lf_1 (S : List Tr) : szD (uA :: uB :: S) uB = dT lB 1 := by
  rw [dg, show (uA :: uB :: S).idxOf uB = 1 by rw [List.idxOf_cons, show (uA == uB) = false by decide +kernel, List.idxOf_cons_self]; rfl]; rfl
theorem diff_1 (hT : ∀ H, pk.hy H → TabH H) : XQ Tryz.prog pk 13 [xd (trd uXab), xd (trd uXb)] (xr [[.c (.int .i64 2), .s [[.c (.int .i64 0)]], .c (.string ⟨#[]⟩), .s []]]) := by
  have e1 : mS uXab [] = [uA, uB, uXab] := by decide +kernel
  have e2 : mS uXb [uA, uB, uXab] = [uA, uB, uXab, uXb] := by decide +kernel
  refine diff_of (da := .c (.string lX) :: .c (.int .i64 2) :: .c (.int .i64 3) :: .s [[.p (dT lA 0)], [.p (dT lB 1)]] :: [.c (.string lX), .s (aP [uA, uB])]) (db := .c (.string lX) :: .c (.int .i64 3) :: .c (.int .i64 2) :: .s [[.p (dT lB 1)]] :: [.c (.string lX), .s (aP [uB])]) lb_Xab lb_Xb (by decide +kernel) (by decide +kernel) hT ?_ ?_ ?_
  · rw [e1, dg, show [uA, uB, uXab].idxOf uXab = 2 by decide +kernel, show uXab.kids = [uA, uB] from rfl, szR, szR, szR, lf_0, lf_1]
    rfl
  · rw [e1, e2, dg, show [uA, uB, uXab, uXb].idxOf uXb = 3 by decide +kernel, show uXb.kids = [uB] from rfl, szR, szR, lf_1]
    rfl
  · rw [e1, e2]
    exact edits_2 (by decide) (by simp) (lf_0 _) (lf_1 _)
theorem diff_2 (hT : ∀ H, pk.hy H → TabH H) : XQ Tryz.prog pk 13 [xd (trd uXa), xd (trd uYa)] (xr [.c (.int .i64 3) :: .s [] :: trd uYa]) := by
  have e1 : mS uXa [] = [uA, uXa] := by decide +kernel
  have e2 : mS uYa [uA, uXa] = [uA, uXa, uYa] := by decide +kernel
  refine diff_of (da := .c (.string lX) :: .c (.int .i64 1) :: [.c (.int .i64 2), .s [[.p (dT lA 0)]], .c (.string lX), .s (aP [uA])]) (db := .c (.string lY) :: .c (.int .i64 2) :: .c (.int .i64 2) :: .s [[.p (dT lA 0)]] :: trd uYa) lb_Xa lb_Ya (by decide +kernel) (by decide +kernel) hT ?_ ?_ ?_
  · rw [e1, dg, show [uA, uXa].idxOf uXa = 1 by decide +kernel, show uXa.kids = [uA] from rfl, szR, szR, lf_0]
    rfl
  · rw [e1, e2, dg, show [uA, uXa, uYa].idxOf uYa = 2 by decide +kernel, show uYa.kids = [uA] from rfl, szR, szR, lf_0, ba]
    rfl
  · rw [e1, e2]
    exact edits_3 (by decide) (by decide) lb_Ya
end
section
open Go Go.RowKit Go.Proofs K
variable {pk : Pk}
theorem find_a {a b : D} : XM Tryz.prog pk 96 [.a (.c (.p 0 0 0)), xr []] [⟨0, 0, .cells [.d a, .d b] 35⟩] 1 1 (fun r hp' => r = .a (.c (.p 0 0 0)) ∧ hp' = [⟨0, 0, .cells [.d a, .d b] 35⟩]) := by
  refine XM.en Tryz.func96 Tryz.ntmps96 (fun w0 own H V v0 hf => ?_)
  refine G (T := T) 1000 rfl ?_
  refine Un 0 ?_
  refine G (T := T) 1000 rfl ?_
  refine IfF rfl rfl ?_
  refine G (T := T) 1000 rfl ?_
  exact Fm (T := T) id _ _ ⟨rfl, rfl⟩ rfl ⟨⟨_, _, rfl, rfl⟩, rfl, rfl⟩
theorem find_b {a : D} {n : Nat} {R : List (List D)} : XM Tryz.prog pk 96 [.a (.c (.p 0 0 0)), xr []] [⟨0, 0, .cells [.d a, .l 1 0 2 0 n n] 35⟩, ⟨1, 0, .row n R 35 2⟩] 2 2 (fun r hp' => r = .a (.c (.p 0 0 0)) ∧ hp' = [⟨0, 0, .cells [.d a, .l 1 0 2 0 n n] 35⟩, ⟨1, 0, .row n R 35 2⟩]) := by
  refine XM.en Tryz.func96 Tryz.ntmps96 (fun w0 own H V v0 hf => ?_)
  refine G (T := T) 1000 rfl ?_
  refine Un 0 ?_
  refine G (T := T) 1000 rfl ?_
  refine IfF rfl rfl ?_
  refine G (T := T) 1000 rfl ?_
  exact Fm (T := T) id _ _ ⟨rfl, rfl⟩ rfl ⟨⟨_, _, rfl, rfl⟩, rfl, rfl⟩
theorem step_a : XM Tryz.prog pk 43 [.a (.c (.p 0 0 0)), xd [.c (.int .i64 1), .s [[.c (.int .i64 2)]], .c (.string lB), .s []]] [⟨0, 0, .cells [.d (.c (.string lX)), .d (.s [trd uA])] 35⟩] 1 1 (fun r hp' => r = .t [.a [.d (.c (.int .i64 0)), .z, .d (.c (.string ⟨#[]⟩)), .z], .c (.d (.c (.int .i64 101)))] ∧ hp' = [⟨0, 0, .cells [.d (.c (.string lX)), .d (.s [trd uA])] 35⟩]) := by
  have hl1 : ([[D.c (Value.int .i64 2)]] : List (List D)).length = 1 := rfl
  have hl2 : ([trd uA] : List (List D)).length = 1 := rfl
  refine XM.en Tryz.func43 Tryz.ntmps43 (fun w0 own H V v0 hf => ?_)
  refine Gs (T := T) 100001 rfl ?_
  refine (FzTo.bz 1 rfl).c ?_
  refine G (T := T) 1000 rfl ?_
  refine IfF rfl rfl ?_
  refine G (T := T) 1000 rfl ?_
  refine Cq (clone_q (by decide) (by simp)) rfl rfl rfl rfl rfl ⟨rfl, rfl⟩ ?_
  refine G (T := T) 1000 rfl ?_
  refine IfF rfl rfl ?_
  refine G (T := T) 1000 rfl ?_
  refine Sd (T := T) 0 0 rfl ⟨_, _, rfl, rfl⟩ rfl rfl rfl ⟨rfl, rfl⟩ rfl rfl (by decide) (by decide) (by simp) ?_
  rw [show List.take (0 - 0) (List.drop 0 [[D.c (Value.int .i64 2)]]) = [] from rfl]
  refine G (T := T) 1000 rfl ?_
  refine Ckf [0] (.a (.c (.p 0 0 0))) find_a rfl rfl rfl rfl rfl rfl rfl ⟨⟨rfl, rfl⟩, rfl⟩ rfl ?_
  refine G (T := T) 1000 rfl ?_
  refine Ix (T := T) 0 rfl rfl rfl rfl rfl ⟨rfl, rfl⟩ rfl rfl ?_
  refine G (T := T) 1000 rfl ?_
  refine Ep false Tryz.underlying111 (.inr ⟨rfl, .inl ⟨_, _, _, rfl⟩⟩) rfl rfl ⟨rfl, rfl⟩ ?_
  refine G (T := T) 1000 rfl ?_
  refine IfT rfl rfl ?_
  refine G (T := T) 1000 rfl ?_
  exact Fm (T := T) id _ _ ⟨rfl, rfl⟩ rfl ⟨⟨_, _, rfl, rfl⟩, rfl, rfl⟩
theorem apply_a : XQ Tryz.prog pk 14 [xd (trd uXa), xr [[.c (.int .i64 1), .s [[.c (.int .i64 2)]], .c (.string lB), .s []]]] (.t [.a [.d (.c (.string ⟨#[]⟩)), .z], .c (.d (.c (.int .i64 101)))]) := by
  have hl1 : ([[D.c (Value.int .i64 1), .s [[.c (.int .i64 2)]], .c (.string lB), .s []]] : List (List D)).length = 1 := rfl
  have hc := lg (pk := pk) lb_Xa
  rw [ba] at hc
  refine XQ.en Tryz.func14 Tryz.ntmps14 (fun w0 own H V v0 hf => ?_)
  refine Gs (T := T) 100001 rfl ?_
  refine (FzTo.bz 0 rfl).c ?_
  rw [ba]
  refine G (T := T) 1000 rfl ?_
  refine Cq hc rfl rfl rfl rfl rfl ⟨rfl, rfl⟩ ?_
  refine G (T := T) 1000 rfl ?_
  refine Un 1 ?_
  refine G (T := T) 1000 rfl ?_
  refine IfT rfl rfl ?_
  refine G (T := T) 1000 rfl ?_
  refine Ix (T := T) 0 rfl rfl rfl rfl rfl ⟨rfl, rfl⟩ rfl rfl ?_
  refine G (T := T) 1000 rfl ?_
  refine Ckf [2] _ step_a rfl rfl rfl rfl rfl rfl rfl ⟨⟨rfl, rfl⟩, rfl⟩ rfl ?_
  refine G (T := T) 1000 rfl ?_
  refine IfT rfl rfl ?_
  refine G (T := T) 1000 rfl ?_
  exact Fq (T := T) rfl rfl
abbrev zTr : List D := [.c (.string ⟨#[]⟩), .s []]
theorem zero35 (z : Value) (hz : Sl Tryz.prog 33 35 2 40 z) (H : Hp) : rdL H zTr z.cells.toList := by
  obtain ⟨i, hi, hz1, _⟩ := hz.ex
  obtain ⟨inf, zv, hi2, hz2, hc⟩ := cX (BT.all_get T.ok (i := 35) rfl)
  rw [hi2] at hi; cases hi
  rw [hz2] at hz1; cases hz1
  have h9 := hc (fun _ _ => none) H
  revert h9
  generalize z.cells.toList = us
  intro h9
  match us, h9 with
  | [u, v], h9 =>
    have h7 : XC.rel (fun _ _ => none) H (.d (.c (.string ⟨#[]⟩))) u := h9.1
    have h8 : v = .slice none 0 0 := h9.2.1
    subst h8
    exact ⟨by simpa only [XC.rel] using h7, by simp only [rd]; exact ⟨none, 0, 1, rfl, Nat.le_refl _, by decide, .inl trivial⟩, trivial⟩
theorem delete_b {a b : List D} (ha : a.length = 2) (hb : b.length = 2) : XM Tryz.prog pk 98 [.a (.c (.l 0 0 2 0 2 2)), xi 1, xi 2] [⟨0, 0, .row 2 [a, b] 35 2⟩] 1 1 (fun r hp' => r = .a (.c (.l 0 0 2 0 1 2)) ∧ hp' = [⟨0, 0, .row 2 [a, zTr] 35 2⟩]) := by
  refine XM.en Tryz.func98 Tryz.ntmps98 (fun w0 own H V v0 hf => ?_)
  refine G (T := T) 13 rfl ?_
  refine Slm (T := T) 1 2 2 rfl rfl rfl rfl rfl rfl ⟨rfl, rfl⟩ (by decide) (by decide) (by decide) ?_
  refine G (T := T) 1000 rfl ?_
  refine IfF rfl rfl ?_
  refine G (T := T) 22 rfl ?_
  refine Slo (T := T) 0 1 rfl ⟨_, _, rfl, rfl⟩ rfl rfl rfl rfl ⟨rfl, rfl⟩ rfl rfl (by decide) (by decide) (by decide) (by decide) ?_
  refine G (T := T) 25 rfl ?_
  refine Slw (T := T) (ri := none) 2 2 ⟨_, _, rfl, rfl⟩ rfl rfl rfl rfl ⟨rfl, rfl⟩ rfl rfl (by decide) (by decide) ?_
  refine G (T := T) 26 rfl ?_
  refine Ap0 (T := T) rfl rfl rfl rfl rfl ⟨rfl, rfl⟩ (by decide) (by decide) ?_
  refine G (T := T) 31 rfl ?_
  refine Slo (T := T) 1 2 ⟨_, _, rfl, rfl⟩ ⟨_, _, rfl, rfl⟩ rfl rfl rfl rfl ⟨rfl, rfl⟩ rfl rfl (by decide) (by decide) (by decide) (by decide) ?_
  refine G (T := T) 1000 rfl ?_
  refine Cl1 (T := T) rfl zero35 rfl rfl rfl rfl rfl ⟨rfl, rfl⟩ ?_
  refine G (T := T) 1000 rfl ?_
  exact Fm (T := T) id _ _ ⟨rfl, rfl⟩ rfl ⟨⟨_, _, rfl, rfl⟩, rfl, rfl⟩
abbrev hpB (n m : Nat) (R : List (List D)) : XH := [⟨0, 0, .cells [.d (.c (.string lX)), .l 1 0 2 0 n m] 35⟩, ⟨1, 0, .row 2 R 35 2⟩]
theorem step_b : XM Tryz.prog pk 43 [.a (.c (.p 0 0 0)), xd [.c (.int .i64 2), .s [[.c (.int .i64 1)]], .c (.string ⟨#[]⟩), .s []]] (hpB 2 2 [trd uA, trd uB]) 2 2 (fun r hp' => r = .t [.g [.c (.int .i64 1), .s [[.c (.int .i64 1)]], .c (.string lB), .s []], .c (.d (.c (.int .i64 0)))] ∧ hp' = hpB 1 2 [trd uA, zTr]) := by
  have hl1 : ([[D.c (Value.int .i64 1)]] : List (List D)).length = 1 := rfl
  refine XM.en Tryz.func43 Tryz.ntmps43 (fun w0 own H V v0 hf => ?_)
  refine Gs (T := T) 100001 rfl ?_
  refine (FzTo.bz 2 rfl).c ?_
  refine G (T := T) 1000 rfl ?_
  refine IfF rfl rfl ?_
  refine G (T := T) 1000 rfl ?_
  refine Cq (clone_q (by decide) (by simp)) rfl rfl rfl rfl rfl ⟨rfl, rfl⟩ ?_
  refine G (T := T) 1000 rfl ?_
  refine IfF rfl rfl ?_
  refine G (T := T) 1000 rfl ?_
  refine Sd (T := T) 0 0 rfl ⟨_, _, rfl, rfl⟩ rfl rfl rfl ⟨rfl, rfl⟩ rfl rfl (by decide) (by decide) (by simp) ?_
  rw [show List.take (0 - 0) (List.drop 0 [[D.c (Value.int .i64 1)]]) = [] from rfl]
  refine G (T := T) 1000 rfl ?_
  refine Ckf [0, 1] (.a (.c (.p 0 0 0))) find_b rfl rfl rfl rfl rfl rfl rfl ⟨⟨rfl, rfl⟩, rfl⟩ rfl ?_
  refine G (T := T) 1000 rfl ?_
  refine Ix (T := T) 0 rfl rfl rfl rfl rfl ⟨rfl, rfl⟩ rfl rfl ?_
  refine G (T := T) 1000 rfl ?_
  refine Ep false Tryz.underlying111 (.inr ⟨rfl, .inl ⟨_, _, _, rfl⟩⟩) rfl rfl ⟨rfl, rfl⟩ ?_
  refine G (T := T) 1000 rfl ?_
  refine IfF rfl rfl ?_
  refine G (T := T) 1000 rfl ?_
  refine IfF rfl rfl ?_
  refine G (T := T) 1000 rfl ?_
  refine Iq (T := T) 1 rfl rfl rfl rfl rfl ⟨rfl, rfl⟩ rfl (by decide) rfl ?_
  refine G (T := T) 1000 rfl ?_
  refine Lr (T := T) rfl rfl rfl rfl rfl ⟨rfl, rfl⟩ rfl rfl ?_
  refine G (T := T) 1000 rfl ?_
  refine Ckr [1] (.a (.c (.l 1 0 2 0 1 2))) [⟨1, 0, .row 2 [trd uA, zTr] 35 2⟩] (delete_b rfl rfl) rfl rfl rfl rfl rfl rfl rfl ⟨⟨rfl, rfl⟩, rfl⟩ rfl rfl ?_
  refine G (T := T) 1000 rfl ?_
  exact Fm (T := T) id _ _ ⟨rfl, rfl⟩ rfl ⟨⟨_, _, rfl, rfl⟩, rfl, rfl⟩
theorem reverse_1 {r : List D} : XM Tryz.prog pk 54 [.a (.c (.l 0 0 4 0 1 1))] [⟨0, 0, .row 1 [r] 73 4⟩] 1 1 (fun v hp' => v = .t [] ∧ hp' = [⟨0, 0, .row 1 [r] 73 4⟩]) := by
  refine XM.en Tryz.func54 Tryz.ntmps54 (fun w0 own H V v0 hf => ?_)
  refine G (T := T) 1000 rfl ?_
  refine Un 0 ?_
  refine G (T := T) 1000 rfl ?_
  refine IfF rfl rfl ?_
  refine G (T := T) 1000 rfl ?_
  exact Fm (T := T) id _ _ ⟨rfl, rfl⟩ rfl ⟨⟨_, _, rfl, rfl⟩, rfl, rfl⟩
theorem invert_b : XQ Tryz.prog pk 16 [xd (trd uXab), xr [[.c (.int .i64 2), .s [[.c (.int .i64 1)]], .c (.string ⟨#[]⟩), .s []]]] (.t [.c (.d (.s [[.c (.int .i64 1), .s [[.c (.int .i64 1)]], .c (.string lB), .s []]])), .c (.d (.c (.int .i64 0)))]) := by
  have hl1 : ([[D.c (Value.int .i64 2), .s [[.c (.int .i64 1)]], .c (.string ⟨#[]⟩), .s []]] : List (List D)).length = 1 := rfl
  refine XQ.en Tryz.func16 Tryz.ntmps16 (fun w0 own H V v0 hf => ?_)
  refine Gs (T := T) 100001 rfl ?_
  refine (FzTo.bz 0 rfl).c ?_
  refine G (T := T) 1000 rfl ?_
  refine Cy [] (fun _ => .a (.a [.d (.c (.string lX)), .l 1 0 2 0 2 2])) (fun _ => [⟨1, 0, .row 2 [trd uA, trd uB] 35 2⟩]) (clone_own (pk := pk) lb_Xab) rfl rfl rfl rfl rfl rfl rfl ⟨⟨rfl, rfl⟩, rfl⟩ (fun _ => rfl) (fun _ => rfl) rfl (fun _ _ => ?_)
  refine G (T := T) 100003 rfl ?_
  refine (Nr 7 73 4 rfl rfl).c ?_
  refine G (T := T) 1000 rfl ?_
  refine Un 1 ?_
  refine G (T := T) 1000 rfl ?_
  refine IfT rfl rfl ?_
  refine G (T := T) 1000 rfl ?_
  refine Ix (T := T) 0 rfl rfl rfl rfl rfl ⟨rfl, rfl⟩ rfl rfl ?_
  refine G (T := T) 1000 rfl ?_
  refine Ckz [2, 1] (aZ (fun g t => (match g with | 0 => 2 | _ => 1, t)) (hpB 1 2 [trd uA, zTr])) step_b rfl rfl rfl rfl rfl rfl rfl ⟨⟨rfl, rfl⟩, rfl⟩ rfl rfl ?_
  refine G (T := T) 1000 rfl ?_
  refine IfF rfl rfl ?_
  refine G (T := T) 1000 rfl ?_
  refine Nu ?_
  refine G (T := T) 1000 rfl ?_
  refine IfF rfl rfl ?_
  refine G (T := T) 1000 rfl ?_
  refine Ckf [3] (.t []) reverse_1 rfl rfl rfl rfl rfl rfl rfl ⟨⟨rfl, rfl⟩, rfl⟩ rfl ?_
  refine G (T := T) 1000 rfl ?_
  refine MS.fze 3 rfl ?_ (by repeat' (first | exact trivial | apply And.intro | rfl))
  exact Fq (T := T) rfl rfl
end
section
open Go Go.RowKit Go.Proofs K
variable {pk : Pk}
theorem g7 {l : ByteArray} {rows : List (List D)} : XQ Tryz.prog pk 22 [xs l, xr rows] (xd [.c (.string l), .s rows]) := by
  refine XQ.en Tryz.func22 Tryz.ntmps22 (fun w0 own H V v0 hf => ?_)
  refine G (T := T) 1000 rfl ?_
  exact Fq (T := T) rfl rfl
theorem pO : ∀ (n : Nat) (t : Tr), t.size ≤ n → t.size ≤ 1000000000 → XQ Tryz.prog pk 23 [xd (trd t)] (xi (t.size : Nat)) := by
  intro n
  induction n with
  | zero => intro t h; have := t.size_pos; omega
  | succ n ih =>
    rintro ⟨l, ks⟩ hn hs
    have hkl := Tr.len_le ks
    rw [ba]
    simp only [Tr.size] at hs
    refine XQ.en Tryz.func23 Tryz.ntmps23 (fun w0 own H V v0 hf => ?_)
    refine Gs (T := T) 100001 rfl ?_
    refine (FzTo.bz 0 rfl).c ?_
    refine G (T := T) 1000 rfl ?_
    refine Lq [7, 8] (fun (q : Nat) r => (3, xi ((Tr.sizes (ks.take q) + 1 : Nat) : Int)) :: (9, xi (q : Nat)) :: r) (fun q => []) 1 (fun q => q ≤ ks.length) (fun q => ks.length - q) 0 rfl (Nat.zero_le _) ?_
    rintro j hj
    refine G (T := T) 1000 rfl ?_
    refine If rfl (fun h => ?_) (fun h => ?_)
    · have hjl := of_decide_eq_true h; rw [List.length_map] at hjl
      obtain ⟨y, hy⟩ := ah (l := ks) (j := j) (by omega)
      have hsz1 := Tr.sizes_take ks j y hy
      have hsz2 := Tr.sizes_take_le ks (j + 1)
      refine G (T := T) 1000 rfl ?_
      refine Ix (T := T) j (ab hy) rfl rfl rfl rfl ⟨rfl, rfl⟩ rfl rfl ?_
      refine G (T := T) 1000 rfl ?_
      refine Cq (ih y (Tr.size_kid (List.mem_of_getElem? hy) hn) (by omega)) rfl rfl rfl rfl rfl ⟨rfl, rfl⟩ ?_
      refine G (T := T) 16 rfl ?_
      refine G (T := T) 1000 rfl ?_
      rw [show ((Tr.sizes (ks.take j) + 1 : Nat) : Int) + (y.size : Nat) = ((Tr.sizes (ks.take (j + 1)) + 1 : Nat) : Int) by omega]
      exact Nq (j + 1) (by omega) (by show _ - (j + 1) < _ - j; omega)
    · have hjl := of_decide_eq_false h; rw [List.length_map] at hjl
      obtain rfl : j = ks.length := by omega
      rw [List.take_length]
      refine G (T := T) 1000 rfl ?_
      exact Fq (T := T) rfl rfl
def qPoll : Sm := .mk 12 eS ty4z 0 [] [] [] []
def qMain : Fu := ⟨⟨#[109, 97, 105, 110]⟩, [], .mk 7 eS 0 [], [qPoll], false, 0, 0⟩
def qProg : Pg := ⟨[], [], [qMain]⟩
theorem qProg_ok : qProg.ok 100 := by
  refine ⟨by decide, by decide, by decide, fun x h => (by cases h), fun x h => (by cases h), fun x h => ?_⟩
  rw [List.mem_singleton.1 h]
  exact ⟨by decide, by decide, fun x h => (by cases h), ⟨⟨by omega, by omega⟩, by decide, ⟨by omega, by omega⟩, trivial⟩, by decide, ⟨⟨⟨by omega, by omega⟩, by decide, aq, ⟨by omega, by omega⟩, trivial, trivial, trivial, trivial⟩, trivial⟩, by decide, (show I64 0 from ⟨by omega, by omega⟩), (show (0 : Int) ≤ 0 ∧ (0 : Int) ≤ 65535 by omega)⟩
abbrev qTree : Tr := .node ⟨#[112, 114, 111, 103, 114, 97, 109]⟩ [.node ⟨#[116, 121, 112, 101, 115]⟩ [], .node ⟨#[103, 108, 111, 98, 97, 108, 115]⟩ [], .node ⟨#[102, 117, 110, 99, 115]⟩ [.node ⟨#[102, 110, 32, 109, 97, 105, 110]⟩ [.node ⟨#[112, 97, 114, 97, 109, 115]⟩ [], .node ⟨#[114, 101, 115, 117, 108, 116]⟩ [.node ⟨#[118, 111, 105, 100]⟩ []], .node ⟨#[98, 111, 100, 121]⟩ [.node ⟨#[112, 111, 108, 108]⟩ []]]]]
theorem pP : dp qProg = qTree := by decide +kernel
theorem pQ (hT : ∀ H, pk.hy H → TabH H) : XQ Tryz.prog pk 8 [] (xb true) := by
  have h1 := eV (pk := pk) hT (B := 100) (by decide) qProg_ok
  rw [pP] at h1
  have h2 := ref_same (pk := pk) 100 (by decide) qTree qTree (by decide +kernel)
  rw [(Tr.eqb_iff _ _).2 rfl] at h2
  have h3 := pO (pk := pk) 100 qTree (by decide +kernel) (by decide +kernel)
  rw [show qTree.size = 10 by decide +kernel] at h3
  refine XQ.en Tryz.func8 Tryz.ntmps8 (fun w0 own H V v0 hf => ?_)
  refine G (T := T) 1000 rfl ?_
  iterate 14
    refine Cq g7 rfl rfl rfl rfl rfl ⟨rfl, rfl⟩ ?_
    refine G (T := T) 1000 rfl ?_
  refine Cq (diff_1 hT) rfl rfl rfl rfl rfl ⟨rfl, rfl⟩ ?_
  refine G (T := T) 1000 rfl ?_
  iterate 2
    refine Cq g7 rfl rfl rfl rfl rfl ⟨rfl, rfl⟩ ?_
    refine G (T := T) 1000 rfl ?_
  refine Cq (diff_2 hT) rfl rfl rfl rfl rfl ⟨rfl, rfl⟩ ?_
  refine G (T := T) 1000 rfl ?_
  refine Cq g7 rfl rfl rfl rfl rfl ⟨rfl, rfl⟩ ?_
  refine G (T := T) 1000 rfl ?_
  refine Cq apply_a rfl rfl rfl rfl rfl ⟨rfl, rfl⟩ ?_
  refine G (T := T) 1000 rfl ?_
  refine Cq g7 rfl rfl rfl rfl rfl ⟨rfl, rfl⟩ ?_
  refine G (T := T) 1000 rfl ?_
  refine Cq invert_b rfl rfl rfl rfl rfl ⟨rfl, rfl⟩ ?_
  refine G (T := T) 1000 rfl ?_
  refine Cq h1 rfl rfl rfl rfl rfl ⟨rfl, rfl⟩ ?_
  refine G (T := T) 1000 rfl ?_
  refine Cq h2 rfl rfl rfl rfl rfl ⟨rfl, rfl⟩ ?_
  refine G (T := T) 1000 rfl ?_
  iterate 7
    refine Ix (T := T) 0 rfl rfl rfl rfl rfl ⟨rfl, rfl⟩ rfl rfl ?_
    refine G (T := T) 1000 rfl ?_
  refine Cq h3 rfl rfl rfl rfl rfl ⟨rfl, rfl⟩ ?_
  refine G (T := T) 1000 rfl ?_
  exact Fe (T := T) rfl rfl
end
open Go.Proofs
section
open Go Go.RowKit Go.Proofs K
variable {pk : Pk}
end
theorem fw : ∀ (a b : List Tr), Tr.sizes (a ++ b) = Tr.sizes a + Tr.sizes b
  | [], b => by simp [Tr.sizes]
  | t :: r, b => by simp only [List.cons_append, Tr.sizes, fw r b]; omega
mutual
theorem g8 : ∀ t : Ty4, (tTy t).size = t.size
  | .mk k nm n ts => by rw [tTy, Tr.size, mD ts, Ty4.size]
theorem mD : ∀ l : List Ty4, Tr.sizes (tTys l) = Ty4.sizes l
  | [] => rfl
  | t :: r => by rw [tTys, Tr.sizes, g8 t, mD r, Ty4.sizes]
end
mutual
theorem tEx_size : ∀ t : Ex, (tEx t).size = t.size
  | .mk k nm n ts => by rw [tEx, Tr.size, iH ts, Ex.size]
theorem iH : ∀ l : List Ex, Tr.sizes (eo l) = Ex.sizes l
  | [] => rfl
  | t :: r => by rw [eo, Tr.sizes, tEx_size t, iH r, Ex.sizes]
end
mutual
theorem tSm_size : ∀ s : Sm, (tSm s).size ≤ 3 * s.size
  | .mk k nm t n xs b el cs => by
    have h1 := dU b
    have h2 := dU el
    have h3 := pg cs
    have h4 := g8 t
    have h5 := t.size_pos
    have h6 : Tr.sizes (if k = 1 then [tTy t] else []) ≤ t.size := by
      split
      · simp only [Tr.sizes]; omega
      · simp only [Tr.sizes]; omega
    have h7 : Tr.sizes (smT k (dh b) (dh el) (tCs cs)) ≤ 3 * Sm.sizes b + 3 * Sm.sizes el + 3 * Sm.csizes cs + 2 := by
      unfold smT
      split
      · simp only [Tr.sizes, Tr.size]; omega
      · split
        · simp only [Tr.sizes, Tr.size]; omega
        · split
          · omega
          · split
            · rw [fw]; simp only [Tr.sizes, Tr.size]; omega
            · simp only [Tr.sizes]; omega
    rw [tSm, Tr.size, fw, fw, iH, Sm.size]
    omega
theorem dU : ∀ l : List Sm, Tr.sizes (dh l) ≤ 3 * Sm.sizes l
  | [] => Nat.le_refl _
  | t :: r => by
    have := tSm_size t
    have := dU r
    simp only [dh, Tr.sizes, Sm.sizes]; omega
theorem pg : ∀ l : List (List Sm), Tr.sizes (tCs l) ≤ 3 * Sm.csizes l
  | [] => Nat.le_refl _
  | c :: r => by
    have := dU c
    have := pg r
    simp only [tCs, Tr.sizes, Tr.size, Sm.csizes]; omega
end
theorem bR {w p : ByteArray} {a b : Nat} (hw : w.size ≤ a) (hp : p.size ≤ b) (h : a + b + 1 ≤ 1000000) : (aG w p).size ≤ 1000000 := by
  unfold aG
  split
  · omega
  · rw [ByteArray.size_append, ByteArray.size_append]
    show _ + (1 + _) ≤ _
    omega
theorem hP : ∀ {a b : List Tr}, dA a → dA b → dA (a ++ b)
  | [], _, _, h => h
  | _ :: _, _, h, k => ⟨h.1, hP h.2 k⟩
theorem nS {n : Nat} (h : n ≤ 9223372036854775807) : (cw n).size ≤ 20 := it (by show _ < 100000000000000000000; omega)
theorem pi {k : Int} {nm : ByteArray} (h : bp k nm = true) : nm.size ≤ 24 := by
  have am : ∀ {l : List ByteArray}, (∀ x ∈ l, x.size ≤ 24) → aE nm l = true → nm.size ≤ 24 := fun hl ha => by
    obtain ⟨x, hx, he⟩ := List.any_eq_true.1 ha
    rw [← of_decide_eq_true he]; exact hl x hx
  unfold bp at h
  split at h
  · exact al h
  split at h
  · exact am (by decide) h
  split at h
  · exact am (by decide) h
  split at h
  · exact am (by decide) h
  · rw [of_decide_eq_true h]; decide
mutual
theorem lm_ty : ∀ t : Ty4, rTy t = true → lbM (tTy t)
  | .mk k nm n ts, h => by
    simp only [rTy] at h
    rw [tTy]
    by_cases h4 : k = 4
    · subst h4
      simp only [if_true, Bool.and_eq_true, decide_eq_true_eq] at h
      have hts := List.length_eq_zero_iff.1 h.2
      subst hts
      exact ⟨bR (w := fN) (a := 10) (by decide) (al h.1.1) (by decide), trivial⟩
    · rw [if_neg h4] at h
      by_cases h1 : k = 1 ∨ k = 2 ∨ k = 3
      · rw [if_pos h1] at h
        simp only [Bool.and_eq_true, decide_eq_true_eq] at h
        have hts := List.length_eq_zero_iff.1 h.2
        subst hts
        rcases h1 with rfl | rfl | rfl
        · exact ⟨(by decide : w_u16.size ≤ 1000000), trivial⟩
        · exact ⟨(by decide : w_u8.size ≤ 1000000), trivial⟩
        · exact ⟨(by decide : w_s16.size ≤ 1000000), trivial⟩
      · rw [if_neg h1] at h
        by_cases h2 : k = 5 ∨ k = 6
        · rw [if_pos h2] at h
          simp only [Bool.and_eq_true, decide_eq_true_eq] at h
          have hr := lm_tys ts h.2
          have hn : n ≤ 65535 := by have := h.1.1.2; split at this <;> omega
          have hd := nS (n := n.toNat) (by omega)
          rcases h2 with rfl | rfl
          · exact ⟨bR (w := cE) (a := 10) (by decide) hd (by decide), hr⟩
          · exact ⟨bR (w := gw) (a := 10) (by decide) hd (by decide), hr⟩
        · rw [if_neg h2] at h; cases h
theorem lm_tys : ∀ l : List Ty4, rTys l = true → dA (tTys l)
  | [], _ => trivial
  | t :: r, h => by
    simp only [rTys, Bool.and_eq_true] at h
    exact ⟨lm_ty t h.1, lm_tys r h.2⟩
end
mutual
theorem lm_ex : ∀ e : Ex, rEx e = true → lbM (tEx e)
  | .mk k nm n ks, h => by
    simp only [rEx, Bool.and_eq_true, decide_eq_true_eq, Bool.or_eq_true] at h
    obtain ⟨⟨⟨⟨hk, hn⟩, _⟩, hlim⟩, hks⟩ := h
    have hl : n < 65536 := by
      have : cu k ≤ 65536 := by unfold cu; split <;> (try split) <;> (try split) <;> omega
      omega
    have hd := nS (n := n.toNat) (by omega)
    rw [tEx]
    refine ⟨bR (exW_size hk) (b := 24) ?_ (by decide), lm_exs ks hks⟩
    split
    · omega
    · exact pi hn
theorem lm_exs : ∀ l : List Ex, fA l = true → dA (eo l)
  | [], _ => trivial
  | t :: r, h => by
    simp only [fA, Bool.and_eq_true] at h
    exact ⟨lm_ex t h.1, lm_exs r h.2⟩
end
theorem pj {k : Int} {nm : ByteArray} (h : aV k nm = true) : nm.size ≤ 24 := by
  unfold aV at h
  split at h
  · exact al h
  · rw [Bool.or_eq_true] at h
    rcases h with h | h
    · rw [of_decide_eq_true h]; decide
    · rw [Bool.and_eq_true] at h; exact al h.2
mutual
theorem lm_sm : ∀ s : Sm, rSm s = true → lbM (tSm s)
  | .mk k nm t n xs b el cs, h => by
    simp only [rSm, Bool.and_eq_true, decide_eq_true_eq] at h
    obtain ⟨⟨⟨⟨⟨⟨⟨⟨⟨⟨⟨⟨⟨⟨hk, _⟩, _⟩, hxs⟩, hnm⟩, ht⟩, hn⟩, _⟩, _⟩, _⟩, _⟩, _⟩, hb⟩, hel⟩, hcs⟩ := h
    have h1 := lm_exs xs hxs
    have h2 := lh b hb
    have h3 := lh el hel
    have h4 := lm_cs cs hcs
    have hl : n < 256 := by
      rw [Bool.or_eq_true, Bool.and_eq_true, decide_eq_true_eq, decide_eq_true_eq] at hn
      rcases hn with hn | hn
      · omega
      · exact hn.2
    have hd := nS (n := n.toNat) (by omega)
    rw [tSm]
    refine ⟨?_, hP ?_ (hP h1 ?_)⟩
    · unfold smL
      refine bR (smW_size hk) (b := 24) ?_ (by decide)
      split
      · omega
      · exact pj hnm
    · split
      · rename_i hk1
        rw [if_pos hk1] at ht
        exact ⟨lm_ty t ht, trivial⟩
      · trivial
    · unfold smT
      split
      · exact ⟨⟨by decide, h2⟩, ⟨by decide, h3⟩, trivial⟩
      · split
        · exact ⟨⟨by decide, h2⟩, trivial⟩
        · split
          · exact h2
          · split
            · exact hP h4 ⟨⟨by decide, h3⟩, trivial⟩
            · trivial
theorem lh : ∀ l : List Sm, cp l = true → dA (dh l)
  | [], _ => trivial
  | t :: r, h => by
    simp only [cp, Bool.and_eq_true] at h
    exact ⟨lm_sm t h.1, lh r h.2⟩
theorem lm_cs : ∀ l : List (List Sm), rCs l = true → dA (tCs l)
  | [], _ => trivial
  | c :: r, h => by
    simp only [rCs, Bool.and_eq_true] at h
    exact ⟨⟨by decide, lh c h.1⟩, lm_cs r h.2⟩
end
theorem lm_par {w : ByteArray} {p : Par} (hw : w.size ≤ 10) (h : cv p = true) : lbM (d7 w p) := by
  simp only [cv, Bool.and_eq_true] at h
  exact ⟨bR hw (al h.1) (by decide), lm_ty _ h.2, trivial⟩
theorem lm_num {w : ByteArray} {n : Int} (hw : w.size ≤ 10) (hn : n ≤ 9223372036854775807) : lbM (fO w n) := ⟨bR hw (nS (n := n.toNat) (by omega)) (by decide), trivial⟩
section
open Go Go.RowKit Go.Proofs K
variable {pk : Pk}
end
section
open Go Go.RowKit Go.Proofs K
variable {pk : Pk}
end
section
open Go Go.RowKit Go.Proofs K
variable {pk : Pk}
end
end Go.Proofs.YtlmahofogapkgaaGreatDoor.X
namespace Go.Proofs.YtlmahofogapkgaaGreatDoor.K
open Go Go.RowKit
abbrev wrgV : Value := .iface 113 (.agg #[])
abbrev wrg : PanicEntry := { v := wrgV, recovered := false }
def RetP (w0 : World) (H : Hp) (own : List Seg) (φ : Value → List Seg → Hp → Prop) (ψ : Prop) : Ending → World → Prop := fun e w =>
  Ret w0 φ e w ∨ (e = .panicked [wrg] ∧ ψ ∧ ∃ H', Le H H' ∧ St w0 H' own w)
def FnP (P : Program) (f : FuncId) (args : List Value) (w0 : World) (H : Hp) (own : List Seg) (φ : Value → List Seg → Hp → Prop) (ψ : Prop) : Prop :=
  ∀ w, St w0 H own w → Calls P f args.toArray w (RetP w0 H own φ ψ)
section
variable {P : Program} {w0 : World} {N : Nat} {Q : Exit → Act → World → Prop} {env : Env} {own B : List Seg} {H H0 : Hp} {ops : Array Oper} {rest : List Oper} {fn : Func} {φ : Value → List Seg → Hp → Prop} {ψ ψ' : Prop}
variable {d : Option Tmp} {ty : TypeId} {pos : String} {af : Array Edge}
end
end Go.Proofs.YtlmahofogapkgaaGreatDoor.K
namespace Go.Proofs.YtlmahofogapkgaaGreatDoor.X
open Go Go.RowKit K
def dsA (ds : List Deferred) (a : Act) : Act := { a with defers := ds }
theorem fx (ds : List Deferred) (a : Act) (d : Option Tmp) (v : Value) : (dsA ds a).put d v = dsA ds (a.put d v) := by cases d <;> rfl
theorem dsA_eval (ds : List Deferred) (a : Act) : (dsA ds a).eval = a.eval := funext fun x => by cases x <;> rfl
theorem bB (a : Act) (d : Option Tmp) (v : Value) : (a.put d v).defers = a.defers := by cases d <;> rfl
def okA (ds : List Deferred) (Q : Exit → Act → World → Prop) : Exit → Act → World → Prop := fun e a w => a.defers = [] ∧ Q e (dsA ds a) w
section
variable {P : Program} {ds : List Deferred} {Q : Exit → Act → World → Prop} {ops : Array Oper}
theorem op_no (hno : ∀ a w, ¬ Q .outgrown a w) {o : Oper} {a : Act} {w : World} {next : Act → World → Prop} (h : o.wp P a w next (okA ds Q)) (hn : ∀ a w, next a w → a.defers = []) : a.defers = [] := by
  unfold Oper.wp at h
  generalize (execOp a.eval o).run P w = r at h
  have hlet : ¬ LetsOut (okA ds Q) := by rintro ⟨a, w, _, h⟩; exact hno _ _ h
  cases r with
  | ok nx w' =>
    cases nx with
    | value v => have := hn _ _ h; rwa [bB] at this
    | skip => have := hn _ _ h; rwa [bB] at this
    | defer d => have := hn _ _ h; rw [bB] at this; cases this
    | enter f args =>
      obtain ⟨e, w2, fr, hR, _⟩ := h []
      cases e with
      | returned v => have := hn _ _ hR; rwa [bB] at this
      | panicked ch => exact hR.1
      | outgrown => exact (hlet hR).elim
    | row row args =>
      obtain ⟨v, w2, hR, _⟩ := h default []
      have := hn _ _ hR; rwa [bB] at this
    | _ => exact h.elim
  | halt x w' =>
    cases x with
    | panic v => exact h.1
    | _ => exact h.elim
theorem op_ds (hno : ∀ a w, ¬ Q .outgrown a w) {o : Oper} {a : Act} {w : World} {next next' : Act → World → Prop} (h : o.wp P a w next (okA ds Q)) (hn : ∀ a w, next a w → a.defers = []) (hk : ∀ a w, next a w → next' (dsA ds a) w) : o.wp P (dsA ds a) w next' Q := by
  unfold Oper.wp at h ⊢
  rw [dsA_eval]
  generalize (execOp a.eval o).run P w = r at h ⊢
  have hlet : ¬ LetsOut (okA ds Q) := by rintro ⟨a, w, _, h⟩; exact hno _ _ h
  cases r with
  | ok nx w' =>
    cases nx with
    | value v => rw [Oper.upon_value, fx]; exact hk _ _ h
    | skip => rw [Oper.upon_skip, fx]; exact hk _ _ h
    | defer d => have := hn _ _ h; rw [bB] at this; cases this
    | enter f args =>
      refine Calls.mono h ?_
      intro e w2 hR
      cases e with
      | returned v => show next' ((dsA ds a).put o.dst v) w2; rw [fx]; exact hk _ _ hR
      | panicked ch => exact hR.2
      | outgrown => exact (hlet hR).elim
    | row row args =>
      refine Rows.mono h ?_
      intro v w2 hR
      rw [fx]; exact hk _ _ hR
    | _ => exact h.elim
  | halt x w' =>
    cases x with
    | panic v => exact h.2
    | _ => exact h.elim
theorem jG (hno : ∀ a w, ¬ Q .outgrown a w) {p : Prop} (h : p ∧ LetsOut (okA ds Q)) : False := by
  obtain ⟨_, a, w, _, h⟩ := h; exact hno _ _ h
theorem iI (hno : ∀ a w, ¬ Q .outgrown a w) : ∀ (l : List Oper) (a : Act) (w : World), wpList P ops (okA ds Q) l a w → a.defers = []
  | [], _, _, h => h.1
  | o :: rest, a, w, h => by
    simp only [wpList] at h
    split at h
    · rcases h with h | h
      · exact op_no hno h (iI hno rest)
      · exact (jG hno h).elim
    · have := iI hno rest _ _ h; rwa [bB] at this
theorem iJ (hno : ∀ a w, ¬ Q .outgrown a w) : ∀ (l : List Oper) (a : Act) (w : World), wpList P ops (okA ds Q) l a w → wpList P ops Q l (dsA ds a) w
  | [], _, _, h => h.2
  | o :: rest, a, w, h => by
    simp only [wpList] at h ⊢
    rw [show yielded ops (dsA ds a).tmps = yielded ops a.tmps from rfl]
    split at h
    · rename_i hw
      rw [if_pos hw]
      rcases h with h | h
      · exact .inl (op_ds hno h (iI hno rest) (iJ hno rest))
      · exact (jG hno h).elim
    · rename_i hw
      rw [if_neg hw, fx]
      exact iJ hno rest _ _ h
theorem wpOp_no (hno : ∀ a w, ¬ Q .outgrown a w) {i : Nat} {K : Act → World → Prop} {a : Act} {w : World} (h : wpOp P ops (okA ds Q) i K a w) (hK : ∀ a w, K a w → a.defers = []) : a.defers = [] := by
  unfold wpOp at h
  split at h
  · exact hK _ _ h
  · split at h
    · rcases h with h | h
      · exact op_no hno h hK
      · exact (jG hno h).elim
    · have := hK _ _ h; rwa [bB] at this
theorem wpOp_ds (hno : ∀ a w, ¬ Q .outgrown a w) {i : Nat} {K K' : Act → World → Prop} {a : Act} {w : World} (h : wpOp P ops (okA ds Q) i K a w) (hK : ∀ a w, K a w → a.defers = []) (hk : ∀ a w, K a w → K' (dsA ds a) w) : wpOp P ops Q i K' (dsA ds a) w := by
  unfold wpOp at h ⊢
  cases ho : ops[i]? with
  | none => simp only [ho] at h ⊢; exact hk _ _ h
  | some o =>
    simp only [ho] at h ⊢
    rw [show yielded ops (dsA ds a).tmps = yielded ops a.tmps from rfl]
    split at h
    · rename_i hw
      rw [if_pos hw]
      rcases h with h | h
      · exact .inl (op_ds hno h hK hk)
      · exact (jG hno h).elim
    · rename_i hw
      rw [if_neg hw, fx]
      exact hk _ _ h
theorem pn (hno : ∀ a w, ¬ Q .outgrown a w) {md : Region.Mode} : ∀ (n : Nat) (lst : Array Bool) (a : Act) (w : World), wpAny P md ops (okA ds Q) n lst a w → a.defers = []
  | 0, _, _, _, h => h.2.1
  | n + 1, lst, a, w, h => by
    obtain ⟨h1, h2⟩ := h
    cases hr : Region.ready md ops lst with
    | nil => exact (h1 hr).1
    | cons i r => exact wpOp_no hno (h2 i (by rw [hr]; exact List.mem_cons_self ..)) (pn hno n _)
theorem po (hno : ∀ a w, ¬ Q .outgrown a w) {md : Region.Mode} : ∀ (n : Nat) (lst : Array Bool) (a : Act) (w : World), wpAny P md ops (okA ds Q) n lst a w → wpAny P md ops Q n lst (dsA ds a) w
  | 0, _, _, _, h => ⟨h.1, h.2.2⟩
  | n + 1, lst, a, w, h => ⟨fun hr => (h.1 hr).2, fun i hi => wpOp_ds hno (h.2 i hi) (pn hno n _) (po hno n _)⟩
end
section
variable {P : Program} {ds : List Deferred} {Q : Exit → Act → World → Prop} {w0 : World} {N : Nat} {env : Env} {own : List Seg} {H : Hp}
def TCD (ds : List Deferred) (P : Program) (w0 : World) (N : Nat) (Q : Exit → Act → World → Prop) (c : Code) (env : Env) (own : List Seg) (H : Hp) : Prop := ∀ a w, At N env a → St w0 H own w → c.wp P Q (dsA ds a) w
theorem TCD.reg {i : Nat} {l : List Oper} {y : Code} (hno : ∀ a w, ¬ Q .outgrown a w) (h : TL P w0 N (okA ds (Exit.then (y.wp P Q) Q)) l.toArray l env own H) : TCD ds P w0 N Q (.seq (.region i l.toArray false) y) env own H := fun a w ha hw =>
  wp_seq (wp_region_lit (iJ (Q := Exit.then (y.wp P Q) Q) hno _ _ _ (h a w ha hw)))
theorem TCD.drw {i : Nat} {l : List Oper} {y : Code} (hm : P.follows .mixedOrders = true) (hno : ∀ a w, ¬ Q .outgrown a w) (h : ∀ a w, At N env a → St w0 H own w → wpAny P .any l.toArray (okA ds (Exit.then (y.wp P Q) Q)) l.toArray.size (Array.replicate l.toArray.size false) a { w with drawn := w.drawn + 1 }) : TCD ds P w0 N Q (.seq (.region i l.toArray true) y) env own H := fun a w ha hw =>
  wp_seq (wp_region_any hm (po (Q := Exit.then (y.wp P Q) Q) hno _ _ _ _ (h a w ha hw)))
theorem TQ.dsq {y : Code} (h : TCD ds P w0 N Q y env own H) : TQ w0 N (okA ds (Exit.then (y.wp P Q) Q)) .normal env own H := fun a w ha hw => ⟨ha.defers, h a w ha hw⟩
end
theorem XQ.toFnP {P : Program} {pk : Pk} {f : FuncId} {args : List XV} {R : XV} (h : XQ P pk f args R) (hpc : pk.pc = wrg) {w0 : World} {own : List Seg} {H : Hp} {vals : List Value} (hy : pk.hy H) (hv : XVs.rels (fun _ _ => none) H args vals) : FnP P f vals w0 H own (fun r o H' => R.rel (fun _ _ => none) H' r ∧ o = own ∧ Le H H') pk.ψ := by
  obtain ⟨h1, h2, h3, h4⟩ := h
  intro w hw
  have hw' : St w0 H ([] :: own) w := hw.flat (List.Perm.refl _)
  refine Calls.mono (h4 ⟨w0, own, H, fun _ _ => none, 0, [], pk, fun _ _ h => absurd rfl h, ⟨by intro g hg; simp at hg, hy⟩⟩ rfl rfl rfl [] vals hv rfl (by intro b hb; simp at hb) w hw') ?_
  rintro e w' (⟨v, r, hp', V', H', sg', rfl, ⟨rfl, rfl⟩, q1, q2, q3, q4, q5, q6, q7, q8, q9, q10⟩ | ⟨rfl, q1, H', q2, q3⟩)
  · have := HR0 q2
    subst this
    refine .inl ⟨v, own, H', rfl, ⟨?_, rfl, q9⟩, q10.flat (List.Perm.refl _)⟩
    have e : V' = fun _ _ => none := by funext g t; exact q7 g t (Nat.zero_le _)
    rw [← e]; exact q1
  · exact .inr ⟨by rw [hpc], q1, H', q2, q3⟩
section
variable {P : Program} {Q : Exit → Act → World → Prop} {ops : Array Oper} {w0 : World} {N : Nat} {env : Env} {own : List Seg} {H : Hp} {rest : List Oper} {d : Option Tmp} {ty : TypeId} {pos : String} {af : Array Edge}
theorem fy {a : Act} {d : Option Tmp} {v : Value} {i : Nat} (h : d ≠ some i) : (a.put d v).tmps[i]? = a.tmps[i]? := by
  cases d with
  | none => rfl
  | some d =>
    have e : d ≠ i := fun e => h (by rw [e])
    simp [Act.put, e]
def pinQ (i : Nat) (u : Option Value) (Q : Exit → Act → World → Prop) : Exit → Act → World → Prop := fun e a w => a.tmps[i]? = u ∧ Q e a w
theorem op_pin (hno : ∀ a w, ¬ Q .outgrown a w) {i : Nat} {u : Option Value} {o : Oper} {a : Act} {w : World} {next next' : Act → World → Prop} (ha : a.tmps[i]? = u) (hd : o.dst ≠ some i) (h : o.wp P a w next Q) (hk : ∀ a w, a.tmps[i]? = u → next a w → next' a w) : o.wp P a w next' (pinQ i u Q) := by
  unfold Oper.wp at h ⊢
  generalize (execOp a.eval o).run P w = r at h ⊢
  have hlet : ¬ LetsOut Q := by rintro ⟨a, w, h⟩; exact hno _ _ h
  cases r with
  | ok nx w' =>
    cases nx with
    | value v => exact hk _ _ (by rw [fy hd]; exact ha) h
    | skip => exact hk _ _ (by rw [fy hd]; exact ha) h
    | defer d => exact hk _ _ (by rw [fy hd]; exact ha) h
    | enter f args =>
      refine Calls.mono h ?_
      intro e w2 hR
      cases e with
      | returned v => exact hk _ _ (by rw [fy hd]; exact ha) hR
      | panicked ch => exact ⟨ha, hR⟩
      | outgrown => exact (hlet hR).elim
    | row row args =>
      refine Rows.mono h ?_
      intro v w2 hR
      exact hk _ _ (by rw [fy hd]; exact ha) hR
    | _ => exact h.elim
  | halt x w' =>
    cases x with
    | panic v => exact ⟨ha, h⟩
    | _ => exact h.elim
theorem wpOp_pin (hno : ∀ a w, ¬ Q .outgrown a w) {i j : Nat} {u : Option Value} {K K' : Act → World → Prop} {a : Act} {w : World} (hd : ∀ (j : Nat) (o : Oper), ops[j]? = some o → o.dst ≠ some i) (ha : a.tmps[i]? = u) (h : wpOp P ops Q j K a w) (hk : ∀ a w, a.tmps[i]? = u → K a w → K' a w) : wpOp P ops (pinQ i u Q) j K' a w := by
  unfold wpOp at h ⊢
  cases ho : ops[j]? with
  | none => simp only [ho] at h ⊢; exact hk _ _ ha h
  | some o =>
    simp only [ho] at h ⊢
    split at h
    · rename_i hw
      rw [if_pos hw]
      rcases h with h | ⟨_, h⟩
      · exact .inl (op_pin hno ha (hd j o ho) h hk)
      · obtain ⟨a, w, h⟩ := h; exact (hno _ _ h).elim
    · rename_i hw
      rw [if_neg hw]
      exact hk _ _ (by rw [fy (hd j o ho)]; exact ha) h
theorem iK (hno : ∀ a w, ¬ Q .outgrown a w) {md : Region.Mode} {i : Nat} {u : Option Value} (hd : ∀ (j : Nat) (o : Oper), ops[j]? = some o → o.dst ≠ some i) : ∀ (n : Nat) (lst : Array Bool) (a : Act) (w : World), a.tmps[i]? = u → wpAny P md ops Q n lst a w → wpAny P md ops (pinQ i u Q) n lst a w
  | 0, _, _, _, ha, h => ⟨h.1, ha, h.2⟩
  | n + 1, lst, a, w, ha, h => ⟨fun hr => ⟨ha, h.1 hr⟩, fun j hj => wpOp_pin hno hd ha (h.2 j hj) (fun a w ha h => iK hno hd n _ a w ha h)⟩
theorem Oper.wp_post {Q' : Exit → Act → World → Prop} (hQ : ∀ e a w, Q e a w → Q' e a w) {o : Oper} {a : Act} {w : World} {next : Act → World → Prop} (h : o.wp P a w next Q) : o.wp P a w next Q' := by
  unfold Oper.wp at h ⊢
  generalize (execOp a.eval o).run P w = r at h ⊢
  cases r with
  | ok nx w' =>
    cases nx with
    | enter f args =>
      refine Calls.mono h ?_
      intro e w2 hR
      cases e with
      | returned v => exact hR
      | panicked ch => exact hQ _ _ _ hR
      | outgrown => obtain ⟨a, w, h⟩ := hR; exact ⟨a, w, hQ _ _ _ h⟩
    | _ => exact h
  | halt x w' =>
    cases x with
    | panic v => exact hQ _ _ _ h
    | _ => exact h
theorem eg {Q' : Exit → Act → World → Prop} (hQ : ∀ e a w, Q e a w → Q' e a w) {md : Region.Mode} : ∀ (n : Nat) (lst : Array Bool) (a : Act) (w : World), wpAny P md ops Q n lst a w → wpAny P md ops Q' n lst a w
  | 0, _, _, _, h => ⟨h.1, hQ _ _ _ h.2⟩
  | n + 1, lst, a, w, h => ⟨fun hr => hQ _ _ _ (h.1 hr), fun j hj => by
    have := h.2 j hj
    unfold wpOp at this ⊢
    cases ho : ops[j]? with
    | none => simp only [ho] at this ⊢; exact eg hQ n _ _ _ this
    | some o =>
      simp only [ho] at this ⊢
      split at this
      · rename_i hw
        rw [if_pos hw]
        rcases this with h | ⟨h1, a, w, h2⟩
        · exact .inl (Oper.wp_post hQ (Oper.wp_mono (fun a w h => eg hQ n _ a w h) h))
        · exact .inr ⟨h1, a, w, hQ _ _ _ h2⟩
      · rename_i hw
        rw [if_neg hw]
        exact eg hQ n _ _ _ this⟩
theorem pR {md : Region.Mode} (i j : Nat) {u v : Option Value} (hi : ∀ (k : Nat) (o : Oper), ops[k]? = some o → o.dst ≠ some i) (hj : ∀ (k : Nat) (o : Oper), ops[k]? = some o → o.dst ≠ some j) {n : Nat} {lst : Array Bool} {a : Act} {w : World} (hu : a.tmps[i]? = u) (hv : a.tmps[j]? = v)
    (h : wpAny P md ops (fun e a w => e ≠ .outgrown ∧ (a.tmps[i]? = u → a.tmps[j]? = v → Q e a w)) n lst a w) : wpAny P md ops Q n lst a w := by
  have hno : ∀ a w, ¬ (fun e (a : Act) (w : World) => e ≠ .outgrown ∧ (a.tmps[i]? = u → a.tmps[j]? = v → Q e a w)) .outgrown a w := fun a w h => h.1 rfl
  exact eg (fun e a w ⟨h3, h2, _, h⟩ => h h2 h3) _ _ _ _ (iK (fun a w h => hno a w h.2) hj _ _ _ _ hv (iK hno hi _ _ _ _ hu h))
theorem TL.callE {f : FuncId} {xs : List Operand} {vs : List Value} {tys : Array TypeId} {φ : Value → List Seg → Hp → Prop} {ψ : Prop} (hc : Callable P f) (h : FnP P f vs w0 H own φ ψ) (hx : Evs env xs vs) (hd : okD N d = true)
    (hpan : ψ → ∀ a w H', At N env a → Le H H' → St w0 H' own w → Q (.panic [K.wrg]) a w) (hn : ∀ v own' H', φ v own' H' → TL P w0 N Q ops rest (ao d v env) own' H') :
    TL P w0 N Q ops ({ dst := d, op := .call { callee := .value (.func f), args := xs.toArray, argTypes := tys }, type := ty, pos := pos, after := af, guard := none } :: rest) env own H := fun a w ha hw => by
  refine wpList_plain rfl fun K hK => ?_
  have hm := Evs.map ha hx
  have hrun : (execOp a.eval { dst := d, op := .call { callee := .value (.func f), args := xs.toArray, argTypes := tys }, type := ty, pos := pos, after := af, guard := none }).run P w = .ok (.enter f vs.toArray) w := by
    simp [execOp, resolve, Deferred.ofValue, invoke, Act.eval, hm, hc.run]
  unfold Oper.wp
  rw [hrun]
  refine (h w hw).mono ?_
  rintro e w' (⟨v, own', H', rfl, hp, hw'⟩ | ⟨rfl, h1, H', h2, h3⟩)
  · exact hK _ _ (hn v own' H' hp _ _ (ha.put hd v) hw')
  · exact hpan h1 a w' H' ha h2 h3
end
theorem OdA {P : Program} {x : Cx P} {ops : List Oper} {s : XS} {L : List (Nat × Oper)} (π : List Nat) (hl : lQ ops π = some L) (h : (MS.r ops (some []) L [] s).ok x) (hπ : OdK ops π := by exact ⟨by decide +kernel⟩) :
    ∀ V H sg env, SR x.B s V H sg env → ∀ a w, At x.N env a → St x.B.w0 H (sg :: x.B.own) w → wpAny P .any ops.toArray x.R ops.toArray.size (Array.replicate ops.toArray.size false) a { w with drawn := w.drawn + 1 } := by
  obtain ⟨h1, h2⟩ := kh hl
  exact XR.any (Q := x.R) x.pan hπ.ok (h1 ▸ h h2) (fun s' hs' V H sg env hr => hs' V H sg env hr)
def offH (H : Hp) (b : Nat) : Hp := fun k => if k = b then none else H k
theorem Le.off {H H' : Hp} {b : Nat} (h : Le H H') (hb : H b = none) : Le H (offH H' b) := fun k o hk => by
  unfold offH
  split
  · rename_i e; subst e; rw [hb] at hk; cases hk
  · exact h k o hk
theorem St.off {w0 w : World} {H : Hp} {own : List Seg} {b : Nat} {o : Obj} (h : St w0 H own w) (hb : H b = some o) : St w0 (offH H b) ([(b, o)] :: own) w := by
  have hne : ∀ p ∈ own.flatten, p.1 ≠ b := fun p hp e => by have := h.apart p hp; rw [e, hb] at this; cases this
  refine ⟨h.os, h.tape, h.output, fun k o' hk => ?_, fun p hp => ?_, fun p hp => ?_, ?_⟩
  · unfold offH at hk
    split at hk
    · cases hk
    · exact h.imm k o' hk
  · rcases List.mem_append.1 (by simpa using hp : p ∈ [(b, o)] ++ own.flatten) with hp | hp
    · rw [List.mem_singleton.1 hp]; exact h.imm _ _ hb
    · exact h.own_at p hp
  · unfold offH
    split
    · rfl
    · rename_i hpb
      rcases List.mem_append.1 (by simpa using hp : p ∈ [(b, o)] ++ own.flatten) with hp | hp
      · rw [List.mem_singleton.1 hp] at hpb; exact absurd rfl hpb
      · exact h.apart p hp
  · show (b :: own.flatten.map (·.1)).Nodup
    refine List.nodup_cons.2 ⟨fun hm => ?_, h.nodup⟩
    obtain ⟨p, hp, e⟩ := List.mem_map.1 hm
    exact hne p hp e
open Go.Proofs
theorem i29 : Tryz.prog.info? 29 = some Tryz.t29 := by kernel_rfl
theorem i39 : Tryz.prog.info? 39 = some Tryz.t39 := by kernel_rfl
theorem i113 : Tryz.prog.info? 113 = some Tryz.t113 := by kernel_rfl
instance : Ty Tryz.prog 29 true 3 := Ty.of Tryz.underlying29 i29
instance : Ty Tryz.prog 39 false 1 := Ty.of Tryz.underlying39 i39
instance : Ty Tryz.prog 113 true 0 := Ty.of Tryz.underlying113 i113
instance : Str Tryz.prog 29 [(0, 1), (1, 1), (2, 1)] #[.slice none 0 0, .slice none 0 0, .slice none 0 0] := Str.of Tryz.underlying29 i29 rfl rfl (by kernel_rfl) (by kernel_rfl)
instance : K.Zr Tryz.prog 113 #[] := ⟨_, _, i113, rfl, rfl⟩
theorem pS (p q : Addr) (w : World) : CallsD Tryz.prog 44 #[.pointer (some p), .pointer (some q)] .returning w fun e u' w' => e = .returned (.tuple #[]) ∧ u' = .returning ∧ w' = w := by
  refine callsD_of_wpS Tryz.func44 rfl fun c₀ cs hu => ?_
  apply wpS_seq
  apply wpS_region
  simp [wpOpsS, go_sem, recoverD, hu, Tryz.ntmps44, Exit.thenS]
  apply wpS_seq
  apply wpS_seq
  apply wpS_region
  have hu3 : ∀ w, (Op.equal 20 .nilIface .nilIface).run Tryz.prog w = .ok true w := fun w => by
    have : ∀ d w, (Op.equalIn (d + 1) 20 .nilIface .nilIface).run Tryz.prog w = .ok true w := fun d w => by simp [Op.equalIn, run_underlying Tryz.underlying20]
    exact this 9999 w
  have hu4 : ∀ w, (binOp .eql 20 .nilIface .nilIface).run Tryz.prog w = .ok (.bool true) w := fun w => by simp [binOp, hu3]
  simp [wpOpsS, go_sem, Exit.thenS, Act.put, Act.eval, hu4]
  refine wpS_cond (t := true) (by simp [Act.eval, Array.replicate]) ?_
  simp only [if_true]
  refine wpS_of_wp (wp_ret ?_)
  cases c₀
  simp_all [bodyPostS, results, Exit.thenS, show Tryz.f44.results = #[] from rfl]
abbrev zPg : List Value := [.slice none 0 0, .slice none 0 0, .slice none 0 0]
theorem pp {w0 : World} {H : Hp} {own : List Seg} (b c : Nat) (x0 x1 x2 y : Value) (w : World) (hw : St w0 H ([(b, .cells #[x0, x1, x2] 29 (0, 0))] :: [(c, .cells #[y] 39 (0, 0))] :: own) w) : CallsD Tryz.prog 44 #[.pointer (some ⟨b, 0, none⟩), .pointer (some ⟨c, 0, none⟩)] (.panicking [wrg]) w fun e u' w' => e = .returned (.tuple #[]) ∧ u' = .panicking [{ wrg with recovered := true }] ∧ St w0 H ([(b, .cells zPg.toArray 29 (0, 0))] :: [(c, .cells #[.int .i64 20] 39 (0, 0))] :: own) w' := by
  refine callsD_of_wpS Tryz.func44 rfl fun c₀ cs hu => ?_
  apply wpS_seq
  apply wpS_region
  simp [wpOpsS, go_sem, recoverD, hu, Tryz.ntmps44, Exit.thenS]
  apply wpS_seq
  apply wpS_seq
  apply wpS_region
  have hu3 : ∀ w, (Op.equal 20 (.iface 113 (.agg #[])) .nilIface).run Tryz.prog w = .ok false w := fun w => by
    have : ∀ d w, (Op.equalIn (d + 1) 20 (.iface 113 (.agg #[])) .nilIface).run Tryz.prog w = .ok false w := fun d w => by simp [Op.equalIn, run_underlying Tryz.underlying20]
    exact this 9999 w
  have hu4 : ∀ w, (binOp .eql 20 (.iface 113 (.agg #[])) .nilIface).run Tryz.prog w = .ok (.bool false) w := fun w => by simp [binOp, hu3]
  simp [wpOpsS, go_sem, Exit.thenS, Act.put, Act.eval, hu4]
  refine wpS_cond (t := false) (by simp [Act.eval, Array.replicate]) ?_
  simp only [Bool.false_eq_true, if_false]
  refine wpS_of_wp (wp_skip ?_)
  simp only [Exit.thenS]
  refine wpS_of_wp ?_
  have hta : ∀ w, (Instr.typeAssert (.iface 113 (.agg #[])) 20 113 true).run Tryz.prog w = .ok (.tuple #[.agg #[], .bool true]) w := fun w => by
    simp [Instr.typeAssert, run_underlying Tryz.underlying113]
  generalize ha : (⟨_, _⟩ : Act) = a
  have hat : At 17 [(0, .pointer (some ⟨b, 0, none⟩)), (1, .pointer (some ⟨c, 0, none⟩)), (2, .iface 113 (.agg #[]))] a := by
    subst ha
    refine ⟨rfl, by simp, fun i v hv => ?_⟩
    rcases i with _ | _ | _ | i
    · cases hv; rfl
    · cases hv; rfl
    · cases hv; rfl
    · cases hv
  refine (show TC Tryz.prog w0 17 _ _ _ _ H from ?_) a w hat hw
  clear hat ha
  refine TC.seq ?_
  refine TC.region ?_
  refine TL.move rfl rfl ?_
  refine Qa (v := .tuple #[.agg #[], .bool true]) rfl (fun a ha w => by simp [execOp, ha.ev (show ev _ (.tmp 9) = some (.iface 113 (.agg #[])) from rfl), hta]) ?_
  refine TL.move rfl rfl ?_
  refine TL.extract rfl rfl rfl ?_
  refine TL.extract rfl rfl rfl ?_
  refine TL.new rfl (fun g => ?_)
  refine TL.storeA 0 0 (vs := []) rfl rfl rfl rfl rfl trivial (by simp) rfl rfl rfl ?_
  refine TL.assign rfl rfl ?_
  refine TL.nil (TQ.then_n ?_)
  refine TC.seq (TC.seq (TC.region ?_))
  refine TL.move rfl rfl ?_
  refine TL.not rfl rfl ?_
  refine TL.nil (TQ.then_n ?_)
  refine TC.cond_f rfl (TC.skip (TQ.then_n ?_))
  refine TC.region ?_
  refine TL.struct [] trivial rfl rfl ?_
  refine TL.storeA 1 0 (vs := zPg) rfl rfl rfl rfl rfl ⟨rfl, rfl, rfl, trivial⟩ (by simp) rfl rfl rfl ?_
  refine TL.store1 2 0 rfl rfl rfl rfl rfl (by simp) rfl rfl rfl ?_
  refine TL.nil (fun a w ha hw => ?_)
  simp only [Exit.thenS, bodyPostS]
  exact ⟨ha.defers, _, rfl, .tuple #[], by simp [results, show Tryz.f44.results = #[] from rfl], rfl, rfl, hw.tail⟩
section
open Go Go.RowKit Go.Proofs K
theorem i25 : Tryz.prog.info? 25 = some Tryz.t25 := by kernel_rfl
theorem i26 : Tryz.prog.info? 26 = some Tryz.t26 := by kernel_rfl
theorem i27 : Tryz.prog.info? 27 = some Tryz.t27 := by kernel_rfl
theorem i35 : Tryz.prog.info? 35 = some Tryz.t35 := by kernel_rfl
instance ity25 : Ty Tryz.prog 25 false 1 := Ty.of Tryz.underlying25 i25
instance ity26 : Ty Tryz.prog 26 false 1 := Ty.of Tryz.underlying26 i26
instance ity27 : Ty Tryz.prog 27 false 1 := Ty.of Tryz.underlying27 i27
instance ity35 : Ty Tryz.prog 35 true 2 := Ty.of Tryz.underlying35 i35
instance : Fld Tryz.prog 29 0 0 := Fld.of (f := 0) Tryz.underlying29 rfl ity25 rfl
instance : Fld Tryz.prog 29 1 1 := Fld.of (f := 1) Tryz.underlying29 rfl ity26 rfl
instance : Fld Tryz.prog 29 2 2 := Fld.of (f := 2) Tryz.underlying29 rfl ity27 rfl
instance : K.Zr Tryz.prog 29 #[.slice none 0 0, .slice none 0 0, .slice none 0 0] := ⟨_, _, i29, rfl, rfl⟩
instance : K.Zr Tryz.prog 39 #[.int .i64 0] := ⟨_, _, i39, rfl, rfl⟩
def iL (t : Tr) : Bool := rPg (jPg t) && (dp (jPg t)).eqb t
def ftR (t : Tr) : XV := if iL t then .t [.g (pgD (jPg t)), cx (.int .i64 0)] else .t [.g [.s [], .s [], .s []], cx (.int .i64 20)]
abbrev dfr (b c : Nat) : Deferred := { target := .fn (.func 44) #[.pointer (some ⟨b, 0, none⟩), .pointer (some ⟨c, 0, none⟩)], args := #[] }
abbrev ftφ (t : Tr) (own : List Seg) (H : Hp) : Value → List Seg → Hp → Prop := fun r o H' => (ftR t).rel (fun _ _ => none) H' r ∧ o = own ∧ Le H H'
abbrev ftQ (t : Tr) (w0 : World) (own : List Seg) (H : Hp) : Exit → Act → World → Prop := bodyPostD Tryz.prog Tryz.f15 (Ret w0 (ftφ t own H))
theorem lj {t : Tr} {w0 : World} {own : List Seg} {H : Hp} : ∀ a w, ¬ ftQ t w0 own H .outgrown a w := fun a w ⟨_, _, _, h, _⟩ => nomatch h
theorem ll {b c : Nat} {x0 x1 x2 y : Value} {w0 w : World} {H : Hp} {own : List Seg} {tmps : Array Value} (h2 : tmps[2]? = some (.pointer (some ⟨b, 0, none⟩))) (h3 : tmps[3]? = some (.pointer (some ⟨c, 0, none⟩))) (hw : St w0 H ([(b, .cells #[x0, x1, x2] 29 (0, 0))] :: [(c, .cells #[y] 39 (0, 0))] :: own) w) (hy : y.oneCell' = true) (hx : x0.oneCell' = true ∧ x1.oneCell' = true ∧ x2.oneCell' = true) :
    (results Tryz.f15 tmps).run Tryz.prog w = .ok (.tuple #[.agg #[x0, x1, x2], y]) w := by
  have e2 : tmps.getD 2 undef = .pointer (some ⟨b, 0, none⟩) := by simp [Array.getD_eq_getD_getElem?, h2]
  have e3 : tmps.getD 3 undef = .pointer (some ⟨c, 0, none⟩) := by simp [Array.getD_eq_getD_getElem?, h3]
  have hb := hw.own_at (b, .cells #[x0, x1, x2] 29 (0, 0)) (by simp)
  have hc := hw.own_at (c, .cells #[y] 39 (0, 0)) (by simp)
  have l1 := bx (P := Tryz.prog) (w := w) (t := 29) (agg := true) (n := 3) (b := b) (o := 0) (vs := [x0, x1, x2]) (v := .agg #[x0, x1, x2]) inferInstance rfl rfl (fun j u hu => by
    rw [aX hb]
    exact cAt.get (o := 0) (vs := [x0, x1, x2]) ⟨rfl, rfl, rfl, trivial⟩ j u hu)
  have l2 := bx (P := Tryz.prog) (w := w) (t := 39) (agg := false) (n := 1) (b := c) (o := 0) (vs := [y]) (v := y) inferInstance rfl rfl (fun j u hu => by
    rw [aX hc]
    exact cAt.get (o := 0) (vs := [y]) ⟨rfl, trivial⟩ j u hu)
  simp [results, show Tryz.f15.results = #[.cell 2 29, .cell 3 39] from rfl, h2, h3, asAddr, l1, l2]
theorem rd_nil {H : Hp} : rd H (.s []) (.slice none 0 0) := ⟨none, 0, 0, rfl, Nat.le_refl _, Nat.zero_le _, .inl rfl⟩
section
variable {t : Tr} {w0 : World} {own : List Seg} {H0 : Hp} {b c : Nat}
theorem fY (hbad : iL t = false) {a : Act} {w : World} {H' : Hp} {x0 x1 x2 y : Value} (h2 : a.tmps[2]? = some (.pointer (some ⟨b, 0, none⟩))) (h3 : a.tmps[3]? = some (.pointer (some ⟨c, 0, none⟩))) (hle : Le H0 H') (hw : St w0 H' ([(b, .cells #[x0, x1, x2] 29 (0, 0))] :: [(c, .cells #[y] 39 (0, 0))] :: own) w) : ftQ t w0 own H0 (.panic [wrg]) (dsA [dfr b c] a) w := by
  show Leaves Tryz.prog Tryz.f15 a.tmps _ [dfr b c] (.panicking [wrg]) w
  refine leaves_cons (f := 44) (args := #[.pointer (some ⟨b, 0, none⟩), .pointer (some ⟨c, 0, none⟩)]) (by simp) (by simp [go_sem]) ?_
  refine (pp b c x0 x1 x2 y w hw).mono ?_
  rintro e u' w' ⟨rfl, rfl, hw'⟩
  show Leaves Tryz.prog Tryz.f15 a.tmps _ [] .returning w'
  refine ⟨_, ll h2 h3 hw' rfl ⟨rfl, rfl, rfl⟩, _, own, H', rfl, ⟨?_, rfl, hle⟩, hw'.tail.tail⟩
  rw [ftR, hbad]
  exact ⟨_, rfl, ⟨⟨_, rfl, rd_nil, rd_nil, rd_nil, trivial⟩, ⟨rfl, rfl⟩, trivial⟩⟩
theorem ft_ret (hgood : iL t = true) {a : Act} {w : World} {H' : Hp} {x0 x1 x2 : Value} (h2 : a.tmps[2]? = some (.pointer (some ⟨b, 0, none⟩))) (h3 : a.tmps[3]? = some (.pointer (some ⟨c, 0, none⟩))) (hle : Le H0 H') (hr : rdL H' (pgD (jPg t)) [x0, x1, x2]) (hw : St w0 H' ([(b, .cells #[x0, x1, x2] 29 (0, 0))] :: [(c, .cells #[.int .i64 0] 39 (0, 0))] :: own) w) : ftQ t w0 own H0 .ret (dsA [dfr b c] a) w := by
  show Leaves Tryz.prog Tryz.f15 a.tmps _ [dfr b c] .returning w
  refine leaves_cons (f := 44) (args := #[.pointer (some ⟨b, 0, none⟩), .pointer (some ⟨c, 0, none⟩)]) (by simp) (by simp [go_sem]) ?_
  refine (pS _ _ w).mono ?_
  rintro e u' w' ⟨rfl, rfl, rfl⟩
  show Leaves Tryz.prog Tryz.f15 a.tmps _ [] .returning w'
  have ho := hr.ones
  refine ⟨_, ll h2 h3 hw rfl ⟨ho x0 (by simp), ho x1 (by simp), ho x2 (by simp)⟩, _, own, H', rfl, ⟨?_, rfl, hle⟩, hw.tail.tail⟩
  rw [ftR, hgood]
  exact ⟨_, rfl, ⟨⟨_, rfl, hr⟩, ⟨rfl, rfl⟩, trivial⟩⟩
end
theorem rev3 {α : Type} (a b c : α) (l : List α) : (c :: b :: a :: l).Perm (a :: b :: c :: l) := (List.Perm.swap b c _).trans ((List.Perm.cons b (List.Perm.swap a c l)).trans (List.Perm.swap a b _))
variable {pk pkF : Pk}
theorem from_tree {t : Tr} {B : Nat} (h : FTk pkF) (hbad : pkF.ψ → iL t = false) (hps : fPg0 t = none → pkF.ψ) (hgo : iL t = false → pkF.ψ) (hT : ∀ H, pkF.hy H → TabH H) (hl : lbO t) (hB : B ≤ 90000000000) (hok : (jPg t).ok B) (hy : ∀ H, pk.hy H → pkF.hy H) : XQ Tryz.prog pk 15 [xd (trd t)] (ftR t) := by
  refine XQ.ofFn (Callable.of Tryz.func15 (by decide) rfl) (fun w0 own H V vals hyH hv => ?_) rfl (by unfold ftR; split <;> rfl)
  have hR : ∀ V H v, (ftR t).rel (fun _ _ => none) H v → (ftR t).rel V H v := fun V H v h => by
    unfold ftR at h ⊢
    split at h
    · rename_i e; rw [if_pos e]; obtain ⟨us, rfl, h⟩ := h; exact ⟨us, rfl, by
        obtain ⟨us⟩ := us
        match us, h with
        | [a, b], h => exact h⟩
    · rename_i e; rw [if_neg e]; obtain ⟨us, rfl, h⟩ := h; exact ⟨us, rfl, by
        obtain ⟨us⟩ := us
        match us, h with
        | [a, b], h => exact h⟩
  match vals, hv with
  | [v], hv =>
  obtain ⟨⟨⟨us⟩, rfl, hus⟩, _⟩ := hv
  match us, hus with
  | [s0, s1], hus =>
  suffices hmain : K.Fn Tryz.prog 15 [.agg #[s0, s1]] w0 H own (ftφ t own H) from fun w hw => (hmain w hw).mono fun e w' ⟨v, o, H', e1, ⟨e2, e3⟩, e4⟩ => ⟨v, o, H', e1, ⟨hR V H' v e2, e3⟩, e4⟩
  intro w hw
  refine calls_of_wp_defers Tryz.func15 rfl ?_
  have hat : At 27 [(0, .agg #[s0, s1])] { tmps := [Value.agg #[s0, s1]].toArray ++ Array.replicate (Tryz.f15.ntmps - [Value.agg #[s0, s1]].toArray.size) undef, defers := [] } := by
    refine ⟨rfl, by simp [show Tryz.f15.ntmps = 27 from Tryz.ntmps15], fun i v hv => ?_⟩
    rcases i with _ | i
    · have e : v = .agg #[s0, s1] := by simp only [lk] at hv; exact (Option.some.inj hv).symm
      rw [e, Array.getElem?_append_left (by simp)]; rfl
    · cases hv
  refine (show TC Tryz.prog w0 27 (ftQ t w0 own H) _ _ own H from ?_) _ w hat hw
  clear hat hw w
  refine TC.seq (TC.region ?_)
  refine TL.box rfl rfl rfl (fun g1 => ?_)
  refine TL.new rfl (fun g2 => ?_)
  refine TL.new rfl (fun g3 => ?_)
  refine TL.nil (TQ.then_n ?_)
  refine TC.seq (TC.region ?_)
  refine TL.makeFunc (vs := []) (us := [_, _]) trivial ⟨rfl, rfl, trivial⟩ rfl ?_
  intro a w ha hw
  refine wpList_plain rfl fun K hK => ?_
  unfold Oper.wp
  have hrun : ∀ op : Oper, op.op = .defer { callee := .value (.tmp 4), args := #[], argTypes := #[] } → (execOp a.eval op).run Tryz.prog w = .ok (.defer (dfr g2 g3)) w := fun op e => by
    simp [execOp, e, ha.ev (show ev _ (.tmp 4) = some (.func (.func 44) #[] #[.pointer (some ⟨g2, 0, none⟩), .pointer (some ⟨g3, 0, none⟩)]) from rfl), resolve, Deferred.ofValue]
  rw [hrun _ rfl]
  refine hK _ _ ?_
  show Code.wp _ _ _ _ _
  obtain ⟨hw, hle, hz⟩ := (hw.perm (own' := [(g1, .cells #[s0, s1] 35 (0, 0))] :: [(g2, .cells #[.slice none 0 0, .slice none 0 0, .slice none 0 0] 29 (0, 0))] :: [(g3, .cells #[.int .i64 0] 39 (0, 0))] :: own) (rev3 ..).symm).freeze
  have hz := hz _ (List.mem_singleton.2 rfl)
  generalize addH H [(g1, .cells #[s0, s1] 35 (0, 0))] = H1 at hw hle hz
  have hus := hus.mono hle
  have hat1 : hAt H1 g1 0 [s0, s1] := by simp only at hz; exact ⟨by simp [cel, hz], by simp [cel, hz], trivial⟩
  have hyF := pkF.mono hle (hy _ hyH)
  have e0 : ({ a with defers := dfr g2 g3 :: a.defers } : Act).put none undef = dsA [dfr g2 g3] a := by rw [ha.defers]; rfl
  rw [e0]
  refine (show TCD [dfr g2 g3] Tryz.prog w0 27 (ftQ t w0 own H) _ _ _ H1 from ?_) a w ha hw
  clear e0 hrun hK K ha
  have o0 := lstO hl 0
  have o1 := lstO hl 1
  have o2 := lstO hl 2
  have q0 : ((∀ u, t.kids[0]? = some u → lb u ≠ cO) ∨ ∃ x ∈ aT t 0, fTd x = none) → pkF.ψ := fun e => hps (by
    have := dQ (t := t) e
    obtain ⟨L, ks⟩ := t
    rw [fPg0, show (bv ks 0 cO).bind (bu fTd) = none from this]; rfl)
  have q1 : ((∀ u, t.kids[1]? = some u → lb u ≠ bZ) ∨ ∃ x ∈ aT t 1, fGb x = none) → pkF.ψ := fun e => hps (by
    have := dQ (t := t) e
    obtain ⟨L, ks⟩ := t
    rw [fPg0, show (bv ks 1 bZ).bind (bu fGb) = none from this]; cases (bv ks 0 cO).bind (bu fTd) <;> rfl)
  have q2 : ((∀ u, t.kids[2]? = some u → lb u ≠ d5) ∨ ∃ x ∈ aT t 2, fFu x = none) → pkF.ψ := fun e => hps (by
    have := dQ (t := t) e
    obtain ⟨L, ks⟩ := t
    rw [fPg0, show (bv ks 2 d5).bind (bu fFu) = none from this]; cases (bv ks 0 cO).bind (bu fTd) <;> cases (bv ks 1 bZ).bind (bu fGb) <;> rfl)
  refine TCD.reg lj ?_
  refine TL.load_immA (n := 2) (vs := [s0, s1]) rfl hat1 rfl rfl ?_
  refine TL.callE (Callable.of Tryz.func46 (by decide) rfl) ((cS h (t := t) (i := 0) (w := cO) (by omega) (fun e => q0 (.inl e))).toFnP (vals := [_, _, _]) h.pc hyF ⟨⟨_, rfl, hus⟩, ⟨rfl, rfl⟩, ⟨rfl, rfl⟩, trivial⟩) ⟨rfl, rfl, rfl, trivial⟩ rfl (fun hψ a w H' ha hle' hw => ⟨ha.defers, fY (hbad hψ) (ha.slots 2 _ rfl) (ha.slots 3 _ rfl) (hle.trans hle') hw⟩) ?_
  rintro r0a _ H0a ⟨hr, rfl, hle'⟩
  have hle := hle.trans hle'; have hus := hus.mono hle'; have hat1 := hAt.mono hle' hat1; have hyF := pkF.mono hle' hyF
  refine TL.callE (Callable.of Tryz.func45 (by decide) rfl) ((back_45 (l := aT t ((0 : Int)).toNat) jTd (fc := 47) (fs := []) (cs := []) o0.1 (fun u hu => ft_def h (aH o0.2 hu) (fun e => q0 (.inr ⟨u, hu, e⟩)))).toFnP (vals := [_, _]) h.pc hyF ⟨hr, ⟨#[], #[], rfl, trivial, trivial⟩, trivial⟩) ⟨rfl, rfl, trivial⟩ rfl (fun hψ a w H' ha hle' hw => ⟨ha.defers, fY (hbad hψ) (ha.slots 2 _ rfl) (ha.slots 3 _ rfl) (hle.trans hle') hw⟩) ?_
  clear hr
  rintro r0b _ H0b ⟨hb0, rfl, hle'⟩
  have hle := hle.trans hle'; have hus := hus.mono hle'; have hat1 := hAt.mono hle' hat1; have hyF := pkF.mono hle' hyF
  have hb0 : rd H0b (.s (((aT t 0).map jTd).map tdD)) r0b := hb0
  refine TL.fieldAddr rfl rfl ?_
  refine TL.store1 0 0 rfl rfl rfl rfl hb0.one (by simp) rfl rfl rfl ?_
  refine TL.nil (TQ.dsq ?_)
  refine TCD.reg lj ?_
  refine TL.load_immA (n := 2) (vs := [s0, s1]) rfl hat1 rfl rfl ?_
  refine TL.callE (Callable.of Tryz.func46 (by decide) rfl) ((cS h (t := t) (i := 1) (w := bZ) (by omega) (fun e => q1 (.inl e))).toFnP (vals := [_, _, _]) h.pc hyF ⟨⟨_, rfl, hus⟩, ⟨rfl, rfl⟩, ⟨rfl, rfl⟩, trivial⟩) ⟨rfl, rfl, rfl, trivial⟩ rfl (fun hψ a w H' ha hle' hw => ⟨ha.defers, fY (hbad hψ) (ha.slots 2 _ rfl) (ha.slots 3 _ rfl) (hle.trans hle') hw⟩) ?_
  rintro r1a _ H1a ⟨hr, rfl, hle'⟩
  have hle := hle.trans hle'; have hus := hus.mono hle'; have hat1 := hAt.mono hle' hat1; have hyF := pkF.mono hle' hyF; have hb0 := rd.mono hle' hb0
  refine TL.callE (Callable.of Tryz.func48 (by decide) rfl) ((back_48 (l := aT t ((1 : Int)).toNat) jGb (fc := 49) (fs := []) (cs := []) o1.1 (fun u hu => ft_global h (aH o1.2 hu) (fun e => q1 (.inr ⟨u, hu, e⟩)))).toFnP (vals := [_, _]) h.pc hyF ⟨hr, ⟨#[], #[], rfl, trivial, trivial⟩, trivial⟩) ⟨rfl, rfl, trivial⟩ rfl (fun hψ a w H' ha hle' hw => ⟨ha.defers, fY (hbad hψ) (ha.slots 2 _ rfl) (ha.slots 3 _ rfl) (hle.trans hle') hw⟩) ?_
  clear hr
  rintro r1b _ H1b ⟨hb1, rfl, hle'⟩
  have hle := hle.trans hle'; have hus := hus.mono hle'; have hat1 := hAt.mono hle' hat1; have hyF := pkF.mono hle' hyF; have hb0 := rd.mono hle' hb0
  have hb1 : rd H1b (.s (((aT t 1).map jGb).map gbD)) r1b := hb1
  refine TL.fieldAddr rfl rfl ?_
  refine TL.store1 0 0 rfl rfl rfl rfl hb1.one (by simp) rfl rfl rfl ?_
  refine TL.nil (TQ.dsq ?_)
  refine TCD.reg lj ?_
  refine TL.load_immA (n := 2) (vs := [s0, s1]) rfl hat1 rfl rfl ?_
  refine TL.callE (Callable.of Tryz.func46 (by decide) rfl) ((cS h (t := t) (i := 2) (w := d5) (by omega) (fun e => q2 (.inl e))).toFnP (vals := [_, _, _]) h.pc hyF ⟨⟨_, rfl, hus⟩, ⟨rfl, rfl⟩, ⟨rfl, rfl⟩, trivial⟩) ⟨rfl, rfl, rfl, trivial⟩ rfl (fun hψ a w H' ha hle' hw => ⟨ha.defers, fY (hbad hψ) (ha.slots 2 _ rfl) (ha.slots 3 _ rfl) (hle.trans hle') hw⟩) ?_
  rintro r2a _ H2a ⟨hr, rfl, hle'⟩
  have hle := hle.trans hle'; have hus := hus.mono hle'; have hat1 := hAt.mono hle' hat1; have hyF := pkF.mono hle' hyF; have hb0 := rd.mono hle' hb0; have hb1 := rd.mono hle' hb1
  refine TL.callE (Callable.of Tryz.func50 (by decide) rfl) ((back_50 (l := aT t ((2 : Int)).toNat) jFu (fc := 51) (fs := []) (cs := []) o2.1 (fun u hu => ft_func h (aH o2.2 hu) (fun e => q2 (.inr ⟨u, hu, e⟩)))).toFnP (vals := [_, _]) h.pc hyF ⟨hr, ⟨#[], #[], rfl, trivial, trivial⟩, trivial⟩) ⟨rfl, rfl, trivial⟩ rfl (fun hψ a w H' ha hle' hw => ⟨ha.defers, fY (hbad hψ) (ha.slots 2 _ rfl) (ha.slots 3 _ rfl) (hle.trans hle') hw⟩) ?_
  clear hr
  rintro r2b _ H2b ⟨hb2, rfl, hle'⟩
  have hle := hle.trans hle'; have hus := hus.mono hle'; have hat1 := hAt.mono hle' hat1; have hyF := pkF.mono hle' hyF; have hb0 := rd.mono hle' hb0; have hb1 := rd.mono hle' hb1
  have hb2 : rd H2b (.s (((aT t 2).map jFu).map fuD)) r2b := hb2
  refine TL.fieldAddr rfl rfl ?_
  refine TL.store1 0 0 rfl rfl rfl rfl hb2.one (by simp) rfl rfl rfl ?_
  refine TL.nil (TQ.dsq ?_)
  refine TCD.drw T.mx lj (fun a w ha hw => ?_)
  have hwn := hw.apart (g2, .cells #[r0b, r1b, r2b] 29 (0, 0)) (by simp)
  have hd : rdL H2b (pgD (jPg t)) [r0b, r1b, r2b] := ⟨hb0, hb1, hb2, trivial⟩
  obtain ⟨hw5, hle5, hz5⟩ := (show St w0 H2b ([(g2, .cells #[r0b, r1b, r2b] 29 (0, 0))] :: [(g3, .cells #[.int .i64 0] 39 (0, 0))] :: own) w from hw).freeze
  have hz5 := hz5 _ (List.mem_singleton.2 rfl)
  generalize addH H2b [(g2, .cells #[r0b, r1b, r2b] 29 (0, 0))] = H5 at hw5 hle5 hz5
  simp only at hz5 hwn
  have hat5 : hAt H5 g2 0 [r0b, r1b, r2b] := ⟨by simp [cel, hz5], by simp [cel, hz5], by simp [cel, hz5], trivial⟩
  have hq5 : rds H5 g2 0 (pgD (jPg t)) := rds.of hat5 (hd.mono hle5)
  have ht5 : rds H5 g1 0 (trd t) := rds.of (hAt.mono hle5 hat1) (hus.mono hle5)
  have hyF5 := pkF.mono hle5 hyF
  have hs2 := ha.slots 2 _ rfl
  have hs3 := ha.slots 3 _ rfl
  have nodst : ∀ (i : Nat) (l : List Oper), (l.all fun o => decide (o.dst ≠ some i)) = true → ∀ (k : Nat) (o : Oper), l.toArray[k]? = some o → o.dst ≠ some i := fun i l hl k o ho => by
    have := List.all_eq_true.1 hl o (by rw [List.getElem?_toArray] at ho; exact List.mem_of_getElem? ho)
    simpa using this
  refine pR 2 3 (nodst 2 _ (by decide)) (nodst 3 _ (by decide)) hs2 hs3 ?_
  have hg2n : ∀ H', Le H5 H' → Le H (offH H' g2) ∧ Le H2b (offH H' g2) ∧ H' g2 = some (.cells #[r0b, r1b, r2b] 29 (0, 0)) := fun H' hle' => by
    have hn0 : H g2 = none := by
      cases hh : H g2 with
      | none => rfl
      | some o => rw [hle _ _ hh] at hwn; cases hwn
    exact ⟨Le.off ((hle.trans hle5).trans hle') hn0, Le.off (hle5.trans hle') hwn, hle' _ _ hz5⟩
  let B5 : Bs := ⟨w0, [(g3, .cells #[.int .i64 0] 39 (0, 0))] :: own, H5, fun _ _ => none, 0, [], pkF, fun _ _ h => absurd rfl h, ⟨by intro g hg; simp at hg, hyF5⟩⟩
  refine OdA (x := { B := B5, N := 27, R := _, pan := ?_ }) (List.range 9) rfl ?_ (by exact ⟨by decide +kernel⟩) (fun _ _ => none) H5 [] _ ⟨?_, rfl, by intro b hb; simp at hb, List.nodup_nil, fun _ _ _ => rfl, Le.refl _, VLe.refl _, fun _ _ _ h => absurd rfl h, by intro b hb; simp at hb, Nat.le_refl _⟩ a w ha (hw5.flat (List.Perm.refl _)) (s := ⟨[(1, .a (.c (.d (.p (trd t))))), (2, .a (.c (.d (.p (pgD (jPg t))))))], [], 0⟩)
  · intro a w H' hψ hd0 hle' hw'
    obtain ⟨l1, l2, l3⟩ := hg2n H' hle'
    refine ⟨by simp, fun p2 p3 => ⟨hd0, ?_⟩⟩
    show ftQ t w0 own H (.panic [pkF.pc]) _ w
    rw [h.pc]
    exact fY (hbad hψ) p2 p3 l1 (St.off hw' l3)
  · refine Gs (T := T) 1000 rfl ?_
    refine Cq (ma hok) rfl rfl rfl rfl rfl ⟨rfl, rfl⟩ ?_
    refine Gs (T := T) 1000 rfl ?_
    refine Cs (fun _ => eV hT hB hok) rfl rfl rfl rfl rfl rfl rfl rfl ?_
    refine Gs (T := T) 1000 rfl ?_
    refine Cs (fun _ => diff_Same _ (dp (jPg t)) t (Nat.le_refl _)) rfl rfl rfl rfl rfl rfl rfl rfl ?_
    refine Gs (T := T) 1000 rfl ?_
    refine Ce (cH h.pc (b := iL t) hgo) rfl rfl rfl rfl rfl ⟨rfl, rfl⟩ ?_
    rintro _ ⟨rfl, hgood⟩
    refine G (T := T) 1000 rfl ?_
    intro V6 H6 sg6 env6 hs6 a6 w6 ha6 hw6
    refine ⟨by simp, fun p2 p3 => ⟨ha6.defers, ?_⟩⟩
    obtain ⟨l1, l2, l3⟩ := hg2n H6 hs6.le
    have hat6 : At 27 [(2, .pointer (some ⟨g2, 0, none⟩)), (3, .pointer (some ⟨g3, 0, none⟩))] a6 := ⟨ha6.defers, ha6.size, fun i v hv => by
      rcases i with _ | _ | _ | _ | i
      · cases hv
      · cases hv
      · rw [p2, ← hv]; rfl
      · rw [p3, ← hv]; rfl
      · cases hv⟩
    refine (show TCD [dfr g2 g3] Tryz.prog w0 27 (ftQ t w0 own H) _ [(2, .pointer (some ⟨g2, 0, none⟩)), (3, .pointer (some ⟨g3, 0, none⟩))] ([(g2, .cells #[r0b, r1b, r2b] 29 (0, 0))] :: [(g3, .cells #[.int .i64 0] 39 (0, 0))] :: own) (offH H6 g2) from ?_) a6 w6 hat6 (St.off hw6.tail l3)
    have hd6 := hd.mono l2
    have ho := hd6.ones
    refine TCD.reg lj ?_
    refine TL.load_ownA 0 0 [r0b, r1b, r2b] rfl rfl rfl ⟨rfl, rfl, rfl, trivial⟩ rfl rfl ?_
    refine TL.storeA 0 0 (vs := [r0b, r1b, r2b]) rfl rfl rfl rfl rfl ⟨ho r0b (by simp), ho r1b (by simp), ho r2b (by simp), trivial⟩ (by simp) rfl rfl rfl ?_
    refine TL.store1 1 0 rfl rfl rfl rfl rfl (by simp) rfl rfl rfl ?_
    refine TL.nil (TQ.dsq ?_)
    exact fun a w ha hw => wp_ret (ft_ret hgood (ha.slots 2 _ rfl) (ha.slots 3 _ rfl) l1 hd6 hw)
  · intro i v hv
    rcases i with _ | _ | _ | i
    · cases hv
    · cases hv
      exact ⟨_, rfl, by simp only [XV.rel, XA.rel, XC.rel, rd]; exact ⟨g1, 0, rfl, ht5⟩⟩
    · cases hv
      exact ⟨_, rfl, by simp only [XV.rel, XA.rel, XC.rel, rd]; exact ⟨g2, 0, rfl, hq5⟩⟩
    · cases hv
end
end Go.Proofs.YtlmahofogapkgaaGreatDoor.X
namespace Go.Proofs
open Go.Shelf
def Tryz.laysCut_ren : Go.Shelf.Ren := ⟨fun | 145 => 145 | 220 => 177 | 219 => 198 | 217 => 179 | 225 => 217 | 224 => 218 | 267 => 219 | 266 => 201 | 314 => 234 | n => n, fun | 9 => 9 | 4 => 4 | 59 => 210 | 3 => 3 | 5 => 5 | 46 => 203 | 146 => 282 | 51 => 279 | n => n, fun | 1 => 0 | n => n⟩
theorem Tryz.laysCut : Go.Proofs.Lays.n145 Tryz.prog Tryz.laysCut_ren := {
  mixed := by kernel_rfl
  f145 := Tryz.func145.trans (congrArg some (by kernel_rfl))
  f217 := Tryz.func179.trans (congrArg some (by kernel_rfl))
  f219 := Tryz.func198.trans (congrArg some (by kernel_rfl))
  f220 := Tryz.func177.trans (congrArg some (by kernel_rfl))
  f224 := Tryz.func218.trans (congrArg some (by kernel_rfl))
  f225 := Tryz.func217.trans (congrArg some (by kernel_rfl))
  f266 := Tryz.func201.trans (congrArg some (by kernel_rfl))
  f267 := Tryz.func219.trans (congrArg some (by kernel_rfl))
  f314 := Tryz.func234.trans (congrArg some (by kernel_rfl))
  t3 := Tryz.underlying3
  a3 := Tryz.isAgg3
  z3 := Tryz.sizeOf3
  v3 := Tryz.zeroValue3
  t4 := Tryz.underlying4
  a4 := Tryz.isAgg4
  z4 := Tryz.sizeOf4
  v4 := Tryz.zeroValue4
  t5 := Tryz.underlying5
  a5 := Tryz.isAgg5
  z5 := Tryz.sizeOf5
  v5 := Tryz.zeroValue5
  t9 := Tryz.underlying9
  a9 := Tryz.isAgg9
  z9 := Tryz.sizeOf9
  v9 := Tryz.zeroValue9
  t46 := Tryz.underlying203
  a46 := Tryz.isAgg203
  z46 := Tryz.sizeOf203
  v46 := Tryz.zeroValue203
  t51 := Tryz.underlying279
  a51 := Tryz.isAgg279
  z51 := Tryz.sizeOf279
  v51 := Tryz.zeroValue279
  t59 := Tryz.underlying210
  a59 := Tryz.isAgg210
  z59 := Tryz.sizeOf210
  v59 := Tryz.zeroValue210
  t146 := Tryz.underlying282
  a146 := Tryz.isAgg282
  z146 := Tryz.sizeOf282
  v146 := Tryz.zeroValue282
  g1 := by kernel_rfl }
def Tryz.laysAtoi_ren : Go.Shelf.Ren := ⟨fun | 172 => 178 | 244 => 199 | 245 => 200 | 247 => 220 | 279 => 221 | 280 => 222 | 281 => 223 | 282 => 224 | 287 => 235 | 316 => 236 | 171 => 140 | 205 => 237 | 321 => 240 | 322 => 241 | 243 => 173 | 246 => 196 | 283 => 213 | 284 => 214 | 285 => 215 | 286 => 216 | 129 => 230 | 317 => 229 | 318 => 231 | 319 => 232 | 320 => 233 | 337 => 238 | 338 => 239 | n => n, fun | 9 => 9 | 3 => 3 | 75 => 234 | 76 => 235 | 4 => 4 | 5 => 5 | 167 => 267 | 37 => 53 | 0 => 0 | 85 => 268 | 2 => 2 | 168 => 270 | 53 => 262 | 175 => 284 | 46 => 203 | 210 => 287 | 127 => 291 | 145 => 294 | 143 => 292 | 21 => 21 | 171 => 261 | 173 => 265 | 212 => 278 | 51 => 279 | 20 => 20 | 213 => 280 | 232 => 295 | 233 => 296 | 80 => 193 | n => n, fun | 15 => 2 | 16 => 3 | 17 => 1 | 18 => 4 | 19 => 5 | n => n⟩
theorem Tryz.laysAtoi : Go.Proofs.LaysC.n172 Tryz.prog Tryz.laysAtoi_ren := {
  mixed := by kernel_rfl
  f129 := Tryz.func230.trans (congrArg some (by kernel_rfl))
  f171 := Tryz.func140.trans (congrArg some (by kernel_rfl))
  f172 := Tryz.func178.trans (congrArg some (by kernel_rfl))
  f205 := Tryz.func237.trans (congrArg some (by kernel_rfl))
  f243 := Tryz.func173.trans (congrArg some (by kernel_rfl))
  f244 := Tryz.func199.trans (congrArg some (by kernel_rfl))
  f245 := Tryz.func200.trans (congrArg some (by kernel_rfl))
  f246 := Tryz.func196.trans (congrArg some (by kernel_rfl))
  f247 := Tryz.func220.trans (congrArg some (by kernel_rfl))
  f279 := Tryz.func221.trans (congrArg some (by kernel_rfl))
  f280 := Tryz.func222.trans (congrArg some (by kernel_rfl))
  f281 := Tryz.func223.trans (congrArg some (by kernel_rfl))
  f282 := Tryz.func224.trans (congrArg some (by kernel_rfl))
  f283 := Tryz.func213.trans (congrArg some (by kernel_rfl))
  f284 := Tryz.func214.trans (congrArg some (by kernel_rfl))
  f285 := Tryz.func215.trans (congrArg some (by kernel_rfl))
  f286 := Tryz.func216.trans (congrArg some (by kernel_rfl))
  f287 := Tryz.func235.trans (congrArg some (by kernel_rfl))
  f316 := Tryz.func236.trans (congrArg some (by kernel_rfl))
  f317 := Tryz.func229.trans (congrArg some (by kernel_rfl))
  f318 := Tryz.func231.trans (congrArg some (by kernel_rfl))
  f319 := Tryz.func232.trans (congrArg some (by kernel_rfl))
  f320 := Tryz.func233.trans (congrArg some (by kernel_rfl))
  f321 := Tryz.func240.trans (congrArg some (by kernel_rfl))
  f322 := Tryz.func241.trans (congrArg some (by kernel_rfl))
  f337 := Tryz.func238.trans (congrArg some (by kernel_rfl))
  f338 := Tryz.func239.trans (congrArg some (by kernel_rfl))
  t0 := Tryz.underlying0
  a0 := Tryz.isAgg0
  z0 := Tryz.sizeOf0
  v0 := Tryz.zeroValue0
  t2 := Tryz.underlying2
  a2 := Tryz.isAgg2
  z2 := Tryz.sizeOf2
  v2 := Tryz.zeroValue2
  t3 := Tryz.underlying3
  a3 := Tryz.isAgg3
  z3 := Tryz.sizeOf3
  v3 := Tryz.zeroValue3
  t4 := Tryz.underlying4
  a4 := Tryz.isAgg4
  z4 := Tryz.sizeOf4
  v4 := Tryz.zeroValue4
  t5 := Tryz.underlying5
  a5 := Tryz.isAgg5
  z5 := Tryz.sizeOf5
  v5 := Tryz.zeroValue5
  t9 := Tryz.underlying9
  a9 := Tryz.isAgg9
  z9 := Tryz.sizeOf9
  v9 := Tryz.zeroValue9
  t20 := Tryz.underlying20
  a20 := Tryz.isAgg20
  z20 := Tryz.sizeOf20
  v20 := Tryz.zeroValue20
  t21 := Tryz.underlying21
  a21 := Tryz.isAgg21
  z21 := Tryz.sizeOf21
  v21 := Tryz.zeroValue21
  t37 := Tryz.underlying53
  a37 := Tryz.isAgg53
  z37 := Tryz.sizeOf53
  v37 := Tryz.zeroValue53
  t46 := Tryz.underlying203
  a46 := Tryz.isAgg203
  z46 := Tryz.sizeOf203
  v46 := Tryz.zeroValue203
  t51 := Tryz.underlying279
  a51 := Tryz.isAgg279
  z51 := Tryz.sizeOf279
  v51 := Tryz.zeroValue279
  t53 := Tryz.underlying262
  a53 := Tryz.isAgg262
  z53 := Tryz.sizeOf262
  v53 := Tryz.zeroValue262
  t75 := Tryz.underlying234
  a75 := Tryz.isAgg234
  z75 := Tryz.sizeOf234
  v75 := Tryz.zeroValue234
  t76 := Tryz.underlying235
  a76 := Tryz.isAgg235
  z76 := Tryz.sizeOf235
  v76 := Tryz.zeroValue235
  t85 := Tryz.underlying268
  a85 := Tryz.isAgg268
  z85 := Tryz.sizeOf268
  v85 := Tryz.zeroValue268
  t127 := Tryz.underlying291
  a127 := Tryz.isAgg291
  z127 := Tryz.sizeOf291
  v127 := Tryz.zeroValue291
  t143 := Tryz.underlying292
  a143 := Tryz.isAgg292
  z143 := Tryz.sizeOf292
  v143 := Tryz.zeroValue292
  t145 := Tryz.underlying294
  a145 := Tryz.isAgg294
  z145 := Tryz.sizeOf294
  v145 := Tryz.zeroValue294
  t167 := Tryz.underlying267
  a167 := Tryz.isAgg267
  z167 := Tryz.sizeOf267
  v167 := Tryz.zeroValue267
  t168 := Tryz.underlying270
  a168 := Tryz.isAgg270
  z168 := Tryz.sizeOf270
  v168 := Tryz.zeroValue270
  t171 := Tryz.underlying261
  a171 := Tryz.isAgg261
  z171 := Tryz.sizeOf261
  v171 := Tryz.zeroValue261
  t173 := Tryz.underlying265
  a173 := Tryz.isAgg265
  z173 := Tryz.sizeOf265
  v173 := Tryz.zeroValue265
  t175 := Tryz.underlying284
  a175 := Tryz.isAgg284
  z175 := Tryz.sizeOf284
  v175 := Tryz.zeroValue284
  t210 := Tryz.underlying287
  a210 := Tryz.isAgg287
  z210 := Tryz.sizeOf287
  v210 := Tryz.zeroValue287
  t212 := Tryz.underlying278
  a212 := Tryz.isAgg278
  z212 := Tryz.sizeOf278
  v212 := Tryz.zeroValue278
  t213 := Tryz.underlying280
  a213 := Tryz.isAgg280
  z213 := Tryz.sizeOf280
  t232 := Tryz.underlying295
  a232 := Tryz.isAgg295
  z232 := Tryz.sizeOf295
  v232 := Tryz.zeroValue295
  t233 := Tryz.underlying296
  a233 := Tryz.isAgg296
  z233 := Tryz.sizeOf296
  v233 := Tryz.zeroValue296
  g15 := by kernel_rfl
  g16 := by kernel_rfl
  g17 := by kernel_rfl
  g18 := by kernel_rfl
  g19 := by kernel_rfl
  t80 := Tryz.underlying193
  a80 := Tryz.isAgg193
  z80 := Tryz.sizeOf193
  v80 := Tryz.zeroValue193
  i0 := by kernel_rfl
  i2 := by kernel_rfl
  i3 := by kernel_rfl
  i4 := by kernel_rfl
  i5 := by kernel_rfl
  i9 := by kernel_rfl
  i20 := by kernel_rfl
  i21 := by kernel_rfl
  i37 := by kernel_rfl
  i46 := by kernel_rfl
  i51 := by kernel_rfl
  i53 := by kernel_rfl
  i75 := by kernel_rfl
  i76 := by kernel_rfl
  i80 := by kernel_rfl
  i85 := by kernel_rfl
  i127 := by kernel_rfl
  i143 := by kernel_rfl
  i145 := by kernel_rfl
  i167 := by kernel_rfl
  i168 := by kernel_rfl
  i171 := by kernel_rfl
  i173 := by kernel_rfl
  i175 := by kernel_rfl
  i210 := by kernel_rfl
  i212 := by kernel_rfl
  i232 := by kernel_rfl
  i233 := by kernel_rfl
  m15 := by kernel_rfl
  m16 := by kernel_rfl
  m17 := by kernel_rfl
  m18 := by kernel_rfl
  m19 := by kernel_rfl
  c0 := by kernel_rfl
  c2 := by kernel_rfl
  c3 := by kernel_rfl
  c4 := by kernel_rfl
  c5 := by kernel_rfl
  c9 := by kernel_rfl
  c20 := by kernel_rfl
  c21 := by kernel_rfl
  c37 := by kernel_rfl
  c46 := by kernel_rfl
  c51 := by kernel_rfl
  c53 := by kernel_rfl
  c75 := by kernel_rfl
  c76 := by kernel_rfl
  c80 := by kernel_rfl
  c85 := by kernel_rfl
  c127 := by kernel_rfl
  c143 := by kernel_rfl
  c145 := by kernel_rfl
  c167 := by kernel_rfl
  c168 := by kernel_rfl
  c171 := by kernel_rfl
  c173 := by kernel_rfl
  c175 := by kernel_rfl
  c210 := by kernel_rfl
  c212 := by kernel_rfl
  c213 := by kernel_rfl
  c232 := by kernel_rfl
  c233 := by kernel_rfl }
def Tryz.laysIdx_ren : Go.Shelf.Ren := ⟨fun | 137 => 147 | 217 => 179 | 266 => 201 | n => n, fun | 9 => 9 | 5 => 5 | 3 => 3 | n => n, fun | n => n⟩
theorem Tryz.laysIdx : Go.Proofs.Lays.n137 Tryz.prog Tryz.laysIdx_ren := {
  mixed := by kernel_rfl
  f137 := Tryz.func147.trans (congrArg some (by kernel_rfl))
  f217 := Tryz.func179.trans (congrArg some (by kernel_rfl))
  f266 := Tryz.func201.trans (congrArg some (by kernel_rfl))
  t3 := Tryz.underlying3
  a3 := Tryz.isAgg3
  z3 := Tryz.sizeOf3
  v3 := Tryz.zeroValue3
  t5 := Tryz.underlying5
  a5 := Tryz.isAgg5
  z5 := Tryz.sizeOf5
  v5 := Tryz.zeroValue5
  t9 := Tryz.underlying9
  a9 := Tryz.isAgg9
  z9 := Tryz.sizeOf9
  v9 := Tryz.zeroValue9 }
end Go.Proofs
namespace Go.Proofs.YtlmahofogapkgaaGreatDoor.X
open Go Go.RowKit Go.Proofs K
theorem idx_cut : ∀ l : List UInt8, Lib.index l [32] = if cy l < l.length then (cy l : Int) else -1
  | [] => rfl
  | b :: r => by
    unfold Lib.index
    rw [idx_cut r]
    by_cases h : b = 32
    · subst h
      simp [cy, List.isPrefixOf]
    · have h1 : ([32] : List UInt8).isPrefixOf (b :: r) = false := by simp [List.isPrefixOf, Ne.symm h]
      have hc : cy (b :: r) = cy r + 1 := by rw [cy, if_neg h]
      rw [h1, hc, List.length_cons]
      by_cases h2 : cy r < r.length
      · have h3 : ((cy r : Int) == -1) = false := by rw [beq_eq_false_iff_ne]; omega
        rw [if_pos h2, if_pos (show cy r + 1 < r.length + 1 by omega)]
        simp [h3]
      · rw [if_neg h2, if_neg (show ¬ cy r + 1 < r.length + 1 by omega)]
        simp
theorem lib_cut (l : List UInt8) : Lib.cut l [32] = (l.take (cy l), l.drop (cy l + 1), decide (cy l < l.length)) := by
  have h0 := cutN_le l
  unfold Lib.cut
  rw [idx_cut]
  by_cases h : cy l < l.length
  · rw [if_pos h, if_pos (by omega), decide_eq_true h]
    simp
  · rw [if_neg h, if_neg (by decide), decide_eq_false h, List.take_of_length_le (by omega), List.drop_of_length_le (by omega)]
theorem pq : ∀ (l : List UInt8) (acc u : Nat), Lib.parseUint10 acc l = .ok u → d8 l acc = some u
  | [], acc, u, h => by simp only [Lib.parseUint10] at h; injection h with h; rw [d8, h]
  | c :: r, acc, u, h => by
    simp only [Lib.parseUint10] at h
    split at h
    · rename_i h1
      split at h
      · cases h
      · split at h
        · cases h
        · rw [d8, if_pos h1]; exact pq r _ u h
    · cases h
def synE {α : Type} : Lib.NumEnd α → Prop
  | .ok _ => False
  | .range => False
  | _ => True
theorem mE : ∀ (l : List UInt8) (acc : Nat), synE (Lib.parseUint10 acc l) → d8 l acc = none
  | [], acc, h => by simp only [Lib.parseUint10] at h; exact h.elim
  | c :: r, acc, h => by
    simp only [Lib.parseUint10] at h
    split at h
    · rename_i h1
      split at h
      · exact h.elim
      · split at h
        · exact h.elim
        · rw [d8, if_pos h1]; exact mE r _ h
    · rename_i h1; rw [d8, if_neg h1]
theorem dig_ge : ∀ (l : List UInt8) (acc u : Nat), d8 l acc = some u → acc ≤ u
  | [], acc, u, h => by simp only [d8] at h; injection h with h; omega
  | c :: r, acc, u, h => by
    simp only [d8] at h
    split at h
    · have := dig_ge r _ u h; omega
    · cases h
theorem mF : ∀ (l : List UInt8) (acc u : Nat), Lib.parseUint10 acc l = .range → d8 l acc = some u → 18446744073709551616 ≤ u
  | [], acc, u, h, _ => by simp only [Lib.parseUint10] at h; cases h
  | c :: r, acc, u, h, hd => by
    simp only [Lib.parseUint10] at h
    split at h
    · rename_i h1
      rw [d8, if_pos h1] at hd
      have h2 := dig_ge r _ u hd
      split at h
      · omega
      · split at h
        · omega
        · exact mF r _ u h hd
    · cases h
theorem sgn_cons (c : UInt8) (r : List UInt8) : sgnV (c :: r) = (dI (if c.toNat = 43 ∨ c.toNat = 45 then r else c :: r)).map fun n : Nat => if c.toNat = 45 then -(n : Int) else (n : Int) := by
  have hc : ∀ k : UInt8, c.toNat = k.toNat → c = k := fun k h => UInt8.toNat_inj.1 h
  by_cases h1 : c.toNat = 45
  · have := hc 45 h1; subst this
    simp only [sgnV]
    show _ = Option.map _ (dI r)
    cases dI r <;> rfl
  · by_cases h2 : c.toNat = 43
    · have := hc 43 h2; subst this
      simp only [sgnV]
      show _ = Option.map _ (dI r)
      cases dI r <;> rfl
    · rw [if_neg (by omega)]
      simp only [if_neg h1]
      unfold sgnV
      split
      · rename_i e; injection e with e _; subst e; exact absurd rfl h1
      · rename_i e; injection e with e _; subst e; exact absurd rfl h2
      · cases dI (c :: r) <;> rfl
theorem mag_ok {l : List UInt8} {u : Nat} (h : Lib.parseMag l = .ok u) : dI l = some u := by
  unfold Lib.parseMag at h
  split at h
  · cases h
  · rename_i h1; rw [dI, if_neg h1]; exact pq _ _ _ h
theorem mag_syn {l : List UInt8} (h : synE (Lib.parseMag l)) : dI l = none := by
  unfold Lib.parseMag at h
  split at h
  · rename_i h1; rw [dI, if_pos h1]
  · rename_i h1; rw [dI, if_neg h1]; exact mE _ _ h
theorem mag_rng {l : List UInt8} {u : Nat} (h : Lib.parseMag l = .range) (hu : dI l = some u) : 18446744073709551616 ≤ u := by
  unfold Lib.parseMag at h
  split at h
  · cases h
  · rename_i h1; rw [dI, if_neg h1] at hu; exact mF _ _ _ h hu
theorem atoi_all (s : ByteArray) : (∃ v, Lib.atoiAll s.data.toList = .ok v ∧ bh s = some v) ∨ ((synE (Lib.atoiAll s.data.toList) ∨ Lib.atoiAll s.data.toList = .range) ∧ bh s = none) := by
  unfold bh
  generalize s.data.toList = l
  cases l with
  | nil => exact .inr ⟨.inl trivial, by simp [sgnV, dI]⟩
  | cons c r =>
    rw [sgn_cons]
    simp only [Lib.atoiAll]
    generalize (if c.toNat = 43 ∨ c.toNat = 45 then r else c :: r) = m
    by_cases hy : synE (Lib.parseMag m)
    · rw [mag_syn hy]
      refine .inr ⟨.inl ?_, rfl⟩
      revert hy
      cases Lib.parseMag m <;> intro hy <;> first | trivial | exact hy.elim
    cases hm : Lib.parseMag m with
    | ok u =>
      rw [mag_ok hm]
      simp only [Option.map_some, Option.bind_some]
      by_cases hc : c.toNat = 45
      · simp only [hc, not_true, false_and, if_false, true_and, if_true]
        by_cases h1 : 9223372036854775808 < u
        · rw [if_pos h1]; exact .inr ⟨.inr rfl, by (try dsimp only); exact if_neg (by omega)⟩
        · rw [if_neg h1]; exact .inl ⟨_, rfl, by (try dsimp only); exact if_pos (by omega)⟩
      · simp only [hc, not_false_iff, true_and, false_and, if_false]
        by_cases h1 : 9223372036854775808 ≤ u
        · rw [if_pos h1]; exact .inr ⟨.inr rfl, by (try dsimp only); exact if_neg (by omega)⟩
        · rw [if_neg h1]; exact .inl ⟨_, rfl, by (try dsimp only); exact if_pos (by omega)⟩
    | range =>
      refine .inr ⟨.inr rfl, ?_⟩
      cases hu : dI m with
      | none => rfl
      | some u =>
        have := mag_rng hm hu
        simp only [Option.map_some, Option.bind_some]
        split <;> (try dsimp only)
        · exact if_neg (by omega)
        · exact if_neg (by omega)
    | _ => rw [hm] at hy; exact absurd trivial hy
theorem hex_at (b : UInt8) : Lib.indexByte [48, 49, 50, 51, 52, 53, 54, 55, 56, 57, 97, 98, 99, 100, 101, 102] b = match bV b with | some d => (d : Int) | none => -1 := by
  have h : ∀ n, n < 256 → Lib.indexByte [48, 49, 50, 51, 52, 53, 54, 55, 56, 57, 97, 98, 99, 100, 101, 102] (UInt8.ofNat n) = match bV (UInt8.ofNat n) with | some d => (d : Int) | none => -1 := by decide +kernel
  have := h b.toNat b.toNat_lt
  rwa [UInt8.ofNat_toNat] at this
section
open Go Go.RowKit Go.Proofs K
structure VarH (H : Hp) : Prop where
  mx : ∃ m e fz, H 0 = some (.cells #[.int .i64 m] e fz)
  sy : ∃ ev e fz, H 2 = some (.cells #[ev] e fz) ∧ (ev = .nilIface ∨ ∃ te pe, ev = .iface te pe)
  rg : ∃ ev e fz, H 3 = some (.cells #[ev] e fz) ∧ (ev = .nilIface ∨ ∃ te pe, ev = .iface te pe)
theorem VarH.mono {H H' : Hp} (hl : Le H H') (h : VarH H) : VarH H' := by
  obtain ⟨⟨m, e, fz, h1⟩, ⟨ev, e2, fz2, h2, h3⟩, ⟨ev3, e3, fz3, h4, h5⟩⟩ := h
  exact ⟨⟨m, e, fz, hl _ _ h1⟩, ⟨ev, e2, fz2, hl _ _ h2, h3⟩, ⟨ev3, e3, fz3, hl _ _ h4, h5⟩⟩
theorem St.below {w0 w w' : World} {own : List Seg} {H : Hp} (h : St w0 H own w) (b : Below w.heap.size w w') : St w0 H own w' := by
  have up : ∀ {k : Nat} {o : Obj}, w.heap[k]? = some o → w'.heap[k]? = some o := fun {k} {o} hk => by rw [b.block k (Array.getElem?_eq_some_iff.1 hk).1, hk]
  exact ⟨b.os.trans h.os, ⟨b.tape.trans h.tape.1, Nat.zero_le _⟩, b.output.trans h.output, fun k o hk => up (h.imm k o hk), fun p hp => up (h.own_at p hp), h.apart, h.nodup⟩
section
variable {P : Program} {pk : Pk} {f : FuncId} {args : List XV} {Ψ : XV → Prop}
theorem XP.ofFn (hcl : Callable P f) (hp : ∀ r, Ψ r → pure r = true) (h : ∀ w0 own H V vals, pk.hy H → XVs.rels V H args vals → K.Fn P f vals w0 H own (fun r o H' => (∃ R, Ψ R ∧ R.rel V H' r) ∧ o = own ∧ Le H H')) (ha : XVs.all (fun _ _ => false) args = true := by rfl) : XP P pk f args Ψ := by
  refine ⟨ha, hp, hcl, ?_⟩
  rintro ⟨w0, own, H, V, nx0, F, pk', v0, hF⟩ rfl rfl rfl sg vals hr hh ht w hw
  have hsg := HR0 hh
  subst hsg
  refine Calls.mono (h w0 ([] :: own) H V vals hF.2 hr w hw) ?_
  rintro e w' ⟨r, o, H', rfl, ⟨⟨R, q1, h1⟩, rfl, h2⟩, h3⟩
  have hn : ∀ g t, V g t = none := fun g t => by
    cases hv : V g t with
    | none => rfl
    | some i => have := (v0 g t (by rw [hv]; simp)).2; simp [aa] at this
  exact .inl ⟨r, R, [], V, H', [], rfl, ⟨q1, rfl⟩, h1, rfl, by intro b hb; simp at hb, List.nodup_nil, by intro b hb; simp at hb, VLe.refl _, fun g t _ => hn g t, fun g t _ k => absurd (hn g t) k, h2, h3⟩
end
variable {pk : Pk}
theorem std_Cut (hV : ∀ H, pk.hy H → VarH H) {s : ByteArray} (hs : s.size ≤ 1000000000) : XQ Tryz.prog pk 145 [xs s, xs ⟨#[32]⟩] (.t [xs' (ad s), xs' (ae s), xb' (decide (cy s.data.toList < s.data.toList.length))]) := XQ.ofFn inferInstance (fun w0 own H V vals hy hv => by
  match vals, hv with
  | [v, u], hv =>
    have := aO hv.1; subst this
    have := aO hv.2.1; subst this
    obtain ⟨m, e, fz, hm⟩ := (hV H hy).mx
    intro w hw
    have hb := hw.imm _ _ hm
    refine Calls.mono (Any.strings_Cut Tryz.laysCut s ⟨#[32]⟩ m w (by omega) (by show w.cell? ⟨0, 0, none⟩ = _; simp [World.cell?, hb])) ?_
    rintro e w' ⟨rfl, n, rfl⟩
    rw [lib_cut]
    refine ⟨_, own, H, rfl, ⟨⟨_, rfl, ?_⟩, rfl, Le.refl _⟩, ⟨hw.os, ⟨hw.tape.1, Nat.zero_le _⟩, hw.output, hw.imm, hw.own_at, hw.apart, hw.nodup⟩⟩
    skip
    exact ⟨⟨rfl, rfl⟩, ⟨rfl, rfl⟩, ⟨rfl, rfl⟩, trivial⟩)
theorem std_Atoi (hV : ∀ H, pk.hy H → VarH H) {s : ByteArray} (hs : s.size ≤ 1000000000) : XP Tryz.prog pk 178 [xs s] (fun r => (∃ n, bh s = some n ∧ r = .t [xi' n, .c (.d (.c .nilIface))]) ∨ (bh s = none ∧ ∃ n t v, r = .t [xi' n, .c (.d (.c (.iface t v)))])) := XP.ofFn inferInstance (by rintro r (⟨n, _, rfl⟩ | ⟨_, n, t, v, rfl⟩) <;> rfl) (fun w0 own H V vals hy hv => by
  match vals, hv with
  | [v], hv =>
    have := aO hv.1; subst this
    obtain ⟨ev, e, fz, hm, hev⟩ := (hV H hy).sy
    obtain ⟨ev2, e2, fz2, hm2, hev2⟩ := (hV H hy).rg
    intro w hw
    have hb := hw.imm _ _ hm
    have hb2 := hw.imm _ _ hm2
    rcases atoi_all s with ⟨v, h1, h2⟩ | ⟨h1 | h1, h2⟩
    · refine Calls.mono (Any.strconv_Atoi_ok Tryz.laysAtoi s (by omega) v h1 w) ?_
      rintro e w' ⟨rfl, hw'⟩
      refine ⟨_, own, H, rfl, ⟨⟨_, .inl ⟨v, h2, rfl⟩, ⟨_, rfl, ?_⟩⟩, rfl, Le.refl _⟩, ?_⟩
      · skip
        exact ⟨⟨rfl, rfl⟩, ⟨rfl, rfl⟩, trivial⟩
      · rcases hw' with rfl | ⟨t, rfl⟩
        · exact hw
        · exact St.below hw (Lib.bytesWorld_below _ _ _)
    · refine Calls.mono (Any.strconv_Atoi_syntax Tryz.laysAtoi s (by omega) (by revert h1; cases Lib.atoiAll s.data.toList <;> intro h1 <;> first | rfl | exact h1.elim) ev w (by show w.cell? ⟨2, 0, none⟩ = _; simp [World.cell?, hb]) hev) ?_
      rintro e w' ⟨N, rfl, _, _, hbl⟩
      refine ⟨_, own, H, rfl, ⟨⟨_, .inr ⟨h2, 0, Tryz.laysAtoi_ren.t 168, .pointer (some ⟨N, 0, none⟩), rfl⟩, ⟨_, rfl, ?_⟩⟩, rfl, Le.refl _⟩, St.below hw hbl⟩
      skip
      exact ⟨⟨rfl, rfl⟩, ⟨rfl, rfl⟩, trivial⟩
    · refine Calls.mono (Any.strconv_Atoi_range Tryz.laysAtoi s (by omega) h1 ev2 w (by show w.cell? ⟨3, 0, none⟩ = _; simp [World.cell?, hb2]) hev2) ?_
      rintro e w' ⟨N, rfl, _, _, hbl⟩
      refine ⟨_, own, H, rfl, ⟨⟨_, .inr ⟨h2, Lib.atoiSat s.data.toList, Tryz.laysAtoi_ren.t 168, .pointer (some ⟨N, 0, none⟩), rfl⟩, ⟨_, rfl, ?_⟩⟩, rfl, Le.refl _⟩, St.below hw hbl⟩
      skip
      exact ⟨⟨rfl, rfl⟩, ⟨rfl, rfl⟩, trivial⟩)
theorem std_Idx (b : UInt8) : XQ Tryz.prog pk 147 [xs ⟨#[48, 49, 50, 51, 52, 53, 54, 55, 56, 57, 97, 98, 99, 100, 101, 102]⟩, xv (.int .u8 (b.toNat : Int))] (xi (hexI b)) := XQ.ofFn inferInstance (fun w0 own H V vals hy hv => by
  match vals, hv with
  | [v, u], hv =>
    have := aO hv.1; subst this
    have := aO hv.2.1; subst this
    intro w hw
    refine Calls.mono (Any.strings_IndexByte Tryz.laysIdx _ (b.toNat : Int) w) ?_
    rintro e w' ⟨rfl, rfl⟩
    rw [show ((b.toNat : Int).toNat.toUInt8) = b by simp, show (ByteArray.mk #[48, 49, 50, 51, 52, 53, 54, 55, 56, 57, 97, 98, 99, 100, 101, 102]).data.toList = [48, 49, 50, 51, 52, 53, 54, 55, 56, 57, 97, 98, 99, 100, 101, 102] from rfl, hex_at]
    refine ⟨_, own, H, rfl, ⟨?_, rfl, Le.refl _⟩, hw⟩
    simp only [XV.rel, XA.rel, XC.rel, rd, hexI]
    exact ⟨rfl, rfl⟩)
theorem ftk_of (hV : ∀ H, pk.hy H → VarH H) (hp : pk.pc = wrg) : FTk pk := ⟨hp, fun _ hs => std_Cut hV hs, fun _ hs => std_Atoi hV hs, std_Idx⟩
end
section
open Go Go.RowKit Go.Proofs K
variable {pk : Pk}
theorem PrG'.of {p : Par} (h : dL p.nm = true ∧ rTy p.ty = true ∧ p.ty.ok ∧ p.ty.size ≤ 8) : cv p = true ∧ p.ok BG := by
  obtain ⟨h1, h2, h3, h4⟩ := h
  have hi := nB h1
  have := al hi
  exact ⟨by rw [cv, hi, h2]; rfl, by omega, h3, by unfold BG; omega⟩
theorem FR.facts {f : Fu} (h : FR f) {nm : ByteArray} (hn : aj nm = true) {b : List Sm} (hb : SGs 399999999 b) {fl : Bool} {x y : Int} (hf : fl = false ∧ x = 0 ∧ y = 0) : rFu ⟨nm, f.ps, f.res, b, fl, x, y⟩ = true ∧ Fu.ok BG ⟨nm, f.ps, f.res, b, fl, x, y⟩ := by
  obtain ⟨rfl, rfl, rfl⟩ := hf
  have hs := al hn
  have hps : f.ps.all cv = true := List.all_eq_true.2 fun p hp => (PrG'.of (h.ps p hp)).1
  have hres : (aD f.res 7 || rTy f.res) = true := by rcases h.res.1 with q | q <;> rw [q] <;> simp
  refine ⟨?_, by show nm.size ≤ _; omega, by show f.ps.length ≤ _; have := h.pl; unfold BG; omega, fun p hp => (PrG'.of (h.ps p hp)).2, h.res.2.1, by show f.res.size ≤ _; have := h.res.2.2; unfold BG; omega, hb.o, Nat.le_trans hb.s (by unfold BG; omega), ⟨by show (_ : Int) ≤ 0; omega, by show (0 : Int) ≤ _; omega⟩, by show (0 : Int) ≤ 0; omega, by show (0 : Int) ≤ _; omega⟩
  show (aj nm && f.ps.all cv && (aD f.res 7 || rTy f.res) && (decide ((0 : Int) = 0 ∧ (0 : Int) = 0) && cp b)) = true
  rw [hn, hps, hres, hb.r]; rfl
theorem MP.facts {p : Pg} (h : MP p) : rPg p = true ∧ p.ok BG := by
  obtain ⟨tn, s1, s2, fs, hd, ht, h1, h2, rfl, hl1, hl2, hn, hF, hh⟩ := h
  have hts : ∀ x ∈ iB tn, TdG x := fun x hx => by
    unfold iB at hx
    (repeat' split at hx) <;> simp only [List.mem_cons, List.not_mem_nil, or_false] at hx
    · rw [hx]; exact tdS_G
    · rcases hx with rfl | rfl
      · exact tdS_G
      · exact tdU_G
  have hgs : ∀ x ∈ fT tn ++ [gbT s1, gbW s2], GbG x := fun x hx => by
    rcases List.mem_append.1 hx with hx | hx
    · unfold fT at hx
      rcases List.mem_append.1 hx with hx | hx
      · exact gbs0_G x hx
      · (repeat' split at hx) <;> simp only [List.mem_cons, List.not_mem_nil, or_false] at hx
        · rw [hx]; exact gbS_G
        · rcases hx with rfl | rfl
          · exact gbS_G
          · exact gbU_G
    · simp only [List.mem_cons, List.not_mem_nil, or_false] at hx
      rcases hx with rfl | rfl
      · exact gbT_G h1
      · exact gbW_G h2
  have hfs : ∀ x ∈ fs ++ hd, FuG x := fun x hx => by
    rcases List.mem_append.1 hx with hx | hx
    · obtain ⟨a, b⟩ := hF x hx
      exact FR.facts a (nC a.nm) b a.body.2
    · rcases hh with rfl | ⟨b, rfl, hb⟩
      · cases hx
      · rw [List.mem_singleton.1 hx]
        exact FR.facts (f := ⟨⟨#[109, 97, 105, 110]⟩, [], .mk 7 eS 0 [], [], false, 0, 0⟩) (nJ (by decide) (fun _ h => by cases h) (Nat.zero_le _) (by omega)) (nm := intN) (by decide +kernel) (hb.mono (by omega)) ⟨rfl, rfl, rfl⟩
  have l1 : (iB tn).length ≤ 2 := by unfold iB; (repeat' split) <;> decide
  have l0 : (fT tn).length ≤ 7 := by unfold fT; (repeat' split) <;> decide
  have l2 : (fT tn ++ [gbT s1, gbW s2]).length ≤ 9 := by rw [List.length_append]; simp only [List.length_cons, List.length_nil]; omega
  have l3 : (fs ++ hd).length ≤ 5 := by
    rw [List.length_append]
    rcases hh with rfl | ⟨b, rfl, _⟩ <;> simp only [List.length_cons, List.length_nil] <;> omega
  exact pg_G l1 l2 l3 hts hgs hfs
theorem ints_one (l : List Int) : ∀ r ∈ l.map iu, r.length = 1 := fun r hr => by
  obtain ⟨s, _, rfl⟩ := List.mem_map.1 hr
  rfl
theorem pr {l : List Int} (h1 : ∀ n ∈ l, I64 n) : XP Tryz.prog pk 9 [xr (l.map iu)] (fun r => ∃ p, r = xd (pgD p) ∧ MP p) := by
  refine XP.en Tryz.func9 Tryz.ntmps9 (by rintro _ ⟨p, rfl, _⟩; rfl) (fun w0 own H V v0 hf => ?_)
  refine Ln 0 rfl (fun hl => ?_); rw [List.length_map] at hl
  refine G (T := T) 7 rfl ?_
  have hm : (min ((l.map iu).length : Int) 120) = ((min l.length 120 : Nat) : Int) := by rw [List.length_map]; omega
  refine Sd (T := T) (li := none) 0 (min l.length 120) rfl ⟨_, _, rfl, rfl⟩ rfl rfl rfl ⟨rfl, rfl⟩ rfl hm (Nat.zero_le _) (by rw [List.length_map]; omega) (ints_one l) ?_
  rw [List.drop_zero, Nat.sub_zero, ← List.map_take]
  refine G (T := T) 1000 rfl ?_
  refine Ce (mk_Made (l := l.take (min l.length 120)) (fun n hn => h1 n (List.mem_of_mem_take hn)) (by rw [List.length_take]; omega)) rfl rfl rfl rfl rfl ⟨rfl, rfl⟩ ?_
  rintro _ ⟨p, rfl, hp⟩
  refine G (T := T) 1000 rfl ?_
  exact Fp (T := T) (xd (pgD p)) ⟨p, rfl, hp⟩ rfl rfl
end
section
open Go Go.RowKit Go.Proofs K
variable {pk : Pk}
end
section
open Go Go.RowKit Go.Proofs K
variable {pk : Pk}
theorem len0 {α : Type} {f : α → List D} {l : List α} : decide (((l.map f).length : Int) = 0) = decide (l.length = 0) := by rw [List.length_map]; exact decide_eq_decide.2 (by omega)
theorem pT (t : Ty4) : XQ Tryz.prog pk 158 [xd (tyD t)] (xb (aD t 0)) := by
  obtain ⟨k', nm, n, ts⟩ := t
  rw [ir]
  refine XQ.en Tryz.func158 Tryz.ntmps158 (fun w0 own H V v0 hf => ?_)
  refine Gs (T := T) 100001 rfl ?_
  refine (FzTo.bz 0 rfl).c ?_
  refine Gs (T := T) 1000 rfl ?_
  refine Fe (T := T) rfl ?_
  show xb (_ && decide (((ts.map tyD).length : Int) = 0)) = _
  rw [len0]; rfl
theorem eh : ∀ (m : Nat) {t : Ty4}, t.size ≤ m → t.ok → XQ Tryz.prog pk 30 [xd (tyD t)] (xb (rTy t)) := by
  intro m
  induction m with
  | zero => intro t hm; have := t.size_pos; omega
  | succ m ih =>
  intro t hm hok
  obtain ⟨k, nm, n, ts⟩ := t
  obtain ⟨hk, hn, hn2, hts⟩ := hok
  rw [ir]
  have hsz : (Ty4.mk k nm n ts).size = Ty4.sizes ts + 1 := rfl
  obtain ⟨u0, hu0⟩ : ∃ u0 : Ty4, ts.length = 1 → ts = [u0] := by
    match ts with
    | [] => exact ⟨.mk 0 eS 0 [], fun h => by simp at h⟩
    | [x] => exact ⟨x, fun _ => rfl⟩
    | _ :: _ :: _ => exact ⟨.mk 0 eS 0 [], fun h => by simp at h⟩
  have l1 : decide (((ts.map tyD).length : Int) = 1) = true → ts = [u0] := fun h => hu0 (by have := of_decide_eq_true h; rw [List.length_map] at this; omega)
  have hu : decide (((ts.map tyD).length : Int) = 1) = true → (ts.map tyD)[0]? = some (tyD u0) := fun h => by rw [l1 h]; rfl
  have ihu : decide (((ts.map tyD).length : Int) = 1) = true → XQ Tryz.prog pk 30 [xd (tyD u0)] (xb (rTy u0)) := fun h => by
    have e := l1 h
    subst e
    exact ih (by simp only [Ty4.sizes] at hsz; omega) hts.1
  have last : k = 5 ∨ k = 6 → ((((decide (nm = ⟨#[]⟩) && decide (0 ≤ n)) && decide (n ≤ if k = 6 then 64 else 65535)) && decide (((ts.map tyD).length : Int) = 1)) && rTy u0) = rTy (.mk k nm n ts) := fun hq => by
    rw [ty_eq (.inr ⟨hq, rfl, rfl⟩)]
    cases hl : decide (((ts.map tyD).length : Int) = 1) with
    | true => rw [List.length_map] at hl; rw [hl, l1 (by rw [List.length_map]; exact hl)]; simp
    | false => rw [List.length_map] at hl; rw [hl]; simp
  refine XQ.en Tryz.func30 Tryz.ntmps30 (fun w0 own H V v0 hf => ?_)
  refine Gs (T := T) 100001 rfl ?_
  refine (FzTo.bz 0 rfl).c ?_
  refine Gs (T := T) 1000 rfl ?_
  refine If rfl (fun h => ?_) (fun h => ?_)
  · have h9 := of_decide_eq_true h
    refine Gs (T := T) 1000 rfl ?_
    refine IfT rfl h ?_
    refine Gs (T := T) 1000 rfl ?_
    exact Fe (T := T) rfl (by
      rw [rTy, if_neg (by omega), if_pos (by omega)]
      show xb (_ && decide (((ts.map tyD).length : Int) = 0)) = _
      rw [len0])
  have h2 := of_decide_eq_false h
  refine Gs (T := T) 1000 rfl ?_
  refine If rfl (fun h => ?_) (fun h => ?_)
  · have h9 := of_decide_eq_true h
    refine Gs (T := T) 1000 rfl ?_
    refine IfT rfl h ?_
    refine Gs (T := T) 1000 rfl ?_
    exact Fe (T := T) rfl (by
      rw [rTy, if_neg (by omega), if_pos (by omega)]
      show xb (_ && decide (((ts.map tyD).length : Int) = 0)) = _
      rw [len0])
  have h1 := of_decide_eq_false h
  refine Gs (T := T) 1000 rfl ?_
  refine If rfl (fun h => ?_) (fun h => ?_)
  · have h9 := of_decide_eq_true h
    refine Gs (T := T) 1000 rfl ?_
    exact Fe (T := T) rfl (by
      rw [rTy, if_neg (by omega), if_pos (by omega)]
      show xb (_ && decide (((ts.map tyD).length : Int) = 0)) = _
      rw [len0])
  have h3 := of_decide_eq_false h
  refine Gs (T := T) 1000 rfl ?_
  refine If rfl (fun h => ?_) (fun h => ?_)
  · have h9 := of_decide_eq_true h
    refine Gs (T := T) 1000 rfl ?_
    refine Cq (bW (by omega)) rfl rfl rfl rfl rfl ⟨rfl, rfl⟩ ?_
    refine Gs (T := T) 1000 rfl ?_
    exact Fe (T := T) rfl (by
      rw [rTy, if_pos h9]
      show xb (_ && decide (((ts.map tyD).length : Int) = 0)) = _
      rw [len0])
  have h4 := of_decide_eq_false h
  refine Gs (T := T) 1000 rfl ?_
  refine If rfl (fun h => ?_) (fun h => ?_)
  · have h9 := of_decide_eq_true h
    refine Gs (T := T) 1000 rfl ?_
    refine IfT rfl h ?_
    refine G (T := T) 1000 rfl ?_
    refine Cf [1] (fun (_ : Unit) r => (4, xi (if k = 6 then 64 else 65535)) :: r) (fun _ => []) 1 (fun _ => True) rfl ?_ ?_
    · refine If rfl (fun h => ?_) (fun h => ?_)
      · rw [if_pos (of_decide_eq_true h)]
        refine G (T := T) 1000 rfl ?_
        exact Dn () trivial
      · rw [if_neg (of_decide_eq_false h)]
        refine G (T := T) 1000 rfl ?_
        exact Dn () trivial
    rintro _ -
    refine Gs (T := T) 1000 rfl ?_
    refine Is (T := T) 0 (tyD u0) (fun h => ⟨hu (Bool.and_eq_true_iff.1 h).2, rfl⟩) rfl rfl rfl rfl rfl rfl rfl rfl ?_
    refine Gs (T := T) 1000 rfl ?_
    refine Cs (fun h => ihu (Bool.and_eq_true_iff.1 h).2) rfl rfl rfl rfl rfl rfl rfl rfl ?_
    refine Gs (T := T) 1000 rfl ?_
    exact Fe (T := T) rfl (congrArg xb (last (by omega)))
  have h5 := of_decide_eq_false h
  refine Gs (T := T) 1000 rfl ?_
  refine If rfl (fun h => ?_) (fun h => ?_)
  · have h9 := of_decide_eq_true h
    refine G (T := T) 1000 rfl ?_
    refine Cf [1] (fun (_ : Unit) r => (4, xi (if k = 6 then 64 else 65535)) :: r) (fun _ => []) 1 (fun _ => True) rfl ?_ ?_
    · refine If rfl (fun h => ?_) (fun h => ?_)
      · rw [if_pos (of_decide_eq_true h)]
        refine G (T := T) 1000 rfl ?_
        exact Dn () trivial
      · rw [if_neg (of_decide_eq_false h)]
        refine G (T := T) 1000 rfl ?_
        exact Dn () trivial
    rintro _ -
    refine Gs (T := T) 1000 rfl ?_
    refine Is (T := T) 0 (tyD u0) (fun h => ⟨hu (Bool.and_eq_true_iff.1 h).2, rfl⟩) rfl rfl rfl rfl rfl rfl rfl rfl ?_
    refine Gs (T := T) 1000 rfl ?_
    refine Cs (fun h => ihu (Bool.and_eq_true_iff.1 h).2) rfl rfl rfl rfl rfl rfl rfl rfl ?_
    refine Gs (T := T) 1000 rfl ?_
    exact Fe (T := T) rfl (congrArg xb (last (by omega)))
  have h6 := of_decide_eq_false h
  refine Gs (T := T) 1000 rfl ?_
  exact Fe (T := T) rfl (congrArg xb (by rw [rTy, if_neg (by omega), if_neg (by omega), if_neg (by omega)]))
theorem cJ {α : Type} {p : α → Bool} {l : List α} {j : Nat} {y : α} (h : (l.take j).all p = true) (hy : l[j]? = some y) (hp : p y = true) : (l.take (j + 1)).all p = true := by
  rw [List.take_succ, hy, List.all_append, h]; simp [hp]
theorem cg {α : Type} {p : α → Bool} {l : List α} {y : α} (hy : y ∈ l) (hp : p y = false) : l.all p = false := by
  rw [Bool.eq_false_iff]; intro h
  rw [List.all_eq_true.1 h y hy] at hp; cases hp
theorem lm {l : List Par} (hl : l.length ≤ 100000000000) (hok : ∀ p ∈ l, p.nm.size ≤ 1000000 ∧ p.ty.ok) : XQ Tryz.prog pk 29 [xr (l.map paD)] (xb (l.all cv)) := by
  refine XQ.en Tryz.func29 Tryz.ntmps29 (fun w0 own H V v0 hf => ?_)
  refine G (T := T) 1000 rfl ?_
  refine Lq [0] (fun q r => (2, xb false) :: (3, xi (q : Nat)) :: r) (fun q => []) 0 (fun q => q ≤ l.length ∧ (l.take q).all cv = true) (fun q => l.length - q) 0 rfl ⟨Nat.zero_le _, rfl⟩ ?_
  rintro j ⟨hj, hI⟩
  refine G (T := T) 1000 rfl ?_
  refine If rfl (fun h => ?_) (fun h => ?_)
  · have hjl := of_decide_eq_true h; rw [List.length_map] at hjl
    obtain ⟨y, hy⟩ := ah (l := l) (j := j) (by omega)
    have hym := List.mem_of_getElem? hy
    obtain ⟨o1, o2⟩ := hok y hym
    refine G (T := T) 1000 rfl ?_
    refine Ix (T := T) j (ab hy) rfl rfl rfl rfl ⟨rfl, rfl⟩ rfl rfl ?_
    refine G (T := T) 1000 rfl ?_
    refine Cq (bW (by omega)) rfl rfl rfl rfl rfl ⟨rfl, rfl⟩ ?_
    refine G (T := T) 1000 rfl ?_
    refine Ix (T := T) j (ab hy) rfl rfl rfl rfl ⟨rfl, rfl⟩ rfl rfl ?_
    refine G (T := T) 1000 rfl ?_
    refine Cq (eh _ (Nat.le_refl _) o2) rfl rfl rfl rfl rfl ⟨rfl, rfl⟩ ?_
    refine Gs (T := T) 1000 rfl ?_
    have e9 : (!aj y.nm || !rTy y.ty) = !cv y := by rw [cv, Bool.not_and]
    refine If rfl (fun h => ?_) (fun h => ?_)
    · rw [e9] at h
      refine G (T := T) 1000 rfl ?_
      exact Fe (T := T) rfl (congrArg xb (cg hym (by simpa using h)).symm)
    · rw [e9] at h
      refine G (T := T) 1000 rfl ?_
      exact Nq (j + 1) ⟨by omega, cJ hI hy (by simpa using h)⟩ (by show _ - (j + 1) < _ - j; omega)
  · have hjl := of_decide_eq_false h; rw [List.length_map] at hjl
    refine G (T := T) 1000 rfl ?_
    rw [List.take_of_length_le (by omega)] at hI
    exact Fe (T := T) rfl (congrArg xb hI.symm)
end
section
open Go Go.RowKit Go.Proofs K
variable {pk : Pk}
theorem ref_shape (k : Int) (a b c : D) : XQ Tryz.prog pk 181 [xd [.c (.int .i64 k), a, b, c]] (xd [.c (.int .i64 (shp k).1), .c (.int .i64 (shp k).2.1), .c (.int .i64 (shp k).2.2)]) := by
  refine XQ.en Tryz.func181 Tryz.ntmps181 (fun w0 own H V v0 hf => ?_)
  refine G (T := T) 100001 rfl ?_
  refine (FzTo.bz 0 rfl).c ?_
  refine G (T := T) 1000 rfl ?_
  iterate 15
    refine If rfl (fun h => ?_) (fun h => ?_)
    rotate_left
    have := of_decide_eq_false h
    refine G (T := T) 1000 rfl ?_
  · rw [show shp k = (-1, 0, 0) from by unfold shp; (repeat rw [if_neg (by omega)])]
    exact Fq (T := T) rfl rfl
  all_goals
    have h9 := of_decide_eq_true h
    subst h9
    refine G (T := T) 1000 rfl ?_
    first
      | exact Fq (T := T) rfl rfl
      | (refine IfT rfl h ?_; refine G (T := T) 1000 rfl ?_; exact Fq (T := T) rfl rfl)
end
section
open Go Go.RowKit Go.Proofs K
variable {pk : Pk}
theorem pU : XQ Tryz.prog pk 202 [] (xr (levL.map fun l => [D.s (l.map bM)])) := by
  refine XQ.en Tryz.func202 Tryz.ntmps202 (fun w0 own H V v0 hf => ?_)
  refine G (T := T) 1000 rfl ?_
  exact Fq (T := T) rfl rfl
def rankI (s : ByteArray) : Int := idxI (aE s) levL
theorem rank_lev (s : ByteArray) : decide (0 ≤ rankI s) = aE s opsL := by rw [ops_lev]; exact jn _ _
theorem ref_rank (s : ByteArray) : XQ Tryz.prog pk 182 [xs s] (xi (rankI s)) := by
  refine XQ.en Tryz.func182 Tryz.ntmps182 (fun w0 own H V v0 hf => ?_)
  refine G (T := T) 1000 rfl ?_
  refine Cq pU rfl rfl rfl rfl rfl ⟨rfl, rfl⟩ ?_
  have hl : levL.length = 8 := rfl
  have hb : ∀ l ∈ levL, l.length ≤ 1000000 := by decide
  rw [rankI]
  generalize levL = L at hl hb ⊢
  refine G (T := T) 1000 rfl ?_
  refine Lq [0, 3] (fun q r => (2, xi 0) :: (4, xi (q : Nat)) :: r) (fun q => []) 0 (fun q => q ≤ L.length ∧ (L.take q).any (aE s) = false) (fun q => L.length - q) 0 rfl ⟨Nat.zero_le _, rfl⟩ ?_
  rintro j ⟨hj, hI⟩
  refine G (T := T) 1000 rfl ?_
  refine If rfl (fun h => ?_) (fun h => ?_)
  · have hjl := of_decide_eq_true h; rw [List.length_map] at hjl
    obtain ⟨y, hy⟩ := ah (l := L) (j := j) (by omega)
    refine G (T := T) 1000 rfl ?_
    refine Ix (T := T) j (ab hy) rfl rfl rfl rfl ⟨rfl, rfl⟩ rfl rfl ?_
    refine G (T := T) 1000 rfl ?_
    refine Cq (mf (hb y (List.mem_of_getElem? hy)) s) rfl rfl rfl rfl rfl ⟨rfl, rfl⟩ ?_
    refine G (T := T) 1000 rfl ?_
    refine If rfl (fun h => ?_) (fun h => ?_)
    · refine G (T := T) 1000 rfl ?_
      exact Fe (T := T) rfl (by show xi _ = xi _; rw [fi hI hy h])
    · refine G (T := T) 1000 rfl ?_
      exact Nq (j + 1) ⟨by omega, eF hI hy h⟩ (by show _ - (j + 1) < _ - j; omega)
  · have hjl := of_decide_eq_false h; rw [List.length_map] at hjl
    refine G (T := T) 1000 rfl ?_
    exact Fe (T := T) rfl (by show xi _ = xi _; rw [gu hI (by omega)])
theorem pV : ∀ (m : Nat), m ≤ 100000000000 → ∀ {e : Ex}, e.size ≤ m → e.ok → XQ Tryz.prog pk 159 [xd (exD e)] (xb (rEx e)) := by
  intro m
  induction m with
  | zero => intro _ e hm; have := e.size_pos; omega
  | succ m ih =>
  intro hB e hm hok
  obtain ⟨k, nm, n, ks⟩ := e
  obtain ⟨hk, hn, hn2, hks⟩ := hok
  have hsz : (Ex.mk k nm n ks).size = Ex.sizes ks + 1 := rfl
  have hlen := Ex.len_le ks
  rw [dv, rEx_split hn2.1]
  refine XQ.en Tryz.func159 Tryz.ntmps159 (fun w0 own H V v0 hf => ?_)
  refine G (T := T) 100001 rfl ?_
  refine (FzTo.bz 0 rfl).c ?_
  refine G (T := T) 1000 rfl ?_
  refine Cq (ref_shape k _ _ _) rfl rfl rfl rfl rfl ⟨rfl, rfl⟩ ?_
  refine Gs (T := T) 1000 rfl ?_
  have e1 : ((decide (0 ≤ (shp k).1) && decide (((ks.map exD).length : Int) ≠ (shp k).1)) || decide ((shp k).2.1 ≤ n)) = iR k n ks.length := by rw [iR, List.length_map]
  refine If rfl (fun h => ?_) (fun h => ?_)
  · rw [show iR k n ks.length = true from e1.symm.trans h]
    refine G (T := T) 1000 rfl ?_
    exact Fe (T := T) rfl rfl
  have h1 : iR k n ks.length = false := e1.symm.trans h
  have hin := exOne_in hn2.1 h1
  rw [h1]
  refine G (T := T) 200000 rfl ?_
  refine Cf [1, 2] (fun (_ : Unit) r => (4, xb (bp k nm)) :: r) (fun _ => []) 2 (fun _ => True) rfl ?_ ?_
  · refine G (T := T) 1000 rfl ?_
    refine If rfl (fun h => ?_) (fun h => ?_)
    · rw [ov ((shp_nm1 hin).1 (of_decide_eq_true h))]
      refine G (T := T) 1000 rfl ?_
      refine Cq (bW (by omega)) rfl rfl rfl rfl rfl ⟨rfl, rfl⟩ ?_
      refine G (T := T) 1000 rfl ?_
      exact Dn () trivial
    have h2 : ¬ (k = 2 ∨ k = 3 ∨ k = 14) := fun q => absurd ((shp_nm1 hin).2 q) (of_decide_eq_false h)
    refine G (T := T) 1000 rfl ?_
    refine If rfl (fun h => ?_) (fun h => ?_)
    · rw [exName_un (of_decide_eq_true h)]
      refine Gs (T := T) 1000 rfl ?_
      exact Dn () trivial
    have h3 := of_decide_eq_false h
    refine G (T := T) 1000 rfl ?_
    refine If rfl (fun h => ?_) (fun h => ?_)
    · rw [ow (of_decide_eq_true h)]
      refine Gs (T := T) 1000 rfl ?_
      exact Dn () trivial
    have h4 := of_decide_eq_false h
    refine G (T := T) 1000 rfl ?_
    refine If rfl (fun h => ?_) (fun h => ?_)
    · rw [pC (of_decide_eq_true h), ← rank_lev]
      refine G (T := T) 1000 rfl ?_
      refine Cq (ref_rank nm) rfl rfl rfl rfl rfl ⟨rfl, rfl⟩ ?_
      refine G (T := T) 1000 rfl ?_
      exact Dn () trivial
    have h5 := of_decide_eq_false h
    rw [ox h2 h3 h4 h5]
    refine G (T := T) 1000 rfl ?_
    exact Dn () trivial
  rintro _ -
  refine G (T := T) 1000 rfl ?_
  refine If rfl (fun h => ?_) (fun h => ?_)
  · rw [notT h]
    refine G (T := T) 1000 rfl ?_
    exact Fe (T := T) rfl rfl
  rw [notF h, Bool.not_false, Bool.true_and, Bool.true_and]
  refine G (T := T) 1000 rfl ?_
  refine Lq [1] (fun q r => (2, xb false) :: (5, xi (q : Nat)) :: r) (fun q => []) 2 (fun q => q ≤ ks.length ∧ (ks.take q).all rEx = true) (fun q => ks.length - q) 0 rfl ⟨Nat.zero_le _, rfl⟩ ?_
  rintro j ⟨hj, hI⟩
  refine G (T := T) 1000 rfl ?_
  refine If rfl (fun h => ?_) (fun h => ?_)
  · have hjl := of_decide_eq_true h; rw [List.length_map] at hjl
    obtain ⟨y, hy⟩ := ah (l := ks) (j := j) (by omega)
    have hym := List.mem_of_getElem? hy
    refine G (T := T) 1000 rfl ?_
    refine Ix (T := T) j (ab hy) rfl rfl rfl rfl ⟨rfl, rfl⟩ rfl rfl ?_
    refine G (T := T) 1000 rfl ?_
    refine Cq (ih (by omega) (by have := Ex.size_mem hym; omega) (Ex.oks_mem hks hym)) rfl rfl rfl rfl rfl ⟨rfl, rfl⟩ ?_
    refine G (T := T) 1000 rfl ?_
    refine If rfl (fun h => ?_) (fun h => ?_)
    · refine G (T := T) 1000 rfl ?_
      exact Fe (T := T) rfl (congrArg xb (cg hym (by simpa using h)).symm)
    · refine G (T := T) 1000 rfl ?_
      exact Nq (j + 1) ⟨by omega, cJ hI hy (by simpa using h)⟩ (by show _ - (j + 1) < _ - j; omega)
  · have hjl := of_decide_eq_false h; rw [List.length_map] at hjl
    refine G (T := T) 1000 rfl ?_
    rw [List.take_of_length_le (by omega)] at hI
    exact Fe (T := T) rfl (congrArg xb hI.symm)
end
section
open Go Go.RowKit Go.Proofs K
variable {pk : Pk}
theorem ref_kind (s : Sm) : XQ Tryz.prog pk 157 [xd (smD s)] (xd [.c (.int .i64 (K.kd (sk s) 0)), .c (.int .i64 (K.kd (sk s) 1)), .c (.int .i64 (K.kd (sk s) 2)), .c (.int .i64 (K.kd (sk s) 3)), .c (.int .i64 (K.kd (sk s) 4)), .c (.int .i64 (K.kd (sk s) 5))]) := by
  unfold smD
  generalize sk s = k
  refine XQ.en Tryz.func157 Tryz.ntmps157 (fun w0 own H V v0 hf => ?_)
  refine G (T := T) 100001 rfl ?_
  refine (FzTo.bz 0 rfl).c ?_
  refine G (T := T) 1000 rfl ?_
  iterate 14
    refine If rfl (fun h => ?_) (fun h => ?_)
    rotate_left
    have := of_decide_eq_false h
    refine G (T := T) 1000 rfl ?_
    try (refine IfF rfl h ?_; refine G (T := T) 1000 rfl ?_)
  · have e : ∀ j, K.kd k j = [1, 0, 0, 0, 0, 0].getD j 0 := fun j => by unfold K.kd; rw [nz (by omega)]
    rw [e, e, e, e, e, e]
    exact Fq (T := T) rfl rfl
  all_goals
    have h9 := of_decide_eq_true h
    subst h9
    refine G (T := T) 1000 rfl ?_
    first
      | exact Fq (T := T) rfl rfl
      | (refine IfT rfl h ?_; refine G (T := T) 1000 rfl ?_; exact Fq (T := T) rfl rfl)
abbrev smE (l : List Sm) (f : FuncId) (pk : Pk) : Prop := ∀ s ∈ l, XQ Tryz.prog pk f [xd (smD s)] (xb (rSm s))
theorem mG {l : List Sm} (hl : l.length ≤ 100000000000) (h : smE l 126 pk) : XQ Tryz.prog pk 77 [xr (l.map smD)] (xb (cp l)) := by
  rw [bj]
  refine XQ.en Tryz.func77 Tryz.ntmps77 (fun w0 own H V v0 hf => ?_)
  refine G (T := T) 1000 rfl ?_
  refine Lq [0] (fun q r => (2, xb false) :: (3, xi (q : Nat)) :: r) (fun q => []) 0 (fun q => q ≤ l.length ∧ (l.take q).all rSm = true) (fun q => l.length - q) 0 rfl ⟨Nat.zero_le _, rfl⟩ ?_
  rintro j ⟨hj, hI⟩
  refine G (T := T) 1000 rfl ?_
  refine If rfl (fun h => ?_) (fun h => ?_)
  · have hjl := of_decide_eq_true h; rw [List.length_map] at hjl
    obtain ⟨y, hy⟩ := ah (l := l) (j := j) (by omega)
    have hym := List.mem_of_getElem? hy
    refine G (T := T) 1000 rfl ?_
    refine Ix (T := T) j (ab hy) rfl rfl rfl rfl ⟨rfl, rfl⟩ rfl rfl ?_
    refine G (T := T) 15 rfl ?_
    refine Cq (by first | exact h y hym | (rename_i hh _ _ _ _ _ _ _ _ _; exact hh y hym) | exact (‹smE l 126 pk› y hym)) rfl rfl rfl rfl rfl ⟨rfl, rfl⟩ ?_
    refine G (T := T) 1000 rfl ?_
    refine If rfl (fun h => ?_) (fun h => ?_)
    · refine G (T := T) 1000 rfl ?_
      exact Fe (T := T) rfl (congrArg xb (cg hym (by simpa using h)).symm)
    · refine G (T := T) 1000 rfl ?_
      exact Nq (j + 1) ⟨by omega, cJ hI hy (by simpa using h)⟩ (by show _ - (j + 1) < _ - j; omega)
  · have hjl := of_decide_eq_false h; rw [List.length_map] at hjl
    refine G (T := T) 1000 rfl ?_
    rw [List.take_of_length_le (by omega)] at hI
    exact Fe (T := T) rfl (congrArg xb hI.symm)
theorem ek_kind (e : Ex) : ek e = e.kind := by cases e; rfl
theorem place_neq (k : Int) : (((((decide (k ≠ 2) && decide (k ≠ 3)) && decide (k ≠ 4)) && decide (k ≠ 5)) && decide (k ≠ 7)) && decide (k ≠ 8)) = !bw k := by
  unfold bw
  rw [Bool.eq_iff_iff]
  simp only [Bool.and_eq_true, decide_eq_true_eq, Bool.not_eq_true', decide_eq_false_iff_not]
  omega
theorem pW : ∀ (m : Nat), m ≤ 100000000000 → ∀ {s : Sm}, s.size ≤ m → s.ok → XQ Tryz.prog pk 126 [xd (smD s)] (xb (rSm s)) := by
  intro m
  induction m with
  | zero => intro _ e hm; have := e.size_pos; omega
  | succ m ih =>
  intro hB s hm hok
  have hkind := ref_kind (pk := pk) s
  obtain ⟨k, nm, t, n, es, b, el, cs⟩ := s
  obtain ⟨hk, hn, ht, hn2, hx, hb, he, hc⟩ := hok
  have hsz : (Sm.mk k nm t n es b el cs).size = t.size + Ex.sizes es + Sm.sizes b + Sm.sizes el + Sm.csizes cs + 1 := rfl
  have l1 := Ex.len_le es
  have l2 := Sm.clen_le cs
  have l3 := Sm.len_le b
  have l4 := Sm.len_le el
  have blk : ∀ {l : List Sm}, Sm.sizes l ≤ m → Sm.oks l → XQ Tryz.prog pk 77 [xr (l.map smD)] (xb (cp l)) := fun {l} h1 h2 => mG (by have := Sm.len_le l; omega) (fun s hs => ih (by omega) (by have := Sm.size_mem hs; omega) (Sm.oks_mem h2 hs))
  rw [aJ] at hkind ⊢
  change XQ Tryz.prog pk 157 _ (xd [.c (.int .i64 (K.kd k 0)), .c (.int .i64 (K.kd k 1)), .c (.int .i64 (K.kd k 2)), .c (.int .i64 (K.kd k 3)), .c (.int .i64 (K.kd k 4)), .c (.int .i64 (K.kd k 5))]) at hkind
  rw [rSm_split hn2.1]
  refine XQ.en Tryz.func126 Tryz.ntmps126 (fun w0 own H V v0 hf => ?_)
  refine G (T := T) 100001 rfl ?_
  refine (FzTo.bz 0 rfl).c ?_
  refine G (T := T) 1000 rfl ?_
  refine Cq hkind rfl rfl rfl rfl rfl ⟨rfl, rfl⟩ ?_
  refine G (T := T) 1000 rfl ?_
  refine Cq (bW (s := nm) (by omega)) rfl rfl rfl rfl rfl ⟨rfl, rfl⟩ ?_
  refine Gs (T := T) 1000 rfl ?_
  let KB : XH := [⟨1, 0, .cells [.d (.c (.int .i64 (K.kd k 0))), .d (.c (.int .i64 (K.kd k 1))), .d (.c (.int .i64 (K.kd k 2))), .d (.c (.int .i64 (K.kd k 3))), .d (.c (.int .i64 (K.kd k 4))), .d (.c (.int .i64 (K.kd k 5)))] 220⟩]
  refine Cf [1, 2, 3] (fun (_ : Unit) r => (4, xb (eM k nm)) :: r) (fun _ => KB) 2 (fun _ => True) rfl ?_ ?_
  · refine If rfl (fun h => ?_) (fun h => ?_)
    · have h2 : K.kd k 2 = 0 ∨ (K.kd k 2 = 2 ∧ nm = ⟨#[]⟩) := by simpa using h
      rw [eM, if_pos h2]
      refine Gs (T := T) 1000 rfl ?_
      exact Dn () trivial
    · have h2 : ¬ (K.kd k 2 = 0 ∨ (K.kd k 2 = 2 ∧ nm = ⟨#[]⟩)) := fun q => by
        have e : (decide (K.kd k 2 = 0) || (decide (K.kd k 2 = 2) && decide (nm = ⟨#[]⟩))) = true := by simpa using q
        rw [show (decide (K.kd k 2 = 0) || (decide (K.kd k 2 = 2) && decide (nm = ⟨#[]⟩))) = false from h] at e; cases e
      rw [eM, if_neg h2]
      refine G (T := T) 1000 rfl ?_
      exact Dn () trivial
  rintro _ -
  refine G (T := T) 1000 rfl ?_
  refine Cq (pT t) rfl rfl rfl rfl rfl ⟨rfl, rfl⟩ ?_
  refine G (T := T) 1000 rfl ?_
  refine Cf [1, 2, 3, 4] (fun (_ : Unit) r => (5, xb (dq k t)) :: r) (fun _ => KB) 2 (fun _ => True) rfl ?_ ?_
  · refine If rfl (fun h => ?_) (fun h => ?_)
    · rw [dq, if_pos (of_decide_eq_true h)]
      refine G (T := T) 1000 rfl ?_
      refine Cq (eh _ (Nat.le_refl _) ht) rfl rfl rfl rfl rfl ⟨rfl, rfl⟩ ?_
      refine G (T := T) 1000 rfl ?_
      exact Dn () trivial
    · rw [dq, if_neg (of_decide_eq_false h)]
      refine G (T := T) 1000 rfl ?_
      exact Dn () trivial
  rintro _ -
  refine Gs (T := T) 1000 rfl ?_
  have e8 : (((((decide (((es.map exD).length : Int) < K.kd k 0) || decide (K.kd k 1 < ((es.map exD).length : Int))) || !eM k nm) || !dq k t) || decide (255 < n)) || (decide (k ≠ 11) && decide (n ≠ 0))) = cG k n es.length (eM k nm) (dq k t) := by rw [cG, List.length_map]
  refine If rfl (fun h => ?_) (fun h => ?_)
  · rw [show cG k n es.length (eM k nm) (dq k t) = true from e8.symm.trans h]
    refine G (T := T) 1000 rfl ?_
    exact Fe (T := T) rfl rfl
  have h8 : cG k n es.length (eM k nm) (dq k t) = false := e8.symm.trans h
  have hleast := oy h8
  rw [h8]
  refine Gs (T := T) 1000 rfl ?_
  have e10 : (((decide (K.kd k 3 = 0) && decide (0 < ((b.map smD).length : Int))) || (decide (K.kd k 4 = 0) && decide (0 < ((el.map smD).length : Int)))) || (decide (K.kd k 5 = 0) && decide (0 < ((cs.map blD).length : Int)))) = lW k b.length el.length cs.length := by rw [lW, List.length_map, List.length_map, List.length_map]
  refine If rfl (fun h => ?_) (fun h => ?_)
  · rw [show lW k b.length el.length cs.length = true from e10.symm.trans h]
    refine G (T := T) 1000 rfl ?_
    exact Fe (T := T) rfl rfl
  rw [show lW k b.length el.length cs.length = false from e10.symm.trans h]
  simp only [Bool.not_false, Bool.true_and]
  refine G (T := T) 1000 rfl ?_
  refine Lq [1] (fun q r => (2, xb false) :: (6, xi (q : Nat)) :: r) (fun q => []) 2 (fun q => q ≤ es.length ∧ (es.take q).all rEx = true) (fun q => es.length - q) 0 rfl ⟨Nat.zero_le _, rfl⟩ ?_
  rintro j ⟨hj, hI⟩
  refine G (T := T) 1000 rfl ?_
  refine If rfl (fun h => ?_) (fun h => ?_)
  · have hjl := of_decide_eq_true h; rw [List.length_map] at hjl
    obtain ⟨y, hy⟩ := ah (l := es) (j := j) (by omega)
    have hym := List.mem_of_getElem? hy
    refine G (T := T) 1000 rfl ?_
    refine Ix (T := T) j (ab hy) rfl rfl rfl rfl ⟨rfl, rfl⟩ rfl rfl ?_
    refine G (T := T) 1000 rfl ?_
    refine Cq (pV _ (by have := Ex.size_mem hym; omega) (Nat.le_refl _) (Ex.oks_mem hx hym)) rfl rfl rfl rfl rfl ⟨rfl, rfl⟩ ?_
    refine G (T := T) 1000 rfl ?_
    refine If rfl (fun h => ?_) (fun h => ?_)
    · refine G (T := T) 1000 rfl ?_
      rw [cg hym (by simpa using h)]
      exact Fe (T := T) rfl rfl
    · refine G (T := T) 1000 rfl ?_
      exact Nq (j + 1) ⟨by omega, cJ hI hy (by simpa using h)⟩ (by show _ - (j + 1) < _ - j; omega)
  have hjl := of_decide_eq_false h; rw [List.length_map] at hjl
  rw [List.take_of_length_le (by omega)] at hI
  rw [hI, Bool.true_and]
  obtain ⟨u, hu⟩ : ∃ u : Ex, 1 ≤ es.length → es[0]? = some u ∧ es.map exD = exD u :: (es.drop 1).map exD ∧ ∀ p, bK p es = p (ek u) := by
    match es with
    | [] => exact ⟨.mk 0 eS 0 [], fun h => by simp at h⟩
    | x :: r => exact ⟨x, fun _ => ⟨rfl, rfl, fun p => by rw [ek_kind]; rfl⟩⟩
  have k14 : k = 14 → 1 ≤ es.length := fun q => by subst q; have : K.kd 14 0 = 1 := rfl; omega
  have k2 : k = 2 → 1 ≤ es.length := fun q => by subst q; have : K.kd 2 0 = 2 := rfl; omega
  refine Gs (T := T) 132 rfl ?_
  refine Is (T := T) 0 (exD u) (fun h => ⟨by rw [(hu (k14 (of_decide_eq_true h))).2.1]; rfl, rfl⟩) rfl rfl rfl rfl rfl rfl rfl rfl ?_
  refine Gs (T := T) 1000 rfl ?_
  have a1 : (decide (k = 14) && decide (ek u ≠ 14)) = (decide (k = 14) && !bK (fun j => decide (j = 14)) es) := by
    by_cases q : k = 14
    · rw [decide_eq_true q, (hu (k14 q)).2.2, decide_not]
    · rw [decide_eq_false q]; rfl
  refine If rfl (fun h => ?_) (fun h => ?_)
  · rw [show (decide (k = 14) && !bK (fun j => decide (j = 14)) es) = true from a1.symm.trans h]
    refine G (T := T) 1000 rfl ?_
    exact Fe (T := T) rfl rfl
  rw [show (decide (k = 14) && !bK (fun j => decide (j = 14)) es) = false from a1.symm.trans h, Bool.not_false, Bool.true_and]
  refine G (T := T) 1000 rfl ?_
  generalize hZ : ((decide (k = 2) && !bK bw es)) = Z
  refine Cf [1, 2] (fun (_ : Unit) r => r) (fun _ => []) 2 (fun _ => Z = false) rfl ?_ ?_
  · refine If rfl (fun h => ?_) (fun h => ?_)
    · have h2 := of_decide_eq_true h
      refine Gs (T := T) 142 rfl ?_
      refine Ix (T := T) 0 (r := exD u) (by rw [(hu (k2 h2)).2.1]; rfl) rfl rfl rfl rfl ⟨rfl, rfl⟩ rfl rfl ?_
      refine Gs (T := T) 1000 rfl ?_
      have a2 : (((((decide (ek u ≠ 2) && decide (ek u ≠ 3)) && decide (ek u ≠ 4)) && decide (ek u ≠ 5)) && decide (ek u ≠ 7)) && decide (ek u ≠ 8)) = Z := by rw [place_neq, ← hZ, decide_eq_true h2, (hu (k2 h2)).2.2, Bool.true_and]
      refine If rfl (fun h => ?_) (fun h => ?_)
      · have a3 : Z = true := a2.symm.trans h
        subst a3
        refine G (T := T) 1000 rfl ?_
        exact Fe (T := T) rfl rfl
      · have a3 : Z = false := a2.symm.trans h
        refine G (T := T) 1000 rfl ?_
        exact Dn () a3
    · refine G (T := T) 1000 rfl ?_
      exact Dn () (by rw [← hZ, h]; rfl)
  rintro _ rfl
  rw [Bool.not_false, Bool.true_and]
  refine G (T := T) 1000 rfl ?_
  refine Lq [1] (fun q r => (2, xb false) :: (9, xi (q : Nat)) :: r) (fun q => []) 2 (fun q => q ≤ cs.length ∧ (cs.take q).all cp = true) (fun q => cs.length - q) 0 rfl ⟨Nat.zero_le _, rfl⟩ ?_
  rintro j ⟨hj, hI⟩
  refine G (T := T) 1000 rfl ?_
  refine If rfl (fun h => ?_) (fun h => ?_)
  · have hjl := of_decide_eq_true h; rw [List.length_map] at hjl
    obtain ⟨y, hy⟩ := ah (l := cs) (j := j) (by omega)
    have hym := List.mem_of_getElem? hy
    refine G (T := T) 1000 rfl ?_
    refine Ix (T := T) j (ab hy) rfl rfl rfl rfl ⟨rfl, rfl⟩ rfl rfl ?_
    refine G (T := T) 1000 rfl ?_
    refine Cq (blk (by have := Sm.csize_mem hym; omega) (Sm.okc_mem hc hym)) rfl rfl rfl rfl rfl ⟨rfl, rfl⟩ ?_
    refine G (T := T) 1000 rfl ?_
    refine If rfl (fun h => ?_) (fun h => ?_)
    · refine G (T := T) 1000 rfl ?_
      rw [cg hym (by simpa using h)]
      exact Fe (T := T) rfl rfl
    · refine G (T := T) 1000 rfl ?_
      exact Nq (j + 1) ⟨by omega, cJ hI hy (by simpa using h)⟩ (by show _ - (j + 1) < _ - j; omega)
  have hjl := of_decide_eq_false h; rw [List.length_map] at hjl
  rw [List.take_of_length_le (by omega)] at hI
  rw [hI, Bool.true_and, ← bj, ← bj]
  refine G (T := T) 1000 rfl ?_
  refine Cq (blk (by omega) hb) rfl rfl rfl rfl rfl ⟨rfl, rfl⟩ ?_
  refine G (T := T) 1000 rfl ?_
  refine Cq (blk (by omega) he) rfl rfl rfl rfl rfl ⟨rfl, rfl⟩ ?_
  refine Gs (T := T) 1000 rfl ?_
  exact Fe (T := T) rfl rfl
end
section
open Go Go.RowKit Go.Proofs K
variable {pk : Pk}
theorem tyS_len (t : Ty4) : aD t 7 = (((decide (tk t = 7) && decide (tnm t = eS)) && decide (tn t = 0)) && decide (((tyS t).length : Int) = 0)) := by
  obtain ⟨k, nm, n, ts⟩ := t
  show _ = (((decide (k = 7) && decide (nm = eS)) && decide (n = 0)) && decide (((tyR ts).length : Int) = 0))
  rw [tyR_eq, len0]; rfl
theorem pX {f : Fu} {B : Nat} (hB : B ≤ 90000000000) (hok : f.ok B) : XQ Tryz.prog pk 31 [xd (fuD f)] (xb (rFu f)) := by
  obtain ⟨h1, h2, h3, h4, h5, h6, h7, h8, h9⟩ := hok
  have hbl := Sm.len_le f.body
  have hty := eh (pk := pk) _ (Nat.le_refl _) h4
  have hst := mG (pk := pk) (l := f.body) (by omega) (fun s hs => pW _ (by have := Sm.size_mem hs; omega) (Nat.le_refl _) (Sm.oks_mem h6 hs))
  unfold fuD rFu
  refine XQ.en Tryz.func31 Tryz.ntmps31 (fun w0 own H V v0 hf => ?_)
  refine G (T := T) 100001 rfl ?_
  refine (FzTo.bz 0 rfl).c ?_
  refine G (T := T) 1000 rfl ?_
  refine Cq (bW (s := f.nm) (by omega)) rfl rfl rfl rfl rfl ⟨rfl, rfl⟩ ?_
  refine G (T := T) 1000 rfl ?_
  refine Cq (lm (l := f.ps) (by omega) (fun p hp => ⟨(h3 p hp).1, (h3 p hp).2.1⟩)) rfl rfl rfl rfl rfl ⟨rfl, rfl⟩ ?_
  refine Gs (T := T) 100004 rfl ?_
  refine Gs (T := T) 1000 rfl ?_
  refine Cq hty rfl rfl rfl rfl rfl ⟨rfl, rfl⟩ ?_
  refine Gs (T := T) 1000 rfl ?_
  have a1 : ((!aj f.nm || !f.ps.all cv) || (!(((decide (tk f.res = 7) && decide (tnm f.res = eS)) && decide (tn f.res = 0)) && decide (((tyS f.res).length : Int) = 0)) && !rTy f.res)) = !((aj f.nm && f.ps.all cv) && (aD f.res 7 || rTy f.res)) := by
    rw [← tyS_len, Bool.not_and, Bool.not_and, Bool.not_or]
  refine If rfl (fun h => ?_) (fun h => ?_)
  · rw [notT (a1.symm.trans h), Bool.false_and]
    refine G (T := T) 1000 rfl ?_
    exact Fe (T := T) rfl rfl
  rw [notF (a1.symm.trans h), Bool.true_and]
  refine G (T := T) 1000 rfl ?_
  refine If rfl (fun h => ?_) (fun h => ?_)
  · rw [if_pos h]
    refine Gs (T := T) 1000 rfl ?_
    refine Fe (T := T) rfl ?_
    show xb ((decide (((f.body.map smD).length : Int) = 0) && _) && _) = _
    rw [len0]
  · rw [if_neg (by rw [h]; exact Bool.false_ne_true)]
    refine Gs (T := T) 74 rfl ?_
    refine Eqs rfl rfl rfl rfl rfl (by kernel_rfl) (kN _ _ _ _) ⟨rfl, rfl⟩ ?_
    refine Gs (T := T) 1000 rfl ?_
    refine Cs (fun _ => hst) rfl rfl rfl rfl rfl rfl rfl rfl ?_
    refine Gs (T := T) 1000 rfl ?_
    refine Fe (T := T) rfl (congrArg xb ?_)
    congr 1
    rw [Bool.eq_iff_iff]; simp
theorem ref_Right {p : Pg} {B : Nat} (hB : B ≤ 90000000000) (hok : p.ok B) : XQ Tryz.prog pk 11 [xd (pgD p)] (xb (rPg p)) := by
  have htl := hok.tl
  have hgl := hok.gl
  have hfl := hok.fl
  refine XQ.en Tryz.func11 Tryz.ntmps11 (fun w0 own H V v0 hf => ?_)
  unfold rPg
  refine G (T := T) 100001 rfl ?_
  refine (FzTo.bz 0 rfl).c ?_
  refine G (T := T) 1000 rfl ?_
  refine Lq [1] (fun q r => (2, xb false) :: (3, xi (q : Nat)) :: r) (fun q => []) 1 (fun q => q ≤ p.ts.length ∧ (p.ts.take q).all rTd = true) (fun q => p.ts.length - q) 0 rfl ⟨Nat.zero_le _, rfl⟩ ?_
  rintro j ⟨hj, hI⟩
  refine G (T := T) 1000 rfl ?_
  refine If rfl (fun h => ?_) (fun h => ?_)
  · have hjl := of_decide_eq_true h; rw [List.length_map] at hjl
    obtain ⟨y, hy⟩ := ah (l := p.ts) (j := j) (by omega)
    have hym := List.mem_of_getElem? hy
    obtain ⟨o1, o2, o3⟩ := hok.t y hym
    refine G (T := T) 1000 rfl ?_
    refine Ix (T := T) j (ab hy) rfl rfl rfl rfl ⟨rfl, rfl⟩ rfl rfl ?_
    refine G (T := T) 1000 rfl ?_
    refine Cq (bW (s := y.nm) (by omega)) rfl rfl rfl rfl rfl ⟨rfl, rfl⟩ ?_
    refine G (T := T) 1000 rfl ?_
    refine Ix (T := T) j (ab hy) rfl rfl rfl rfl ⟨rfl, rfl⟩ rfl rfl ?_
    refine G (T := T) 1000 rfl ?_
    refine Cq (lm (l := y.fs) (by omega) (fun p hp => ⟨(o3 p hp).1, (o3 p hp).2.1⟩)) rfl rfl rfl rfl rfl ⟨rfl, rfl⟩ ?_
    refine Gs (T := T) 1000 rfl ?_
    have e9 : (!aj y.nm || !y.fs.all cv) = !rTd y := by rw [rTd, Bool.not_and]
    refine If rfl (fun h => ?_) (fun h => ?_)
    · rw [e9] at h
      refine G (T := T) 1000 rfl ?_
      rw [cg hym (by simpa using h)]
      exact Fe (T := T) rfl rfl
    · rw [e9] at h
      refine G (T := T) 1000 rfl ?_
      exact Nq (j + 1) ⟨by omega, cJ hI hy (by simpa using h)⟩ (by show _ - (j + 1) < _ - j; omega)
  have hjl := of_decide_eq_false h; rw [List.length_map] at hjl
  rw [List.take_of_length_le (by omega)] at hI
  rw [hI, Bool.true_and]
  refine G (T := T) 1000 rfl ?_
  refine Lq [1] (fun q r => (2, xb false) :: (6, xi (q : Nat)) :: r) (fun q => []) 1 (fun q => q ≤ p.gs.length ∧ (p.gs.take q).all rGb = true) (fun q => p.gs.length - q) 0 rfl ⟨Nat.zero_le _, rfl⟩ ?_
  rintro j ⟨hj, hI⟩
  refine G (T := T) 1000 rfl ?_
  refine If rfl (fun h => ?_) (fun h => ?_)
  · have hjl := of_decide_eq_true h; rw [List.length_map] at hjl
    obtain ⟨y, hy⟩ := ah (l := p.gs) (j := j) (by omega)
    have hym := List.mem_of_getElem? hy
    obtain ⟨o1, o2, o3, o4, o5, o6⟩ := hok.g y hym
    refine G (T := T) 1000 rfl ?_
    refine Ix (T := T) j (ab hy) rfl rfl rfl rfl ⟨rfl, rfl⟩ rfl rfl ?_
    refine G (T := T) 100012 rfl ?_
    refine (FzTo.bz 1 rfl).c ?_
    refine G (T := T) 1000 rfl ?_
    refine Cq (bW (s := y.nm) (by omega)) rfl rfl rfl rfl rfl ⟨rfl, rfl⟩ ?_
    refine G (T := T) 1000 rfl ?_
    refine Cq (eh _ (Nat.le_refl _) o2) rfl rfl rfl rfl rfl ⟨rfl, rfl⟩ ?_
    refine Gs (T := T) 1000 rfl ?_
    have e9 : ((((!aj y.nm || !rTy y.ty) || decide (y.bank < -1)) || decide (63 < y.bank)) || (decide (y.bank < 0) && decide (y.bytes ≠ ⟨#[]⟩))) = !rGb y := by
      rw [rGb, decide_not]
      have i1 : decide (y.bank < -1) = !decide (-1 ≤ y.bank) := by rw [← decide_not]; exact decide_eq_decide.2 (by omega)
      have i2 : decide (63 < y.bank) = !decide (y.bank < 64) := by rw [← decide_not]; exact decide_eq_decide.2 (by omega)
      have i3 : decide (y.bank < 0) = !decide (0 ≤ y.bank) := by rw [← decide_not]; exact decide_eq_decide.2 (by omega)
      have i4 : decide (y.bank = -1) = (decide (-1 ≤ y.bank) && !decide (0 ≤ y.bank)) := by rw [← i3, ← Bool.decide_and]; exact decide_eq_decide.2 (by omega)
      have i5 : decide (0 ≤ y.bank) = true → decide (-1 ≤ y.bank) = true := fun h => decide_eq_true (by have := of_decide_eq_true h; omega)
      have i6 : decide (0 ≤ y.bank) = false → decide (y.bank < 64) = true := fun h => decide_eq_true (by have := of_decide_eq_false h; omega)
      rw [i1, i2, i3, i4]
      revert i5 i6
      generalize decide (0 ≤ y.bank) = A
      generalize decide (-1 ≤ y.bank) = C
      generalize decide (y.bank < 64) = D'
      cases aj y.nm <;> cases rTy y.ty <;> cases A <;> cases C <;> cases D' <;> simp
    refine If rfl (fun h => ?_) (fun h => ?_)
    · rw [e9] at h
      refine G (T := T) 1000 rfl ?_
      rw [cg hym (by simpa using h)]
      exact Fe (T := T) rfl rfl
    · rw [e9] at h
      refine G (T := T) 1000 rfl ?_
      exact Nq (j + 1) ⟨by omega, cJ hI hy (by simpa using h)⟩ (by show _ - (j + 1) < _ - j; omega)
  have hjl := of_decide_eq_false h; rw [List.length_map] at hjl
  rw [List.take_of_length_le (by omega)] at hI
  rw [hI, Bool.true_and]
  refine G (T := T) 1000 rfl ?_
  refine Lq [1] (fun q r => (2, xb false) :: (10, xi (q : Nat)) :: r) (fun q => []) 1 (fun q => q ≤ p.fs.length ∧ (p.fs.take q).all rFu = true) (fun q => p.fs.length - q) 0 rfl ⟨Nat.zero_le _, rfl⟩ ?_
  rintro j ⟨hj, hI⟩
  refine G (T := T) 1000 rfl ?_
  refine If rfl (fun h => ?_) (fun h => ?_)
  · have hjl := of_decide_eq_true h; rw [List.length_map] at hjl
    obtain ⟨y, hy⟩ := ah (l := p.fs) (j := j) (by omega)
    have hym := List.mem_of_getElem? hy
    refine G (T := T) 1000 rfl ?_
    refine Ix (T := T) j (ab hy) rfl rfl rfl rfl ⟨rfl, rfl⟩ rfl rfl ?_
    refine G (T := T) 1000 rfl ?_
    refine Cq (pX hB (hok.f y hym)) rfl rfl rfl rfl rfl ⟨rfl, rfl⟩ ?_
    refine G (T := T) 1000 rfl ?_
    refine If rfl (fun h => ?_) (fun h => ?_)
    · refine G (T := T) 1000 rfl ?_
      rw [cg hym (by simpa using h)]
      exact Fe (T := T) rfl rfl
    · refine G (T := T) 1000 rfl ?_
      exact Nq (j + 1) ⟨by omega, cJ hI hy (by simpa using h)⟩ (by show _ - (j + 1) < _ - j; omega)
  have hjl := of_decide_eq_false h; rw [List.length_map] at hjl
  rw [List.take_of_length_le (by omega)] at hI
  rw [hI]
  refine G (T := T) 1000 rfl ?_
  exact Fe (T := T) rfl rfl
end
section
open Go Go.RowKit Go.Proofs K
variable {pk : Pk}
end
section
open Go Go.RowKit Go.Proofs K
variable {pk : Pk}
theorem zeroP_ok : Pg.ok 1 ⟨[], [], []⟩ := ⟨Nat.zero_le _, Nat.zero_le _, Nat.zero_le _, fun x h => (by cases h), fun x h => (by cases h), fun x h => (by cases h)⟩
end
section
open Go Go.RowKit Go.Proofs K
variable {pk : Pk}
end
section
open Go Go.RowKit Go.Proofs K
variable {pk : Pk}
theorem back0 {p : Pg} {B : Nat} (h : rPg p = true) (ho : p.ok B) : fPg0 (dp p) = some p := by
  have h1 := fPg_pg h ho
  rw [dp, if_pos h]
  unfold fPg at h1
  cases e : fPg0 (tPg p) with
  | none => rw [e] at h1; cases h1
  | some q =>
    rw [e, Option.bind_some] at h1
    split at h1
    · exact h1
    · cases h1
theorem ftOk_tree {p : Pg} {B : Nat} (h : rPg p = true) (ho : p.ok B) : iL (dp p) = true := by
  have e := jPg_of (back0 h ho)
  rw [iL, e, h, (Tr.eqb_iff _ _).2 rfl]; rfl
theorem pt (hT : ∀ H, pk.hy H → TabH H) (hV : ∀ H, pk.hy H → VarH H) {u : Tr} (hl : lbO u) {B : Nat} (hB : B ≤ 90000000000) (hok : (jPg u).ok B) : XQ Tryz.prog pk 15 [xd (trd u)] (ftR u) :=
  from_tree (pkF := { pk with pc := wrg, ψ := iL u = false }) (B := B) (ftk_of hV rfl) id (fun h => by
    show iL u = false
    cases e : iL u with
    | false => rfl
    | true =>
      simp only [iL, Bool.and_eq_true] at e
      have h1 := (Tr.eqb_iff _ _).1 e.2
      have h2 := back0 e.1 hok
      rw [h1, h] at h2; cases h2) id hT hl hB hok (fun _ h => h)
end
theorem dV {α : Type} {f : α → Tr} : ∀ {l : List α}, (∀ x ∈ l, lbO (f x)) → jc (l.map f)
  | [], _ => trivial
  | x :: r, h => ⟨h x (List.mem_cons_self ..), dV (l := r) fun y hy => h y (List.mem_cons_of_mem _ hy)⟩
theorem lo_par {w : ByteArray} {p : Par} {B : Nat} (hB : B ≤ 900000000) (hp : p.ok B) (hw : w.size ≤ 10) (h : cv p = true) : lbO (d7 w p) := by
  have h1 := lm_par hw h
  have h2 := hp.2.2
  refine kV h1 ?_
  unfold d7
  simp only [Tr.size, Tr.sizes, g8]; omega
theorem ln {w : ByteArray} {n : Int} (hw : w.size ≤ 10) (hn : n ≤ 9223372036854775807) : lbO (fO w n) := kV (lm_num hw hn) (by unfold fO; simp [Tr.size, Tr.sizes])
theorem lo_ty {t : Ty4} {B : Nat} (hB : B ≤ 900000000) (ht : t.size ≤ B) (h : lbM (tTy t)) : lbO (tTy t) := kV h (by rw [g8]; omega)
theorem fa {l : ByteArray} {ks : List Tr} (h1 : l.size ≤ 1000000) (h2 : ks.length ≤ 900000000) (h : jc ks) : lbO (.node l ks) := ⟨by omega, by omega, h⟩
theorem lo_tree {p : Pg} {B : Nat} (hB : B ≤ 480000000) (h : rPg p = true) (hp : p.ok B) : lbO (dp p) := by
  have hB9 : B ≤ 900000000 := by omega
  rw [dp, if_pos h, tPg]
  simp only [rPg, Bool.and_eq_true, List.all_eq_true] at h
  obtain ⟨⟨h1, h2⟩, h3⟩ := h
  have l1 := hp.tl
  have l2 := hp.gl
  have l3 := hp.fl
  have e1 : jc (p.ts.map tTd) := dV fun x hx => by
    have hr := h1 x hx
    have ho := hp.t x hx
    simp only [rTd, Bool.and_eq_true, List.all_eq_true] at hr
    refine fa (bR (a := 10) (by split <;> decide) (al hr.1) (by decide)) (by rw [List.length_map]; have := ho.2.1; omega) (dV fun q hq => lo_par hB9 (ho.2.2 q hq) (by decide) (hr.2 q hq))
  have e2 : jc (p.gs.map tGb) := dV fun x hx => by
    have hr := h2 x hx
    obtain ⟨o1, o2, o3, o4, o5, o6⟩ := hp.g x hx
    simp only [rGb, Bool.and_eq_true] at hr
    have ht := lo_ty hB9 o3 (lm_ty _ hr.1.2)
    have hxb := lV x.bytes
    unfold tGb
    split
    · exact fa (bR (w := gF) (a := 10) (by decide) (al hr.1.1) (by decide)) (Nat.le_of_ble_eq_true rfl) ⟨ht, ln (by decide) (by omega), trivial⟩
    · refine fa (bR (w := ju) (a := 10) (by decide) (al hr.1.1) (by decide)) (Nat.le_of_ble_eq_true rfl) ⟨ht, ln (by decide) o4.2, ln (by decide) (by omega), ⟨?_, Nat.zero_le _, trivial⟩, trivial⟩
      have e5 : w_bytes.size = 5 := by decide
      have e6 : (⟨#[32]⟩ : ByteArray).size = 1 := by decide
      unfold aG
      split
      · omega
      · simp only [ByteArray.size_append]; omega
  have e3 : jc (p.fs.map tFu) := dV fun x hx => by
    have hr := h3 x hx
    obtain ⟨o1, o2, o3, o4, o5, o6, o7, o8, o9⟩ := hp.f x hx
    simp only [rFu, Bool.and_eq_true, List.all_eq_true] at hr
    obtain ⟨⟨⟨hn, hps⟩, hres⟩, hb⟩ := hr
    have f1 : jc (x.ps.map (d7 cF)) := dV fun q hq => lo_par hB9 (o3 q hq) (by decide) (hps q hq)
    have f2 : lbO (tTy x.res) := by
      refine lo_ty hB9 o5 ?_
      rw [Bool.or_eq_true] at hres
      rcases hres with h | h
      · rw [aI h]; exact ⟨(by decide : w_void.size ≤ 1000000), trivial⟩
      · exact lm_ty _ h
    have f3 : lbO (.node be (x.ps.map (d7 cF))) := fa (by decide) (by rw [List.length_map]; omega) f1
    have f4 : lbO (.node dH [tTy x.res]) := fa (by decide) (Nat.le_of_ble_eq_true rfl) ⟨f2, trivial⟩
    unfold tFu
    split
    · exact fa (bR (w := cI) (a := 10) (by decide) (al hn) (by decide)) (Nat.le_of_ble_eq_true rfl) ⟨f3, f4, ln (by decide) o8.2, ln (by decide) (by omega), trivial⟩
    · rename_i hf
      rw [if_neg hf] at hb
      simp only [Bool.and_eq_true] at hb
      have f5 : lbO (.node bH (dh x.body)) := kV ⟨by decide, lh _ hb.2⟩ (by have := dU x.body; simp only [Tr.size]; omega)
      exact fa (bR (w := w_fn) (a := 10) (by decide) (al hn) (by decide)) (Nat.le_of_ble_eq_true rfl) ⟨f3, f4, f5, trivial⟩
  exact fa (by decide) (Nat.le_of_ble_eq_true rfl) ⟨fa (by decide) (by rw [List.length_map]; omega) e1, fa (by decide) (by rw [List.length_map]; omega) e2, fa (by decide) (by rw [List.length_map]; omega) e3, trivial⟩
end Go.Proofs.YtlmahofogapkgaaGreatDoor.X
