/-
  Part 6 of 6 of the proof that DiffForms returns true for every two lists of numbers, and leaves its arguments as they were. No condition beyond the given statement.
-/
import Derived.ProofKit
import Derived.Deep.Slices
import Derived.OpenShut
import Derived.WideKeyArr2
import Derived.Lib.LaidTab
import Derived.LaidSub
import Derived.MakeChecks
import Derived.SizedLaws
import Derived.Shelf.Vars
import Derived.Test.YtlmahofogapkgaaGreatDoorRows
import Derived.Test.YtlmahofogapkgaaGreatDoorTie
import Derived.Test.YtlmahofogapkgaaGreatDoorCards
import Derived.LaidMore
import Derived.Stop.Joined
import Derived.Test.YtlmahofogapkgaaGreatDoorPkF5
set_option linter.unusedVariables false
set_option linter.unusedSimpArgs false
set_option linter.all false
set_option maxRecDepth 100000
set_option maxHeartbeats 8000000
namespace Go.Proofs.YtlmahofogapkgaaGreatDoor.X
open Go Go.RowKit Go.Proofs K
theorem idx_cut : ∀ l : List UInt8, Lib.index l [32] = if cE l < l.length then (cE l : Int) else -1
  | [] => rfl
  | b :: r => by
    unfold Lib.index
    rw [idx_cut r]
    by_cases h : b = 32
    · subst h
      simp [cE, List.isPrefixOf]
    · have h1 : ([32] : List UInt8).isPrefixOf (b :: r) = false := by simp [List.isPrefixOf, Ne.symm h]
      have hc : cE (b :: r) = cE r + 1 := by rw [cE, if_neg h]
      rw [h1, hc, List.length_cons]
      by_cases h2 : cE r < r.length
      · have h3 : ((cE r : Int) == -1) = false := by rw [beq_eq_false_iff_ne]; omega
        rw [if_pos h2, if_pos (show cE r + 1 < r.length + 1 by omega)]
        simp [h3]
      · rw [if_neg h2, if_neg (show ¬ cE r + 1 < r.length + 1 by omega)]
        simp
theorem lib_cut (l : List UInt8) : Lib.cut l [32] = (l.take (cE l), l.drop (cE l + 1), decide (cE l < l.length)) := by
  have h0 := cutN_le l
  unfold Lib.cut
  rw [idx_cut]
  by_cases h : cE l < l.length
  · rw [if_pos h, if_pos (by omega), decide_eq_true h]
    simp
  · rw [if_neg h, if_neg (by decide), decide_eq_false h, List.take_of_length_le (by omega), List.drop_of_length_le (by omega)]
theorem pt : ∀ (l : List UInt8) (acc u : Nat), Lib.parseUint10 acc l = .ok u → ej l acc = some u
  | [], acc, u, h => by simp only [Lib.parseUint10] at h; injection h with h; rw [ej, h]
  | c :: r, acc, u, h => by
    simp only [Lib.parseUint10] at h
    split at h
    · rename_i h1
      split at h
      · cases h
      · split at h
        · cases h
        · rw [ej, if_pos h1]; exact pt r _ u h
    · cases h
def synE {α : Type} : Lib.NumEnd α → Prop
  | .ok _ => False
  | .range => False
  | _ => True
theorem mE : ∀ (l : List UInt8) (acc : Nat), synE (Lib.parseUint10 acc l) → ej l acc = none
  | [], acc, h => by simp only [Lib.parseUint10] at h; exact h.elim
  | c :: r, acc, h => by
    simp only [Lib.parseUint10] at h
    split at h
    · rename_i h1
      split at h
      · exact h.elim
      · split at h
        · exact h.elim
        · rw [ej, if_pos h1]; exact mE r _ h
    · rename_i h1; rw [ej, if_neg h1]
theorem dig_ge : ∀ (l : List UInt8) (acc u : Nat), ej l acc = some u → acc ≤ u
  | [], acc, u, h => by simp only [ej] at h; injection h with h; omega
  | c :: r, acc, u, h => by
    simp only [ej] at h
    split at h
    · have := dig_ge r _ u h; omega
    · cases h
theorem mF : ∀ (l : List UInt8) (acc u : Nat), Lib.parseUint10 acc l = .range → ej l acc = some u → 18446744073709551616 ≤ u
  | [], acc, u, h, _ => by simp only [Lib.parseUint10] at h; cases h
  | c :: r, acc, u, h, hd => by
    simp only [Lib.parseUint10] at h
    split at h
    · rename_i h1
      rw [ej, if_pos h1] at hd
      have h2 := dig_ge r _ u hd
      split at h
      · omega
      · split at h
        · omega
        · exact mF r _ u h hd
    · cases h
theorem sgn_cons (c : UInt8) (r : List UInt8) : sgnV (c :: r) = (dS (if c.toNat = 43 ∨ c.toNat = 45 then r else c :: r)).map fun n : Nat => if c.toNat = 45 then -(n : Int) else (n : Int) := by
  have hc : ∀ k : UInt8, c.toNat = k.toNat → c = k := fun k h => UInt8.toNat_inj.1 h
  by_cases h1 : c.toNat = 45
  · have := hc 45 h1; subst this
    simp only [sgnV]
    show _ = Option.map _ (dS r)
    cases dS r <;> rfl
  · by_cases h2 : c.toNat = 43
    · have := hc 43 h2; subst this
      simp only [sgnV]
      show _ = Option.map _ (dS r)
      cases dS r <;> rfl
    · rw [if_neg (by omega)]
      simp only [if_neg h1]
      unfold sgnV
      split
      · rename_i e; injection e with e _; subst e; exact absurd rfl h1
      · rename_i e; injection e with e _; subst e; exact absurd rfl h2
      · cases dS (c :: r) <;> rfl
theorem mag_ok {l : List UInt8} {u : Nat} (h : Lib.parseMag l = .ok u) : dS l = some u := by
  unfold Lib.parseMag at h
  split at h
  · cases h
  · rename_i h1; rw [dS, if_neg h1]; exact pt _ _ _ h
theorem mag_syn {l : List UInt8} (h : synE (Lib.parseMag l)) : dS l = none := by
  unfold Lib.parseMag at h
  split at h
  · rename_i h1; rw [dS, if_pos h1]
  · rename_i h1; rw [dS, if_neg h1]; exact mE _ _ h
theorem mag_rng {l : List UInt8} {u : Nat} (h : Lib.parseMag l = .range) (hu : dS l = some u) : 18446744073709551616 ≤ u := by
  unfold Lib.parseMag at h
  split at h
  · cases h
  · rename_i h1; rw [dS, if_neg h1] at hu; exact mF _ _ _ h hu
theorem atoi_all (s : ByteArray) : (∃ v, Lib.atoiAll s.data.toList = .ok v ∧ bh s = some v) ∨ ((synE (Lib.atoiAll s.data.toList) ∨ Lib.atoiAll s.data.toList = .range) ∧ bh s = none) := by
  unfold bh
  generalize s.data.toList = l
  cases l with
  | nil => exact .inr ⟨.inl trivial, by simp [sgnV, dS]⟩
  | cons c r =>
    rw [sgn_cons]
    simp only [Lib.atoiAll]
    generalize (if c.toNat = 43 ∨ c.toNat = 45 then r else c :: r) = m
    by_cases hy : synE (Lib.parseMag m)
    · rw [mag_syn hy]
      refine .inr ⟨.inl ?_, rfl⟩
      revert hy
      cases Lib.parseMag m <;> intro hy <;> first | trivial | exact hy.elim
    cases hm : Lib.parseMag m with
    | ok u =>
      rw [mag_ok hm]
      simp only [Option.map_some, Option.bind_some]
      by_cases hc : c.toNat = 45
      · simp only [hc, not_true, false_and, if_false, true_and, if_true]
        by_cases h1 : 9223372036854775808 < u
        · rw [if_pos h1]; exact .inr ⟨.inr rfl, by (try dsimp only); exact if_neg (by omega)⟩
        · rw [if_neg h1]; exact .inl ⟨_, rfl, by (try dsimp only); exact if_pos (by omega)⟩
      · simp only [hc, not_false_iff, true_and, false_and, if_false]
        by_cases h1 : 9223372036854775808 ≤ u
        · rw [if_pos h1]; exact .inr ⟨.inr rfl, by (try dsimp only); exact if_neg (by omega)⟩
        · rw [if_neg h1]; exact .inl ⟨_, rfl, by (try dsimp only); exact if_pos (by omega)⟩
    | range =>
      refine .inr ⟨.inr rfl, ?_⟩
      cases hu : dS m with
      | none => rfl
      | some u =>
        have := mag_rng hm hu
        simp only [Option.map_some, Option.bind_some]
        split <;> (try dsimp only)
        · exact if_neg (by omega)
        · exact if_neg (by omega)
    | _ => rw [hm] at hy; exact absurd trivial hy
theorem hex_at (b : UInt8) : Lib.indexByte [48, 49, 50, 51, 52, 53, 54, 55, 56, 57, 97, 98, 99, 100, 101, 102] b = match bU b with | some d => (d : Int) | none => -1 := by
  have h : ∀ n, n < 256 → Lib.indexByte [48, 49, 50, 51, 52, 53, 54, 55, 56, 57, 97, 98, 99, 100, 101, 102] (UInt8.ofNat n) = match bU (UInt8.ofNat n) with | some d => (d : Int) | none => -1 := by decide +kernel
  have := h b.toNat b.toNat_lt
  rwa [UInt8.ofNat_toNat] at this
section
open Go Go.RowKit Go.Proofs K
structure VarH (H : Hp) : Prop where
  mx : ∃ m e fz, H 0 = some (.cells #[.int .i64 m] e fz)
  sy : ∃ ev e fz, H 2 = some (.cells #[ev] e fz) ∧ (ev = .nilIface ∨ ∃ te pe, ev = .iface te pe)
  rg : ∃ ev e fz, H 3 = some (.cells #[ev] e fz) ∧ (ev = .nilIface ∨ ∃ te pe, ev = .iface te pe)
theorem VarH.mono {H H' : Hp} (hl : Le H H') (h : VarH H) : VarH H' := by
  obtain ⟨⟨m, e, fz, h1⟩, ⟨ev, e2, fz2, h2, h3⟩, ⟨ev3, e3, fz3, h4, h5⟩⟩ := h
  exact ⟨⟨m, e, fz, hl _ _ h1⟩, ⟨ev, e2, fz2, hl _ _ h2, h3⟩, ⟨ev3, e3, fz3, hl _ _ h4, h5⟩⟩
theorem St.below {w0 w w' : World} {own : List Seg} {H : Hp} (h : St w0 H own w) (b : Below w.heap.size w w') : St w0 H own w' := by
  have up : ∀ {k : Nat} {o : Obj}, w.heap[k]? = some o → w'.heap[k]? = some o := fun {k} {o} hk => by rw [b.block k (Array.getElem?_eq_some_iff.1 hk).1, hk]
  exact ⟨b.os.trans h.os, ⟨b.tape.trans h.tape.1, Nat.zero_le _⟩, b.output.trans h.output, fun k o hk => up (h.imm k o hk), fun p hp => up (h.own_at p hp), h.apart, h.nodup⟩
section
variable {P : Program} {pk : Pk} {f : FuncId} {args : List XV} {Ψ : XV → Prop}
theorem XP.ofFn (hcl : Callable P f) (hp : ∀ r, Ψ r → pure r = true) (h : ∀ w0 own H V vals, pk.hy H → XVs.rels V H args vals → K.Fn P f vals w0 H own (fun r o H' => (∃ R, Ψ R ∧ R.rel V H' r) ∧ o = own ∧ Le H H')) (ha : XVs.all (fun _ _ => false) args = true := by rfl) : XP P pk f args Ψ := by
  refine ⟨ha, hp, hcl, ?_⟩
  rintro ⟨w0, own, H, V, nx0, F, pk', v0, hF⟩ rfl rfl rfl sg vals hr hh ht w hw
  have hsg := HR0 hh
  subst hsg
  refine Calls.mono (h w0 ([] :: own) H V vals hF.2 hr w hw) ?_
  rintro e w' ⟨r, o, H', rfl, ⟨⟨R, q1, h1⟩, rfl, h2⟩, h3⟩
  have hn : ∀ g t, V g t = none := fun g t => by
    cases hv : V g t with
    | none => rfl
    | some i => have := (v0 g t (by rw [hv]; simp)).2; simp [aa] at this
  exact .inl ⟨r, R, [], V, H', [], rfl, ⟨q1, rfl⟩, h1, rfl, by intro b hb; simp at hb, List.nodup_nil, by intro b hb; simp at hb, VLe.refl _, fun g t _ => hn g t, fun g t _ k => absurd (hn g t) k, h2, h3⟩
end
variable {pk : Pk}
theorem std_Cut (hV : ∀ H, pk.hy H → VarH H) {s : ByteArray} (hs : s.size ≤ 1000000000) : XQ Tryz.prog pk 145 [xs s, xs ⟨#[32]⟩] (.t [xs' (ae s), xs' (ah s), xb' (decide (cE s.data.toList < s.data.toList.length))]) := XQ.ofFn inferInstance (fun w0 own H V vals hy hv => by
  match vals, hv with
  | [v, u], hv =>
    have := aT hv.1; subst this
    have := aT hv.2.1; subst this
    obtain ⟨m, e, fz, hm⟩ := (hV H hy).mx
    intro w hw
    have hb := hw.imm _ _ hm
    refine Calls.mono (Any.strings_Cut Tryz.laysCut s ⟨#[32]⟩ m w (by omega) (by show w.cell? ⟨0, 0, none⟩ = _; simp [World.cell?, hb])) ?_
    rintro e w' ⟨rfl, n, rfl⟩
    rw [lib_cut]
    refine ⟨_, own, H, rfl, ⟨⟨_, rfl, ?_⟩, rfl, Le.refl _⟩, ⟨hw.os, ⟨hw.tape.1, Nat.zero_le _⟩, hw.output, hw.imm, hw.own_at, hw.apart, hw.nodup⟩⟩
    skip
    exact ⟨⟨rfl, rfl⟩, ⟨rfl, rfl⟩, ⟨rfl, rfl⟩, trivial⟩)
theorem std_Atoi (hV : ∀ H, pk.hy H → VarH H) {s : ByteArray} (hs : s.size ≤ 1000000000) : XP Tryz.prog pk 178 [xs s] (fun r => (∃ n, bh s = some n ∧ r = .t [xi' n, .c (.d (.c .nilIface))]) ∨ (bh s = none ∧ ∃ n t v, r = .t [xi' n, .c (.d (.c (.iface t v)))])) := XP.ofFn inferInstance (by rintro r (⟨n, _, rfl⟩ | ⟨_, n, t, v, rfl⟩) <;> rfl) (fun w0 own H V vals hy hv => by
  match vals, hv with
  | [v], hv =>
    have := aT hv.1; subst this
    obtain ⟨ev, e, fz, hm, hev⟩ := (hV H hy).sy
    obtain ⟨ev2, e2, fz2, hm2, hev2⟩ := (hV H hy).rg
    intro w hw
    have hb := hw.imm _ _ hm
    have hb2 := hw.imm _ _ hm2
    rcases atoi_all s with ⟨v, h1, h2⟩ | ⟨h1 | h1, h2⟩
    · refine Calls.mono (Any.strconv_Atoi_ok Tryz.laysAtoi s (by omega) v h1 w) ?_
      rintro e w' ⟨rfl, hw'⟩
      refine ⟨_, own, H, rfl, ⟨⟨_, .inl ⟨v, h2, rfl⟩, ⟨_, rfl, ?_⟩⟩, rfl, Le.refl _⟩, ?_⟩
      · skip
        exact ⟨⟨rfl, rfl⟩, ⟨rfl, rfl⟩, trivial⟩
      · rcases hw' with rfl | ⟨t, rfl⟩
        · exact hw
        · exact St.below hw (Lib.bytesWorld_below _ _ _)
    · refine Calls.mono (Any.strconv_Atoi_syntax Tryz.laysAtoi s (by omega) (by revert h1; cases Lib.atoiAll s.data.toList <;> intro h1 <;> first | rfl | exact h1.elim) ev w (by show w.cell? ⟨2, 0, none⟩ = _; simp [World.cell?, hb]) hev) ?_
      rintro e w' ⟨N, rfl, _, _, hbl⟩
      refine ⟨_, own, H, rfl, ⟨⟨_, .inr ⟨h2, 0, Tryz.laysAtoi_ren.t 168, .pointer (some ⟨N, 0, none⟩), rfl⟩, ⟨_, rfl, ?_⟩⟩, rfl, Le.refl _⟩, St.below hw hbl⟩
      skip
      exact ⟨⟨rfl, rfl⟩, ⟨rfl, rfl⟩, trivial⟩
    · refine Calls.mono (Any.strconv_Atoi_range Tryz.laysAtoi s (by omega) h1 ev2 w (by show w.cell? ⟨3, 0, none⟩ = _; simp [World.cell?, hb2]) hev2) ?_
      rintro e w' ⟨N, rfl, _, _, hbl⟩
      refine ⟨_, own, H, rfl, ⟨⟨_, .inr ⟨h2, Lib.atoiSat s.data.toList, Tryz.laysAtoi_ren.t 168, .pointer (some ⟨N, 0, none⟩), rfl⟩, ⟨_, rfl, ?_⟩⟩, rfl, Le.refl _⟩, St.below hw hbl⟩
      skip
      exact ⟨⟨rfl, rfl⟩, ⟨rfl, rfl⟩, trivial⟩)
theorem std_Idx (b : UInt8) : XQ Tryz.prog pk 147 [xs ⟨#[48, 49, 50, 51, 52, 53, 54, 55, 56, 57, 97, 98, 99, 100, 101, 102]⟩, xv (.int .u8 (b.toNat : Int))] (xi (hexI b)) := XQ.ofFn inferInstance (fun w0 own H V vals hy hv => by
  match vals, hv with
  | [v, u], hv =>
    have := aT hv.1; subst this
    have := aT hv.2.1; subst this
    intro w hw
    refine Calls.mono (Any.strings_IndexByte Tryz.laysIdx _ (b.toNat : Int) w) ?_
    rintro e w' ⟨rfl, rfl⟩
    rw [show ((b.toNat : Int).toNat.toUInt8) = b by simp, show (ByteArray.mk #[48, 49, 50, 51, 52, 53, 54, 55, 56, 57, 97, 98, 99, 100, 101, 102]).data.toList = [48, 49, 50, 51, 52, 53, 54, 55, 56, 57, 97, 98, 99, 100, 101, 102] from rfl, hex_at]
    refine ⟨_, own, H, rfl, ⟨?_, rfl, Le.refl _⟩, hw⟩
    simp only [XV.rel, XA.rel, XC.rel, rd, hexI]
    exact ⟨rfl, rfl⟩)
theorem ftk_of (hV : ∀ H, pk.hy H → VarH H) (hp : pk.pc = wrg) : FTk pk := ⟨hp, fun _ hs => std_Cut hV hs, fun _ hs => std_Atoi hV hs, std_Idx⟩
end
section
open Go Go.RowKit Go.Proofs K
variable {pk : Pk}
theorem PrG'.of {p : Par} (h : dV p.nm = true ∧ rTy p.ty = true ∧ p.ty.ok ∧ p.ty.size ≤ 8) : cy p = true ∧ p.ok BG := by
  obtain ⟨h1, h2, h3, h4⟩ := h
  have hi := nC h1
  have := al hi
  exact ⟨by rw [cy, hi, h2]; rfl, by omega, h3, by unfold BG; omega⟩
theorem FR.facts {f : Fu} (h : FR f) {nm : ByteArray} (hn : ak nm = true) {b : List Sm} (hb : SGs 399999999 b) {fl : Bool} {x y : Int} (hf : fl = false ∧ x = 0 ∧ y = 0) : rFu ⟨nm, f.ps, f.res, b, fl, x, y⟩ = true ∧ Fu.ok BG ⟨nm, f.ps, f.res, b, fl, x, y⟩ := by
  obtain ⟨rfl, rfl, rfl⟩ := hf
  have hs := al hn
  have hps : f.ps.all cy = true := List.all_eq_true.2 fun p hp => (PrG'.of (h.ps p hp)).1
  have hres : (aB f.res 7 || rTy f.res) = true := by rcases h.res.1 with q | q <;> rw [q] <;> simp
  refine ⟨?_, by show nm.size ≤ _; omega, by show f.ps.length ≤ _; have := h.pl; unfold BG; omega, fun p hp => (PrG'.of (h.ps p hp)).2, h.res.2.1, by show f.res.size ≤ _; have := h.res.2.2; unfold BG; omega, hb.o, Nat.le_trans hb.s (by unfold BG; omega), ⟨by show (_ : Int) ≤ 0; omega, by show (0 : Int) ≤ _; omega⟩, by show (0 : Int) ≤ 0; omega, by show (0 : Int) ≤ _; omega⟩
  show (ak nm && f.ps.all cy && (aB f.res 7 || rTy f.res) && (decide ((0 : Int) = 0 ∧ (0 : Int) = 0) && cw b)) = true
  rw [hn, hps, hres, hb.r]; rfl
theorem MP.facts {p : Pg} (h : MP p) : rPg p = true ∧ p.ok BG := by
  obtain ⟨tn, s1, s2, fs, hd, ht, h1, h2, rfl, hl1, hl2, hn, hF, hh⟩ := h
  have hts : ∀ x ∈ gf tn, TdG x := fun x hx => by
    unfold gf at hx
    (repeat' split at hx) <;> simp only [List.mem_cons, List.not_mem_nil, or_false] at hx
    · rw [hx]; exact tdS_G
    · rcases hx with rfl | rfl
      · exact tdS_G
      · exact tdU_G
  have hgs : ∀ x ∈ dG tn ++ [gbT s1, gbW s2], GbG x := fun x hx => by
    rcases List.mem_append.1 hx with hx | hx
    · unfold dG at hx
      rcases List.mem_append.1 hx with hx | hx
      · exact gbs0_G x hx
      · (repeat' split at hx) <;> simp only [List.mem_cons, List.not_mem_nil, or_false] at hx
        · rw [hx]; exact gbS_G
        · rcases hx with rfl | rfl
          · exact gbS_G
          · exact gbU_G
    · simp only [List.mem_cons, List.not_mem_nil, or_false] at hx
      rcases hx with rfl | rfl
      · exact gbT_G h1
      · exact gbW_G h2
  have hfs : ∀ x ∈ fs ++ hd, FuG x := fun x hx => by
    rcases List.mem_append.1 hx with hx | hx
    · obtain ⟨a, b⟩ := hF x hx
      exact FR.facts a (nD a.nm) b a.body.2
    · rcases hh with rfl | ⟨b, rfl, hb⟩
      · cases hx
      · rw [List.mem_singleton.1 hx]
        exact FR.facts (f := ⟨⟨#[109, 97, 105, 110]⟩, [], .mk 7 eS 0 [], [], false, 0, 0⟩) (nM (by decide) (fun _ h => by cases h) (Nat.zero_le _) (by omega)) (nm := intN) (by decide +kernel) (hb.mono (by omega)) ⟨rfl, rfl, rfl⟩
  have l1 : (gf tn).length ≤ 2 := by unfold gf; (repeat' split) <;> decide
  have l0 : (dG tn).length ≤ 7 := by unfold dG; (repeat' split) <;> decide
  have l2 : (dG tn ++ [gbT s1, gbW s2]).length ≤ 9 := by rw [List.length_append]; simp only [List.length_cons, List.length_nil]; omega
  have l3 : (fs ++ hd).length ≤ 5 := by
    rw [List.length_append]
    rcases hh with rfl | ⟨b, rfl, _⟩ <;> simp only [List.length_cons, List.length_nil] <;> omega
  exact pg_G l1 l2 l3 hts hgs hfs
theorem pu (l : List Int) : ∀ r ∈ l.map dr, r.length = 1 := fun r hr => by
  obtain ⟨s, _, rfl⟩ := List.mem_map.1 hr
  rfl
theorem pw {l : List Int} (h1 : ∀ n ∈ l, I64 n) : XP Tryz.prog pk 9 [xr (l.map dr)] (fun r => ∃ p, r = xd (pgD p) ∧ MP p) := by
  refine XP.en Tryz.func9 Tryz.ntmps9 (by rintro _ ⟨p, rfl, _⟩; rfl) (fun w0 own H V v0 hf => ?_)
  refine Ln 0 rfl (fun hl => ?_); rw [List.length_map] at hl
  refine G (T := T) 7 rfl ?_
  have hm : (min ((l.map dr).length : Int) 120) = ((min l.length 120 : Nat) : Int) := by rw [List.length_map]; omega
  refine Sd (T := T) (li := none) 0 (min l.length 120) rfl ⟨_, _, rfl, rfl⟩ rfl rfl rfl ⟨rfl, rfl⟩ rfl hm (Nat.zero_le _) (by rw [List.length_map]; omega) (pu l) ?_
  rw [List.drop_zero, Nat.sub_zero, ← List.map_take]
  refine G (T := T) 1000 rfl ?_
  refine Ce (mk_Made (l := l.take (min l.length 120)) (fun n hn => h1 n (List.mem_of_mem_take hn)) (by rw [List.length_take]; omega)) rfl rfl rfl rfl rfl ⟨rfl, rfl⟩ ?_
  rintro _ ⟨p, rfl, hp⟩
  refine G (T := T) 1000 rfl ?_
  exact Fp (T := T) (xd (pgD p)) ⟨p, rfl, hp⟩ rfl rfl
end
theorem iz {C : Nat} : ∀ {l : List Tr}, (∀ t ∈ l, t.size ≤ C) → Tr.sizes l ≤ l.length * C
  | [], _ => by simp [Tr.sizes]
  | t :: r, h => by
    have h1 := h t (List.mem_cons_self ..)
    have h2 := iz (C := C) (l := r) fun u hu => h u (List.mem_cons_of_mem _ hu)
    simp only [Tr.sizes, List.length_cons, Nat.add_mul]; omega
theorem tPar_size (w : ByteArray) (p : Par) : (cD w p).size = p.ty.size + 1 := by
  unfold cD
  simp only [Tr.size, Tr.sizes, fm]; try omega
theorem px {f : Fu} (hp : ∀ p ∈ f.ps, p.ty.size ≤ 8) (hl : f.ps.length ≤ 3) (hr : f.res.size ≤ 8) (hb : Sm.sizes f.body ≤ 400000000) : (tFu f).size ≤ 1300000000 := by
  have h1 : Tr.sizes (f.ps.map (cD bB)) ≤ (f.ps.map (cD bB)).length * 9 := iz fun t ht => by
    obtain ⟨p, h2, rfl⟩ := List.mem_map.1 ht
    have := hp p h2
    rw [tPar_size]; omega
  rw [List.length_map] at h1
  have h2 := d9 f.body
  have h3 := fm f.res
  unfold tFu
  split <;> simp only [Tr.size, Tr.sizes, eX] <;> omega
theorem tGb_size (g : Gb) : (tGb g).size ≤ g.ty.size + 5 := by
  have h3 := fm g.ty
  unfold tGb
  split <;> simp only [Tr.size, Tr.sizes, eX] <;> omega
theorem MP_tree {p : Pg} (h : MP p) : (cC p).size ≤ 12000000000 ∧ lbM (cC p) := by
  have hf := h.facts
  obtain ⟨tn, s1, s2, fs, hd, _, h1, h2, rfl, _, hl2, _, hF, hh⟩ := h
  have hg : ∀ g ∈ dG tn ++ [gbT s1, gbW s2], g.bytes.size ≤ 400000 := by
    intro g hg
    rcases List.mem_append.1 hg with hg | hg
    · have : ∀ n, n < 3 → ∀ g ∈ dG n, g.bytes.size ≤ 400000 := by decide +kernel
      exact this tn (by omega) g hg
    · simp only [List.mem_cons, List.not_mem_nil, or_false] at hg
      rcases hg with rfl | rfl
      · show s1.size ≤ _; omega
      · show s2.size ≤ _; omega
  refine ⟨?_, lm_tree hf.1 hf.2 hg⟩
  rw [cC, if_pos hf.1, tPg]
  have hgl : (dG tn ++ [gbT s1, gbW s2]).length ≤ 9 := by
    have l0 : (dG tn).length ≤ 7 := by unfold dG; (repeat' split) <;> decide
    rw [List.length_append]; simp only [List.length_cons, List.length_nil]; omega
  have e1 : Tr.sizes ((gf tn).map tTd) ≤ 1000 := by
    have : ∀ n, n < 3 → Tr.sizes ((gf n).map tTd) ≤ 1000 := by decide +kernel
    exact this tn (by omega)
  have e2 : Tr.sizes ((dG tn ++ [gbT s1, gbW s2]).map tGb) ≤ ((dG tn ++ [gbT s1, gbW s2]).map tGb).length * 400000005 := iz fun t ht => by
    obtain ⟨g, h3, rfl⟩ := List.mem_map.1 ht
    have h4 := tGb_size g
    have h5 := (hf.2.g g h3).2.2.1
    unfold BG at h5
    omega
  have e3 : Tr.sizes ((fs ++ hd).map tFu) ≤ ((fs ++ hd).map tFu).length * 1300000000 := iz fun t ht => by
    obtain ⟨f, h3, rfl⟩ := List.mem_map.1 ht
    rcases List.mem_append.1 h3 with h3 | h3
    · obtain ⟨a, b⟩ := hF f h3
      exact px (fun q hq => (a.ps q hq).2.2.2) a.pl a.res.2.2 (by have := b.s; omega)
    · rcases hh with rfl | ⟨b, rfl, hb⟩
      · cases h3
      · rw [List.mem_singleton.1 h3]
        exact px (fun q hq => by cases hq) (Nat.zero_le _) (by show (Ty4.mk 7 eS 0 []).size ≤ 8; simp [Ty4.size, Ty4.sizes]) (by have := hb.s; show Sm.sizes b ≤ _; omega)
  have l3 : (fs ++ hd).length ≤ 5 := by
    rw [List.length_append]
    rcases hh with rfl | ⟨b, rfl, _⟩ <;> simp only [List.length_cons, List.length_nil] <;> omega
  rw [List.length_map] at e2 e3
  have m2 := Nat.mul_le_mul_right 400000005 hgl
  have m3 := Nat.mul_le_mul_right 1300000000 l3
  simp only [Tr.size, Tr.sizes]
  omega
section
open Go Go.RowKit Go.Proofs K
variable {pk : Pk}
end
section
open Go Go.RowKit Go.Proofs K
variable {pk : Pk}
theorem len0 {α : Type} {f : α → List D} {l : List α} : decide (((l.map f).length : Int) = 0) = decide (l.length = 0) := by rw [List.length_map]; exact decide_eq_decide.2 (by omega)
theorem qc (t : Ty4) : XQ Tryz.prog pk 158 [xd (tyD t)] (xb (aB t 0)) := by
  obtain ⟨k', nm, n, ts⟩ := t
  rw [fX]
  refine XQ.en Tryz.func158 Tryz.ntmps158 (fun w0 own H V v0 hf => ?_)
  refine Gs (T := T) 100001 rfl ?_
  refine (FzTo.bz 0 rfl).c ?_
  refine Gs (T := T) 1000 rfl ?_
  refine Fe (T := T) rfl ?_
  show xb (_ && decide (((ts.map tyD).length : Int) = 0)) = _
  rw [len0]; rfl
theorem ez : ∀ (m : Nat) {t : Ty4}, t.size ≤ m → t.ok → XQ Tryz.prog pk 30 [xd (tyD t)] (xb (rTy t)) := by
  intro m
  induction m with
  | zero => intro t hm; have := t.size_pos; omega
  | succ m ih =>
  intro t hm hok
  obtain ⟨k, nm, n, ts⟩ := t
  obtain ⟨hk, hn, hn2, hts⟩ := hok
  rw [fX]
  have hsz : (Ty4.mk k nm n ts).size = Ty4.sizes ts + 1 := rfl
  obtain ⟨u0, hu0⟩ : ∃ u0 : Ty4, ts.length = 1 → ts = [u0] := by
    match ts with
    | [] => exact ⟨.mk 0 eS 0 [], fun h => by simp at h⟩
    | [x] => exact ⟨x, fun _ => rfl⟩
    | _ :: _ :: _ => exact ⟨.mk 0 eS 0 [], fun h => by simp at h⟩
  have l1 : decide (((ts.map tyD).length : Int) = 1) = true → ts = [u0] := fun h => hu0 (by have := of_decide_eq_true h; rw [List.length_map] at this; omega)
  have hu : decide (((ts.map tyD).length : Int) = 1) = true → (ts.map tyD)[0]? = some (tyD u0) := fun h => by rw [l1 h]; rfl
  have ihu : decide (((ts.map tyD).length : Int) = 1) = true → XQ Tryz.prog pk 30 [xd (tyD u0)] (xb (rTy u0)) := fun h => by
    have e := l1 h
    subst e
    exact ih (by simp only [Ty4.sizes] at hsz; omega) hts.1
  have last : k = 5 ∨ k = 6 → ((((decide (nm = ⟨#[]⟩) && decide (0 ≤ n)) && decide (n ≤ if k = 6 then 64 else 65535)) && decide (((ts.map tyD).length : Int) = 1)) && rTy u0) = rTy (.mk k nm n ts) := fun hq => by
    rw [ty_eq (.inr ⟨hq, rfl, rfl⟩)]
    cases hl : decide (((ts.map tyD).length : Int) = 1) with
    | true => rw [List.length_map] at hl; rw [hl, l1 (by rw [List.length_map]; exact hl)]; simp
    | false => rw [List.length_map] at hl; rw [hl]; simp
  refine XQ.en Tryz.func30 Tryz.ntmps30 (fun w0 own H V v0 hf => ?_)
  refine Gs (T := T) 100001 rfl ?_
  refine (FzTo.bz 0 rfl).c ?_
  refine Gs (T := T) 1000 rfl ?_
  refine If rfl (fun h => ?_) (fun h => ?_)
  · have h9 := of_decide_eq_true h
    refine Gs (T := T) 1000 rfl ?_
    refine IfT rfl h ?_
    refine Gs (T := T) 1000 rfl ?_
    exact Fe (T := T) rfl (by
      rw [rTy, if_neg (by omega), if_pos (by omega)]
      show xb (_ && decide (((ts.map tyD).length : Int) = 0)) = _
      rw [len0])
  have h2 := of_decide_eq_false h
  refine Gs (T := T) 1000 rfl ?_
  refine If rfl (fun h => ?_) (fun h => ?_)
  · have h9 := of_decide_eq_true h
    refine Gs (T := T) 1000 rfl ?_
    refine IfT rfl h ?_
    refine Gs (T := T) 1000 rfl ?_
    exact Fe (T := T) rfl (by
      rw [rTy, if_neg (by omega), if_pos (by omega)]
      show xb (_ && decide (((ts.map tyD).length : Int) = 0)) = _
      rw [len0])
  have h1 := of_decide_eq_false h
  refine Gs (T := T) 1000 rfl ?_
  refine If rfl (fun h => ?_) (fun h => ?_)
  · have h9 := of_decide_eq_true h
    refine Gs (T := T) 1000 rfl ?_
    exact Fe (T := T) rfl (by
      rw [rTy, if_neg (by omega), if_pos (by omega)]
      show xb (_ && decide (((ts.map tyD).length : Int) = 0)) = _
      rw [len0])
  have h3 := of_decide_eq_false h
  refine Gs (T := T) 1000 rfl ?_
  refine If rfl (fun h => ?_) (fun h => ?_)
  · have h9 := of_decide_eq_true h
    refine Gs (T := T) 1000 rfl ?_
    refine Cq (bX (by omega)) rfl rfl rfl rfl rfl ⟨rfl, rfl⟩ ?_
    refine Gs (T := T) 1000 rfl ?_
    exact Fe (T := T) rfl (by
      rw [rTy, if_pos h9]
      show xb (_ && decide (((ts.map tyD).length : Int) = 0)) = _
      rw [len0])
  have h4 := of_decide_eq_false h
  refine Gs (T := T) 1000 rfl ?_
  refine If rfl (fun h => ?_) (fun h => ?_)
  · have h9 := of_decide_eq_true h
    refine Gs (T := T) 1000 rfl ?_
    refine IfT rfl h ?_
    refine G (T := T) 1000 rfl ?_
    refine Cf [1] (fun (_ : Unit) r => (4, xi (if k = 6 then 64 else 65535)) :: r) (fun _ => []) 1 (fun _ => True) rfl ?_ ?_
    · refine If rfl (fun h => ?_) (fun h => ?_)
      · rw [if_pos (of_decide_eq_true h)]
        refine G (T := T) 1000 rfl ?_
        exact Dn () trivial
      · rw [if_neg (of_decide_eq_false h)]
        refine G (T := T) 1000 rfl ?_
        exact Dn () trivial
    rintro _ -
    refine Gs (T := T) 1000 rfl ?_
    refine Is (T := T) 0 (tyD u0) (fun h => ⟨hu (Bool.and_eq_true_iff.1 h).2, rfl⟩) rfl rfl rfl rfl rfl rfl rfl rfl ?_
    refine Gs (T := T) 1000 rfl ?_
    refine Cs (fun h => ihu (Bool.and_eq_true_iff.1 h).2) rfl rfl rfl rfl rfl rfl rfl rfl ?_
    refine Gs (T := T) 1000 rfl ?_
    exact Fe (T := T) rfl (congrArg xb (last (by omega)))
  have h5 := of_decide_eq_false h
  refine Gs (T := T) 1000 rfl ?_
  refine If rfl (fun h => ?_) (fun h => ?_)
  · have h9 := of_decide_eq_true h
    refine G (T := T) 1000 rfl ?_
    refine Cf [1] (fun (_ : Unit) r => (4, xi (if k = 6 then 64 else 65535)) :: r) (fun _ => []) 1 (fun _ => True) rfl ?_ ?_
    · refine If rfl (fun h => ?_) (fun h => ?_)
      · rw [if_pos (of_decide_eq_true h)]
        refine G (T := T) 1000 rfl ?_
        exact Dn () trivial
      · rw [if_neg (of_decide_eq_false h)]
        refine G (T := T) 1000 rfl ?_
        exact Dn () trivial
    rintro _ -
    refine Gs (T := T) 1000 rfl ?_
    refine Is (T := T) 0 (tyD u0) (fun h => ⟨hu (Bool.and_eq_true_iff.1 h).2, rfl⟩) rfl rfl rfl rfl rfl rfl rfl rfl ?_
    refine Gs (T := T) 1000 rfl ?_
    refine Cs (fun h => ihu (Bool.and_eq_true_iff.1 h).2) rfl rfl rfl rfl rfl rfl rfl rfl ?_
    refine Gs (T := T) 1000 rfl ?_
    exact Fe (T := T) rfl (congrArg xb (last (by omega)))
  have h6 := of_decide_eq_false h
  refine Gs (T := T) 1000 rfl ?_
  exact Fe (T := T) rfl (congrArg xb (by rw [rTy, if_neg (by omega), if_neg (by omega), if_neg (by omega)]))
theorem cN {α : Type} {p : α → Bool} {l : List α} {j : Nat} {y : α} (h : (l.take j).all p = true) (hy : l[j]? = some y) (hp : p y = true) : (l.take (j + 1)).all p = true := by
  rw [List.take_succ, hy, List.all_append, h]; simp [hp]
theorem cm {α : Type} {p : α → Bool} {l : List α} {y : α} (hy : y ∈ l) (hp : p y = false) : l.all p = false := by
  rw [Bool.eq_false_iff]; intro h
  rw [List.all_eq_true.1 h y hy] at hp; cases hp
theorem lw {l : List Par} (hl : l.length ≤ 100000000000) (hok : ∀ p ∈ l, p.nm.size ≤ 1000000 ∧ p.ty.ok) : XQ Tryz.prog pk 29 [xr (l.map paD)] (xb (l.all cy)) := by
  refine XQ.en Tryz.func29 Tryz.ntmps29 (fun w0 own H V v0 hf => ?_)
  refine G (T := T) 1000 rfl ?_
  refine Lq [0] (fun q r => (2, xb false) :: (3, xi (q : Nat)) :: r) (fun q => []) 0 (fun q => q ≤ l.length ∧ (l.take q).all cy = true) (fun q => l.length - q) 0 rfl ⟨Nat.zero_le _, rfl⟩ ?_
  rintro j ⟨hj, hI⟩
  refine G (T := T) 1000 rfl ?_
  refine If rfl (fun h => ?_) (fun h => ?_)
  · have hjl := of_decide_eq_true h; rw [List.length_map] at hjl
    obtain ⟨y, hy⟩ := ad (l := l) (j := j) (by omega)
    have hym := List.mem_of_getElem? hy
    obtain ⟨o1, o2⟩ := hok y hym
    refine G (T := T) 1000 rfl ?_
    refine Ix (T := T) j (ab hy) rfl rfl rfl rfl ⟨rfl, rfl⟩ rfl rfl ?_
    refine G (T := T) 1000 rfl ?_
    refine Cq (bX (by omega)) rfl rfl rfl rfl rfl ⟨rfl, rfl⟩ ?_
    refine G (T := T) 1000 rfl ?_
    refine Ix (T := T) j (ab hy) rfl rfl rfl rfl ⟨rfl, rfl⟩ rfl rfl ?_
    refine G (T := T) 1000 rfl ?_
    refine Cq (ez _ (Nat.le_refl _) o2) rfl rfl rfl rfl rfl ⟨rfl, rfl⟩ ?_
    refine Gs (T := T) 1000 rfl ?_
    have e9 : (!ak y.nm || !rTy y.ty) = !cy y := by rw [cy, Bool.not_and]
    refine If rfl (fun h => ?_) (fun h => ?_)
    · rw [e9] at h
      refine G (T := T) 1000 rfl ?_
      exact Fe (T := T) rfl (congrArg xb (cm hym (by simpa using h)).symm)
    · rw [e9] at h
      refine G (T := T) 1000 rfl ?_
      exact Nq (j + 1) ⟨by omega, cN hI hy (by simpa using h)⟩ (by show _ - (j + 1) < _ - j; omega)
  · have hjl := of_decide_eq_false h; rw [List.length_map] at hjl
    refine G (T := T) 1000 rfl ?_
    rw [List.take_of_length_le (by omega)] at hI
    exact Fe (T := T) rfl (congrArg xb hI.symm)
end
section
open Go Go.RowKit Go.Proofs K
variable {pk : Pk}
theorem ref_shape (k : Int) (a b c : D) : XQ Tryz.prog pk 181 [xd [.c (.int .i64 k), a, b, c]] (xd [.c (.int .i64 (shp k).1), .c (.int .i64 (shp k).2.1), .c (.int .i64 (shp k).2.2)]) := by
  refine XQ.en Tryz.func181 Tryz.ntmps181 (fun w0 own H V v0 hf => ?_)
  refine G (T := T) 100001 rfl ?_
  refine (FzTo.bz 0 rfl).c ?_
  refine G (T := T) 1000 rfl ?_
  iterate 15
    refine If rfl (fun h => ?_) (fun h => ?_)
    rotate_left
    have := of_decide_eq_false h
    refine G (T := T) 1000 rfl ?_
  · rw [show shp k = (-1, 0, 0) from by unfold shp; (repeat rw [if_neg (by omega)])]
    exact Fq (T := T) rfl rfl
  all_goals
    have h9 := of_decide_eq_true h
    subst h9
    refine G (T := T) 1000 rfl ?_
    first
      | exact Fq (T := T) rfl rfl
      | (refine IfT rfl h ?_; refine G (T := T) 1000 rfl ?_; exact Fq (T := T) rfl rfl)
end
section
open Go Go.RowKit Go.Proofs K
variable {pk : Pk}
theorem qd : XQ Tryz.prog pk 202 [] (xr (levL.map fun l => [D.s (l.map cA)])) := by
  refine XQ.en Tryz.func202 Tryz.ntmps202 (fun w0 own H V v0 hf => ?_)
  refine G (T := T) 1000 rfl ?_
  exact Fq (T := T) rfl rfl
def rankI (s : ByteArray) : Int := idxI (aG s) levL
theorem rank_lev (s : ByteArray) : decide (0 ≤ rankI s) = aG s opsL := by rw [ops_lev]; exact jD _ _
theorem ref_rank (s : ByteArray) : XQ Tryz.prog pk 182 [xs s] (xi (rankI s)) := by
  refine XQ.en Tryz.func182 Tryz.ntmps182 (fun w0 own H V v0 hf => ?_)
  refine G (T := T) 1000 rfl ?_
  refine Cq qd rfl rfl rfl rfl rfl ⟨rfl, rfl⟩ ?_
  have hl : levL.length = 8 := rfl
  have hb : ∀ l ∈ levL, l.length ≤ 1000000 := by decide
  rw [rankI]
  generalize levL = L at hl hb ⊢
  refine G (T := T) 1000 rfl ?_
  refine Lq [0, 3] (fun q r => (2, xi 0) :: (4, xi (q : Nat)) :: r) (fun q => []) 0 (fun q => q ≤ L.length ∧ (L.take q).any (aG s) = false) (fun q => L.length - q) 0 rfl ⟨Nat.zero_le _, rfl⟩ ?_
  rintro j ⟨hj, hI⟩
  refine G (T := T) 1000 rfl ?_
  refine If rfl (fun h => ?_) (fun h => ?_)
  · have hjl := of_decide_eq_true h; rw [List.length_map] at hjl
    obtain ⟨y, hy⟩ := ad (l := L) (j := j) (by omega)
    refine G (T := T) 1000 rfl ?_
    refine Ix (T := T) j (ab hy) rfl rfl rfl rfl ⟨rfl, rfl⟩ rfl rfl ?_
    refine G (T := T) 1000 rfl ?_
    refine Cq (mh (hb y (List.mem_of_getElem? hy)) s) rfl rfl rfl rfl rfl ⟨rfl, rfl⟩ ?_
    refine G (T := T) 1000 rfl ?_
    refine If rfl (fun h => ?_) (fun h => ?_)
    · refine G (T := T) 1000 rfl ?_
      exact Fe (T := T) rfl (by show xi _ = xi _; rw [fx hI hy h])
    · refine G (T := T) 1000 rfl ?_
      exact Nq (j + 1) ⟨by omega, eQ hI hy h⟩ (by show _ - (j + 1) < _ - j; omega)
  · have hjl := of_decide_eq_false h; rw [List.length_map] at hjl
    refine G (T := T) 1000 rfl ?_
    exact Fe (T := T) rfl (by show xi _ = xi _; rw [gE hI (by omega)])
theorem qe : ∀ (m : Nat), m ≤ 100000000000 → ∀ {e : Ex}, e.size ≤ m → e.ok → XQ Tryz.prog pk 159 [xd (exD e)] (xb (rEx e)) := by
  intro m
  induction m with
  | zero => intro _ e hm; have := e.size_pos; omega
  | succ m ih =>
  intro hB e hm hok
  obtain ⟨k, nm, n, ks⟩ := e
  obtain ⟨hk, hn, hn2, hks⟩ := hok
  have hsz : (Ex.mk k nm n ks).size = Ex.sizes ks + 1 := rfl
  have hlen := Ex.len_le ks
  rw [eP, rEx_split hn2.1]
  refine XQ.en Tryz.func159 Tryz.ntmps159 (fun w0 own H V v0 hf => ?_)
  refine G (T := T) 100001 rfl ?_
  refine (FzTo.bz 0 rfl).c ?_
  refine G (T := T) 1000 rfl ?_
  refine Cq (ref_shape k _ _ _) rfl rfl rfl rfl rfl ⟨rfl, rfl⟩ ?_
  refine Gs (T := T) 1000 rfl ?_
  have e1 : ((decide (0 ≤ (shp k).1) && decide (((ks.map exD).length : Int) ≠ (shp k).1)) || decide ((shp k).2.1 ≤ n)) = ji k n ks.length := by rw [ji, List.length_map]
  refine If rfl (fun h => ?_) (fun h => ?_)
  · rw [show ji k n ks.length = true from e1.symm.trans h]
    refine G (T := T) 1000 rfl ?_
    exact Fe (T := T) rfl rfl
  have h1 : ji k n ks.length = false := e1.symm.trans h
  have hin := exOne_in hn2.1 h1
  rw [h1]
  refine G (T := T) 200000 rfl ?_
  refine Cf [1, 2] (fun (_ : Unit) r => (4, xb (bq k nm)) :: r) (fun _ => []) 2 (fun _ => True) rfl ?_ ?_
  · refine G (T := T) 1000 rfl ?_
    refine If rfl (fun h => ?_) (fun h => ?_)
    · rw [ox ((shp_nm1 hin).1 (of_decide_eq_true h))]
      refine G (T := T) 1000 rfl ?_
      refine Cq (bX (by omega)) rfl rfl rfl rfl rfl ⟨rfl, rfl⟩ ?_
      refine G (T := T) 1000 rfl ?_
      exact Dn () trivial
    have h2 : ¬ (k = 2 ∨ k = 3 ∨ k = 14) := fun q => absurd ((shp_nm1 hin).2 q) (of_decide_eq_false h)
    refine G (T := T) 1000 rfl ?_
    refine If rfl (fun h => ?_) (fun h => ?_)
    · rw [exName_un (of_decide_eq_true h)]
      refine Gs (T := T) 1000 rfl ?_
      exact Dn () trivial
    have h3 := of_decide_eq_false h
    refine G (T := T) 1000 rfl ?_
    refine If rfl (fun h => ?_) (fun h => ?_)
    · rw [oy (of_decide_eq_true h)]
      refine Gs (T := T) 1000 rfl ?_
      exact Dn () trivial
    have h4 := of_decide_eq_false h
    refine G (T := T) 1000 rfl ?_
    refine If rfl (fun h => ?_) (fun h => ?_)
    · rw [pG (of_decide_eq_true h), ← rank_lev]
      refine G (T := T) 1000 rfl ?_
      refine Cq (ref_rank nm) rfl rfl rfl rfl rfl ⟨rfl, rfl⟩ ?_
      refine G (T := T) 1000 rfl ?_
      exact Dn () trivial
    have h5 := of_decide_eq_false h
    rw [oz h2 h3 h4 h5]
    refine G (T := T) 1000 rfl ?_
    exact Dn () trivial
  rintro _ -
  refine G (T := T) 1000 rfl ?_
  refine If rfl (fun h => ?_) (fun h => ?_)
  · rw [notT h]
    refine G (T := T) 1000 rfl ?_
    exact Fe (T := T) rfl rfl
  rw [notF h, Bool.not_false, Bool.true_and, Bool.true_and]
  refine G (T := T) 1000 rfl ?_
  refine Lq [1] (fun q r => (2, xb false) :: (5, xi (q : Nat)) :: r) (fun q => []) 2 (fun q => q ≤ ks.length ∧ (ks.take q).all rEx = true) (fun q => ks.length - q) 0 rfl ⟨Nat.zero_le _, rfl⟩ ?_
  rintro j ⟨hj, hI⟩
  refine G (T := T) 1000 rfl ?_
  refine If rfl (fun h => ?_) (fun h => ?_)
  · have hjl := of_decide_eq_true h; rw [List.length_map] at hjl
    obtain ⟨y, hy⟩ := ad (l := ks) (j := j) (by omega)
    have hym := List.mem_of_getElem? hy
    refine G (T := T) 1000 rfl ?_
    refine Ix (T := T) j (ab hy) rfl rfl rfl rfl ⟨rfl, rfl⟩ rfl rfl ?_
    refine G (T := T) 1000 rfl ?_
    refine Cq (ih (by omega) (by have := Ex.size_mem hym; omega) (Ex.oks_mem hks hym)) rfl rfl rfl rfl rfl ⟨rfl, rfl⟩ ?_
    refine G (T := T) 1000 rfl ?_
    refine If rfl (fun h => ?_) (fun h => ?_)
    · refine G (T := T) 1000 rfl ?_
      exact Fe (T := T) rfl (congrArg xb (cm hym (by simpa using h)).symm)
    · refine G (T := T) 1000 rfl ?_
      exact Nq (j + 1) ⟨by omega, cN hI hy (by simpa using h)⟩ (by show _ - (j + 1) < _ - j; omega)
  · have hjl := of_decide_eq_false h; rw [List.length_map] at hjl
    refine G (T := T) 1000 rfl ?_
    rw [List.take_of_length_le (by omega)] at hI
    exact Fe (T := T) rfl (congrArg xb hI.symm)
end
section
open Go Go.RowKit Go.Proofs K
variable {pk : Pk}
theorem ref_kind (s : Sm) : XQ Tryz.prog pk 157 [xd (smD s)] (xd [.c (.int .i64 (K.kd (sk s) 0)), .c (.int .i64 (K.kd (sk s) 1)), .c (.int .i64 (K.kd (sk s) 2)), .c (.int .i64 (K.kd (sk s) 3)), .c (.int .i64 (K.kd (sk s) 4)), .c (.int .i64 (K.kd (sk s) 5))]) := by
  unfold smD
  generalize sk s = k
  refine XQ.en Tryz.func157 Tryz.ntmps157 (fun w0 own H V v0 hf => ?_)
  refine G (T := T) 100001 rfl ?_
  refine (FzTo.bz 0 rfl).c ?_
  refine G (T := T) 1000 rfl ?_
  iterate 14
    refine If rfl (fun h => ?_) (fun h => ?_)
    rotate_left
    have := of_decide_eq_false h
    refine G (T := T) 1000 rfl ?_
    try (refine IfF rfl h ?_; refine G (T := T) 1000 rfl ?_)
  · have e : ∀ j, K.kd k j = [1, 0, 0, 0, 0, 0].getD j 0 := fun j => by unfold K.kd; rw [nA (by omega)]
    rw [e, e, e, e, e, e]
    exact Fq (T := T) rfl rfl
  all_goals
    have h9 := of_decide_eq_true h
    subst h9
    refine G (T := T) 1000 rfl ?_
    first
      | exact Fq (T := T) rfl rfl
      | (refine IfT rfl h ?_; refine G (T := T) 1000 rfl ?_; exact Fq (T := T) rfl rfl)
abbrev smE (l : List Sm) (f : FuncId) (pk : Pk) : Prop := ∀ s ∈ l, XQ Tryz.prog pk f [xd (smD s)] (xb (rSm s))
theorem mG {l : List Sm} (hl : l.length ≤ 100000000000) (h : smE l 126 pk) : XQ Tryz.prog pk 77 [xr (l.map smD)] (xb (cw l)) := by
  rw [bd]
  refine XQ.en Tryz.func77 Tryz.ntmps77 (fun w0 own H V v0 hf => ?_)
  refine G (T := T) 1000 rfl ?_
  refine Lq [0] (fun q r => (2, xb false) :: (3, xi (q : Nat)) :: r) (fun q => []) 0 (fun q => q ≤ l.length ∧ (l.take q).all rSm = true) (fun q => l.length - q) 0 rfl ⟨Nat.zero_le _, rfl⟩ ?_
  rintro j ⟨hj, hI⟩
  refine G (T := T) 1000 rfl ?_
  refine If rfl (fun h => ?_) (fun h => ?_)
  · have hjl := of_decide_eq_true h; rw [List.length_map] at hjl
    obtain ⟨y, hy⟩ := ad (l := l) (j := j) (by omega)
    have hym := List.mem_of_getElem? hy
    refine G (T := T) 1000 rfl ?_
    refine Ix (T := T) j (ab hy) rfl rfl rfl rfl ⟨rfl, rfl⟩ rfl rfl ?_
    refine G (T := T) 15 rfl ?_
    refine Cq (by first | exact h y hym | (rename_i hh _ _ _ _ _ _ _ _ _; exact hh y hym) | exact (‹smE l 126 pk› y hym)) rfl rfl rfl rfl rfl ⟨rfl, rfl⟩ ?_
    refine G (T := T) 1000 rfl ?_
    refine If rfl (fun h => ?_) (fun h => ?_)
    · refine G (T := T) 1000 rfl ?_
      exact Fe (T := T) rfl (congrArg xb (cm hym (by simpa using h)).symm)
    · refine G (T := T) 1000 rfl ?_
      exact Nq (j + 1) ⟨by omega, cN hI hy (by simpa using h)⟩ (by show _ - (j + 1) < _ - j; omega)
  · have hjl := of_decide_eq_false h; rw [List.length_map] at hjl
    refine G (T := T) 1000 rfl ?_
    rw [List.take_of_length_le (by omega)] at hI
    exact Fe (T := T) rfl (congrArg xb hI.symm)
theorem ek_kind (e : Ex) : ek e = e.kind := by cases e; rfl
theorem place_neq (k : Int) : (((((decide (k ≠ 2) && decide (k ≠ 3)) && decide (k ≠ 4)) && decide (k ≠ 5)) && decide (k ≠ 7)) && decide (k ≠ 8)) = !bx k := by
  unfold bx
  rw [Bool.eq_iff_iff]
  simp only [Bool.and_eq_true, decide_eq_true_eq, Bool.not_eq_true', decide_eq_false_iff_not]
  omega
theorem qf : ∀ (m : Nat), m ≤ 100000000000 → ∀ {s : Sm}, s.size ≤ m → s.ok → XQ Tryz.prog pk 126 [xd (smD s)] (xb (rSm s)) := by
  intro m
  induction m with
  | zero => intro _ e hm; have := e.size_pos; omega
  | succ m ih =>
  intro hB s hm hok
  have hkind := ref_kind (pk := pk) s
  obtain ⟨k, nm, t, n, es, b, el, cs⟩ := s
  obtain ⟨hk, hn, ht, hn2, hx, hb, he, hc⟩ := hok
  have hsz : (Sm.mk k nm t n es b el cs).size = t.size + Ex.sizes es + Sm.sizes b + Sm.sizes el + Sm.csizes cs + 1 := rfl
  have l1 := Ex.len_le es
  have l2 := Sm.clen_le cs
  have l3 := Sm.len_le b
  have l4 := Sm.len_le el
  have blk : ∀ {l : List Sm}, Sm.sizes l ≤ m → Sm.oks l → XQ Tryz.prog pk 77 [xr (l.map smD)] (xb (cw l)) := fun {l} h1 h2 => mG (by have := Sm.len_le l; omega) (fun s hs => ih (by omega) (by have := Sm.size_mem hs; omega) (Sm.oks_mem h2 hs))
  rw [aV] at hkind ⊢
  change XQ Tryz.prog pk 157 _ (xd [.c (.int .i64 (K.kd k 0)), .c (.int .i64 (K.kd k 1)), .c (.int .i64 (K.kd k 2)), .c (.int .i64 (K.kd k 3)), .c (.int .i64 (K.kd k 4)), .c (.int .i64 (K.kd k 5))]) at hkind
  rw [rSm_split hn2.1]
  refine XQ.en Tryz.func126 Tryz.ntmps126 (fun w0 own H V v0 hf => ?_)
  refine G (T := T) 100001 rfl ?_
  refine (FzTo.bz 0 rfl).c ?_
  refine G (T := T) 1000 rfl ?_
  refine Cq hkind rfl rfl rfl rfl rfl ⟨rfl, rfl⟩ ?_
  refine G (T := T) 1000 rfl ?_
  refine Cq (bX (s := nm) (by omega)) rfl rfl rfl rfl rfl ⟨rfl, rfl⟩ ?_
  refine Gs (T := T) 1000 rfl ?_
  let KB : XH := [⟨1, 0, .cells [.d (.c (.int .i64 (K.kd k 0))), .d (.c (.int .i64 (K.kd k 1))), .d (.c (.int .i64 (K.kd k 2))), .d (.c (.int .i64 (K.kd k 3))), .d (.c (.int .i64 (K.kd k 4))), .d (.c (.int .i64 (K.kd k 5)))] 220⟩]
  refine Cf [1, 2, 3] (fun (_ : Unit) r => (4, xb (fb k nm)) :: r) (fun _ => KB) 2 (fun _ => True) rfl ?_ ?_
  · refine If rfl (fun h => ?_) (fun h => ?_)
    · have h2 : K.kd k 2 = 0 ∨ (K.kd k 2 = 2 ∧ nm = ⟨#[]⟩) := by simpa using h
      rw [fb, if_pos h2]
      refine Gs (T := T) 1000 rfl ?_
      exact Dn () trivial
    · have h2 : ¬ (K.kd k 2 = 0 ∨ (K.kd k 2 = 2 ∧ nm = ⟨#[]⟩)) := fun q => by
        have e : (decide (K.kd k 2 = 0) || (decide (K.kd k 2 = 2) && decide (nm = ⟨#[]⟩))) = true := by simpa using q
        rw [show (decide (K.kd k 2 = 0) || (decide (K.kd k 2 = 2) && decide (nm = ⟨#[]⟩))) = false from h] at e; cases e
      rw [fb, if_neg h2]
      refine G (T := T) 1000 rfl ?_
      exact Dn () trivial
  rintro _ -
  refine G (T := T) 1000 rfl ?_
  refine Cq (qc t) rfl rfl rfl rfl rfl ⟨rfl, rfl⟩ ?_
  refine G (T := T) 1000 rfl ?_
  refine Cf [1, 2, 3, 4] (fun (_ : Unit) r => (5, xb (dC k t)) :: r) (fun _ => KB) 2 (fun _ => True) rfl ?_ ?_
  · refine If rfl (fun h => ?_) (fun h => ?_)
    · rw [dC, if_pos (of_decide_eq_true h)]
      refine G (T := T) 1000 rfl ?_
      refine Cq (ez _ (Nat.le_refl _) ht) rfl rfl rfl rfl rfl ⟨rfl, rfl⟩ ?_
      refine G (T := T) 1000 rfl ?_
      exact Dn () trivial
    · rw [dC, if_neg (of_decide_eq_false h)]
      refine G (T := T) 1000 rfl ?_
      exact Dn () trivial
  rintro _ -
  refine Gs (T := T) 1000 rfl ?_
  have e8 : (((((decide (((es.map exD).length : Int) < K.kd k 0) || decide (K.kd k 1 < ((es.map exD).length : Int))) || !fb k nm) || !dC k t) || decide (255 < n)) || (decide (k ≠ 11) && decide (n ≠ 0))) = cK k n es.length (fb k nm) (dC k t) := by rw [cK, List.length_map]
  refine If rfl (fun h => ?_) (fun h => ?_)
  · rw [show cK k n es.length (fb k nm) (dC k t) = true from e8.symm.trans h]
    refine G (T := T) 1000 rfl ?_
    exact Fe (T := T) rfl rfl
  have h8 : cK k n es.length (fb k nm) (dC k t) = false := e8.symm.trans h
  have hleast := oA h8
  rw [h8]
  refine Gs (T := T) 1000 rfl ?_
  have e10 : (((decide (K.kd k 3 = 0) && decide (0 < ((b.map smD).length : Int))) || (decide (K.kd k 4 = 0) && decide (0 < ((el.map smD).length : Int)))) || (decide (K.kd k 5 = 0) && decide (0 < ((cs.map blD).length : Int)))) = l5 k b.length el.length cs.length := by rw [l5, List.length_map, List.length_map, List.length_map]
  refine If rfl (fun h => ?_) (fun h => ?_)
  · rw [show l5 k b.length el.length cs.length = true from e10.symm.trans h]
    refine G (T := T) 1000 rfl ?_
    exact Fe (T := T) rfl rfl
  rw [show l5 k b.length el.length cs.length = false from e10.symm.trans h]
  simp only [Bool.not_false, Bool.true_and]
  refine G (T := T) 1000 rfl ?_
  refine Lq [1] (fun q r => (2, xb false) :: (6, xi (q : Nat)) :: r) (fun q => []) 2 (fun q => q ≤ es.length ∧ (es.take q).all rEx = true) (fun q => es.length - q) 0 rfl ⟨Nat.zero_le _, rfl⟩ ?_
  rintro j ⟨hj, hI⟩
  refine G (T := T) 1000 rfl ?_
  refine If rfl (fun h => ?_) (fun h => ?_)
  · have hjl := of_decide_eq_true h; rw [List.length_map] at hjl
    obtain ⟨y, hy⟩ := ad (l := es) (j := j) (by omega)
    have hym := List.mem_of_getElem? hy
    refine G (T := T) 1000 rfl ?_
    refine Ix (T := T) j (ab hy) rfl rfl rfl rfl ⟨rfl, rfl⟩ rfl rfl ?_
    refine G (T := T) 1000 rfl ?_
    refine Cq (qe _ (by have := Ex.size_mem hym; omega) (Nat.le_refl _) (Ex.oks_mem hx hym)) rfl rfl rfl rfl rfl ⟨rfl, rfl⟩ ?_
    refine G (T := T) 1000 rfl ?_
    refine If rfl (fun h => ?_) (fun h => ?_)
    · refine G (T := T) 1000 rfl ?_
      rw [cm hym (by simpa using h)]
      exact Fe (T := T) rfl rfl
    · refine G (T := T) 1000 rfl ?_
      exact Nq (j + 1) ⟨by omega, cN hI hy (by simpa using h)⟩ (by show _ - (j + 1) < _ - j; omega)
  have hjl := of_decide_eq_false h; rw [List.length_map] at hjl
  rw [List.take_of_length_le (by omega)] at hI
  rw [hI, Bool.true_and]
  obtain ⟨u, hu⟩ : ∃ u : Ex, 1 ≤ es.length → es[0]? = some u ∧ es.map exD = exD u :: (es.drop 1).map exD ∧ ∀ p, bN p es = p (ek u) := by
    match es with
    | [] => exact ⟨.mk 0 eS 0 [], fun h => by simp at h⟩
    | x :: r => exact ⟨x, fun _ => ⟨rfl, rfl, fun p => by rw [ek_kind]; rfl⟩⟩
  have k14 : k = 14 → 1 ≤ es.length := fun q => by subst q; have : K.kd 14 0 = 1 := rfl; omega
  have k2 : k = 2 → 1 ≤ es.length := fun q => by subst q; have : K.kd 2 0 = 2 := rfl; omega
  refine Gs (T := T) 132 rfl ?_
  refine Is (T := T) 0 (exD u) (fun h => ⟨by rw [(hu (k14 (of_decide_eq_true h))).2.1]; rfl, rfl⟩) rfl rfl rfl rfl rfl rfl rfl rfl ?_
  refine Gs (T := T) 1000 rfl ?_
  have a1 : (decide (k = 14) && decide (ek u ≠ 14)) = (decide (k = 14) && !bN (fun j => decide (j = 14)) es) := by
    by_cases q : k = 14
    · rw [decide_eq_true q, (hu (k14 q)).2.2, decide_not]
    · rw [decide_eq_false q]; rfl
  refine If rfl (fun h => ?_) (fun h => ?_)
  · rw [show (decide (k = 14) && !bN (fun j => decide (j = 14)) es) = true from a1.symm.trans h]
    refine G (T := T) 1000 rfl ?_
    exact Fe (T := T) rfl rfl
  rw [show (decide (k = 14) && !bN (fun j => decide (j = 14)) es) = false from a1.symm.trans h, Bool.not_false, Bool.true_and]
  refine G (T := T) 1000 rfl ?_
  generalize hZ : ((decide (k = 2) && !bN bx es)) = Z
  refine Cf [1, 2] (fun (_ : Unit) r => r) (fun _ => []) 2 (fun _ => Z = false) rfl ?_ ?_
  · refine If rfl (fun h => ?_) (fun h => ?_)
    · have h2 := of_decide_eq_true h
      refine Gs (T := T) 142 rfl ?_
      refine Ix (T := T) 0 (r := exD u) (by rw [(hu (k2 h2)).2.1]; rfl) rfl rfl rfl rfl ⟨rfl, rfl⟩ rfl rfl ?_
      refine Gs (T := T) 1000 rfl ?_
      have a2 : (((((decide (ek u ≠ 2) && decide (ek u ≠ 3)) && decide (ek u ≠ 4)) && decide (ek u ≠ 5)) && decide (ek u ≠ 7)) && decide (ek u ≠ 8)) = Z := by rw [place_neq, ← hZ, decide_eq_true h2, (hu (k2 h2)).2.2, Bool.true_and]
      refine If rfl (fun h => ?_) (fun h => ?_)
      · have a3 : Z = true := a2.symm.trans h
        subst a3
        refine G (T := T) 1000 rfl ?_
        exact Fe (T := T) rfl rfl
      · have a3 : Z = false := a2.symm.trans h
        refine G (T := T) 1000 rfl ?_
        exact Dn () a3
    · refine G (T := T) 1000 rfl ?_
      exact Dn () (by rw [← hZ, h]; rfl)
  rintro _ rfl
  rw [Bool.not_false, Bool.true_and]
  refine G (T := T) 1000 rfl ?_
  refine Lq [1] (fun q r => (2, xb false) :: (9, xi (q : Nat)) :: r) (fun q => []) 2 (fun q => q ≤ cs.length ∧ (cs.take q).all cw = true) (fun q => cs.length - q) 0 rfl ⟨Nat.zero_le _, rfl⟩ ?_
  rintro j ⟨hj, hI⟩
  refine G (T := T) 1000 rfl ?_
  refine If rfl (fun h => ?_) (fun h => ?_)
  · have hjl := of_decide_eq_true h; rw [List.length_map] at hjl
    obtain ⟨y, hy⟩ := ad (l := cs) (j := j) (by omega)
    have hym := List.mem_of_getElem? hy
    refine G (T := T) 1000 rfl ?_
    refine Ix (T := T) j (ab hy) rfl rfl rfl rfl ⟨rfl, rfl⟩ rfl rfl ?_
    refine G (T := T) 1000 rfl ?_
    refine Cq (blk (by have := Sm.csize_mem hym; omega) (Sm.okc_mem hc hym)) rfl rfl rfl rfl rfl ⟨rfl, rfl⟩ ?_
    refine G (T := T) 1000 rfl ?_
    refine If rfl (fun h => ?_) (fun h => ?_)
    · refine G (T := T) 1000 rfl ?_
      rw [cm hym (by simpa using h)]
      exact Fe (T := T) rfl rfl
    · refine G (T := T) 1000 rfl ?_
      exact Nq (j + 1) ⟨by omega, cN hI hy (by simpa using h)⟩ (by show _ - (j + 1) < _ - j; omega)
  have hjl := of_decide_eq_false h; rw [List.length_map] at hjl
  rw [List.take_of_length_le (by omega)] at hI
  rw [hI, Bool.true_and, ← bd, ← bd]
  refine G (T := T) 1000 rfl ?_
  refine Cq (blk (by omega) hb) rfl rfl rfl rfl rfl ⟨rfl, rfl⟩ ?_
  refine G (T := T) 1000 rfl ?_
  refine Cq (blk (by omega) he) rfl rfl rfl rfl rfl ⟨rfl, rfl⟩ ?_
  refine Gs (T := T) 1000 rfl ?_
  exact Fe (T := T) rfl rfl
end
section
open Go Go.RowKit Go.Proofs K
variable {pk : Pk}
theorem tyS_len (t : Ty4) : aB t 7 = (((decide (tk t = 7) && decide (tnm t = eS)) && decide (tn t = 0)) && decide (((tyS t).length : Int) = 0)) := by
  obtain ⟨k, nm, n, ts⟩ := t
  show _ = (((decide (k = 7) && decide (nm = eS)) && decide (n = 0)) && decide (((tyR ts).length : Int) = 0))
  rw [tyR_eq, len0]; rfl
theorem qg {f : Fu} {B : Nat} (hB : B ≤ 90000000000) (hok : f.ok B) : XQ Tryz.prog pk 31 [xd (fuD f)] (xb (rFu f)) := by
  obtain ⟨h1, h2, h3, h4, h5, h6, h7, h8, h9⟩ := hok
  have hbl := Sm.len_le f.body
  have hty := ez (pk := pk) _ (Nat.le_refl _) h4
  have hst := mG (pk := pk) (l := f.body) (by omega) (fun s hs => qf _ (by have := Sm.size_mem hs; omega) (Nat.le_refl _) (Sm.oks_mem h6 hs))
  unfold fuD rFu
  refine XQ.en Tryz.func31 Tryz.ntmps31 (fun w0 own H V v0 hf => ?_)
  refine G (T := T) 100001 rfl ?_
  refine (FzTo.bz 0 rfl).c ?_
  refine G (T := T) 1000 rfl ?_
  refine Cq (bX (s := f.nm) (by omega)) rfl rfl rfl rfl rfl ⟨rfl, rfl⟩ ?_
  refine G (T := T) 1000 rfl ?_
  refine Cq (lw (l := f.ps) (by omega) (fun p hp => ⟨(h3 p hp).1, (h3 p hp).2.1⟩)) rfl rfl rfl rfl rfl ⟨rfl, rfl⟩ ?_
  refine Gs (T := T) 100004 rfl ?_
  refine Gs (T := T) 1000 rfl ?_
  refine Cq hty rfl rfl rfl rfl rfl ⟨rfl, rfl⟩ ?_
  refine Gs (T := T) 1000 rfl ?_
  have a1 : ((!ak f.nm || !f.ps.all cy) || (!(((decide (tk f.res = 7) && decide (tnm f.res = eS)) && decide (tn f.res = 0)) && decide (((tyS f.res).length : Int) = 0)) && !rTy f.res)) = !((ak f.nm && f.ps.all cy) && (aB f.res 7 || rTy f.res)) := by
    rw [← tyS_len, Bool.not_and, Bool.not_and, Bool.not_or]
  refine If rfl (fun h => ?_) (fun h => ?_)
  · rw [notT (a1.symm.trans h), Bool.false_and]
    refine G (T := T) 1000 rfl ?_
    exact Fe (T := T) rfl rfl
  rw [notF (a1.symm.trans h), Bool.true_and]
  refine G (T := T) 1000 rfl ?_
  refine If rfl (fun h => ?_) (fun h => ?_)
  · rw [if_pos h]
    refine Gs (T := T) 1000 rfl ?_
    refine Fe (T := T) rfl ?_
    show xb ((decide (((f.body.map smD).length : Int) = 0) && _) && _) = _
    rw [len0]
  · rw [if_neg (by rw [h]; exact Bool.false_ne_true)]
    refine Gs (T := T) 74 rfl ?_
    refine Eqs rfl rfl rfl rfl rfl (by kernel_rfl) (kT _ _ _ _) ⟨rfl, rfl⟩ ?_
    refine Gs (T := T) 1000 rfl ?_
    refine Cs (fun _ => hst) rfl rfl rfl rfl rfl rfl rfl rfl ?_
    refine Gs (T := T) 1000 rfl ?_
    refine Fe (T := T) rfl (congrArg xb ?_)
    congr 1
    rw [Bool.eq_iff_iff]; simp
theorem mH {p : Pg} {B : Nat} (hB : B ≤ 90000000000) (hok : p.ok B) : XQ Tryz.prog pk 11 [xd (pgD p)] (xb (rPg p)) := by
  have htl := hok.tl
  have hgl := hok.gl
  have hfl := hok.fl
  refine XQ.en Tryz.func11 Tryz.ntmps11 (fun w0 own H V v0 hf => ?_)
  unfold rPg
  refine G (T := T) 100001 rfl ?_
  refine (FzTo.bz 0 rfl).c ?_
  refine G (T := T) 1000 rfl ?_
  refine Lq [1] (fun q r => (2, xb false) :: (3, xi (q : Nat)) :: r) (fun q => []) 1 (fun q => q ≤ p.ts.length ∧ (p.ts.take q).all rTd = true) (fun q => p.ts.length - q) 0 rfl ⟨Nat.zero_le _, rfl⟩ ?_
  rintro j ⟨hj, hI⟩
  refine G (T := T) 1000 rfl ?_
  refine If rfl (fun h => ?_) (fun h => ?_)
  · have hjl := of_decide_eq_true h; rw [List.length_map] at hjl
    obtain ⟨y, hy⟩ := ad (l := p.ts) (j := j) (by omega)
    have hym := List.mem_of_getElem? hy
    obtain ⟨o1, o2, o3⟩ := hok.t y hym
    refine G (T := T) 1000 rfl ?_
    refine Ix (T := T) j (ab hy) rfl rfl rfl rfl ⟨rfl, rfl⟩ rfl rfl ?_
    refine G (T := T) 1000 rfl ?_
    refine Cq (bX (s := y.nm) (by omega)) rfl rfl rfl rfl rfl ⟨rfl, rfl⟩ ?_
    refine G (T := T) 1000 rfl ?_
    refine Ix (T := T) j (ab hy) rfl rfl rfl rfl ⟨rfl, rfl⟩ rfl rfl ?_
    refine G (T := T) 1000 rfl ?_
    refine Cq (lw (l := y.fs) (by omega) (fun p hp => ⟨(o3 p hp).1, (o3 p hp).2.1⟩)) rfl rfl rfl rfl rfl ⟨rfl, rfl⟩ ?_
    refine Gs (T := T) 1000 rfl ?_
    have e9 : (!ak y.nm || !y.fs.all cy) = !rTd y := by rw [rTd, Bool.not_and]
    refine If rfl (fun h => ?_) (fun h => ?_)
    · rw [e9] at h
      refine G (T := T) 1000 rfl ?_
      rw [cm hym (by simpa using h)]
      exact Fe (T := T) rfl rfl
    · rw [e9] at h
      refine G (T := T) 1000 rfl ?_
      exact Nq (j + 1) ⟨by omega, cN hI hy (by simpa using h)⟩ (by show _ - (j + 1) < _ - j; omega)
  have hjl := of_decide_eq_false h; rw [List.length_map] at hjl
  rw [List.take_of_length_le (by omega)] at hI
  rw [hI, Bool.true_and]
  refine G (T := T) 1000 rfl ?_
  refine Lq [1] (fun q r => (2, xb false) :: (6, xi (q : Nat)) :: r) (fun q => []) 1 (fun q => q ≤ p.gs.length ∧ (p.gs.take q).all rGb = true) (fun q => p.gs.length - q) 0 rfl ⟨Nat.zero_le _, rfl⟩ ?_
  rintro j ⟨hj, hI⟩
  refine G (T := T) 1000 rfl ?_
  refine If rfl (fun h => ?_) (fun h => ?_)
  · have hjl := of_decide_eq_true h; rw [List.length_map] at hjl
    obtain ⟨y, hy⟩ := ad (l := p.gs) (j := j) (by omega)
    have hym := List.mem_of_getElem? hy
    obtain ⟨o1, o2, o3, o4, o5, o6⟩ := hok.g y hym
    refine G (T := T) 1000 rfl ?_
    refine Ix (T := T) j (ab hy) rfl rfl rfl rfl ⟨rfl, rfl⟩ rfl rfl ?_
    refine G (T := T) 100012 rfl ?_
    refine (FzTo.bz 1 rfl).c ?_
    refine G (T := T) 1000 rfl ?_
    refine Cq (bX (s := y.nm) (by omega)) rfl rfl rfl rfl rfl ⟨rfl, rfl⟩ ?_
    refine G (T := T) 1000 rfl ?_
    refine Cq (ez _ (Nat.le_refl _) o2) rfl rfl rfl rfl rfl ⟨rfl, rfl⟩ ?_
    refine Gs (T := T) 1000 rfl ?_
    have e9 : ((((!ak y.nm || !rTy y.ty) || decide (y.bank < -1)) || decide (63 < y.bank)) || (decide (y.bank < 0) && decide (y.bytes ≠ ⟨#[]⟩))) = !rGb y := by
      rw [rGb, decide_not]
      have i1 : decide (y.bank < -1) = !decide (-1 ≤ y.bank) := by rw [← decide_not]; exact decide_eq_decide.2 (by omega)
      have i2 : decide (63 < y.bank) = !decide (y.bank < 64) := by rw [← decide_not]; exact decide_eq_decide.2 (by omega)
      have i3 : decide (y.bank < 0) = !decide (0 ≤ y.bank) := by rw [← decide_not]; exact decide_eq_decide.2 (by omega)
      have i4 : decide (y.bank = -1) = (decide (-1 ≤ y.bank) && !decide (0 ≤ y.bank)) := by rw [← i3, ← Bool.decide_and]; exact decide_eq_decide.2 (by omega)
      have i5 : decide (0 ≤ y.bank) = true → decide (-1 ≤ y.bank) = true := fun h => decide_eq_true (by have := of_decide_eq_true h; omega)
      have i6 : decide (0 ≤ y.bank) = false → decide (y.bank < 64) = true := fun h => decide_eq_true (by have := of_decide_eq_false h; omega)
      rw [i1, i2, i3, i4]
      revert i5 i6
      generalize decide (0 ≤ y.bank) = A
      generalize decide (-1 ≤ y.bank) = C
      generalize decide (y.bank < 64) = D'
      cases ak y.nm <;> cases rTy y.ty <;> cases A <;> cases C <;> cases D' <;> simp
    refine If rfl (fun h => ?_) (fun h => ?_)
    · rw [e9] at h
      refine G (T := T) 1000 rfl ?_
      rw [cm hym (by simpa using h)]
      exact Fe (T := T) rfl rfl
    · rw [e9] at h
      refine G (T := T) 1000 rfl ?_
      exact Nq (j + 1) ⟨by omega, cN hI hy (by simpa using h)⟩ (by show _ - (j + 1) < _ - j; omega)
  have hjl := of_decide_eq_false h; rw [List.length_map] at hjl
  rw [List.take_of_length_le (by omega)] at hI
  rw [hI, Bool.true_and]
  refine G (T := T) 1000 rfl ?_
  refine Lq [1] (fun q r => (2, xb false) :: (10, xi (q : Nat)) :: r) (fun q => []) 1 (fun q => q ≤ p.fs.length ∧ (p.fs.take q).all rFu = true) (fun q => p.fs.length - q) 0 rfl ⟨Nat.zero_le _, rfl⟩ ?_
  rintro j ⟨hj, hI⟩
  refine G (T := T) 1000 rfl ?_
  refine If rfl (fun h => ?_) (fun h => ?_)
  · have hjl := of_decide_eq_true h; rw [List.length_map] at hjl
    obtain ⟨y, hy⟩ := ad (l := p.fs) (j := j) (by omega)
    have hym := List.mem_of_getElem? hy
    refine G (T := T) 1000 rfl ?_
    refine Ix (T := T) j (ab hy) rfl rfl rfl rfl ⟨rfl, rfl⟩ rfl rfl ?_
    refine G (T := T) 1000 rfl ?_
    refine Cq (qg hB (hok.f y hym)) rfl rfl rfl rfl rfl ⟨rfl, rfl⟩ ?_
    refine G (T := T) 1000 rfl ?_
    refine If rfl (fun h => ?_) (fun h => ?_)
    · refine G (T := T) 1000 rfl ?_
      rw [cm hym (by simpa using h)]
      exact Fe (T := T) rfl rfl
    · refine G (T := T) 1000 rfl ?_
      exact Nq (j + 1) ⟨by omega, cN hI hy (by simpa using h)⟩ (by show _ - (j + 1) < _ - j; omega)
  have hjl := of_decide_eq_false h; rw [List.length_map] at hjl
  rw [List.take_of_length_le (by omega)] at hI
  rw [hI]
  refine G (T := T) 1000 rfl ?_
  exact Fe (T := T) rfl rfl
end
section
open Go Go.RowKit Go.Proofs K
variable {pk : Pk}
abbrev c0B : XB := ⟨1, 0, .cells [.d (.c (.string eS)), .z] 35⟩
theorem ly {p : Pg} {B : Nat} (hB : B ≤ 90000000000) (hok : p.ok B) (hR : XQ Tryz.prog pk 11 [xd (pgD p)] (xb (rPg p))) : XQ Tryz.prog pk 19 [xd (pgD p)] (xd (trd (cC p))) := by
  have htl := hok.tl
  have hgl := hok.gl
  have hfl := hok.fl
  refine XQ.en Tryz.func19 Tryz.ntmps19 (fun w0 own H V v0 hf => ?_)
  refine G (T := T) 100001 rfl ?_
  refine (FzTo.bz 0 rfl).c ?_
  refine G (T := T) 1000 rfl ?_
  refine Cq hR rfl rfl rfl rfl rfl ⟨rfl, rfl⟩ ?_
  refine G (T := T) 1000 rfl ?_
  refine If rfl (fun h => ?_) (fun h => ?_)
  · rw [cC, if_neg (by simpa using h)]
    refine G (T := T) 1000 rfl ?_
    exact Fq (T := T) rfl rfl
  have h9 : rPg p = true := by simpa using h
  rw [cC, if_pos h9, tPg]
  rw [rPg] at h9
  simp only [Bool.and_eq_true] at h9
  refine G (T := T) 1000 rfl ?_
  refine (Nrh 2 1 35 2 rfl rfl rfl rfl rfl).c ?_
  refine Lq [1, 2, 4] (fun (q : Nat × List (List D)) r => (5, xi (q.1 : Nat)) :: r) (fun q => [⟨3, 1, .row q.1 q.2 35 2⟩, ⟨2, 0, .cells [.d (.c (.string bC)), .l 3 1 2 0 q.1 q.1] 35⟩, c0B]) 4 (fun q => q.1 ≤ p.ts.length ∧ q.2 = aj ((p.ts.take q.1).map tTd)) (fun q => p.ts.length - q.1) (0, []) rfl ⟨Nat.zero_le _, rfl⟩ ?_
  rintro ⟨j, R⟩ ⟨hj, hR1⟩; dsimp only at hj hR1 ⊢
  refine G (T := T) 1000 rfl ?_
  refine If rfl (fun h => ?_) (fun h => ?_)
  · have hjl := of_decide_eq_true h; rw [List.length_map] at hjl
    obtain ⟨y, hy⟩ := ad (l := p.ts) (j := j) (by omega)
    have hym := List.mem_of_getElem? hy
    obtain ⟨o1, o2, o3⟩ := hok.t y hym
    have hry := List.all_eq_true.1 h9.1.1 y hym
    rw [rTd, Bool.and_eq_true] at hry
    refine G (T := T) 1000 rfl ?_
    refine Ix (T := T) j (ab hy) rfl rfl rfl rfl ⟨rfl, rfl⟩ rfl rfl ?_
    refine G (T := T) 1000 rfl ?_
    refine Cf [1, 2, 4, 5] (fun (_ : Unit) r => (6, xs (if y.un then ei else gP)) :: r) (fun _ => [⟨3, 1, .row j R 35 2⟩, ⟨2, 0, .cells [.d (.c (.string bC)), .l 3 1 2 0 j j] 35⟩, c0B]) 4 (fun _ => True) rfl ?_ ?_
    · refine If rfl (fun h => ?_) (fun h => ?_)
      · refine G (T := T) 1000 rfl ?_
        rw [if_pos h]
        exact Dn () trivial
      · refine G (T := T) 1000 rfl ?_
        rw [if_neg (by rw [h]; simp)]
        exact Dn () trivial
    rintro _ -
    refine G (T := T) 1000 rfl ?_
    refine Ix (T := T) j (ab hy) rfl rfl rfl rfl ⟨rfl, rfl⟩ rfl rfl ?_
    refine G (T := T) 1000 rfl ?_
    refine Cq (aZ (p := y.nm) (by split <;> decide) (by omega)) rfl rfl rfl rfl rfl ⟨rfl, rfl⟩ ?_
    refine G (T := T) 1000 rfl ?_
    refine Ix (T := T) j (ab hy) rfl rfl rfl rfl ⟨rfl, rfl⟩ rfl rfl ?_
    refine G (T := T) 1000 rfl ?_
    refine Cq (g7 (w := eh) (B := B) (by decide) (by omega) o2 o3 (List.all_eq_true.1 hry.2)) rfl rfl rfl rfl rfl ⟨rfl, rfl⟩ ?_
    refine G (T := T) 1000 rfl ?_
    exact Nq (j + 1, R ++ [[.c (.string (av (if y.un then ei else gP) y.nm)), .s (aj (y.fs.map (cD eh)))]]) ⟨by omega, by dsimp only; rw [hR1, aK tTd hy, aM, tTd, ai]⟩ (by show _ - (j + 1) < _ - j; omega)
  have hjl := of_decide_eq_false h; rw [List.length_map] at hjl
  rw [List.take_of_length_le (by omega)] at hR1; subst hR1
  refine G (T := T) 100014 rfl ?_
  refine Zc 3 rfl ?_
  refine G (T := T) 1000 rfl ?_
  refine (Nrh 4 1 35 2 rfl rfl rfl rfl rfl).c ?_
  refine Lq [1, 2, 4, 8] (fun (q : Nat × List (List D)) r => (9, xi (q.1 : Nat)) :: r) (fun q => [⟨5, 1, .row q.1 q.2 35 2⟩, ⟨4, 0, .cells [.d (.c (.string bk)), .l 5 1 2 0 q.1 q.1] 35⟩, ⟨2, 0, .cells [.d (.c (.string bC)), .d (.s (aj (p.ts.map tTd)))] 35⟩, c0B]) 6 (fun q => q.1 ≤ p.gs.length ∧ q.2 = aj ((p.gs.take q.1).map tGb)) (fun q => p.gs.length - q.1) (0, []) rfl ⟨Nat.zero_le _, rfl⟩ ?_
  rintro ⟨j, R⟩ ⟨hj, hR1⟩; dsimp only at hj hR1 ⊢
  refine G (T := T) 1000 rfl ?_
  refine If rfl (fun h => ?_) (fun h => ?_)
  · have hjl := of_decide_eq_true h; rw [List.length_map] at hjl
    obtain ⟨y, hy⟩ := ad (l := p.gs) (j := j) (by omega)
    have hym := List.mem_of_getElem? hy
    refine G (T := T) 66 rfl ?_
    refine Ix (T := T) j (ab hy) rfl rfl rfl rfl ⟨rfl, rfl⟩ rfl rfl ?_
    refine G (T := T) 1000 rfl ?_
    refine Cq (nI hB (hok.g y hym) (List.all_eq_true.1 h9.1.2 y hym)) rfl rfl rfl rfl rfl ⟨rfl, rfl⟩ ?_
    refine G (T := T) 1000 rfl ?_
    exact Nq (j + 1, R ++ [trd (tGb y)]) ⟨by omega, by dsimp only; rw [hR1, aK tGb hy, aM]⟩ (by show _ - (j + 1) < _ - j; omega)
  have hjl := of_decide_eq_false h; rw [List.length_map] at hjl
  rw [List.take_of_length_le (by omega)] at hR1; subst hR1
  refine G (T := T) 100019 rfl ?_
  refine Zc 5 rfl ?_
  refine G (T := T) 1000 rfl ?_
  refine (Nrh 6 1 35 2 rfl rfl rfl rfl rfl).c ?_
  refine Lq [1, 2, 4, 8, 10] (fun (q : Nat × List (List D)) r => (11, xi (q.1 : Nat)) :: r) (fun q => [⟨7, 1, .row q.1 q.2 35 2⟩, ⟨6, 0, .cells [.d (.c (.string cU)), .l 7 1 2 0 q.1 q.1] 35⟩, ⟨4, 0, .cells [.d (.c (.string bk)), .d (.s (aj (p.gs.map tGb)))] 35⟩, ⟨2, 0, .cells [.d (.c (.string bC)), .d (.s (aj (p.ts.map tTd)))] 35⟩, c0B]) 8 (fun q => q.1 ≤ p.fs.length ∧ q.2 = aj ((p.fs.take q.1).map tFu)) (fun q => p.fs.length - q.1) (0, []) rfl ⟨Nat.zero_le _, rfl⟩ ?_
  rintro ⟨j, R⟩ ⟨hj, hR1⟩; dsimp only at hj hR1 ⊢
  refine G (T := T) 1000 rfl ?_
  refine If rfl (fun h => ?_) (fun h => ?_)
  · have hjl := of_decide_eq_true h; rw [List.length_map] at hjl
    obtain ⟨y, hy⟩ := ad (l := p.fs) (j := j) (by omega)
    have hym := List.mem_of_getElem? hy
    refine G (T := T) 85 rfl ?_
    refine Ix (T := T) j (ab hy) rfl rfl rfl rfl ⟨rfl, rfl⟩ rfl rfl ?_
    refine G (T := T) 1000 rfl ?_
    refine Cq (pO (fun h1 h2 h3 => pP _ h1 (Nat.le_refl _) h2 h3) hB (hok.f y hym) (List.all_eq_true.1 h9.2 y hym)) rfl rfl rfl rfl rfl ⟨rfl, rfl⟩ ?_
    refine G (T := T) 1000 rfl ?_
    exact Nq (j + 1, R ++ [trd (tFu y)]) ⟨by omega, by dsimp only; rw [hR1, aK tFu hy, aM]⟩ (by show _ - (j + 1) < _ - j; omega)
  have hjl := of_decide_eq_false h; rw [List.length_map] at hjl
  rw [List.take_of_length_le (by omega)] at hR1; subst hR1
  refine G (T := T) 100024 rfl ?_
  refine Zc 7 rfl ?_
  refine G (T := T) 1000 rfl ?_
  refine Fq (T := T) rfl ?_
  rw [ai]
  show _ = xd [.c (.string iL), .s [trd (.node bC (p.ts.map tTd)), trd (.node bk (p.gs.map tGb)), trd (.node cU (p.fs.map tFu))]]
  rw [ai, ai, ai]
  rfl
end
section
open Go Go.RowKit Go.Proofs K
variable {pk : Pk}
theorem zeroP_ok : Pg.ok 1 ⟨[], [], []⟩ := ⟨Nat.zero_le _, Nat.zero_le _, Nat.zero_le _, fun x h => (by cases h), fun x h => (by cases h), fun x h => (by cases h)⟩
theorem mI : ∀ (p : List Nat) {t : Tr} {l : ByteArray} {ks : List Tr} {q : Nat} {k : Tr}, bu t p = some (.node l ks) → ks[q]? = some k → bu t (p ++ [q]) = some k
  | [], t, l, ks, q, k, h, hk => by
    simp only [bu, Option.some.injEq] at h; subst h
    simp only [List.nil_append, bu, hk]
  | i :: p, .node l' ks', l, ks, q, k, h, hk => by
    simp only [bu] at h
    simp only [List.cons_append, bu]
    split at h
    · exact mI p h hk
    · cases h
end
section
open Go Go.RowKit Go.Proofs K
variable {pk : Pk}
abbrev gN (g : Nat) (l : List Int) (a : Nat) : XB := ⟨g, 0, .cells [.d (.s (l.map dr)), .d (.c (.int .i64 (a : Nat)))] 131⟩
structure CgS where
  n : Nat
  a : Nat
  m : Nat
  R : List (List D)
  L : ByteArray
  K : List (List D)
  ks : List Tr
structure CgP where
  n : Nat
  a : Nat
  j : Nat
  P : List (List D)
  p : List Nat
  L : ByteArray
  K : List (List D)
  ks : List Tr
def ChgR (t : Tr) (r : XV) : Prop := ∃ R u, r = .t [.c (.d (.s R)), .g (trd u)] ∧ u.size ≤ t.size + 1000 ∧ lbM u
theorem qh {p : List Nat} (h : p ≠ []) : ∃ q i, p = q ++ [i] := ⟨p.dropLast, p.getLast h, (List.dropLast_concat_getLast h).symm⟩
theorem subB_last {t s : Tr} {q : List Nat} {i : Nat} (h : bu t (q ++ [i]) = some s) : ∃ l ks, bu t q = some (.node l ks) ∧ i < ks.length := by
  obtain ⟨⟨l, ks⟩, hu⟩ := pj q [i] h
  rw [iw q [i] hu] at h
  simp only [bu] at h
  split at h
  · rename_i k hk; exact ⟨l, ks, hu, (List.getElem?_eq_some_iff.1 hk).1⟩
  · cases h
theorem py {t : Tr} {l : List Int} (hm : lbM t) (hz : t.size ≤ 80000000000) (hl : l.length ≤ 1000000) : XP Tryz.prog pk 20 [xd (trd t), xr (l.map dr)] (ChgR t) := by
  obtain ⟨L0, k0⟩ := t
  rw [ai]
  refine XP.en Tryz.func20 Tryz.ntmps20 (by rintro _ ⟨R, u, rfl, _⟩; rfl) (fun w0 own H V v0 hf => ?_)
  have hll : (l.map dr).length = l.length := List.length_map ..
  have htd : ((l.map dr).length : Int).tdiv 4 = ((l.map dr).length : Int) / 4 := Int.tdiv_eq_ediv_of_nonneg (by omega)
  refine G (T := T) 8 rfl ?_
  obtain ⟨n0, hn0, hn6⟩ : ∃ n : Nat, min (((l.map dr).length : Int).tdiv 4) 6 = (n : Int) ∧ n ≤ 6 := by
    have : 0 ≤ ((l.map dr).length : Int).tdiv 4 := Int.tdiv_nonneg (by omega) (by omega)
    exact ⟨(min (((l.map dr).length : Int).tdiv 4) 6).toNat, by omega, by omega⟩
  rw [hn0]
  refine G (T := T) 1000 rfl ?_
  refine (Nr 7 73 4 rfl rfl).c ?_
  refine Lq [2, 5, 6] (fun (q : CgS) r => (8, xi (q.n : Nat)) :: (7, .a (.c (.l 3 1 4 0 q.m q.m))) :: r) (fun q => [⟨3, 1, .row q.m q.R 73 4⟩, gN 2 l q.a, ⟨1, 0, .cells [.d (.c (.string eS)), .z] 35⟩, ⟨0, 0, .cells [.d (.c (.string q.L)), .d (.s q.K)] 35⟩]) 4 (fun q => q.n ≤ n0 ∧ q.a ≤ (6 - q.n) * 100 ∧ q.m ≤ 6 - q.n ∧ q.K = aj q.ks ∧ lbM (.node q.L q.ks) ∧ (Tr.node q.L q.ks).size ≤ (Tr.node L0 k0).size + (6 - q.n) * 100) (fun q => q.n) ⟨n0, 0, 0, [], L0, aj k0, k0⟩ rfl ⟨Nat.le_refl _, Nat.zero_le _, Nat.zero_le _, rfl, hm, Nat.le_add_right _ _⟩ ?_
  rintro ⟨n, a, m, R, L, K, ks⟩ ⟨hn, ha, hmm, hK, hlm, hsz⟩; dsimp only at hn ha hmm hK hlm hsz ⊢; subst hK
  refine G (T := T) 1000 rfl ?_
  refine If rfl (fun h => ?_) (fun h => ?_)
  · obtain ⟨n, rfl⟩ : ∃ e, n = e + 1 := ⟨n - 1, by have := of_decide_eq_true h; omega⟩
    refine G (T := T) 100008 rfl ?_
    refine (Nr 9 3 1 rfl rfl).c ?_
    refine G (T := T) 1000 rfl ?_
    refine Cx' [2] (fun _ => [gN 2 l (a + 1)]) (fE (l := l) (a := a) (by omega) (n := 6) (by omega) (by omega)) rfl rfl rfl rfl rfl rfl rfl ⟨⟨rfl, rfl⟩, rfl⟩ (fun _ => rfl) (fun _ => rfl) ?_
    rintro dp ⟨d1, d2⟩
    obtain ⟨dp, rfl⟩ := Int.eq_ofNat_of_zero_le d1
    refine G (T := T) 1000 rfl ?_
    refine Lq [2, 5, 6, 7, 8, 10] (fun (q : CgP) r => (11, xi (q.n : Nat)) :: (9, .a (.c (.l 5 1 1 0 q.j q.j))) :: r) (fun q => [gN 2 l q.a, ⟨5, 1, .row q.j q.P 3 1⟩, ⟨4, 0, .cells [.d (.c (.string q.L)), .d (.s q.K)] 35⟩, ⟨3, 1, .row m R 73 4⟩, ⟨1, 0, .cells [.d (.c (.string eS)), .z] 35⟩, ⟨0, 0, .cells [.d (.c (.string L)), .d (.s (aj ks))] 35⟩]) 6 (fun q => q.n + q.j = dp ∧ q.a = a + 1 + q.j ∧ q.j = q.p.length ∧ q.P = q.p.map cG ∧ q.K = aj q.ks ∧ bu (.node L ks) q.p = some (.node q.L q.ks)) (fun q => q.n) ⟨dp, a + 1, 0, [], [], L, aj ks, ks⟩ rfl ⟨rfl, rfl, rfl, rfl, rfl, rfl⟩ ?_
    rintro ⟨d, b, j, P, p, L1, K1, k1⟩ ⟨hd, hb, hj, hP, hK, hs⟩; dsimp only at hd hb hj hP hK hs ⊢; subst hP hK
    have hkl : (aj k1).length = k1.length := List.length_map ..
    refine Gs (T := T) 1000 rfl ?_
    refine If rfl (fun h => ?_) (fun h => ?_)
    · simp only [Bool.and_eq_true, decide_eq_true_eq, hkl] at h
      obtain ⟨d, rfl⟩ : ∃ e, d = e + 1 := ⟨d - 1, by omega⟩
      have hsk := c7 p hs
      have hlk := Tr.len_le k1
      have hk9 : k1.length ≤ 90000000000 := by simp only [Tr.size] at hsk hsz hz; omega
      refine G (T := T) 1000 rfl ?_
      refine Cx' [2] (fun _ => [gN 2 l (b + 1)]) (fE (l := l) (a := b) (by omega) (n := ((aj k1).length : Nat)) (by omega) (by omega)) rfl rfl rfl rfl rfl rfl rfl ⟨⟨rfl, rfl⟩, rfl⟩ (fun _ => rfl) (fun _ => rfl) ?_
      rintro q ⟨q1, q2⟩
      obtain ⟨q, rfl⟩ := Int.eq_ofNat_of_zero_le q1
      obtain ⟨⟨L2, k2⟩, hk⟩ := ad (l := k1) (j := q) (by omega)
      have hgk := ab (f := trd) hk
      rw [ai] at hgk
      refine G (T := T) 1000 rfl ?_
      refine Ix (T := T) q hgk rfl rfl rfl rfl ⟨rfl, rfl⟩ rfl rfl ?_
      refine G (T := T) 1000 rfl ?_
      rw [show ((d + 1 : Nat) : Int) - 1 = (d : Nat) by omega]
      exact Nq ⟨d, b + 1, j + 1, p.map cG ++ [cG q], p ++ [q], L2, aj k2, k2⟩ ⟨by dsimp only; omega, by dsimp only; omega, by rw [List.length_append, hj]; rfl, by rw [List.map_append]; rfl, rfl, mI p hs hk⟩ (by show d < d + 1; omega)
    · refine G (T := T) 1000 rfl ?_
      refine Cx' [2] (fun _ => [gN 2 l (b + 1)]) (fE (l := l) (a := b) (by omega) (n := 3) (by omega) (by omega)) rfl rfl rfl rfl rfl rfl rfl ⟨⟨rfl, rfl⟩, rfl⟩ (fun _ => rfl) (fun _ => rfl) ?_
      rintro kk ⟨q1, q2⟩
      have hlk1 := jQ p hlm hs
      have hsk := c7 p hs
      have hlk := Tr.len_le k1
      have hk9 : k1.length ≤ 90000000000 := by simp only [Tr.size] at hsk hsz hz; omega
      have hz9 : (Tr.node L ks).size ≤ 90000000000 := by omega
      obtain rfl | rfl | rfl : kk = 0 ∨ kk = 1 ∨ kk = 2 := by omega
      · refine G (T := T) 1000 rfl ?_
        refine IfT rfl rfl ?_
        refine G (T := T) 1000 rfl ?_
        refine Cx' [2] (fun _ => [gN 2 l (b + 2)]) (fE (l := l) (a := b + 1) (by omega) (n := ((aj k1).length + 1 : Nat)) (by omega) (by omega)) rfl rfl rfl rfl rfl rfl rfl ⟨⟨rfl, rfl⟩, rfl⟩ (fun _ => rfl) (fun _ => rfl) ?_
        rintro q ⟨q1, q2⟩
        obtain ⟨q, rfl⟩ := Int.eq_ofNat_of_zero_le q1
        refine G (T := T) 1000 rfl ?_
        refine IfT rfl rfl ?_
        refine G (T := T) 1000 rfl ?_
        refine Cx' [2] (fun q => [gN 2 l q.2]) (gr_tree (l := l) 1 (b + 2) (by omega) (by have : taG 1 = 8 := rfl; omega)) rfl rfl rfl rfl rfl rfl rfl ⟨⟨rfl, rfl⟩, rfl⟩ (fun _ => rfl) (fun _ => rfl) ?_
        rintro ⟨⟨L2, k2⟩, b2⟩ ⟨u1, u2, u3, u4⟩; dsimp only at u1 u2 u3 u4 ⊢
        rw [ai]
        have s1 : szG 1 = 4 := rfl
        have s2 : taG 1 = 8 := rfl
        refine Gs (T := T) 1000 rfl ?_
        refine IfF rfl rfl ?_
        refine G (T := T) 100020 rfl ?_
        refine Zc 5 rfl ?_
        refine G (T := T) 1000 rfl ?_
        have hst := step_ins (pk := pk) (p := p) (i := q) (L1 := L2) (k1 := k2) (by omega) hlm hz9 hs (by rw [← hkl]; omega) u2 (by omega)
        rw [ai, edD, List.map_append] at hst
        refine Ce hst rfl rfl rfl rfl rfl ⟨rfl, rfl⟩ ?_
        rintro _ ⟨⟨L3, k3⟩, c, rfl, z3, l3⟩
        rw [ai]
        refine G (T := T) 1000 rfl ?_
        refine IfT rfl rfl ?_
        refine G (T := T) 1000 rfl ?_
        rw [show ((n + 1 : Nat) : Int) - 1 = (n : Nat) by omega]
        exact Nq ⟨n, b2, m + 1, _, L3, aj k3, k3⟩ ⟨by dsimp only; omega, by dsimp only; omega, by dsimp only; omega, rfl, l3, by dsimp only; omega⟩ (by show n < n + 1; omega)
      · refine G (T := T) 1000 rfl ?_
        refine IfF rfl rfl ?_
        refine G (T := T) 1000 rfl ?_
        refine IfF rfl rfl ?_
        refine Gs (T := T) 1000 rfl ?_
        refine If rfl (fun h => ?_) (fun h => ?_)
        · refine G (T := T) 1000 rfl ?_
          rw [show ((n + 1 : Nat) : Int) - 1 = (n : Nat) by omega]
          exact Nq ⟨n, b + 1, m, R, L, aj ks, ks⟩ ⟨by dsimp only; omega, by dsimp only; omega, by dsimp only; omega, rfl, hlm, by dsimp only; omega⟩ (by show n < n + 1; omega)
        have hp0 : p ≠ [] := fun e => by
          subst e
          rw [hj] at h
          exact absurd h (by decide)
        obtain ⟨p0, i, hpe⟩ := qh hp0
        obtain ⟨l9, k9, hs9, hi9⟩ := subB_last (hpe ▸ hs)
        have hpl9 : p.length = p0.length + 1 := by rw [hpe, List.length_append]; rfl
        refine G (T := T) 100020 rfl ?_
        refine Zc 5 rfl ?_
        refine G (T := T) 1000 rfl ?_
        have hst := step_del (pk := pk) (p := p0) (i := i) (L1 := eS) (k1 := []) (by omega) hlm hz9 hs9 hi9 ⟨by decide, trivial⟩ (by decide)
        rw [ai, edD, ← hpe] at hst
        have z9 : (Tr.node eS []).size = 1 := rfl
        refine Ce hst rfl rfl rfl rfl rfl ⟨rfl, rfl⟩ ?_
        rintro _ ⟨⟨L3, k3⟩, c, rfl, z3, l3⟩
        rw [ai]
        refine G (T := T) 1000 rfl ?_
        refine IfT rfl rfl ?_
        refine G (T := T) 1000 rfl ?_
        rw [show ((n + 1 : Nat) : Int) - 1 = (n : Nat) by omega]
        exact Nq ⟨n, b + 1, m + 1, _, L3, aj k3, k3⟩ ⟨by dsimp only; omega, by dsimp only; omega, by dsimp only; omega, rfl, l3, by dsimp only; omega⟩ (by show n < n + 1; omega)
      · refine G (T := T) 1000 rfl ?_
        refine IfF rfl rfl ?_
        refine G (T := T) 1000 rfl ?_
        refine IfT rfl rfl ?_
        refine G (T := T) 1000 rfl ?_
        refine Cx' [2] (fun q => [gN 2 l q.2]) (gr_tree (l := l) 1 (b + 1) (by omega) (by have : taG 1 = 8 := rfl; omega)) rfl rfl rfl rfl rfl rfl rfl ⟨⟨rfl, rfl⟩, rfl⟩ (fun _ => rfl) (fun _ => rfl) ?_
        rintro ⟨⟨L2, k2⟩, b2⟩ ⟨u1, u2, u3, u4⟩; dsimp only at u1 u2 u3 u4 ⊢
        rw [ai]
        have s1 : szG 1 = 4 := rfl
        have s2 : taG 1 = 8 := rfl
        refine Gs (T := T) 1000 rfl ?_
        refine IfF rfl rfl ?_
        refine G (T := T) 100020 rfl ?_
        refine Zc 5 rfl ?_
        refine G (T := T) 1000 rfl ?_
        have hst := step_repl (pk := pk) (p := p) (L1 := L2) (k1 := k2) (by omega) hlm hz9 hs u2 (by omega)
        rw [ai] at hst
        refine Ce hst rfl rfl rfl rfl rfl ⟨rfl, rfl⟩ ?_
        rintro _ ⟨⟨L3, k3⟩, c, rfl, z3, l3⟩
        rw [ai]
        refine G (T := T) 1000 rfl ?_
        refine IfT rfl rfl ?_
        refine G (T := T) 1000 rfl ?_
        rw [show ((n + 1 : Nat) : Int) - 1 = (n : Nat) by omega]
        exact Nq ⟨n, b2, m + 1, _, L3, aj k3, k3⟩ ⟨by dsimp only; omega, by dsimp only; omega, by dsimp only; omega, rfl, l3, by dsimp only; omega⟩ (by show n < n + 1; omega)
  · refine G (T := T) 100024 rfl ?_
    refine Zc 3 rfl ?_
    refine G (T := T) 1000 rfl ?_
    exact Fp (T := T) (.t [.c (.d (.s R)), .g [.c (.string L), .s (aj ks)]]) ⟨R, .node L ks, by rw [ai], by omega, hlm⟩ rfl rfl
end
section
open Go Go.RowKit Go.Proofs K
variable {pk : Pk}
theorem back0 {p : Pg} {B : Nat} (h : rPg p = true) (ho : p.ok B) : fPg0 (cC p) = some p := by
  have h1 := fPg_pg h ho
  rw [cC, if_pos h]
  unfold fPg at h1
  cases e : fPg0 (tPg p) with
  | none => rw [e] at h1; cases h1
  | some q =>
    rw [e, Option.bind_some] at h1
    split at h1
    · exact h1
    · cases h1
theorem ftOk_tree {p : Pg} {B : Nat} (h : rPg p = true) (ho : p.ok B) : iy (cC p) = true := by
  have e := jPg_of (back0 h ho)
  rw [iy, e, h, (Tr.eqb_iff _ _).2 rfl]; rfl
theorem from_any (hT : ∀ H, pk.hy H → TabH H) (hV : ∀ H, pk.hy H → VarH H) {u : Tr} (hl : lbO u) {B : Nat} (hB : B ≤ 90000000000) (hok : (jPg u).ok B) : XQ Tryz.prog pk 15 [xd (trd u)] (ftR u) :=
  from_tree (pkF := { pk with pc := wrg, ψ := iy u = false }) (B := B) (ftk_of hV rfl) id (fun h => by
    show iy u = false
    cases e : iy u with
    | false => rfl
    | true =>
      simp only [iy, Bool.and_eq_true] at e
      have h1 := (Tr.eqb_iff _ _).1 e.2
      have h2 := back0 e.1 hok
      rw [h1, h] at h2; cases h2) id hT hl hB hok (fun _ h => h)
theorem jb (hT : ∀ H, pk.hy H → TabH H) (hV : ∀ H, pk.hy H → VarH H) {l m : List Int} (h1 : ∀ n ∈ l, I64 n) : XQ Tryz.prog pk 6 [xr (l.map dr), xr (m.map dr)] (xb true) := by
  refine XQ.en Tryz.func6 Tryz.ntmps6 (fun w0 own H V v0 hf => ?_)
  refine G (T := T) 1000 rfl ?_
  refine Cq (pY hT) rfl rfl rfl rfl rfl ⟨rfl, rfl⟩ ?_
  refine G (T := T) 1000 rfl ?_
  refine Ce (pw h1) rfl rfl rfl rfl rfl ⟨rfl, rfl⟩ ?_
  rintro _ ⟨p, rfl, hpm⟩
  obtain ⟨hr, hok⟩ := hpm.facts
  obtain ⟨ts1, ts2⟩ := MP_tree hpm
  have hR := mH (pk := pk) (B := BG) (by decide) hok
  have hft := ftOk_tree hr hok
  refine G (T := T) 1000 rfl ?_
  refine Cq (ly (by decide) hok hR) rfl rfl rfl rfl rfl ⟨rfl, rfl⟩ ?_
  generalize cC p = t at *
  obtain ⟨L0, ks0⟩ := t
  rw [ai]
  refine G (T := T) 100003 rfl ?_
  refine (FzTo.bz 0 rfl).c ?_
  refine Ods (T := T) [0, 1, 2, 3, 4, 5, 10, 6, 7, 8, 9, 11, 12] rfl ?_
  refine G (T := T) 21 rfl ?_
  have hm : (min ((m.map dr).length : Int) 30) = ((min m.length 30 : Nat) : Int) := by rw [List.length_map]; omega
  refine Sd (T := T) (li := none) 0 (min m.length 30) rfl ⟨_, _, rfl, rfl⟩ rfl rfl rfl ⟨rfl, rfl⟩ rfl hm (Nat.zero_le _) (by rw [List.length_map]; omega) (pu m) ?_
  rw [List.drop_zero, Nat.sub_zero, ← List.map_take]
  refine G (T := T) 1000 rfl ?_
  have hC := py (pk := pk) (l := m.take (min m.length 30)) ts2 (by omega) (by rw [List.length_take]; omega)
  rw [ai] at hC
  refine Ce hC rfl rfl rfl rfl rfl ⟨rfl, rfl⟩ ?_
  rintro _ ⟨R, u, rfl, u1, u2⟩
  have hu9 := dK u2 (by omega)
  have hF := from_any hT hV hu9 (by decide) (jPg_ok u2 (B := 90000000000) (by omega) (by decide))
  have hj := jPg_ok u2 (B := 90000000000) (by omega) (by decide)
  have hzu : u.size ≤ 100000000000 := by omega
  have hS0 := kX (pk := pk) _ (show (Tr.node L0 ks0).size ≤ 100000000000 by omega) (.node L0 ks0) u (Nat.le_refl _)
  have hS1 := kX (pk := pk) _ hzu u u (Nat.le_refl _)
  rw [(Tr.eqb_iff u u).2 rfl] at hS1
  rw [ai] at hS0
  cases e : iy u with
  | false =>
    have hne : Tr.eqb (.node L0 ks0) u = false := by
      cases e9 : Tr.eqb (.node L0 ks0) u with
      | false => rfl
      | true => rw [(Tr.eqb_iff _ _).1 e9, e] at hft; cases hft
    rw [hne] at hS0
    rw [show ftR u = _ from if_neg (by rw [e]; simp)] at hF
    refine G (T := T) 1000 rfl ?_
    refine Cq hF rfl rfl rfl rfl rfl ⟨rfl, rfl⟩ ?_
    refine G (T := T) 1000 rfl ?_
    refine IfT rfl rfl ?_
    refine G (T := T) 1000 rfl ?_
    refine Cq (ref_Equal (p := ⟨[], [], []⟩) (B := 1) zeroP_ok (by decide)) rfl rfl rfl rfl rfl ⟨rfl, rfl⟩ ?_
    refine G (T := T) 1000 rfl ?_
    refine Cq hS0 rfl rfl rfl rfl rfl ⟨rfl, rfl⟩ ?_
    refine G (T := T) 1000 rfl ?_
    exact Fe (T := T) rfl rfl
  | true =>
    rw [show ftR u = _ from if_pos e] at hF
    simp only [iy, Bool.and_eq_true] at e
    have e1 := (Tr.eqb_iff _ _).1 e.2
    have hRr := mH (pk := pk) (by decide) hj
    have hTT := ly (pk := pk) (by decide) hj hRr
    rw [e.1] at hRr
    rw [e1] at hTT
    generalize jPg u = p9 at *
    refine G (T := T) 1000 rfl ?_
    refine Cq hF rfl rfl rfl rfl rfl ⟨rfl, rfl⟩ ?_
    refine G (T := T) 1000 rfl ?_
    refine IfF rfl rfl ?_
    refine G (T := T) 1000 rfl ?_
    refine Cq hRr rfl rfl rfl rfl rfl ⟨rfl, rfl⟩ ?_
    refine G (T := T) 1000 rfl ?_
    refine Cq hTT rfl rfl rfl rfl rfl ⟨rfl, rfl⟩ ?_
    refine G (T := T) 1000 rfl ?_
    refine Cq hS1 rfl rfl rfl rfl rfl ⟨rfl, rfl⟩ ?_
    refine G (T := T) 1000 rfl ?_
    exact Fe (T := T) rfl rfl
end
end Go.Proofs.YtlmahofogapkgaaGreatDoor.X
namespace Go.Proofs.YtlmahofogapkgaaGreatDoor.K
open Go Go.RowKit Go.ChangeShapes Go.WideShapes Go.Deep
def iA (k : IntKind) (l : List Int) : List D := (l.map (Value.int k)).map D.c
abbrev InK (k : IntKind) (n : Int) : Prop := k.min ≤ n ∧ n ≤ k.max
theorem lit_in {k : IntKind} {n : Int} (h : (Lit.int k n).wf = true) : InK k n := by
  unfold Lit.wf at h
  simp only [Bool.and_eq_true, decide_eq_true_eq] at h
  exact h
theorem inK_i64 {n : Int} (h : InK .i64 n) : -9223372036854775808 ≤ n ∧ n ≤ 9223372036854775807 := by
  have e1 : IntKind.i64.min = -9223372036854775808 := by decide
  have e2 : IntKind.i64.max = 9223372036854775807 := by decide
  obtain ⟨h1, h2⟩ := h
  rw [e1] at h1; rw [e2] at h2
  exact ⟨h1, h2⟩
def jy (W : World) : Hp := fun b => W.heap[b]?
theorem St.all (W : World) : St W (jy W) [] W := ⟨rfl, ⟨rfl, by omega⟩, rfl, fun _ _ h => h, by simp, by simp, by simp⟩
theorem spot_none {W : World} {a : Addr} {v : Value} (h : W.cell? a = some v) : a = ⟨a.block, a.off, none⟩ := by
  obtain ⟨b, o, s⟩ := a
  cases s with
  | none => rfl
  | some s =>
    unfold World.cell? at h
    split at h <;> simp at h
theorem cel_of {W : World} {b o : Nat} {v : Value} (h : W.cell? ⟨b, o, none⟩ = some v) : cel (jy W) b o = some v := by
  unfold World.cell? at h
  unfold cel jy
  split at h
  · rename_i hb
    rw [hb]
    simpa using h
  · cases h
theorem add_zero' (a : Addr) : a.add 0 = a := by unfold Addr.add; simp
section
variable {P : Program} {H : Type} {enc : TypeId × Value → H} {W : World}
theorem lz {t e : TypeId} {k : IntKind} (ht : P.underlying t = some (.slice e)) (he : P.underlying e = some (.int k)) (hc : P.cellsOf e = 1) {a : Option Addr} {len cap : Nat} {d : DataW H} {ps : List MemPlace}
    (h : DataW.Trod enc P W 0 (fun _ => true) true t (.slice a len cap) d ps) : ∃ l : List Int, (∀ n ∈ l, InK k n) ∧ rd (jy W) (.s 1 (iA k l)) (.slice a len cap) := by
  obtain ⟨fuel, hf⟩ := h
  have hcs : (Value.slice a len cap).cells.toList = [.slice a len cap] := rfl
  rw [hcs] at hf
  rcases open_ints ht he hc hf with ⟨hcs, _⟩ | ⟨a, len', cap', zs, hcs, _, hl, hm, hz, _, hcell, hwz⟩
  · simp only [List.cons.injEq, Value.slice.injEq, and_true] at hcs
    obtain ⟨rfl, rfl, rfl⟩ := hcs
    exact ⟨[], by simp, rd.nil _ _⟩
  · simp only [List.cons.injEq, Value.slice.injEq, and_true] at hcs
    obtain ⟨rfl, rfl, rfl⟩ := hcs
    simp only [if_true] at hz
    refine ⟨zs.take len, fun n hn => ?_, ?_⟩
    · exact lit_in (hwz n (List.mem_of_mem_take hn))
    · simp only [rd]
      refine ⟨_, _, _, rfl, by simp [iA]; omega, hl, by simpa [maxLen] using hm, ?_⟩
      by_cases h0 : len = 0
      · exact .inl h0
      · have e := hcell 0 (by omega)
        rw [add_zero'] at e
        have ea := spot_none e
        refine .inr ⟨a.block, a.off, by rw [← ea], rds.mk fun i x hx => ?_⟩
        simp only [iA, List.getElem?_map, List.getElem?_take] at hx
        split at hx
        · rename_i hlt
          have h1 := hcell i (by omega)
          have h2 : zs[i]? = some zs[i] := List.getElem?_eq_getElem (by omega)
          rw [h2] at hx
          simp only [Option.map_some, Option.some.injEq] at hx
          subst hx
          refine ⟨.int k zs[i], ?_, by simp [rd]⟩
          rw [ea, cH] at h1
          rw [List.getD_eq_getElem?_getD, h2] at h1
          exact cel_of h1
        · simp at hx
theorem mJ (hl : laidOutB P = true) {W' : World} (hb : ∀ k, k < W.heap.size → W'.heap[k]? = W.heap[k]?) {sp : Nat → Bool} : ∀ {ts : List TypeId} {vs : List Value} {ds : List (DataW H)} {ps : List MemPlace},
    (ts.all fun t => P.readableRec t && decide (t < P.types.size)) = true → DataW.TrodAll enc P W 0 (fun _ => true) true ts vs ds ps → (∀ x ∈ ps, x.block < W.heap.size) → (∀ x ∈ ps, sp x.block = true) → DataW.TrodAll enc P W' 0 sp true ts vs ds ps
  | [], [], [], _, _, h, _, _ => h
  | t :: ts, v :: vs, d :: ds, _, hts, h, hlt, hsp => by
    obtain ⟨p, q, h1, h2, rfl⟩ := h
    simp only [List.all_cons, Bool.and_eq_true, decide_eq_true_eq] at hts
    refine ⟨p, q, WideElems.Trod_stays hl hts.1.1 hts.1.2 h1 (fun x hx => ?_) (fun x hx => hsp x (List.mem_append_left _ hx)), mJ hl hb hts.2 h2 (fun x hx => hlt x (List.mem_append_right _ hx)) (fun x hx => hsp x (List.mem_append_right _ hx)), rfl⟩
    have hx' := hlt x (List.mem_append_left _ hx)
    cases x with
    | cell b o => exact World.cell?_of_block (w := W) (hb b hx')
    | map b => exact hb b hx'
theorem law_post {f : Func} {s : ChangeSpec} {apart fresh handsOn again : Bool} {W' : World} {args : Array Value} {ds gs : List (DataW H)} {cO : List MemPlace} {bt : TypeId} (hl : laidOutB P = true)
    (hW : DataW.Whole enc P f.params.toList s.vars apart W args.toList ds gs cO) (hvs : s.vars = []) (hfn : s.fn H (ds ++ gs) = { results := [.lit (.bool true)], args := ds }) (hrt : f.resultTypes = #[bt]) (hbt : P.underlying bt = some .bool)
    (hts : (f.params.toList.all fun t => P.readableRec t && decide (t < P.types.size)) = true)
    (hos : W'.os = W.os) (hout : W'.output = W.output) (hb : ∀ k, k < W.heap.size → W'.heap[k]? = W.heap[k]?) : s.post enc P f apart fresh handsOn again W args (.bool true) W' := by
  have hlt := hW.lt
  have hW0 := hW
  obtain ⟨p, q, hA, hV, rfl, hfz, hnd⟩ := hW
  have hq : q = [] := by
    rw [hvs] at hV
    obtain ⟨_, rfl⟩ := trodVars_none hV
    rfl
  subst hq
  have hg : gs = [] := by
    rw [hvs] at hV
    obtain ⟨rfl, _⟩ := trodVars_none hV
    rfl
  subst hg
  simp only [List.append_nil] at hlt hfz hnd hW0
  have hres : ∀ (b : Nat) (sp : Nat → Bool) (hd : Bool), DataW.TrodAll enc P W' b sp hd f.resultTypes.toList ((Value.bool true).resultList f.resultTypes.size) (s.fn H (ds ++ [])).results [] := by
    intro b sp hd
    rw [hfn, hrt]
    exact trodAll_mk1 (shut_bool hbt true)
  have hargs : ∀ sp : Nat → Bool, (∀ x ∈ p, sp x.block = true) → DataW.TrodAll enc P W' 0 sp true f.params.toList args.toList (s.fn H (ds ++ [])).args p := by
    intro sp hsp
    rw [hfn]
    exact mJ hl hb hts hA hlt hsp
  have hvars : ∀ sp : Nat → Bool, DataW.TrodVars enc P W' sp s.vars (s.fn H (ds ++ [])).vars [] := by
    intro sp
    rw [hfn, hvs]
    rfl
  have hok : ∀ (j : Nat) (t : TypeId) (r : Value), f.resultTypes[j]? = some t → ((Value.bool true).resultList f.resultTypes.size)[j]? = some r → Value.okWide P W' .any 0 t r := by
    rw [hrt]
    intro j t r hj hr
    match j, hj, hr with
    | 0, hj, hr =>
      simp [Value.resultList] at hj hr
      subst hj; subst hr
      simp [Value.okWide, hbt, Cell.okWide, Cell.ok]
    | j + 1, hj, hr => simp at hj
  have hk : W.keptBut W' (fun x => x ∈ p ∧ (x ∈ ([] : List MemPlace) ∨ x ∈ p ∨ x ∈ ([] : List MemPlace))) := by
    refine ⟨hos, hout, fun i hi => ?_⟩
    rw [hb i hi]
    split <;> simp_all
  have hfz' : W'.noneFrozen p := by
    intro b off hp
    have := hfz b off hp
    rw [← this]
    exact World.frozen?_of_block (w := W) (hb b (hlt _ hp))
  refine ⟨ds, [], p, [], p, [], by simpa using hW0, hres _ _ _, hargs _ (fun x hx => by simpa using hlt x hx), hvars _, hk, fun _ => ⟨hok, _, _, ([] ++ p) ++ [], ⟨[] ++ p, [], trodAll_append (hargs _ (fun _ _ => rfl)) (hres _ _ _), hvars _, rfl, by simpa using hfz', fun ha => by simpa using hnd ha⟩, fun x hx _ => by simpa using hx⟩⟩
end
section
end
end Go.Proofs.YtlmahofogapkgaaGreatDoor.K
namespace Go.Proofs.YtlmahofogapkgaaGreatDoor.X
open Go Go.RowKit K
theorem mK {H : Hp} {b : Nat} {k : IntKind} : ∀ {l : List Int} {o : Nat}, K.rds H b o (iA k l) → rdr H b 1 o (l.map fun n => [.c (.int k n)])
  | [], o, _ => by simp only [List.map_nil, rdr]
  | n :: l, o, h => by
    simp only [iA, List.map_cons, K.rds] at h
    simp only [List.map_cons, rdr, rds]
    obtain ⟨⟨u, h1, h2⟩, h3⟩ := h
    exact ⟨⟨rfl, ⟨u, h1, by simp only [rd]; exact ⟨h2, rfl⟩⟩, trivial⟩, mK (l := l) h3⟩
theorem pz {H : Hp} {k : IntKind} {l : List Int} {v : Value} (h : K.rd H (.s 1 (iA k l)) v) : rd H (.s (l.map fun n => [.c (.int k n)])) v := by
  simp only [K.rd] at h
  obtain ⟨A, n, c, rfl, h1, h2, h3, h4⟩ := h
  have hn : n = (l.map fun n => [D.c (.int k n)]).length := by simpa [iA] using h1.symm
  simp only [rd]
  refine ⟨A, c, 1, by rw [hn], by rw [← hn]; exact h2, (by simpa [maxLen] using h3), ?_⟩
  rcases h4 with h4 | ⟨b, o, rfl, h4⟩
  · exact .inl (List.eq_nil_of_length_eq_zero (by rw [← hn]; exact h4))
  · exact .inr ⟨b, o, rfl, mK h4⟩
open Go.Proofs
def pkV : Pk := ⟨default, False, fun H => TabH H ∧ VarH H, fun hl h => ⟨TabH.mono hl h.1, VarH.mono hl h.2⟩⟩
theorem res_true {P : Program} {f : FuncId} {vals : List Value} {w0 : World} {own : List Seg} {H : Hp} (h : K.Fn P f vals w0 H own (fun r o H' => (xb true).rel (fun _ _ => none) H' r ∧ o = own ∧ Le H H')) : K.Fn P f vals w0 H own (fun r o H' => r = .bool true ∧ o = own ∧ Le H H') :=
  h.mono fun r o H' ⟨h1, h2, h3⟩ => ⟨by
    simp only [XV.rel, XA.rel, XC.rel, rd] at h1
    exact h1.1, h2, h3⟩
end Go.Proofs.YtlmahofogapkgaaGreatDoor.X
namespace Go.Proofs.YtlmahofogapkgaaGreatDoor.K
open Go Go.RowKit Go.Proofs
theorem jb {l p : List Int} (h1 : ∀ n ∈ l, I64 n) {w0 : World} {H : Hp} {own : List Seg} {v1 v2 : Value} (hA : rd H (.s 1 (iA .i64 l)) v1) (hB : rd H (.s 1 (iA .i64 p)) v2) (hT : TabH H) (hV : X.VarH H) :
    Fn Tryz.prog 6 [v1, v2] w0 H own (fun r o H' => r = .bool true ∧ o = own ∧ Le H H') :=
  X.res_true (X.XQ.toFn (X.jb (pk := X.pkV) (fun _ h => h.1) (fun _ h => h.2) (l := l) (m := p) h1) id ⟨hT, hV⟩ ⟨X.pz hA, X.pz hB, trivial⟩)
open Go.ChangeShapes Go.WideShapes Go.Deep
section
variable {P : Program} {H : Type} {enc : TypeId × Value → H} {W : World}
end
section
variable {H : Type} {enc : TypeId × Value → H} {W : World}
end
theorem tabH_of {W : World} {l : List (String × DataW Unit)} (h : laidMetH Tryz.prog l W) (hk : (l.filter fun x => x.1 == "internal/strconv.uint64pow10") = [("internal/strconv.uint64pow10", Lib.tabData .u64 Lib.pow10Tab)]) {t e : TypeId} {n : Nat}
    (hty : (Tryz.prog.globals[1]?).map (·.type) = some t) (ht : Tryz.prog.underlying t = some (.array n e)) (he : Tryz.prog.underlying e = some (.int .u64)) (hce : Tryz.prog.cellsOf e = 1) (hct : Tryz.prog.cellsOf t = n) : TabH (jy W) := by
  have h1 := h.filter fun x => x.1 == "internal/strconv.uint64pow10"
  rw [hk, MakeChecks.laidMetH_plain _ _ _ (by rfl)] at h1
  have hg : Tryz.prog.globalNamed "internal/strconv.uint64pow10" = some 1 := by kernel_rfl
  have h2 := Lib.tabIs_of_head hg hty ht he hce hct h1
  unfold Lib.TabIs World.var? at h2
  rw [hg, Option.bind_some] at h2
  unfold TabH jy
  split at h2
  · rename_i cs e fz hb
    cases h2
    exact ⟨_, _, hb⟩
  · cases h2
end Go.Proofs.YtlmahofogapkgaaGreatDoor.K
namespace Go
section
variable {H : Type} {enc : TypeId × Value → H}
theorem pA {a : Assume} {C : Checked} {os : Os} {f : FuncId} {fn : Func} {s : ChangeSpec} {cs : List PathCond} {ap fr ho ag : Bool} {X : World → Array Value → Prop}
    (hX : ∀ (w w' : World) (args : Array Value), w.heap = w'.heap → X w args → X w' args) (o : ownKnob C.prog.godebug = none) (st : os.Started) (ni : C.prog.inits.idxOf? f = none) (hfn : C.prog.funcs[f]? = some fn)
    (wit : ∃ (w : World) (tape : Tape) (i : Input), w.os = os ∧ (w.forCall tape i).Shaped C.prog ∧ i.vars = [] ∧ Input.okWide C.prog (w.forCall tape i) .any w.heap.size f i ∧ ((s.pre enc C.prog fn cs ap (w.forCall tape i).memory i.args ∧ X (w.forCall tape i).memory i.args) ∧ sizedMet enc C.prog fn (OpenSpec.ofChange s) ap (w.forCall tape i).memory i.args) ∧ a.holds C.prog (lone (Frame.enter C.prog f i.args .normal) [] (w.forCall tape i)))
    (k : ∀ (W : World) (base : Nat) (args : Array Value) (ds gs : List (DataW H)) (cO : List MemPlace), (∀ (j : Nat) t v, fn.params[j]? = some t → args[j]? = some v → Value.okWide C.prog W .any base t v) → DataW.Whole enc C.prog fn.params.toList s.vars ap W args.toList ds gs cO → X W args → W.ShapedOpen C.prog →
      Calls C.prog f args W fun e W' => ∃ v, e = .returned v ∧ s.post enc C.prog fn ap fr ho ag W args v W') :
    ReturnsInHanded a C os f .any (fun w args => (s.pre enc C.prog fn cs ap w args ∧ X w args) ∧ sizedMet enc C.prog fn (OpenSpec.ofChange s) ap w args) (s.post enc C.prog fn ap fr ho ag) := by
  refine returnsInHanded_of_calls o st ni wit fun w tape i _ hsh _ hok hpre _ => ?_
  obtain ⟨_, _, _, fn', h2, _, _, _, _, hval⟩ := hok
  obtain rfl : fn' = fn := Option.some.inj (h2.symm.trans hfn)
  obtain ⟨⟨⟨ds, gs, cO, hw, _⟩, hx⟩, _⟩ := hpre
  exact (k (w.forCall tape i) w.heap.size i.args ds gs cO hval (DataW.Whole.of_heap (w' := w.forCall tape i) (by rfl) hw) (hX _ _ _ (by rfl) hx) hsh).mono fun e W' ⟨v, he, hp⟩ => by
    subst he; exact ChangeSpec.post_blind hp
namespace Proofs.YtlmahofogapkgaaGreatDoor.X
open Go.RowKit Go.Proofs K
theorem lC {P : Program} {w : World} {fuel : Nat} {t : TypeId} {m : Array (String × TypeId)} {cs : List Value} {x : DataW Unit × List MemPlace} (hu : P.underlying t = some (.interface m)) (h : DataW.trod (fun _ => ()) P w 0 (fun _ => true) false fuel t cs = some x) : cs = [.nilIface] ∨ ∃ u v, cs = [.iface u v] := by
  cases fuel with
  | zero => simp [DataW.trod] at h
  | succ n =>
    simp only [DataW.trod, hu] at h
    split at h <;> simp_all
theorem lD {W : World} {l : List (String × DataW Unit)} {name : String} {d : DataW Unit} {g : Nat} {t : TypeId} {m : Array (String × TypeId)} (h : laidMetH Tryz.prog l W) (hk : (l.filter fun x => x.1 == name) = [(name, d)]) (hh : d.handleName?.isNone = true) (hg : Tryz.prog.globalNamed name = some g) (hty : (Tryz.prog.globals[g]?).map (·.type) = some t) (hu : Tryz.prog.underlying t = some (.interface m)) :
    ∃ ev e fz, jy W g = some (.cells #[ev] e fz) ∧ (ev = .nilIface ∨ ∃ te pe, ev = .iface te pe) := by
  have h1 := h.filter fun x => x.1 == name
  rw [hk, MakeChecks.laidMetH_plain _ _ _ (by simp [hh])] at h1
  obtain ⟨ps, ⟨g', t', cs, fuel, p, q, hg', ht', hvar, hd, _, _⟩, _⟩ := h1
  obtain rfl := Option.some.inj (hg.symm.trans hg')
  obtain rfl := Option.some.inj (hty.symm.trans ht')
  have hc := lC hu hd
  unfold World.var? at hvar
  rw [hg, Option.bind_some] at hvar
  split at hvar
  · rename_i c e fz hb
    cases hvar
    rcases hc with hc | ⟨u, v, hc⟩
    · exact ⟨_, e, fz, by unfold jy; rw [hb, show cs = #[.nilIface] from Array.toList_inj.1 hc], .inl rfl⟩
    · exact ⟨_, e, fz, by unfold jy; rw [hb, show cs = #[.iface u v] from Array.toList_inj.1 hc], .inr ⟨u, v, rfl⟩⟩
  · cases hvar
theorem qi {W : World} {g : Nat} {t : TypeId} {zero : Array Value} (h : W.ShapedOpen Tryz.prog) (hg : g < Tryz.prog.globals.size) (h0 : ((begin Tryz.prog (fun _ _ => 0) default).world.heap[g]?).bind Obj.row? = some (zero, t)) (hz : zero.size = 1)
    (hb : Tryz.prog.buildable t = true) (hc : Tryz.prog.cellTypes Tryz.prog.depth t = some [t]) (hu : Tryz.prog.underlying t = some (.int .i64)) : ∃ m e fz, jy W g = some (.cells #[.int .i64 m] e fz) := by
  obtain ⟨m, hm⟩ := cell_of_shapedOpen_int h hg h0 hz hb hc hu
  obtain ⟨cs, hh, hs, _⟩ := h.1 g zero t hg h0
  have h1 : cs.size = 1 := by omega
  have e1 : W.cell? ⟨g, 0, none⟩ = some cs[0] := by simp [World.cell?, hh, h1]
  rw [e1] at hm
  have e2 : cs.toList = [cs[0]] := by
    apply List.ext_getElem?
    intro i
    cases i with
    | zero => simp [h1]
    | succ i => simp [h1]
  have e3 : cs = #[.int .i64 m] := Array.toList_inj.1 (by rw [e2]; exact congrArg (fun x => [x]) (Option.some.inj hm))
  exact ⟨m, _, _, by unfold jy; rw [hh, e3]⟩
theorem varH_of {W : World} {l : List (String × DataW Unit)} {d1 d2 : DataW Unit} (hs : W.ShapedOpen Tryz.prog) (h : laidMetH Tryz.prog l W) (hk1 : (l.filter fun x => x.1 == "strconv.ErrSyntax") = [("strconv.ErrSyntax", d1)]) (hk2 : (l.filter fun x => x.1 == "strconv.ErrRange") = [("strconv.ErrRange", d2)]) (hd1 : d1.handleName?.isNone = true) (hd2 : d2.handleName?.isNone = true) : VarH (jy W) :=
  ⟨qi (zero := #[.int .i64 0]) hs (of_decide_eq_true (by kernel_rfl)) (by kernel_rfl) (by kernel_rfl) (by kernel_rfl) (by kernel_rfl) Tryz.underlying3, lD h hk1 hd1 (by kernel_rfl) (by kernel_rfl) Tryz.underlying234, lD h hk2 hd2 (by kernel_rfl) (by kernel_rfl) Tryz.underlying234⟩
end Proofs.YtlmahofogapkgaaGreatDoor.X
end
end Go
namespace Go.Proofs.YtlmahofogapkgaaGreatDoor
open Go Go.RowKit Go.ChangeShapes Go.WideShapes Go.ChangeAt
namespace Row6
theorem own0 : ownKnob Tryz.prog.godebug = none := by kernel_rfl
theorem laid0 : laidOutB Tryz.prog = true := by kernel_rfl
theorem door_met (os : Os) (args : Array Value) : laidMetH Tryz.prog Rows.diffFormsRow.laid ((World.doorLaid Tryz.prog 400 os).forCall (fun _ _ => 0) ⟨#[], args, []⟩).memory :=
  laidMetH_of_parts3 (fuel := 8) (laidMet_of_run' 8 (by kernel_rfl) (by kernel_rfl)) (by kernel_rfl) (by kernel_rfl)
theorem lifted (os : Os) (started : os.Started) (H : Type) (enc : TypeId × Value → H) :
    ReturnsInHanded {} Tryz.checked os 6 .any (fun w args => (Rows.diffFormsSpec.pre enc Tryz.prog Tryz.f6 [] false w args ∧ laidMetH Tryz.prog Rows.diffFormsRow.laid w) ∧ sizedMet enc Tryz.prog Tryz.f6 (OpenSpec.ofChange Rows.diffFormsSpec) false w args)
      (Rows.diffFormsSpec.post enc Tryz.prog Tryz.f6 false true false false) := by
  refine pA (C := Tryz.checked) (X := fun w _ => laidMetH Tryz.prog Rows.diffFormsRow.laid w) (fun _ _ _ hh h => h.of_heap hh) own0 started (by kernel_rfl) Tryz.func6
    (ChangeSpec.witness_shaped (enc := enc) (C := Tryz.checked) (os := os) (X := fun w _ => laidMetH Tryz.prog Rows.diffFormsRow.laid w) false (World.doorLaid Tryz.prog 400 os) #[.slice none 0 0, .slice none 0 0] 8 rfl (World.shaped_of_RefB (by kernel_rfl) (by kernel_rfl)) (by kernel_rfl) (by kernel_rfl) (by kernel_rfl) (door_met os _)) ?_
  intro W base args ds gs cO hval0 hW hX hsh
  have hval : ∀ (j : Nat) t v, Tryz.f6.params[j]? = some t → args[j]? = some v → Value.okWide Tryz.prog W .any base t v := hval0
  have hW' : DataW.Whole enc Tryz.prog Tryz.f6.params.toList Rows.diffFormsSpec.vars false W args.toList ds gs cO := hW
  obtain ⟨p, q, hA0, hV, rfl, hfz, hnd⟩ := hW
  have hA : DataW.TrodAll enc Tryz.prog W 0 (fun _ => true) true Tryz.f6.params.toList args.toList ds p := hA0
  rw [Tryz.params6] at hA hval
  obtain ⟨v0, v1, d0, d1, p0, p1, rfl, rfl, rfl, h0, h1⟩ := trodAll_two hA
  obtain ⟨rfl, rfl⟩ := trodVars_none hV
  obtain ⟨a0, n0, c0, rfl⟩ := okWide_slice Tryz.underlying22 (hval 0 22 v0 rfl rfl)
  obtain ⟨l0, k0, r0⟩ := K.lz Tryz.underlying22 Tryz.underlying3 (by kernel_rfl) h0
  obtain ⟨a1, n1, c1, rfl⟩ := okWide_slice Tryz.underlying22 (hval 1 22 v1 rfl rfl)
  obtain ⟨l1, k1, r1⟩ := K.lz Tryz.underlying22 Tryz.underlying3 (by kernel_rfl) h1
  have htab := K.tabH_of hX (by rfl) (by kernel_rfl) Tryz.underlying278 Tryz.underlying262 (by kernel_rfl) (by kernel_rfl)
  have hvar := X.varH_of hsh hX (by rfl) (by rfl) (by rfl) (by rfl)
  refine (K.jb (fun n h => K.inK_i64 (k0 n h)) r0 r1 htab hvar W (K.St.all W)).mono fun e W1 hh => ?_
  obtain ⟨v, own1, H1, rfl, ⟨rfl, _, hle⟩, hst⟩ := hh
  exact ⟨_, rfl, K.law_post laid0 hW' rfl rfl rfl Tryz.underlying4 (by kernel_rfl) hst.os hst.output (fun k hk => by
    have e1 : W.heap[k]? = some W.heap[k] := by simp [hk]
    rw [e1]
    exact hst.imm k _ (hle k _ e1))⟩
end Row6
theorem qj : Rows.DiffFormsSaid :=
  OpenClaim.holds_of_wide 6 Tryz.f6 rfl rfl rfl rfl rfl rfl rfl ⟨rfl, rfl, rfl, rfl, rfl⟩ rfl rfl rfl rfl rfl (by kernel_rfl) Tryz.func6 (by kernel_rfl)
    (of_decide_eq_true (by kernel_rfl)) (by unfold Func.isWrapper; first | (rw [if_pos (by decide +kernel)]; kernel_rfl) | (rw [if_neg (by decide +kernel)]; exact ⟨rfl, rfl⟩))
    (fun os started H enc _ => Row6.lifted os started H enc)
theorem forms_card : Rows.DiffFormsCardSaid :=
  Claim7.holds_tied_plain_at .later [] [.data, .data, .data, .sentinel, .sentinel] true (true, "425d4d93d6f6ba2554feac068bfcbb84dd0da43f1293f155f5ec7a392b3866b3") true
    qj (fun _ h => by cases h) (by kernel_rfl) (fun _ h => by cases h) diffForms_row_tie rfl ⟨rfl, rfl⟩ (by kernel_rfl) rfl
    (fun f fn hf hfn => by
      obtain rfl : f = 6 := Option.some.inj ((show Tryz.prog.funcNamed Rows.diffFormsRow.func = some 6 by kernel_rfl).symm.trans hf) |>.symm
      obtain rfl : fn = Tryz.f6 := (Option.some.inj (Tryz.func6.symm.trans hfn)).symm
      exact ⟨by kernel_rfl, fun j t ht => by
        rw [Tryz.params6] at ht
        have hm : t ∈ [22, 22] := by simpa using Array.mem_of_getElem? ht
        have bp : ([22, 22].all fun u => !Tryz.prog.wantsStandIn u) = true := by kernel_rfl
        exact (show Tryz.prog.wantsStandIn t = false by simpa using List.all_eq_true.1 bp t hm)⟩)
    (by kernel_rfl)
end Go.Proofs.YtlmahofogapkgaaGreatDoor
