/-
  Part 4 of 6 of the proof that DiffBack returns true for every list of numbers and every triple, and leaves its arguments as they were. No condition beyond the given statement.
-/
import Derived.Maps.RangeRun
import Derived.Maps.Range
import Derived.Test.YtlmahofogapkgaaGreatDoorPkB3
set_option linter.unusedVariables false
set_option linter.unusedSimpArgs false
set_option linter.all false
set_option maxRecDepth 20000
set_option maxHeartbeats 8000000
namespace Go.Proofs.YtlmahofogapkgaaGreatDoor.X
section
open Go Go.RowKit Go.Proofs K
variable {pk : Pk}
theorem eU (w : ByteArray) : XQ Tryz.prog pk 85 [xs w] (xf 139 [] [.p [.c (.string w)]]) := by
  refine XQ.en Tryz.func85 Tryz.ntmps85 (fun w0 own H V v0 hf => ?_)
  refine G (T := T) 100001 rfl ?_
  refine (FzTo.bz 0 rfl).c ?_
  refine G (T := T) 1000 rfl ?_
  exact Fq (T := T) rfl rfl
theorem pH (hT : ∀ H, pk.hy H → TabH H) {w : ByteArray} (hw : w.size ≤ 1000) {p : Par} {B : Nat} (hok : p.ok B) (hr : cv p = true) : XQ Tryz.prog pk 139 [xd (paD p), .a (.c (.d (.p [.c (.string w)])))] (xd (trd (d7 w p))) := by
  obtain ⟨h1, h2, h3⟩ := hok
  rw [cv, Bool.and_eq_true] at hr
  refine XQ.en Tryz.func139 Tryz.ntmps139 (fun w0 own H V v0 hf => ?_)
  refine G (T := T) 100001 rfl ?_
  refine (FzTo.bz 0 rfl).c ?_
  refine G (T := T) 1000 rfl ?_
  refine Cq (gL hT h2 (.inl hr.2)) rfl rfl rfl rfl rfl ⟨rfl, rfl⟩ ?_
  refine G (T := T) 1000 rfl ?_
  refine Cq (aw (ks := [tTy p.ty]) hw (by omega)) rfl rfl rfl rfl rfl ⟨rfl, rfl⟩ ?_
  refine G (T := T) 1000 rfl ?_
  exact Fq (T := T) rfl rfl
theorem iT (hT : ∀ H, pk.hy H → TabH H) {w : ByteArray} (hw : w.size ≤ 1000) {l : List Par} {B : Nat} (hl : l.length ≤ 100000000000) (hok : ∀ p ∈ l, p.ok B) (hr : l.all cv = true) : XQ Tryz.prog pk 84 [xr (l.map paD), xf 139 [] [.p [.c (.string w)]]] (xr (aP (l.map (d7 w)))) :=
  (de pk).2.2.2.1 (d7 w) (fs := []) (cs := [.p [.c (.string w)]]) hl (fun p hp => pH hT hw (hok p hp) (List.all_eq_true.1 hr p hp))
theorem diff_Def (hT : ∀ H, pk.hy H → TabH H) {t : Td} {B : Nat} (hB : B ≤ 100000000000) (hok : t.ok B) (hr : rTd t = true) : XQ Tryz.prog pk 35 [xd (tdD t)] (xd (trd (tTd t))) := by
  obtain ⟨h1, h2, h3⟩ := hok
  rw [rTd, Bool.and_eq_true] at hr
  refine XQ.en Tryz.func35 Tryz.ntmps35 (fun w0 own H V v0 hf => ?_)
  refine G (T := T) 100001 rfl ?_
  refine (FzTo.bz 0 rfl).c ?_
  refine G (T := T) 1000 rfl ?_
  refine Cf [1, 2] (fun (_ : Unit) r => (3, xs (if t.un then gE else oo)) :: r) (fun _ => [⟨1, 0, .cells [.d (.c (.string eS)), .z] 35⟩]) 2 (fun _ => True) rfl ?_ ?_
  · refine If rfl (fun h => ?_) (fun h => ?_)
    · refine G (T := T) 1000 rfl ?_
      rw [if_pos h]
      exact Dn () trivial
    · refine G (T := T) 1000 rfl ?_
      rw [if_neg (by rw [h]; simp)]
      exact Dn () trivial
  rintro _ -
  refine G (T := T) 1000 rfl ?_
  refine Cq (eU gD) rfl rfl rfl rfl rfl ⟨rfl, rfl⟩ ?_
  refine G (T := T) 1000 rfl ?_
  refine Cq (iT hT (w := gD) (by decide) (by omega) h3 hr.2) rfl rfl rfl rfl rfl ⟨rfl, rfl⟩ ?_
  refine G (T := T) 1000 rfl ?_
  refine Cq (aw (ks := t.fs.map (d7 gD)) (by split <;> decide) (by omega)) rfl rfl rfl rfl rfl ⟨rfl, rfl⟩ ?_
  refine G (T := T) 1000 rfl ?_
  exact Fq (T := T) rfl rfl
theorem oH (hT : ∀ H, pk.hy H → TabH H) {g : Gb} {B : Nat} (hB : B ≤ 90000000000) (hok : g.ok B) (hr : rGb g = true) : XQ Tryz.prog pk 37 [xd (gbD g)] (xd (trd (tGb g))) := by
  obtain ⟨h1, h2, h3, h4, h5, h6⟩ := hok
  rw [rGb] at hr
  simp only [Bool.and_eq_true, Bool.or_eq_true, decide_eq_true_eq] at hr
  obtain ⟨⟨r1, r2⟩, r3⟩ := hr
  refine XQ.en Tryz.func37 Tryz.ntmps37 (fun w0 own H V v0 hf => ?_)
  refine G (T := T) 100001 rfl ?_
  refine (FzTo.bz 0 rfl).c ?_
  refine G (T := T) 1000 rfl ?_
  refine Cq (fm hT h5.1 h5.2) rfl rfl rfl rfl rfl ⟨rfl, rfl⟩ ?_
  refine G (T := T) 1000 rfl ?_
  refine Cq (aw (w := w_at) (ks := []) (by decide) (eR h5.1 (by omega))) rfl rfl rfl rfl rfl ⟨rfl, rfl⟩ ?_
  refine G (T := T) 1000 rfl ?_
  refine If rfl (fun h => ?_) (fun h => ?_)
  · have h9 := of_decide_eq_true h
    rw [tGb, if_pos (by omega)]
    refine G (T := T) 1000 rfl ?_
    refine Cq (gL hT h2 (.inl r2)) rfl rfl rfl rfl rfl ⟨rfl, rfl⟩ ?_
    refine G (T := T) 1000 rfl ?_
    refine Cq (aw (w := gF) (ks := [tTy g.ty, fO w_at g.addr]) (by decide) (by omega)) rfl rfl rfl rfl rfl ⟨rfl, rfl⟩ ?_
    refine G (T := T) 1000 rfl ?_
    exact Fq (T := T) rfl rfl
  have h9 := of_decide_eq_false h
  rw [tGb, if_neg (by omega)]
  refine G (T := T) 1000 rfl ?_
  refine Cq (gL hT h2 (.inl r2)) rfl rfl rfl rfl rfl ⟨rfl, rfl⟩ ?_
  refine G (T := T) 1000 rfl ?_
  refine Cq (dM hT (n := g.bank) (by omega) (by omega)) rfl rfl rfl rfl rfl ⟨rfl, rfl⟩ ?_
  refine G (T := T) 1000 rfl ?_
  refine Cq (aw (w := eH) (ks := []) (by decide) (eR (by omega) (by omega))) rfl rfl rfl rfl rfl ⟨rfl, rfl⟩ ?_
  refine G (T := T) 1000 rfl ?_
  refine Cq (diff_hex (by omega)) rfl rfl rfl rfl rfl ⟨rfl, rfl⟩ ?_
  refine G (T := T) 1000 rfl ?_
  refine Cq (aw (w := w_bytes) (ks := []) (by decide) (by rw [lV]; omega)) rfl rfl rfl rfl rfl ⟨rfl, rfl⟩ ?_
  refine G (T := T) 1000 rfl ?_
  refine Cq (aw (w := ju) (ks := [tTy g.ty, fO eH g.bank, fO w_at g.addr, .node (aG w_bytes (hexB g.bytes)) []]) (by decide) (by omega)) rfl rfl rfl rfl rfl ⟨rfl, rfl⟩ ?_
  refine G (T := T) 1000 rfl ?_
  exact Fq (T := T) rfl rfl
theorem diff_Func (hT : ∀ H, pk.hy H → TabH H) {f : Fu} {B : Nat} (hB : B ≤ 90000000000) (hok : f.ok B) (hr : rFu f = true) : XQ Tryz.prog pk 39 [xd (fuD f)] (xd (trd (tFu f))) := by
  obtain ⟨h1, h2, h3, h4, h5, h6, h7, h8, h9⟩ := hok
  rw [rFu] at hr
  simp only [Bool.and_eq_true, Bool.or_eq_true] at hr
  obtain ⟨⟨⟨r1, r2⟩, r3⟩, r4⟩ := hr
  refine XQ.en Tryz.func39 Tryz.ntmps39 (fun w0 own H V v0 hf => ?_)
  refine G (T := T) 100001 rfl ?_
  refine (FzTo.bz 0 rfl).c ?_
  refine G (T := T) 1000 rfl ?_
  refine Cq (eU cF) rfl rfl rfl rfl rfl ⟨rfl, rfl⟩ ?_
  refine G (T := T) 1000 rfl ?_
  refine Cq (iT hT (w := cF) (by decide) (by omega) h3 r2) rfl rfl rfl rfl rfl ⟨rfl, rfl⟩ ?_
  refine G (T := T) 1000 rfl ?_
  refine Cq (ax (w := be) (ks := f.ps.map (d7 cF)) (by decide)) rfl rfl rfl rfl rfl ⟨rfl, rfl⟩ ?_
  refine G (T := T) 1000 rfl ?_
  refine Cq (gL hT h4 r3.symm) rfl rfl rfl rfl rfl ⟨rfl, rfl⟩ ?_
  refine G (T := T) 1000 rfl ?_
  refine Cq (ax (w := dH) (ks := [tTy f.res]) (by decide)) rfl rfl rfl rfl rfl ⟨rfl, rfl⟩ ?_
  refine G (T := T) 1000 rfl ?_
  refine If rfl (fun h => ?_) (fun h => ?_)
  · rw [if_pos h] at r4
    simp only [Bool.and_eq_true, decide_eq_true_eq] at r4
    rw [tFu, if_pos h]
    refine G (T := T) 1000 rfl ?_
    refine Cq (dM hT (n := f.x) (by omega) (by omega)) rfl rfl rfl rfl rfl ⟨rfl, rfl⟩ ?_
    refine G (T := T) 1000 rfl ?_
    refine Cq (aw (w := eH) (ks := []) (by decide) (eR (by omega) (by omega))) rfl rfl rfl rfl rfl ⟨rfl, rfl⟩ ?_
    refine G (T := T) 1000 rfl ?_
    refine Cq (fm hT h9.1 h9.2) rfl rfl rfl rfl rfl ⟨rfl, rfl⟩ ?_
    refine G (T := T) 1000 rfl ?_
    refine Cq (aw (w := w_at) (ks := []) (by decide) (eR h9.1 (by omega))) rfl rfl rfl rfl rfl ⟨rfl, rfl⟩ ?_
    refine G (T := T) 1000 rfl ?_
    refine Cq (aw (w := cI) (ks := [.node be (f.ps.map (d7 cF)), .node dH [tTy f.res], fO eH f.x, fO w_at f.y]) (by decide) (by omega)) rfl rfl rfl rfl rfl ⟨rfl, rfl⟩ ?_
    refine G (T := T) 1000 rfl ?_
    exact Fq (T := T) rfl rfl
  rw [if_neg (by rw [h]; simp)] at r4
  simp only [Bool.and_eq_true, bj] at r4
  rw [tFu, if_neg (by rw [h]; simp), eI]
  refine G (T := T) 1000 rfl ?_
  refine Cq ((de pk).2.2.2.2.1 tSm (fs := []) (cs := []) (by have := Sm.len_le f.body; omega) (fun s hs => diff_Stmt hT _ (by have := Sm.size_mem hs; omega) (Nat.le_refl _) (Sm.oks_mem h6 hs) (List.all_eq_true.1 r4.2 s hs))) rfl rfl rfl rfl rfl ⟨rfl, rfl⟩ ?_
  refine G (T := T) 1000 rfl ?_
  refine Cq (ax (w := bH) (ks := f.body.map tSm) (by decide)) rfl rfl rfl rfl rfl ⟨rfl, rfl⟩ ?_
  refine G (T := T) 1000 rfl ?_
  refine Cq (aw (w := w_fn) (ks := [.node be (f.ps.map (d7 cF)), .node dH [tTy f.res], .node bH (f.body.map tSm)]) (by decide) (by omega)) rfl rfl rfl rfl rfl ⟨rfl, rfl⟩ ?_
  refine G (T := T) 1000 rfl ?_
  exact Fq (T := T) rfl rfl
theorem eV (hT : ∀ H, pk.hy H → TabH H) {p : Pg} {B : Nat} (hB : B ≤ 90000000000) (hok : p.ok B) : XQ Tryz.prog pk 12 [xd (pgD p)] (xd (trd (dp p))) := by
  refine XQ.en Tryz.func12 Tryz.ntmps12 (fun w0 own H V v0 hf => ?_)
  refine G (T := T) 100001 rfl ?_
  refine (FzTo.bz 0 rfl).c ?_
  refine G (T := T) 1000 rfl ?_
  refine Cq (ma hok) rfl rfl rfl rfl rfl ⟨rfl, rfl⟩ ?_
  refine G (T := T) 1000 rfl ?_
  refine If rfl (fun h => ?_) (fun h => ?_)
  · rw [dp, if_neg (by simpa using h)]
    refine G (T := T) 1000 rfl ?_
    exact Fq (T := T) rfl rfl
  have h9 : rPg p = true := by simpa using h
  rw [dp, if_pos h9, tPg]
  rw [rPg] at h9
  simp only [Bool.and_eq_true] at h9
  refine G (T := T) 1000 rfl ?_
  refine Cq ((de pk).1 tTd (fs := []) (cs := []) (by have := hok.tl; omega) (fun x hx => diff_Def hT (B := B) (by omega) (hok.t x hx) (List.all_eq_true.1 h9.1.1 x hx))) rfl rfl rfl rfl rfl ⟨rfl, rfl⟩ ?_
  refine G (T := T) 1000 rfl ?_
  refine Cq (ax (w := cO) (ks := p.ts.map tTd) (by decide)) rfl rfl rfl rfl rfl ⟨rfl, rfl⟩ ?_
  refine G (T := T) 1000 rfl ?_
  refine Cq ((de pk).2.1 tGb (fs := []) (cs := []) (by have := hok.gl; omega) (fun x hx => oH hT hB (hok.g x hx) (List.all_eq_true.1 h9.1.2 x hx))) rfl rfl rfl rfl rfl ⟨rfl, rfl⟩ ?_
  refine G (T := T) 1000 rfl ?_
  refine Cq (ax (w := bZ) (ks := p.gs.map tGb) (by decide)) rfl rfl rfl rfl rfl ⟨rfl, rfl⟩ ?_
  refine G (T := T) 1000 rfl ?_
  refine Cq ((de pk).2.2.1 tFu (fs := []) (cs := []) (by have := hok.fl; omega) (fun x hx => diff_Func hT hB (hok.f x hx) (List.all_eq_true.1 h9.2 x hx))) rfl rfl rfl rfl rfl ⟨rfl, rfl⟩ ?_
  refine G (T := T) 1000 rfl ?_
  refine Cq (ax (w := d5) (ks := p.fs.map tFu) (by decide)) rfl rfl rfl rfl rfl ⟨rfl, rfl⟩ ?_
  refine G (T := T) 1000 rfl ?_
  refine Cq (ax (w := lR) (ks := [.node cO (p.ts.map tTd), .node bZ (p.gs.map tGb), .node d5 (p.fs.map tFu)]) (by decide)) rfl rfl rfl rfl rfl ⟨rfl, rfl⟩ ?_
  refine G (T := T) 1000 rfl ?_
  exact Fq (T := T) rfl rfl
end
section
open Go Go.RowKit Go.Proofs K
variable {pk : Pk}
end
section
open Go Go.RowKit Go.Proofs K
variable {pk : Pk}
end
section
open Go Go.RowKit Go.Proofs K
variable {pk : Pk}
end
section
open Go Go.RowKit Go.Proofs K
variable {pk : Pk}
end
section
open Go Go.RowKit Go.Proofs K
variable {pk : Pk}
theorem jA {α : Type} {l : List α} {j : Nat} {y : α} (h : l[j]? = some y) : l.drop j = y :: l.drop (j + 1) := by
  obtain ⟨h1, h2⟩ := List.getElem?_eq_some_iff.1 h
  rw [List.drop_eq_getElem_cons h1, h2]
theorem kP : ∀ {a b : List Tr}, a.length ≠ b.length → Tr.eqbs a b = false
  | [], [], h => absurd rfl h
  | [], _ :: _, _ => rfl
  | _ :: _, [], _ => rfl
  | t :: ts, u :: us, h => by rw [Tr.eqbs, kP (fun e => h (by simp [e])), Bool.and_false]
theorem ref_same (m : Nat) (hB : m ≤ 100000000000) : ∀ (t u : Tr), t.size ≤ m → XQ Tryz.prog pk 18 [xd (trd t), xd (trd u)] (xb (t.eqb u)) := by
  induction m with
  | zero => intro t u h; have := t.size_pos; omega
  | succ m ih =>
  intro t u hm
  obtain ⟨l, ks⟩ := t
  obtain ⟨l', js⟩ := u
  have hl := Tr.len_le ks
  have hsz : (Tr.node l ks).size = Tr.sizes ks + 1 := rfl
  rw [ba, ba, Tr.eqb, ic]
  refine XQ.en Tryz.func18 Tryz.ntmps18 (fun w0 own H V v0 hf => ?_)
  refine Gs (T := T) 100001 rfl ?_
  refine (FzTo.bz 0 rfl).c ?_
  refine (FzTo.bz 1 rfl).c ?_
  refine Gs (T := T) 1000 rfl ?_
  refine If rfl (fun h => ?_) (fun h => ?_)
  · rw [List.length_map, List.length_map] at h
    refine G (T := T) 1000 rfl ?_
    refine Fe (T := T) rfl (congrArg xb ?_)
    rw [Bool.or_eq_true] at h
    rcases h with h | h
    · rw [decide_eq_false (of_decide_eq_true h)]; rfl
    · rw [kP (by have := of_decide_eq_true h; omega), Bool.and_false]
  rw [List.length_map, List.length_map, Bool.or_eq_false_iff] at h
  have hll : l = l' := Decidable.not_not.1 (of_decide_eq_false h.1)
  have hlen : ks.length = js.length := by have := of_decide_eq_false h.2; omega
  rw [decide_eq_true hll, Bool.true_and]
  refine G (T := T) 1000 rfl ?_
  refine Lq [2, 3] (fun q r => (4, xb false) :: (5, xi (q : Nat)) :: r) (fun q => []) 2 (fun q => q ≤ ks.length ∧ Tr.eqbs ks js = Tr.eqbs (ks.drop q) (js.drop q)) (fun q => ks.length - q) 0 rfl ⟨Nat.zero_le _, rfl⟩ ?_
  rintro j ⟨hj, hI⟩
  refine G (T := T) 1000 rfl ?_
  refine If rfl (fun h => ?_) (fun h => ?_)
  · have hjl := of_decide_eq_true h; rw [List.length_map] at hjl
    obtain ⟨y, hy⟩ := ah (l := ks) (j := j) (by omega)
    obtain ⟨z, hz⟩ := ah (l := js) (j := j) (by omega)
    rw [jA hy, jA hz, Tr.eqbs] at hI
    refine G (T := T) 1000 rfl ?_
    refine Ix (T := T) j (ab hy) rfl rfl rfl rfl ⟨rfl, rfl⟩ rfl rfl ?_
    refine G (T := T) 1000 rfl ?_
    refine Ix (T := T) j (ab hz) rfl rfl rfl rfl ⟨rfl, rfl⟩ rfl rfl ?_
    refine G (T := T) 1000 rfl ?_
    refine Cq (ih (by omega) y z (Tr.size_kid (List.mem_of_getElem? hy) hm)) rfl rfl rfl rfl rfl ⟨rfl, rfl⟩ ?_
    refine G (T := T) 1000 rfl ?_
    refine If rfl (fun h => ?_) (fun h => ?_)
    · refine G (T := T) 1000 rfl ?_
      exact Fe (T := T) rfl (congrArg xb (by rw [hI, show y.eqb z = false by simpa using h]; rfl))
    · refine G (T := T) 1000 rfl ?_
      exact Nq (j + 1) ⟨by omega, by rw [hI, show y.eqb z = true by simpa using h, Bool.true_and]⟩ (by show _ - (j + 1) < _ - j; omega)
  · have hjl := of_decide_eq_false h; rw [List.length_map] at hjl
    refine G (T := T) 1000 rfl ?_
    exact Fe (T := T) rfl (congrArg xb (by rw [hI, List.drop_of_length_le (by omega), List.drop_of_length_le (by omega)]; rfl))
end
section
open Go Go.RowKit Go.Proofs K
variable {pk : Pk}
def ec (n : Int) : Bool := (decide (97 ≤ n) && decide (n ≤ 122)) || (decide (65 ≤ n) && decide (n ≤ 90))
theorem mc (b : UInt8) : gq (b.toNat : Int) = ec (b.toNat : Int) := by
  have h : ∀ n : Nat, n < 256 → gq (n : Int) = ec (n : Int) := by decide +kernel
  exact h _ b.toNat_lt
theorem ref_digit (n : Int) : XQ Tryz.prog pk 76 [xu8 n] (xb (kj n)) := by
  refine XQ.en Tryz.func76 Tryz.ntmps76 (fun w0 own H V v0 hf => ?_)
  refine Gs (T := T) 1000 rfl ?_
  exact Fe (T := T) rfl rfl
theorem kQ (n : Int) : XQ Tryz.prog pk 75 [xu8 n] (xb (ec n)) := by
  refine XQ.en Tryz.func75 Tryz.ntmps75 (fun w0 own H V v0 hf => ?_)
  refine Gs (T := T) 1000 rfl ?_
  exact Fe (T := T) rfl rfl
theorem mf {l : List ByteArray} (hl : l.length ≤ 1000000) (s : ByteArray) : XQ Tryz.prog pk 73 [xs s, xr (l.map bM)] (xb (aE s l)) := by
  refine XQ.en Tryz.func73 Tryz.ntmps73 (fun w0 own H V v0 hf => ?_)
  refine G (T := T) 1000 rfl ?_
  refine Lq [0, 1] (fun q r => (4, xb false) :: (5, xi (q : Nat)) :: r) (fun q => []) 0 (fun q => q ≤ l.length ∧ (l.take q).any (fun x => decide (x = s)) = false) (fun q => l.length - q) 0 rfl ⟨Nat.zero_le _, rfl⟩ ?_
  rintro j ⟨hj, hI⟩
  refine G (T := T) 1000 rfl ?_
  refine If rfl (fun h => ?_) (fun h => ?_)
  · have hjl := of_decide_eq_true h; rw [List.length_map] at hjl
    obtain ⟨y, hy⟩ := ah (l := l) (j := j) (by omega)
    refine G (T := T) 1000 rfl ?_
    refine Ix (T := T) j (ab hy) rfl rfl rfl rfl ⟨rfl, rfl⟩ rfl rfl ?_
    refine G (T := T) 1000 rfl ?_
    refine If rfl (fun h => ?_) (fun h => ?_)
    · refine G (T := T) 1000 rfl ?_
      exact Fe (T := T) rfl (congrArg xb (List.any_eq_true.2 ⟨y, List.mem_of_getElem? hy, h⟩).symm)
    · refine G (T := T) 1000 rfl ?_
      exact Nq (j + 1) ⟨by omega, eF hI hy h⟩ (by show _ - (j + 1) < _ - j; omega)
  · have hjl := of_decide_eq_false h; rw [List.length_map] at hjl
    refine G (T := T) 1000 rfl ?_
    rw [List.take_of_length_le (by omega)] at hI
    exact Fe (T := T) rfl (congrArg xb hI.symm)
theorem nG : XQ Tryz.prog pk 74 [] (xr (kws.map bM)) := by
  refine XQ.en Tryz.func74 Tryz.ntmps74 (fun w0 own H V v0 hf => ?_)
  refine G (T := T) 1000 rfl ?_
  exact Fe (T := T) rfl rfl
theorem bW {s : ByteArray} (hs : s.size ≤ 9223372036854775806) : XQ Tryz.prog pk 28 [xs s] (xb (aj s)) := by
  refine XQ.en Tryz.func28 Tryz.ntmps28 (fun w0 own H V v0 hf => ?_)
  refine G (T := T) 1000 rfl ?_
  refine Cq nG rfl rfl rfl rfl rfl ⟨rfl, rfl⟩ ?_
  refine G (T := T) 1000 rfl ?_
  refine Cq (mf (by decide) s) rfl rfl rfl rfl rfl ⟨rfl, rfl⟩ ?_
  refine G (T := T) 12 rfl ?_
  refine Sp 11 rfl (fun h => ?_) (fun h => ?_)
  · have h1 : s.size = 0 := by have := of_decide_eq_true h; omega
    have h2 : s = ⟨#[]⟩ := by obtain ⟨a⟩ := s; exact congrArg ByteArray.mk (Array.eq_empty_of_size_eq_zero h1)
    refine G (T := T) 1000 rfl ?_
    refine IfT rfl rfl ?_
    refine G (T := T) 1000 rfl ?_
    exact Fe (T := T) rfl (congrArg xb (by rw [aj, h2]; simp))
  have h1 : 1 ≤ s.size := by have := of_decide_eq_false h; omega
  have hne : s ≠ ⟨#[]⟩ := fun e => by rw [e] at h1; exact absurd h1 (by decide)
  refine Gs (T := T) 1000 rfl ?_
  refine Cs (fun _ => kQ _) rfl rfl rfl rfl rfl rfl rfl rfl ?_
  refine Gs (T := T) 1000 rfl ?_
  have hid : aj s = (!(((false || decide (24 < (s.size : Int))) || !ec ((s.data.getD (0 : Int).toNat 0).toNat : Int)) || aE s kws) && decide (eD (fun b => iO (b.toNat : Int)) s.data.toList 0 = s.size)) := by
    rw [aj, decide_eq_true hne, Bool.true_and, kq s hne, mc, show decide (24 < (s.size : Int)) = !decide (s.size ≤ 24) from by rw [← decide_not]; exact decide_eq_decide.2 (by omega)]
    show _ = (!(((false || _) || _) || (kws.any fun x => decide (x = s))) && _)
    cases decide (s.size ≤ 24) <;> cases ec ((s.data.getD (0 : Int).toNat 0).toNat : Int) <;> cases (kws.any fun x => decide (x = s)) <;> simp
  refine If rfl (fun h => ?_) (fun h => ?_)
  · refine G (T := T) 1000 rfl ?_
    exact Fe (T := T) rfl (congrArg xb (by rw [hid, h]; rfl))
  rw [h, Bool.not_false, Bool.true_and] at hid
  refine G (T := T) 1000 rfl ?_
  refine Lq [0] (fun q r => (2, xb false) :: (4, xi (q : Nat)) :: r) (fun q => []) 0 (fun k => k ≤ s.size ∧ eD (fun b => iO (b.toNat : Int)) s.data.toList 0 = eD (fun b => iO (b.toNat : Int)) (s.data.toList.drop k) k) (fun q => s.size - q) 0 rfl ⟨Nat.zero_le _, rfl⟩ ?_
  rintro k ⟨hk, hI⟩
  refine G (T := T) 1000 rfl ?_
  refine If rfl (fun h => ?_) (fun h => ?_)
  · have hlt : k < s.size := by have := of_decide_eq_true h; omega
    rw [sp_at hlt] at hI; simp only [eD] at hI
    refine Gs (T := T) 1000 rfl ?_
    refine Cq (kQ _) rfl rfl rfl rfl rfl ⟨rfl, rfl⟩ ?_
    refine Gs (T := T) 1000 rfl ?_
    refine Cs (fun _ => ref_digit _) rfl rfl rfl rfl rfl rfl rfl rfl ?_
    refine Gs (T := T) 1000 rfl ?_
    have hp : ∀ b : UInt8, (((!ec (b.toNat : Int)) && !kj (b.toNat : Int)) && decide ((b.toNat : Int) ≠ 95)) = !iO (b.toNat : Int) := fun b => by
      rw [iO, mc, decide_not]
      cases ec (b.toNat : Int) <;> cases kj (b.toNat : Int) <;> simp
    refine If rfl (fun h => ?_) (fun h => ?_)
    · rw [hp] at h
      refine G (T := T) 1000 rfl ?_
      exact Fe (T := T) rfl (congrArg xb (by rw [hid, hI, if_neg (by simpa using h)]; exact (decide_eq_false (by omega)).symm))
    · rw [hp] at h
      refine G (T := T) 1000 rfl ?_
      exact Nq (k + 1) ⟨hlt, by rw [hI, if_pos (by simpa using h)]⟩ (by show _ - (k + 1) < _ - k; omega)
  · have hlt : s.size ≤ k := by have := of_decide_eq_false h; omega
    refine G (T := T) 1000 rfl ?_
    exact Fe (T := T) rfl (congrArg xb (by rw [hid, hI, List.drop_of_length_le (by simpa using hlt)]; exact (decide_eq_true (show k = s.size by omega)).symm))
end
section
open Go Go.RowKit Go.Proofs K
variable {pk : Pk}
def ExprC (pk : Pk) (d : Nat) : Prop := ∀ c : KC, c.ok → XKp Tryz.prog pk 117 [pm, xi (d : Nat)] (mkB c) 3 (fun r => ∃ e, r = xd (exD e) ∧ EG (SB d) e)
abbrev ex0 (g : Nat) : XB := ⟨g, 0, .cells [.d (.c (.int .i64 0)), .d (.c (.string eS)), .d (.c (.int .u16 0)), .z] 87⟩
theorem dN {d : Nat} (ih : ExprC pk d) (hd : d ≤ 100) {c : KC} (hc : c.ok) {n : Nat} (h1 : 1 ≤ n) (hn : n ≤ 1000) : XKp Tryz.prog pk 154 [pm, xi ((d + 1 : Nat) : Int), xi (n : Nat)] (mkB c) 3 (fun r => ∃ e, r = xd (exD e) ∧ EG (SB d + 2) e) := by
  refine XM.en Tryz.func154 Tryz.ntmps154 (fun w0 own H V v0 hf => ?_)
  refine G (T := T) 1000 rfl ?_
  rw [show ((d + 1 : Nat) : Int) - 1 = (d : Nat) by omega]
  refine Ck [0, 1, 2] (ih c hc) rfl rfl rfl rfl rfl rfl rfl ⟨⟨rfl, rfl⟩, rfl⟩ ?_
  rintro _ ⟨e, rfl, he⟩
  refine G (T := T) 1000 rfl ?_
  refine Cq (ay (n := (n : Nat) - 1) (by omega) (by omega)) rfl rfl rfl rfl rfl ⟨rfl, rfl⟩ ?_
  refine G (T := T) 1000 rfl ?_
  refine Cq (aM ⟨#[38]⟩ e (bI ((n : Nat) - 1))) rfl rfl rfl rfl rfl ⟨rfl, rfl⟩ ?_
  refine G (T := T) 1000 rfl ?_
  exact Fm (T := T) id (xd (exD (eN ⟨#[38]⟩ e (bI ((n : Nat) - 1))))) (mkB c) ⟨⟨_, rfl, (eQ (by decide) he (fS (by omega) (by omega))).mono (by omega)⟩, rfl⟩ rfl
theorem iz {c : KC} (hc : c.ok) : XKp Tryz.prog pk 156 [pm] (mkB c) 3 (fun r => ∃ e, r = xd (exD e) ∧ EG 2 e ∧ bw e.kind = true) := by
  obtain ⟨f, hf9⟩ := ah (l := c.fs) (j := c.me) hc.hme
  have hF := hc.hf f (List.mem_of_getElem? hf9)
  obtain ⟨p, hp⟩ : ∃ p : Par, 0 < f.ps.length → f.ps[0]? = some p ∧ p ∈ f.ps := by
    match f.ps with
    | [] => exact ⟨⟨eS, .mk 0 eS 0 []⟩, fun h => by simp at h⟩
    | x :: r => exact ⟨x, fun _ => ⟨rfl, List.mem_cons_self ..⟩⟩
  refine XM.en Tryz.func156 Tryz.ntmps156 (fun w0 own H V v0 hf => ?_)
  refine G (T := T) 12 rfl ?_
  refine Ix (T := T) c.me (ab hf9) rfl rfl rfl rfl ⟨rfl, rfl⟩ rfl rfl ?_
  refine G (T := T) 100002 rfl ?_
  refine (FzTo.bz 4 rfl).c ?_
  refine Gs (T := T) 21 rfl ?_
  refine Is (T := T) 0 (paD p) (fun h => ?_) rfl rfl rfl rfl rfl rfl rfl rfl ?_
  · have h9 := of_decide_eq_true h; rw [List.length_map] at h9
    exact ⟨ab (hp (by omega)).1, rfl⟩
  refine Gs (T := T) 28 rfl ?_
  generalize hb9 : (decide ((0 : Int) < ((f.ps.map paD).length : Int)) && decide (tk p.ty = 6)) = b9
  have fin : ∀ {e : Ex}, EG 2 e → bw e.kind = true → (fun (r : XV) (hp' : XH) => (∃ e, r = xd (exD e) ∧ EG 2 e ∧ bw e.kind = true) ∧ hp' = mkB c) (xd (exD e)) (mkB c) := fun h1 h2 => ⟨⟨_, rfl, h1, h2⟩, rfl⟩
  cases b9 with
  | true =>
    simp only [Bool.and_eq_true] at hb9
    have h9 := of_decide_eq_true hb9.1; rw [List.length_map] at h9
    obtain ⟨hp1, hp2⟩ := hp (by omega)
    refine G (T := T) 1000 rfl ?_
    refine Ck [0, 1, 2] (az hc.hl hc.hll (n := 2) (by omega) (by omega)) rfl rfl rfl rfl rfl rfl rfl ⟨⟨rfl, rfl⟩, rfl⟩ ?_
    rintro _ ⟨k, rfl, k1, k2⟩
    refine G (T := T) 1000 rfl ?_
    refine If rfl (fun h => ?_) (fun h => ?_)
    · refine G (T := T) 34 rfl ?_
      refine Ix (T := T) 0 (ab hp1) rfl rfl rfl rfl ⟨rfl, rfl⟩ rfl rfl ?_
      refine G (T := T) 1000 rfl ?_
      refine Cq (ai p.nm) rfl rfl rfl rfl rfl ⟨rfl, rfl⟩ ?_
      refine G (T := T) 1000 rfl ?_
      exact Fm (T := T) id (xd (exD (.mk 5 eS 0 [av p.nm]))) (mkB c) (fin (eg_one (.inl rfl) (iw (hF.ps p hp2).1)) rfl) rfl
    · refine G (T := T) 1000 rfl ?_
      refine Cq (ai ⟨#[103, 115]⟩) rfl rfl rfl rfl rfl ⟨rfl, rfl⟩ ?_
      refine G (T := T) 1000 rfl ?_
      exact Fm (T := T) id (xd (exD (av ⟨#[103, 115]⟩))) (mkB c) (fin ((bJ (by decide)).mono (by omega)) rfl) rfl
  | false =>
    refine G (T := T) 1000 rfl ?_
    refine IfF rfl rfl ?_
    refine G (T := T) 1000 rfl ?_
    refine Cq (ai ⟨#[103, 115]⟩) rfl rfl rfl rfl rfl ⟨rfl, rfl⟩ ?_
    refine G (T := T) 1000 rfl ?_
    exact Fm (T := T) id (xd (exD (av ⟨#[103, 115]⟩))) (mkB c) (fin ((bJ (by decide)).mono (by omega)) rfl) rfl
theorem dr {l : List ByteArray} {p : ByteArray → Prop} (h : ∀ s ∈ l, p s) {k : Int} (h0 : 0 ≤ k) (h1 : k < (l.length : Int)) : ∃ j y, k = ((j : Nat) : Int) ∧ l[j]? = some y ∧ p y := by
  obtain ⟨j, rfl⟩ := Int.eq_ofNat_of_zero_le h0
  obtain ⟨y, hy⟩ := ah (l := l) (j := j) (by omega)
  exact ⟨j, y, rfl, hy, h y (List.mem_of_getElem? hy)⟩
theorem oI {d : Nat} (ih : ExprC pk d) (hd : d ≤ 100) {c : KC} (hc : c.ok) : XKp Tryz.prog pk 118 [pm, xi ((d + 1 : Nat) : Int)] (mkB c) 3 (fun r => ∃ e, r = xd (exD e) ∧ EGp (SB d + 8) e) := by
  have hvl := hc.hvl
  have fin : ∀ {e : Ex} {B : Nat}, EG B e → B ≤ SB d + 8 → bw e.kind = true → (fun (r : XV) (hp' : XH) => (∃ e, r = xd (exD e) ∧ EGp (SB d + 8) e) ∧ hp' = mkB c) (xd (exD e)) (mkB c) := fun h1 h2 h3 => ⟨⟨_, rfl, h1.mono h2, h3⟩, rfl⟩
  have hpos := iy d
  refine XM.en Tryz.func118 Tryz.ntmps118 (fun w0 own H V v0 hf => ?_)
  refine G (T := T) 1000 rfl ?_
  refine Ck [0, 1, 2] (az hc.hl hc.hll (n := 14) (by omega) (by omega)) rfl rfl rfl rfl rfl rfl rfl ⟨⟨rfl, rfl⟩, rfl⟩ ?_
  rintro _ ⟨k0, rfl, _, _⟩
  refine G (T := T) 100002 rfl ?_
  refine Op 0 4 rfl rfl ?_
  rintro _ ⟨nd, rfl⟩
  refine ⟨_, _, rfl, rfl, ?_⟩
  refine G (T := T) 13 rfl ?_
  refine Sw rfl rfl rfl ⟨rfl, rfl⟩ ?_
  refine G (T := T) 1000 rfl ?_
  refine Cf [0, 1, 4] (fun (k : Int) r => (5, xi k) :: r) (fun _ => mkB c ++ [ex0 3]) 4 (fun _ => True) rfl ?_ ?_
  · refine If rfl (fun h => ?_) (fun h => ?_)
    · refine G (T := T) 1000 rfl ?_
      refine (SRto.wk 0 4 ndP rfl rfl rfl rfl ⟨_, rfl⟩).e ?_
      exact Dn 13 trivial
    · refine G (T := T) 1000 rfl ?_
      refine (SRto.wk 0 4 ndP rfl rfl rfl rfl ⟨_, rfl⟩).e ?_
      exact Dn k0 trivial
  rintro k -
  refine Gs (T := T) 1000 rfl ?_
  refine If rfl (fun h => ?_) (fun h => ?_)
  · have hlen : 0 < c.vars.length := by
      have := of_decide_eq_true (Bool.and_eq_true_iff.1 h).2; omega
    refine G (T := T) 1000 rfl ?_
    refine Ck [0, 1, 2] (az hc.hl hc.hll (n := (c.vars.length : Nat)) (by omega) (by omega)) rfl rfl rfl rfl rfl rfl rfl ⟨⟨rfl, rfl⟩, rfl⟩ ?_
    rintro _ ⟨q, rfl, q1, q2⟩
    obtain ⟨j, y, rfl, hy, hyl⟩ := dr hc.hv q1 q2
    refine G (T := T) 43 rfl ?_
    refine Iq (T := T) j rfl rfl rfl rfl rfl ⟨rfl, rfl⟩ rfl (by omega) rfl ?_
    refine Lr (T := T) (ab hy) rfl rfl rfl rfl ⟨rfl, rfl⟩ rfl rfl ?_
    refine G (T := T) 1000 rfl ?_
    refine Cq (ai y) rfl rfl rfl rfl rfl ⟨rfl, rfl⟩ ?_
    refine G (T := T) 1000 rfl ?_
    exact Fm (T := T) id (xd (exD (av y))) (mkB c) (fin (iw hyl) (by omega) rfl) rfl
  refine Gs (T := T) 1000 rfl ?_
  refine If rfl (fun h => ?_) (fun h => ?_)
  · refine G (T := T) 1000 rfl ?_
    refine Cq (ai ⟨#[97, 114, 114]⟩) rfl rfl rfl rfl rfl ⟨rfl, rfl⟩ ?_
    refine G (T := T) 1000 rfl ?_
    refine Ck [0, 1, 2] (dN ih hd hc (n := 8) (by omega) (by omega)) rfl rfl rfl rfl rfl rfl rfl ⟨⟨rfl, rfl⟩, rfl⟩ ?_
    rintro _ ⟨e, rfl, he⟩
    refine G (T := T) 1000 rfl ?_
    refine Cq (bf (av ⟨#[97, 114, 114]⟩) e) rfl rfl rfl rfl rfl ⟨rfl, rfl⟩ ?_
    refine G (T := T) 1000 rfl ?_
    exact Fm (T := T) id (xd (exD (jb (av ⟨#[97, 114, 114]⟩) e))) (mkB c) (fin (nD (bJ (by decide)) he) (by omega) rfl) rfl
  refine Gs (T := T) 1000 rfl ?_
  refine If rfl (fun h => ?_) (fun h => ?_)
  · refine G (T := T) 1000 rfl ?_
    refine Cq (ai ⟨#[98, 121, 116, 101, 115]⟩) rfl rfl rfl rfl rfl ⟨rfl, rfl⟩ ?_
    refine G (T := T) 1000 rfl ?_
    refine Ck [0, 1, 2] (dN ih hd hc (n := 16) (by omega) (by omega)) rfl rfl rfl rfl rfl rfl rfl ⟨⟨rfl, rfl⟩, rfl⟩ ?_
    rintro _ ⟨e, rfl, he⟩
    refine G (T := T) 1000 rfl ?_
    refine Cq (bf (av ⟨#[98, 121, 116, 101, 115]⟩) e) rfl rfl rfl rfl rfl ⟨rfl, rfl⟩ ?_
    refine G (T := T) 1000 rfl ?_
    exact Fm (T := T) id (xd (exD (jb (av ⟨#[98, 121, 116, 101, 115]⟩) e))) (mkB c) (fin (nD (bJ (by decide)) he) (by omega) rfl) rfl
  refine Gs (T := T) 1000 rfl ?_
  refine If rfl (fun h => ?_) (fun h => ?_)
  · refine G (T := T) 1000 rfl ?_
    refine Ck [0, 1, 2] (iz hc) rfl rfl rfl rfl rfl rfl rfl ⟨⟨rfl, rfl⟩, rfl⟩ ?_
    rintro _ ⟨e, rfl, he, hp⟩
    refine G (T := T) 1000 rfl ?_
    refine Cq (bF e ⟨#[97]⟩) rfl rfl rfl rfl rfl ⟨rfl, rfl⟩ ?_
    refine G (T := T) 1000 rfl ?_
    exact Fm (T := T) id (xd (exD (ja e ⟨#[97]⟩))) (mkB c) (fin (kK (by decide +kernel) he) (by omega) rfl) rfl
  refine Gs (T := T) 1000 rfl ?_
  refine If rfl (fun h => ?_) (fun h => ?_)
  · refine G (T := T) 1000 rfl ?_
    refine Ck [0, 1, 2] (iz hc) rfl rfl rfl rfl rfl rfl rfl ⟨⟨rfl, rfl⟩, rfl⟩ ?_
    rintro _ ⟨e, rfl, he, hp⟩
    refine G (T := T) 1000 rfl ?_
    refine Cq (bF e ⟨#[98]⟩) rfl rfl rfl rfl rfl ⟨rfl, rfl⟩ ?_
    refine G (T := T) 1000 rfl ?_
    exact Fm (T := T) id (xd (exD (ja e ⟨#[98]⟩))) (mkB c) (fin (kK (by decide +kernel) he) (by omega) rfl) rfl
  refine Gs (T := T) 1000 rfl ?_
  refine If rfl (fun h => ?_) (fun h => ?_)
  · refine G (T := T) 1000 rfl ?_
    refine Ck [0, 1, 2] (iz hc) rfl rfl rfl rfl rfl rfl rfl ⟨⟨rfl, rfl⟩, rfl⟩ ?_
    rintro _ ⟨e, rfl, he, hp⟩
    refine G (T := T) 1000 rfl ?_
    refine Cq (bF e ⟨#[100]⟩) rfl rfl rfl rfl rfl ⟨rfl, rfl⟩ ?_
    refine G (T := T) 1000 rfl ?_
    refine Ck [0, 1, 2] (dN ih hd hc (n := 4) (by omega) (by omega)) rfl rfl rfl rfl rfl rfl rfl ⟨⟨rfl, rfl⟩, rfl⟩ ?_
    rintro _ ⟨e2, rfl, he2⟩
    refine G (T := T) 1000 rfl ?_
    refine Cq (bf (ja e ⟨#[100]⟩) e2) rfl rfl rfl rfl rfl ⟨rfl, rfl⟩ ?_
    refine G (T := T) 1000 rfl ?_
    exact Fm (T := T) id (xd (exD (jb (ja e ⟨#[100]⟩) e2))) (mkB c) (fin (nD (kK (by decide +kernel) he) he2) (by omega) rfl) rfl
  refine Gs (T := T) 1000 rfl ?_
  refine If rfl (fun h => ?_) (fun h => ?_)
  · refine G (T := T) 1000 rfl ?_
    refine Cq (ai ⟨#[103, 117]⟩) rfl rfl rfl rfl rfl ⟨rfl, rfl⟩ ?_
    refine G (T := T) 1000 rfl ?_
    refine Cq (bF (av ⟨#[103, 117]⟩) ⟨#[119]⟩) rfl rfl rfl rfl rfl ⟨rfl, rfl⟩ ?_
    refine G (T := T) 1000 rfl ?_
    exact Fm (T := T) id (xd (exD (ja (av ⟨#[103, 117]⟩) ⟨#[119]⟩))) (mkB c) (fin (kK (by decide +kernel) (bJ (by decide))) (by omega) rfl) rfl
  refine Gs (T := T) 1000 rfl ?_
  refine If rfl (fun h => ?_) (fun h => ?_)
  · refine G (T := T) 1000 rfl ?_
    refine Cq (ai ⟨#[103, 117]⟩) rfl rfl rfl rfl rfl ⟨rfl, rfl⟩ ?_
    refine G (T := T) 1000 rfl ?_
    refine Cq (bF (av ⟨#[103, 117]⟩) ⟨#[108]⟩) rfl rfl rfl rfl rfl ⟨rfl, rfl⟩ ?_
    refine G (T := T) 1000 rfl ?_
    exact Fm (T := T) id (xd (exD (ja (av ⟨#[103, 117]⟩) ⟨#[108]⟩))) (mkB c) (fin (kK (by decide +kernel) (bJ (by decide))) (by omega) rfl) rfl
  refine Gs (T := T) 1000 rfl ?_
  refine If rfl (fun h => ?_) (fun h => ?_)
  · refine G (T := T) 1000 rfl ?_
    refine Cq (ai ⟨#[103, 49]⟩) rfl rfl rfl rfl rfl ⟨rfl, rfl⟩ ?_
    refine G (T := T) 1000 rfl ?_
    exact Fm (T := T) id (xd (exD (av ⟨#[103, 49]⟩))) (mkB c) (fin (bJ (by decide)) (by omega) rfl) rfl
  refine Gs (T := T) 1000 rfl ?_
  refine If rfl (fun h => ?_) (fun h => ?_)
  · refine G (T := T) 1000 rfl ?_
    refine Cq (ai ⟨#[103, 50]⟩) rfl rfl rfl rfl rfl ⟨rfl, rfl⟩ ?_
    refine G (T := T) 1000 rfl ?_
    exact Fm (T := T) id (xd (exD (av ⟨#[103, 50]⟩))) (mkB c) (fin (bJ (by decide)) (by omega) rfl) rfl
  refine G (T := T) 1000 rfl ?_
  refine Cq (ai ⟨#[103, 48]⟩) rfl rfl rfl rfl rfl ⟨rfl, rfl⟩ ?_
  refine G (T := T) 1000 rfl ?_
  exact Fm (T := T) id (xd (exD (av ⟨#[103, 48]⟩))) (mkB c) (fin (bJ (by decide)) (by omega) rfl) rfl
end
section
open Go Go.RowKit Go.Proofs K
variable {pk : Pk}
def gsA : Ex := .mk 6 eS 0 [av ⟨#[103, 115]⟩]
def callE (f : Fu) (l : List Ex) : Ex := .mk 14 f.nm 0 l
theorem mk_call {d : Nat} (ih : ExprC pk d) (hd : d ≤ 100) {c : KC} (hc : c.ok) {f : Fu} (hF : FR f) : XKp Tryz.prog pk 121 [pm, xd (fuD f), xi ((d + 1 : Nat) : Int)] (mkB c) 3 (fun r => ∃ e, r = xd (exD e) ∧ EGc (3 * SB d + 1) e) := by
  have hpl := hF.pl
  have hpos := iy d
  refine XM.en Tryz.func121 Tryz.ntmps121 (fun w0 own H V v0 hf => ?_)
  refine G (T := T) 100001 rfl ?_
  refine (FzTo.bz 3 rfl).c ?_
  refine G (T := T) 100002 rfl ?_
  refine (Nrh 5 3 87 4 rfl rfl rfl rfl rfl).c ?_
  refine G (T := T) 1000 rfl ?_
  refine Lq [0, 2, 4, 6, 7] (fun (q : Nat × List Ex) r => (8, xi (q.1 : Nat)) :: r) (fun q => mkB c ++ [⟨6, 1, .row q.2.length (q.2.map exD) 87 4⟩, ⟨5, 0, .cells [.d (.c (.int .i64 14)), .d (.c (.string f.nm)), .d (.c (.int .u16 0)), .l 6 1 4 0 q.2.length q.2.length] 87⟩, ex0 4]) 7 (fun q => q.1 ≤ f.ps.length ∧ q.2.length = q.1 ∧ EGs (q.1 * SB d) q.2) (fun q => f.ps.length - q.1) (0, []) rfl ⟨Nat.zero_le _, rfl, EGs.nil.mono (by omega)⟩ ?_
  rintro ⟨j, L⟩ ⟨hj, hL, hE⟩; dsimp only at hj hL hE ⊢
  refine G (T := T) 1000 rfl ?_
  refine If rfl (fun h => ?_) (fun h => ?_)
  · have hjl := of_decide_eq_true h; rw [List.length_map] at hjl
    obtain ⟨y, hy⟩ := ah (l := f.ps) (j := j) (by omega)
    refine G (T := T) 1000 rfl ?_
    refine Ix (T := T) j (ab hy) rfl rfl rfl rfl ⟨rfl, rfl⟩ rfl rfl ?_
    refine G (T := T) 1000 rfl ?_
    have nxt : ∀ {e : Ex}, EG (SB d) e → (j + 1 ≤ f.ps.length ∧ (L ++ [e]).length = j + 1 ∧ EGs ((j + 1) * SB d) (L ++ [e])) := fun h => ⟨by omega, by rw [List.length_append, hL]; rfl, hE.step h⟩
    refine If rfl (fun h => ?_) (fun h => ?_)
    · refine G (T := T) 1000 rfl ?_
      refine Cq (ai ⟨#[103, 115]⟩) rfl rfl rfl rfl rfl ⟨rfl, rfl⟩ ?_
      refine G (T := T) 1000 rfl ?_
      have e9 : L.map exD ++ [exD gsA] = (L ++ [gsA]).map exD := by rw [List.map_append]; rfl
      refine Nq (j + 1, L ++ [gsA]) (nxt ((eg_one (.inr rfl) (bJ (by decide))).mono (by omega))) (by show _ - (j + 1) < _ - j; omega) ?_
      dsimp only
      rw [← e9, List.length_append]
      exact ⟨⟨_, _, rfl, rfl⟩, rfl, rfl⟩
    · refine G (T := T) 1000 rfl ?_
      rw [show ((d + 1 : Nat) : Int) - 1 = (d : Nat) by omega]
      refine Ck [0, 1, 2] (ih c hc) rfl rfl rfl rfl rfl rfl rfl ⟨⟨rfl, rfl⟩, rfl⟩ ?_
      rintro _ ⟨e, rfl, he⟩
      refine G (T := T) 1000 rfl ?_
      have e9 : L.map exD ++ [exD e] = (L ++ [e]).map exD := by rw [List.map_append]; rfl
      refine Nq (j + 1, L ++ [e]) (nxt he) (by show _ - (j + 1) < _ - j; omega) ?_
      dsimp only
      rw [← e9, List.length_append]
      exact ⟨⟨_, _, rfl, rfl⟩, rfl, rfl⟩
  · have hjl := of_decide_eq_false h; rw [List.length_map] at hjl
    have hjj : j ≤ 3 := by omega
    refine G (T := T) 100008 rfl ?_
    refine Zc 6 rfl ?_
    refine G (T := T) 1000 rfl ?_
    have hB := Nat.mul_le_mul_right (SB d) hjj
    exact Fm (T := T) id (xd [.c (.int .i64 14), .c (.string f.nm), .c (.int .u16 0), .s (L.map exD)]) (mkB c) ⟨⟨callE f L, by rw [callE, dv], eg_call hF.nm (hE.mono hB), rfl⟩, rfl⟩ rfl
end
section
open Go Go.RowKit Go.Proofs K
variable {pk : Pk}
def glo3 : List ByteArray := [⟨#[103, 48]⟩, ⟨#[103, 49]⟩, ⟨#[103, 50]⟩]
def una3 : List ByteArray := [⟨#[45]⟩, ⟨#[126]⟩, ⟨#[33]⟩]
def cas3 : List ByteArray := [⟨#[117, 56]⟩, ⟨#[117, 49, 54]⟩, ⟨#[115, 49, 54]⟩]
def div2 : List ByteArray := [⟨#[47]⟩, ⟨#[37]⟩]
def bin16 : List ByteArray := [⟨#[43]⟩, ⟨#[45]⟩, ⟨#[42]⟩, ⟨#[38]⟩, ⟨#[124]⟩, ⟨#[94]⟩, ⟨#[60, 60]⟩, ⟨#[62, 62]⟩, ⟨#[60]⟩, ⟨#[60, 61]⟩, ⟨#[62]⟩, ⟨#[62, 61]⟩, ⟨#[61, 61]⟩, ⟨#[33, 61]⟩, ⟨#[43]⟩, ⟨#[45]⟩]
theorem bQ : ∀ d, d ≤ 100 → ExprC pk d := by
  intro D
  induction D using Nat.strongRecOn with
  | _ D ih =>
  intro hD c hc
  have hvl := hc.hvl
  have hfl := hc.hfl
  have hme := hc.hme
  have hmap : (c.fs.map fuD).length = c.fs.length := List.length_map ..
  have hpos := iy D
  have big : 2 ≤ D → ∃ d, D = d + 2 ∧ SB D = 4 * SB (d + 1) ∧ SB (d + 1) = 4 * SB d ∧ 8 ≤ SB d := fun h => by
    obtain ⟨d, rfl⟩ : ∃ d, D = d + 2 := ⟨D - 2, by omega⟩
    exact ⟨d, rfl, jz _, jz _, iy _⟩
  have fin : ∀ {e : Ex} {B : Nat}, EG B e → B ≤ SB D → (fun (r : XV) (hp' : XH) => (∃ e, r = xd (exD e) ∧ EG (SB D) e) ∧ hp' = mkB c) (xd (exD e)) (mkB c) := fun h1 h2 => ⟨⟨_, rfl, h1.mono h2⟩, rfl⟩
  have tab : ∀ {s : ByteArray} {d : Nat} {e : Ex}, gloN s = true → D = d + 2 → EG (SB (d + 1) + 2) e → (fun (r : XV) (hp' : XH) => (∃ e, r = xd (exD e) ∧ EG (SB D) e) ∧ hp' = mkB c) (xd (exD (jb (av s) e))) (mkB c) := fun {s d e} h1 h2 h3 => fin (nD (bJ h1) h3) (by have : SB (d + 2) = 4 * SB (d + 1) := jz (d + 1); have := iy (d + 1); subst h2; omega)
  refine XM.en Tryz.func117 Tryz.ntmps117 (fun w0 own H V v0 hf => ?_)
  refine G (T := T) 100001 rfl ?_
  refine Op 0 4 rfl rfl ?_
  rintro _ ⟨nd, rfl⟩
  refine ⟨_, _, rfl, rfl, ?_⟩
  refine G (T := T) 16 rfl ?_
  refine Sw rfl rfl rfl ⟨rfl, rfl⟩ ?_
  refine G (T := T) 100002 rfl ?_
  refine (SRto.wk 0 4 ndP rfl rfl rfl rfl ⟨_, rfl⟩).c ?_
  refine G (T := T) 1000 rfl ?_
  refine Ck [0, 1, 2] (az hc.hl hc.hll (n := 20) (by omega) (by omega)) rfl rfl rfl rfl rfl rfl rfl ⟨⟨rfl, rfl⟩, rfl⟩ ?_
  rintro _ ⟨k0, rfl, k1, k2⟩
  refine G (T := T) 100003 rfl ?_
  refine Op 0 4 rfl rfl ?_
  rintro _ ⟨nd2, rfl⟩
  refine ⟨_, _, rfl, rfl, ?_⟩
  refine Gs (T := T) 1000 rfl ?_
  refine Cf [0, 1, 4] (fun (k : Int) r => (5, xi k) :: r) (fun _ => mkB c ++ [ex0 3]) 4 (fun k => 2 ≤ D ∨ k ≤ 4) rfl ?_ ?_
  · refine If rfl (fun h => ?_) (fun h => ?_)
    · refine G (T := T) 1000 rfl ?_
      refine (SRto.wk 0 4 ndP rfl rfl rfl rfl ⟨_, rfl⟩).e ?_
      have := Int.tmod_lt_of_pos k0 (show (0 : Int) < 5 by omega)
      exact Dn (k0.tmod 5) (.inr (by omega))
    · have h9 := of_decide_eq_false (Bool.or_eq_false_iff.1 h).1
      refine G (T := T) 1000 rfl ?_
      refine (SRto.wk 0 4 ndP rfl rfl rfl rfl ⟨_, rfl⟩).e ?_
      exact Dn k0 (.inl (by omega))
  rintro k hk
  refine Gs (T := T) 1000 rfl ?_
  refine If rfl (fun h => ?_) (fun h => ?_)
  · have hlen : 0 < c.vars.length := by
      rcases Bool.or_eq_true_iff.1 h with h | h
      all_goals have := of_decide_eq_true (Bool.and_eq_true_iff.1 h).2; omega
    refine G (T := T) 1000 rfl ?_
    refine Ck [0, 1, 2] (az hc.hl hc.hll (n := (c.vars.length : Nat)) (by omega) (by omega)) rfl rfl rfl rfl rfl rfl rfl ⟨⟨rfl, rfl⟩, rfl⟩ ?_
    rintro _ ⟨q, rfl, q1, q2⟩
    obtain ⟨j, y, rfl, hy, hyl⟩ := dr hc.hv q1 q2
    refine G (T := T) 66 rfl ?_
    refine Iq (T := T) j rfl rfl rfl rfl rfl ⟨rfl, rfl⟩ rfl (by omega) rfl ?_
    refine Lr (T := T) (ab hy) rfl rfl rfl rfl ⟨rfl, rfl⟩ rfl rfl ?_
    refine G (T := T) 1000 rfl ?_
    refine Cq (ai y) rfl rfl rfl rfl rfl ⟨rfl, rfl⟩ ?_
    refine G (T := T) 1000 rfl ?_
    exact Fm (T := T) id (xd (exD (av y))) (mkB c) (fin (iw hyl) (by omega)) rfl
  refine Gs (T := T) 1000 rfl ?_
  refine If rfl (fun h => ?_) (fun h => ?_)
  · refine G (T := T) 1000 rfl ?_
    refine Ck [0, 1, 2] (az hc.hl hc.hll (n := 5) (by omega) (by omega)) rfl rfl rfl rfl rfl rfl rfl ⟨⟨rfl, rfl⟩, rfl⟩ ?_
    rintro _ ⟨q, rfl, q1, q2⟩
    refine G (T := T) 76 rfl ?_
    rw [kL (n := 1 + q) (by omega) (by omega)]
    refine G (T := T) 1000 rfl ?_
    exact Fm (T := T) id (xd (exD (.mk 11 eS (1 + q) []))) (mkB c) (fin (eg_inp (by omega) (by omega)) (by omega)) rfl
  refine Gs (T := T) 1000 rfl ?_
  refine If rfl (fun h => ?_) (fun h => ?_)
  · refine G (T := T) 1000 rfl ?_
    refine Ck [0, 1, 2] (az hc.hl hc.hll (n := 3) (by omega) (by omega)) rfl rfl rfl rfl rfl rfl rfl ⟨⟨rfl, rfl⟩, rfl⟩ ?_
    rintro _ ⟨q, rfl, q1, q2⟩
    obtain ⟨j, y, rfl, hy, hyl⟩ := dr (l := glo3) (p := fun s => gloN s = true) (by decide) q1 q2
    refine G (T := T) 83 rfl ?_
    refine Ix (T := T) (rows := glo3.map bM) j (ab hy) rfl rfl rfl rfl ⟨rfl, rfl⟩ rfl rfl ?_
    refine G (T := T) 1000 rfl ?_
    refine Cq (ai y) rfl rfl rfl rfl rfl ⟨rfl, rfl⟩ ?_
    refine G (T := T) 1000 rfl ?_
    exact Fm (T := T) id (xd (exD (av y))) (mkB c) (fin (bJ hyl) (by omega)) rfl
  refine Gs (T := T) 1000 rfl ?_
  refine If rfl (fun h => ?_) (fun h => ?_)
  · obtain ⟨d, rfl, s1, s2, s3⟩ := big (by
      rcases Bool.or_eq_true_iff.1 h with h | h
      all_goals have := of_decide_eq_true h; omega)
    refine G (T := T) 1000 rfl ?_
    refine Ck [0, 1, 2] (oI (ih (d + 1) (by omega) (by omega)) (by omega) hc) rfl rfl rfl rfl rfl rfl rfl ⟨⟨rfl, rfl⟩, rfl⟩ ?_
    rintro _ ⟨e, rfl, he⟩
    refine G (T := T) 1000 rfl ?_
    exact Fm (T := T) id (xd (exD e)) (mkB c) (fin he.1 (by omega)) rfl
  refine Gs (T := T) 1000 rfl ?_
  refine If rfl (fun h => ?_) (fun h => ?_)
  · obtain ⟨d, hd, s1, s2, s3⟩ := big (by have := of_decide_eq_true h; omega)
    refine G (T := T) 100014 rfl ?_
    refine Op 0 4 rfl rfl ?_
    rintro _ ⟨nd3, rfl⟩
    refine ⟨_, _, rfl, rfl, ?_⟩
    refine G (T := T) 104 rfl ?_
    refine Sw rfl rfl rfl ⟨rfl, rfl⟩ ?_
    refine G (T := T) 100015 rfl ?_
    refine (SRto.wk 0 4 ndP rfl rfl rfl rfl ⟨_, rfl⟩).c ?_
    refine G (T := T) 1000 rfl ?_
    refine Cq (ai ⟨#[116, 97, 98]⟩) rfl rfl rfl rfl rfl ⟨rfl, rfl⟩ ?_
    refine G (T := T) 1000 rfl ?_
    subst hd
    refine Ck [0, 1, 2] (dN (ih (d + 1) (by omega) (by omega)) (by omega) hc (n := 8) (by omega) (by omega)) rfl rfl rfl rfl rfl rfl rfl ⟨⟨rfl, rfl⟩, rfl⟩ ?_
    rintro _ ⟨e, rfl, he⟩
    refine G (T := T) 1000 rfl ?_
    refine Cq (bf (av ⟨#[116, 97, 98]⟩) e) rfl rfl rfl rfl rfl ⟨rfl, rfl⟩ ?_
    refine G (T := T) 1000 rfl ?_
    exact Fm (T := T) id (xd (exD (jb (av ⟨#[116, 97, 98]⟩) e))) (mkB c) (tab (by decide) rfl he) rfl
  refine Gs (T := T) 1000 rfl ?_
  refine If rfl (fun h => ?_) (fun h => ?_)
  · obtain ⟨d, hd, s1, s2, s3⟩ := big (by have := of_decide_eq_true h; omega)
    refine G (T := T) 100017 rfl ?_
    refine Op 0 4 rfl rfl ?_
    rintro _ ⟨nd3, rfl⟩
    refine ⟨_, _, rfl, rfl, ?_⟩
    refine G (T := T) 120 rfl ?_
    refine Sw rfl rfl rfl ⟨rfl, rfl⟩ ?_
    refine G (T := T) 100018 rfl ?_
    refine (SRto.wk 0 4 ndP rfl rfl rfl rfl ⟨_, rfl⟩).c ?_
    refine G (T := T) 1000 rfl ?_
    refine Cq (ai ⟨#[119, 111, 114, 100, 115]⟩) rfl rfl rfl rfl rfl ⟨rfl, rfl⟩ ?_
    refine G (T := T) 1000 rfl ?_
    subst hd
    refine Ck [0, 1, 2] (dN (ih (d + 1) (by omega) (by omega)) (by omega) hc (n := 4) (by omega) (by omega)) rfl rfl rfl rfl rfl rfl rfl ⟨⟨rfl, rfl⟩, rfl⟩ ?_
    rintro _ ⟨e, rfl, he⟩
    refine G (T := T) 1000 rfl ?_
    refine Cq (bf (av ⟨#[119, 111, 114, 100, 115]⟩) e) rfl rfl rfl rfl rfl ⟨rfl, rfl⟩ ?_
    refine G (T := T) 1000 rfl ?_
    exact Fm (T := T) id (xd (exD (jb (av ⟨#[119, 111, 114, 100, 115]⟩) e))) (mkB c) (tab (by decide) rfl he) rfl
  have one : ∀ {d : Nat}, D = d + 2 → ((D : Nat) : Int) - 1 = ((d + 1 : Nat) : Int) := fun h => by omega
  refine Gs (T := T) 1000 rfl ?_
  refine If rfl (fun h => ?_) (fun h => ?_)
  · obtain ⟨d, hd, s1, s2, s3⟩ := big (by have := of_decide_eq_true h; omega)
    refine G (T := T) 100020 rfl ?_
    refine Ods (T := T) [0, 1, 5, 6, 7, 2, 3, 4, 8, 9, 10, 11] rfl ?_
    refine G (T := T) 1000 rfl ?_
    refine Ck [0, 1, 2] (az hc.hl hc.hll (n := 3) (by omega) (by omega)) rfl rfl rfl rfl rfl rfl rfl ⟨⟨rfl, rfl⟩, rfl⟩ ?_
    rintro _ ⟨q, rfl, q1, q2⟩
    obtain ⟨j, y, rfl, hy, hyl⟩ := dr (l := una3) (p := fun s => aE s unL = true) (by decide) q1 q2
    refine G (T := T) 134 rfl ?_
    refine Ix (T := T) (rows := una3.map bM) j (ab hy) rfl rfl rfl rfl ⟨rfl, rfl⟩ rfl rfl ?_
    refine G (T := T) 1000 rfl ?_
    rw [one hd]
    refine Ck [0, 1, 2] (ih (d + 1) (by omega) (by omega) c hc) rfl rfl rfl rfl rfl rfl rfl ⟨⟨rfl, rfl⟩, rfl⟩ ?_
    rintro _ ⟨e, rfl, he⟩
    refine G (T := T) 1000 rfl ?_
    exact Fm (T := T) id (xd (exD (.mk 12 y 0 [e]))) (mkB c) (fin (eg_un hyl he) (by omega)) rfl
  refine Gs (T := T) 1000 rfl ?_
  refine If rfl (fun h => ?_) (fun h => ?_)
  · obtain ⟨d, hd, s1, s2, s3⟩ := big (by have := of_decide_eq_true h; omega)
    refine G (T := T) 100022 rfl ?_
    refine Ods (T := T) [0, 1, 5, 6, 7, 2, 3, 4, 8, 9, 10, 11] rfl ?_
    refine G (T := T) 1000 rfl ?_
    refine Ck [0, 1, 2] (az hc.hl hc.hll (n := 3) (by omega) (by omega)) rfl rfl rfl rfl rfl rfl rfl ⟨⟨rfl, rfl⟩, rfl⟩ ?_
    rintro _ ⟨q, rfl, q1, q2⟩
    obtain ⟨j, y, rfl, hy, hyl⟩ := dr (l := cas3) (p := fun s => aE s castL = true) (by decide) q1 q2
    refine G (T := T) 148 rfl ?_
    refine Ix (T := T) (rows := cas3.map bM) j (ab hy) rfl rfl rfl rfl ⟨rfl, rfl⟩ rfl rfl ?_
    refine G (T := T) 1000 rfl ?_
    rw [one hd]
    refine Ck [0, 1, 2] (ih (d + 1) (by omega) (by omega) c hc) rfl rfl rfl rfl rfl rfl rfl ⟨⟨rfl, rfl⟩, rfl⟩ ?_
    rintro _ ⟨e, rfl, he⟩
    refine G (T := T) 1000 rfl ?_
    exact Fm (T := T) id (xd (exD (.mk 15 y 0 [e]))) (mkB c) (fin (eg_cast hyl he) (by omega)) rfl
  refine G (T := T) 100023 rfl ?_
  refine Cu [0, 1, 4, 5] (fun (_ : Unit) r => (156, xb (decide (k = 11) && decide ((c.me : Int) + 1 < ((c.fs.map fuD).length : Int)))) :: r) (fun _ => mkB c ++ [ex0 3]) 4 (fun _ => True) rfl ?_ ?_
  · refine G (T := T) 160 rfl ?_
    refine Sp 159 rfl (fun h => ?_) (fun h => ?_)
    · refine G (T := T) 1000 rfl ?_
      rw [h, Bool.true_and]
      exact Dn () trivial
    · refine G (T := T) 1000 rfl ?_
      rw [h, Bool.false_and]
      exact Dn () trivial
  rintro _ -
  have hcon := oE (pk := pk) hc.hl hc.hll
  refine If rfl (fun h => ?_) (fun h => ?_)
  · have h9 := (Bool.and_eq_true_iff.1 h).2
    obtain ⟨d, hd, s1, s2, s3⟩ := big (by have := of_decide_eq_true (Bool.and_eq_true_iff.1 h).1; omega)
    have hlen := of_decide_eq_true h9
    have hlen2 := hlen
    rw [List.length_map] at hlen2
    refine G (T := T) 100024 rfl ?_
    refine Ods (T := T) [0, 1, 2, 3, 4, 5, 6, 7, 8, 9, 10, 11, 12, 13, 14, 15, 16, 17, 18, 19, 20, 25, 21, 22, 23, 24, 26] rfl ?_
    refine G (T := T) 1000 rfl ?_
    refine Ck [0, 1, 2] (az hc.hl hc.hll (n := ((c.fs.map fuD).length : Int) - (c.me : Int) - 1) (by omega) (by rw [List.length_map]; omega)) rfl rfl rfl rfl rfl rfl rfl ⟨⟨rfl, rfl⟩, rfl⟩ ?_
    rintro _ ⟨q, rfl, q1, q2⟩
    rw [List.length_map] at q2
    obtain ⟨j, rfl⟩ := Int.eq_ofNat_of_zero_le q1
    obtain ⟨f, hf9⟩ := ah (l := c.fs) (j := c.me + 1 + j) (by omega)
    have hF := hc.hf f (List.mem_of_getElem? hf9)
    refine G (T := T) 195 rfl ?_
    refine Ix (T := T) (c.me + 1 + j) (ab hf9) rfl rfl rfl rfl ⟨rfl, rfl⟩ (by push_cast; rfl) rfl ?_
    refine G (T := T) 100025 rfl ?_
    refine (FzTo.bz 4 rfl).c ?_
    refine G (T := T) 1000 rfl ?_
    refine If rfl (fun h => ?_) (fun h => ?_)
    · refine G (T := T) 1000 rfl ?_
      subst hd
      refine Ck [0, 1, 2] (mk_call (ih (d + 1) (by omega) (by omega)) (by omega) hc hF) rfl rfl rfl rfl rfl rfl rfl ⟨⟨rfl, rfl⟩, rfl⟩ ?_
      rintro _ ⟨e, rfl, he⟩
      refine G (T := T) 1000 rfl ?_
      exact Fm (T := T) id (xd (exD e)) (mkB c) (fin he.1 (by omega)) rfl
    · refine G (T := T) 1000 rfl ?_
      refine Ck [0, 1, 2] hcon rfl rfl rfl rfl rfl rfl rfl ⟨⟨rfl, rfl⟩, rfl⟩ ?_
      rintro _ ⟨e, rfl, he⟩
      refine G (T := T) 1000 rfl ?_
      exact Fm (T := T) id (xd (exD e)) (mkB c) (fin he (by omega)) rfl
  refine G (T := T) 1000 rfl ?_
  refine If rfl (fun h => ?_) (fun h => ?_)
  · obtain ⟨d, hd, s1, s2, s3⟩ := big (by have := of_decide_eq_true h; omega)
    refine G (T := T) 100028 rfl ?_
    refine Op 0 4 rfl rfl ?_
    rintro _ ⟨nd3, rfl⟩
    refine ⟨_, _, rfl, rfl, ?_⟩
    refine G (T := T) 213 rfl ?_
    refine Sw rfl rfl rfl ⟨rfl, rfl⟩ ?_
    refine G (T := T) 100029 rfl ?_
    refine (SRto.wk 0 4 ndP rfl rfl rfl rfl ⟨_, rfl⟩).c ?_
    refine G (T := T) 1000 rfl ?_
    refine Ck [0, 1, 2] (az hc.hl hc.hll (n := 2) (by omega) (by omega)) rfl rfl rfl rfl rfl rfl rfl ⟨⟨rfl, rfl⟩, rfl⟩ ?_
    rintro _ ⟨q, rfl, q1, q2⟩
    obtain ⟨j, y, rfl, hy, hyl⟩ := dr (l := div2) (p := fun s => aE s opsL = true) (by decide) q1 q2
    refine G (T := T) 219 rfl ?_
    refine Ix (T := T) (rows := div2.map bM) j (ab hy) rfl rfl rfl rfl ⟨rfl, rfl⟩ rfl rfl ?_
    refine G (T := T) 1000 rfl ?_
    rw [one hd]
    refine Ck [0, 1, 2] (ih (d + 1) (by omega) (by omega) c hc) rfl rfl rfl rfl rfl rfl rfl ⟨⟨rfl, rfl⟩, rfl⟩ ?_
    rintro _ ⟨e, rfl, he⟩
    refine G (T := T) 100031 rfl ?_
    refine (FzTo.bz 4 rfl).c ?_
    refine G (T := T) 1000 rfl ?_
    refine Ck [0, 1, 2] (az hc.hl hc.hll (n := 8) (by omega) (by omega)) rfl rfl rfl rfl rfl rfl rfl ⟨⟨rfl, rfl⟩, rfl⟩ ?_
    rintro _ ⟨q8, rfl, _, _⟩
    refine G (T := T) 1000 rfl ?_
    refine If rfl (fun h => ?_) (fun h => ?_)
    · refine G (T := T) 1000 rfl ?_
      rw [one hd]
      refine Ck [0, 1, 2] (ih (d + 1) (by omega) (by omega) c hc) rfl rfl rfl rfl rfl rfl rfl ⟨⟨rfl, rfl⟩, rfl⟩ ?_
      rintro _ ⟨e2, rfl, he2⟩
      refine G (T := T) 1000 rfl ?_
      refine Cq (aM y e e2) rfl rfl rfl rfl rfl ⟨rfl, rfl⟩ ?_
      refine G (T := T) 1000 rfl ?_
      exact Fm (T := T) id (xd (exD (eN y e e2))) (mkB c) (fin (eQ hyl he he2) (by omega)) rfl
    · refine G (T := T) 1000 rfl ?_
      rw [show ((D : Nat) : Int) - 2 = ((d : Nat) : Int) by omega]
      refine Ck [0, 1, 2] (ih d (by omega) (by omega) c hc) rfl rfl rfl rfl rfl rfl rfl ⟨⟨rfl, rfl⟩, rfl⟩ ?_
      rintro _ ⟨e2, rfl, he2⟩
      refine G (T := T) 1000 rfl ?_
      refine Cq (ay (n := 1) (by omega) (by omega)) rfl rfl rfl rfl rfl ⟨rfl, rfl⟩ ?_
      refine G (T := T) 1000 rfl ?_
      refine Cq (aM ⟨#[124]⟩ e2 (bI 1)) rfl rfl rfl rfl rfl ⟨rfl, rfl⟩ ?_
      refine G (T := T) 1000 rfl ?_
      refine Cq (aM y e (eN ⟨#[124]⟩ e2 (bI 1))) rfl rfl rfl rfl rfl ⟨rfl, rfl⟩ ?_
      refine G (T := T) 1000 rfl ?_
      exact Fm (T := T) id (xd (exD (eN y e (eN ⟨#[124]⟩ e2 (bI 1))))) (mkB c) (fin (eQ hyl he (eQ (by decide) he2 (fS (by omega) (by omega)))) (by omega)) rfl
  refine G (T := T) 1000 rfl ?_
  refine If rfl (fun h => ?_) (fun h => ?_)
  · obtain ⟨d, hd, s1, s2, s3⟩ := big (by have := of_decide_eq_true h; omega)
    refine G (T := T) 1000 rfl ?_
    refine Ck [0, 1, 2] (az hc.hl hc.hll (n := 16) (by omega) (by omega)) rfl rfl rfl rfl rfl rfl rfl ⟨⟨rfl, rfl⟩, rfl⟩ ?_
    rintro _ ⟨q, rfl, q1, q2⟩
    obtain ⟨j, y, rfl, hy, hyl⟩ := dr (l := bin16) (p := fun s => aE s opsL = true) (by decide) q1 q2
    refine G (T := T) 253 rfl ?_
    refine Ix (T := T) (rows := bin16.map bM) j (ab hy) rfl rfl rfl rfl ⟨rfl, rfl⟩ rfl rfl ?_
    refine G (T := T) 1000 rfl ?_
    rw [one hd]
    refine Ck [0, 1, 2] (ih (d + 1) (by omega) (by omega) c hc) rfl rfl rfl rfl rfl rfl rfl ⟨⟨rfl, rfl⟩, rfl⟩ ?_
    rintro _ ⟨e, rfl, he⟩
    refine G (T := T) 100038 rfl ?_
    refine (FzTo.bz 4 rfl).c ?_
    refine G (T := T) 1000 rfl ?_
    rw [one hd]
    refine Ck [0, 1, 2] (ih (d + 1) (by omega) (by omega) c hc) rfl rfl rfl rfl rfl rfl rfl ⟨⟨rfl, rfl⟩, rfl⟩ ?_
    rintro _ ⟨e2, rfl, he2⟩
    refine G (T := T) 1000 rfl ?_
    refine Cq (aM y e e2) rfl rfl rfl rfl rfl ⟨rfl, rfl⟩ ?_
    refine G (T := T) 1000 rfl ?_
    exact Fm (T := T) id (xd (exD (eN y e e2))) (mkB c) (fin (eQ hyl he he2) (by omega)) rfl
  refine G (T := T) 1000 rfl ?_
  refine Ck [0, 1, 2] hcon rfl rfl rfl rfl rfl rfl rfl ⟨⟨rfl, rfl⟩, rfl⟩ ?_
  rintro _ ⟨e, rfl, he⟩
  refine G (T := T) 1000 rfl ?_
  exact Fm (T := T) id (xd (exD e)) (mkB c) (fin he (by omega)) rfl
end
section
open Go Go.RowKit Go.Proofs K
variable {pk : Pk}
def dg1 (n : Nat) : UInt8 := UInt8.ofNat (48 + n)
def vN (n : Nat) : ByteArray := ⟨#[118, dg1 n]⟩
def lN (n : Nat) : ByteArray := ⟨#[76, dg1 n]⟩
theorem vN_loc : ∀ n, 1 ≤ n → n ≤ 9 → dL (vN n) = true := by
  intro n h1 h2
  have : ∀ n : Nat, n ≤ 9 → 1 ≤ n → dL (vN n) = true := by decide +kernel
  exact this n h2 h1
theorem lN_id : ∀ n, n ≤ 9 → aj (lN n) = true := by decide +kernel
theorem iA {n : Nat} (h : n < 10) : XQ Tryz.prog pk 153 [xi (n : Nat)] (xs ⟨#[dg1 n]⟩) := by
  refine XQ.en Tryz.func153 Tryz.ntmps153 (fun w0 own H V v0 hf => ?_)
  have t1 : 0 ≤ (n : Int).tmod 10 ∧ (n : Int).tmod 10 < 10 := ⟨Int.tmod_nonneg 10 (Int.natCast_nonneg n), Int.tmod_lt_of_pos (n : Int) (by omega)⟩
  refine G (T := T) 9 rfl ?_
  rw [pA n, Nat.mod_eq_of_lt h]
  refine Cd (T := T) [dg1 n] rfl rfl rfl rfl rfl rfl ⟨rfl, rfl⟩ ?_
  refine G (T := T) 1000 rfl ?_
  refine IfT rfl (decide_eq_true (by omega)) ?_
  refine G (T := T) 1000 rfl ?_
  exact Fe (T := T) rfl rfl
theorem oJ {c : KC} (h : c.mn < 8) : XS' Tryz.prog pk 116 [pm] (mkB c) 3 (fun _ : Unit => True) (fun _ => xs (vN (c.mn + 1))) (fun _ => mkQ c.l c.fs c.tn c.me c.vars c.labels c.lf (c.mn + 1) c.ct 0 0) := by
  refine XM.en Tryz.func116 Tryz.ntmps116 (fun w0 own H V v0 hf => ?_)
  refine G (T := T) 1000 rfl ?_
  refine Cq (iA (n := c.mn + 1) (by omega)) rfl rfl rfl rfl rfl ⟨rfl, rfl⟩ ?_
  refine G (T := T) 1000 rfl ?_ ⟨by show 1 + 1 ≤ 9223372036854775807; omega, trivial⟩
  exact Fm (T := T) id (xs (vN (c.mn + 1))) (mkQ c.l c.fs c.tn c.me c.vars c.labels c.lf (c.mn + 1) c.ct 0 0) ⟨(), trivial, rfl, rfl⟩ rfl
def outS (n : Int) (e : Ex) : Sm := .mk 11 eS ty4z n [e] [] [] []
theorem mg {c : KC} (hc : c.ok) : XKp Tryz.prog pk 123 [pm] (mkB c) 3 (fun r => ∃ s, r = xd (smD s) ∧ SG (SB 4 + 2) s) := by
  refine XM.en Tryz.func123 Tryz.ntmps123 (fun w0 own H V v0 hf => ?_)
  refine G (T := T) 1000 rfl ?_
  refine Ck [0, 1, 2] (az hc.hl hc.hll (n := 9) (by omega) (by omega)) rfl rfl rfl rfl rfl rfl rfl ⟨⟨rfl, rfl⟩, rfl⟩ ?_
  rintro _ ⟨q, rfl, q1, q2⟩
  refine G (T := T) 7 rfl ?_
  rw [kL (n := 1 + q) (by omega) (by omega)]
  refine G (T := T) 1000 rfl ?_
  refine Ck [0, 1, 2] (bQ 4 (by omega) c hc) rfl rfl rfl rfl rfl rfl rfl ⟨⟨rfl, rfl⟩, rfl⟩ ?_
  rintro _ ⟨e, rfl, he⟩
  refine G (T := T) 1000 rfl ?_
  exact Fm (T := T) id (xd (smD (outS (1 + q) e))) (mkB c) ⟨⟨_, rfl, (sg_out (by omega) (by omega) he).mono (by omega)⟩, rfl⟩ rfl
theorem mk_giving {c : KC} (hc : c.ok) : XKp Tryz.prog pk 122 [pm] (mkB c) 3 (fun r => ∃ s, r = xd (smD s) ∧ SG (SB 3 + 2) s) := by
  obtain ⟨f, hf9⟩ := ah (l := c.fs) (j := c.me) hc.hme
  have hme := hc.hme
  have hfl := hc.hfl
  refine XM.en Tryz.func122 Tryz.ntmps122 (fun w0 own H V v0 hf => ?_)
  refine G (T := T) 13 rfl ?_
  refine Ix (T := T) c.me (ab hf9) rfl rfl rfl rfl ⟨rfl, rfl⟩ rfl rfl ?_
  refine G (T := T) 1000 rfl ?_
  refine If rfl (fun h => ?_) (fun h => ?_)
  · refine G (T := T) 1000 rfl ?_
    refine Ck [0, 1, 2] (bQ 3 (by omega) c hc) rfl rfl rfl rfl rfl rfl rfl ⟨⟨rfl, rfl⟩, rfl⟩ ?_
    rintro _ ⟨e, rfl, he⟩
    refine G (T := T) 1000 rfl ?_
    exact Fm (T := T) id (xd (smD (.mk 10 eS ty4z 0 [e] [] [] []))) (mkB c) ⟨⟨_, rfl, (sg_ret (by simp) (EGs.one he)).mono (by omega)⟩, rfl⟩ rfl
  · refine G (T := T) 1000 rfl ?_
    exact Fm (T := T) id (xd (smD (.mk 10 eS ty4z 0 [] [] [] []))) (mkB c) ⟨⟨_, rfl, (sg_ret (by simp) EGs.nil).mono (by omega)⟩, rfl⟩ rfl
end
section
open Go Go.RowKit Go.Proofs K
variable {pk : Pk}
structure KV where
  vars : List ByteArray
  lf : Nat
  mn : Nat
  ct : Nat
structure KI (V : Nat) (v : KV) : Prop where
  hv : ∀ s ∈ v.vars, dL s = true
  vl : v.vars.length + v.lf ≤ V
  m8 : v.mn ≤ 8
  cl : v.ct + v.lf ≤ 8
  V5 : V ≤ 500
abbrev KW (c : KC) (v : KV) (lab : List ByteArray) : KC := ⟨c.l, c.fs, c.tn, c.me, v.vars, lab, v.lf, v.mn, v.ct⟩
theorem KC.ok.kw {c : KC} (h : c.ok) {V : Nat} {v : KV} (k : KI V v) {lab : List ByteArray} (h1 : ∀ s ∈ lab, aj s = true) (h2 : lab.length ≤ 1000) : (KW c v lab).ok := ⟨h.hl, h.hll, k.hv, by have := k.vl; have := k.V5; show v.vars.length ≤ 1000; omega, h.hme, h.hfl, h.hf, h.htn, h1, h2⟩
abbrev StC (pk : Pk) (f : FuncId) (args : List XV) (c : KC) (V B : Nat) : Prop := XS' Tryz.prog pk f args (mkB c) 3 (fun a : KV × List Sm => KI V a.1 ∧ SGs B a.2) (fun a => xr (a.2.map smD)) (fun a => mkQ c.l c.fs c.tn c.me a.1.vars c.labels a.1.lf a.1.mn a.1.ct 1 1)
def kR (pk : Pk) (k : Nat) : Prop := ∀ (c : KC) (V deep : Nat), c.ok → KI V ⟨c.vars, c.lf, c.mn, c.ct⟩ → deep + k = 4 → c.labels.length + k ≤ 8 → StC pk 68 [pm, xi (deep : Nat)] c V (ZB k)
theorem gM (l : List Sm) : ∀ r ∈ l.map smD, r.length = 11 := fun r hr => by
  obtain ⟨s, _, rfl⟩ := List.mem_map.1 hr
  rfl
theorem SGs.len {B : Nat} {l : List Sm} (h : SGs B l) : l.length ≤ B := Nat.le_trans (Sm.len_le l) h.s
def downS (n : ByteArray) : Sm := .mk 2 eS ty4z 0 [av n, eN ⟨#[45]⟩ (av n) (bI 1)] [] [] []
def letS (n : ByteArray) (k : Int) (e : Ex) : Sm := .mk 1 n (.mk k eS 0 []) 0 [e] [] [] []
def whiS (l n : ByteArray) (b : List Sm) : Sm := .mk 4 l ty4z 0 [av n] b [] []
def jmp2 : List Int := [7, 8]
def jumpS (k : Int) (l : ByteArray) : Sm := .mk k l ty4z 0 [] [] [] []
def ifS (e : Ex) (b el : List Sm) : Sm := .mk 3 eS ty4z 0 [e] b el []
theorem jmp2_get {q : Int} (h0 : 0 ≤ q) (h1 : q < 2) : ∃ j k, q = ((j : Nat) : Int) ∧ jmp2[j]? = some k ∧ (k = 7 ∨ k = 8) := by
  obtain ⟨j, rfl⟩ := Int.eq_ofNat_of_zero_le h0
  have : j = 0 ∨ j = 1 := by omega
  rcases this with rfl | rfl
  · exact ⟨0, 7, rfl, rfl, .inl rfl⟩
  · exact ⟨1, 8, rfl, rfl, .inr rfl⟩
theorem tyk_G {k : Int} (h : k = 1 ∨ k = 2 ∨ k = 3) : rTy (.mk k eS 0 []) = true ∧ (Ty4.mk k eS 0 []).ok ∧ (Ty4.mk k eS 0 []).size ≤ 1 := by
  refine ⟨by rcases h with rfl | rfl | rfl <;> rfl, ⟨⟨by omega, by omega⟩, by decide, ⟨by omega, by omega⟩, trivial⟩, by simp [Ty4.size, Ty4.sizes]⟩
theorem nH {n : ByteArray} (h : dL n = true) : SG 6 (downS n) := (sg_asg (A := 1) (B := 3) ⟨iw h, rfl⟩ (eQ (by decide) (iw h) (fS (by omega) (by omega)))).mono (by omega)
abbrev smB (g : Nat) (k : Int) (nm : ByteArray) (xs : XC) (b : XC) : XB := ⟨g, 0, .cells [.d (.c (.int .i64 k)), .d (.c (.string nm)), .d (.c (.int .i64 0)), .d (.c (.string eS)), .d (.c (.int .i64 0)), .z, .d (.c (.int .u16 0)), xs, b, .z, .z] 66⟩
theorem pI {k : Nat} (ih : kR pk k) (hk : k ≤ 3) {c : KC} {V deep : Nat} (hc : c.ok) (hI : KI V ⟨c.vars, c.lf, c.mn, c.ct⟩) (hV : c.vars.length + c.lf + 1 ≤ V) (hC : c.ct + c.lf + 1 ≤ 8) (h8 : c.mn < 8) (hd : deep + 1 + k = 4) (hlab : c.labels.length + k + 1 ≤ 8) :
    StC pk 119 [pm, xi (deep : Nat)] c V (ZB k + 2400) := by
  have hz := ZB_le (k := k) (by omega)
  have hV5 := hI.V5
  have hvn := vN_loc (c.mn + 1) (by omega) (by omega)
  refine XM.en Tryz.func119 Tryz.ntmps119 (fun w0 own H V' v0 hf => ?_)
  refine G (T := T) 1000 rfl ?_
  refine Cx' [0, 1, 2] (fun _ => mkQ c.l c.fs c.tn c.me c.vars c.labels c.lf (c.mn + 1) c.ct 0 0) (oJ h8) rfl rfl rfl rfl rfl rfl rfl ⟨⟨rfl, rfl⟩, rfl⟩ (fun _ => rfl) (fun _ => rfl) ?_
  rintro _ -
  refine G (T := T) 1000 rfl ?_
  refine Cq (ai (vN (c.mn + 1))) rfl rfl rfl rfl rfl ⟨rfl, rfl⟩ ?_
  refine G (T := T) 100003 rfl ?_
  refine (FzTo.bz 3 rfl).c ?_
  generalize hN : vN (c.mn + 1) = N at hvn ⊢
  have hc1 : ({ c with mn := c.mn + 1 } : KC).ok := ⟨hc.hl, hc.hll, hc.hv, hc.hvl, hc.hme, hc.hfl, hc.hf, hc.htn, hc.hlb, hc.hlbl⟩
  refine G (T := T) 1000 rfl ?_
  refine Ck [0, 1, 2] (az hc1.hl hc1.hll (n := 5) (by omega) (by omega)) rfl rfl rfl rfl rfl rfl rfl ⟨⟨rfl, rfl⟩, rfl⟩ ?_
  rintro _ ⟨q, rfl, q1, q2⟩
  refine G (T := T) 1000 rfl ?_
  refine Cq (ay (n := q) q1 (by omega)) rfl rfl rfl rfl rfl ⟨rfl, rfl⟩ ?_
  refine G (T := T) 100004 rfl ?_
  refine (FzTo.bz 4 rfl).c ?_
  refine G (T := T) 1000 rfl ?_
  refine Cq (ay (n := 1) (by omega) (by omega)) rfl rfl rfl rfl rfl ⟨rfl, rfl⟩ ?_
  refine G (T := T) 1000 rfl ?_
  refine Cq (aM ⟨#[45]⟩ (av N) (bI 1)) rfl rfl rfl rfl rfl ⟨rfl, rfl⟩ ?_
  refine G (T := T) 100006 rfl ?_
  refine (FzTo.bz 6 rfl).c ?_
  refine G (T := T) 1000 rfl ?_
  refine Ck [0, 1, 2] (az hc1.hl hc1.hll (n := 2) (by omega) (by omega)) rfl rfl rfl rfl rfl rfl rfl ⟨⟨rfl, rfl⟩, rfl⟩ ?_
  rintro _ ⟨q2', rfl, _, _⟩
  refine G (T := T) 1000 rfl ?_
  refine Cf [0, 5, 7, 8] (fun (_ : ByteArray × KV × Nat × List (List D) × List Sm) r => r) (fun a => mkQ c.l c.fs c.tn c.me a.2.1.vars c.labels a.2.1.lf a.2.1.mn a.2.1.ct 1 1 ++ [smB 5 4 a.1 (.d (.s [exD (av N)])) (.l 7 1 11 0 a.2.2.1 a.2.2.1), ⟨7, 1, .row a.2.2.1 a.2.2.2.1 66 11⟩]) 8 (fun a => a.2.2.1 = a.2.2.2.2.length ∧ a.2.2.2.1 = a.2.2.2.2.map smD ∧ (a.1 = eS ∨ aj a.1 = true) ∧ KI (V - 1) a.2.1 ∧ SGs (ZB k + 2300) a.2.2.2.2) rfl ?_ ?_
  · refine If rfl (fun h => ?_) (fun h => ?_)
    · refine G (T := T) 1000 rfl ?_
      refine Cq (iA (n := c.ct + 1) (by omega)) rfl rfl rfl rfl rfl ⟨rfl, rfl⟩ ?_
      have hln := lN_id (c.ct + 1) (by omega)
      refine G (T := T) 47 rfl ?_ ⟨by show 1 + 1 ≤ 9223372036854775807; omega, trivial⟩
      rw [show (⟨#[76]⟩ : ByteArray) ++ ⟨#[dg1 (c.ct + 1)]⟩ = lN (c.ct + 1) from rfl]
      generalize lN (c.ct + 1) = L at hln ⊢
      refine G (T := T) 60 rfl ?_
      have e1 : c.labels.map bM ++ [[D.c (.string L)]] = (c.labels ++ [L]).map bM := by rw [List.map_append]; rfl
      have e2 : c.labels.length + 1 = (c.labels ++ [L]).length := by simp
      rw [e1, e2]
      have hlb : ∀ s ∈ c.labels ++ [L], aj s = true := fun s hs => by
        rcases List.mem_append.1 hs with hs | hs
        · exact hc.hlb s hs
        · rw [List.mem_singleton.1 hs]; exact hln
      have hll2 : (c.labels ++ [L]).length ≤ 1000 := by rw [← e2]; omega
      refine Br (T := T) rfl rfl rfl rfl rfl ⟨rfl, rfl⟩ ?_
      refine G (T := T) 1000 rfl ?_
      have hI0 : KI (V - 1) ⟨c.vars, c.lf, c.mn + 1, c.ct + 1⟩ := ⟨hI.hv, by show c.vars.length + c.lf ≤ _; omega, by show c.mn + 1 ≤ 8; omega, by show c.ct + 1 + c.lf ≤ 8; omega, by omega⟩
      refine Cx' [0, 1, 2] (fun a => mkQ c.l c.fs c.tn c.me a.1.vars (c.labels ++ [L]) a.1.lf a.1.mn a.1.ct 1 2) (ih (KW c ⟨c.vars, c.lf, c.mn + 1, c.ct + 1⟩ (c.labels ++ [L])) (V - 1) (deep + 1) (hc.kw hI0 hlb hll2) hI0 hd (by show (c.labels ++ [L]).length + k ≤ 8; omega)) rfl rfl rfl rfl rfl rfl rfl ⟨⟨rfl, rfl⟩, rfl⟩ (fun _ => rfl) (fun _ => rfl) ?_
      rintro ⟨v, ss⟩ ⟨hI2, hS⟩; dsimp only at hI2 hS ⊢
      have hlen := hS.len
      have hmap : (ss.map smD).length = ss.length := List.length_map ..
      have hc2 := hc.kw hI2 hlb hll2
      refine G (T := T) 65 rfl ?_
      refine Ap (T := T) rfl (gM ss) rfl rfl rfl rfl rfl rfl ⟨rfl, rfl⟩ (by rw [List.length_map]; omega) (by rw [List.length_map]; omega) ?_
      refine G (T := T) 1000 rfl ?_
      refine Ck [0, 1, 2] (az (c := KW c v (c.labels ++ [L])) hc2.hl hc2.hll (n := 2) (by omega) (by omega)) rfl rfl rfl rfl rfl rfl rfl ⟨⟨rfl, rfl⟩, rfl⟩ ?_
      rintro _ ⟨q3, rfl, _, _⟩
      refine G (T := T) 1000 rfl ?_
      refine Cf [0, 5, 7, 8] (fun (_ : Nat × List (List D) × List Sm) r => r) (fun a => mkQ c.l c.fs c.tn c.me v.vars (c.labels ++ [L]) v.lf v.mn v.ct 1 1 ++ [smB 5 4 L (.d (.s [exD (av N)])) (.l 7 1 11 0 a.1 a.1), ⟨7, 1, .row a.1 a.2.1 66 11⟩]) 8 (fun a => a.1 = a.2.2.length ∧ a.2.1 = a.2.2.map smD ∧ SGs (ZB k + 2300) a.2.2) rfl ?_ ?_
      · refine If rfl (fun h => ?_) (fun h => ?_)
        · refine G (T := T) 100012 rfl ?_
          refine Ods (T := T) [0, 1, 5, 6, 8, 2, 3, 4, 7, 9] rfl ?_
          refine G (T := T) 1000 rfl ?_
          refine Ck [0, 1, 2] (az (c := KW c v (c.labels ++ [L])) hc2.hl hc2.hll (n := 2) (by omega) (by omega)) rfl rfl rfl rfl rfl rfl rfl ⟨⟨rfl, rfl⟩, rfl⟩ ?_
          rintro _ ⟨q4, rfl, q41, q42⟩
          obtain ⟨j, jk, rfl, hj, hjk⟩ := jmp2_get q41 q42
          refine G (T := T) 73 rfl ?_
          refine Ix (T := T) (rows := jmp2.map iu) j (ab hj) rfl rfl rfl rfl ⟨rfl, rfl⟩ rfl rfl ?_
          refine G (T := T) 100013 rfl ?_
          refine (FzTo.bz 8 rfl).c ?_
          refine Ods (T := T) [0, 1, 2, 5, 6, 3, 4, 7, 8, 9, 10, 11] rfl ?_
          refine G (T := T) 1000 rfl ?_
          refine Ck [0, 1, 2] (bQ 2 (by omega) _ hc2) rfl rfl rfl rfl rfl rfl rfl ⟨⟨rfl, rfl⟩, rfl⟩ ?_
          rintro _ ⟨e, rfl, he⟩
          refine G (T := T) 1000 rfl ?_
          refine Ck [0, 1, 2] (mg hc2) rfl rfl rfl rfl rfl rfl rfl ⟨⟨rfl, rfl⟩, rfl⟩ ?_
          rintro _ ⟨s, rfl, hs⟩
          refine G (T := T) 1000 rfl ?_
          refine Dn (_, _, ((downS N :: ss) ++ [ifS e [jumpS jk L] []]) ++ [s]) ⟨?_, ?_, (((SGs.cons (nH hvn) hS).snoc (l7 he (SGs.one (nE hjk hln)) SGs.nil)).snoc hs).mono (by rw [SB2, SB4]; omega)⟩ ⟨⟨_, _, rfl, rfl⟩, rfl, rfl⟩
          · dsimp only; rw [List.length_map, List.length_append, List.length_append, List.length_cons]; simp only [List.length_cons, List.length_nil]; omega
          · dsimp only; rw [List.map_append, List.map_append]; rfl
        · refine G (T := T) 1000 rfl ?_
          refine Dn (_, _, downS N :: ss) ⟨?_, ?_, (SGs.cons (nH hvn) hS).mono (by omega)⟩ ⟨⟨_, _, rfl, rfl⟩, rfl, rfl⟩
          · dsimp only; rw [List.length_map, List.length_cons]; omega
          · rfl
      rintro ⟨n, R, bs⟩ ⟨hn9, hR9, hS3⟩; dsimp only at hn9 hR9 hS3 ⊢; subst hn9 hR9
      refine G (T := T) 107 rfl ?_
      refine Po (T := T) c.labels.length rfl rfl rfl rfl rfl rfl ⟨rfl, rfl⟩ (by rw [← e2]; omega) (by rw [← e2]; omega) rfl rfl ?_
      rw [show ((c.labels ++ [L]).map bM).take c.labels.length = c.labels.map bM by simp]
      refine G (T := T) 1000 rfl ?_
      exact Dn (L, v, _, _, bs) ⟨rfl, rfl, .inr hln, hI2, hS3⟩
    · refine G (T := T) 111 rfl ?_
      refine Br (T := T) rfl rfl rfl rfl rfl ⟨rfl, rfl⟩ ?_
      refine G (T := T) 1000 rfl ?_
      refine Cx' [0, 1, 2] (fun a => mkQ c.l c.fs c.tn c.me a.1.vars c.labels a.1.lf a.1.mn a.1.ct 1 1) (ih (KW c ⟨c.vars, c.lf, c.mn + 1, c.ct⟩ c.labels) (V - 1) (deep + 1) hc1 ⟨hI.hv, by show c.vars.length + c.lf ≤ _; omega, by show c.mn + 1 ≤ 8; omega, hI.cl, by omega⟩ hd (by show c.labels.length + k ≤ 8; omega)) rfl rfl rfl rfl rfl rfl rfl ⟨⟨rfl, rfl⟩, rfl⟩ (fun _ => rfl) (fun _ => rfl) ?_
      rintro ⟨v, ss⟩ ⟨hI2, hS⟩; dsimp only at hI2 hS ⊢
      have hlen := hS.len
      have hmap : (ss.map smD).length = ss.length := List.length_map ..
      refine G (T := T) 116 rfl ?_
      refine Ap (T := T) rfl (gM ss) rfl rfl rfl rfl rfl rfl ⟨rfl, rfl⟩ (by rw [List.length_map]; omega) (by rw [List.length_map]; omega) ?_
      refine G (T := T) 1000 rfl ?_
      refine Dn (eS, v, _, _, downS N :: ss) ⟨?_, ?_, .inl rfl, hI2, (SGs.cons (nH hvn) hS).mono (by omega)⟩ ⟨⟨_, _, rfl, rfl⟩, rfl, rfl⟩
      · dsimp only; rw [List.length_map, List.length_cons]; omega
      · rfl
  rintro ⟨nm, v, n, R, bs⟩ ⟨hn9, hR9, hnm, hI2, hS⟩; dsimp only at hn9 hR9 hnm hI2 hS ⊢; subst hn9 hR9
  have hvl2 := hI2.vl
  have hbl := hS.len
  refine G (T := T) 100018 rfl ?_
  have e1 : v.vars.map bM ++ [[D.c (.string N)]] = (v.vars ++ [N]).map bM := by rw [List.map_append]; rfl
  have e2 : v.vars.length + 1 = (v.vars ++ [N]).length := by simp
  rw [e1, e2]
  refine Zc 7 rfl ?_
  refine G (T := T) 1000 rfl ?_
  have hT := tyk_G (k := 1) (.inl rfl)
  refine Fm (T := T) id (xr [smD (letS N 1 (bI q)), [.c (.int .i64 4), .c (.string nm), .c (.int .i64 0), .c (.string eS), .c (.int .i64 0), .s [], .c (.int .u16 0), .s [exD (av N)], .s (bs.map smD), .s [], .s []]]) (mkQ c.l c.fs c.tn c.me (v.vars ++ [N]) c.labels v.lf v.mn v.ct 1 1) ⟨(⟨v.vars ++ [N], v.lf, v.mn, v.ct⟩, [letS N 1 (bI q), whiS nm N bs]), ⟨⟨fun s hs => ?_, by show (v.vars ++ [N]).length + v.lf ≤ V; omega, hI2.m8, hI2.cl, hV5⟩, ?_⟩, ?_, rfl⟩ rfl
  · rcases List.mem_append.1 hs with hs | hs
    · exact hI2.hv s hs
    · rw [List.mem_singleton.1 hs]; exact hvn
  · exact (SGs.cons (sg_let hvn hT.1 hT.2.1 hT.2.2 (fS q1 (by omega))) (SGs.one (sg_while hnm (iw hvn) hS))).mono (by omega)
  · show _ = xr [smD (letS N 1 (bI q)), smD (whiS nm N bs)]
    rw [whiS, aJ]
    rfl
end
section
open Go Go.RowKit Go.Proofs K
variable {pk : Pk}
def blkS (k : Int) (l : ByteArray) (b : List Sm) : Sm := .mk k l ty4z 0 [] b [] []
theorem oK {k : Nat} (ih : kR pk k) (hk : k ≤ 3) {c : KC} {V deep : Nat} (hc : c.ok) (hI : KI V ⟨c.vars, c.lf, c.mn, c.ct⟩) (hC : c.ct + c.lf + 1 ≤ 8) (hd : deep + 1 + k = 4) (hlab : c.labels.length + k + 1 ≤ 8) :
    XS' Tryz.prog pk 120 [pm, xi (deep : Nat)] (mkB c) 3 (fun a : KV × Sm => KI V a.1 ∧ SG (ZB k + 700) a.2) (fun a => xd (smD a.2)) (fun a => mkQ c.l c.fs c.tn c.me a.1.vars c.labels a.1.lf a.1.mn a.1.ct 1 1) := by
  have hz := ZB_le (k := k) (by omega)
  have hV5 := hI.V5
  refine XM.en Tryz.func120 Tryz.ntmps120 (fun w0 own H V' v0 hf => ?_)
  refine G (T := T) 1000 rfl ?_
  refine Cq (iA (n := c.ct + 1) (by omega)) rfl rfl rfl rfl rfl ⟨rfl, rfl⟩ ?_
  have hln := lN_id (c.ct + 1) (by omega)
  refine G (T := T) 20 rfl ?_ ⟨by show 1 + 1 ≤ 9223372036854775807; omega, trivial⟩
  rw [show (⟨#[76]⟩ : ByteArray) ++ ⟨#[dg1 (c.ct + 1)]⟩ = lN (c.ct + 1) from rfl]
  generalize lN (c.ct + 1) = L at hln ⊢
  refine G (T := T) 100004 rfl ?_
  have e1 : c.labels.map bM ++ [[D.c (.string L)]] = (c.labels ++ [L]).map bM := by rw [List.map_append]; rfl
  have e2 : c.labels.length + 1 = (c.labels ++ [L]).length := by simp
  rw [e1, e2]
  have hlb : ∀ s ∈ c.labels ++ [L], aj s = true := fun s hs => by
    rcases List.mem_append.1 hs with hs | hs
    · exact hc.hlb s hs
    · rw [List.mem_singleton.1 hs]; exact hln
  have hll2 : (c.labels ++ [L]).length ≤ 1000 := by rw [← e2]; omega
  have hI0 : KI V ⟨c.vars, c.lf, c.mn, c.ct + 1⟩ := ⟨hI.hv, hI.vl, hI.m8, by show c.ct + 1 + c.lf ≤ 8; omega, hV5⟩
  have hc1 := hc.kw hI0 hlb hll2
  refine Ods (T := T) [0, 1, 2, 3, 4, 5, 6, 7, 8, 9, 14, 10, 11, 12, 13, 15] rfl ?_
  refine G (T := T) 1000 rfl ?_
  refine Ck [0, 1, 2] (az (c := KW c ⟨c.vars, c.lf, c.mn, c.ct + 1⟩ (c.labels ++ [L])) hc1.hl hc1.hll (n := ((c.labels ++ [L]).length : Nat)) (by omega) (by omega)) rfl rfl rfl rfl rfl rfl rfl ⟨⟨rfl, rfl⟩, rfl⟩ ?_
  rintro _ ⟨q, rfl, q1, q2⟩
  obtain ⟨j, y, rfl, hy, hyl⟩ := dr hlb q1 q2
  refine G (T := T) 43 rfl ?_
  refine Iq (T := T) j rfl rfl rfl rfl rfl ⟨rfl, rfl⟩ rfl (by omega) rfl ?_
  refine Lr (T := T) (ab hy) rfl rfl rfl rfl ⟨rfl, rfl⟩ rfl rfl ?_
  refine G (T := T) 100005 rfl ?_
  refine (FzTo.bz 5 rfl).c ?_
  refine Ods (T := T) [0, 3, 4, 1, 2, 5, 6, 7, 8] rfl ?_
  refine G (T := T) 1000 rfl ?_
  refine Ck [0, 1, 2] (bQ 3 (by omega) _ hc1) rfl rfl rfl rfl rfl rfl rfl ⟨⟨rfl, rfl⟩, rfl⟩ ?_
  rintro _ ⟨e, rfl, he⟩
  refine G (T := T) 52 rfl ?_
  refine Br (T := T) rfl rfl rfl rfl rfl ⟨rfl, rfl⟩ ?_
  refine G (T := T) 1000 rfl ?_
  refine Cx' [0, 1, 2] (fun a => mkQ c.l c.fs c.tn c.me a.1.vars (c.labels ++ [L]) a.1.lf a.1.mn a.1.ct 1 2) (ih (KW c ⟨c.vars, c.lf, c.mn, c.ct + 1⟩ (c.labels ++ [L])) V (deep + 1) hc1 hI0 hd (by show (c.labels ++ [L]).length + k ≤ 8; omega)) rfl rfl rfl rfl rfl rfl rfl ⟨⟨rfl, rfl⟩, rfl⟩ (fun _ => rfl) (fun _ => rfl) ?_
  rintro ⟨v, ss⟩ ⟨hI2, hS⟩; dsimp only at hI2 hS ⊢
  have hlen := hS.len
  have hmap : (ss.map smD).length = ss.length := List.length_map ..
  have hc2 := hc.kw hI2 hlb hll2
  refine G (T := T) 60 rfl ?_
  refine Ap (T := T) rfl (gM ss) rfl rfl rfl rfl rfl rfl ⟨rfl, rfl⟩ (by rw [List.length_map]; omega) (by rw [List.length_map]; omega) ?_
  refine G (T := T) 1000 rfl ?_
  refine Ck [0, 1, 2] (az (c := KW c v (c.labels ++ [L])) hc2.hl hc2.hll (n := 2) (by omega) (by omega)) rfl rfl rfl rfl rfl rfl rfl ⟨⟨rfl, rfl⟩, rfl⟩ ?_
  rintro _ ⟨q3, rfl, _, _⟩
  refine G (T := T) 1000 rfl ?_
  have hif : SG 516 (ifS e [jumpS 7 y] []) := (l7 he (SGs.one (nE (.inl rfl) hyl)) SGs.nil).mono (by rw [SB3]; omega)
  have hS2 := SGs.cons hif hS
  refine Cf [0, 4, 5] (fun (_ : Int × Nat × List (List D) × List Sm) r => r) (fun a => mkQ c.l c.fs c.tn c.me v.vars (c.labels ++ [L]) v.lf v.mn v.ct 1 1 ++ [smB 4 a.1 L .z (.l 6 1 11 0 a.2.1 a.2.1), ⟨6, 1, .row a.2.1 a.2.2.1 66 11⟩, smB 3 0 eS .z .z]) 7 (fun a => (a.1 = 5 ∨ a.1 = 6) ∧ a.2.1 = a.2.2.2.length ∧ a.2.2.1 = a.2.2.2.map smD ∧ SGs (ZB k + 600) a.2.2.2) rfl ?_ ?_
  · refine If rfl (fun h => ?_) (fun h => ?_)
    · refine G (T := T) 1000 rfl ?_
      refine Dn (5, _, _, (ifS e [jumpS 7 y] [] :: ss) ++ [jumpS 7 L]) ⟨.inl rfl, ?_, ?_, (hS2.snoc (nE (.inl rfl) hln)).mono (by omega)⟩ ⟨⟨_, _, rfl, rfl⟩, rfl, rfl⟩
      · dsimp only; rw [List.length_map, List.length_append, List.length_cons]; simp only [List.length_cons, List.length_nil]; omega
      · dsimp only; rw [List.map_append]; rfl
    · refine G (T := T) 1000 rfl ?_
      refine Dn (6, _, _, ifS e [jumpS 7 y] [] :: ss) ⟨.inr rfl, ?_, ?_, hS2.mono (by omega)⟩ ⟨⟨_, _, rfl, rfl⟩, rfl, rfl⟩
      · dsimp only; rw [List.length_map, List.length_cons]; omega
      · rfl
  rintro ⟨kk, n, R, bs⟩ ⟨hkk, hn9, hR9, hS3⟩; dsimp only at hkk hn9 hR9 hS3 ⊢; subst hn9 hR9
  refine G (T := T) 85 rfl ?_
  refine Po (T := T) c.labels.length rfl rfl rfl rfl rfl rfl ⟨rfl, rfl⟩ (by rw [← e2]; omega) (by rw [← e2]; omega) rfl rfl ?_
  rw [show ((c.labels ++ [L]).map bM).take c.labels.length = c.labels.map bM by simp]
  refine G (T := T) 100011 rfl ?_
  refine Zc 6 rfl ?_
  refine G (T := T) 1000 rfl ?_
  refine Fm (T := T) id (xd [.c (.int .i64 kk), .c (.string L), .c (.int .i64 0), .c (.string eS), .c (.int .i64 0), .s [], .c (.int .u16 0), .s [], .s (bs.map smD), .s [], .s []]) (mkQ c.l c.fs c.tn c.me v.vars c.labels v.lf v.mn v.ct 1 1) ⟨(v, blkS kk L bs), ⟨hI2, (sg_loop hkk hln hS3).mono (by omega)⟩, ?_, rfl⟩ rfl
  dsimp only
  rw [blkS, aJ]
  rfl
end
section
open Go Go.RowKit Go.Proofs K
variable {pk : Pk}
def knd4 : List Int := [1, 1, 2, 3]
theorem knd4_get {q : Int} (h0 : 0 ≤ q) (h1 : q < 4) : ∃ j k, q = ((j : Nat) : Int) ∧ knd4[j]? = some k ∧ (k = 1 ∨ k = 2 ∨ k = 3) := by
  obtain ⟨j, rfl⟩ := Int.eq_ofNat_of_zero_le h0
  have : j = 0 ∨ j = 1 ∨ j = 2 ∨ j = 3 := by omega
  rcases this with rfl | rfl | rfl | rfl
  · exact ⟨0, 1, rfl, rfl, .inl rfl⟩
  · exact ⟨1, 1, rfl, rfl, .inl rfl⟩
  · exact ⟨2, 2, rfl, rfl, .inr (.inl rfl)⟩
  · exact ⟨3, 3, rfl, rfl, .inr (.inr rfl)⟩
abbrev StΦ (b : Bool) (c : KC) (V B : Nat) (r : XV) (hp' : XH) : Prop := ∃ a : KV × List Sm, (KI V a.1 ∧ SGs B a.2) ∧ r = cond b (xr (a.2.map smD)) (.a (.c (.l 3 1 11 0 a.2.length a.2.length))) ∧ hp' = cond b (mkQ c.l c.fs c.tn c.me a.1.vars c.labels a.1.lf a.1.mn a.1.ct 1 1) (mkQ c.l c.fs c.tn c.me a.1.vars c.labels a.1.lf a.1.mn a.1.ct 1 1 ++ [⟨3, 1, .row a.2.length (a.2.map smD) 66 11⟩])
theorem mh (b : Bool) (k : Nat) (ih0 : ∀ j, j < k → j ≤ 3 → kR pk j) (hk : k ≤ 3) (c : KC) (V deep : Nat) (hc : c.ok) (hI : KI V ⟨c.vars, c.lf, c.mn, c.ct⟩) (hd : deep + k = 4) (hlab : c.labels.length + k ≤ 8) : XM Tryz.prog pk 68 [pm, xi (deep : Nat)] (mkB c) 3 (cond b 3 4) (StΦ b c V (ZB k)) := by
  have ih1 : 1 ≤ k → kR pk (k - 1) := fun h => ih0 (k - 1) (by omega) (by omega)
  have hpb := PB_pos k
  have hpz := PB_le k
  have hzb := ZB_le (k := k) (by omega)
  have hzp : 1 ≤ k → PB k = 4 * ZB (k - 1) + 12000 ∧ ZB (k - 1) ≤ 10000000000 ∧ deep + 1 + (k - 1) = 4 := fun h => ⟨PB_pred h, ZB_le (by omega), by omega⟩
  have hme := hc.hme
  have hfl := hc.hfl
  have hV5 := hI.V5
  have hfm : (c.fs.map fuD).length = c.fs.length := List.length_map ..
  have b2 := SB2
  have b3 := SB3
  have b4 := SB4
  refine XM.en (hm := by cases b <;> rfl) Tryz.func68 Tryz.ntmps68 (fun w0 own H V' v0 hf => ?_)
  refine G (T := T) 1000 rfl ?_
  refine Ck [0, 1, 2] (az hc.hl hc.hll (n := 4) (by omega) (by omega)) rfl rfl rfl rfl rfl rfl rfl ⟨⟨rfl, rfl⟩, rfl⟩ ?_
  rintro _ ⟨k0, rfl, k01, k02⟩
  refine G (T := T) 100003 rfl ?_
  refine (Nr 5 66 11 rfl rfl).c ?_
  refine G (T := T) 1000 rfl ?_
  refine Lq [0, 1, 6] (fun (q : Nat × KV × Nat × List (List D) × List Sm) r => (5, .a (.c (.l 3 1 11 0 q.2.2.1 q.2.2.1))) :: (7, xi (q.1 : Nat)) :: r) (fun q => mkQ c.l c.fs c.tn c.me q.2.1.vars c.labels q.2.1.lf q.2.1.mn q.2.1.ct 1 1 ++ [⟨3, 1, .row q.2.2.1 q.2.2.2.1 66 11⟩]) 4 (fun q => (q.1 : Int) ≤ 1 + k0 ∧ q.2.2.1 = q.2.2.2.2.length ∧ q.2.2.2.1 = q.2.2.2.2.map smD ∧ KI V q.2.1 ∧ SGs (q.1 * PB k) q.2.2.2.2) (fun q => 4 - q.1) (0, ⟨c.vars, c.lf, c.mn, c.ct⟩, 0, [], []) rfl ⟨by dsimp only; omega, rfl, rfl, hI, SGs.nil.mono (by omega)⟩ ?_
  rintro ⟨i, v, n, R, ss⟩ ⟨hi, hn9, hR9, hI2, hS⟩; dsimp only at hi hn9 hR9 hI2 hS ⊢; subst hn9 hR9
  have hvl := hI2.vl
  have hm8 := hI2.m8
  have hcl := hI2.cl
  have hi4 : i ≤ 4 := by omega
  have hpa := pb_all (k := k) hi4
  have hslen := hS.len
  have hmap : (ss.map smD).length = ss.length := List.length_map ..
  refine Gs (T := T) 1000 rfl ?_
  refine If rfl (fun h => ?_) (fun h => ?_)
  rotate_left
  · refine G (T := T) 100045 rfl ?_
    cases b with
    | true =>
      refine Zc 3 rfl ?_
      refine G (T := T) 1000 rfl ?_
      exact Fm (T := T) id (xr (ss.map smD)) (mkQ c.l c.fs c.tn c.me v.vars c.labels v.lf v.mn v.ct 1 1) ⟨(v, ss), ⟨hI2, hS.mono (by omega)⟩, rfl, rfl⟩ rfl
    | false =>
      refine G (T := T) 1000 rfl ?_
      exact Fm (T := T) id (.a (.c (.l 3 1 11 0 ss.length ss.length))) (mkQ c.l c.fs c.tn c.me v.vars c.labels v.lf v.mn v.ct 1 1 ++ [⟨3, 1, .row ss.length (ss.map smD) 66 11⟩]) ⟨(v, ss), ⟨hI2, hS.mono (by omega)⟩, rfl, rfl⟩ rfl
  · have hi1 := of_decide_eq_true (Bool.and_eq_true_iff.1 h).1
    have hlf := of_decide_eq_true (Bool.and_eq_true_iff.1 h).2
    refine G (T := T) 200001 rfl ?_
    refine Cf [0, 1, 6, 7] (fun (q : KV × Nat × List (List D) × List Sm) r => (5, .a (.c (.l 3 1 11 0 q.2.1 q.2.1))) :: r) (fun q => mkQ c.l c.fs c.tn c.me q.1.vars c.labels q.1.lf q.1.mn q.1.ct 1 1 ++ [⟨3, 1, .row q.2.1 q.2.2.1 66 11⟩]) 4 (fun q => q.2.1 = q.2.2.2.length ∧ q.2.2.1 = q.2.2.2.map smD ∧ KI V q.1 ∧ SGs ((i + 1) * PB k) q.2.2.2) rfl ?_ ?_
    rotate_left
    · rintro ⟨v2, n2, R2, ss2⟩ ⟨hn9, hR9, hI4, hS2⟩; dsimp only at hn9 hR9 hI4 hS2 ⊢
      refine G (T := T) 1000 rfl ?_
      exact Nq (i + 1, v2, n2, R2, ss2) ⟨by dsimp only; omega, hn9, hR9, hI4, hS2⟩ (by show 4 - (i + 1) < 4 - i; omega)
    refine G (T := T) 1000 rfl ?_
    rw [show (v.lf : Int) - 1 = ((v.lf - 1 : Nat) : Int) by omega]
    have hI3 : KI V ⟨v.vars, v.lf - 1, v.mn, v.ct⟩ := ⟨hI2.hv, by show v.vars.length + (v.lf - 1) ≤ V; omega, hI2.m8, by show v.ct + (v.lf - 1) ≤ 8; omega, hV5⟩
    have hc1 := hc.kw hI3 hc.hlb hc.hlbl
    refine Ck [0, 1, 2] (az (c := KW c ⟨v.vars, v.lf - 1, v.mn, v.ct⟩ c.labels) hc1.hl hc1.hll (n := 18) (by omega) (by omega)) rfl rfl rfl rfl rfl rfl rfl ⟨⟨rfl, rfl⟩, rfl⟩ ?_
    rintro _ ⟨kk, rfl, _, _⟩
    have one : ∀ {B : Nat} {s : Sm}, SG B s → B ≤ PB k → SGs ((i + 1) * PB k) (ss ++ [s]) := fun h1 h2 => (hS.snoc h1).mono (pb_step h2)
    have l1 : ∀ s : Sm, ss.length + 1 = (ss ++ [s]).length := fun s => by simp
    refine Gs (T := T) 1000 rfl ?_
    refine If rfl (fun h => ?_) (fun h => ?_)
    · have h8 : v.mn < 8 := by have := of_decide_eq_true (Bool.and_eq_true_iff.1 h).2; omega
      have hvn := vN_loc (v.mn + 1) (by omega) (by omega)
      have hI5 : KI V ⟨v.vars, v.lf - 1, v.mn + 1, v.ct⟩ := ⟨hI3.hv, hI3.vl, by show v.mn + 1 ≤ 8; omega, hI3.cl, hV5⟩
      have hc2 := hc.kw hI5 hc.hlb hc.hlbl
      refine G (T := T) 1000 rfl ?_
      refine Cx' [0, 1, 2] (fun _ => mkQ c.l c.fs c.tn c.me v.vars c.labels (v.lf - 1) (v.mn + 1) v.ct 1 1) (oJ (c := KW c ⟨v.vars, v.lf - 1, v.mn, v.ct⟩ c.labels) h8) rfl rfl rfl rfl rfl rfl rfl ⟨⟨rfl, rfl⟩, rfl⟩ (fun _ => rfl) (fun _ => rfl) ?_
      rintro _ -
      change (MS.r _ _ _ _ ⟨(57, xs (vN (v.mn + 1))) :: _, _, _⟩).ok _
      generalize vN (v.mn + 1) = N at hvn ⊢
      refine G (T := T) 1000 rfl ?_
      refine Ck [0, 1, 2] (az (c := KW c ⟨v.vars, v.lf - 1, v.mn + 1, v.ct⟩ c.labels) hc2.hl hc2.hll (n := 4) (by omega) (by omega)) rfl rfl rfl rfl rfl rfl rfl ⟨⟨rfl, rfl⟩, rfl⟩ ?_
      rintro _ ⟨q, rfl, q1, q2⟩
      obtain ⟨j, tk, rfl, hj, htk⟩ := knd4_get q1 q2
      refine G (T := T) 61 rfl ?_
      refine Ix (T := T) (rows := knd4.map iu) j (ab hj) rfl rfl rfl rfl ⟨rfl, rfl⟩ rfl rfl ?_
      refine G (T := T) 100012 rfl ?_
      refine (FzTo.bz 4 rfl).c ?_
      refine G (T := T) 1000 rfl ?_
      refine Ck [0, 1, 2] (bQ 4 (by omega) _ hc2) rfl rfl rfl rfl rfl rfl rfl ⟨⟨rfl, rfl⟩, rfl⟩ ?_
      rintro _ ⟨e, rfl, he⟩
      refine G (T := T) 1000 rfl ?_
      have e1 : v.vars.map bM ++ [[D.c (.string N)]] = (v.vars ++ [N]).map bM := by rw [List.map_append]; rfl
      have e2 : v.vars.length + 1 = (v.vars ++ [N]).length := by simp
      rw [e1, e2]
      have hT := tyk_G htk
      refine Dn (⟨v.vars ++ [N], v.lf - 1, v.mn + 1, v.ct⟩, _, _, ss ++ [letS N tk e]) ⟨l1 _, ?_, ⟨fun s hs => ?_, by show (v.vars ++ [N]).length + (v.lf - 1) ≤ V; omega, by show v.mn + 1 ≤ 8; omega, hI3.cl, hV5⟩, one (sg_let hvn hT.1 hT.2.1 hT.2.2 he) (by omega)⟩ ⟨⟨_, _, rfl, rfl⟩, rfl, rfl⟩
      · dsimp only; rw [List.map_append]; rfl
      · rcases List.mem_append.1 hs with hs | hs
        · exact hI2.hv s hs
        · rw [List.mem_singleton.1 hs]; exact hvn
    refine G (T := T) 1000 rfl ?_
    refine If rfl (fun h => ?_) (fun h => ?_)
    · refine G (T := T) 1000 rfl ?_
      refine Ck [0, 1, 2] (oI (d := 2) (bQ 2 (by omega)) (by omega) hc1) rfl rfl rfl rfl rfl rfl rfl ⟨⟨rfl, rfl⟩, rfl⟩ ?_
      rintro _ ⟨a, rfl, ha⟩
      refine G (T := T) 1000 rfl ?_
      refine Ck [0, 1, 2] (bQ 4 (by omega) _ hc1) rfl rfl rfl rfl rfl rfl rfl ⟨⟨rfl, rfl⟩, rfl⟩ ?_
      rintro _ ⟨e, rfl, he⟩
      refine G (T := T) 1000 rfl ?_
      refine Dn (⟨v.vars, v.lf - 1, v.mn, v.ct⟩, _, _, ss ++ [.mk 2 eS ty4z 0 [a, e] [] [] []]) ⟨l1 _, ?_, hI3, one (sg_asg ha he) (by omega)⟩ ⟨⟨_, _, rfl, rfl⟩, rfl, rfl⟩
      dsimp only; rw [List.map_append]; rfl
    refine Gs (T := T) 1000 rfl ?_
    refine If rfl (fun h => ?_) (fun h => ?_)
    · have hk1 : 1 ≤ k := by have := of_decide_eq_true (Bool.and_eq_true_iff.1 h).2; omega
      obtain ⟨p1, p2, p3⟩ := hzp hk1
      refine G (T := T) 1000 rfl ?_
      refine Ck [0, 1, 2] (bQ 3 (by omega) _ hc1) rfl rfl rfl rfl rfl rfl rfl ⟨⟨rfl, rfl⟩, rfl⟩ ?_
      rintro _ ⟨e, rfl, he⟩
      refine G (T := T) 1000 rfl ?_
      refine Cx' [0, 1, 2] (fun a => mkQ c.l c.fs c.tn c.me a.1.vars c.labels a.1.lf a.1.mn a.1.ct 2 2) (ih1 hk1 (KW c ⟨v.vars, v.lf - 1, v.mn, v.ct⟩ c.labels) V (deep + 1) hc1 hI3 p3 (by show c.labels.length + (k - 1) ≤ 8; omega)) rfl rfl rfl rfl rfl rfl rfl ⟨⟨rfl, rfl⟩, rfl⟩ (fun _ => rfl) (fun _ => rfl) ?_
      rintro ⟨v2, bs⟩ ⟨hI4, hS2⟩; dsimp only at hI4 hS2 ⊢
      have hc2 := hc.kw hI4 hc.hlb hc.hlbl
      refine G (T := T) 1000 rfl ?_
      refine Ck [0, 1, 2] (az (c := KW c v2 c.labels) hc2.hl hc2.hll (n := 2) (by omega) (by omega)) rfl rfl rfl rfl rfl rfl rfl ⟨⟨rfl, rfl⟩, rfl⟩ ?_
      rintro _ ⟨q3, rfl, _, _⟩
      refine G (T := T) 1000 rfl ?_
      refine If rfl (fun h => ?_) (fun h => ?_)
      · refine G (T := T) 1000 rfl ?_
        refine Cx' [0, 1, 2] (fun a => mkQ c.l c.fs c.tn c.me a.1.vars c.labels a.1.lf a.1.mn a.1.ct 3 3) (ih1 hk1 (KW c v2 c.labels) V (deep + 1) hc2 hI4 p3 (by show c.labels.length + (k - 1) ≤ 8; omega)) rfl rfl rfl rfl rfl rfl rfl ⟨⟨rfl, rfl⟩, rfl⟩ (fun _ => rfl) (fun _ => rfl) ?_
        rintro ⟨v3, es⟩ ⟨hI5, hS3⟩; dsimp only at hI5 hS3 ⊢
        refine G (T := T) 1000 rfl ?_
        refine Dn (v3, _, _, ss ++ [ifS e bs es]) ⟨l1 _, ?_, hI5, one (l7 he hS2 hS3) (by omega)⟩ ⟨⟨_, _, rfl, rfl⟩, rfl, rfl⟩
        dsimp only; rw [List.map_append, List.map_singleton, ifS, aJ]; rfl
      · refine G (T := T) 1000 rfl ?_
        refine Dn (v2, _, _, ss ++ [ifS e bs []]) ⟨l1 _, ?_, hI4, one (l7 he hS2 SGs.nil) (by omega)⟩ ⟨⟨_, _, rfl, rfl⟩, rfl, rfl⟩
        dsimp only; rw [List.map_append, List.map_singleton, ifS, aJ]; rfl
    refine Gs (T := T) 1000 rfl ?_
    refine If rfl (fun h => ?_) (fun h => ?_)
    · have h8 : v.mn < 8 := by have := of_decide_eq_true (Bool.and_eq_true_iff.1 h).2; omega
      have hk1 : 1 ≤ k := by have := of_decide_eq_true (Bool.and_eq_true_iff.1 (Bool.and_eq_true_iff.1 h).1).2; omega
      obtain ⟨p1, p2, p3⟩ := hzp hk1
      refine G (T := T) 1000 rfl ?_
      refine Cx' [0, 1, 2] (fun a => mkQ c.l c.fs c.tn c.me a.1.vars c.labels a.1.lf a.1.mn a.1.ct 2 2) (pI (ih1 hk1) (by omega) hc1 hI3 (by show v.vars.length + (v.lf - 1) + 1 ≤ V; omega) (by show v.ct + (v.lf - 1) + 1 ≤ 8; omega) h8 p3 (by show c.labels.length + (k - 1) + 1 ≤ 8; omega)) rfl rfl rfl rfl rfl rfl rfl ⟨⟨rfl, rfl⟩, rfl⟩ (fun _ => rfl) (fun _ => rfl) ?_
      rintro ⟨v2, bs⟩ ⟨hI4, hS2⟩; dsimp only at hI4 hS2 ⊢
      have hblen := hS2.len
      refine G (T := T) 142 rfl ?_
      refine Ap (T := T) rfl (gM bs) rfl rfl rfl rfl rfl rfl ⟨rfl, rfl⟩ (by rw [List.length_map]; omega) (by rw [List.length_map]; omega) ?_
      refine G (T := T) 1000 rfl ?_
      refine Dn (v2, _, _, ss ++ bs) ⟨by dsimp only; rw [List.length_map, List.length_append], ?_, hI4, (hS.append hS2).mono (pb_step (by omega))⟩ ⟨⟨_, _, rfl, rfl⟩, rfl, rfl⟩
      dsimp only; rw [List.map_append]
    refine Gs (T := T) 1000 rfl ?_
    refine If rfl (fun h => ?_) (fun h => ?_)
    · have hk1 : 1 ≤ k := by have := of_decide_eq_true (Bool.and_eq_true_iff.1 h).2; omega
      obtain ⟨p1, p2, p3⟩ := hzp hk1
      refine G (T := T) 1000 rfl ?_
      refine Cx' [0, 1, 2] (fun a => mkQ c.l c.fs c.tn c.me a.1.vars c.labels a.1.lf a.1.mn a.1.ct 2 2) (oK (ih1 hk1) (by omega) hc1 hI3 (by show v.ct + (v.lf - 1) + 1 ≤ 8; omega) p3 (by show c.labels.length + (k - 1) + 1 ≤ 8; omega)) rfl rfl rfl rfl rfl rfl rfl ⟨⟨rfl, rfl⟩, rfl⟩ (fun _ => rfl) (fun _ => rfl) ?_
      rintro ⟨v2, s⟩ ⟨hI4, hS2⟩; dsimp only at hI4 hS2 ⊢
      refine G (T := T) 1000 rfl ?_
      refine Dn (v2, _, _, ss ++ [s]) ⟨l1 _, ?_, hI4, one hS2 (by omega)⟩ ⟨⟨_, _, rfl, rfl⟩, rfl, rfl⟩
      dsimp only; rw [List.map_append]; rfl
    refine Gs (T := T) 1000 rfl ?_
    refine If rfl (fun h => ?_) (fun h => ?_)
    · have hk1 : 1 ≤ k := by have := of_decide_eq_true (Bool.and_eq_true_iff.1 h).2; omega
      obtain ⟨p1, p2, p3⟩ := hzp hk1
      have sz0 : PB k = 4 * ZB (k - 1) + 12000 := p1
      refine G (T := T) 1000 rfl ?_
      refine Ck [0, 1, 2] (bQ 3 (by omega) _ hc1) rfl rfl rfl rfl rfl rfl rfl ⟨⟨rfl, rfl⟩, rfl⟩ ?_
      rintro _ ⟨e, rfl, he⟩
      refine G (T := T) 1000 rfl ?_
      refine Cq (ay (n := 3) (by omega) (by omega)) rfl rfl rfl rfl rfl ⟨rfl, rfl⟩ ?_
      refine G (T := T) 1000 rfl ?_
      refine Cq (aM ⟨#[38]⟩ e (bI 3)) rfl rfl rfl rfl rfl ⟨rfl, rfl⟩ ?_
      refine G (T := T) 1000 rfl ?_
      have hsw : EG 514 (eN ⟨#[38]⟩ e (bI 3)) := (eQ (by decide) he (fS (by omega) (by omega))).mono (by omega)
      generalize eN ⟨#[38]⟩ e (bI 3) = sw at hsw ⊢
      refine Ck [0, 1, 2] (az (c := KW c ⟨v.vars, v.lf - 1, v.mn, v.ct⟩ c.labels) hc1.hl hc1.hll (n := 3) (by omega) (by omega)) rfl rfl rfl rfl rfl rfl rfl ⟨⟨rfl, rfl⟩, rfl⟩ ?_
      rintro _ ⟨q3, rfl, q31, q32⟩
      refine G (T := T) 100030 rfl ?_
      refine (Nrh 4 10 63 1 rfl rfl rfl rfl rfl).c ?_
      refine G (T := T) 1000 rfl ?_
      refine Lq [0, 1, 5, 6, 7, 13, 14] (fun (q : Nat × KV × Nat × List (List D) × List (List Sm)) r => (15, xi (q.1 : Nat)) :: r) (fun q => mkQ c.l c.fs c.tn c.me q.2.1.vars c.labels q.2.1.lf q.2.1.mn q.2.1.ct 1 1 ++ [⟨3, 1, .row ss.length (ss.map smD) 66 11⟩, ⟨4, 0, .cells [.d (.c (.int .i64 9)), .d (.c (.string eS)), .d (.c (.int .i64 0)), .d (.c (.string eS)), .d (.c (.int .i64 0)), .z, .d (.c (.int .u16 0)), .d (.s [exD sw]), .z, .z, .l 5 1 1 0 q.2.2.1 q.2.2.1] 66⟩, ⟨5, 1, .row q.2.2.1 q.2.2.2.1 63 1⟩]) 6 (fun q => (q.1 : Int) ≤ 1 + q3 ∧ q.2.2.1 = q.2.2.2.2.length ∧ q.2.2.2.1 = q.2.2.2.2.map blD ∧ KI V q.2.1 ∧ SGc (q.1 * (ZB (k - 1) + 1)) q.2.2.2.2) (fun q => 3 - q.1) (0, ⟨v.vars, v.lf - 1, v.mn, v.ct⟩, 0, [], []) rfl ⟨by dsimp only; omega, rfl, rfl, hI3, SGc.nil.mono (by omega)⟩ ?_
      rintro ⟨j, v2, n2, R2, cs⟩ ⟨hj, hn9, hR9, hI4, hC⟩; dsimp only at hj hn9 hR9 hI4 hC ⊢; subst hn9 hR9
      have hc2 := hc.kw hI4 hc.hlb hc.hlbl
      have hcl2 : cs.length ≤ 3 * (ZB (k - 1) + 1) := by
        have := Sm.clen_le cs
        have := hC.s
        have := Nat.mul_le_mul_right (ZB (k - 1) + 1) (show j ≤ 3 by omega)
        omega
      refine G (T := T) 1000 rfl ?_
      refine If rfl (fun h => ?_) (fun h => ?_)
      · have hj1 := of_decide_eq_true h
        refine G (T := T) 1000 rfl ?_
        refine Cx' [0, 1, 2] (fun a => mkQ c.l c.fs c.tn c.me a.1.vars c.labels a.1.lf a.1.mn a.1.ct 2 2) (ih1 hk1 (KW c v2 c.labels) V (deep + 1) hc2 hI4 p3 (by show c.labels.length + (k - 1) ≤ 8; omega)) rfl rfl rfl rfl rfl rfl rfl ⟨⟨rfl, rfl⟩, rfl⟩ (fun _ => rfl) (fun _ => rfl) ?_
        rintro ⟨v3, bs⟩ ⟨hI5, hS3⟩; dsimp only at hI5 hS3 ⊢
        refine G (T := T) 1000 rfl ?_
        refine Nq (j + 1, v3, _, _, cs ++ [bs]) ⟨by dsimp only; omega, ?_, ?_, hI5, (hC.snoc hS3).mono (by rw [Nat.add_mul]; omega)⟩ (by show 3 - (j + 1) < 3 - j; omega) ⟨⟨_, _, rfl, rfl⟩, rfl, rfl⟩
        · dsimp only; rw [List.length_append]; rfl
        · dsimp only; rw [List.map_append]; rfl
      · have hj3 : j ≤ 3 := by omega
        refine G (T := T) 1000 rfl ?_
        refine Cx' [0, 1, 2] (fun a => mkQ c.l c.fs c.tn c.me a.1.vars c.labels a.1.lf a.1.mn a.1.ct 2 2) (ih1 hk1 (KW c v2 c.labels) V (deep + 1) hc2 hI4 p3 (by show c.labels.length + (k - 1) ≤ 8; omega)) rfl rfl rfl rfl rfl rfl rfl ⟨⟨rfl, rfl⟩, rfl⟩ (fun _ => rfl) (fun _ => rfl) ?_
        rintro ⟨v3, es⟩ ⟨hI5, hS3⟩; dsimp only at hI5 hS3 ⊢
        refine G (T := T) 192 rfl ?_
        refine Zr 5 rfl ?_
        refine G (T := T) 1000 rfl ?_
        refine Dn (v3, _, _, ss ++ [.mk 9 eS ty4z 0 [sw] [] es cs]) ⟨l1 _, ?_, hI5, one (sg_switch hsw hS3 hC) (oD sz0 hj3 (by omega))⟩ ⟨⟨_, _, rfl, rfl⟩, rfl, rfl⟩
        dsimp only; rw [List.map_append, List.map_singleton, aJ]; rfl
    have happ : ∀ s : Sm, ss.map smD ++ [smD s] = (ss ++ [s]).map smD := fun s => by rw [List.map_append]; rfl
    let HP : XH := mkQ c.l c.fs c.tn c.me v.vars c.labels (v.lf - 1) v.mn v.ct 1 1 ++ [⟨3, 1, .row ss.length (ss.map smD) 66 11⟩]
    refine G (T := T) 100036 rfl ?_
    refine Cu [0, 1, 5, 6, 7, 8] (fun (_ : Unit) r => (195, xb (decide (kk = 11) && decide ((c.me : Int) + 1 < ((c.fs.map fuD).length : Int)))) :: r) (fun _ => HP) 4 (fun _ => True) rfl ?_ ?_
    · refine G (T := T) 199 rfl ?_
      refine Sp 198 rfl (fun h => ?_) (fun h => ?_)
      · refine G (T := T) 1000 rfl ?_
        rw [h, Bool.true_and]
        exact Dn () trivial
      · refine G (T := T) 1000 rfl ?_
        rw [h, Bool.false_and]
        exact Dn () trivial
    rintro _ -
    refine If rfl (fun h => ?_) (fun h => ?_)
    · have h9 := (Bool.and_eq_true_iff.1 h).2
      have hlen := of_decide_eq_true h9
      have hlen2 := hlen
      rw [List.length_map] at hlen2
      refine G (T := T) 100037 rfl ?_
      refine Ods (T := T) [0, 1, 2, 3, 4, 5, 6, 7, 8, 9, 10, 11, 12, 13, 14, 15, 16, 17, 18, 19, 20, 25, 21, 22, 23, 24, 26] rfl ?_
      refine G (T := T) 1000 rfl ?_
      refine Ck [0, 1, 2] (az (c := KW c ⟨v.vars, v.lf - 1, v.mn, v.ct⟩ c.labels) hc1.hl hc1.hll (n := ((c.fs.map fuD).length : Int) - (c.me : Int) - 1) (by omega) (by rw [List.length_map]; omega)) rfl rfl rfl rfl rfl rfl rfl ⟨⟨rfl, rfl⟩, rfl⟩ ?_
      rintro _ ⟨q, rfl, q1, q2⟩
      rw [List.length_map] at q2
      obtain ⟨j, rfl⟩ := Int.eq_ofNat_of_zero_le q1
      obtain ⟨f, hf9⟩ := ah (l := c.fs) (j := c.me + 1 + j) (by omega)
      have hF := hc.hf f (List.mem_of_getElem? hf9)
      refine G (T := T) 234 rfl ?_
      refine Ix (T := T) (c.me + 1 + j) (ab hf9) rfl rfl rfl rfl ⟨rfl, rfl⟩ (by push_cast; rfl) rfl ?_
      refine G (T := T) 1000 rfl ?_
      refine Ck [0, 1, 2] (mk_call (d := 2) (bQ 2 (by omega)) (by omega) hc1 hF) rfl rfl rfl rfl rfl rfl rfl ⟨⟨rfl, rfl⟩, rfl⟩ ?_
      rintro _ ⟨e, rfl, he⟩
      refine G (T := T) 1000 rfl ?_
      refine Dn (⟨v.vars, v.lf - 1, v.mn, v.ct⟩, _, _, ss ++ [.mk 14 eS ty4z 0 [e] [] [] []]) ⟨l1 _, ?_, hI3, one (sg_do he) (by omega)⟩ ⟨⟨_, _, rfl, rfl⟩, rfl, rfl⟩
      exact happ (.mk 14 eS ty4z 0 [e] [] [] [])
    refine Gs (T := T) 1000 rfl ?_
    refine If rfl (fun h => ?_) (fun h => ?_)
    · refine G (T := T) 1000 rfl ?_
      refine Dn (⟨v.vars, v.lf - 1, v.mn, v.ct⟩, _, _, ss ++ [.mk 12 eS ty4z 0 [] [] [] []]) ⟨l1 _, ?_, hI3, one (sg_mark (.inl rfl)) (by omega)⟩ ⟨⟨_, _, rfl, rfl⟩, rfl, rfl⟩
      exact happ (.mk 12 eS ty4z 0 [] [] [] [])
    refine G (T := T) 100041 rfl ?_
    refine Cu [0, 1, 5, 6, 7, 8] (fun (b : Bool) r => (258, xb b) :: r) (fun _ => HP) 4 (fun _ => True) rfl ?_ ?_
    · refine G (T := T) 262 rfl ?_
      refine Sp 261 rfl (fun h => ?_) (fun h => ?_)
      · refine G (T := T) 1000 rfl ?_
        refine Ck [0, 1, 2] (az (c := KW c ⟨v.vars, v.lf - 1, v.mn, v.ct⟩ c.labels) hc1.hl hc1.hll (n := 3) (by omega) (by omega)) rfl rfl rfl rfl rfl rfl rfl ⟨⟨rfl, rfl⟩, rfl⟩ ?_
        rintro _ ⟨q, rfl, q1, q2⟩
        refine G (T := T) 1000 rfl ?_
        exact Dn (decide (q = 0)) trivial
      · refine G (T := T) 1000 rfl ?_
        exact Dn false trivial
    rintro b13 -
    refine If rfl (fun h => ?_) (fun h => ?_)
    · refine G (T := T) 1000 rfl ?_
      refine Ck [0, 1, 2] (bQ 2 (by omega) _ hc1) rfl rfl rfl rfl rfl rfl rfl ⟨⟨rfl, rfl⟩, rfl⟩ ?_
      rintro _ ⟨e, rfl, he⟩
      refine G (T := T) 1000 rfl ?_
      refine Ck [0, 1, 2] (mk_giving hc1) rfl rfl rfl rfl rfl rfl rfl ⟨⟨rfl, rfl⟩, rfl⟩ ?_
      rintro _ ⟨s, rfl, hs⟩
      refine G (T := T) 1000 rfl ?_
      refine Dn (⟨v.vars, v.lf - 1, v.mn, v.ct⟩, _, _, ss ++ [ifS e [s] []]) ⟨l1 _, ?_, hI3, one (l7 he (SGs.one hs) SGs.nil) (by omega)⟩ ⟨⟨_, _, rfl, rfl⟩, rfl, rfl⟩
      exact happ (ifS e [s] [])
    refine G (T := T) 100043 rfl ?_
    refine Cu [0, 1, 5, 6, 7, 8] (fun (b : Bool) r => (276, xb b) :: r) (fun _ => HP) 4 (fun _ => True) rfl ?_ ?_
    · refine G (T := T) 280 rfl ?_
      refine Sp 279 rfl (fun h => ?_) (fun h => ?_)
      · refine G (T := T) 1000 rfl ?_
        refine Ck [0, 1, 2] (az (c := KW c ⟨v.vars, v.lf - 1, v.mn, v.ct⟩ c.labels) hc1.hl hc1.hll (n := 6) (by omega) (by omega)) rfl rfl rfl rfl rfl rfl rfl ⟨⟨rfl, rfl⟩, rfl⟩ ?_
        rintro _ ⟨q, rfl, q1, q2⟩
        refine G (T := T) 1000 rfl ?_
        exact Dn (decide (q = 1)) trivial
      · refine G (T := T) 1000 rfl ?_
        exact Dn false trivial
    rintro b14 -
    refine If rfl (fun h => ?_) (fun h => ?_)
    · refine G (T := T) 1000 rfl ?_
      refine Ck [0, 1, 2] (bQ 2 (by omega) _ hc1) rfl rfl rfl rfl rfl rfl rfl ⟨⟨rfl, rfl⟩, rfl⟩ ?_
      rintro _ ⟨e, rfl, he⟩
      refine G (T := T) 1000 rfl ?_
      refine Dn (⟨v.vars, v.lf - 1, v.mn, v.ct⟩, _, _, ss ++ [ifS e [.mk 13 eS ty4z 0 [] [] [] []] []]) ⟨l1 _, ?_, hI3, one (l7 he (SGs.one (sg_mark (.inr rfl))) SGs.nil) (by omega)⟩ ⟨⟨_, _, rfl, rfl⟩, rfl, rfl⟩
      exact happ (ifS e [.mk 13 eS ty4z 0 [] [] [] []] [])
    refine G (T := T) 1000 rfl ?_
    refine Ck [0, 1, 2] (mg hc1) rfl rfl rfl rfl rfl rfl rfl ⟨⟨rfl, rfl⟩, rfl⟩ ?_
    rintro _ ⟨s, rfl, hs⟩
    refine G (T := T) 1000 rfl ?_
    refine Dn (⟨v.vars, v.lf - 1, v.mn, v.ct⟩, _, _, ss ++ [s]) ⟨l1 _, ?_, hI3, one hs (by omega)⟩ ⟨⟨_, _, rfl, rfl⟩, rfl, rfl⟩
    exact happ s
theorem mk_stmts : ∀ k, k ≤ 3 → kR pk k := by
  intro k
  induction k using Nat.strongRecOn with
  | _ k ih => exact fun hk c V deep hc hI hd hlab => mh true k ih hk c V deep hc hI hd hlab
end
section
open Go Go.RowKit Go.Proofs K
variable {pk : Pk}
abbrev mkRx (a b c d : Nat) (l : List Int) (n : Nat) (R : List (List D)) (tn t3 : Nat) : XH := [⟨a, 0, .cells [.d (.s (l.map iu)), .w (atP l), .d (.c (.int .i64 (tn : Int))), .d (.c (.int .i64 0)), .w ndP, .l b 0 1 0 0 0, .d (.c (.int .i64 0)), .l c 0 1 0 0 0, .d (.c (.int .i64 0)), .d (.c (.int .i64 0)), .l d t3 10 0 n n] 138⟩,
  ⟨b, 0, .row 0 [] 9 1⟩, ⟨c, 0, .row 0 [] 9 1⟩, ⟨d, t3, .row n R 71 10⟩]
abbrev mkRn (a b c d : Nat) (l : List Int) (fs : List Fu) (tn t3 : Nat) : XH := mkRx a b c d l fs.length (fs.map fuD) tn t3
abbrev mkR (l : List Int) (fs : List Fu) (tn t3 : Nat) : XH := mkRn 0 1 2 3 l fs tn t3
theorem df {l : List Int} {fs : List Fu} {tn : Nat} (h1 : ∀ n ∈ l, I64 n) (h2 : l.length ≤ 1000000) {n : Int} (hn : 0 < n) (hn2 : n ≤ 1000000) : XKp Tryz.prog pk 65 [pm, xi n] (mkR l fs tn 0) 4 (fun r => ∃ k : Int, r = xi k ∧ 0 ≤ k ∧ k < n) := by
  refine XM.en Tryz.func65 Tryz.ntmps65 (fun w0 own H V v0 hf => ?_)
  refine G (T := T) 100001 rfl ?_
  refine Op 0 1 rfl rfl ?_
  rintro _ ⟨a, ha, rfl⟩
  refine ⟨_, _, rfl, rfl, ?_⟩
  refine G (T := T) 1000 rfl ?_
  refine If rfl (fun h => ?_) (fun h => ?_)
  · refine G (T := T) 1000 rfl ?_
    refine (SRto.wk 0 1 (atP l) rfl rfl rfl rfl ⟨a, ha, rfl⟩).e ?_
    exact Fm (T := T) id (xi 0) (mkR l fs tn 0) ⟨⟨0, rfl, Int.le_refl _, hn⟩, rfl⟩ rfl
  · have hlt := of_decide_eq_false h; rw [List.length_map] at hlt
    obtain ⟨y, hy⟩ := ah (l := l) (j := a) (by omega)
    refine G (T := T) 1000 rfl ?_
    refine Ix (T := T) a (ab hy) rfl rfl rfl rfl ⟨rfl, rfl⟩ (by omega) rfl ?_
    refine G (T := T) 1000 rfl ?_
    refine Cq (bP hn hn2) rfl rfl rfl rfl rfl ⟨rfl, rfl⟩ ?_
    refine G (T := T) 1000 rfl ?_
    refine (SRto.wk 0 1 (atP l) rfl rfl rfl rfl ⟨a + 1, by omega, by push_cast; rfl⟩).e ?_
    have := bq (n := y) hn
    exact Fm (T := T) id (xi (er y n)) (mkR l fs tn 0) ⟨⟨_, rfl, this.1, this.2⟩, rfl⟩ rfl
def sig3 : List Ty4 := [.mk 1 eS 0 [], .mk 3 eS 0 [], .mk 2 eS 0 []]
def abc3 : List ByteArray := [⟨#[97]⟩, ⟨#[98]⟩, ⟨#[99]⟩]
theorem oL {q : Int} (h0 : 0 ≤ q) (h1 : q < 3) : ∃ j k, q = ((j : Nat) : Int) ∧ sig3[j]? = some (.mk k eS 0 []) ∧ (k = 1 ∨ k = 2 ∨ k = 3) := by
  obtain ⟨j, rfl⟩ := Int.eq_ofNat_of_zero_le h0
  have : j = 0 ∨ j = 1 ∨ j = 2 := by omega
  rcases this with rfl | rfl | rfl
  · exact ⟨0, 1, rfl, rfl, .inl rfl⟩
  · exact ⟨1, 3, rfl, rfl, .inr (.inr rfl)⟩
  · exact ⟨2, 2, rfl, rfl, .inr (.inl rfl)⟩
def PrG' (p : Par) : Prop := dL p.nm = true ∧ rTy p.ty = true ∧ p.ty.ok ∧ p.ty.size ≤ 8
theorem parP_G' : PrG' ⟨⟨#[112]⟩, .mk 6 eS 0 [.mk 4 ⟨#[83]⟩ 0 []]⟩ := ⟨by decide +kernel, by decide +kernel, ⟨⟨by omega, by omega⟩, by decide, ⟨by omega, by omega⟩, ⟨⟨by omega, by omega⟩, by decide, ⟨by omega, by omega⟩, trivial⟩, trivial⟩, by simp [Ty4.size, Ty4.sizes]⟩
theorem tyk_P {k : Int} {s : ByteArray} (hs : dL s = true) (h : k = 1 ∨ k = 2 ∨ k = 3) : PrG' ⟨s, .mk k eS 0 []⟩ := by
  obtain ⟨h1, h2, h3⟩ := tyk_G h
  exact ⟨hs, h1, h2, Nat.le_trans h3 (by omega)⟩
abbrev fuB (g : Nat) (nm : ByteArray) (ps : XC) (k : Int) : XB := ⟨g, 0, .cells [.d (.c (.string nm)), ps, .d (.c (.int .i64 k)), .d (.c (.string eS)), .d (.c (.int .i64 0)), .z, .z, .d (.c (.bool false)), .d (.c (.int .i64 0)), .d (.c (.int .u16 0))] 71⟩
abbrev fuB' (g : Nat) (nm : ByteArray) (ps : XC) (k : Int) (z : XC) : XB := ⟨g, 0, .cells [.d (.c (.string nm)), ps, .d (.c (.int .i64 k)), .d (.c (.string eS)), .d (.c (.int .i64 0)), z, .z, .d (.c (.bool false)), .d (.c (.int .i64 0)), .d (.c (.int .u16 0))] 71⟩
theorem paDs_snoc (l : List Par) (p : Par) : l.map paD ++ [paD p] = (l ++ [p]).map paD := by rw [List.map_append]; rfl
theorem nI {l : List Int} {fs : List Fu} {tn : Nat} (h1 : ∀ n ∈ l, I64 n) (h2 : l.length ≤ 1000000) (nm : ByteArray) :
    XS' Tryz.prog pk 67 [pm, .a (.c (.p 4 0 0))] (mkR l fs tn 0 ++ [fuB 4 nm .z 7]) 5 (fun a : List Par × Int × Bool => (∀ p ∈ a.1, PrG' p) ∧ a.1.length ≤ 3 ∧ (a.2.1 = 1 ∨ a.2.1 = 2 ∨ a.2.1 = 3 ∨ a.2.1 = 7)) (fun _ => .t []) (fun a => mkR l fs tn 0 ++ [fuB' 4 nm (.d (.s (a.1.map paD))) a.2.1 (cond a.2.2 .z (.d (.s [])))]) := by
  refine XM.en Tryz.func67 Tryz.ntmps67 (fun w0 own H V v0 hf => ?_)
  refine G (T := T) 1000 rfl ?_
  refine Ck [0, 1, 2, 3] (df (fs := fs) (tn := tn) h1 h2 (n := 5) (by omega) (by omega)) rfl rfl rfl rfl rfl rfl rfl ⟨⟨rfl, rfl⟩, rfl⟩ ?_
  rintro _ ⟨k0, rfl, k01, k02⟩
  refine G (T := T) 100002 rfl ?_
  refine (Nrh 4 1 83 5 rfl rfl rfl rfl rfl).c ?_
  refine Gs (T := T) 1000 rfl ?_
  refine Cf [0, 1, 4] (fun (q : Int × Nat × List (List D) × List Par) r => (5, xi q.1) :: r) (fun q => mkR l fs tn 0 ++ [fuB 4 nm (.l 5 1 5 0 q.2.1 q.2.1) 7, ⟨5, 1, .row q.2.1 q.2.2.1 83 5⟩]) 6 (fun q => 0 ≤ q.1 ∧ q.1 ≤ 4 ∧ q.2.1 = q.2.2.2.length ∧ q.2.2.1 = q.2.2.2.map paD ∧ (∀ p ∈ q.2.2.2, PrG' p) ∧ (q.2.2.2 = [] ∨ q.1 = 1 ∧ q.2.2.2.length = 1)) rfl ?_ ?_
  · refine If rfl (fun h => ?_) (fun h => ?_)
    · refine G (T := T) 1000 rfl ?_
      exact Dn (1, 0 + 1, _, [⟨⟨#[112]⟩, .mk 6 eS 0 [.mk 4 ⟨#[83]⟩ 0 []]⟩]) ⟨by dsimp only; omega, by dsimp only; omega, rfl, rfl, fun p hp => by rw [List.mem_singleton.1 hp]; exact parP_G', .inr ⟨rfl, rfl⟩⟩
    · refine G (T := T) 1000 rfl ?_
      exact Dn (k0, 0, [], []) ⟨k01, by dsimp only; omega, rfl, rfl, fun p hp => (by cases hp), .inl rfl⟩
  rintro ⟨k, n, R, ps⟩ ⟨hk0, hk4, hn9, hR9, hG, hp1⟩; dsimp only at hk0 hk4 hn9 hR9 hG hp1 ⊢; subst hn9 hR9
  have hmod : 0 ≤ k.tmod 4 ∧ k.tmod 4 ≤ 3 := ⟨Int.tmod_nonneg 4 hk0, by have := Int.tmod_lt_of_pos k (show (0 : Int) < 4 by omega); omega⟩
  have hone : k = 1 → k.tmod 4 = 1 := fun h => by subst h; rfl
  have hbase : ps.length + (k.tmod 4).toNat ≤ 3 := by
    rcases hp1 with rfl | ⟨q1, q2⟩
    · simp only [List.length_nil]; omega
    · rw [q2, hone q1]; decide
  refine G (T := T) 1000 rfl ?_
  refine Lq [0, 1, 4, 5] (fun (q : Nat × Nat × List (List D) × List Par) r => (6, xi (q.1 : Nat)) :: r) (fun q => mkR l fs tn 0 ++ [fuB 4 nm (.l 5 1 5 0 q.2.1 q.2.1) 7, ⟨5, 1, .row q.2.1 q.2.2.1 83 5⟩]) 6 (fun q => (q.1 : Int) ≤ k.tmod 4 ∧ q.2.1 = q.2.2.2.length ∧ q.2.2.1 = q.2.2.2.map paD ∧ (∀ p ∈ q.2.2.2, PrG' p) ∧ q.2.2.2.length = ps.length + q.1) (fun q => 3 - q.1) (0, ps.length, ps.map paD, ps) rfl ⟨hmod.1, rfl, rfl, hG, rfl⟩ ?_
  rintro ⟨i, n, R, qs⟩ ⟨hi, hn9, hR9, hG2, hl⟩; dsimp only at hi hn9 hR9 hG2 hl ⊢; subst hn9 hR9
  refine G (T := T) 1000 rfl ?_
  refine If rfl (fun h => ?_) (fun h => ?_)
  · have hi1 := of_decide_eq_true h
    obtain ⟨y, hy⟩ := ah (l := abc3) (j := i) (by show i < 3; omega)
    have hyl : dL y = true := by
      have : ∀ s ∈ abc3, dL s = true := by decide
      exact this y (List.mem_of_getElem? hy)
    refine G (T := T) 49 rfl ?_
    refine Ix (T := T) (rows := abc3.map bM) i (ab hy) rfl rfl rfl rfl ⟨rfl, rfl⟩ rfl rfl ?_
    refine G (T := T) 1000 rfl ?_
    refine Ck [0, 1, 2, 3] (df (fs := fs) (tn := tn) h1 h2 (n := 3) (by omega) (by omega)) rfl rfl rfl rfl rfl rfl rfl ⟨⟨rfl, rfl⟩, rfl⟩ ?_
    rintro _ ⟨q, rfl, q1, q2⟩
    obtain ⟨j, tk, rfl, hj, htk⟩ := oL q1 q2
    refine G (T := T) 54 rfl ?_
    refine Ix (T := T) (rows := sig3.map tyD) j (ab hj) rfl rfl rfl rfl ⟨rfl, rfl⟩ rfl rfl ?_
    refine G (T := T) 1000 rfl ?_
    refine Nq (i + 1, _, _, qs ++ [⟨y, .mk tk eS 0 []⟩]) ⟨by dsimp only; omega, ?_, paDs_snoc qs ⟨y, .mk tk eS 0 []⟩, fun p hp => ?_, by dsimp only; rw [List.length_append, hl]; rfl⟩ (by show 3 - (i + 1) < 3 - i; omega) ⟨⟨_, _, rfl, rfl⟩, rfl, rfl⟩
    · dsimp only; rw [List.length_append]; rfl
    · rcases List.mem_append.1 hp with hp | hp
      · exact hG2 p hp
      · rw [List.mem_singleton.1 hp]; exact tyk_P hyl htk
  · have hlen : qs.length ≤ 3 := by omega
    refine G (T := T) 100009 rfl ?_
    refine Zc 5 rfl ?_
    refine G (T := T) 1000 rfl ?_
    refine Ck [0, 1, 2, 3] (df (fs := fs) (tn := tn) h1 h2 (n := 4) (by omega) (by omega)) rfl rfl rfl rfl rfl rfl rfl ⟨⟨rfl, rfl⟩, rfl⟩ ?_
    rintro _ ⟨r0, rfl, r01, r02⟩
    refine G (T := T) 1000 rfl ?_
    refine If rfl (fun h => ?_) (fun h => ?_)
    · have hr := of_decide_eq_true h
      obtain ⟨j, tk, rfl, hj, htk⟩ := oL r01 hr
      refine G (T := T) 68 rfl ?_
      refine Ix (T := T) (rows := sig3.map tyD) j (ab hj) rfl rfl rfl rfl ⟨rfl, rfl⟩ rfl rfl ?_
      refine G (T := T) 1000 rfl ?_
      exact Fm (T := T) id (.t []) (mkR l fs tn 0 ++ [fuB' 4 nm (.d (.s (qs.map paD))) tk (.d (.s []))]) ⟨(qs, tk, false), ⟨hG2, hlen, by dsimp only; omega⟩, rfl, rfl⟩ rfl
    · refine G (T := T) 1000 rfl ?_
      exact Fm (T := T) id (.t []) (mkR l fs tn 0 ++ [fuB' 4 nm (.d (.s (qs.map paD))) 7 .z]) ⟨(qs, 7, true), ⟨hG2, hlen, by dsimp only; omega⟩, rfl, rfl⟩ rfl
end
section
open Go Go.RowKit Go.Proofs K
variable {pk : Pk}
def iB (tn : Nat) : List Td := if tn = 0 then [] else if tn = 1 then [tdS] else [tdS, tdU]
def fT (tn : Nat) : List Gb := gbs0 ++ (if tn = 0 then [] else if tn = 1 then [gbS] else [gbS, gbU])
theorem oM (l : List Gb) (p : Gb) : l.map gbD ++ [gbD p] = (l ++ [p]).map gbD := by rw [List.map_append]; rfl
theorem setR_byt {bs : List UInt8} {j : Nat} {k : Int} (hj : j < bs.length) (h0 : 0 ≤ k) (h1 : k < 256) : il (bG bs) j 0 [.c (.int .u8 (IntKind.u8.wrap k))] = bG (bs.set j (UInt8.ofNat k.toNat)) := by
  obtain ⟨n, rfl⟩ := Int.eq_ofNat_of_zero_le h0
  have hn : n < 256 := by omega
  have e : ∀ m : Nat, m < 256 → IntKind.u8.wrap (m : Int) = ((UInt8.ofNat m).toNat : Int) := by decide +kernel
  rw [e n hn]
  simp only [il, bG, List.getElem?_map, List.getElem?_eq_getElem hj, Option.map_some, List.map_set]
  rfl
theorem byt_one (bs : List UInt8) : ∀ r ∈ bG bs, r.length = 1 := fun r hr => by
  obtain ⟨b, _, rfl⟩ := List.mem_map.1 hr
  rfl
theorem oN (bs : List UInt8) (a n : Nat) : ((bG bs).drop a).take n = bG ((bs.drop a).take n) := by simp [bG, List.map_take, List.map_drop]
theorem zero5 (z : Value) (hz : Sl Tryz.prog 53 5 1 1 z) (H : Hp) : rdL H [.c (.int .u8 0)] z.cells.toList := by
  obtain ⟨i, hi, hz1, _⟩ := hz.ex
  obtain ⟨inf, zv, hi2, hz2, hc⟩ := cX (BT.all_get T.ok (i := 5) (v := .i .u8) rfl)
  rw [hi2] at hi; cases hi
  rw [hz2] at hz1; cases hz1
  have h9 := hc (fun _ _ => none) H
  revert h9
  generalize z.cells.toList = us
  intro h9
  match us, h9 with
  | [u], h9 => exact ⟨by have h8 : XC.rel (fun _ _ => none) H (.d (.c (.int .u8 0))) u := h9.1; simpa only [XC.rel] using h8, trivial⟩
theorem pJ {l : List Int} {fs : List Fu} {tn : Nat} (h1 : ∀ n ∈ l, I64 n) (h2 : l.length ≤ 1000000) (ht : tn ≤ 2) :
    XKp Tryz.prog pk 66 [pm] (mkR l fs tn 0) 4 (fun r => ∃ s1 s2 : ByteArray, r = .a (.a [.d (.s ((iB tn).map tdD)), .d (.s ((fT tn ++ [gbT s1, gbW s2]).map gbD)), .z]) ∧ s1.size ≤ 100 ∧ s2.size ≤ 100) := by
  refine XM.en Tryz.func66 Tryz.ntmps66 (fun w0 own H V v0 hf => ?_)
  refine G (T := T) 100002 rfl ?_
  refine (FzTo.bz 5 rfl).c ?_
  refine G (T := T) 100003 rfl ?_
  refine (FzTo.bz 6 rfl).c ?_
  refine G (T := T) 26 rfl ?_
  refine Br (T := T) rfl rfl rfl rfl rfl ⟨rfl, rfl⟩ ?_
  refine G (T := T) 100005 rfl ?_
  refine (Nrh 7 0 85 3 rfl rfl rfl rfl rfl).c ?_
  change (MS.c _ _ ⟨_, _, 10⟩).ok _
  let PB9 : Nat → List Td → Nat → List Gb → XH := fun n ts m gs => mkR l fs tn 0 ++ [⟨7, 0, .cells [.l 9 1 3 0 n n, .l 8 1 8 0 m m, .z] 29⟩, ⟨9, 1, .row n (ts.map tdD) 85 3⟩, ⟨8, 1, .row m (gs.map gbD) 80 8⟩, ⟨4, 0, .cells [.z, .z, .z] 29⟩]
  refine G (T := T) 1000 rfl ?_
  refine Cf [0, 2, 3, 4, 5] (fun (q : List Td × List Gb) r => r) (fun q => PB9 q.1.length q.1 q.2.length q.2) 10 (fun q => q.1 = (if tn = 0 then [] else [tdS]) ∧ q.2 = gbs0 ++ (if tn = 0 then [] else [gbS])) rfl ?_ ?_
  · refine If rfl (fun h => ?_) (fun h => ?_)
    · have h9 : tn ≠ 0 := by have := of_decide_eq_true h; omega
      refine G (T := T) 1000 rfl ?_
      exact Dn ([tdS], gbs0 ++ [gbS]) ⟨(if_neg h9).symm, by rw [if_neg h9]⟩
    · have h9 : tn = 0 := by have := of_decide_eq_false h; omega
      refine G (T := T) 1000 rfl ?_
      exact Dn ([], gbs0) ⟨(if_pos h9).symm, by rw [if_pos h9]; rfl⟩
  rintro ⟨ts, gs⟩ ⟨e1, e2⟩; dsimp only at e1 e2 ⊢
  have htl : ts.length ≤ 1 := by rw [e1]; split <;> decide
  have hgl : gs.length ≤ 6 := by rw [e2]; split <;> decide
  refine G (T := T) 1000 rfl ?_
  refine Cf [0, 2, 3, 4, 5] (fun (q : Nat × List (List D) × Nat × List (List D)) r => r) (fun q => mkR l fs tn 0 ++ [⟨7, 0, .cells [.l 9 1 3 0 q.1 q.1, .l 8 1 8 0 q.2.2.1 q.2.2.1, .z] 29⟩, ⟨9, 1, .row q.1 q.2.1 85 3⟩, ⟨8, 1, .row q.2.2.1 q.2.2.2 80 8⟩, ⟨4, 0, .cells [.z, .z, .z] 29⟩]) 10 (fun q => q.1 = (iB tn).length ∧ q.2.1 = (iB tn).map tdD ∧ q.2.2.1 = (fT tn).length ∧ q.2.2.2 = (fT tn).map gbD) rfl ?_ ?_
  · refine If rfl (fun h => ?_) (fun h => ?_)
    · have h9 : tn = 2 := by have := of_decide_eq_true h; omega
      subst h9
      subst e1 e2
      refine G (T := T) 1000 rfl ?_
      refine Dn (_, _, _, _) ⟨?_, ?_, ?_, ?_⟩ ⟨⟨_, _, rfl, rfl⟩, rfl, rfl⟩ <;> rfl
    · have h9 : tn ≤ 1 := by have := of_decide_eq_false h; omega
      refine G (T := T) 1000 rfl ?_
      refine Dn (_, _, _, _) ⟨?_, ?_, ?_, ?_⟩ ⟨⟨_, _, rfl, rfl⟩, rfl, rfl⟩
      all_goals (subst e1 e2; have : tn = 0 ∨ tn = 1 := (by omega); rcases this with rfl | rfl <;> rfl)
  rintro ⟨n, R, m, S⟩ ⟨hn, hR, hm, hS⟩; dsimp only at hn hR hm hS ⊢; subst hn hR hm hS
  have htl2 : (iB tn).length ≤ 2 := by unfold iB; (repeat' split) <;> decide
  have hgl2 : (fT tn).length ≤ 7 := by unfold fT; (repeat' split) <;> decide
  refine G (T := T) 81 rfl ?_
  refine Mz (T := T) 16 [.c (.int .u8 0)] rfl rfl rfl rfl ⟨rfl, rfl⟩ rfl (by decide) (by decide) zero5 ?_
  generalize hts : iB tn = ts9 at htl2 ⊢
  generalize hgs : fT tn = gs9 at hgl2 ⊢
  refine G (T := T) 1000 rfl ?_
  refine Lq [0, 2, 3, 4, 5, 7] (fun (q : Nat × List UInt8) r => (8, xi (q.1 : Nat)) :: r) (fun q => mkR l fs tn 0 ++ [⟨7, 0, .cells [.l 9 1 3 0 ts9.length ts9.length, .l 8 1 8 0 gs9.length gs9.length, .z] 29⟩, ⟨9, 1, .row ts9.length (ts9.map tdD) 85 3⟩, ⟨8, 1, .row gs9.length (gs9.map gbD) 80 8⟩, ⟨4, 0, .cells [.z, .z, .z] 29⟩, ⟨10, 0, .row 16 (bG q.2) 5 1⟩]) 11 (fun q => q.1 ≤ 16 ∧ q.2.length = 16) (fun q => 16 - q.1) (0, List.replicate 16 0) rfl ⟨by decide, rfl⟩ ?_
  rintro ⟨j, bs⟩ ⟨hj, hb⟩; dsimp only at hj hb ⊢
  refine G (T := T) 1000 rfl ?_
  refine If rfl (fun h => ?_) (fun h => ?_)
  · have hj1 := of_decide_eq_true h
    obtain ⟨y, hy⟩ := ah (l := bs) (j := j) (by omega)
    refine G (T := T) 1000 rfl ?_
    refine Ck [0, 1, 2, 3] (df (fs := fs) (tn := tn) h1 h2 (n := 256) (by omega) (by omega)) rfl rfl rfl rfl rfl rfl rfl ⟨⟨rfl, rfl⟩, rfl⟩ ?_
    rintro _ ⟨q, rfl, q1, q2⟩
    refine G (T := T) 91 rfl ?_
    refine Iq (T := T) j rfl rfl rfl rfl rfl ⟨rfl, rfl⟩ rfl (by omega) rfl ?_
    refine Sr (T := T) (rows := bG bs) (ab hy) rfl rfl rfl rfl rfl rfl rfl ⟨rfl, rfl⟩ rfl rfl ?_
    rw [setR_byt (by omega) q1 q2]
    refine G (T := T) 1000 rfl ?_
    exact Nq (j + 1, bs.set j (UInt8.ofNat q.toNat)) ⟨by dsimp only; omega, by dsimp only; rw [List.length_set]; exact hb⟩ (by show 16 - (j + 1) < 16 - j; omega)
  · have hbl : (bG bs).length = 16 := by rw [bG, List.length_map]; exact hb
    refine G (T := T) 100017 rfl ?_
    refine Zc 10 rfl ?_
    refine G (T := T) 98 rfl ?_
    refine Sd (T := T) 0 8 rfl ⟨_, _, rfl, rfl⟩ rfl rfl rfl ⟨rfl, rfl⟩ rfl rfl (by decide) (by rw [hbl]; decide) (byt_one bs) ?_
    refine Cd (T := T) ((bs.drop 0).take 8) (oN bs 0 8) rfl rfl rfl rfl rfl ⟨rfl, rfl⟩ ?_
    refine G (T := T) 110 rfl ?_
    refine Sd (T := T) (ri := none) 8 16 ⟨_, _, rfl, rfl⟩ rfl rfl rfl rfl ⟨rfl, rfl⟩ rfl (by rw [hbl]; rfl) (by decide) (by rw [hbl]; decide) (byt_one bs) ?_
    refine Cd (T := T) ((bs.drop 8).take 8) (oN bs 8 8) rfl rfl rfl rfl rfl ⟨rfl, rfl⟩ ?_
    refine G (T := T) 100019 rfl ?_
    refine Zc 9 rfl ?_
    refine Zc 8 rfl ?_
    refine G (T := T) 1000 rfl ?_
    refine Fm (T := T) id (.a (.a [.d (.s (ts9.map tdD)), .d (.s ((gs9.map gbD ++ [gbD (gbT ⟨((bs.drop 0).take 8).toArray⟩)]) ++ [gbD (gbW ⟨((bs.drop 8).take 8).toArray⟩)])), .z])) (mkR l fs tn 0) ⟨⟨⟨((bs.drop 0).take 8).toArray⟩, ⟨((bs.drop 8).take 8).toArray⟩, ?_, ?_, ?_⟩, rfl⟩ rfl
    · rw [oM, oM, List.append_assoc]; rfl
    · show ((bs.drop 0).take 8).length ≤ 100; rw [List.length_take]; omega
    · show ((bs.drop 8).take 8).length ≤ 100; rw [List.length_take]; omega
end
section
open Go Go.RowKit Go.Proofs K
variable {pk : Pk}
def FuM (f : Fu) : Prop := FR ⟨f.nm, f.ps, f.res, [], f.fl, f.x, f.y⟩ ∧ SGs 399999999 f.body
def intN : ByteArray := ⟨#[105, 110, 116, 101, 114, 114, 117, 112, 116]⟩
def intF (b : List Sm) : Fu := ⟨intN, [], .mk 7 eS 0 [], b, false, 0, 0⟩
def MP (p : Pg) : Prop := ∃ tn s1 s2 fs hd, tn ≤ 2 ∧ s1.size ≤ 100 ∧ s2.size ≤ 100 ∧ p = ⟨iB tn, fT tn ++ [gbT s1, gbW s2], fs ++ hd⟩ ∧ 1 ≤ fs.length ∧ fs.length ≤ 4 ∧ fs.map (·.nm) = funL.take fs.length ∧ (∀ f ∈ fs, FuM f) ∧ (hd = [] ∨ ∃ b, hd = [intF b] ∧ SGs 100 b)
abbrev iU (f : Fu) (b : List Sm) : Fu := ⟨f.nm, f.ps, f.res, b, f.fl, f.x, f.y⟩
theorem mi (l : List Fu) (p : Fu) : l.map fuD ++ [fuD p] = (l ++ [p]).map fuD := by rw [List.map_append]; rfl
theorem nJ {s : ByteArray} {ps : List Par} {k : Int} (hs : funN s = true) (h1 : ∀ p ∈ ps, PrG' p) (h2 : ps.length ≤ 3) (h3 : k = 1 ∨ k = 2 ∨ k = 3 ∨ k = 7) : FR ⟨s, ps, .mk k eS 0 [], [], false, 0, 0⟩ := by
  refine ⟨hs, h1, h2, ⟨?_, ⟨⟨by omega, by omega⟩, by decide, ⟨by omega, by omega⟩, trivial⟩, by simp [Ty4.size, Ty4.sizes]⟩, rfl, rfl, rfl, rfl⟩
  rcases h3 with rfl | rfl | rfl | rfl
  · exact .inl rfl
  · exact .inl rfl
  · exact .inl rfl
  · exact .inr rfl
theorem ZB3 : ZB 3 = 336580000 := by decide
theorem funL_get {i : Nat} (h : i < 4) : ∃ y, funL[i]? = some y ∧ funN y = true := by
  obtain ⟨y, hy⟩ := ah (l := funL) (j := i) h
  exact ⟨y, hy, List.any_eq_true.2 ⟨y, List.mem_of_getElem? hy, by simp⟩⟩
theorem XP.en {P : Program} {pk : Pk} {f : FuncId} {fn : Func} {c : Code} {args : List XV} {N : Nat} {Ψ : XV → Prop} (hf : P.funcs[f]? = some fn) (hN : fn.ntmps = N) (hΨ : ∀ r, Ψ r → pure r = true) (h : ∀ w0 own H V v0 hf, (MS.c c [] ⟨gi 0 args, [], 0⟩).ok (Cp P pk w0 own H V v0 hf N fn Ψ)) (hb : fn.body = some c := by rfl) (hn : (fn.name == "runtime.NumGoroutine") = false := by rfl) (hl : Nat.ble args.length N = true := by rfl) (ha : XVs.all (fun _ _ => false) args = true := by rfl) : XP P pk f args Ψ :=
  XP.enter hf hb hN hn hl ha hΨ h
theorem Fp {P : Program} {pk : Pk} {T : Tb P} {fn : Func} {N : Nat} {Ψ : XV → Prop} {s : XS} {w0 : World} {own : List Seg} {H : Hp} {V : Vn} {v0 : ∀ g t, V g t ≠ none → t = 0 ∧ g ∈ ([] : List Nat)} {hf : (∀ g ∈ ([] : List Nat), g < 0) ∧ pk.hy H} {e : Exit} {us : List XA} (r : XV) (hΨ : Ψ r) (hr : fD T s fn.results.toList = some us) (hc : co1 r (ej us) = r) (he : e = .ret ∨ e = .normal := by first | exact .inl rfl | exact .inr rfl) (hp : pure r = true := by rfl) :
    (MS.e e [] s).ok (Cp P pk w0 own H V v0 hf N fn Ψ) := ME.finp he hr hc hp hΨ
theorem mk_Made {l : List Int} (h1 : ∀ n ∈ l, I64 n) (h2 : l.length ≤ 1000000) : XP Tryz.prog pk 24 [xr (l.map iu)] (fun r => ∃ p, r = xd (pgD p) ∧ MP p) := by
  refine XP.en Tryz.func24 Tryz.ntmps24 (by rintro _ ⟨p, rfl, _⟩; rfl) (fun w0 own H V v0 hf => ?_)
  refine G (T := T) 100002 rfl ?_
  refine (Nrh 1 5 9 1 rfl rfl rfl rfl rfl).c ?_
  refine (Nrh 1 7 9 1 rfl rfl rfl rfl rfl).c ?_
  refine (Nrh 1 10 71 10 rfl rfl rfl rfl rfl).c ?_
  refine (SRto.wk 1 1 (atP l) rfl rfl rfl rfl ⟨0, Nat.zero_le _, rfl⟩).c ?_
  refine (SRto.wk 1 4 ndP rfl rfl rfl rfl ⟨_, rfl⟩).c ?_
  refine G (T := T) 1000 rfl ?_
  refine Ck [1, 2, 3, 4] (df (fs := []) (tn := 0) h1 h2 (n := 3) (by omega) (by omega)) rfl rfl rfl rfl rfl rfl rfl ⟨⟨rfl, rfl⟩, rfl⟩ ?_
  rintro _ ⟨tq, rfl, tq1, tq2⟩
  obtain ⟨tn, rfl⟩ := Int.eq_ofNat_of_zero_le tq1
  refine G (T := T) 1000 rfl ?_
  refine Ck [1, 2, 3, 4] (df (fs := []) (tn := tn) h1 h2 (n := 4) (by omega) (by omega)) rfl rfl rfl rfl rfl rfl rfl ⟨⟨rfl, rfl⟩, rfl⟩ ?_
  rintro _ ⟨mq, rfl, mq1, mq2⟩
  obtain ⟨many, rfl⟩ := Int.eq_ofNat_of_zero_le mq1
  refine G (T := T) 1000 rfl ?_
  refine Ck [1, 2, 3, 4] (df (fs := []) (tn := tn) h1 h2 (n := 3) (by omega) (by omega)) rfl rfl rfl rfl rfl rfl rfl ⟨⟨rfl, rfl⟩, rfl⟩ ?_
  rintro _ ⟨hq, rfl, _, _⟩
  refine G (T := T) 1000 rfl ?_
  refine Ck [1, 2, 3, 4] (pJ (fs := []) (tn := tn) h1 h2 (by omega)) rfl rfl rfl rfl rfl rfl rfl ⟨⟨rfl, rfl⟩, rfl⟩ ?_
  rintro _ ⟨s1, s2, rfl, hs1, hs2⟩
  generalize hts : (iB tn).map tdD = TS
  generalize hgs : (fT tn ++ [gbT s1, gbW s2]).map gbD = GS
  refine G (T := T) 100006 rfl ?_
  refine (Nrh 5 2 71 10 rfl rfl rfl rfl rfl).c ?_
  refine G (T := T) 1000 rfl ?_
  refine Lq [2, 3, 4, 5, 6, 7] (fun (q : Nat × Nat × List (List D) × List Fu) r => (8, xi (q.1 : Nat)) :: r) (fun q => mkRx 1 2 3 4 l q.2.1 q.2.2.1 tn 1 ++ [⟨5, 0, .cells [.d (.s TS), .d (.s GS), .l 6 0 10 0 0 0] 29⟩, ⟨6, 0, .row 0 [] 71 10⟩, ⟨0, 0, .cells [.z, .z, .z] 29⟩]) 7 (fun q => q.1 ≤ 1 + many ∧ q.2.1 = q.2.2.2.length ∧ q.2.2.1 = q.2.2.2.map fuD ∧ q.2.2.2.length = q.1 ∧ q.2.2.2.map (·.nm) = funL.take q.1 ∧ ∀ f ∈ q.2.2.2, FR f) (fun q => 1 + many - q.1) (0, 0, [], []) rfl ⟨Nat.zero_le _, rfl, rfl, rfl, rfl, fun f hf => (by cases hf)⟩ ?_
  rintro ⟨i, n, R, fs⟩ ⟨hi, hn9, hR9, hl, hnm, hF⟩; dsimp only at hi hn9 hR9 hl hnm hF ⊢; subst hn9 hR9
  refine G (T := T) 1000 rfl ?_
  refine If rfl (fun h => ?_) (fun h => ?_)
  · have hi1 := of_decide_eq_true h
    obtain ⟨y, hy, hyf⟩ := funL_get (i := i) (by omega)
    refine G (T := T) 39 rfl ?_
    refine Ix (T := T) (rows := funL.map bM) i (ab hy) rfl rfl rfl rfl ⟨rfl, rfl⟩ rfl rfl ?_
    refine G (T := T) 1000 rfl ?_
    have fin : ∀ {f : Fu}, f.nm = y → FR f → (i + 1 ≤ 1 + many ∧ fs.length + 1 = (fs ++ [f]).length ∧ fs.map fuD ++ [fuD f] = (fs ++ [f]).map fuD ∧ (fs ++ [f]).length = i + 1 ∧ (fs ++ [f]).map (·.nm) = funL.take (i + 1) ∧ ∀ g ∈ fs ++ [f], FR g) := fun {f} h1 h2 => ⟨by omega, by rw [List.length_append]; rfl, mi fs f, by rw [List.length_append, hl]; rfl, by rw [List.map_append, hnm, List.take_succ, hy, ← h1]; rfl, fun g hg => by
      rcases List.mem_append.1 hg with hg | hg
      · exact hF g hg
      · rw [List.mem_singleton.1 hg]; exact h2⟩
    refine If rfl (fun h => ?_) (fun h => ?_)
    · refine G (T := T) 1000 rfl ?_
      refine Cx' [1, 2, 3, 4, 7] (fun a => mkRn 1 2 3 4 l fs tn 1 ++ [fuB' 7 y (.d (.s (a.1.map paD))) a.2.1 (cond a.2.2 .z (.d (.s [])))]) (nI (fs := fs) (tn := tn) h1 h2 y) rfl rfl rfl rfl rfl rfl rfl ⟨⟨rfl, rfl⟩, rfl⟩ (by rintro ⟨_, _, b⟩; cases b <;> rfl) (fun _ => rfl) ?_
      rintro ⟨ps, k, b⟩ ⟨hp1, hp2, hk⟩; dsimp only at hp1 hp2 hk ⊢
      have hFR := nJ hyf hp1 hp2 hk
      cases b
      all_goals
        refine G (T := T) 1000 rfl ?_
        exact Nq (i + 1, _, _, fs ++ [⟨y, ps, .mk k eS 0 [], [], false, 0, 0⟩]) (fin rfl hFR) (by show 1 + many - (i + 1) < 1 + many - i; omega)
    · refine G (T := T) 1000 rfl ?_
      exact Nq (i + 1, _, _, fs ++ [⟨y, [], .mk 7 eS 0 [], [], false, 0, 0⟩]) (fin rfl (nJ hyf (fun _ h => by cases h) (Nat.zero_le _) (by omega))) (by show 1 + many - (i + 1) < 1 + many - i; omega)
  have hi2 : i = 1 + many := by have := of_decide_eq_false h; omega
  have hfl4 : fs.length ≤ 4 := by omega
  refine G (T := T) 100014 rfl ?_
  refine Zc 4 rfl ?_
  refine G (T := T) 1000 rfl ?_
  refine Lq [2, 3, 4, 5, 6] (fun (q : Nat × Nat × KV × Nat × List (List D) × List Fu) r => (10, xi (q.1 : Nat)) :: r) (fun q => mkQn 1 2 3 l fs tn q.2.1 q.2.2.1.vars [] q.2.2.1.lf q.2.2.1.mn q.2.2.1.ct 1 1 ++ [⟨5, 0, .cells [.d (.s TS), .d (.s GS), .l 6 1 10 0 q.2.2.2.1 q.2.2.2.1] 29⟩, ⟨6, 1, .row q.2.2.2.1 q.2.2.2.2.1 71 10⟩, ⟨0, 0, .cells [.z, .z, .z] 29⟩]) 7 (fun q => q.1 ≤ 1 + many ∧ q.2.2.2.1 = q.2.2.2.2.2.length ∧ q.2.2.2.2.1 = q.2.2.2.2.2.map fuD ∧ q.2.2.2.2.2.length = q.1 ∧ q.2.2.2.2.2.map (·.nm) = funL.take q.1 ∧ ∀ f ∈ q.2.2.2.2.2, FuM f) (fun q => 1 + many - q.1) (0, 0, ⟨[], 0, 0, 0⟩, 0, [], []) rfl ⟨Nat.zero_le _, rfl, rfl, rfl, rfl, fun f hf => (by cases hf)⟩ ?_
  rintro ⟨i2, me, v, n, R, out⟩ ⟨hj, hn9, hR9, hol, honm, hoF⟩; dsimp only at hj hn9 hR9 hol honm hoF ⊢; subst hn9 hR9
  refine G (T := T) 1000 rfl ?_
  refine If rfl (fun h => ?_) (fun h => ?_)
  · have hj1 := of_decide_eq_true h
    obtain ⟨f, hfi⟩ := ah (l := fs) (j := i2) (by omega)
    have hFR := hF f (List.mem_of_getElem? hfi)
    have hfy : funL[i2]? = some f.nm := by
      have e : (fs.map (·.nm))[i2]? = some f.nm := by rw [List.getElem?_map, hfi]; rfl
      rw [hnm, List.getElem?_take, if_pos (by omega)] at e
      exact e
    have hpl := hFR.pl
    refine G (T := T) 86 rfl ?_
    refine Ix (T := T) i2 (ab hfi) rfl rfl rfl rfl ⟨rfl, rfl⟩ rfl rfl ?_
    refine G (T := T) 100024 rfl ?_
    refine (SRto.wk 1 4 ndP rfl rfl rfl rfl ⟨_, rfl⟩).c ?_
    refine (Nrh 1 5 9 1 rfl rfl rfl rfl rfl).c ?_
    refine G (T := T) 1000 rfl ?_
    refine Lq [2, 3, 4, 5, 6, 10, 11] (fun (q : Nat × Nat × List (List D) × List ByteArray) r => (12, xi (q.1 : Nat)) :: r) (fun q => mkQx 1 8 3 l fs tn i2 q.2.1 q.2.2.1 [] 8 0 0 1 1 ++ [⟨7, 0, .cells ((fuD f).map .d) 71⟩, ⟨5, 0, .cells [.d (.s TS), .d (.s GS), .l 6 1 10 0 out.length out.length] 29⟩, ⟨6, 1, .row out.length (out.map fuD) 71 10⟩, ⟨0, 0, .cells [.z, .z, .z] 29⟩]) 9 (fun q => q.1 ≤ f.ps.length ∧ q.2.1 = q.2.2.2.length ∧ q.2.2.1 = q.2.2.2.map bM ∧ q.2.2.2.length ≤ q.1 ∧ ∀ s ∈ q.2.2.2, dL s = true) (fun q => f.ps.length - q.1) (0, 0, [], []) rfl ⟨Nat.zero_le _, rfl, rfl, Nat.zero_le _, fun s hs => (by cases hs)⟩ ?_
    rintro ⟨k, n, R, vars⟩ ⟨hk, hn9, hR9, hvl, hvn⟩; dsimp only at hk hn9 hR9 hvl hvn ⊢; subst hn9 hR9
    refine G (T := T) 1000 rfl ?_
    refine If rfl (fun h => ?_) (fun h => ?_)
    · have hkl := of_decide_eq_true h; rw [List.length_map] at hkl
      obtain ⟨p, hp⟩ := ah (l := f.ps) (j := k) (by omega)
      refine G (T := T) 98 rfl ?_
      refine Ix (T := T) k (ab hp) rfl rfl rfl rfl ⟨rfl, rfl⟩ rfl rfl ?_
      refine G (T := T) 1000 rfl ?_
      refine If rfl (fun h => ?_) (fun h => ?_)
      · refine G (T := T) 111 rfl ?_
        refine Ix (T := T) k (ab hp) rfl rfl rfl rfl ⟨rfl, rfl⟩ rfl rfl ?_
        refine G (T := T) 1000 rfl ?_
        refine Nq (k + 1, _, _, vars ++ [p.nm]) ⟨by dsimp only; omega, ?_, ?_, by dsimp only; rw [List.length_append]; simp only [List.length_cons, List.length_nil]; omega, fun s hs => ?_⟩ (by show _ - (k + 1) < _ - k; omega) ⟨⟨_, _, rfl, rfl⟩, rfl, rfl⟩
        · dsimp only; rw [List.length_append]; rfl
        · dsimp only; rw [List.map_append]; rfl
        · rcases List.mem_append.1 hs with hs | hs
          · exact hvn s hs
          · rw [List.mem_singleton.1 hs]; exact (hFR.ps p (List.mem_of_getElem? hp)).1
      · refine G (T := T) 1000 rfl ?_
        exact Nq (k + 1, _, _, vars) ⟨by dsimp only; omega, rfl, rfl, by dsimp only; omega, hvn⟩ (by show _ - (k + 1) < _ - k; omega)
    have hc : (⟨l, fs, tn, i2, vars, [], 8, 0, 0⟩ : KC).ok := ⟨h1, h2, hvn, by show vars.length ≤ 1000; omega, by show i2 < fs.length; omega, by show fs.length ≤ 1000; omega, hF, by show tn ≤ 1000; omega, fun s hs => (by cases hs), by show 0 ≤ 1000; omega⟩
    have hI0 : KI (vars.length + 8) ⟨vars, 8, 0, 0⟩ := ⟨hvn, Nat.le_refl _, by show 0 ≤ 8; omega, by show 0 + 8 ≤ 8; omega, by omega⟩
    refine G (T := T) 1000 rfl ?_
    refine Cy [1, 8, 3] (fun a => .a (.c (.l 9 1 11 0 a.2.length a.2.length))) (fun a => mkQn 1 8 3 l fs tn i2 a.1.vars [] a.1.lf a.1.mn a.1.ct 2 2 ++ [⟨9, 1, .row a.2.length (a.2.map smD) 66 11⟩]) (mh false 3 (fun j _ hj => mk_stmts j hj) (by omega) ⟨l, fs, tn, i2, vars, [], 8, 0, 0⟩ (vars.length + 8) 1 hc hI0 rfl (by show 0 + 3 ≤ 8; omega)) rfl rfl rfl rfl rfl rfl rfl ⟨⟨rfl, rfl⟩, rfl⟩ (fun _ => rfl) (fun _ => rfl) rfl ?_
    rintro ⟨v2, ss⟩ ⟨hI2, hS⟩; dsimp only at hI2 hS ⊢
    rw [ZB3] at hS
    have hslen := hS.len
    have fin : ∀ {b : List Sm}, SGs 399999999 b → (i2 + 1 ≤ 1 + many ∧ out.length + 1 = (out ++ [iU f b]).length ∧ out.map fuD ++ [fuD (iU f b)] = (out ++ [iU f b]).map fuD ∧ (out ++ [iU f b]).length = i2 + 1 ∧ (out ++ [iU f b]).map (·.nm) = funL.take (i2 + 1) ∧ ∀ g ∈ out ++ [iU f b], FuM g) := fun {b} hb => ⟨by omega, by rw [List.length_append]; rfl, mi _ _, by rw [List.length_append, hol]; rfl, by rw [List.map_append, honm, List.take_succ, hfy]; rfl, fun g hg => by
      rcases List.mem_append.1 hg with hg | hg
      · exact hoF g hg
      · rw [List.mem_singleton.1 hg]; exact ⟨⟨hFR.nm, hFR.ps, hFR.pl, hFR.res, rfl, hFR.body.2⟩, hb⟩⟩
    refine G (T := T) 1000 rfl ?_
    refine If rfl (fun h => ?_) (fun h => ?_)
    · refine G (T := T) 1000 rfl ?_
      refine Cq (ai ⟨#[103, 48]⟩) rfl rfl rfl rfl rfl ⟨rfl, rfl⟩ ?_
      refine G (T := T) 133 rfl ?_
      refine Zr 9 rfl ?_
      refine G (T := T) 1000 rfl ?_
      have hS2 : SGs 399999999 (ss ++ [outS 1 (av ⟨#[103, 48]⟩)]) := (hS.snoc (sg_out (n := 1) (by omega) (by omega) (bJ (s := ⟨#[103, 48]⟩) (by decide)))).mono (by omega)
      refine Nqn (fun g => bif Nat.beq g 2 then 8 else g) (i2 + 1, i2, v2, _, _, out ++ [iU f (ss ++ [outS 1 (av ⟨#[103, 48]⟩)])]) ⟨(fin hS2).1, ?_, ?_, (fin hS2).2.2.2⟩ (by show 1 + many - (i2 + 1) < 1 + many - i2; omega) ⟨⟨_, _, rfl, rfl⟩, rfl, rfl⟩
      · exact (fin hS2).2.1
      · rw [← (fin hS2).2.2.1]
        simp only [fuD, List.map_append]
        rfl
    · refine G (T := T) 133 rfl ?_
      refine Zr 9 rfl ?_
      refine G (T := T) 1000 rfl ?_
      exact Nqn (fun g => bif Nat.beq g 2 then 8 else g) (i2 + 1, i2, v2, _, _, out ++ [iU f ss]) (fin (hS.mono (by omega))) (by show 1 + many - (i2 + 1) < 1 + many - i2; omega)
  have hol2 : out.length = 1 + many := by have := of_decide_eq_false h; omega
  have fin : ∀ {hd : List Fu}, (hd = [] ∨ ∃ b, hd = [intF b] ∧ SGs 100 b) → ∀ {r : XV}, r = xd [.s TS, .s GS, .s ((out ++ hd).map fuD)] → ∃ p, r = xd (pgD p) ∧ MP p := fun {hd} h1 {r} h2 => ⟨⟨iB tn, fT tn ++ [gbT s1, gbW s2], out ++ hd⟩, by rw [h2, ← hts, ← hgs]; rfl, tn, s1, s2, out, hd, by omega, hs1, hs2, rfl, by omega, by omega, by rw [honm, hol], hoF, h1⟩
  refine G (T := T) 1000 rfl ?_
  refine If rfl (fun h => ?_) (fun h => ?_)
  · refine G (T := T) 1000 rfl ?_
    refine Cq (ai ⟨#[103, 49]⟩) rfl rfl rfl rfl rfl ⟨rfl, rfl⟩ ?_
    refine G (T := T) 1000 rfl ?_
    refine Ck [1, 2, 3] (az (c := ⟨l, fs, tn, me, v.vars, [], v.lf, v.mn, v.ct⟩) h1 h2 (n := 3) (by omega) (by omega)) rfl rfl rfl rfl rfl rfl rfl ⟨⟨rfl, rfl⟩, rfl⟩ ?_
    rintro _ ⟨q, rfl, q1, q2⟩
    refine G (T := T) 1000 rfl ?_
    refine Cq (ay (n := 1 + q) (by omega) (by omega)) rfl rfl rfl rfl rfl ⟨rfl, rfl⟩ ?_
    refine G (T := T) 1000 rfl ?_
    refine Cq (aM ⟨#[43]⟩ (av ⟨#[103, 49]⟩) (bI (1 + q))) rfl rfl rfl rfl rfl ⟨rfl, rfl⟩ ?_
    refine G (T := T) 1000 rfl ?_
    refine Cq (ai ⟨#[103, 49]⟩) rfl rfl rfl rfl rfl ⟨rfl, rfl⟩ ?_
    refine G (T := T) 1000 rfl ?_
    refine Cq (ai ⟨#[103, 49]⟩) rfl rfl rfl rfl rfl ⟨rfl, rfl⟩ ?_
    refine G (T := T) 100037 rfl ?_
    refine Zc 6 rfl ?_
    refine G (T := T) 1000 rfl ?_
    let b : List Sm := [.mk 2 eS ty4z 0 [av ⟨#[103, 49]⟩, eN ⟨#[43]⟩ (av ⟨#[103, 49]⟩) (bI (1 + q))] [] [] [], outS 9 (av ⟨#[103, 49]⟩)]
    have hb : SGs 100 b := (SGs.cons (sg_asg (A := 1) ⟨bJ (by decide), rfl⟩ (eQ (by decide) (bJ (by decide)) (fS (n := 1 + q) (by omega) (by omega)))) (SGs.one (sg_out (n := 9) (by omega) (by omega) (bJ (by decide))))).mono (by omega)
    exact Fp (T := T) (xd [.s TS, .s GS, .s (out.map fuD ++ [fuD (intF b)])]) (fin (.inr ⟨b, rfl, hb⟩) (by rw [List.map_append]; rfl)) rfl rfl
  · refine G (T := T) 100037 rfl ?_
    refine Zc 6 rfl ?_
    refine G (T := T) 1000 rfl ?_
    exact Fp (T := T) (xd [.s TS, .s GS, .s (out.map fuD)]) (fin (.inl rfl) (by rw [List.append_nil])) rfl rfl
end
section
open Go Go.RowKit Go.Proofs K
abbrev wrg : PanicEntry := { v := .iface 113 (.agg #[]), recovered := false }
variable {pk : Pk}
theorem cH {b : Bool} (hpc : pk.pc = wrg) (h : b = false → pk.ψ) : XP Tryz.prog pk 52 [xb b] (fun r => r = .t [] ∧ b = true) := by
  refine XP.en Tryz.func52 Tryz.ntmps52 (by rintro _ ⟨rfl, _⟩; rfl) (fun w0 own H V v0 hf => ?_)
  refine G (T := T) 1000 rfl ?_
  refine If rfl (fun h1 => ?_) (fun h1 => ?_)
  · refine G (T := T) 1000 rfl ?_
    refine Mf (by kernel_rfl) rfl rfl ⟨rfl, rfl⟩ ?_
    refine G (T := T) 1000 rfl ?_
    exact Pn rfl hpc (h (by cases b <;> simp_all))
  · refine G (T := T) 1000 rfl ?_
    exact Fp (T := T) (.t []) ⟨rfl, by cases b <;> simp_all⟩ rfl rfl
theorem ft_kid {t : Tr} {i : Int} (hpc : pk.pc = wrg) (h0 : 0 ≤ i) (h : (t.kids)[i.toNat]? = none → pk.ψ) : XP Tryz.prog pk 99 [xd (trd t), xi i] (fun r => ∃ u, t.kids[i.toNat]? = some u ∧ r = xd (trd u)) := by
  obtain ⟨lb, ks⟩ := t
  obtain ⟨n, rfl⟩ := Int.eq_ofNat_of_zero_le h0
  rw [ba]
  refine XP.en Tryz.func99 Tryz.ntmps99 (by rintro _ ⟨u, _, rfl⟩; rfl) (fun w0 own H V v0 hf => ?_)
  refine G (T := T) 100001 rfl ?_
  refine (FzTo.bz 0 rfl).c ?_
  refine G (T := T) 1000 rfl ?_
  refine Ce (cH hpc (b := decide ((n : Int) < (aP ks).length)) (fun hb => h ?_)) rfl rfl rfl rfl rfl ⟨rfl, rfl⟩ ?_
  · have := of_decide_eq_false hb
    rw [List.length_map] at this
    exact List.getElem?_eq_none (by show ks.length ≤ n; omega)
  rintro _ ⟨rfl, hb⟩
  have hlt := of_decide_eq_true hb
  rw [List.length_map] at hlt
  obtain ⟨u, hu⟩ := ah (l := ks) (j := n) (by omega)
  refine G (T := T) 1000 rfl ?_
  refine Ix (T := T) n (ab hu) rfl rfl rfl rfl ⟨rfl, rfl⟩ rfl rfl ?_
  refine G (T := T) 1000 rfl ?_
  exact Fp (T := T) (xd (trd u)) ⟨u, hu, rfl⟩ rfl rfl
end
section
open Go Go.RowKit Go.Proofs K
abbrev xs' (s : ByteArray) : XA := .c (.d (.c (.string s)))
abbrev xi' (n : Int) : XA := .c (.d (.c (.int .i64 n)))
abbrev xb' (b : Bool) : XA := .c (.d (.c (.bool b)))
def hexI (b : UInt8) : Int := match bV b with | some d => (d : Int) | none => -1
structure FTk (pk : Pk) : Prop where
  pc : pk.pc = wrg
  cut : ∀ s : ByteArray, s.size ≤ 1000000000 → XQ Tryz.prog pk 145 [xs s, xs ⟨#[32]⟩] (.t [xs' (ad s), xs' (ae s), xb' (decide (cy s.data.toList < s.data.toList.length))])
  atoi : ∀ s : ByteArray, s.size ≤ 1000000000 → XP Tryz.prog pk 178 [xs s] (fun r => (∃ n, bh s = some n ∧ r = .t [xi' n, .c (.d (.c .nilIface))]) ∨ (bh s = none ∧ ∃ n t v, r = .t [xi' n, .c (.d (.c (.iface t v)))]))
  idx : ∀ b : UInt8, XQ Tryz.prog pk 147 [xs ⟨#[48, 49, 50, 51, 52, 53, 54, 55, 56, 57, 97, 98, 99, 100, 101, 102]⟩, xv (.int .u8 (b.toNat : Int))] (xi (hexI b))
variable {pk : Pk}
theorem bb_len (l : List UInt8) : (bb l).size = l.length := by show l.toArray.size = _; rw [List.size_toArray]
theorem gN {s : ByteArray} (h : s.size ≤ 1000000000) : (ae s).size ≤ 1000000000 := by
  have e2 : s.data.toList.length = s.size := rfl
  rw [ae, bb_len, List.length_drop]; omega
theorem bN (h : FTk pk) {t : Tr} (hs : (lb t).size ≤ 1000000000) : XQ Tryz.prog pk 100 [xd (trd t)] (.t [xs' (ad (lb t)), xs' (ae (lb t))]) := by
  refine XQ.en Tryz.func100 Tryz.ntmps100 (fun w0 own H V v0 hf => ?_)
  refine G (T := T) 100001 rfl ?_
  refine (FzTo.bz 0 rfl).c ?_
  refine G (T := T) 1000 rfl ?_
  refine Cq (h.cut (lb t) hs) rfl rfl rfl rfl rfl ⟨rfl, rfl⟩ ?_
  refine G (T := T) 1000 rfl ?_
  exact Fe (T := T) rfl rfl
theorem ft_listed (h : FTk pk) {t : Tr} {i : Int} (h0 : 0 ≤ i) {w : ByteArray} (hp : (∀ u, t.kids[i.toNat]? = some u → lb u ≠ w) → pk.ψ) : XP Tryz.prog pk 46 [xd (trd t), xi i, xs w] (fun r => ∃ u, t.kids[i.toNat]? = some u ∧ lb u = w ∧ r = xr (aP u.kids)) := by
  refine XP.en Tryz.func46 Tryz.ntmps46 (by rintro _ ⟨u, _, _, rfl⟩; rfl) (fun w0 own H V v0 hf => ?_)
  refine G (T := T) 100001 rfl ?_
  refine (FzTo.bz 0 rfl).c ?_
  refine G (T := T) 1000 rfl ?_
  refine Ce (ft_kid h.pc h0 (t := t) (fun hn => hp (fun u hu => by rw [hn] at hu; cases hu))) rfl rfl rfl rfl rfl ⟨rfl, rfl⟩ ?_
  rintro _ ⟨u, hu, rfl⟩
  obtain ⟨l, ks⟩ := u
  rw [ba]
  refine G (T := T) 1000 rfl ?_
  refine Ce (cH h.pc (b := decide (l = w)) (fun hb => hp (fun u' hu' => by rw [hu] at hu'; cases hu'; exact of_decide_eq_false hb))) rfl rfl rfl rfl rfl ⟨rfl, rfl⟩ ?_
  rintro _ ⟨rfl, hb⟩
  have hlw := of_decide_eq_true hb
  refine G (T := T) 1000 rfl ?_
  exact Fp (T := T) (xr (aP ks)) ⟨.node l ks, hu, hlw, rfl⟩ rfl rfl
theorem ft_number (h : FTk pk) {s : ByteArray} (hs : s.size ≤ 1000000000) (hp : bh s = none → pk.ψ) : XP Tryz.prog pk 146 [xs s] (fun r => ∃ n, bh s = some n ∧ r = xi n) := by
  refine XP.en Tryz.func146 Tryz.ntmps146 (by rintro _ ⟨u, _, rfl⟩; rfl) (fun w0 own H V v0 hf => ?_)
  refine G (T := T) 1000 rfl ?_
  refine Ce (h.atoi s hs) rfl rfl rfl rfl rfl ⟨rfl, rfl⟩ ?_
  rintro _ (⟨n, hn, rfl⟩ | ⟨hn, n, t, v, rfl⟩)
  · refine G (T := T) 11 rfl ?_
    refine En true Tryz.underlying234 (.inl ⟨rfl, rfl⟩) rfl rfl ⟨rfl, rfl⟩ ?_
    refine G (T := T) 1000 rfl ?_
    refine Ce (cH h.pc (b := true) (fun hb => (by cases hb))) rfl rfl rfl rfl rfl ⟨rfl, rfl⟩ ?_
    rintro _ ⟨rfl, _⟩
    refine G (T := T) 1000 rfl ?_
    exact Fp (T := T) (xi n) ⟨n, hn, rfl⟩ rfl rfl
  · refine G (T := T) 11 rfl ?_
    refine En false Tryz.underlying234 (.inr ⟨rfl, _, _, rfl⟩) rfl rfl ⟨rfl, rfl⟩ ?_
    refine G (T := T) 1000 rfl ?_
    refine Ce (cH h.pc (b := false) (fun _ => hp hn)) rfl rfl rfl rfl rfl ⟨rfl, rfl⟩ ?_
    rintro _ ⟨rfl, hb⟩
    cases hb
theorem XP.toQ {P : Program} {f : FuncId} {args : List XV} {R : XV} {Ψ : XV → Prop} (h : XP P pk f args Ψ) (hr : ∀ r, Ψ r → r = R) (hp : pure R = true := by rfl) : XQ P pk f args R := by
  obtain ⟨h1, h2, h3, h4⟩ := h
  refine ⟨h1, by rintro _ rfl; exact hp, h3, ?_⟩
  intro B e1 e2 e3 sg vals q1 q2 q3 w hw
  refine Calls.mono (h4 B e1 e2 e3 sg vals q1 q2 q3 w hw) ?_
  rintro e w' (⟨v, r, hp', V', H', sg', e4, ⟨e5, e6⟩, e7⟩ | h)
  · exact .inl ⟨v, r, hp', V', H', sg', e4, ⟨hr r e5, e6⟩, e7⟩
  · exact .inr h
def uJ : Tr := .node w_u16 []
def aB (t : Tr) (i : Nat) : Tr := (t.kids[i]?).getD uJ
def dw (s : ByteArray) : Int := (bh s).getD 0
def aT (t : Tr) (i : Nat) : List Tr := (aB t i).kids
theorem dx (h : FTk pk) {t : Tr} {i : Int} (h0 : 0 ≤ i) (hp : (t.kids)[i.toNat]? = none → pk.ψ) : XQ Tryz.prog pk 99 [xd (trd t), xi i] (xd (trd (aB t i.toNat))) :=
  (ft_kid h.pc h0 hp).toQ (by rintro _ ⟨u, hu, rfl⟩; rw [aB, hu]; rfl)
theorem dO (h : FTk pk) {s : ByteArray} (hs : s.size ≤ 1000000000) (hp : bh s = none → pk.ψ) : XQ Tryz.prog pk 146 [xs s] (xi (dw s)) :=
  (ft_number h hs hp).toQ (by rintro _ ⟨n, hn, rfl⟩; rw [dw, hn]; rfl)
theorem cS (h : FTk pk) {t : Tr} {i : Int} (h0 : 0 ≤ i) {w : ByteArray} (hp : (∀ u, t.kids[i.toNat]? = some u → lb u ≠ w) → pk.ψ) : XQ Tryz.prog pk 46 [xd (trd t), xi i, xs w] (xr (aP (aT t i.toNat))) :=
  (ft_listed h h0 hp).toQ (by rintro _ ⟨u, hu, _, rfl⟩; rw [aT, aB, hu]; rfl)
theorem gO (h : FTk pk) {t : Tr} {i : Int} (h0 : 0 ≤ i) (hs : (lb (aB t i.toNat)).size ≤ 1000000000) (hp : (t.kids[i.toNat]? = none ∨ bh (ae (lb (aB t i.toNat))) = none) → pk.ψ) : XQ Tryz.prog pk 104 [xd (trd t), xi i] (xi (dw (ae (lb (aB t i.toNat))))) := by
  refine XQ.en Tryz.func104 Tryz.ntmps104 (fun w0 own H V v0 hf => ?_)
  refine G (T := T) 100001 rfl ?_
  refine (FzTo.bz 0 rfl).c ?_
  refine G (T := T) 1000 rfl ?_
  refine Cq (dx h h0 (t := t) (i := i) (fun hn => hp (.inl hn))) rfl rfl rfl rfl rfl ⟨rfl, rfl⟩ ?_
  refine G (T := T) 1000 rfl ?_
  refine Cq (bN h (t := aB t i.toNat) hs) rfl rfl rfl rfl rfl ⟨rfl, rfl⟩ ?_
  refine G (T := T) 1000 rfl ?_
  refine Cq (dO h (s := ae (lb (aB t i.toNat))) (gN hs) (fun hn => hp (.inr hn))) rfl rfl rfl rfl rfl ⟨rfl, rfl⟩ ?_
  refine G (T := T) 1000 rfl ?_
  exact Fe (T := T) rfl rfl
end
section
open Go Go.RowKit Go.Proofs K
variable {pk : Pk}
mutual
def lbO : Tr → Prop
  | .node l ks => l.size ≤ 1000000000 ∧ ks.length ≤ 100000000000 ∧ jc ks
def jc : List Tr → Prop
  | [] => True
  | t :: r => lbO t ∧ jc r
end
theorem aH : ∀ {l : List Tr} {t : Tr}, jc l → t ∈ l → lbO t
  | u :: us, t, h, hm => by
    rcases List.mem_cons.1 hm with rfl | hm
    · exact h.1
    · exact aH h.2 hm
def jTy : Tr → Ty4
  | .node L ks =>
    if ad L = w_u16 then .mk 1 eS 0 []
    else if ad L = w_u8 then .mk 2 eS 0 []
    else if ad L = w_s16 then .mk 3 eS 0 []
    else if ad L = w_void then .mk 7 eS 0 []
    else if ad L = fN then .mk 4 (ae L) 0 []
    else .mk (if ad L = cE then 5 else 6) eS (dw (ae L)) [match ks with | [] => .mk 1 eS 0 [] | k :: _ => jTy k]
def hdJ : List Tr → Ty4
  | [] => .mk 1 eS 0 []
  | k :: _ => jTy k
theorem jTy_eq (L : ByteArray) (ks : List Tr) : jTy (.node L ks) = if ad L = w_u16 then .mk 1 eS 0 [] else if ad L = w_u8 then .mk 2 eS 0 [] else if ad L = w_s16 then .mk 3 eS 0 [] else if ad L = w_void then .mk 7 eS 0 [] else if ad L = fN then .mk 4 (ae L) 0 []
    else .mk (if ad L = cE then 5 else 6) eS (dw (ae L)) [hdJ ks] := by
  cases ks <;> (unfold jTy; rfl)
theorem kS : ∀ {t : Tr} {x : Ty4}, fTy t = some x → jTy t = x
  | .node L ks, x, h => by
    simp only [fTy] at h
    unfold jTy
    split at h
    · rename_i h1; rw [if_pos h1]; cases h; rfl
    rename_i h1; rw [if_neg h1]
    split at h
    · rename_i h1; rw [if_pos h1]; cases h; rfl
    rename_i h1; rw [if_neg h1]
    split at h
    · rename_i h1; rw [if_pos h1]; cases h; rfl
    rename_i h1; rw [if_neg h1]
    split at h
    · rename_i h1; rw [if_pos h1]; cases h; rfl
    rename_i h1; rw [if_neg h1]
    split at h
    · rename_i h1; rw [if_pos h1]; cases h; rfl
    rename_i h1; rw [if_neg h1]
    split at h
    · cases hn : bh (ae L) with
      | none => rw [hn] at h; cases h
      | some n =>
        rw [hn, Option.bind_some] at h
        match ks, h with
        | k :: r, h =>
          obtain ⟨y, hy, rfl⟩ := Option.map_eq_some_iff.1 h
          rw [dw, hn]
          show Ty4.mk _ _ n [jTy k] = _
          rw [kS hy]; rfl
    · cases h
theorem ft_leaf (h : FTk pk) : XQ Tryz.prog pk 103 [xd (trd uJ)] (xd (tyD (.mk 1 eS 0 []))) := by
  refine XQ.en Tryz.func103 Tryz.ntmps103 (fun w0 own H V v0 hf => ?_)
  refine G (T := T) 100001 rfl ?_
  refine (FzTo.bz 0 rfl).c ?_
  refine G (T := T) 1000 rfl ?_
  refine Cq (bN h (t := uJ) (by decide)) rfl rfl rfl rfl rfl ⟨rfl, rfl⟩ ?_
  rw [show ad (lb uJ) = w_u16 by decide]
  refine G (T := T) 1000 rfl ?_
  refine If rfl (fun _ => ?_) (fun h => ?_)
  · refine G (T := T) 1000 rfl ?_
    exact Fq (T := T) rfl rfl
  · exact absurd h (by decide)
theorem ft_type (h : FTk pk) : ∀ (n : Nat) (t : Tr), t.size ≤ n → lbO t → (fTy t = none → pk.ψ) → XQ Tryz.prog pk 103 [xd (trd t)] (xd (tyD (jTy t))) := by
  intro n
  induction n with
  | zero => intro t hn; cases t; simp only [Tr.size] at hn; omega
  | succ n ih =>
    rintro ⟨L, ks⟩ hn hl hp
    have hps : (ae L).size ≤ 1000000000 := gN hl.1
    refine XQ.en Tryz.func103 Tryz.ntmps103 (fun w0 own H V v0 hf => ?_)
    refine G (T := T) 100001 rfl ?_
    refine (FzTo.bz 0 rfl).c ?_
    refine G (T := T) 1000 rfl ?_
    refine Cq (bN h (t := .node L ks) hl.1) rfl rfl rfl rfl rfl ⟨rfl, rfl⟩ ?_
    rw [jTy_eq]
    simp only [fTy] at hp
    generalize hW : ad L = W at hp ⊢
    rw [show lb (.node L ks) = L from rfl, hW]
    refine G (T := T) 1000 rfl ?_
    refine If rfl (fun h1 => ?_) (fun h1 => ?_)
    · rw [if_pos (of_decide_eq_true h1)]
      refine G (T := T) 1000 rfl ?_
      exact Fq (T := T) rfl rfl
    rw [if_neg (of_decide_eq_false h1)]; rw [if_neg (of_decide_eq_false h1)] at hp
    refine G (T := T) 1000 rfl ?_
    refine If rfl (fun h1 => ?_) (fun h1 => ?_)
    · rw [if_pos (of_decide_eq_true h1)]
      refine G (T := T) 1000 rfl ?_
      exact Fq (T := T) rfl rfl
    rw [if_neg (of_decide_eq_false h1)]; rw [if_neg (of_decide_eq_false h1)] at hp
    refine G (T := T) 1000 rfl ?_
    refine If rfl (fun h1 => ?_) (fun h1 => ?_)
    · rw [if_pos (of_decide_eq_true h1)]
      refine G (T := T) 1000 rfl ?_
      exact Fq (T := T) rfl rfl
    rw [if_neg (of_decide_eq_false h1)]; rw [if_neg (of_decide_eq_false h1)] at hp
    refine G (T := T) 1000 rfl ?_
    refine If rfl (fun h1 => ?_) (fun h1 => ?_)
    · rw [if_pos (of_decide_eq_true h1)]
      refine G (T := T) 1000 rfl ?_
      exact Fq (T := T) rfl rfl
    rw [if_neg (of_decide_eq_false h1)]; rw [if_neg (of_decide_eq_false h1)] at hp
    refine G (T := T) 1000 rfl ?_
    refine If rfl (fun h1 => ?_) (fun h1 => ?_)
    · rw [if_pos (of_decide_eq_true h1)]
      refine G (T := T) 1000 rfl ?_
      exact Fq (T := T) rfl rfl
    rw [if_neg (of_decide_eq_false h1)]; rw [if_neg (of_decide_eq_false h1)] at hp
    refine G (T := T) 1000 rfl ?_
    have hA : W = cE ∨ W = gw → bh (ae L) = none → pk.ψ := fun hw e => hp (by rw [if_pos hw, e]; rfl)
    have hK : W = cE ∨ W = gw → (Tr.node L ks).kids[(0 : Int).toNat]? = none → pk.ψ := fun hw e => hp (by
      rw [if_pos hw]
      cases ks with
      | nil => cases bh (ae L) <;> rfl
      | cons k r => cases e)
    have hT : W = cE ∨ W = gw → XQ Tryz.prog pk 103 [xd (trd (aB (.node L ks) (0 : Int).toNat))] (xd (tyD (hdJ ks))) := fun hw => by
      cases ks with
      | nil => exact ft_leaf h
      | cons k r =>
        refine ih k ?_ hl.2.2.1 (fun e => hp ?_)
        · simp only [Tr.size, Tr.sizes] at hn; omega
        · rw [if_pos hw]
          show (bh (ae L)).bind (fun n => Option.map _ (fTy k)) = none
          rw [e]; cases bh (ae L) <;> rfl
    generalize hdJ ks = ty at hT ⊢
    refine If rfl (fun h1 => ?_) (fun h1 => ?_)
    · have hw := of_decide_eq_true h1
      rw [if_pos hw]
      refine G (T := T) 1000 rfl ?_
      refine Cq (dO h hps (hA (.inl hw))) rfl rfl rfl rfl rfl ⟨rfl, rfl⟩ ?_
      refine G (T := T) 1000 rfl ?_
      refine Cq (dx h (t := .node L ks) (i := 0) (by omega) (hK (.inl hw))) rfl rfl rfl rfl rfl ⟨rfl, rfl⟩ ?_
      refine G (T := T) 1000 rfl ?_
      refine Cq (hT (.inl hw)) rfl rfl rfl rfl rfl ⟨rfl, rfl⟩ ?_
      refine G (T := T) 1000 rfl ?_
      exact Fq (T := T) rfl rfl
    · have hna := of_decide_eq_false h1
      rw [if_neg hna]
      refine G (T := T) 1000 rfl ?_
      refine Ce (cH h.pc (b := decide (W = gw)) (fun hb => hp (by rw [if_neg (fun hw => hw.elim hna (of_decide_eq_false hb))]))) rfl rfl rfl rfl rfl ⟨rfl, rfl⟩ ?_
      rintro _ ⟨rfl, hb⟩
      have hw := of_decide_eq_true hb
      refine G (T := T) 1000 rfl ?_
      refine Cq (dO h hps (hA (.inr hw))) rfl rfl rfl rfl rfl ⟨rfl, rfl⟩ ?_
      refine G (T := T) 1000 rfl ?_
      refine Cq (dx h (t := .node L ks) (i := 0) (by omega) (hK (.inr hw))) rfl rfl rfl rfl rfl ⟨rfl, rfl⟩ ?_
      refine G (T := T) 1000 rfl ?_
      refine Cq (hT (.inr hw)) rfl rfl rfl rfl rfl ⟨rfl, rfl⟩ ?_
      refine G (T := T) 1000 rfl ?_
      exact Fq (T := T) rfl rfl
def fC (t : Tr) : Par := ⟨ae (lb t), jTy (aB t 0)⟩
theorem bn {α : Type} {ks : List Tr} {i : Nat} {f : Tr → Option α} (h : ks[i]? = none) : aA ks i f = none := by rw [aA, h]; rfl
theorem gP (h : FTk pk) {t : Tr} (hl : lbO t) (i : Int) (hp : aA t.kids i.toNat fTy = none → pk.ψ) : XQ Tryz.prog pk 103 [xd (trd (aB t i.toNat))] (xd (tyD (jTy (aB t i.toNat)))) := by
  obtain ⟨L, ks⟩ := t
  cases hk : ks[i.toNat]? with
  | none =>
    rw [show aB (.node L ks) i.toNat = uJ by rw [aB]; show (ks[i.toNat]?).getD uJ = uJ; rw [hk]; rfl, show jTy uJ = .mk 1 eS 0 [] by rw [uJ, jTy_eq, if_pos (by decide)]]
    exact ft_leaf h
  | some k =>
    rw [show aB (.node L ks) i.toNat = k by rw [aB]; show (ks[i.toNat]?).getD uJ = k; rw [hk]; rfl]
    exact ft_type h k.size k (Nat.le_refl _) (aH hl.2.2 (List.mem_of_getElem? hk)) (fun e => hp (by rw [aA]; show (ks[i.toNat]?).bind fTy = none; rw [hk]; exact e))
theorem oO (h : FTk pk) {t : Tr} (hl : lbO t) (hp : eK t = none → pk.ψ) : XQ Tryz.prog pk 102 [xd (trd t)] (xd (paD (fC t))) := by
  obtain ⟨L, ks⟩ := t
  have hp2 : aA (Tr.node L ks).kids (0 : Int).toNat fTy = none → pk.ψ := fun e => hp (by show (aA ks 0 fTy).map _ = none; rw [show aA ks 0 fTy = none from e]; rfl)
  refine XQ.en Tryz.func102 Tryz.ntmps102 (fun w0 own H V v0 hf => ?_)
  refine G (T := T) 100001 rfl ?_
  refine (FzTo.bz 0 rfl).c ?_
  refine G (T := T) 1000 rfl ?_
  refine Cq (bN h (t := .node L ks) hl.1) rfl rfl rfl rfl rfl ⟨rfl, rfl⟩ ?_
  refine G (T := T) 1000 rfl ?_
  refine Cq (dx h (t := .node L ks) (i := 0) (by omega) (fun e => hp2 (bn e))) rfl rfl rfl rfl rfl ⟨rfl, rfl⟩ ?_
  refine G (T := T) 1000 rfl ?_
  refine Cq (gP h (t := .node L ks) hl 0 hp2) rfl rfl rfl rfl rfl ⟨rfl, rfl⟩ ?_
  refine G (T := T) 1000 rfl ?_
  exact Fq (T := T) rfl rfl
end
section
open Go Go.RowKit Go.Proofs K
variable {pk : Pk}
theorem oP {l : List Tr} (J : Tr → Par) {fc : FuncId} {fs cs : List D} (hl : l.length ≤ 100000000000) (hcl : ∀ t ∈ l, XQ Tryz.prog pk fc (cs9 fs cs [xd (trd t)]) (xd (paD (J t)))) : XQ Tryz.prog pk 101 [xr (aP l), xf fc fs cs] (xr ((l.map J).map paD)) := by
  refine XQ.en Tryz.func101 Tryz.ntmps101 (fun w0 own H V v0 hf => ?_)
  refine G (T := T) 1000 rfl ?_
  refine (Nr 5 83 5 rfl rfl).c ?_
  refine Lq [1, 8, 9] (fun (q : Nat × List (List D)) r => (5, .a (.c (.l 0 1 5 0 q.1 q.1))) :: (10, xi (q.1 : Nat)) :: r) (fun q => [⟨0, 1, .row q.1 q.2 83 5⟩]) 1 (fun q => q.1 ≤ l.length ∧ q.2 = ((l.take q.1).map J).map paD) (fun q => l.length - q.1) (0, []) rfl ⟨Nat.zero_le _, rfl⟩ ?_
  rintro ⟨j, R⟩ ⟨hj, hR⟩; dsimp only at hj hR ⊢
  refine G (T := T) 1000 rfl ?_
  refine If rfl (fun h => ?_) (fun h => ?_)
  · have hjl := of_decide_eq_true h; rw [List.length_map] at hjl
    obtain ⟨y, hy⟩ := ah (l := l) (j := j) (by omega)
    refine G (T := T) 12 rfl ?_
    refine Ix (T := T) j (ab hy) rfl rfl rfl rfl ⟨rfl, rfl⟩ rfl rfl ?_
    refine G (T := T) 1000 rfl ?_
    refine Cv (hcl y (List.mem_of_getElem? hy)) rfl rfl rfl rfl rfl ⟨rfl, rfl⟩ ?_
    refine G (T := T) 1000 rfl ?_
    exact Nq (j + 1, R ++ [paD (J y)]) ⟨by omega, by dsimp only; rw [hR, List.take_add_one, hy]; simp⟩ (by show _ - (j + 1) < _ - j; omega)
  · have hjl := of_decide_eq_false h; rw [List.length_map] at hjl
    refine G (T := T) 1000 rfl ?_
    rw [List.take_of_length_le (by omega)] at hR; subst hR
    refine MS.fze 0 rfl ?_ (by repeat' (first | exact trivial | apply And.intro | rfl | (simp; omega)))
    exact Fq (T := T) rfl rfl
theorem oQ {l : List Tr} (J : Tr → Ex) {fc : FuncId} {fs cs : List D} (hl : l.length ≤ 100000000000) (hcl : ∀ t ∈ l, XQ Tryz.prog pk fc (cs9 fs cs [xd (trd t)]) (xd (exD (J t)))) : XQ Tryz.prog pk 150 [xr (aP l), xf fc fs cs] (xr ((l.map J).map exD)) := by
  refine XQ.en Tryz.func150 Tryz.ntmps150 (fun w0 own H V v0 hf => ?_)
  refine G (T := T) 1000 rfl ?_
  refine (Nr 5 87 4 rfl rfl).c ?_
  refine Lq [1, 8, 9] (fun (q : Nat × List (List D)) r => (5, .a (.c (.l 0 1 4 0 q.1 q.1))) :: (10, xi (q.1 : Nat)) :: r) (fun q => [⟨0, 1, .row q.1 q.2 87 4⟩]) 1 (fun q => q.1 ≤ l.length ∧ q.2 = ((l.take q.1).map J).map exD) (fun q => l.length - q.1) (0, []) rfl ⟨Nat.zero_le _, rfl⟩ ?_
  rintro ⟨j, R⟩ ⟨hj, hR⟩; dsimp only at hj hR ⊢
  refine G (T := T) 1000 rfl ?_
  refine If rfl (fun h => ?_) (fun h => ?_)
  · have hjl := of_decide_eq_true h; rw [List.length_map] at hjl
    obtain ⟨y, hy⟩ := ah (l := l) (j := j) (by omega)
    refine G (T := T) 12 rfl ?_
    refine Ix (T := T) j (ab hy) rfl rfl rfl rfl ⟨rfl, rfl⟩ rfl rfl ?_
    refine G (T := T) 1000 rfl ?_
    refine Cv (hcl y (List.mem_of_getElem? hy)) rfl rfl rfl rfl rfl ⟨rfl, rfl⟩ ?_
    refine G (T := T) 1000 rfl ?_
    exact Nq (j + 1, R ++ [exD (J y)]) ⟨by omega, by dsimp only; rw [hR, List.take_add_one, hy]; simp⟩ (by show _ - (j + 1) < _ - j; omega)
  · have hjl := of_decide_eq_false h; rw [List.length_map] at hjl
    refine G (T := T) 1000 rfl ?_
    rw [List.take_of_length_le (by omega)] at hR; subst hR
    refine MS.fze 0 rfl ?_ (by repeat' (first | exact trivial | apply And.intro | rfl | (simp; omega)))
    exact Fq (T := T) rfl rfl
theorem gQ {l : List Tr} (J : Tr → Sm) {fc : FuncId} {fs cs : List D} (hl : l.length ≤ 100000000000) (hcl : ∀ t ∈ l, XQ Tryz.prog pk fc (cs9 fs cs [xd (trd t)]) (xd (smD (J t)))) : XQ Tryz.prog pk 106 [xr (aP l), xf fc fs cs] (xr ((l.map J).map smD)) := by
  refine XQ.en Tryz.func106 Tryz.ntmps106 (fun w0 own H V v0 hf => ?_)
  refine G (T := T) 1000 rfl ?_
  refine (Nr 5 66 11 rfl rfl).c ?_
  refine Lq [1, 8, 9] (fun (q : Nat × List (List D)) r => (5, .a (.c (.l 0 1 11 0 q.1 q.1))) :: (10, xi (q.1 : Nat)) :: r) (fun q => [⟨0, 1, .row q.1 q.2 66 11⟩]) 1 (fun q => q.1 ≤ l.length ∧ q.2 = ((l.take q.1).map J).map smD) (fun q => l.length - q.1) (0, []) rfl ⟨Nat.zero_le _, rfl⟩ ?_
  rintro ⟨j, R⟩ ⟨hj, hR⟩; dsimp only at hj hR ⊢
  refine G (T := T) 1000 rfl ?_
  refine If rfl (fun h => ?_) (fun h => ?_)
  · have hjl := of_decide_eq_true h; rw [List.length_map] at hjl
    obtain ⟨y, hy⟩ := ah (l := l) (j := j) (by omega)
    refine G (T := T) 12 rfl ?_
    refine Ix (T := T) j (ab hy) rfl rfl rfl rfl ⟨rfl, rfl⟩ rfl rfl ?_
    refine G (T := T) 1000 rfl ?_
    refine Cv (hcl y (List.mem_of_getElem? hy)) rfl rfl rfl rfl rfl ⟨rfl, rfl⟩ ?_
    refine G (T := T) 1000 rfl ?_
    exact Nq (j + 1, R ++ [smD (J y)]) ⟨by omega, by dsimp only; rw [hR, List.take_add_one, hy]; simp⟩ (by show _ - (j + 1) < _ - j; omega)
  · have hjl := of_decide_eq_false h; rw [List.length_map] at hjl
    refine G (T := T) 1000 rfl ?_
    rw [List.take_of_length_le (by omega)] at hR; subst hR
    refine MS.fze 0 rfl ?_ (by repeat' (first | exact trivial | apply And.intro | rfl | (simp; omega)))
    exact Fq (T := T) rfl rfl
theorem back_45 {l : List Tr} (J : Tr → Td) {fc : FuncId} {fs cs : List D} (hl : l.length ≤ 100000000000) (hcl : ∀ t ∈ l, XQ Tryz.prog pk fc (cs9 fs cs [xd (trd t)]) (xd (tdD (J t)))) : XQ Tryz.prog pk 45 [xr (aP l), xf fc fs cs] (xr ((l.map J).map tdD)) := by
  refine XQ.en Tryz.func45 Tryz.ntmps45 (fun w0 own H V v0 hf => ?_)
  refine G (T := T) 1000 rfl ?_
  refine (Nr 5 85 3 rfl rfl).c ?_
  refine Lq [1, 8, 9] (fun (q : Nat × List (List D)) r => (5, .a (.c (.l 0 1 3 0 q.1 q.1))) :: (10, xi (q.1 : Nat)) :: r) (fun q => [⟨0, 1, .row q.1 q.2 85 3⟩]) 1 (fun q => q.1 ≤ l.length ∧ q.2 = ((l.take q.1).map J).map tdD) (fun q => l.length - q.1) (0, []) rfl ⟨Nat.zero_le _, rfl⟩ ?_
  rintro ⟨j, R⟩ ⟨hj, hR⟩; dsimp only at hj hR ⊢
  refine G (T := T) 1000 rfl ?_
  refine If rfl (fun h => ?_) (fun h => ?_)
  · have hjl := of_decide_eq_true h; rw [List.length_map] at hjl
    obtain ⟨y, hy⟩ := ah (l := l) (j := j) (by omega)
    refine G (T := T) 12 rfl ?_
    refine Ix (T := T) j (ab hy) rfl rfl rfl rfl ⟨rfl, rfl⟩ rfl rfl ?_
    refine G (T := T) 1000 rfl ?_
    refine Cv (hcl y (List.mem_of_getElem? hy)) rfl rfl rfl rfl rfl ⟨rfl, rfl⟩ ?_
    refine G (T := T) 1000 rfl ?_
    exact Nq (j + 1, R ++ [tdD (J y)]) ⟨by omega, by dsimp only; rw [hR, List.take_add_one, hy]; simp⟩ (by show _ - (j + 1) < _ - j; omega)
  · have hjl := of_decide_eq_false h; rw [List.length_map] at hjl
    refine G (T := T) 1000 rfl ?_
    rw [List.take_of_length_le (by omega)] at hR; subst hR
    refine MS.fze 0 rfl ?_ (by repeat' (first | exact trivial | apply And.intro | rfl | (simp; omega)))
    exact Fq (T := T) rfl rfl
theorem back_48 {l : List Tr} (J : Tr → Gb) {fc : FuncId} {fs cs : List D} (hl : l.length ≤ 100000000000) (hcl : ∀ t ∈ l, XQ Tryz.prog pk fc (cs9 fs cs [xd (trd t)]) (xd (gbD (J t)))) : XQ Tryz.prog pk 48 [xr (aP l), xf fc fs cs] (xr ((l.map J).map gbD)) := by
  refine XQ.en Tryz.func48 Tryz.ntmps48 (fun w0 own H V v0 hf => ?_)
  refine G (T := T) 1000 rfl ?_
  refine (Nr 5 80 8 rfl rfl).c ?_
  refine Lq [1, 8, 9] (fun (q : Nat × List (List D)) r => (5, .a (.c (.l 0 1 8 0 q.1 q.1))) :: (10, xi (q.1 : Nat)) :: r) (fun q => [⟨0, 1, .row q.1 q.2 80 8⟩]) 1 (fun q => q.1 ≤ l.length ∧ q.2 = ((l.take q.1).map J).map gbD) (fun q => l.length - q.1) (0, []) rfl ⟨Nat.zero_le _, rfl⟩ ?_
  rintro ⟨j, R⟩ ⟨hj, hR⟩; dsimp only at hj hR ⊢
  refine G (T := T) 1000 rfl ?_
  refine If rfl (fun h => ?_) (fun h => ?_)
  · have hjl := of_decide_eq_true h; rw [List.length_map] at hjl
    obtain ⟨y, hy⟩ := ah (l := l) (j := j) (by omega)
    refine G (T := T) 12 rfl ?_
    refine Ix (T := T) j (ab hy) rfl rfl rfl rfl ⟨rfl, rfl⟩ rfl rfl ?_
    refine G (T := T) 1000 rfl ?_
    refine Cv (hcl y (List.mem_of_getElem? hy)) rfl rfl rfl rfl rfl ⟨rfl, rfl⟩ ?_
    refine G (T := T) 1000 rfl ?_
    exact Nq (j + 1, R ++ [gbD (J y)]) ⟨by omega, by dsimp only; rw [hR, List.take_add_one, hy]; simp⟩ (by show _ - (j + 1) < _ - j; omega)
  · have hjl := of_decide_eq_false h; rw [List.length_map] at hjl
    refine G (T := T) 1000 rfl ?_
    rw [List.take_of_length_le (by omega)] at hR; subst hR
    refine MS.fze 0 rfl ?_ (by repeat' (first | exact trivial | apply And.intro | rfl | (simp; omega)))
    exact Fq (T := T) rfl rfl
theorem back_50 {l : List Tr} (J : Tr → Fu) {fc : FuncId} {fs cs : List D} (hl : l.length ≤ 100000000000) (hcl : ∀ t ∈ l, XQ Tryz.prog pk fc (cs9 fs cs [xd (trd t)]) (xd (fuD (J t)))) : XQ Tryz.prog pk 50 [xr (aP l), xf fc fs cs] (xr ((l.map J).map fuD)) := by
  refine XQ.en Tryz.func50 Tryz.ntmps50 (fun w0 own H V v0 hf => ?_)
  refine G (T := T) 1000 rfl ?_
  refine (Nr 5 71 10 rfl rfl).c ?_
  refine Lq [1, 8, 9] (fun (q : Nat × List (List D)) r => (5, .a (.c (.l 0 1 10 0 q.1 q.1))) :: (10, xi (q.1 : Nat)) :: r) (fun q => [⟨0, 1, .row q.1 q.2 71 10⟩]) 1 (fun q => q.1 ≤ l.length ∧ q.2 = ((l.take q.1).map J).map fuD) (fun q => l.length - q.1) (0, []) rfl ⟨Nat.zero_le _, rfl⟩ ?_
  rintro ⟨j, R⟩ ⟨hj, hR⟩; dsimp only at hj hR ⊢
  refine G (T := T) 1000 rfl ?_
  refine If rfl (fun h => ?_) (fun h => ?_)
  · have hjl := of_decide_eq_true h; rw [List.length_map] at hjl
    obtain ⟨y, hy⟩ := ah (l := l) (j := j) (by omega)
    refine G (T := T) 12 rfl ?_
    refine Ix (T := T) j (ab hy) rfl rfl rfl rfl ⟨rfl, rfl⟩ rfl rfl ?_
    refine G (T := T) 1000 rfl ?_
    refine Cv (hcl y (List.mem_of_getElem? hy)) rfl rfl rfl rfl rfl ⟨rfl, rfl⟩ ?_
    refine G (T := T) 1000 rfl ?_
    exact Nq (j + 1, R ++ [fuD (J y)]) ⟨by omega, by dsimp only; rw [hR, List.take_add_one, hy]; simp⟩ (by show _ - (j + 1) < _ - j; omega)
  · have hjl := of_decide_eq_false h; rw [List.length_map] at hjl
    refine G (T := T) 1000 rfl ?_
    rw [List.take_of_length_le (by omega)] at hR; subst hR
    refine MS.fze 0 rfl ?_ (by repeat' (first | exact trivial | apply And.intro | rfl | (simp; omega)))
    exact Fq (T := T) rfl rfl
theorem ce {α β : Type} {f : α → Option β} : ∀ {l : List α} {x : α}, x ∈ l → f x = none → bu f l = none
  | u :: us, x, hm, h => by
    rcases List.mem_cons.1 hm with rfl | hm
    · rw [bu, h]; rfl
    · rw [bu, ce hm h]; cases f u <;> rfl
theorem cf {α β : Type} {f : α → Option β} {J : α → β} (h : ∀ x y, f x = some y → J x = y) : ∀ {l : List α} {r : List β}, bu f l = some r → l.map J = r
  | [], r, e => by cases e; rfl
  | u :: us, r, e => by
    rw [bu] at e
    obtain ⟨y, hy, e⟩ := Option.bind_eq_some_iff.1 e
    obtain ⟨ys, hys, rfl⟩ := Option.map_eq_some_iff.1 e
    rw [List.map_cons, h _ _ hy, cf h hys]
theorem jPar_of {t : Tr} {x : Par} (h : eK t = some x) : fC t = x := by
  obtain ⟨L, ks⟩ := t
  obtain ⟨y, hy, rfl⟩ := Option.map_eq_some_iff.1 (show (aA ks 0 fTy).map _ = some x from h)
  obtain ⟨k, hk, hy⟩ := Option.bind_eq_some_iff.1 (show (ks[0]?).bind fTy = some y from hy)
  rw [fC, show aB (.node L ks) 0 = k by rw [aB]; show (ks[0]?).getD uJ = k; rw [hk]; rfl, kS hy]; rfl
theorem fq_fields (h : FTk pk) {ks : List Tr} (hn : ks.length ≤ 100000000000) (hl : jc ks) (hp : bu eK ks = none → pk.ψ) : XQ Tryz.prog pk 101 [xr (aP ks), xf 102 [] []] (xr ((ks.map fC).map paD)) :=
  oP (l := ks) fC hn (fun t ht => oO h (aH hl ht) (fun e => hp (ce ht e)))
def jTd (t : Tr) : Td := ⟨ae (lb t), decide (ad (lb t) = gE), t.kids.map fC⟩
theorem jTd_of {t : Tr} {x : Td} (h : fTd t = some x) : jTd t = x := by
  obtain ⟨L, ks⟩ := t
  obtain ⟨y, hy, rfl⟩ := Option.map_eq_some_iff.1 (show (bu eK ks).map _ = some x from h)
  rw [jTd, show (Tr.node L ks).kids.map fC = y from cf (fun _ _ => jPar_of) hy]; rfl
theorem ft_def (h : FTk pk) {t : Tr} (hl : lbO t) (hp : fTd t = none → pk.ψ) : XQ Tryz.prog pk 47 [xd (trd t)] (xd (tdD (jTd t))) := by
  obtain ⟨L, ks⟩ := t
  rw [show tdD (jTd (.node L ks)) = [.c (.string (ae L)), .c (.bool (decide (ad L = gE))), .s ((ks.map fC).map paD)] from rfl]
  have hs := bN h (t := .node L ks) hl.1
  rw [ba] at hs ⊢
  refine XQ.en Tryz.func47 Tryz.ntmps47 (fun w0 own H V v0 hf => ?_)
  refine G (T := T) 100001 rfl ?_
  refine (FzTo.bz 0 rfl).c ?_
  refine G (T := T) 1000 rfl ?_
  refine Cq hs rfl rfl rfl rfl rfl ⟨rfl, rfl⟩ ?_
  refine G (T := T) 1000 rfl ?_
  refine Cq (fq_fields h hl.2.1 hl.2.2 (fun e => hp (by show (bu eK ks).map _ = none; rw [e]; rfl))) rfl rfl rfl rfl rfl ⟨rfl, rfl⟩ ?_
  refine G (T := T) 1000 rfl ?_
  exact Fq (T := T) rfl rfl
end
section
open Go Go.RowKit Go.Proofs K
variable {pk : Pk}
theorem equalFunc {ks js : List Tr} (hcl : ∀ y ∈ ks, ∀ z, XQ Tryz.prog pk 53 (cs9 [] [] [xd (trd y), xd (trd z)]) (xb (y.eqb z))) : XQ Tryz.prog pk 108 [xr (aP ks), xr (aP js), xf 53 [] []] (xb (Tr.eqbs ks js)) := by
  refine XQ.en Tryz.func108 Tryz.ntmps108 (fun w0 own H V v0 hf => ?_)
  refine Ln 0 rfl (fun hl => ?_); rw [List.length_map] at hl
  refine G (T := T) 1000 rfl ?_
  refine If rfl (fun h => ?_) (fun h => ?_)
  · have hne := of_decide_eq_true h; rw [List.length_map, List.length_map] at hne
    refine G (T := T) 1000 rfl ?_
    rw [kP (by omega)]
    exact Fe (T := T) rfl rfl
  have hlen := of_decide_eq_false h; rw [List.length_map, List.length_map] at hlen
  refine G (T := T) 1000 rfl ?_
  refine Lq [1, 2, 15, 16] (fun q r => (6, xb false) :: (17, xi (q : Nat)) :: r) (fun q => []) 0 (fun q => q ≤ ks.length ∧ Tr.eqbs ks js = Tr.eqbs (ks.drop q) (js.drop q)) (fun q => ks.length - q) 0 rfl ⟨Nat.zero_le _, rfl⟩ ?_
  rintro j ⟨hj, hI⟩
  refine G (T := T) 1000 rfl ?_
  refine If rfl (fun h => ?_) (fun h => ?_)
  · have hjl := of_decide_eq_true h; rw [List.length_map] at hjl
    obtain ⟨y, hy⟩ := ah (l := ks) (j := j) (by omega)
    obtain ⟨z, hz⟩ := ah (l := js) (j := j) (by omega)
    rw [jA hy, jA hz, Tr.eqbs] at hI
    refine G (T := T) 1000 rfl ?_
    refine Ix (T := T) j (ab hy) rfl rfl rfl rfl ⟨rfl, rfl⟩ rfl rfl ?_
    refine G (T := T) 1000 rfl ?_
    refine Ix (T := T) j (ab hz) rfl rfl rfl rfl ⟨rfl, rfl⟩ rfl rfl ?_
    refine G (T := T) 1000 rfl ?_
    refine Cv (hcl y (List.mem_of_getElem? hy) z) rfl rfl rfl rfl rfl ⟨rfl, rfl⟩ ?_
    refine G (T := T) 1000 rfl ?_
    refine If rfl (fun h => ?_) (fun h => ?_)
    · rw [Bool.not_eq_true'] at h
      refine G (T := T) 1000 rfl ?_
      rw [hI, h]
      exact Fe (T := T) rfl rfl
    · rw [Bool.not_eq_false'] at h
      refine G (T := T) 1000 rfl ?_
      exact Nq (j + 1) ⟨by omega, by rw [hI, h, Bool.true_and]⟩ (by show _ - (j + 1) < _ - j; omega)
  · have hjl := of_decide_eq_false h; rw [List.length_map] at hjl
    refine G (T := T) 1000 rfl ?_
    rw [hI, List.drop_of_length_le (by omega), List.drop_of_length_le (by omega)]
    exact Fe (T := T) rfl rfl
theorem diff_Same (m : Nat) : ∀ (t u : Tr), t.size ≤ m → XQ Tryz.prog pk 53 [xd (trd t), xd (trd u)] (xb (t.eqb u)) := by
  induction m with
  | zero => intro t u h; have := t.size_pos; omega
  | succ m ih =>
  intro t u hm
  obtain ⟨l, ks⟩ := t
  obtain ⟨l', js⟩ := u
  rw [ba, ba, Tr.eqb, ic]
  refine XQ.en Tryz.func53 Tryz.ntmps53 (fun w0 own H V v0 hf => ?_)
  refine Gs (T := T) 100001 rfl ?_
  refine (FzTo.bz 0 rfl).c ?_
  refine (FzTo.bz 1 rfl).c ?_
  refine Gs (T := T) 1000 rfl ?_
  refine Cs (fun _ => equalFunc (ks := ks) (js := js) (fun y hy z => ih y z (Tr.size_kid hy hm))) rfl rfl rfl rfl rfl rfl rfl rfl ?_
  refine Gs (T := T) 1000 rfl ?_
  exact Fe (T := T) rfl rfl
end
section
open Go Go.RowKit Go.Proofs K
variable {pk : Pk}
theorem oR {k : Int} : XQ Tryz.prog pk 174 [xi k] (xb (dn k)) := by
  refine XQ.en Tryz.func174 Tryz.ntmps174 (fun w0 own H V v0 hf => ?_)
  refine Gs (T := T) 1000 rfl ?_
  refine Fe (T := T) rfl (congrArg xb ?_)
  unfold dn
  by_cases h1 : k = 1 <;> by_cases h2 : k = 9 <;> by_cases h3 : k = 10 <;> by_cases h4 : k = 11 <;> simp [h1, h2, h3, h4]
end
open Go Go.RowKit Go.ChangeMaps Go.MapKept K
open Go.WideMaps
def Iz (b : Nat) (o : Obj) : Nat → Obj → Prop := fun b' o' => b' = b ∧ o' = o
def entries : Obj → List MapEntry
  | .map es _ => es.toList
  | _ => []
def It (b : Nat) (o : Obj) (done : List MapEntry) (io : Obj) : Prop :=
  ∃ es clock seen, o = .map es clock ∧ io = .mapIter (some b) clock seen clock ∧ seen.toList = done.map (·.born) ∧ done.Nodup ∧ ∀ x ∈ done, x ∈ entries o
theorem MapR.entries {P : Program} {k e : TypeId} {o : Obj} {n : Nat} {f : Value → Option Value} (h : MapR P k e o n f) : (X.entries o).length = n ∧ ((X.entries o).map (·.key)).Nodup ∧ (∀ x ∈ X.entries o, f x.key = some x.val) ∧ ∀ key kl, keyOf P k key = some kl → f key ≠ none → ∃ x ∈ X.entries o, x.key = key := by
  obtain ⟨es, clock, rfl, F, rfl, hf, hg⟩ := h
  exact ⟨by simp [X.entries], F.stamped.2.2, hf, hg⟩
theorem nd_len {α : Type} : ∀ {d l : List α}, d.Nodup → (∀ x ∈ d, x ∈ l) → d.length ≤ l.length
  | [], _, _, _ => Nat.zero_le _
  | x :: d, l, hn, hs => by
    obtain ⟨a, b, rfl⟩ := List.append_of_mem (hs x (List.mem_cons_self ..))
    obtain ⟨h1, h2⟩ := List.nodup_cons.1 hn
    have := nd_len (l := a ++ b) h2 (fun y hy => by
      have := hs y (List.mem_cons_of_mem _ hy)
      simp only [List.mem_append, List.mem_cons] at this ⊢
      rcases this with h | rfl | h
      · exact .inl h
      · exact absurd hy h1
      · exact .inr h)
    simp only [List.length_cons, List.length_append] at this ⊢; omega
theorem nd_snoc {α : Type} {d l : List α} {z : α} (hn : d.Nodup) (hs : ∀ x ∈ d, x ∈ l) (hz : z ∈ l) (hd : z ∉ d) : (d ++ [z]).Nodup ∧ (∀ x ∈ d ++ [z], x ∈ l) ∧ l.length - (d ++ [z]).length < l.length - d.length := by
  have h1 : (d ++ [z]).Nodup := by
    rw [List.nodup_append]
    exact ⟨hn, by simp, by intro x h1 y h2 h3; simp at h2; subst h2; subst h3; exact hd h1⟩
  have h2 : ∀ x ∈ d ++ [z], x ∈ l := fun x hx => by
    rcases List.mem_append.1 hx with h | h
    · exact hs x h
    · rw [List.mem_singleton.1 h]; exact hz
  refine ⟨h1, h2, ?_⟩
  have := nd_len h1 h2
  simp only [List.length_append, List.length_cons, List.length_nil] at this ⊢; omega
section
variable {P : Program} {x : Cx P} {T : Tb P} {k : List Fr} {E Er : XE} {hp : XH} {nx i : Nat} {ops : List Oper} {dm : Option (List Rc)} {l : List (Nat × Oper)} {d : Tmp} {ty : TypeId} {pos : String} {af : Array Edge} {g : Option (Nat × Bool)} {pk : Pk}
theorem SR.told {B : Bs} {Q : Nat → Obj → Prop} {j : Nat} {V : Vn} {H : Hp} {sg : Seg} {env : Env} (hs : SR B ⟨E, hp, nx⟩ V H sg env) (h : xlk E j = some (.a (.c (.d (.mp Q))))) : ∃ b o, Q b o ∧ SR B ⟨(j, .a (.c (.d (.mp (Iz b o))))) :: E, hp, nx⟩ V H sg env := by
  obtain ⟨v, h1, h2⟩ := hs.lk _ _ h
  simp only [XV.rel, XA.rel, XC.rel, rd] at h2
  obtain ⟨b, o, rfl, h3, h4⟩ := h2
  refine ⟨b, o, h4, fun i u hu => ?_, hs.hr, hs.top, hs.nd, hs.fresh, hs.le, hs.vle, hs.keep, hs.sub, hs.nxle⟩
  simp only [xlk] at hu
  cases hb : Nat.beq j i with
  | true =>
    rw [hb] at hu; cases hu
    rw [← Nat.eq_of_beq_eq_true hb]
    exact ⟨_, h1, by simp only [XV.rel, XA.rel, XC.rel, rd]; exact ⟨b, o, rfl, h3, rfl, rfl⟩⟩
  | false => rw [hb] at hu; exact hs.lk i u hu
theorem Ter {Q : Nat → Obj → Prop} (j : Nat) (h : xlk E j = some (.a (.c (.d (.mp Q))))) (hk : ∀ b o, Q b o → (MS.r ops none l k ⟨(j, .a (.c (.d (.mp (Iz b o))))) :: E, hp, nx⟩).ok x) : (MS.r ops none l k ⟨E, hp, nx⟩).ok x := fun B Q hB hp hK V H sg env hs =>
  let ⟨b, o, h4, h5⟩ := SR.told hs h
  hk b o h4 B Q hB hp hK V H sg env h5
theorem LS.rg {ops : Array Oper} {d : Option Tmp} {t kt e : TypeId} {m : Operand} {b n : Nat} {o : Obj} {f : Value → Option Value} (hm : xev Er m = some (.a (.c (.d (.mp (Iz b o)))))) (ht : T.bt.get t = some (.m kt e)) (hM : MapR P kt e o n f) :
    LS P pk ops { dst := d, op := .range t m, type := ty, pos := pos, after := af, guard := none } Er [] nx (nx + 1) (fun x fp' => x = .a (.c (.p nx 0 0)) ∧ fp' = [⟨nx, 0, .mp (It b o [])⟩]) := by
  intro w0 N Q' rest env own H V sg hl hV htp hf hd _ hh
  have hV0 := HR0 hV
  subst hV0
  obtain ⟨w1, h1, h2⟩ := hl.lks _ _ hm
  simp only [XV.rel, XA.rel, XC.rel, rd] at h2
  obtain ⟨b', o', rfl, h3, rfl, rfl⟩ := h2
  obtain ⟨es, clock, rfl, F, rfl, hf', hg'⟩ := hM
  have htu := lI (BT.all_get T.ok ht)
  refine TL.valE (φ := fun v own' H' => ∃ r, v = .pointer (some ⟨r, 0, none⟩) ∧ own' = [(r, .mapIter (some b') clock #[] clock)] :: [] :: own ∧ H' = H) rfl hd
    (fun a w ha hw => ⟨_, _, _, w.alloc (.mapIter (some b') clock #[] clock), ?_, ⟨w.heap.size, rfl, rfl, rfl⟩, hw.new _⟩) ?_
  · have hb' := MapKept.run_getObj_map (P := P) (hw.imm b' _ h3)
    have : (Instr.range t (.map (some b'))).run P w = .ok (.pointer (some ⟨w.heap.size, 0, none⟩)) (w.alloc (.mapIter (some b') clock #[] clock)) := by
      simp [Instr.range, run_underlying htu, hb', Result.andThen]
    simp [execOp, ha.ev h1, this]
  · rintro v own' H' ⟨r, rfl, rfl, rfl⟩
    obtain ⟨k1, k2, k3⟩ := bD (V := V) (H := H') (g := r) (ex := 0) (o := .mapIter (some b') clock #[] clock) (xo := .mp (It b' (.map es clock) [])) hf ⟨es, clock, #[], rfl, rfl, rfl, List.nodup_nil, by simp⟩
    have h9 := hh (.pointer (some ⟨r, 0, none⟩)) (.a (.c (.p nx 0 0))) _ _ H' _ ⟨rfl, rfl⟩ (by simp only [XV.rel, XA.rel, XC.rel]; exact ⟨r, 0, Vn.new_at .., rfl⟩) k1 k2 k3 (Le.refl _)
    exact TL.flat (own' := [(r, .mapIter (some b') clock #[] clock)] :: own) (by simp) h9
theorem Rg {t kt e : TypeId} {m : Operand} {b n : Nat} {o : Obj} {f : Value → Option Value} (hM : MapR P kt e o n f) (hEr : vis dm ops { dst := some d, op := .range t m, type := ty, pos := pos, after := af, guard := g } E = Er) (hm : xev Er m = some (.a (.c (.d (.mp (Iz b o)))))) (ht : T.bt.get t = some (.m kt e)) (hb : ak ops Er g = some true ∧ okD x.N (some d) = true)
    (hk : (MS.r ops (push dm ⟨i, [nx], true, false⟩) l k ⟨(d, .a (.c (.p nx 0 0))) :: E, ⟨nx, 0, .mp (It b o [])⟩ :: hp, nx + 1⟩).ok x) (hdk : DkM dm ops ⟨i, [nx], true, false⟩ := by first | exact trivial | (refine DK.mk ?_; decide +kernel)) :
    (MS.r ops dm ((i, { dst := some d, op := .range t m, type := ty, pos := pos, after := af, guard := g }) :: l) k ⟨E, hp, nx⟩).ok x := by
  subst hEr
  have e0 : aa ([] : XH) ++ List.range' nx (nx + 1 - nx) = [nx] := by simp [aa]
  refine MS.op (fp := []) (rest := hp) true false hb.2 (.refl _) (Nat.le_succ _) (LS.yes (o := { dst := some d, op := .range t m, type := ty, pos := pos, after := af, guard := g }) hb.1 (LS.rg (T := T) hm ht hM)) (by rw [e0]; exact hdk) (fun _ => ⟨_, _, ⟨rfl, rfl⟩, fun _ _ h => h⟩) (fun h => by cases h) ?_
  rintro q fp' ⟨rfl, rfl⟩
  refine ⟨fun b' hb' => .inr ?_, by simp [aa], fun h => (by cases h), _, .refl _, ?_⟩
  · obtain rfl := List.mem_singleton.1 hb'
    exact ⟨Nat.le_refl _, Nat.lt_succ_self _⟩
  · rw [e0]; exact hk
theorem LS.ny {ops : Array Oper} {d : Option Tmp} {m : Operand} {b n gp t0 : Nat} {kt e : TypeId} {o : Obj} {f : Value → Option Value} {done : List MapEntry} {mj : Operand} (kx vx : Value → XA) (hM : MapR P kt e o n f) (hy : xev Er m = some (.a (.c (.p gp t0 0)))) (hm : xev Er mj = some (.a (.c (.d (.mp (Iz b o))))))
    (hkx : ∀ z ∈ entries o, ∀ V H, (kx z.key).rel V H z.key) (hvx : ∀ z ∈ entries o, ∀ V H, (vx z.val).rel V H z.val) :
    LS P pk ops { dst := d, op := .next m false, type := ty, pos := pos, after := af, guard := none } Er [⟨gp, t0, .mp (It b o done)⟩] nx nx (fun x fp' => ((∀ z ∈ entries o, z ∈ done) ∧ x = .t [.c (.d (.c (.bool false)))] ∧ fp' = [⟨gp, t0, .mp (It b o done)⟩]) ∨ ∃ z, z ∈ entries o ∧ z ∉ done ∧ x = .t [.c (.d (.c (.bool true))), kx z.key, vx z.val] ∧ fp' = [⟨gp, t0, .mp (It b o (done ++ [z]))⟩]) := by
  intro w0 N Q' rest env own H V sg hl hV htp hf hd _ hh
  obtain ⟨w1, h1, h2⟩ := hl.lks _ _ hy
  obtain ⟨w2, _, h4⟩ := hl.lks _ _ hm
  simp only [XV.rel, XA.rel, XC.rel, rd] at h2 h4
  obtain ⟨r, e0, hr0, rfl⟩ := h2
  obtain ⟨b', o', rfl, hb, rfl, rfl⟩ := h4
  obtain ⟨s1, s2, rfl, h7, rfl⟩ := hV
  obtain ⟨r', ob, ex, rfl, h8, h9⟩ := h7.resolve_right (by rintro ⟨_, _, _, _, h8, _⟩; cases h8)
  simp only at h8
  rw [h8] at hr0; cases hr0
  obtain ⟨es, clock, seen, rfl, rfl, hseen, hnd, hsub⟩ := (show It b' o' done ob from h9)
  obtain ⟨es', clock', he, F, _, _, _⟩ := hM
  cases he
  intro a w ha hw
  have hr : w.heap[r]? = some (.mapIter (some b') clock seen clock) := hw.own_blk (i := 0) (j := 0) rfl rfl
  have hmem : ∀ e ∈ es.toList, (seen.contains e.born = true ↔ e ∈ done) := by
    intro e hes
    constructor
    · intro h
      have h2 : e.born ∈ seen.toList := by simpa using h
      rw [hseen] at h2
      obtain ⟨x', hx', hb'⟩ := List.mem_map.1 h2
      have hx2 := hsub x' hx'
      have hn := F.stamped.2.1
      have : x' = e := by
        obtain ⟨p, hp⟩ := List.getElem?_of_mem hx2
        obtain ⟨q, hq⟩ := List.getElem?_of_mem hes
        have hpl := (List.getElem?_eq_some_iff.1 hp).1
        have e1 : (es.toList.map (·.born))[p]? = some x'.born := by rw [List.getElem?_map]; simp only [entries] at hp; rw [hp]; rfl
        have e2 : (es.toList.map (·.born))[q]? = some e.born := by rw [List.getElem?_map, hq]; rfl
        rw [hb', ← e2] at e1
        have := (List.getElem?_inj (by simpa [entries] using hpl) hn).1 e1
        subst this
        simp only [entries] at hp
        rw [hp] at hq
        exact Option.some.inj hq
      exact this ▸ hx'
    · intro h
      have : e.born ∈ seen.toList := by rw [hseen]; exact List.mem_map.2 ⟨e, h, rfl⟩
      simpa using this
  refine wpList_plain rfl fun K hK => ?_
  unfold Oper.wp
  rcases run_next_at (P := P) w ty r b' clock clock seen es clock hr (hw.imm b' _ hb) F.stamped.1 (Nat.le_refl _) with ⟨h0, hrun⟩ | ⟨e, he, w1, hw1, hrun⟩
  · have hop : (execOp a.eval { dst := d, op := .next m false, type := ty, pos := pos, after := af, guard := none }).run P w = .ok (.value (.tuple #[.bool false])) w := by simp [execOp, ha.ev h1, hrun]
    rw [hop]
    refine hK _ _ (hh (.tuple #[.bool false]) (.t [.c (.d (.c (.bool false)))]) _ V H [(r, .mapIter (some b') clock seen clock)] (.inl ⟨fun e hes => ?_, rfl, rfl⟩) ⟨_, rfl, by simp only [XA.rels, XA.rel, XC.rel, rd, and_true]; exact ⟨trivial, rfl⟩⟩ ⟨_, [], rfl, .inl ⟨r, _, _, rfl, h8, h9⟩, rfl⟩ htp (VX.refl _ _ _) (Le.refl _) _ _ (ha.put hd _) hw)
    rw [← hmem e hes]
    cases hc : seen.contains e.born with
    | true => rfl
    | false =>
      have : e ∈ leftOf es seen := by
        unfold leftOf
        rw [Array.mem_filter]
        exact ⟨by simpa [entries] using hes, by simp only [hc]; rfl⟩
      rw [Array.eq_empty_of_size_eq_zero h0] at this
      simp at this
  · have hop : (execOp a.eval { dst := d, op := .next m false, type := ty, pos := pos, after := af, guard := none }).run P w = .ok (.value (.tuple #[.bool true, e.key, e.val])) (setBlock w1 r (.mapIter (some b') clock (seen.push e.born) clock)) := by simp [execOp, ha.ev h1, hrun]
    rw [hop]
    have he2 : e ∈ es.toList ∧ seen.contains e.born = false := by
      have h1 : e ∈ es ∧ ¬ e.born ∈ seen := by simpa [leftOf] using he
      exact ⟨by simpa using h1.1, by simpa using h1.2⟩
    have hno : e ∉ done := fun h => by rw [← hmem e he2.1, he2.2] at h; cases h
    have hst : St w0 H ([(r, .mapIter (some b') clock seen clock)] :: own) w1 := by
      rcases hw1 with rfl | rfl
      · exact hw
      · exact hw.drew
    have hit : It b' (.map es clock) (done ++ [e]) (.mapIter (some b') clock (seen.push e.born) clock) := ⟨es, clock, seen.push e.born, rfl, rfl, by simp [hseen], by
      rw [List.nodup_append]
      exact ⟨hnd, by simp, by intro x' h1 y' h2 h3; simp at h2; subst h2; subst h3; exact hno h1⟩, by
      intro x' h1
      rcases List.mem_append.1 h1 with h1 | h1
      · exact hsub x' h1
      · simp at h1; subst h1; exact he2.1⟩
    exact hK _ _ (hh (.tuple #[.bool true, e.key, e.val]) (.t [.c (.d (.c (.bool true))), kx e.key, vx e.val]) _ V H [(r, .mapIter (some b') clock (seen.push e.born) clock)] (.inr ⟨e, he2.1, hno, rfl, rfl⟩) ⟨_, rfl, by simp only [XA.rels, and_true]; exact ⟨by simp only [XA.rel, XC.rel, rd]; exact ⟨trivial, rfl⟩, hkx e he2.1 V H, hvx e he2.1 V H⟩⟩ ⟨_, [], rfl, .inl ⟨r, _, _, rfl, h8, hit⟩, rfl⟩ (fun q hq t' ht' => by rw [List.mem_singleton] at hq; subst hq; exact htp _ (List.mem_singleton.2 rfl) t' ht') (VX.refl _ _ _) (Le.refl _) _ _ (ha.put hd _) (by simpa using hst.setObj (i := 0) (j := 0) rfl rfl))
theorem Ny {m : Operand} {b n gp t0 : Nat} {kt e : TypeId} {o : Obj} {f : Value → Option Value} {done : List MapEntry} {hp' : XO → XH} (mj : Operand) (kx vx : Value → XA) (hM : MapR P kt e o n f) (hkx : ∀ z ∈ entries o, ∀ V H, (kx z.key).rel V H z.key) (hvx : ∀ z ∈ entries o, ∀ V H, (vx z.val).rel V H z.val)
    (hEr : vis dm ops { dst := some d, op := .next m false, type := ty, pos := pos, after := af, guard := g } E = Er) (hy : xev Er m = some (.a (.c (.p gp t0 0)))) (hm : xev Er mj = some (.a (.c (.d (.mp (Iz b o)))))) (hg : an hp gp = some ⟨gp, t0, .mp (It b o done)⟩) (hset' : ∀ o', bc hp gp t0 o' = some (hp' o')) (hb : ak ops Er g = some true ∧ okD x.N (some d) = true)
    (hover : (∀ z ∈ entries o, z ∈ done) → (MS.r ops (push dm ⟨i, [gp], true, true⟩) l k ⟨(d, .t [.c (.d (.c (.bool false)))]) :: E, hp' (.mp (It b o done)), nx⟩).ok x)
    (hnext : ∀ z, z ∈ entries o → z ∉ done → (MS.r ops (push dm ⟨i, [gp], true, true⟩) l k ⟨(d, .t [.c (.d (.c (.bool true))), kx z.key, vx z.val]) :: E, hp' (.mp (It b o (done ++ [z]))), nx⟩).ok x)
    (hdk : DkM dm ops ⟨i, [gp], true, true⟩ := by first | exact trivial | (refine DK.mk ?_; decide +kernel)) (hrl : RlM dm ops i l := by first | exact trivial | (refine RL.mk ?_; decide +kernel)) :
    (MS.r ops dm ((i, { dst := some d, op := .next m false, type := ty, pos := pos, after := af, guard := g }) :: l) k ⟨E, hp, nx⟩).ok x := by
  subst hEr
  obtain ⟨p1, p2, p3⟩ := aK hg
  have e0 : aa [(⟨gp, t0, .mp (It b o done)⟩ : XB)] ++ List.range' nx (nx - nx) = [gp] := by simp [aa]
  refine MS.op (fp := [⟨gp, t0, .mp (It b o done)⟩]) (rest := cm hp gp) true true hb.2 p1 (Nat.le_refl _) (LS.yes (o := { dst := some d, op := .next m false, type := ty, pos := pos, after := af, guard := g }) hb.1 (LS.ny (n := n) (kt := kt) (e := e) (f := f) kx vx hM hy hm hkx hvx)) (by rw [e0]; exact hdk) (fun h => by cases h) (fun _ => hrl) ?_
  rintro q fp' (⟨h1, rfl, rfl⟩ | ⟨z, h1, h2, rfl, rfl⟩)
  · refine ⟨by simp [aa], by simp [aa], fun h => (by cases h), _, p3 _ _ _ (hset' _), ?_⟩
    rw [e0]; exact hover h1
  · refine ⟨by simp [aa], by simp [aa], fun h => (by cases h), _, p3 _ _ _ (hset' _), ?_⟩
    rw [e0]; exact hnext z h1 h2
theorem LS.ey {ops : Array Oper} {d : Option Tmp} {m mj : Operand} {b n gp t0 : Nat} {kt e : TypeId} {o : Obj} {f : Value → Option Value} {done : List MapEntry} {z : MapEntry} (kx vx : XA) (hM : MapR P kt e o n f) (hy : xev Er m = some (.a (.c (.p gp t0 0)))) (hm : xev Er mj = some (.a (.c (.d (.mp (Iz b o))))))
    (hkx : ∀ V H, kx.rel V H z.key) (hvx : ∀ V H, vx.rel V H z.val) :
    LS P pk ops { dst := d, op := .entry m, type := ty, pos := pos, after := af, guard := none } Er [⟨gp, t0, .mp (It b o (done ++ [z]))⟩] nx nx (fun x fp' => x = .t [kx, vx] ∧ fp' = [⟨gp, t0, .mp (It b o (done ++ [z]))⟩]) := by
  intro w0 N Q' rest env own H V sg hl hV htp hf hd _ hh
  obtain ⟨w1, h1, h2⟩ := hl.lks _ _ hy
  obtain ⟨w2, _, h4⟩ := hl.lks _ _ hm
  simp only [XV.rel, XA.rel, XC.rel, rd] at h2 h4
  obtain ⟨r, e0, hr0, rfl⟩ := h2
  obtain ⟨b', o', rfl, hb, rfl, rfl⟩ := h4
  obtain ⟨s1, s2, rfl, h7, rfl⟩ := hV
  obtain ⟨r', ob, ex, rfl, h8, h9⟩ := h7.resolve_right (by rintro ⟨_, _, _, _, h8, _⟩; cases h8)
  simp only at h8
  rw [h8] at hr0; cases hr0
  obtain ⟨es, clock, seen, rfl, rfl, hseen, hnd, hsub⟩ := (show It b' o' (done ++ [z]) ob from h9)
  obtain ⟨es', clock', he, F, _, _, _⟩ := hM
  cases he
  intro a w ha hw
  have hs : seen = ((done.map (·.born)).toArray).push z.born := by
    have : seen.toList = (((done.map (·.born)).toArray).push z.born).toList := by simp [hseen]
    exact Array.toList_inj.1 this
  have hr : w.heap[r]? = some (.mapIter (some b') clock (((done.map (·.born)).toArray).push z.born) clock) := by rw [← hs]; exact hw.own_blk (i := 0) (j := 0) rfl rfl
  have hrun := run_entry_at (P := P) w r b' clock _ es clock z hr (hw.imm b' _ hb) (hsub z (by simp)) F.stamped.2.1
  refine wpList_plain rfl fun K hK => ?_
  unfold Oper.wp
  have hop : (execOp a.eval { dst := d, op := .entry m, type := ty, pos := pos, after := af, guard := none }).run P w = .ok (.value (.tuple #[z.key, z.val])) w := by simp [execOp, ha.ev h1, hrun]
  rw [hop]
  exact hK _ _ (hh (.tuple #[z.key, z.val]) (.t [kx, vx]) _ V H [(r, .mapIter (some b') clock seen clock)] ⟨rfl, rfl⟩ ⟨_, rfl, by simp only [XA.rels, and_true]; exact ⟨hkx V H, hvx V H⟩⟩ ⟨_, [], rfl, .inl ⟨r, _, _, rfl, h8, h9⟩, rfl⟩ htp (VX.refl _ _ _) (Le.refl _) _ _ (ha.put hd _) hw)
theorem Ey {m : Operand} {b n gp t0 : Nat} {kt e : TypeId} {o : Obj} {f : Value → Option Value} {done : List MapEntry} {z : MapEntry} (mj : Operand) (kx vx : XA) (hM : MapR P kt e o n f) (hkx : ∀ V H, kx.rel V H z.key) (hvx : ∀ V H, vx.rel V H z.val)
    (hEr : vis dm ops { dst := some d, op := .entry m, type := ty, pos := pos, after := af, guard := g } E = Er) (hy : xev Er m = some (.a (.c (.p gp t0 0)))) (hm : xev Er mj = some (.a (.c (.d (.mp (Iz b o)))))) (hg : an hp gp = some ⟨gp, t0, .mp (It b o (done ++ [z]))⟩) (hb : ak ops Er g = some true ∧ okD x.N (some d) = true)
    (hk : (MS.r ops (push dm ⟨i, [gp], false, false⟩) l k ⟨(d, .t [kx, vx]) :: E, hp, nx⟩).ok x) (hdk : DkM dm ops ⟨i, [gp], false, false⟩ := by first | exact trivial | (refine DK.mk ?_; decide +kernel)) :
    (MS.r ops dm ((i, { dst := some d, op := .entry m, type := ty, pos := pos, after := af, guard := g }) :: l) k ⟨E, hp, nx⟩).ok x := MS.rd1 hg hEr hb (LS.ey (n := n) (kt := kt) (e := e) (f := f) kx vx hM hy hm hkx hvx) hdk hk
end
section
open Go Go.RowKit Go.Proofs K
variable {pk : Pk}
mutual
def jEx : Tr → Ex
  | .node L ks => match aC gH (ad L) with
    | none => .mk 0 eS 0 []
    | some k => if dn k = true then .mk k eS (IntKind.u16.wrap (dw (ae L))) (gR ks) else .mk k (ae L) 0 (gR ks)
def gR : List Tr → List Ex
  | [] => []
  | t :: r => jEx t :: gR r
end
theorem eW : ∀ l : List Tr, gR l = l.map jEx
  | [] => rfl
  | t :: r => by rw [gR, eW r]; rfl
theorem jEx_eq {L : ByteArray} {ks : List Tr} {k : Int} (h : aC gH (ad L) = some k) : jEx (.node L ks) = if dn k = true then .mk k eS (IntKind.u16.wrap (dw (ae L))) (ks.map jEx) else .mk k (ae L) 0 (ks.map jEx) := by
  rw [jEx, h, eW]
theorem eX : ∀ l : List Tr, fR l = bu fEx l
  | [] => rfl
  | t :: r => by rw [fR, eX r]; rfl
theorem jEx_of : ∀ (n : Nat) {t : Tr} {x : Ex}, t.size ≤ n → fEx t = some x → jEx t = x := by
  intro n
  induction n with
  | zero => intro t x hn; cases t; simp only [Tr.size] at hn; omega
  | succ n ih =>
    rintro ⟨L, ks⟩ x hn h
    rw [fEx] at h
    obtain ⟨k, hk, h⟩ := Option.bind_eq_some_iff.1 h
    obtain ⟨xs, hxs, h⟩ := Option.bind_eq_some_iff.1 h
    have hm : ks.map jEx = xs := by
      have : ∀ {l : List Tr} {r : List Ex}, (∀ t ∈ l, t.size ≤ n) → bu fEx l = some r → l.map jEx = r := by
        intro l
        induction l with
        | nil => intro r _ e; cases e; rfl
        | cons u us ihl =>
          intro r hl e
          rw [bu] at e
          obtain ⟨y, hy, e⟩ := Option.bind_eq_some_iff.1 e
          obtain ⟨ys, hys, rfl⟩ := Option.map_eq_some_iff.1 e
          rw [List.map_cons, ih (hl u (by simp)) hy, ihl (fun t ht => hl t (by simp [ht])) hys]
      exact this (fun t ht => Tr.size_kid ht hn) (by rw [← eX]; exact hxs)
    rw [jEx_eq hk, hm]
    split at h
    · rename_i h1
      obtain ⟨m, hm, rfl⟩ := Option.map_eq_some_iff.1 h
      rw [if_pos h1, dw, hm]; rfl
    · rename_i h1
      cases h
      rw [if_neg h1]
theorem oS {key v : Value} : ∀ {l : List (Int × Value)}, au l key = some v → ∃ p ∈ l, key = .int .i64 p.1 ∧ v = p.2
  | (n, u) :: r, h => by
    rw [au] at h
    split at h
    · rename_i e; cases h; exact ⟨_, List.mem_cons_self .., e, rfl⟩
    · obtain ⟨p, h1, h2⟩ := oS h
      exact ⟨p, List.mem_cons_of_mem _ h1, h2⟩
theorem iC {key v : Value} (h : au aN key = some v) : ∃ k w, key = .int .i64 k ∧ v = .string w ∧ (1 ≤ k ∧ k ≤ 15) ∧ aC gH w = some k := by
  obtain ⟨p, h1, h2, h3⟩ := oS h
  simp only [aN, List.mem_cons, List.not_mem_nil, or_false] at h1
  rcases h1 with rfl | rfl | rfl | rfl | rfl | rfl | rfl | rfl | rfl | rfl | rfl | rfl | rfl | rfl | rfl
  all_goals exact ⟨_, _, h2, h3, by omega, by decide⟩
theorem wordT_get {k : Int} {w : ByteArray} (h : aC gH w = some k) : au aN (.int .i64 k) = some (.string w) ∧ I64 k := by
  have hm := cd h
  simp only [gH, List.mem_cons, List.not_mem_nil, or_false, Prod.mk.injEq] at hm
  rcases hm with ⟨rfl, rfl⟩ | ⟨rfl, rfl⟩ | ⟨rfl, rfl⟩ | ⟨rfl, rfl⟩ | ⟨rfl, rfl⟩ | ⟨rfl, rfl⟩ | ⟨rfl, rfl⟩ | ⟨rfl, rfl⟩ | ⟨rfl, rfl⟩ | ⟨rfl, rfl⟩ | ⟨rfl, rfl⟩ | ⟨rfl, rfl⟩ | ⟨rfl, rfl⟩ | ⟨rfl, rfl⟩ | ⟨rfl, rfl⟩
  all_goals exact ⟨by simp [aN, au], by constructor <;> omega⟩
abbrev cx (v : Value) : XA := .c (.d (.c v))
theorem nK {v u : Value} (h : u = v) (h1 : v.oneCell' = true) (V : Vn) (H : Hp) : (cx v).rel V H u := by
  subst h; simp only [XA.rel, XC.rel, rd]; exact ⟨trivial, h1⟩
theorem ft_expr (h : FTk pk) : ∀ (n : Nat) (t : Tr), t.size ≤ n → lbO t → (fEx t = none → pk.ψ) → XQ Tryz.prog pk 148 [xd (trd t)] (xd (exD (jEx t))) := by
  intro n
  induction n with
  | zero => intro t hn; cases t; simp only [Tr.size] at hn; omega
  | succ n ih =>
    rintro ⟨L, ks⟩ hn hl hp
    have hps : (ae L).size ≤ 1000000000 := gN hl.1
    have hs := bN h (t := .node L ks) hl.1
    rw [fEx] at hp
    rw [ba, show lb (.node L ks) = L from rfl] at hs
    rw [ba]
    generalize hR : jEx (.node L ks) = R
    refine XQ.en Tryz.func148 Tryz.ntmps148 (fun w0 own H V v0 hf => ?_)
    refine G (T := T) 100001 rfl ?_
    refine (FzTo.bz 0 rfl).c ?_
    refine G (T := T) 1000 rfl ?_
    refine Cq hs rfl rfl rfl rfl rfl ⟨rfl, rfl⟩ ?_
    refine G (T := T) 1000 rfl ?_
    refine Cq kO rfl rfl rfl rfl rfl ⟨rfl, rfl⟩ ?_
    refine Ter 13 rfl (fun b o hM => ?_)
    refine Rg (T := T) hM rfl rfl rfl ⟨rfl, rfl⟩ ?_
    obtain ⟨_, _, hen, bA⟩ := MapR.entries hM
    have hkx : ∀ z ∈ entries o, ∀ V H, (cx z.key).rel V H z.key := fun z hz V H => by
      obtain ⟨k, w, e1, e2, _⟩ := iC (hen z hz)
      exact nK rfl (by rw [e1]; rfl) V H
    have hvx : ∀ z ∈ entries o, ∀ V H, (cx z.val).rel V H z.val := fun z hz V H => by
      obtain ⟨k, w, e1, e2, _⟩ := iC (hen z hz)
      exact nK rfl (by rw [e2]; rfl) V H
    refine G (T := T) 1000 rfl ?_
    refine Lq [1, 2, 3, 4, 13, 14] (fun (q : List MapEntry) r => r) (fun q => [⟨2, 0, .mp (It b o q)⟩, ⟨1, 0, .cells [.d (.c (.int .i64 0)), .d (.c (.string eS)), .d (.c (.int .u16 0)), .z] 87⟩]) 3 (fun q => q.Nodup ∧ (∀ z ∈ q, z ∈ entries o) ∧ ∀ z ∈ q, z.val ≠ .string (ad L)) (fun q => (entries o).length - q.length) [] rfl ⟨List.nodup_nil, by simp, by simp⟩ ?_
    rintro q ⟨hq1, hq2, hq3⟩
    refine G (T := T) 1000 rfl ?_
    refine Ny (.tmp 13) cx cx hM hkx hvx rfl rfl rfl rfl (fun _ => rfl) ⟨rfl, rfl⟩ (fun hover => ?_) (fun z hz hzn => ?_)
    · refine G (T := T) 1000 rfl ?_
      refine If rfl (fun h1 => by cases h1) (fun _ => ?_)
      have hno : aC gH (ad L) = none := by
        cases hk : aC gH (ad L) with
        | none => rfl
        | some k =>
          obtain ⟨h1, h2⟩ := wordT_get hk
          obtain ⟨z, hz, hzk⟩ := bA _ _ (key3 h2) (by rw [h1]; simp)
          have h3 := hen z hz
          rw [hzk, h1] at h3
          exact absurd (Option.some.inj h3).symm (hq3 z (hover z hz))
      refine G (T := T) 1000 rfl ?_
      refine Mf (by kernel_rfl) rfl rfl ⟨rfl, rfl⟩ ?_
      refine G (T := T) 1000 rfl ?_
      exact Pn rfl h.pc (hp (by rw [hno]; rfl))
    · obtain ⟨k, w, ek, ew, hk15, hlk⟩ := iC (hen z hz)
      refine G (T := T) 1000 rfl ?_
      refine If rfl (fun _ => ?_) (fun h1 => by cases h1)
      refine G (T := T) 1000 rfl ?_
      refine Ey (.tmp 13) (cx (.int .i64 k)) (cx (.string w)) hM (nK ek rfl) (nK ew rfl) rfl rfl rfl rfl ⟨rfl, rfl⟩ ?_
      refine G (T := T) 1000 rfl ?_
      refine If rfl (fun h1 => ?_) (fun h1 => ?_)
      · have hw : w = ad L := of_decide_eq_true h1
        subst hw
        rw [jEx_eq hlk] at hR
        rw [hlk, Option.bind_some] at hp
        refine G (T := T) 1000 rfl ?_
        refine Cq (oQ (l := ks) jEx (fc := 148) (fs := []) (cs := []) hl.2.1 (fun t ht => ih t (Tr.size_kid ht hn) (aH hl.2.2 ht) (fun e => hp (by rw [eX, ce ht e]; rfl)))) rfl rfl rfl rfl rfl ⟨rfl, rfl⟩ ?_
        refine G (T := T) 1000 rfl ?_
        refine Cq (oR (k := k)) rfl rfl rfl rfl rfl ⟨rfl, rfl⟩ ?_
        refine G (T := T) 1000 rfl ?_
        refine If rfl (fun h2 => ?_) (fun h2 => ?_)
        · rw [if_pos h2] at hR; subst hR
          refine G (T := T) 1000 rfl ?_
          refine Cq (dO h hps (fun e => hp (by rw [e]; cases fR ks <;> simp [h2]))) rfl rfl rfl rfl rfl ⟨rfl, rfl⟩ ?_
          refine G (T := T) 1000 rfl ?_
          rw [dv]
          exact Fq (T := T) rfl rfl
        · rw [if_neg (by rw [h2]; simp)] at hR; subst hR
          refine G (T := T) 1000 rfl ?_
          rw [dv]
          exact Fq (T := T) rfl rfl
      · have hw : w ≠ ad L := of_decide_eq_false h1
        refine G (T := T) 1000 rfl ?_
        obtain ⟨n1, n2, n3⟩ := nd_snoc hq1 hq2 hz hzn
        refine Nq (q ++ [z]) ⟨n1, n2, fun y hy => ?_⟩ n3
        rcases List.mem_append.1 hy with hy | hy
        · exact hq3 y hy
        · rw [List.mem_singleton.1 hy, ew]; exact fun e => hw (by injection e)
end
section
open Go Go.RowKit Go.Proofs K
variable {pk : Pk}
def hexJ (b : UInt8) : Nat := (bV b).getD 0
def cM : List UInt8 → List UInt8
  | a :: b :: r => UInt8.ofNat (16 * hexJ a + hexJ b) :: cM r
  | _ => []
def kT (s : ByteArray) : ByteArray := bb (cM s.data.toList)
theorem unhexD_lt {b : UInt8} {d : Nat} (h : bV b = some d) : d < 16 := by
  unfold bV at h
  split at h
  · cases h; omega
  · split at h
    · cases h; omega
    · cases h
theorem oT {b : UInt8} : (hexI b = -1 ∧ bV b = none) ∨ (hexI b = (hexJ b : Int) ∧ (bV b).isSome = true ∧ hexJ b < 16) := by
  unfold hexI hexJ
  cases h : bV b with
  | none => exact .inl ⟨rfl, rfl⟩
  | some d => exact .inr ⟨rfl, rfl, unhexD_lt h⟩
theorem ml {a b : UInt8} : ∀ {p : List UInt8}, p.length % 2 = 0 → cM (p ++ [a, b]) = cM p ++ [UInt8.ofNat (16 * hexJ a + hexJ b)]
  | [], _ => rfl
  | [_], h => by simp at h
  | c :: d :: r, h => by
    simp only [List.cons_append, cM]
    rw [ml (by simp only [List.length_cons] at h; omega)]
theorem fU : ∀ {l r : List UInt8}, fP l = some r → l.length % 2 = 0 ∧ cM l = r ∧ ∀ b ∈ l, (bV b).isSome = true
  | [], r, h => by cases h; exact ⟨rfl, rfl, by simp⟩
  | [_], r, h => by cases h
  | a :: b :: l, r, h => by
    rw [fP] at h
    obtain ⟨x, hx, h⟩ := Option.bind_eq_some_iff.1 h
    obtain ⟨y, hy, h⟩ := Option.bind_eq_some_iff.1 h
    obtain ⟨q, hq, rfl⟩ := Option.map_eq_some_iff.1 h
    obtain ⟨h1, rfl, h3⟩ := fU hq
    refine ⟨by simp only [List.length_cons]; omega, by simp [cM, hexJ, hx, hy], fun c hc => ?_⟩
    rcases List.mem_cons.1 hc with rfl | hc
    · rw [hx]; rfl
    · rcases List.mem_cons.1 hc with rfl | hc
      · rw [hy]; rfl
      · exact h3 c hc
theorem iV {s : ByteArray} (h : s.data.toList.length % 2 = 0 → (∀ b ∈ s.data.toList, (bV b).isSome = true) → False) : fQ s = none := by
  cases h1 : fP s.data.toList with
  | none => rw [fQ, h1]; rfl
  | some r =>
    obtain ⟨h2, _, h3⟩ := fU h1
    exact (h h2 h3).elim
theorem jHexB_of {s r : ByteArray} (h : fQ s = some r) : kT s = r := by
  obtain ⟨l, hl, rfl⟩ := Option.map_eq_some_iff.1 h
  rw [kT, (fU hl).2.1]
theorem take_two {l : List UInt8} {j : Nat} {a b : UInt8} (ha : l[2 * j]? = some a) (hb : l[2 * j + 1]? = some b) : l.take (2 * (j + 1)) = l.take (2 * j) ++ [a, b] := by
  rw [show 2 * (j + 1) = 2 * j + 1 + 1 by omega, List.take_add_one, List.take_add_one, ha, hb]; simp
theorem wrapH {x y : Nat} (hx : x < 16) (hy : y < 16) : IntKind.u8.wrap (16 * (x : Int) + (y : Int)) = ((UInt8.ofNat (16 * x + y)).toNat : Int) := by
  have e : (UInt8.ofNat (16 * x + y)).toNat = 16 * x + y := by rw [UInt8.toNat_ofNat']; omega
  rw [e]
  unfold IntKind.wrap
  simp [IntKind.bits, IntKind.signed] <;> omega
theorem ft_bytes (h : FTk pk) {s : ByteArray} (hs : s.size ≤ 1000000000) (hp : fQ s = none → pk.ψ) : XQ Tryz.prog pk 105 [xs s] (xs (kT s)) := by
  have hsz : s.data.toList.length = s.size := rfl
  refine XQ.en Tryz.func105 Tryz.ntmps105 (fun w0 own H V v0 hf => ?_)
  refine G (T := T) 1000 rfl ?_
  refine Ce (cH h.pc (b := decide ((s.size : Int).tmod 2 = 0)) (fun hb => hp (iV fun h1 _ => of_decide_eq_false hb (by rw [hsz] at h1; rw [Int.tmod_eq_emod_of_nonneg (by omega)]; omega)))) rfl rfl rfl rfl rfl ⟨rfl, rfl⟩ ?_
  rintro _ ⟨rfl, hev⟩
  have hev : s.size % 2 = 0 := by
    have := of_decide_eq_true hev
    rw [Int.tmod_eq_emod_of_nonneg (by omega)] at this; omega
  refine G (T := T) 100003 rfl ?_
  refine (Nr 3 5 1 rfl rfl).c ?_
  refine G (T := T) 1000 rfl ?_
  refine Lq [0] (fun (q : Nat × List (List D)) r => (3, .a (.c (.l 0 1 1 0 q.1 q.1))) :: (4, xi ((2 * q.1 : Nat) : Int)) :: r) (fun q => [⟨0, 1, .row q.1 q.2 5 1⟩]) 1 (fun q => 2 * q.1 ≤ s.size ∧ q.2 = bG (cM (s.data.toList.take (2 * q.1)))) (fun q => s.size - q.1) (0, []) rfl ⟨Nat.zero_le _, rfl⟩ ?_
  rintro ⟨j, R⟩ ⟨hj, hR⟩; dsimp only at hj hR ⊢
  refine G (T := T) 1000 rfl ?_
  refine If rfl (fun h1 => ?_) (fun h1 => ?_)
  · have hlt : 2 * j < s.size := by have := of_decide_eq_true h1; omega
    have hlt2 : 2 * j + 1 < s.size := by omega
    obtain ⟨a, ha⟩ := ah (l := s.data.toList) (j := 2 * j) hlt
    obtain ⟨b, hb⟩ := ah (l := s.data.toList) (j := 2 * j + 1) hlt2
    have ea : s.data.getD ((2 * j : Nat) : Int).toNat 0 = a := by
      rw [Array.getElem?_toList] at ha
      rw [Int.toNat_natCast]
      simp [Array.getD_eq_getD_getElem?, ha]
    have eb : s.data.getD (((2 * j : Nat) : Int) + 1).toNat 0 = b := by
      rw [Array.getElem?_toList] at hb
      rw [show (((2 * j : Nat) : Int) + 1).toNat = 2 * j + 1 by omega]
      simp [Array.getD_eq_getD_getElem?, hb]
    have ga := oT (b := a)
    have gb := oT (b := b)
    refine G (T := T) 21 rfl ?_
    rw [ea]
    refine Cq (h.idx a) rfl rfl rfl rfl rfl ⟨rfl, rfl⟩ ?_
    refine G (T := T) 26 rfl ?_
    rw [eb]
    refine Cq (h.idx b) rfl rfl rfl rfl rfl ⟨rfl, rfl⟩ ?_
    refine Gs (T := T) 1000 rfl ?_
    refine Ce (cH h.pc (b := decide (hexI a ≥ 0) && decide (hexI b ≥ 0)) (fun hc => hp (iV fun _ bA => by
      have p1 := bA a (List.mem_of_getElem? ha)
      have p2 := bA b (List.mem_of_getElem? hb)
      rcases ga with ⟨_, g1⟩ | ⟨g1, _, _⟩
      · rw [g1] at p1; cases p1
      · rcases gb with ⟨_, g2⟩ | ⟨g2, _, _⟩
        · rw [g2] at p2; cases p2
        · rw [g1, g2] at hc
          simp at hc))) rfl rfl rfl rfl rfl ⟨rfl, rfl⟩ ?_
    rintro _ ⟨rfl, hxy⟩
    simp only [Bool.and_eq_true, decide_eq_true_eq] at hxy
    obtain ⟨xa, _, xa16⟩ := ga.resolve_left (fun g => by omega)
    obtain ⟨xb, _, xb16⟩ := gb.resolve_left (fun g => by omega)
    refine G (T := T) 39 rfl ?_
    rw [xa, xb]
    refine G (T := T) 40 rfl ?_
    rw [wrapH xa16 xb16]
    refine G (T := T) 1000 rfl ?_
    refine Nq (j + 1, R ++ bG [UInt8.ofNat (16 * hexJ a + hexJ b)]) ⟨by dsimp only; omega, ?_⟩ (by show _ - (j + 1) < _ - j; omega)
    dsimp only
    rw [hR, take_two ha hb, ml (by rw [List.length_take]; omega), bG, bG, bG, List.map_append]
  · have hlt : ¬ ((2 * j : Nat) : Int) < s.size := of_decide_eq_false h1
    have hjl : 2 * j = s.size := by omega
    rw [List.take_of_length_le (by omega)] at hR; subst hR
    refine G (T := T) 1000 rfl ?_
    have hl : j = (cM s.data.toList).length := by
      have : ∀ (n : Nat) (l : List UInt8), l.length = 2 * n → (cM l).length = n := by
        intro n
        induction n with
        | zero => intro l hl; rw [List.length_eq_zero_iff.1 hl]; rfl
        | succ n ih =>
          intro l hl
          match l, hl with
          | a :: b :: r, hl => simp only [cM, List.length_cons]; rw [ih r (by simp only [List.length_cons] at hl; omega)]
      exact (this j _ (by omega)).symm
    refine Cb (T := T) rfl rfl rfl rfl rfl ⟨rfl, rfl⟩ hl hl ?_
    refine G (T := T) 1000 rfl ?_
    exact Fe (T := T) rfl rfl
theorem lbO_uJ : lbO uJ := ⟨by decide, by decide, trivial⟩
theorem co {t : Tr} (h : lbO t) (i : Nat) : lbO (aB t i) := by
  obtain ⟨L, ks⟩ := t
  rw [aB]
  cases hk : (Tr.node L ks).kids[i]? with
  | none => exact lbO_uJ
  | some k => exact aH h.2.2 (List.mem_of_getElem? hk)
theorem fV {t : Tr} (h : lbO t) : (lb t).size ≤ 1000000000 := by obtain ⟨L, ks⟩ := t; exact h.1
theorem cA {t k : Tr} {i : Nat} (h : t.kids[i]? = some k) : aB t i = k := by rw [aB, h]; rfl
theorem kU (t : Tr) : t.lab = lb t := by cases t; rfl
theorem gT {t : Tr} {i : Nat} (h : t.kids[i]? = none ∨ bh (ae (lb (aB t i))) = none) : dj t.kids i = none := by
  rw [dj, aA]
  cases hk : t.kids[i]? with
  | none => rfl
  | some k =>
    rcases h with h | h
    · rw [hk] at h; cases h
    · rw [cA hk] at h
      exact h
theorem eY {t : Tr} {i : Nat} {n : Int} (h : dj t.kids i = some n) : dw (ae (lb (aB t i))) = n := by
  obtain ⟨k, hk, h⟩ := Option.bind_eq_some_iff.1 (show (t.kids[i]?).bind _ = some n from h)
  rw [cA hk, dw, ← kU, h]; rfl
theorem cT {α : Type} {t : Tr} {i : Nat} {f : Tr → Option α} {J : Tr → α} {x : α} (hJ : ∀ t x, f t = some x → J t = x) (h : aA t.kids i f = some x) : J (aB t i) = x := by
  obtain ⟨k, hk, h⟩ := Option.bind_eq_some_iff.1 (show (t.kids[i]?).bind f = some x from h)
  rw [cA hk]; exact hJ _ _ h
def jGb (t : Tr) : Gb :=
  if ad (lb t) = gF then ⟨ae (lb t), jTy (aB t 0), -1, IntKind.u16.wrap (dw (ae (lb (aB t 1)))), K.eS⟩
  else ⟨ae (lb t), jTy (aB t 0), dw (ae (lb (aB t 1))), IntKind.u16.wrap (dw (ae (lb (aB t 2)))), kT (ae (lb (aB t 3)))⟩
theorem jGb_of {t : Tr} {x : Gb} (h : fGb t = some x) : jGb t = x := by
  obtain ⟨L, ks⟩ := t
  rw [fGb] at h
  obtain ⟨y, hy, h⟩ := Option.bind_eq_some_iff.1 h
  have e0 : jTy (aB (.node L ks) 0) = y := cT (t := .node L ks) (J := jTy) (fun _ _ => kS) hy
  rw [jGb, show lb (.node L ks) = L from rfl, e0]
  split at h
  · rename_i hw
    obtain ⟨a, ha, rfl⟩ := Option.map_eq_some_iff.1 h
    rw [if_pos hw, eY (t := .node L ks) ha]
  · rename_i hw
    obtain ⟨b, hb, h⟩ := Option.bind_eq_some_iff.1 h
    obtain ⟨a, ha, h⟩ := Option.bind_eq_some_iff.1 h
    obtain ⟨s, hs, rfl⟩ := Option.map_eq_some_iff.1 h
    rw [if_neg hw, eY (t := .node L ks) hb, eY (t := .node L ks) ha, cT (t := .node L ks) (J := fun t => kT (ae (lb t))) (fun t x e => jHexB_of (by rw [← kU]; exact e)) hs]
theorem ft_global (h : FTk pk) {t : Tr} (hl : lbO t) (hp : fGb t = none → pk.ψ) : XQ Tryz.prog pk 49 [xd (trd t)] (xd (gbD (jGb t))) := by
  have hl' := hl
  obtain ⟨L, ks⟩ := t
  rw [fGb] at hp
  have p0 : aA (Tr.node L ks).kids (0 : Int).toNat fTy = none → pk.ψ := fun e => hp (by rw [show aA ks 0 fTy = none from e]; rfl)
  have p1 : (Tr.node L ks).kids[(1 : Int).toNat]? = none ∨ bh (ae (lb (aB (.node L ks) (1 : Int).toNat))) = none → pk.ψ := fun e => hp (by
    rw [show dj ks 1 = none from gT e]; cases aA ks 0 fTy <;> simp)
  rw [jGb, show lb (.node L ks) = L from rfl]
  refine XQ.en Tryz.func49 Tryz.ntmps49 (fun w0 own H V v0 hf => ?_)
  refine G (T := T) 100001 rfl ?_
  refine (FzTo.bz 0 rfl).c ?_
  refine G (T := T) 1000 rfl ?_
  refine Cq (bN h (t := .node L ks) hl.1) rfl rfl rfl rfl rfl ⟨rfl, rfl⟩ ?_
  refine G (T := T) 1000 rfl ?_
  refine Cq (dx h (t := .node L ks) (i := 0) (by omega) (fun e => p0 (bn e))) rfl rfl rfl rfl rfl ⟨rfl, rfl⟩ ?_
  refine G (T := T) 1000 rfl ?_
  refine Cq (gP h (t := .node L ks) hl' 0 p0) rfl rfl rfl rfl rfl ⟨rfl, rfl⟩ ?_
  refine G (T := T) 1000 rfl ?_
  refine If rfl (fun h1 => ?_) (fun h1 => ?_)
  · have hw : ad L = gF := of_decide_eq_true h1
    rw [if_pos hw]
    refine G (T := T) 1000 rfl ?_
    refine Cq (gO h (t := .node L ks) (i := 1) (by omega) (fV (co hl' _)) p1) rfl rfl rfl rfl rfl ⟨rfl, rfl⟩ ?_
    refine G (T := T) 1000 rfl ?_
    exact Fq (T := T) rfl rfl
  · have hw : ¬ ad L = gF := of_decide_eq_false h1
    rw [if_neg hw]
    refine G (T := T) 1000 rfl ?_
    refine Cq (gO h (t := .node L ks) (i := 1) (by omega) (fV (co hl' _)) p1) rfl rfl rfl rfl rfl ⟨rfl, rfl⟩ ?_
    refine G (T := T) 1000 rfl ?_
    refine Cq (gO h (t := .node L ks) (i := 2) (by omega) (fV (co hl' _)) (fun e => hp (by
      simp only [if_neg hw, show dj ks 2 = none from gT e]; cases aA ks 0 fTy <;> cases dj ks 1 <;> simp))) rfl rfl rfl rfl rfl ⟨rfl, rfl⟩ ?_
    refine G (T := T) 1000 rfl ?_
    have p3 : ∀ f : Tr → Option ByteArray, aA ks 3 f = none → ((aA ks 0 fTy).bind fun t => if ad L = gF then Option.map (fun a => (⟨ae L, t, -1, IntKind.u16.wrap a, K.eS⟩ : Gb)) (dj ks 1) else (dj ks 1).bind fun b => (dj ks 2).bind fun a => Option.map (fun s => (⟨ae L, t, b, IntKind.u16.wrap a, s⟩ : Gb)) (aA ks 3 f)) = none := fun f e => by
      simp only [if_neg hw, e]; cases aA ks 0 fTy <;> cases dj ks 1 <;> cases dj ks 2 <;> simp
    refine Cq (dx h (t := .node L ks) (i := 3) (by omega) (fun e => hp (p3 _ (bn e)))) rfl rfl rfl rfl rfl ⟨rfl, rfl⟩ ?_
    refine G (T := T) 1000 rfl ?_
    refine Cq (bN h (t := aB (.node L ks) (3 : Int).toNat) (fV (co hl' _))) rfl rfl rfl rfl rfl ⟨rfl, rfl⟩ ?_
    refine G (T := T) 1000 rfl ?_
    refine Cq (ft_bytes h (s := ae (lb (aB (.node L ks) (3 : Int).toNat))) (gN (fV (co hl' _))) (fun e => hp (p3 _ (by
      rw [aA]
      cases hk : ks[3]? with
      | none => rfl
      | some k => rw [show aB (.node L ks) (3 : Int).toNat = k from cA (t := .node L ks) hk, ← kU] at e; exact e)))) rfl rfl rfl rfl rfl ⟨rfl, rfl⟩ ?_
    refine G (T := T) 1000 rfl ?_
    exact Fq (T := T) rfl rfl
end
open Go.Proofs
def et (ks : List Tr) (i : Nat) : Tr := (ks[i]?).getD uJ
def cP {α : Type} (cs : List (List α)) (i : Nat) : List α := (cs[i]?).getD []
def dy (k : Int) (p : ByteArray) (ks : List Tr) (ss : List Sm) (cs : List (List Sm)) : Sm :=
  if k = 1 then .mk 1 p (jTy (et ks 0)) 0 [jEx (et ks 1)] [] [] []
  else if k = 3 then .mk 3 K.eS ty4z 0 [jEx (et ks 0)] (cP cs 1) (cP cs 2) []
  else if k = 4 then .mk 4 p ty4z 0 [jEx (et ks 0)] (cP cs 1) [] []
  else if k = 5 ∨ k = 6 then .mk k p ty4z 0 [] ss [] []
  else if k = 7 ∨ k = 8 then .mk k p ty4z 0 [] [] [] []
  else if k = 9 then .mk 9 K.eS ty4z 0 [jEx (et ks 0)] [] (cP cs (ks.length - 1)) ((cs.take (ks.length - 1)).drop 1)
  else if k = 12 ∨ k = 13 then .mk k K.eS ty4z 0 [] [] [] []
  else if k = 11 then .mk 11 K.eS ty4z (IntKind.u16.wrap (dw p)) (ks.map jEx) [] [] [] else .mk k K.eS ty4z 0 (ks.map jEx) [] [] []
mutual
def jSm : Tr → Sm
  | .node L ks => match aC cq (ad L) with
    | none => .mk 0 K.eS ty4z 0 [] [] [] []
    | some k => dy k (ae L) ks (jSms ks) (jKs ks)
def jSms : List Tr → List Sm
  | [] => []
  | t :: r => jSm t :: jSms r
def jKs : List Tr → List (List Sm)
  | [] => []
  | .node _ ks :: r => jSms ks :: jKs r
end
theorem gV : ∀ l : List Tr, jSms l = l.map jSm
  | [] => rfl
  | t :: r => by rw [jSms, gV r]; rfl
theorem jKs_map : ∀ l : List Tr, jKs l = l.map fun u => u.kids.map jSm
  | [] => rfl
  | .node _ ks :: r => by rw [jKs, gV, jKs_map r]; rfl
theorem dP : ∀ l : List Tr, dJ l = bu fSm l
  | [] => rfl
  | t :: r => by rw [dJ, dP r]; rfl
theorem gW : ∀ l : List Tr, fKs l = l.map fun u => bu fSm u.kids
  | [] => rfl
  | .node _ ks :: r => by rw [fKs, dP, gW r]; rfl
theorem bX {L : ByteArray} {ks : List Tr} {k : Int} (h : aC cq (ad L) = some k) : jSm (.node L ks) = dy k (ae L) ks (ks.map jSm) (ks.map fun u => u.kids.map jSm) := by
  rw [jSm, h, gV, jKs_map]
theorem jB (L : ByteArray) (ks : List Tr) (i : Nat) : cP (ks.map fun u => u.kids.map jSm) i = (aT (.node L ks) i).map jSm := by
  rw [cP, aT, aB, List.getElem?_map]
  show _ = List.map jSm ((ks[i]?).getD uJ).kids
  cases ks[i]? <;> rfl
theorem nL {α β : Type} {f : α → Option β} {J : α → β} : ∀ {l : List α} {r : List β}, (∀ x ∈ l, ∀ y, f x = some y → J x = y) → bu f l = some r → l.map J = r
  | [], r, _, e => by cases e; rfl
  | u :: us, r, h, e => by
    rw [bu] at e
    obtain ⟨y, hy, e⟩ := Option.bind_eq_some_iff.1 e
    obtain ⟨ys, hys, rfl⟩ := Option.map_eq_some_iff.1 e
    rw [List.map_cons, h u (by simp) _ hy, nL (fun x hx => h x (by simp [hx])) hys]
theorem allO_on {α β : Type} {f : α → Option β} {J : α → β} : ∀ {l : List α} {r : List β}, (∀ x ∈ l, ∀ y, f x = some y → J x = y) → allO (l.map f) = some r → l.map J = r
  | [], r, _, e => by cases e; rfl
  | u :: us, r, h, e => by
    rw [List.map_cons, allO] at e
    obtain ⟨y, hy, e⟩ := Option.bind_eq_some_iff.1 e
    obtain ⟨ys, hys, rfl⟩ := Option.map_eq_some_iff.1 e
    rw [List.map_cons, h u (by simp) _ hy, allO_on (fun x hx => h x (by simp [hx])) hys]
theorem jEx_of' {t : Tr} {x : Ex} (h : fEx t = some x) : jEx t = x := jEx_of t.size (Nat.le_refl _) h
theorem jSm_of : ∀ (n : Nat) {t : Tr} {x : Sm}, t.size ≤ n → fSm t = some x → jSm t = x := by
  intro n
  induction n with
  | zero => intro t x hn; cases t; simp only [Tr.size] at hn; omega
  | succ n ih =>
    rintro ⟨L, ks⟩ x hn h
    rw [fSm] at h
    obtain ⟨k, hk, h⟩ := Option.bind_eq_some_iff.1 h
    have hks : ∀ u ∈ ks, ∀ c, bu fSm u.kids = some c → u.kids.map jSm = c := fun u hu c hc => nL (fun v hv y => ih (by
      obtain ⟨l', us⟩ := u
      have h1 := Tr.size_kid hu hn
      exact Nat.le_trans (Nat.le_of_lt_succ (Nat.lt_of_le_of_lt (Tr.size_kid hv (Nat.le_succ_of_le h1)) (Nat.lt_succ_self _))) (Nat.le_refl _))) hc
    have hss : ∀ ss, dJ ks = some ss → ks.map jSm = ss := fun ss e => nL (fun v hv y => ih (Tr.size_kid hv hn)) (by rw [← dP]; exact e)
    have hls : ∀ i w c, di ks (fKs ks) i w = some c → cP (ks.map fun u => u.kids.map jSm) i = c := fun i w c e => by
      obtain ⟨u, hu, e⟩ := Option.bind_eq_some_iff.1 (show (ks[i]?).bind _ = some c from e)
      split at e
      · rw [gW, List.getElem?_map, hu] at e
        rw [cP, List.getElem?_map, hu]
        exact hks u (List.mem_of_getElem? hu) c e
      · cases e
    have hkx : ∀ {i x}, aA ks i fEx = some x → jEx (et ks i) = x := fun {i x} e => cT (t := .node L ks) (J := jEx) (fun _ _ => jEx_of') e
    have hkt : ∀ {i x}, aA ks i fTy = some x → jTy (et ks i) = x := fun {i x} e => cT (t := .node L ks) (J := jTy) (fun _ _ => kS) e
    rw [bX hk]
    unfold ep at h
    unfold dy
    split at h
    · rename_i h1; rw [if_pos h1]
      obtain ⟨t, ht, h⟩ := Option.bind_eq_some_iff.1 h
      obtain ⟨x', hx, rfl⟩ := Option.map_eq_some_iff.1 h
      rw [hkt ht, hkx hx]
    rename_i h1; rw [if_neg h1]
    split at h
    · rename_i h1; rw [if_pos h1]
      obtain ⟨t, ht, h⟩ := Option.bind_eq_some_iff.1 h
      obtain ⟨b, hb, h⟩ := Option.bind_eq_some_iff.1 h
      obtain ⟨e, he, rfl⟩ := Option.map_eq_some_iff.1 h
      rw [hkx ht, hls _ _ _ hb, hls _ _ _ he]
    rename_i h1; rw [if_neg h1]
    split at h
    · rename_i h1; rw [if_pos h1]
      obtain ⟨t, ht, h⟩ := Option.bind_eq_some_iff.1 h
      obtain ⟨b, hb, rfl⟩ := Option.map_eq_some_iff.1 h
      rw [hkx ht, hls _ _ _ hb]
    rename_i h1; rw [if_neg h1]
    split at h
    · rename_i h1; rw [if_pos h1]
      obtain ⟨b, hb, rfl⟩ := Option.map_eq_some_iff.1 h
      rw [hss _ hb]
    rename_i h1; rw [if_neg h1]
    split at h
    · rename_i h1; rw [if_pos h1]
      cases h; rfl
    rename_i h1; rw [if_neg h1]
    split at h
    · rename_i h1; rw [if_pos h1]
      split at h
      · cases h
      obtain ⟨t, ht, h⟩ := Option.bind_eq_some_iff.1 h
      obtain ⟨c, hc, h⟩ := Option.bind_eq_some_iff.1 h
      obtain ⟨e, he, rfl⟩ := Option.map_eq_some_iff.1 h
      rw [gW, ← List.map_take, ← List.map_drop] at hc
      rw [hkx ht, hls _ _ _ he, ← List.map_take, ← List.map_drop, allO_on (J := fun u : Tr => u.kids.map jSm) (fun u hu c e => hks u (List.mem_of_mem_take (List.mem_of_mem_drop hu)) c e) hc]
    rename_i h1; rw [if_neg h1]
    split at h
    · rename_i h1; rw [if_pos h1]
      cases h; rfl
    rename_i h1; rw [if_neg h1]
    obtain ⟨xs, hxs, h⟩ := Option.bind_eq_some_iff.1 h
    have hm : ks.map jEx = xs := cf (fun _ _ => jEx_of') (by rw [← eX]; exact hxs)
    rw [hm]
    split at h
    · rename_i h1; rw [if_pos h1]
      obtain ⟨m, hm, rfl⟩ := Option.map_eq_some_iff.1 h
      rw [dw, hm]; rfl
    · rename_i h1; rw [if_neg h1]
      cases h; rfl
section
open Go Go.RowKit Go.Proofs K
section
variable {P : Program} {x : Cx P} {k : List Fr} {E Er : XE} {hp : XH} {nx i : Nat} {ops : List Oper} {dm : Option (List Rc)} {l : List (Nat × Oper)} {d : Tmp} {ty : TypeId} {pos : String} {af : Array Edge} {g : Option (Nat × Bool)} {a b : Operand} {tx t' : TypeId} {u v : Bool}
theorem EqB (hu : P.underlying tx = some .bool) (hEr : vis dm ops { dst := some d, op := .binOp .eql tx a b t', type := ty, pos := pos, after := af, guard := g } E = Er) (ha : xev Er a = some (xb u)) (hb : xev Er b = some (xb v)) (hd : ak ops Er g = some true ∧ okD x.N (some d) = true)
    (hk : (MS.r ops (push dm ⟨i, [], false, false⟩) l k ⟨(d, xb (u == v)) :: E, hp, nx⟩).ok x) (hdk : DkM dm ops ⟨i, [], false, false⟩ := by first | exact trivial | (refine DK.mk ?_; decide +kernel)) :
    (MS.r ops dm ((i, { dst := some d, op := .binOp .eql tx a b t', type := ty, pos := pos, after := af, guard := g }) :: l) k ⟨E, hp, nx⟩).ok x := by
  refine MS.val hEr hd ?_ hdk hk
  intro w0 N Q rest env own H V sg hl hV htp hf hd _ hh
  obtain ⟨p, h1, h2⟩ := hl.lks _ _ ha
  obtain ⟨q, h3, h4⟩ := hl.lks _ _ hb
  rw [aO h2] at h1
  rw [aO h4] at h3
  refine Qa hd (fun ac ha w => ?_) (hh (.bool (u == v)) _ [] V H sg ⟨rfl, rfl⟩ (by simp only [XV.rel, XA.rel, XC.rel, rd]; exact ⟨trivial, rfl⟩) hV htp (VX.refl _ _ _) (Le.refl _))
  have e1 : ∀ d w, (Op.equalIn (d + 1) tx (.bool u) (.bool v)).run P w = .ok (u == v) w := fun d w => by simp [Op.equalIn, run_underlying hu]
  have e2 : ∀ w, (Op.equal tx (.bool u) (.bool v)).run P w = .ok (u == v) w := fun w => e1 9999 w
  have e3 : eqGuard .eql tx a b (.bool u) (.bool v) = (Pure.pure () : Sem Unit) := rfl
  simp [execOp, ha.ev h1, ha.ev h3, e3, binOp, e2]
theorem NeB (hu : P.underlying tx = some .bool) (hEr : vis dm ops { dst := some d, op := .binOp .neq tx a b t', type := ty, pos := pos, after := af, guard := g } E = Er) (ha : xev Er a = some (xb u)) (hb : xev Er b = some (xb v)) (hd : ak ops Er g = some true ∧ okD x.N (some d) = true)
    (hk : (MS.r ops (push dm ⟨i, [], false, false⟩) l k ⟨(d, xb (!(u == v))) :: E, hp, nx⟩).ok x) (hdk : DkM dm ops ⟨i, [], false, false⟩ := by first | exact trivial | (refine DK.mk ?_; decide +kernel)) :
    (MS.r ops dm ((i, { dst := some d, op := .binOp .neq tx a b t', type := ty, pos := pos, after := af, guard := g }) :: l) k ⟨E, hp, nx⟩).ok x := by
  refine MS.val hEr hd ?_ hdk hk
  intro w0 N Q rest env own H V sg hl hV htp hf hd _ hh
  obtain ⟨p, h1, h2⟩ := hl.lks _ _ ha
  obtain ⟨q, h3, h4⟩ := hl.lks _ _ hb
  rw [aO h2] at h1
  rw [aO h4] at h3
  refine Qa hd (fun ac ha w => ?_) (hh (.bool (!(u == v))) _ [] V H sg ⟨rfl, rfl⟩ (by simp only [XV.rel, XA.rel, XC.rel, rd]; exact ⟨trivial, rfl⟩) hV htp (VX.refl _ _ _) (Le.refl _))
  have e1 : ∀ d w, (Op.equalIn (d + 1) tx (.bool u) (.bool v)).run P w = .ok (u == v) w := fun d w => by simp [Op.equalIn, run_underlying hu]
  have e2 : ∀ w, (Op.equal tx (.bool u) (.bool v)).run P w = .ok (u == v) w := fun w => e1 9999 w
  have e3 : eqGuard .neq tx a b (.bool u) (.bool v) = (Pure.pure () : Sem Unit) := rfl
  simp [execOp, ha.ev h1, ha.ev h3, e3, binOp, e2]
end
variable {pk : Pk}
theorem beqT (b : Bool) : (b == b) = true := beq_self_eq_true b
theorem deq {α : Type} (a : α) [Decidable (a = a)] : decide (a = a) = true := decide_eq_true rfl
theorem dne {α : Type} (a : α) [Decidable (a ≠ a)] : decide (a ≠ a) = false := decide_eq_false (fun h => h rfl)
theorem fo : ∀ (m : Nat) (t : Ty4), t.size ≤ m → m ≤ 100000000000 → XQ Tryz.prog pk 56 [xd (tyD t), xd (tyD t)] (xb true) := by
  intro m
  induction m with
  | zero => intro t h; have := t.size_pos; omega
  | succ m ih =>
  rintro ⟨k, nm, n, ts⟩ hm hB
  have hsz : (Ty4.mk k nm n ts).size = Ty4.sizes ts + 1 := rfl
  have hlen : (ts.map tyD).length = ts.length := List.length_map ..
  have hle := Ty4.len_le ts
  rw [ir]
  refine XQ.en Tryz.func56 Tryz.ntmps56 (fun w0 own H V v0 hf => ?_)
  refine Gs (T := T) 100001 rfl ?_
  refine (FzTo.bz 0 rfl).c ?_
  refine (FzTo.bz 1 rfl).c ?_
  refine Gs (T := T) 1000 rfl ?_
  refine If rfl (fun h => absurd h (by simp)) (fun _ => ?_)
  refine G (T := T) 1000 rfl ?_
  refine Lq [2, 3] (fun (q : Nat) r => (5, xi (q : Nat)) :: r) (fun q => []) 2 (fun q => q ≤ ts.length) (fun q => ts.length - q) 0 rfl (Nat.zero_le _) ?_
  intro j hj
  refine G (T := T) 1000 rfl ?_
  refine If rfl (fun h => ?_) (fun h => ?_)
  · have hjl := of_decide_eq_true h
    obtain ⟨y, hy⟩ := ah (l := ts) (j := j) (by omega)
    refine G (T := T) 1000 rfl ?_
    refine Ix (T := T) j (ab hy) rfl rfl rfl rfl ⟨rfl, rfl⟩ rfl rfl ?_
    refine G (T := T) 1000 rfl ?_
    refine Ix (T := T) j (ab hy) rfl rfl rfl rfl ⟨rfl, rfl⟩ rfl rfl ?_
    refine G (T := T) 1000 rfl ?_
    refine Cq (ih y (by have := Ty4.size_mem (List.mem_of_getElem? hy); omega) (by omega)) rfl rfl rfl rfl rfl ⟨rfl, rfl⟩ ?_
    refine G (T := T) 1000 rfl ?_
    refine If rfl (fun h => absurd h (by simp)) (fun _ => ?_)
    refine G (T := T) 1000 rfl ?_
    exact Nq (j + 1) (by show j + 1 ≤ ts.length; omega) (by show _ - (j + 1) < _ - j; omega)
  · refine G (T := T) 1000 rfl ?_
    exact Fe (T := T) rfl rfl
theorem iW {l : List Par} (h : ∀ p ∈ l, p.ty.size ≤ 100000000000) (hl : l.length ≤ 100000000000) : XQ Tryz.prog pk 55 [xr (l.map paD), xr (l.map paD)] (xb true) := by
  have hlen : (l.map paD).length = l.length := List.length_map ..
  refine XQ.en Tryz.func55 Tryz.ntmps55 (fun w0 own H V v0 hf => ?_)
  refine G (T := T) 1000 rfl ?_
  refine If rfl (fun h => absurd h (by simp)) (fun _ => ?_)
  refine G (T := T) 1000 rfl ?_
  refine Lq [0, 1] (fun (q : Nat) r => (5, xi (q : Nat)) :: r) (fun q => []) 0 (fun q => q ≤ l.length) (fun q => l.length - q) 0 rfl (Nat.zero_le _) ?_
  intro j hj
  refine G (T := T) 1000 rfl ?_
  refine If rfl (fun h1 => ?_) (fun h1 => ?_)
  · have hjl := of_decide_eq_true h1
    obtain ⟨y, hy⟩ := ah (l := l) (j := j) (by omega)
    refine G (T := T) 1000 rfl ?_
    refine Ix (T := T) j (ab hy) rfl rfl rfl rfl ⟨rfl, rfl⟩ rfl rfl ?_
    refine G (T := T) 1000 rfl ?_
    refine Ix (T := T) j (ab hy) rfl rfl rfl rfl ⟨rfl, rfl⟩ rfl rfl ?_
    refine G (T := T) 1000 rfl ?_
    refine Cq (fo _ y.ty (Nat.le_refl _) (h y (List.mem_of_getElem? hy))) rfl rfl rfl rfl rfl ⟨rfl, rfl⟩ ?_
    refine G (T := T) 1000 rfl ?_
    refine Ix (T := T) j (ab hy) rfl rfl rfl rfl ⟨rfl, rfl⟩ rfl rfl ?_
    refine G (T := T) 1000 rfl ?_
    refine Ix (T := T) j (ab hy) rfl rfl rfl rfl ⟨rfl, rfl⟩ rfl rfl ?_
    refine G (T := T) 1000 rfl ?_
    refine If rfl (fun h => absurd h (by simp)) (fun _ => ?_)
    refine G (T := T) 1000 rfl ?_
    exact Nq (j + 1) (by show j + 1 ≤ l.length; omega) (by show _ - (j + 1) < _ - j; omega)
  · refine G (T := T) 1000 rfl ?_
    exact Fe (T := T) rfl rfl
theorem smD_blD (c : List Sm) : blD c = [.s (c.map smD)] := rfl
theorem pK : ∀ (m : Nat) (l : List Ex), Ex.sizes l ≤ m → m ≤ 100000000000 → XQ Tryz.prog pk 151 [xr (l.map exD), xr (l.map exD)] (xb true) := by
  intro m
  induction m with
  | zero =>
    intro l h _
    have hl := Ex.len_le l
    obtain rfl : l = [] := List.length_eq_zero_iff.1 (by omega)
    refine XQ.en Tryz.func151 Tryz.ntmps151 (fun w0 own H V v0 hf => ?_)
    refine G (T := T) 1000 rfl ?_
    refine If rfl (fun h => absurd h (by simp)) (fun _ => ?_)
    refine G (T := T) 1000 rfl ?_
    refine Lq [0, 1] (fun (q : Nat) r => (5, xi (q : Nat)) :: r) (fun q => []) 0 (fun q => q = 0) (fun q => 0) 0 rfl rfl ?_
    rintro _ rfl
    refine G (T := T) 1000 rfl ?_
    refine If rfl (fun h => absurd h (by simp)) (fun h => ?_)
    refine G (T := T) 1000 rfl ?_
    exact Fe (T := T) rfl rfl
  | succ m ih =>
  intro l hm hB
  have hlen : (l.map exD).length = l.length := List.length_map ..
  have hle := Ex.len_le l
  refine XQ.en Tryz.func151 Tryz.ntmps151 (fun w0 own H V v0 hf => ?_)
  refine G (T := T) 1000 rfl ?_
  refine If rfl (fun h => absurd h (by simp)) (fun _ => ?_)
  refine G (T := T) 1000 rfl ?_
  refine Lq [0, 1] (fun (q : Nat) r => (5, xi (q : Nat)) :: r) (fun q => []) 0 (fun q => q ≤ l.length) (fun q => l.length - q) 0 rfl (Nat.zero_le _) ?_
  intro j hj
  refine G (T := T) 1000 rfl ?_
  refine If rfl (fun h1 => ?_) (fun h1 => ?_)
  · have hjl := of_decide_eq_true h1
    obtain ⟨y, hy⟩ := ah (l := l) (j := j) (by omega)
    have hys := Ex.size_mem (List.mem_of_getElem? hy)
    obtain ⟨k, nm, n, ks⟩ := y
    have hsz : (Ex.mk k nm n ks).size = Ex.sizes ks + 1 := rfl
    have hgy := ab (f := exD) hy
    rw [dv] at hgy
    refine G (T := T) 1000 rfl ?_
    refine Ix (T := T) j hgy rfl rfl rfl rfl ⟨rfl, rfl⟩ rfl rfl ?_
    refine G (T := T) 1000 rfl ?_
    refine Ix (T := T) j hgy rfl rfl rfl rfl ⟨rfl, rfl⟩ rfl rfl ?_
    refine G (T := T) 1000 rfl ?_
    refine Cq (ih ks (by omega) (by omega)) rfl rfl rfl rfl rfl ⟨rfl, rfl⟩ ?_
    refine G (T := T) 1000 rfl ?_
    refine Ix (T := T) j hgy rfl rfl rfl rfl ⟨rfl, rfl⟩ rfl rfl ?_
    refine G (T := T) 1000 rfl ?_
    refine Ix (T := T) j hgy rfl rfl rfl rfl ⟨rfl, rfl⟩ rfl rfl ?_
    refine G (T := T) 43 rfl ?_
    rw [dne]
    refine G (T := T) 1000 rfl ?_
    refine Ix (T := T) j hgy rfl rfl rfl rfl ⟨rfl, rfl⟩ rfl rfl ?_
    refine G (T := T) 1000 rfl ?_
    refine Ix (T := T) j hgy rfl rfl rfl rfl ⟨rfl, rfl⟩ rfl rfl ?_
    refine G (T := T) 56 rfl ?_
    rw [dne]
    refine G (T := T) 1000 rfl ?_
    refine Ix (T := T) j hgy rfl rfl rfl rfl ⟨rfl, rfl⟩ rfl rfl ?_
    refine G (T := T) 1000 rfl ?_
    refine Ix (T := T) j hgy rfl rfl rfl rfl ⟨rfl, rfl⟩ rfl rfl ?_
    refine G (T := T) 1000 rfl ?_
    refine If rfl (fun h => absurd h (by simp)) (fun _ => ?_)
    refine G (T := T) 1000 rfl ?_
    exact Nq (j + 1) (by show j + 1 ≤ l.length; omega) (by show _ - (j + 1) < _ - j; omega)
  · refine G (T := T) 1000 rfl ?_
    exact Fe (T := T) rfl rfl
theorem pL : ∀ (m : Nat) (l : List Sm), Sm.sizes l ≤ m → m ≤ 100000000000 → XQ Tryz.prog pk 109 [xr (l.map smD), xr (l.map smD)] (xb true) := by
  intro m
  induction m with
  | zero =>
    intro l h _
    have hl := Sm.len_le l
    obtain rfl : l = [] := List.length_eq_zero_iff.1 (by omega)
    refine XQ.en Tryz.func109 Tryz.ntmps109 (fun w0 own H V v0 hf => ?_)
    refine G (T := T) 1000 rfl ?_
    refine If rfl (fun h => absurd h (by simp)) (fun _ => ?_)
    refine G (T := T) 1000 rfl ?_
    refine Lq [0, 1] (fun (q : Nat) r => (5, xi (q : Nat)) :: r) (fun q => []) 0 (fun q => q = 0) (fun q => 0) 0 rfl rfl ?_
    rintro _ rfl
    refine G (T := T) 1000 rfl ?_
    refine If rfl (fun h => absurd h (by simp)) (fun h => ?_)
    refine G (T := T) 1000 rfl ?_
    exact Fe (T := T) rfl rfl
  | succ m ih =>
  intro l hm hB
  have hlen : (l.map smD).length = l.length := List.length_map ..
  have hle := Sm.len_le l
  refine XQ.en Tryz.func109 Tryz.ntmps109 (fun w0 own H V v0 hf => ?_)
  refine G (T := T) 1000 rfl ?_
  refine If rfl (fun h => absurd h (by simp)) (fun _ => ?_)
  refine G (T := T) 1000 rfl ?_
  refine Lq [0, 1] (fun (q : Nat) r => (5, xi (q : Nat)) :: r) (fun q => []) 0 (fun q => q ≤ l.length) (fun q => l.length - q) 0 rfl (Nat.zero_le _) ?_
  intro j hj
  refine G (T := T) 1000 rfl ?_
  refine If rfl (fun h1 => ?_) (fun h1 => ?_)
  · have hjl := of_decide_eq_true h1
    obtain ⟨y, hy⟩ := ah (l := l) (j := j) (by omega)
    have hys := Sm.size_mem (List.mem_of_getElem? hy)
    obtain ⟨k, nm, t, n, es, b, el, cs⟩ := y
    have hsz : (Sm.mk k nm t n es b el cs).size = t.size + Ex.sizes es + Sm.sizes b + Sm.sizes el + Sm.csizes cs + 1 := rfl
    have hgy := ab (f := smD) hy
    rw [aJ] at hgy
    have hcl : (cs.map blD).length = cs.length := List.length_map ..
    have hcle := Sm.clen_le cs
    refine G (T := T) 1000 rfl ?_
    refine Ix (T := T) j hgy rfl rfl rfl rfl ⟨rfl, rfl⟩ rfl rfl ?_
    refine G (T := T) 1000 rfl ?_
    refine Ix (T := T) j hgy rfl rfl rfl rfl ⟨rfl, rfl⟩ rfl rfl ?_
    refine G (T := T) 1000 rfl ?_
    refine Cq (pK _ es (Nat.le_refl _) (by omega)) rfl rfl rfl rfl rfl ⟨rfl, rfl⟩ ?_
    refine G (T := T) 1000 rfl ?_
    refine Ix (T := T) j hgy rfl rfl rfl rfl ⟨rfl, rfl⟩ rfl rfl ?_
    refine G (T := T) 1000 rfl ?_
    refine Ix (T := T) j hgy rfl rfl rfl rfl ⟨rfl, rfl⟩ rfl rfl ?_
    refine G (T := T) 1000 rfl ?_
    refine Cq (ih b (by omega) (by omega)) rfl rfl rfl rfl rfl ⟨rfl, rfl⟩ ?_
    refine G (T := T) 1000 rfl ?_
    refine Ix (T := T) j hgy rfl rfl rfl rfl ⟨rfl, rfl⟩ rfl rfl ?_
    refine G (T := T) 1000 rfl ?_
    refine Ix (T := T) j hgy rfl rfl rfl rfl ⟨rfl, rfl⟩ rfl rfl ?_
    refine G (T := T) 1000 rfl ?_
    refine Cq (ih el (by omega) (by omega)) rfl rfl rfl rfl rfl ⟨rfl, rfl⟩ ?_
    refine G (T := T) 1000 rfl ?_
    refine Ix (T := T) j hgy rfl rfl rfl rfl ⟨rfl, rfl⟩ rfl rfl ?_
    refine G (T := T) 1000 rfl ?_
    refine Ix (T := T) j hgy rfl rfl rfl rfl ⟨rfl, rfl⟩ rfl rfl ?_
    refine G (T := T) 1000 rfl ?_
    refine Cq (fo _ t (Nat.le_refl _) (by omega)) rfl rfl rfl rfl rfl ⟨rfl, rfl⟩ ?_
    refine G (T := T) 1000 rfl ?_
    refine Ix (T := T) j hgy rfl rfl rfl rfl ⟨rfl, rfl⟩ rfl rfl ?_
    refine G (T := T) 1000 rfl ?_
    refine Ix (T := T) j hgy rfl rfl rfl rfl ⟨rfl, rfl⟩ rfl rfl ?_
    refine G (T := T) 93 rfl ?_
    rw [dne]
    refine G (T := T) 1000 rfl ?_
    refine Ix (T := T) j hgy rfl rfl rfl rfl ⟨rfl, rfl⟩ rfl rfl ?_
    refine G (T := T) 1000 rfl ?_
    refine Ix (T := T) j hgy rfl rfl rfl rfl ⟨rfl, rfl⟩ rfl rfl ?_
    refine G (T := T) 106 rfl ?_
    rw [dne]
    refine G (T := T) 1000 rfl ?_
    refine Ix (T := T) j hgy rfl rfl rfl rfl ⟨rfl, rfl⟩ rfl rfl ?_
    refine G (T := T) 1000 rfl ?_
    refine Ix (T := T) j hgy rfl rfl rfl rfl ⟨rfl, rfl⟩ rfl rfl ?_
    refine G (T := T) 119 rfl ?_
    rw [dne]
    refine G (T := T) 1000 rfl ?_
    refine Ix (T := T) j hgy rfl rfl rfl rfl ⟨rfl, rfl⟩ rfl rfl ?_
    refine G (T := T) 1000 rfl ?_
    refine Ix (T := T) j hgy rfl rfl rfl rfl ⟨rfl, rfl⟩ rfl rfl ?_
    refine G (T := T) 1000 rfl ?_
    refine If rfl (fun h => absurd h (by simp)) (fun _ => ?_)
    refine G (T := T) 1000 rfl ?_
    refine Lq [0, 1, 5] (fun (q : Nat) r => (10, xi (q : Nat)) :: r) (fun q => []) 0 (fun q => q ≤ cs.length) (fun q => cs.length - q) 0 rfl (Nat.zero_le _) ?_
    intro i hi
    refine G (T := T) 1000 rfl ?_
    refine Ix (T := T) j hgy rfl rfl rfl rfl ⟨rfl, rfl⟩ rfl rfl ?_
    refine G (T := T) 1000 rfl ?_
    refine If rfl (fun h2 => ?_) (fun h2 => ?_)
    · have hil := of_decide_eq_true h2
      obtain ⟨c, hc⟩ := ah (l := cs) (j := i) (by omega)
      have hcs := Sm.csize_mem (List.mem_of_getElem? hc)
      have hgc := ab (f := blD) hc
      rw [smD_blD] at hgc
      refine G (T := T) 1000 rfl ?_
      refine Ix (T := T) j hgy rfl rfl rfl rfl ⟨rfl, rfl⟩ rfl rfl ?_
      refine G (T := T) 1000 rfl ?_
      refine Ix (T := T) i hgc rfl rfl rfl rfl ⟨rfl, rfl⟩ rfl rfl ?_
      refine G (T := T) 1000 rfl ?_
      refine Ix (T := T) j hgy rfl rfl rfl rfl ⟨rfl, rfl⟩ rfl rfl ?_
      refine G (T := T) 1000 rfl ?_
      refine Ix (T := T) i hgc rfl rfl rfl rfl ⟨rfl, rfl⟩ rfl rfl ?_
      refine G (T := T) 1000 rfl ?_
      refine Cq (ih c (by omega) (by omega)) rfl rfl rfl rfl rfl ⟨rfl, rfl⟩ ?_
      refine G (T := T) 1000 rfl ?_
      refine If rfl (fun h => absurd h (by simp)) (fun _ => ?_)
      refine G (T := T) 1000 rfl ?_
      exact Nq (i + 1) (by show i + 1 ≤ cs.length; omega) (by show _ - (i + 1) < _ - i; omega)
    · refine G (T := T) 1000 rfl ?_
      exact Nq (j + 1) (by show j + 1 ≤ l.length; omega) (by show _ - (j + 1) < _ - j; omega)
  · refine G (T := T) 1000 rfl ?_
    exact Fe (T := T) rfl rfl
theorem same_func {B : Nat} {f : Fu} (hf : f.ok B) (hB : B ≤ 90000000000) : XQ Tryz.prog pk 57 [xd (fuD f), xd (fuD f)] (xb true) := by
  obtain ⟨h1, h2, h3, h4, h5, h6, h7, h8, h9⟩ := hf
  refine XQ.en Tryz.func57 Tryz.ntmps57 (fun w0 own H V v0 hf => ?_)
  refine G (T := T) 100001 rfl ?_
  refine (FzTo.bz 0 rfl).c ?_
  refine (FzTo.bz 1 rfl).c ?_
  refine G (T := T) 1000 rfl ?_
  refine Cq (iW (l := f.ps) (fun p hp => by have := (h3 p hp).2.2; omega) (by omega)) rfl rfl rfl rfl rfl ⟨rfl, rfl⟩ ?_
  refine G (T := T) 1000 rfl ?_
  refine Cq (fo _ f.res (Nat.le_refl _) (by omega)) rfl rfl rfl rfl rfl ⟨rfl, rfl⟩ ?_
  refine G (T := T) 1000 rfl ?_
  refine Cq (pL _ f.body (Nat.le_refl _) (by omega)) rfl rfl rfl rfl rfl ⟨rfl, rfl⟩ ?_
  refine G (T := T) 36 rfl ?_
  rw [deq]
  refine G (T := T) 1000 rfl ?_
  refine EqB Tryz.underlying4 rfl rfl rfl ⟨rfl, rfl⟩ ?_
  rw [beqT]
  refine G (T := T) 1000 rfl ?_
  refine Eqs rfl rfl rfl rfl rfl (by kernel_rfl) (kN _ _ _ _) ⟨rfl, rfl⟩ ?_
  refine G (T := T) 1000 rfl ?_
  exact Fe (T := T) rfl (congrArg xb (by simp))
theorem mr {B : Nat} {p : Pg} (hp : p.ok B) (hB : B ≤ 90000000000) : XQ Tryz.prog pk 17 [xd (pgD p), xd (pgD p)] (xb true) := by
  obtain ⟨tl, gl, fl, ht, hg, hfs⟩ := hp
  have l1 : (p.ts.map tdD).length = p.ts.length := List.length_map ..
  have l2 : (p.gs.map gbD).length = p.gs.length := List.length_map ..
  have l3 : (p.fs.map fuD).length = p.fs.length := List.length_map ..
  refine XQ.en Tryz.func17 Tryz.ntmps17 (fun w0 own H V v0 hf => ?_)
  refine Gs (T := T) 100001 rfl ?_
  refine (FzTo.bz 0 rfl).c ?_
  refine (FzTo.bz 1 rfl).c ?_
  refine Gs (T := T) 1000 rfl ?_
  refine If rfl (fun h => absurd h (by simp)) (fun _ => ?_)
  refine G (T := T) 1000 rfl ?_
  refine Lq [2, 3] (fun (q : Nat) r => (5, xi (q : Nat)) :: r) (fun q => []) 2 (fun q => q ≤ p.ts.length) (fun q => p.ts.length - q) 0 rfl (Nat.zero_le _) ?_
  intro j hj
  refine G (T := T) 1000 rfl ?_
  refine If rfl (fun h1 => ?_) (fun h1 => ?_)
  · have hjl := of_decide_eq_true h1
    obtain ⟨y, hy⟩ := ah (l := p.ts) (j := j) (by omega)
    obtain ⟨_, y2, y3⟩ := ht y (List.mem_of_getElem? hy)
    refine G (T := T) 1000 rfl ?_
    refine Ix (T := T) j (ab hy) rfl rfl rfl rfl ⟨rfl, rfl⟩ rfl rfl ?_
    refine G (T := T) 1000 rfl ?_
    refine Ix (T := T) j (ab hy) rfl rfl rfl rfl ⟨rfl, rfl⟩ rfl rfl ?_
    refine G (T := T) 1000 rfl ?_
    refine Cq (iW (l := y.fs) (fun q hq => by have := (y3 q hq).2.2; omega) (by omega)) rfl rfl rfl rfl rfl ⟨rfl, rfl⟩ ?_
    refine G (T := T) 71 rfl ?_
    rw [dne]
    refine G (T := T) 1000 rfl ?_
    refine NeB Tryz.underlying4 rfl rfl rfl ⟨rfl, rfl⟩ ?_
    rw [beqT]
    refine G (T := T) 1000 rfl ?_
    refine If rfl (fun h => absurd h (by simp)) (fun _ => ?_)
    refine G (T := T) 1000 rfl ?_
    exact Nqn (fun k => k) (j + 1) (by show j + 1 ≤ p.ts.length; omega) (by show _ - (j + 1) < _ - j; omega)
  refine G (T := T) 1000 rfl ?_
  refine Lq [2, 3] (fun (q : Nat) r => (9, xi (q : Nat)) :: r) (fun q => []) 2 (fun q => q ≤ p.gs.length) (fun q => p.gs.length - q) 0 rfl (Nat.zero_le _) ?_
  intro j hj
  refine G (T := T) 1000 rfl ?_
  refine If rfl (fun h1 => ?_) (fun h1 => ?_)
  · have hjl := of_decide_eq_true h1
    obtain ⟨y, hy⟩ := ah (l := p.gs) (j := j) (by omega)
    obtain ⟨_, y2, y3, _⟩ := hg y (List.mem_of_getElem? hy)
    refine G (T := T) 1000 rfl ?_
    refine Ix (T := T) j (ab hy) rfl rfl rfl rfl ⟨rfl, rfl⟩ rfl rfl ?_
    refine G (T := T) 1000 rfl ?_
    refine Ix (T := T) j (ab hy) rfl rfl rfl rfl ⟨rfl, rfl⟩ rfl rfl ?_
    refine G (T := T) 1000 rfl ?_
    refine Cq (fo _ y.ty (Nat.le_refl _) (by omega)) rfl rfl rfl rfl rfl ⟨rfl, rfl⟩ ?_
    refine G (T := T) 109 rfl ?_
    rw [dne]
    refine G (T := T) 116 rfl ?_
    rw [dne]
    refine G (T := T) 123 rfl ?_
    rw [dne]
    refine G (T := T) 1000 rfl ?_
    refine If rfl (fun h => absurd h (by simp)) (fun _ => ?_)
    refine G (T := T) 1000 rfl ?_
    exact Nqn (fun k => k) (j + 1) (by show j + 1 ≤ p.gs.length; omega) (by show _ - (j + 1) < _ - j; omega)
  refine G (T := T) 1000 rfl ?_
  refine Lq [2, 3] (fun (q : Nat) r => (13, xi (q : Nat)) :: r) (fun q => []) 2 (fun q => q ≤ p.fs.length) (fun q => p.fs.length - q) 0 rfl (Nat.zero_le _) ?_
  intro j hj
  refine G (T := T) 1000 rfl ?_
  refine If rfl (fun h1 => ?_) (fun h1 => ?_)
  · have hjl := of_decide_eq_true h1
    obtain ⟨y, hy⟩ := ah (l := p.fs) (j := j) (by omega)
    refine G (T := T) 1000 rfl ?_
    refine Ix (T := T) j (ab hy) rfl rfl rfl rfl ⟨rfl, rfl⟩ rfl rfl ?_
    refine G (T := T) 1000 rfl ?_
    refine Ix (T := T) j (ab hy) rfl rfl rfl rfl ⟨rfl, rfl⟩ rfl rfl ?_
    refine G (T := T) 1000 rfl ?_
    refine Cq (same_func (hfs y (List.mem_of_getElem? hy)) hB) rfl rfl rfl rfl rfl ⟨rfl, rfl⟩ ?_
    refine G (T := T) 1000 rfl ?_
    refine If rfl (fun h => absurd h (by simp)) (fun _ => ?_)
    refine G (T := T) 1000 rfl ?_
    exact Nq (j + 1) (by show j + 1 ≤ p.fs.length; omega) (by show _ - (j + 1) < _ - j; omega)
  refine G (T := T) 1000 rfl ?_
  exact Fe (T := T) rfl rfl
end
section
open Go Go.RowKit Go.Proofs K
variable {pk : Pk}
theorem gX (h : FTk pk) {t : Tr} (hl : lbO t) (i : Int) (hp : aA t.kids i.toNat fEx = none → pk.ψ) : XQ Tryz.prog pk 148 [xd (trd (aB t i.toNat))] (xd (exD (jEx (aB t i.toNat)))) := by
  refine ft_expr h _ _ (Nat.le_refl _) (co hl _) (fun e => hp ?_)
  cases hk : t.kids[i.toNat]? with
  | none => exact bn hk
  | some k => rw [cA hk] at e; rw [aA, hk]; exact e
theorem lst_no {α : Type} {ks : List Tr} {cs : List (Option α)} {i : Nat} {w : ByteArray} (h : ∀ u, ks[i]? = some u → lb u ≠ w) : di ks cs i w = none := by
  rw [di]
  cases hk : ks[i]? with
  | none => rfl
  | some u => show (if u.lab = w then _ else none) = none; rw [if_neg (by rw [kU]; exact h u hk)]
theorem lst_no2 {α : Type} {ks : List Tr} {cs : List (Option α)} {i : Nat} {w : ByteArray} (h : ∀ c, cs[i]? = some c → c = none) : di ks cs i w = none := by
  rw [di]
  cases hk : ks[i]? with
  | none => rfl
  | some u =>
    show (if u.lab = w then (cs[i]?).bind id else none) = none
    split
    · cases hc : cs[i]? with
      | none => rfl
      | some c => rw [h c hc]; rfl
    · rfl
theorem nM (ks : List Tr) : (aP ks).length = ks.length := List.length_map ..
theorem ft_switch (h : FTk pk) {L : ByteArray} {ks : List Tr} (hl : lbO (.node L ks)) (h2 : 2 ≤ ks.length) (hx : aA ks 0 fEx = none → pk.ψ) (hc : ∀ i u, 1 ≤ i → i < ks.length - 1 → ks[i]? = some u → XQ Tryz.prog pk 106 [xr (aP u.kids), xf 107 [] []] (xr ((u.kids.map jSm).map smD)))
    (hd : XQ Tryz.prog pk 46 [xd (trd (.node L ks)), xi ((ks.length : Int) - 1), xs bl] (xr (aP (aT (.node L ks) (ks.length - 1))))) (he : XQ Tryz.prog pk 106 [xr (aP (aT (.node L ks) (ks.length - 1))), xf 107 [] []] (xr (((aT (.node L ks) (ks.length - 1)).map jSm).map smD))) :
    XQ Tryz.prog pk 149 [xd (trd (.node L ks))] (xd (smD (.mk 9 K.eS ty4z 0 [jEx (et ks 0)] [] ((aT (.node L ks) (ks.length - 1)).map jSm) (((ks.map fun u => u.kids.map jSm).take (ks.length - 1)).drop 1)))) := by
  have k0 := dx h (t := .node L ks) (i := 0) (by omega) (fun e => hx (bn e))
  have k1 := gX h (t := .node L ks) hl 0 hx
  have hlk : ks.length ≤ 100000000000 := hl.2.1
  have hkl := nM ks
  have hone : ∀ r ∈ aP ks, r.length = 2 := fun r hr => by obtain ⟨t, _, rfl⟩ := List.mem_map.1 hr; rfl
  rw [ba] at k0 hd ⊢
  rw [aJ]
  refine XQ.en Tryz.func149 Tryz.ntmps149 (fun w0 own H V v0 hf => ?_)
  refine G (T := T) 100001 rfl ?_
  refine (FzTo.bz 0 rfl).c ?_
  refine G (T := T) 1000 rfl ?_
  refine Cq k0 rfl rfl rfl rfl rfl ⟨rfl, rfl⟩ ?_
  refine G (T := T) 1000 rfl ?_
  refine Cq k1 rfl rfl rfl rfl rfl ⟨rfl, rfl⟩ ?_
  refine G (T := T) 19 rfl ?_
  refine Sd (T := T) 1 (ks.length - 1) ⟨_, _, rfl, rfl⟩ ⟨_, _, rfl, rfl⟩ rfl rfl rfl ⟨rfl, rfl⟩ rfl (by show ((aP ks).length : Int) - 1 = _; omega) (by omega) (by omega) hone ?_
  refine G (T := T) 1000 rfl ?_
  obtain ⟨cs, hcs⟩ : ∃ cs, cs = (ks.drop 1).take (ks.length - 1 - 1) := ⟨_, rfl⟩
  have hcl : cs.length = ks.length - 1 - 1 := by rw [hcs, List.length_take, List.length_drop]; omega
  have ecs : List.take (ks.length - 1 - 1) (List.drop 1 (aP ks)) = aP cs := by rw [hcs, aP, aP, List.map_take, List.map_drop]
  have ecs2 : ((ks.map fun u => u.kids.map jSm).take (ks.length - 1)).drop 1 = cs.map fun u => u.kids.map jSm := by
    rw [hcs, ← List.map_take, ← List.map_drop, List.drop_take]
  rw [ecs, ecs2]
  refine (Nrh 2 10 63 1 rfl rfl rfl rfl rfl).c ?_
  refine Lq [1, 2, 3, 4, 19, 20] (fun (q : Nat × List (List D)) r => (21, xi (q.1 : Nat)) :: r) (fun q => [⟨3, 1, .row q.1 q.2 63 1⟩, ⟨2, 0, .cells [.d (.c (.int .i64 9)), .d (.c (.string eS)), .d (.c (.int .i64 0)), .d (.c (.string eS)), .d (.c (.int .i64 0)), .z, .d (.c (.int .u16 0)), .d (.s [exD (jEx (aB (.node L ks) (0 : Int).toNat))]), .z, .z, .l 3 1 1 0 q.1 q.1] 66⟩, ⟨1, 0, .cells [.d (.c (.int .i64 0)), .d (.c (.string eS)), .d (.c (.int .i64 0)), .d (.c (.string eS)), .d (.c (.int .i64 0)), .z, .d (.c (.int .u16 0)), .z, .z, .z, .z] 66⟩]) 4 (fun q => q.1 ≤ cs.length ∧ q.2 = ((cs.take q.1).map fun u => u.kids.map jSm).map blD) (fun q => cs.length - q.1) (0, []) rfl ⟨Nat.zero_le _, rfl⟩ ?_
  rintro ⟨j, R⟩ ⟨hj, hR⟩; dsimp only at hj hR ⊢
  have hcl2 := nM cs
  refine G (T := T) 1000 rfl ?_
  refine If rfl (fun h1 => ?_) (fun h1 => ?_)
  · have hjl := of_decide_eq_true h1
    obtain ⟨u, hu⟩ := ah (l := cs) (j := j) (by omega)
    have hu' : ks[j + 1]? = some u := by
      rw [hcs, List.getElem?_take, if_pos (by omega), List.getElem?_drop] at hu
      rw [← hu]; congr 1; omega
    have hcu := hc (j + 1) u (by omega) (by omega) hu'
    obtain ⟨lu, us⟩ := u
    refine G (T := T) 1000 rfl ?_
    refine Ix (T := T) j (ab hu) rfl rfl rfl rfl ⟨rfl, rfl⟩ rfl rfl ?_
    rw [ba]
    refine G (T := T) 1000 rfl ?_
    refine Cq hcu rfl rfl rfl rfl rfl ⟨rfl, rfl⟩ ?_
    refine G (T := T) 1000 rfl ?_
    refine Nq (j + 1, R ++ [blD (us.map jSm)]) ⟨by dsimp only; omega, by dsimp only; rw [hR, List.take_add_one, hu]; simp [Tr.kids]⟩ (by show _ - (j + 1) < _ - j; omega)
  · have hjl := of_decide_eq_false h1
    rw [List.take_of_length_le (by omega)] at hR; subst hR
    refine G (T := T) 1000 rfl ?_
    rw [hkl]
    refine Cq hd rfl rfl rfl rfl rfl ⟨rfl, rfl⟩ ?_
    refine G (T := T) 1000 rfl ?_
    refine Cq he rfl rfl rfl rfl rfl ⟨rfl, rfl⟩ ?_
    refine G (T := T) 100009 rfl ?_
    refine Zc 3 rfl ?_ (by repeat' (first | exact trivial | apply And.intro | rfl | (simp; omega)))
    refine G (T := T) 1000 rfl ?_
    exact Fq (T := T) rfl rfl
theorem mv {α : Type} : ∀ {l : List (Option α)}, none ∈ l → allO l = none
  | x :: r, h => by
    rw [allO]
    rcases List.mem_cons.1 h with rfl | h
    · rfl
    · rw [mv h]; cases x <;> rfl
theorem lst_mem {L : ByteArray} {ks : List Tr} {i : Nat} {t : Tr} (h : t ∈ aT (.node L ks) i) : ∃ u, ks[i]? = some u ∧ t ∈ u.kids := by
  rw [aT, aB] at h
  cases hk : ks[i]? with
  | none => rw [show (Tr.node L ks).kids[i]? = none from hk] at h; cases h
  | some u => rw [show (Tr.node L ks).kids[i]? = some u from hk] at h; exact ⟨u, rfl, h⟩
theorem ft_stmt (h : FTk pk) : ∀ (n : Nat) (t : Tr), t.size ≤ n → lbO t → (fSm t = none → pk.ψ) → XQ Tryz.prog pk 107 [xd (trd t)] (xd (smD (jSm t))) := by
  intro n
  induction n with
  | zero => intro t hn; cases t; simp only [Tr.size] at hn; omega
  | succ n ih =>
  rintro ⟨L, ks⟩ hn hl hp
  have hps : (ae L).size ≤ 1000000000 := gN hl.1
  have hs := bN h (t := .node L ks) hl.1
  have eT := ba L ks
  rw [fSm] at hp
  have hk : ∀ k, aC cq (ad L) = some k → ep k (ae L) ks (dJ ks) (fKs ks) = none → pk.ψ := fun k e1 e2 => hp (by rw [e1]; exact e2)
  have kid : ∀ (i : Int), 0 ≤ i → (ks[i.toNat]? = none → pk.ψ) → XQ Tryz.prog pk 99 [xd [.c (.string L), .s (aP ks)], xi i] (xd (trd (aB (.node L ks) i.toNat))) := fun i h0 hp => by rw [← eT]; exact dx h h0 hp
  have hsz2 : ∀ u ∈ ks, ∀ t ∈ u.kids, t.size ≤ n := fun u hu t ht => by
    obtain ⟨l', us⟩ := u
    have h1 := Tr.size_kid hu hn
    exact Tr.size_kid ht (Nat.le_succ_of_le h1)
  have cas : ∀ u ∈ ks, (bu fSm u.kids = none → pk.ψ) → XQ Tryz.prog pk 106 [xr (aP u.kids), xf 107 [] []] (xr ((u.kids.map jSm).map smD)) := fun u hu hp => by
    have hlu := aH hl.2.2 hu
    obtain ⟨l', us⟩ := u
    exact gQ (l := us) jSm (fc := 107) (fs := []) (cs := []) hlu.2.1 (fun t ht => ih t (hsz2 _ hu t ht) (aH hlu.2.2 ht) (fun e => hp (ce ht e)))
  have blk : ∀ (i : Int) (w : ByteArray), 0 ≤ i → (di ks (fKs ks) i.toNat w = none → pk.ψ) → XQ Tryz.prog pk 46 [xd [.c (.string L), .s (aP ks)], xi i, xs w] (xr (aP (aT (.node L ks) i.toNat))) ∧ XQ Tryz.prog pk 106 [xr (aP (aT (.node L ks) i.toNat)), xf 107 [] []] (xr (((aT (.node L ks) i.toNat).map jSm).map smD)) := fun i w h0 hp => by
    refine ⟨by rw [← eT]; exact cS h h0 (fun hn => hp (lst_no hn)), ?_⟩
    have hlk := co hl i.toNat
    refine gQ (l := aT (.node L ks) i.toNat) jSm (fc := 107) (fs := []) (cs := []) (by rw [aT]; generalize aB (.node L ks) i.toNat = v at hlk; obtain ⟨_, _⟩ := v; exact hlk.2.1) (fun t ht => ?_)
    obtain ⟨u, hu, htu⟩ := lst_mem ht
    have hum := List.mem_of_getElem? hu
    have hlu := aH hl.2.2 hum
    refine ih t (hsz2 u hum t htu) (by obtain ⟨_, _⟩ := u; exact aH hlu.2.2 htu) (fun e => hp (lst_no2 fun c hc => ?_))
    rw [gW, List.getElem?_map, hu] at hc
    rw [← Option.some.inj hc]; exact ce htu e
  have all : (dJ ks = none → pk.ψ) → XQ Tryz.prog pk 106 [xr (aP ks), xf 107 [] []] (xr ((ks.map jSm).map smD)) := fun hp =>
    gQ (l := ks) jSm (fc := 107) (fs := []) (cs := []) hl.2.1 (fun t ht => ih t (Tr.size_kid ht hn) (aH hl.2.2 ht) (fun e => hp (by rw [dP]; exact ce ht e)))
  rw [show lb (.node L ks) = L from rfl, eT] at hs
  rw [eT]
  refine XQ.en Tryz.func107 Tryz.ntmps107 (fun w0 own H V v0 hf => ?_)
  refine G (T := T) 100001 rfl ?_
  refine (FzTo.bz 0 rfl).c ?_
  refine G (T := T) 1000 rfl ?_
  refine Cq hs rfl rfl rfl rfl rfl ⟨rfl, rfl⟩ ?_
  refine G (T := T) 1000 rfl ?_
  refine If rfl (fun h1 => ?_) (fun h1 => ?_)
  · have hW : ad L = w_let := of_decide_eq_true h1
    have hlk : aC cq (ad L) = some 1 := by rw [hW]; rfl
    rw [bX hlk, show dy 1 (ae L) ks (ks.map jSm) (ks.map fun u => u.kids.map jSm) = .mk 1 (ae L) (jTy (et ks 0)) 0 [jEx (et ks 1)] [] [] [] from rfl]
    have p0 : aA ks 0 fTy = none → pk.ψ := fun e => hk 1 hlk (by show (aA ks 0 fTy).bind _ = none; rw [e]; rfl)
    have p1 : aA ks 1 fEx = none → pk.ψ := fun e => hk 1 hlk (by show (aA ks 0 fTy).bind (fun t => (aA ks 1 fEx).map fun x => Sm.mk 1 (ae L) t 0 [x] [] [] []) = none; rw [e]; cases aA ks 0 fTy <;> rfl)
    refine G (T := T) 1000 rfl ?_
    refine Cq (kid 0 (by omega) (fun e => p0 (bn e))) rfl rfl rfl rfl rfl ⟨rfl, rfl⟩ ?_
    refine G (T := T) 1000 rfl ?_
    refine Cq (gP h hl 0 p0) rfl rfl rfl rfl rfl ⟨rfl, rfl⟩ ?_
    refine G (T := T) 1000 rfl ?_
    refine Cq (kid 1 (by omega) (fun e => p1 (bn e))) rfl rfl rfl rfl rfl ⟨rfl, rfl⟩ ?_
    refine G (T := T) 1000 rfl ?_
    refine Cq (gX h hl 1 p1) rfl rfl rfl rfl rfl ⟨rfl, rfl⟩ ?_
    refine G (T := T) 1000 rfl ?_
    rw [aJ]
    exact Fq (T := T) rfl rfl
  have n_let : ¬ ad L = w_let := of_decide_eq_false h1
  clear h1
  refine G (T := T) 1000 rfl ?_
  refine If rfl (fun h1 => ?_) (fun h1 => ?_)
  · have hW : ad L = w_if := of_decide_eq_true h1
    have hlk : aC cq (ad L) = some 3 := by rw [hW]; rfl
    rw [bX hlk, show dy 3 (ae L) ks (ks.map jSm) (ks.map fun u => u.kids.map jSm) = .mk 3 K.eS ty4z 0 [jEx (et ks 0)] (cP (ks.map fun u => u.kids.map jSm) 1) (cP (ks.map fun u => u.kids.map jSm) 2) [] from rfl]
    have p0 : aA ks 0 fEx = none ∨ di ks (fKs ks) 1 d4 = none ∨ di ks (fKs ks) 2 eG = none → pk.ψ := fun e => hk 3 hlk (by
      show (aA ks 0 fEx).bind (fun x => (di ks (fKs ks) 1 d4).bind fun b => (di ks (fKs ks) 2 eG).map fun e => Sm.mk 3 K.eS ty4z 0 [x] b e []) = none
      rcases e with e | e | e
      · rw [e]; rfl
      · rw [e]; cases aA ks 0 fEx <;> rfl
      · rw [e]; cases aA ks 0 fEx <;> cases di ks (fKs ks) 1 d4 <;> rfl)
    rw [jB L ks 1, jB L ks 2]
    refine G (T := T) 1000 rfl ?_
    refine Cq (kid 0 (by omega) (fun e => p0 (.inl (bn e)))) rfl rfl rfl rfl rfl ⟨rfl, rfl⟩ ?_
    refine G (T := T) 1000 rfl ?_
    refine Cq (gX h hl 0 (fun e => p0 (.inl e))) rfl rfl rfl rfl rfl ⟨rfl, rfl⟩ ?_
    refine G (T := T) 1000 rfl ?_
    refine Cq ((blk 1 d4 (by omega) (fun e => p0 (.inr (.inl e)))).1) rfl rfl rfl rfl rfl ⟨rfl, rfl⟩ ?_
    refine G (T := T) 1000 rfl ?_
    refine Cq ((blk 1 d4 (by omega) (fun e => p0 (.inr (.inl e)))).2) rfl rfl rfl rfl rfl ⟨rfl, rfl⟩ ?_
    refine G (T := T) 1000 rfl ?_
    refine Cq ((blk 2 eG (by omega) (fun e => p0 (.inr (.inr e)))).1) rfl rfl rfl rfl rfl ⟨rfl, rfl⟩ ?_
    refine G (T := T) 1000 rfl ?_
    refine Cq ((blk 2 eG (by omega) (fun e => p0 (.inr (.inr e)))).2) rfl rfl rfl rfl rfl ⟨rfl, rfl⟩ ?_
    refine G (T := T) 1000 rfl ?_
    rw [aJ]
    exact Fq (T := T) rfl rfl
  have n_if : ¬ ad L = w_if := of_decide_eq_false h1
  clear h1
  refine G (T := T) 1000 rfl ?_
  refine If rfl (fun h1 => ?_) (fun h1 => ?_)
  · have hW : ad L = gz := of_decide_eq_true h1
    have hlk : aC cq (ad L) = some 4 := by rw [hW]; rfl
    rw [bX hlk, show dy 4 (ae L) ks (ks.map jSm) (ks.map fun u => u.kids.map jSm) = .mk 4 (ae L) ty4z 0 [jEx (et ks 0)] (cP (ks.map fun u => u.kids.map jSm) 1) [] [] from rfl]
    have p0 : aA ks 0 fEx = none ∨ di ks (fKs ks) 1 bH = none → pk.ψ := fun e => hk 4 hlk (by
      show (aA ks 0 fEx).bind (fun x => (di ks (fKs ks) 1 bH).map fun b => Sm.mk 4 (ae L) ty4z 0 [x] b [] []) = none
      rcases e with e | e
      · rw [e]; rfl
      · rw [e]; cases aA ks 0 fEx <;> rfl)
    rw [jB L ks 1]
    refine G (T := T) 1000 rfl ?_
    refine Cq (kid 0 (by omega) (fun e => p0 (.inl (bn e)))) rfl rfl rfl rfl rfl ⟨rfl, rfl⟩ ?_
    refine G (T := T) 1000 rfl ?_
    refine Cq (gX h hl 0 (fun e => p0 (.inl e))) rfl rfl rfl rfl rfl ⟨rfl, rfl⟩ ?_
    refine G (T := T) 1000 rfl ?_
    refine Cq ((blk 1 bH (by omega) (fun e => p0 (.inr e))).1) rfl rfl rfl rfl rfl ⟨rfl, rfl⟩ ?_
    refine G (T := T) 1000 rfl ?_
    refine Cq ((blk 1 bH (by omega) (fun e => p0 (.inr e))).2) rfl rfl rfl rfl rfl ⟨rfl, rfl⟩ ?_
    refine G (T := T) 1000 rfl ?_
    rw [aJ]
    exact Fq (T := T) rfl rfl
  have n_while : ¬ ad L = gz := of_decide_eq_false h1
  clear h1
  refine G (T := T) 1000 rfl ?_
  refine If rfl (fun h1 => ?_) (fun h1 => ?_)
  · have hW : ad L = ku := of_decide_eq_true h1
    have hlk : aC cq (ad L) = some 5 := by rw [hW]; rfl
    rw [bX hlk, show dy 5 (ae L) ks (ks.map jSm) (ks.map fun u => u.kids.map jSm) = .mk 5 (ae L) ty4z 0 [] (ks.map jSm) [] [] from rfl]
    have p0 : dJ ks = none → pk.ψ := fun e => hk 5 hlk (by show (dJ ks).map _ = none; rw [e]; rfl)
    refine G (T := T) 1000 rfl ?_
    refine Cq (all p0) rfl rfl rfl rfl rfl ⟨rfl, rfl⟩ ?_
    refine G (T := T) 1000 rfl ?_
    rw [aJ]
    exact Fq (T := T) rfl rfl
  have n_loop : ¬ ad L = ku := of_decide_eq_false h1
  clear h1
  refine G (T := T) 1000 rfl ?_
  refine If rfl (fun h1 => ?_) (fun h1 => ?_)
  · have hW : ad L = gA := of_decide_eq_true h1
    have hlk : aC cq (ad L) = some 6 := by rw [hW]; rfl
    rw [bX hlk, show dy 6 (ae L) ks (ks.map jSm) (ks.map fun u => u.kids.map jSm) = .mk 6 (ae L) ty4z 0 [] (ks.map jSm) [] [] from rfl]
    have p0 : dJ ks = none → pk.ψ := fun e => hk 6 hlk (by show (dJ ks).map _ = none; rw [e]; rfl)
    refine G (T := T) 1000 rfl ?_
    refine Cq (all p0) rfl rfl rfl rfl rfl ⟨rfl, rfl⟩ ?_
    refine G (T := T) 1000 rfl ?_
    rw [aJ]
    exact Fq (T := T) rfl rfl
  have n_block : ¬ ad L = gA := of_decide_eq_false h1
  clear h1
  refine G (T := T) 1000 rfl ?_
  refine If rfl (fun h1 => ?_) (fun h1 => ?_)
  · have hW : ad L = gC := of_decide_eq_true h1
    have hlk : aC cq (ad L) = some 7 := by rw [hW]; rfl
    rw [bX hlk, show dy 7 (ae L) ks (ks.map jSm) (ks.map fun u => u.kids.map jSm) = .mk 7 (ae L) ty4z 0 [] [] [] [] from rfl]
    refine G (T := T) 1000 rfl ?_
    rw [aJ]
    exact Fq (T := T) rfl rfl
  have n_break : ¬ ad L = gC := of_decide_eq_false h1
  clear h1
  refine G (T := T) 1000 rfl ?_
  refine If rfl (fun h1 => ?_) (fun h1 => ?_)
  · have hW : ad L = c6 := of_decide_eq_true h1
    have hlk : aC cq (ad L) = some 8 := by rw [hW]; rfl
    rw [bX hlk, show dy 8 (ae L) ks (ks.map jSm) (ks.map fun u => u.kids.map jSm) = .mk 8 (ae L) ty4z 0 [] [] [] [] from rfl]
    refine G (T := T) 1000 rfl ?_
    rw [aJ]
    exact Fq (T := T) rfl rfl
  have n_continue : ¬ ad L = c6 := of_decide_eq_false h1
  clear h1
  refine G (T := T) 1000 rfl ?_
  refine If rfl (fun h1 => ?_) (fun h1 => ?_)
  · have hW : ad L = c7 := of_decide_eq_true h1
    have hlk : aC cq (ad L) = some 9 := by rw [hW]; rfl
    rw [bX hlk, show dy 9 (ae L) ks (ks.map jSm) (ks.map fun u => u.kids.map jSm) = .mk 9 K.eS ty4z 0 [jEx (et ks 0)] [] (cP (ks.map fun u => u.kids.map jSm) (ks.length - 1)) (((ks.map fun u => u.kids.map jSm).take (ks.length - 1)).drop 1) from rfl]
    have p9 : ks.length < 2 ∨ (aA ks 0 fEx = none ∨ allO (((fKs ks).take (ks.length - 1)).drop 1) = none ∨ di ks (fKs ks) (ks.length - 1) bl = none) → pk.ψ := fun e => hk 9 hlk (by
      show (if ks.length < 2 then none else (aA ks 0 fEx).bind fun x => (allO (((fKs ks).take (ks.length - 1)).drop 1)).bind fun c => (di ks (fKs ks) (ks.length - 1) bl).map fun e => Sm.mk 9 K.eS ty4z 0 [x] [] e c) = none
      split
      · rfl
      · rcases e with e | e | e | e
        · omega
        · rw [e]; rfl
        · rw [e]; cases aA ks 0 fEx <;> rfl
        · rw [e]; cases aA ks 0 fEx <;> cases allO (((fKs ks).take (ks.length - 1)).drop 1) <;> rfl)
    have hkl := nM ks
    rw [jB L ks (ks.length - 1)]
    refine G (T := T) 1000 rfl ?_
    refine Ce (cH h.pc (b := decide (((aP ks).length : Int) ≥ 2)) (fun hb => p9 (.inl (by have := of_decide_eq_false hb; omega)))) rfl rfl rfl rfl rfl ⟨rfl, rfl⟩ ?_
    rintro _ ⟨rfl, hb⟩
    have h2 : 2 ≤ ks.length := by have := of_decide_eq_true hb; omega
    have hb9 := blk ((ks.length : Int) - 1) bl (by omega) (fun e => p9 (.inr (.inr (.inr (by rw [show ks.length - 1 = ((ks.length : Int) - 1).toNat by omega]; exact e)))))
    rw [show ((ks.length : Int) - 1).toNat = ks.length - 1 by omega] at hb9
    have hs9 := ft_switch h hl h2 (fun e => p9 (.inr (.inl e))) (fun i u hi1 hi2 hu => cas u (List.mem_of_getElem? hu) (fun e => p9 (.inr (.inr (.inl (mv (by
      refine List.mem_iff_getElem?.2 ⟨i - 1, ?_⟩
      rw [List.getElem?_drop, List.getElem?_take, if_pos (by omega), gW, List.getElem?_map, show 1 + (i - 1) = i by omega, hu]
      exact congrArg some e))))))) (by rw [eT]; exact hb9.1) hb9.2
    rw [eT] at hs9
    refine G (T := T) 1000 rfl ?_
    refine Cq (hs9) rfl rfl rfl rfl rfl ⟨rfl, rfl⟩ ?_
    refine G (T := T) 1000 rfl ?_
    exact Fq (T := T) rfl rfl
  have n_switch : ¬ ad L = c7 := of_decide_eq_false h1
  clear h1
  refine G (T := T) 1000 rfl ?_
  refine If rfl (fun h1 => ?_) (fun h1 => ?_)
  · have hW : ad L = kv := of_decide_eq_true h1
    have hlk : aC cq (ad L) = some 12 := by rw [hW]; rfl
    rw [bX hlk, show dy 12 (ae L) ks (ks.map jSm) (ks.map fun u => u.kids.map jSm) = .mk 12 K.eS ty4z 0 [] [] [] [] from rfl]
    refine G (T := T) 1000 rfl ?_
    rw [aJ]
    exact Fq (T := T) rfl rfl
  have n_poll : ¬ ad L = kv := of_decide_eq_false h1
  clear h1
  refine G (T := T) 1000 rfl ?_
  refine If rfl (fun h1 => ?_) (fun h1 => ?_)
  · have hW : ad L = ky := of_decide_eq_true h1
    have hlk : aC cq (ad L) = some 13 := by rw [hW]; rfl
    rw [bX hlk, show dy 13 (ae L) ks (ks.map jSm) (ks.map fun u => u.kids.map jSm) = .mk 13 K.eS ty4z 0 [] [] [] [] from rfl]
    refine G (T := T) 1000 rfl ?_
    rw [aJ]
    exact Fq (T := T) rfl rfl
  have n_halt : ¬ ad L = ky := of_decide_eq_false h1
  clear h1
  have hxs : ∀ k, aC cq (ad L) = some k → (k = 2 ∨ k = 10 ∨ k = 14 ∨ k = 11) → fR ks = none → pk.ψ := fun k hlk h4 e => hk k hlk (by
    rcases h4 with rfl | rfl | rfl | rfl
    all_goals (show (fR ks).bind _ = none; rw [e]; rfl))
  refine G (T := T) 1000 rfl ?_
  have hex : (fR ks = none → pk.ψ) → XQ Tryz.prog pk 150 [xr (aP ks), xf 148 [] []] (xr ((ks.map jEx).map exD)) := fun hp =>
    oQ (l := ks) jEx (fc := 148) (fs := []) (cs := []) hl.2.1 (fun t ht => ft_expr h _ t (Nat.le_refl _) (aH hl.2.2 ht) (fun e => hp (by rw [eX]; exact ce ht e)))
  have hor : fR ks = none → pk.ψ := fun e => by
    cases hlk : aC cq (ad L) with
    | none => exact hp (by rw [hlk]; rfl)
    | some k =>
      have hm := cd hlk
      simp only [cq, List.mem_cons, List.not_mem_nil, or_false, Prod.mk.injEq] at hm
      rcases hm with ⟨rfl, e1⟩ | ⟨rfl, e1⟩ | ⟨rfl, e1⟩ | ⟨rfl, e1⟩ | ⟨rfl, e1⟩ | ⟨rfl, e1⟩ | ⟨rfl, e1⟩ | ⟨rfl, e1⟩ | ⟨rfl, e1⟩ | ⟨rfl, e1⟩ | ⟨rfl, e1⟩ | ⟨rfl, e1⟩ | ⟨rfl, e1⟩ | ⟨rfl, e1⟩
      all_goals first
        | exact absurd e1 ‹_›
        | exact hxs _ hlk (by omega) e
  refine Cq (hex hor) rfl rfl rfl rfl rfl ⟨rfl, rfl⟩ ?_
  refine G (T := T) 1000 rfl ?_
  refine If rfl (fun h1 => ?_) (fun h1 => ?_)
  · have hW : ad L = dF := of_decide_eq_true h1
    have hlk : aC cq (ad L) = some 2 := by rw [hW]; rfl
    rw [bX hlk, show dy 2 (ae L) ks (ks.map jSm) (ks.map fun u => u.kids.map jSm) = .mk 2 K.eS ty4z 0 (ks.map jEx) [] [] [] from rfl]
    refine G (T := T) 1000 rfl ?_
    rw [aJ]
    exact Fq (T := T) rfl rfl
  have n_assign : ¬ ad L = dF := of_decide_eq_false h1
  clear h1
  refine G (T := T) 1000 rfl ?_
  refine If rfl (fun h1 => ?_) (fun h1 => ?_)
  · have hW : ad L = dG := of_decide_eq_true h1
    have hlk : aC cq (ad L) = some 10 := by rw [hW]; rfl
    rw [bX hlk, show dy 10 (ae L) ks (ks.map jSm) (ks.map fun u => u.kids.map jSm) = .mk 10 K.eS ty4z 0 (ks.map jEx) [] [] [] from rfl]
    refine G (T := T) 1000 rfl ?_
    rw [aJ]
    exact Fq (T := T) rfl rfl
  have n_return : ¬ ad L = dG := of_decide_eq_false h1
  clear h1
  refine G (T := T) 1000 rfl ?_
  refine If rfl (fun h1 => ?_) (fun h1 => ?_)
  · have hW : ad L = w_do := of_decide_eq_true h1
    have hlk : aC cq (ad L) = some 14 := by rw [hW]; rfl
    rw [bX hlk, show dy 14 (ae L) ks (ks.map jSm) (ks.map fun u => u.kids.map jSm) = .mk 14 K.eS ty4z 0 (ks.map jEx) [] [] [] from rfl]
    refine G (T := T) 1000 rfl ?_
    rw [aJ]
    exact Fq (T := T) rfl rfl
  have n_do : ¬ ad L = w_do := of_decide_eq_false h1
  clear h1
  refine G (T := T) 1000 rfl ?_
  refine Ce (cH h.pc (b := decide (ad L = w_out)) (fun hb => hp (by
    have n_out := of_decide_eq_false hb
    cases hlk : aC cq (ad L) with
    | none => rfl
    | some k =>
      have hm := cd hlk
      simp only [cq, List.mem_cons, List.not_mem_nil, or_false, Prod.mk.injEq] at hm
      rcases hm with ⟨rfl, e1⟩ | ⟨rfl, e1⟩ | ⟨rfl, e1⟩ | ⟨rfl, e1⟩ | ⟨rfl, e1⟩ | ⟨rfl, e1⟩ | ⟨rfl, e1⟩ | ⟨rfl, e1⟩ | ⟨rfl, e1⟩ | ⟨rfl, e1⟩ | ⟨rfl, e1⟩ | ⟨rfl, e1⟩ | ⟨rfl, e1⟩ | ⟨rfl, e1⟩
      all_goals exact absurd e1 ‹_›))) rfl rfl rfl rfl rfl ⟨rfl, rfl⟩ ?_
  rintro _ ⟨rfl, hb⟩
  have hlk : aC cq (ad L) = some 11 := by rw [of_decide_eq_true hb]; rfl
  rw [bX hlk, show dy 11 (ae L) ks (ks.map jSm) (ks.map fun u => u.kids.map jSm) = .mk 11 K.eS ty4z (IntKind.u16.wrap (dw (ae L))) (ks.map jEx) [] [] [] from rfl]
  refine G (T := T) 1000 rfl ?_
  refine Cq (dO h hps (fun e => hk 11 hlk (by
    show (fR ks).bind (fun xs => (bh (ae L)).map fun n => Sm.mk 11 K.eS ty4z (IntKind.u16.wrap n) xs [] [] []) = none
    rw [e]; cases fR ks <;> rfl))) rfl rfl rfl rfl rfl ⟨rfl, rfl⟩ ?_
  refine G (T := T) 1000 rfl ?_
  rw [aJ]
  exact Fq (T := T) rfl rfl
end
section
open Go Go.RowKit Go.Proofs K
variable {pk : Pk}
theorem kids_no {ks : List Tr} {i : Nat} {w : ByteArray} (h : ∀ u, ks[i]? = some u → lb u ≠ w) : bv ks i w = none := by
  rw [bv]
  cases hk : ks[i]? with
  | none => rfl
  | some u => show (if u.lab = w then _ else none) = none; rw [if_neg (by rw [kU]; exact h u hk)]
theorem cU {t : Tr} {i : Nat} {w : ByteArray} {l : List Tr} (h : bv t.kids i w = some l) : aT t i = l := by
  obtain ⟨u, hu, h⟩ := Option.bind_eq_some_iff.1 (show (t.kids[i]?).bind _ = some l from h)
  split at h
  · cases h; rw [aT, cA hu]
  · cases h
theorem lstO {t : Tr} (h : lbO t) (i : Nat) : (aT t i).length ≤ 100000000000 ∧ jc (aT t i) := by
  have := co h i
  rw [aT]
  generalize aB t i = v at this ⊢
  obtain ⟨L, ks⟩ := v
  exact ⟨this.2.1, this.2.2⟩
theorem dQ {β : Type} {t : Tr} {i : Nat} {w : ByteArray} {g : Tr → Option β} : ((∀ u, t.kids[i]? = some u → lb u ≠ w) ∨ ∃ x ∈ aT t i, g x = none) → (bv t.kids i w).bind (bu g) = none := fun h => by
  cases hk : bv t.kids i w with
  | none => rfl
  | some l =>
    rcases h with h | ⟨x, hx, h⟩
    · rw [kids_no h] at hk; cases hk
    · rw [cU hk] at hx
      exact ce hx h
def jFu (t : Tr) : Fu :=
  if ad (lb t) = cI then ⟨ae (lb t), (aT t 0).map fC, jTy (aB (aB t 1) 0), [], true, dw (ae (lb (aB t 2))), IntKind.u16.wrap (dw (ae (lb (aB t 3))))⟩
  else ⟨ae (lb t), (aT t 0).map fC, jTy (aB (aB t 1) 0), (aT t 2).map jSm, false, 0, 0⟩
theorem jSm_of' {t : Tr} {x : Sm} (h : fSm t = some x) : jSm t = x := jSm_of t.size (Nat.le_refl _) h
theorem jFu_of {t : Tr} {x : Fu} (h : fFu t = some x) : jFu t = x := by
  obtain ⟨L, ks⟩ := t
  rw [fFu] at h
  obtain ⟨ps, hps, h⟩ := Option.bind_eq_some_iff.1 h
  obtain ⟨l, hl, hps⟩ := Option.bind_eq_some_iff.1 hps
  obtain ⟨r, hr, h⟩ := Option.bind_eq_some_iff.1 h
  rw [jFu, cU (t := .node L ks) hl, cf (fun _ _ => jPar_of) hps, cT (t := .node L ks) (J := fun u => jTy (aB u 0)) (fun u x e => cT (t := u) (J := jTy) (fun _ _ => kS) e) hr, show lb (.node L ks) = L from rfl]
  split at h
  · rename_i hw
    obtain ⟨b, hb, h⟩ := Option.bind_eq_some_iff.1 h
    obtain ⟨a, ha, rfl⟩ := Option.map_eq_some_iff.1 h
    rw [if_pos hw, eY (t := .node L ks) hb, eY (t := .node L ks) ha]
  · rename_i hw
    obtain ⟨b, hb, rfl⟩ := Option.map_eq_some_iff.1 h
    obtain ⟨l2, hl2, hb⟩ := Option.bind_eq_some_iff.1 hb
    rw [if_neg hw, cU (t := .node L ks) hl2, cf (fun _ _ => jSm_of') (by rw [← dP]; exact hb)]
theorem ft_func (h : FTk pk) {t : Tr} (hl : lbO t) (hp : fFu t = none → pk.ψ) : XQ Tryz.prog pk 51 [xd (trd t)] (xd (fuD (jFu t))) := by
  have hl' := hl
  obtain ⟨L, ks⟩ := t
  rw [fFu] at hp
  have q0 : ((∀ u, (Tr.node L ks).kids[0]? = some u → lb u ≠ be) ∨ ∃ x ∈ aT (.node L ks) 0, eK x = none) → pk.ψ := fun e => hp (by
    rw [show (bv ks 0 be).bind (bu eK) = none from dQ (t := .node L ks) e]; rfl)
  have q1 : aA ks 1 (fun t => aA t.kids 0 fTy) = none → pk.ψ := fun e => hp (by rw [e]; cases (bv ks 0 be).bind (bu eK) <;> rfl)
  have q2 : aA (aB (.node L ks) 1).kids 0 fTy = none → pk.ψ := fun e => q1 (by
    rw [aA]
    cases hk : ks[1]? with
    | none => rfl
    | some u => rw [cA (t := .node L ks) hk] at e; exact e)
  obtain ⟨ol, os⟩ := lstO hl' 0
  obtain ⟨o2, os2⟩ := lstO hl' 2
  rw [jFu, show lb (.node L ks) = L from rfl]
  refine XQ.en Tryz.func51 Tryz.ntmps51 (fun w0 own H V v0 hf => ?_)
  refine G (T := T) 100001 rfl ?_
  refine (FzTo.bz 0 rfl).c ?_
  refine G (T := T) 1000 rfl ?_
  refine Cq (bN h (t := .node L ks) hl.1) rfl rfl rfl rfl rfl ⟨rfl, rfl⟩ ?_
  refine G (T := T) 1000 rfl ?_
  refine Cq (cS h (t := .node L ks) (i := 0) (w := be) (by omega) (fun e => q0 (.inl e))) rfl rfl rfl rfl rfl ⟨rfl, rfl⟩ ?_
  refine G (T := T) 1000 rfl ?_
  refine Cq (oP (l := aT (.node L ks) (0 : Int).toNat) fC (fc := 102) (fs := []) (cs := []) ol (fun t ht => oO h (aH os ht) (fun e => q0 (.inr ⟨t, ht, e⟩)))) rfl rfl rfl rfl rfl ⟨rfl, rfl⟩ ?_
  refine G (T := T) 1000 rfl ?_
  refine Cq (dx h (t := .node L ks) (i := 1) (by omega) (fun e => q1 (bn e))) rfl rfl rfl rfl rfl ⟨rfl, rfl⟩ ?_
  refine G (T := T) 1000 rfl ?_
  refine Cq (dx h (t := aB (.node L ks) (1 : Int).toNat) (i := 0) (by omega) (fun e => q2 (bn e))) rfl rfl rfl rfl rfl ⟨rfl, rfl⟩ ?_
  refine G (T := T) 1000 rfl ?_
  refine Cq (gP h (t := aB (.node L ks) (1 : Int).toNat) (co hl' _) 0 q2) rfl rfl rfl rfl rfl ⟨rfl, rfl⟩ ?_
  refine G (T := T) 1000 rfl ?_
  refine If rfl (fun h1 => ?_) (fun h1 => ?_)
  · have hw : ad L = cI := of_decide_eq_true h1
    rw [if_pos hw]
    have q3 : dj ks 2 = none ∨ dj ks 3 = none → pk.ψ := fun e => hp (by
      simp only [if_pos hw]
      rcases e with e | e
      · rw [e]; cases (bv ks 0 be).bind (bu eK) <;> cases aA ks 1 (fun t => aA t.kids 0 fTy) <;> rfl
      · rw [e]; cases (bv ks 0 be).bind (bu eK) <;> cases aA ks 1 (fun t => aA t.kids 0 fTy) <;> cases dj ks 2 <;> rfl)
    refine G (T := T) 1000 rfl ?_
    refine Cq (gO h (t := .node L ks) (i := 2) (by omega) (fV (co hl' _)) (fun e => q3 (.inl (gT (t := .node L ks) e)))) rfl rfl rfl rfl rfl ⟨rfl, rfl⟩ ?_
    refine G (T := T) 1000 rfl ?_
    refine Cq (gO h (t := .node L ks) (i := 3) (by omega) (fV (co hl' _)) (fun e => q3 (.inr (gT (t := .node L ks) e)))) rfl rfl rfl rfl rfl ⟨rfl, rfl⟩ ?_
    refine G (T := T) 1000 rfl ?_
    exact Fq (T := T) rfl rfl
  · have hw : ¬ ad L = cI := of_decide_eq_false h1
    rw [if_neg hw]
    have q3 : ((∀ u, (Tr.node L ks).kids[2]? = some u → lb u ≠ bH) ∨ ∃ x ∈ aT (.node L ks) 2, fSm x = none) → pk.ψ := fun e => hp (by
      simp only [if_neg hw]
      have e9 : (bv ks 2 bH).bind dJ = none := by
        have : dJ = bu fSm := funext dP
        rw [this]
        exact dQ (t := .node L ks) e
      rw [e9]; cases (bv ks 0 be).bind (bu eK) <;> cases aA ks 1 (fun t => aA t.kids 0 fTy) <;> rfl)
    refine G (T := T) 1000 rfl ?_
    refine Cq (cS h (t := .node L ks) (i := 2) (w := bH) (by omega) (fun e => q3 (.inl e))) rfl rfl rfl rfl rfl ⟨rfl, rfl⟩ ?_
    refine G (T := T) 1000 rfl ?_
    refine Cq (gQ (l := aT (.node L ks) (2 : Int).toNat) jSm (fc := 107) (fs := []) (cs := []) o2 (fun t ht => ft_stmt h _ t (Nat.le_refl _) (aH os2 ht) (fun e => q3 (.inr ⟨t, ht, e⟩)))) rfl rfl rfl rfl rfl ⟨rfl, rfl⟩ ?_
    refine G (T := T) 1000 rfl ?_
    exact Fq (T := T) rfl rfl
def jPg (t : Tr) : Pg := ⟨(aT t 0).map jTd, (aT t 1).map jGb, (aT t 2).map jFu⟩
theorem jPg_of {t : Tr} {x : Pg} (h : fPg0 t = some x) : jPg t = x := by
  obtain ⟨L, ks⟩ := t
  rw [fPg0] at h
  obtain ⟨ts, hts, h⟩ := Option.bind_eq_some_iff.1 h
  obtain ⟨l1, hl1, hts⟩ := Option.bind_eq_some_iff.1 hts
  obtain ⟨gs, hgs, h⟩ := Option.bind_eq_some_iff.1 h
  obtain ⟨l2, hl2, hgs⟩ := Option.bind_eq_some_iff.1 hgs
  obtain ⟨fs, hfs, rfl⟩ := Option.map_eq_some_iff.1 h
  obtain ⟨l3, hl3, hfs⟩ := Option.bind_eq_some_iff.1 hfs
  rw [jPg, cU (t := .node L ks) hl1, cU (t := .node L ks) hl2, cU (t := .node L ks) hl3, cf (fun _ _ => jTd_of) hts, cf (fun _ _ => jGb_of) hgs, cf (fun _ _ => jFu_of) hfs]
end
end Go.Proofs.YtlmahofogapkgaaGreatDoor.X
