/-
  Part 6 of 6 of the proof that MatchSelf returns true for every list of numbers and every triple, and leaves its arguments as they were.. No condition beyond the given statement.
-/
import Derived.ProofKit
import Derived.Deep.Slices
import Derived.OpenShut
import Derived.WideKeyArr2
import Derived.Test.YticengaggjcppaaGreatRows
import Derived.Test.YticengaggjcppaaGreatPkC5
set_option linter.unusedVariables false
set_option linter.unusedSimpArgs false
set_option linter.all false
set_option maxRecDepth 100000
set_option maxHeartbeats 8000000
namespace Go.Proofs.YticengaggjcppaaGreat.X
section
open Go Go.RowKit Go.Proofs K
def mtL (a c : Pg) : List Pq := (aU a c).1.map fun p => (p.a, p.b, av a c p.a p.b, p.why)
def mtG (a c : Pg) : List Pq := (aU a c).2.map fun p => (p.a, p.b, 1000, 5)
theorem eK {a c : Pg} {B : Nat} (ha : a.ok B) (hc : c.ok B) (hB : B ≤ 1000000000) (fa : Fw a) (fc : Fw c) : XQ Tryz.prog pk0 15 [xd (pgD a), xd (pgD c)] (.a (.a [.d (.s ((mtL a c).map pqD)), .d (.s ((mtG a c).map pqD))])) := by
  have h := ref_Match ha hc hB fa fc
  rw [mtL, mtG, List.map_map, List.map_map]
  exact h
variable {pk : Pk}
def hasF (l : List Pq) (a b w : Int) : Bool := match l.find? fun q => decide ((q.1 : Int) = a) && decide ((q.2.1 : Int) = b) with
  | some q => decide (q.2.2.2 = w)
  | none => false
theorem iS {l : List Pq} (hl : l.length ≤ 1000000000) (a b w : Int) : XQ Tryz.prog pk 30 [xr (l.map pqD), xi a, xi b, xi w] (xb (hasF l a b w)) := by
  refine XQ.en Tryz.func30 Tryz.ntmps30 (fun w0 own H V v0 hf => ?_)
  refine G9 rfl (Lq [0, 1, 2, 3] (fun q r => (8, xb false) :: (9, xi (q : Nat)) :: r) (fun q => []) 0 (fun q => q ≤ l.length ∧ ∀ x ∈ l.take q, (decide ((x.1 : Int) = a) && decide ((x.2.1 : Int) = b)) = false) (fun q => l.length - q) 0 rfl ⟨Nat.zero_le _, fun x hx => by cases hx⟩ ?_)
  rintro j ⟨hj, hI⟩
  refine G9 rfl (If rfl (fun h => ?_) (fun h => ?_)); {
  have hjl := of_decide_eq_true h; rw [List.length_map] at hjl
  obtain ⟨y, hy⟩ := ai (l := l) (j := j) (by omega)
  refine G9 rfl (Ix (T := T) j (ab (f := pqD) hy) rfl rfl rfl rfl ⟨rfl, rfl⟩ rfl rfl ?_)
  refine Gs (T := T) 1000 rfl ?_
  refine Is (T := T) j (pqD y) (fun _ => ⟨ab (f := pqD) hy, rfl⟩) rfl rfl rfl rfl rfl rfl rfl rfl ?_
  refine Gs (T := T) 1000 rfl ?_
  refine If rfl (fun h => ?_) (fun h => ?_); {
  refine G9 rfl ?_
  refine Ix (T := T) j (ab (f := pqD) hy) rfl rfl rfl rfl ⟨rfl, rfl⟩ rfl rfl ?_
  refine G9 rfl (Fe (T := T) rfl (congrArg xb (by rw [hasF, find_at hI hy h])))}; {
  refine G9 rfl ?_
  exact Nq (j + 1) ⟨by omega, dp hI hy h⟩ (by show _ - (j + 1) < _ - j; omega)}}; {
  have hjl := of_decide_eq_false h; rw [List.length_map] at hjl
  refine G9 rfl ?_
  rw [List.take_of_length_le (by omega)] at hI
  exact Fe (T := T) rfl (congrArg xb (by rw [hasF, List.find?_eq_none.2 (fun x hx => by rw [hI x hx]; simp)]))}
theorem cF {nm : ByteArray} {b : List Sm} (h1 : nm.size ≤ 4) (h2 : Sm.oks b) (h3 : Sm.sizes b ≤ 100) : (fnV nm b).ok 100 :=
  ⟨by show nm.size ≤ _; omega, by show 0 ≤ 100; decide, fun x h => (by cases h), ⟨⟨by omega, by omega⟩, by decide, ⟨by omega, by omega⟩, trivial⟩, by show (Ty4.mk 7 eS 0 []).size ≤ 100; decide, h2, h3, (show I64 0 from ⟨by omega, by omega⟩), (show (0 : Int) ≤ 0 ∧ (0 : Int) ≤ 65535 by omega)⟩
theorem eL : outS.ok := ⟨⟨by omega, by omega⟩, by decide, aD, ⟨by omega, by omega⟩, ⟨⟨⟨by omega, by omega⟩, by decide, ⟨by omega, by omega⟩, trivial⟩, trivial⟩, trivial, trivial, trivial⟩
theorem ew {nm : ByteArray} (h : nm.size ≤ 4) : (kO nm).ok := ⟨⟨by omega, by omega⟩, by decide, aD, ⟨by omega, by omega⟩, ⟨⟨⟨by omega, by omega⟩, by show nm.size ≤ _; omega, ⟨by omega, by omega⟩, trivial⟩, trivial⟩, trivial, trivial, trivial⟩
theorem lO {k : Int} (h : U63 k) : (simpS k).ok := ⟨h, by decide, aD, ⟨by omega, by omega⟩, trivial, trivial, trivial, trivial⟩
theorem nf {fs : List Fu} (h1 : fs.length ≤ 100) (h : ∀ f ∈ fs, f.ok 100) : Pg.ok 100 ⟨[], [], fs⟩ ∧ Fw ⟨[], [], fs⟩ := ⟨⟨Nat.zero_le _, Nat.zero_le _, h1, fun x h => (by cases h), fun x h => (by cases h), h⟩, ⟨by show fs.length ≤ _; omega, Nat.zero_le _⟩⟩
theorem eM {α : Type} {p : α → Prop} : ∀ {l : List α}, (l.foldr (fun x r => p x ∧ r) True) → ∀ x ∈ l, p x
  | [], _, x, h => by cases h
  | y :: r, h, x, hx => by
    rcases List.mem_cons.1 hx with rfl | hx
    {
    exact h.1}; {
    exact eM h.2 x hx}
theorem ok_X1 : exX1.ok 100 ∧ Fw exX1 := nf (by decide) (eM ⟨cF (by decide) ⟨ew (by decide), ew (by decide), trivial⟩ (by decide), cF (by decide) ⟨eL, trivial⟩ (by decide), cF (by decide) ⟨eL, trivial⟩ (by decide), trivial⟩)
theorem ok_X2 : exX2.ok 100 ∧ Fw exX2 := nf (by decide) (eM ⟨cF (by decide) ⟨ew (by decide), ew (by decide), trivial⟩ (by decide), cF (by decide) ⟨eL, trivial⟩ (by decide), cF (by decide) ⟨eL, trivial⟩ (by decide), trivial⟩)
theorem ok_Y1 : exY1.ok 100 ∧ Fw exY1 := nf (by decide) (eM ⟨cF (by decide) trivial (by decide), cF (by decide) ⟨eL, trivial⟩ (by decide), trivial⟩)
theorem ok_Y2 : exY2.ok 100 ∧ Fw exY2 := nf (by decide) (eM ⟨cF (by decide) ⟨lO ⟨by omega, by omega⟩, trivial⟩ (by decide), cF (by decide) ⟨eL, trivial⟩ (by decide), trivial⟩)
theorem ok_Z1 : exZ1.ok 100 ∧ Fw exZ1 := nf (by decide) (eM ⟨cF (by decide) ⟨ew (by decide), trivial⟩ (by decide), cF (by decide) ⟨eL, trivial⟩ (by decide), trivial⟩)
theorem ok_Z2 : exZ2.ok 100 ∧ Fw exZ2 := nf (by decide) (eM ⟨cF (by decide) ⟨lO ⟨by omega, by omega⟩, ew (by decide), trivial⟩ (by decide), cF (by decide) ⟨lO ⟨by omega, by omega⟩, trivial⟩ (by decide), trivial⟩)
theorem jy {s : ByteArray} (h : s.data.toList.all (fun b => !decide (b = 47)) = true) : noS s := fun b hb e => by
  have := List.all_eq_true.1 h b hb
  rw [decide_eq_true e] at this; cases this
theorem qr : XQ Tryz.prog pk0 12 [] (xb true) := by
  have pX1 := cP (pk := pk0) (s := scX1) (by decide) (jy nos_X1) src_X1
  have pX2 := cP (pk := pk0) (s := scX2) (by decide) (jy nos_X2) src_X2
  have pY1 := cP (pk := pk0) (s := scY1) (by decide) (jy nos_Y1) src_Y1
  have pY2 := cP (pk := pk0) (s := scY2) (by decide) (jy nos_Y2) src_Y2
  have pZ1 := cP (pk := pk0) (s := scZ1) (by decide) (jy nos_Z1) src_Z1
  have pZ2 := cP (pk := pk0) (s := scZ2) (by decide) (jy nos_Z2) src_Z2
  have mX := eK ok_X1.1 ok_X2.1 (by decide) ok_X1.2 ok_X2.2
  have mY := eK ok_Y1.1 ok_Y2.1 (by decide) ok_Y1.2 ok_Y2.2
  have mZ := eK ok_Z1.1 ok_Z2.1 (by decide) ok_Z1.2 ok_Z2.2
  have eX : mtL exX1 exX2 = [(0, 0, av exX1 exX2 0 0, 1), (1, 2, av exX1 exX2 1 2, 2), (2, 1, av exX1 exX2 2 1, 2)] := by rw [mtL, ex_x]; rfl
  have eY : mtL exY1 exY2 = [(0, 0, av exY1 exY2 0 0, 4), (1, 1, av exY1 exY2 1 1, 1)] := by rw [mtL, ex_y]; rfl
  have eZ : mtL exZ1 exZ2 = [(0, 0, av exZ1 exZ2 0 0, 4), (1, 1, av exZ1 exZ2 1 1, 2)] := by rw [mtL, ex_z]; rfl
  have h1 := iS (pk := pk0) (l := mtL exX1 exX2) (by rw [eX]; decide) 1 2 2
  have h2 := iS (pk := pk0) (l := mtL exX1 exX2) (by rw [eX]; decide) 2 1 2
  have h3 := iS (pk := pk0) (l := mtL exY1 exY2) (by rw [eY]; decide) 0 0 4
  have h4 := iS (pk := pk0) (l := mtL exY1 exY2) (by rw [eY]; decide) 1 1 1
  have h5 := iS (pk := pk0) (l := mtL exZ1 exZ2) (by rw [eZ]; decide) 1 1 2
  rw [show hasF (mtL exX1 exX2) 1 2 2 = true from by rw [eX]; rfl] at h1
  rw [show hasF (mtL exX1 exX2) 2 1 2 = true from by rw [eX]; rfl] at h2
  rw [show hasF (mtL exY1 exY2) 0 0 4 = true from by rw [eY]; rfl] at h3
  rw [show hasF (mtL exY1 exY2) 1 1 1 = true from by rw [eY]; rfl] at h4
  rw [show hasF (mtL exZ1 exZ2) 1 1 2 = true from by rw [eZ]; rfl] at h5
  clear eX eY eZ
  generalize hx1 : pgD exX1 = X1 at mX
  generalize hx2 : pgD exX2 = X2 at mX
  generalize hy1 : pgD exY1 = Y1 at mY
  generalize hy2 : pgD exY2 = Y2 at mY
  generalize hz1 : pgD exZ1 = Z1 at mZ
  generalize hz2 : pgD exZ2 = Z2 at mZ
  rw [show (⟨[], [], exX1.fs⟩ : Pg) = exX1 from rfl, hx1] at pX1
  rw [show (⟨[], [], exX2.fs⟩ : Pg) = exX2 from rfl, hx2] at pX2
  rw [show (⟨[], [], exY1.fs⟩ : Pg) = exY1 from rfl, hy1] at pY1
  rw [show (⟨[], [], exY2.fs⟩ : Pg) = exY2 from rfl, hy2] at pY2
  rw [show (⟨[], [], exZ1.fs⟩ : Pg) = exZ1 from rfl, hz1] at pZ1
  rw [show (⟨[], [], exZ2.fs⟩ : Pg) = exZ2 from rfl, hz2] at pZ2
  clear hx1 hx2 hy1 hy2 hz1 hz2
  generalize mtL exX1 exX2 = lX at mX h1 h2
  generalize mtG exX1 exX2 = gX at mX
  generalize mtL exY1 exY2 = lY at mY h3 h4
  generalize mtG exY1 exY2 = gY at mY
  generalize mtL exZ1 exZ2 = lZ at mZ h5
  generalize mtG exZ1 exZ2 = gZ at mZ
  refine XQ.en Tryz.func12 Tryz.ntmps12 (fun w0 own H V v0 hf => ?_)
  refine G9 rfl (Cq pX1 rfl rfl rfl rfl rfl ⟨rfl, rfl⟩ ?_)
  refine G9 rfl (Cq pX2 rfl rfl rfl rfl rfl ⟨rfl, rfl⟩ ?_)
  refine G9 rfl (Cq mX rfl rfl rfl rfl rfl ⟨rfl, rfl⟩ ?_)
  refine G9 rfl (Cq pY1 rfl rfl rfl rfl rfl ⟨rfl, rfl⟩ ?_)
  refine G9 rfl (Cq pY2 rfl rfl rfl rfl rfl ⟨rfl, rfl⟩ ?_)
  refine G9 rfl (Cq mY rfl rfl rfl rfl rfl ⟨rfl, rfl⟩ ?_)
  refine G9 rfl (Cq pZ1 rfl rfl rfl rfl rfl ⟨rfl, rfl⟩ ?_)
  refine G9 rfl (Cq pZ2 rfl rfl rfl rfl rfl ⟨rfl, rfl⟩ ?_)
  refine G9 rfl (Cq mZ rfl rfl rfl rfl rfl ⟨rfl, rfl⟩ ?_)
  refine G9 rfl (Cq h1 rfl rfl rfl rfl rfl ⟨rfl, rfl⟩ ?_)
  refine G9 rfl (Cq h2 rfl rfl rfl rfl rfl ⟨rfl, rfl⟩ ?_)
  refine G9 rfl (Cq h3 rfl rfl rfl rfl rfl ⟨rfl, rfl⟩ ?_)
  refine G9 rfl (Cq h4 rfl rfl rfl rfl rfl ⟨rfl, rfl⟩ ?_)
  refine G9 rfl (Cq h5 rfl rfl rfl rfl rfl ⟨rfl, rfl⟩ ?_)
  refine G9 rfl (Fe (T := T) rfl rfl)
end
open Go Go.RowKit Go.Proofs K
theorem MP.few {p : Pg} (h : MP p) : p.ok BG ∧ Fw p ∧ 1 ≤ p.fs.length ∧ 1 ≤ p.gs.length := by
  have hok := h.facts.2
  obtain ⟨tn, s1, s2, fs, hd, ht, h1, h2, rfl, hl1, hl2, hn, hF, hh⟩ := h
  have l0 : (dc tn).length ≤ 7 := by unfold dc; (repeat' split) <;> decide
  have e2 : (dc tn ++ [gbT s1, gbW s2]).length = (dc tn).length + 2 := by rw [List.length_append]; rfl
  have l3 : (fs ++ hd).length ≤ 5 ∧ 1 ≤ (fs ++ hd).length := by
    rw [List.length_append]
    rcases hh with rfl | ⟨b, rfl, _⟩ <;> simp only [List.length_cons, List.length_nil] <;> omega
  exact ⟨hok, ⟨by show (fs ++ hd).length ≤ _; omega, by show (dc tn ++ [gbT s1, gbW s2]).length ≤ _; omega⟩, l3.2, by show 1 ≤ (dc tn ++ [gbT s1, gbW s2]).length; omega⟩
theorem MP.small {p : Pg} (h : MP p) : p.fs.length ≤ 5 ∧ p.gs.length ≤ 9 := by
  obtain ⟨tn, s1, s2, fs, hd, ht, h1, h2, rfl, hl1, hl2, hn, hF, hh⟩ := h
  have l0 : (dc tn).length ≤ 7 := by unfold dc; (repeat' split) <;> decide
  have e2 : (dc tn ++ [gbT s1, gbW s2]).length = (dc tn).length + 2 := by rw [List.length_append]; rfl
  have l3 : (fs ++ hd).length ≤ 5 := by
    rw [List.length_append]
    rcases hh with rfl | ⟨b, rfl, _⟩ <;> simp only [List.length_cons, List.length_nil] <;> omega
  exact ⟨l3, by show (dc tn ++ [gbT s1, gbW s2]).length ≤ _; omega⟩
theorem MP.thin {p : Pg} (h : MP p) : ∀ f ∈ p.fs, f.ps.length ≤ 3 := by
  obtain ⟨tn, s1, s2, fs, hd, ht, h1, h2, rfl, hl1, hl2, hn, hF, hh⟩ := h
  intro x hx
  rcases List.mem_append.1 hx with hx | hx
  {
  exact (hF x hx).1.pl}; {
  rcases hh with rfl | ⟨b, rfl, hb⟩
  {
  cases hx}; {
  rw [List.mem_singleton.1 hx]; exact Nat.zero_le _}}
section
open Go Go.RowKit Go.Proofs K
variable {pk : Pk}
def badQ (a b : Int) (x : Pq) : Bool := decide ((x.1 : Int) = a) && decide ((x.2.1 : Int) ≠ b)
def lP (l : List Pq) (a b : Int) : Bool := !l.any (badQ a b) && l.any (fun x => decide ((x.1 : Int) = a))
theorem partB_t {l : List Pq} {a b : Nat} (h1 : ∀ q ∈ l, q.1 = a → q.2.1 = b) (h2 : ∃ q ∈ l, q.1 = a) : lP l (a : Nat) (b : Nat) = true := by
  unfold lP
  have e1 : l.any (badQ (a : Nat) (b : Nat)) = false := by
    rw [List.any_eq_false]
    intro x hx h
    unfold badQ at h
    rw [Bool.and_eq_true, decide_eq_true_eq, decide_eq_true_eq] at h
    exact h.2 (by rw [h1 x hx (by omega)])
  have e2 : l.any (fun x => decide ((x.1 : Int) = (a : Nat))) = true := by
    obtain ⟨q, hq, e⟩ := h2
    exact List.any_eq_true.2 ⟨q, hq, decide_eq_true (by rw [e])⟩
  rw [e1, e2]; rfl
theorem jJ {l : List Pq} (hl : l.length ≤ 1000000000) (a b : Int) : XQ Tryz.prog pk 17 [xr (l.map pqD), xi a, xi b] (xb (lP l a b)) := by
  refine XQ.en Tryz.func17 Tryz.ntmps17 (fun w0 own H V v0 hf => ?_)
  refine G9 rfl (Lq [0, 1, 2] (fun (q : Nat × Bool) r => (6, xb false) :: (7, xb q.2) :: (8, xi (q.1 : Nat)) :: r) (fun q => []) 0 (fun q => q.1 ≤ l.length ∧ (∀ x ∈ l.take q.1, badQ a b x = false) ∧ q.2 = (l.take q.1).any (fun x => decide ((x.1 : Int) = a))) (fun q => l.length - q.1) (0, false) rfl ⟨Nat.zero_le _, (fun x hx => by cases hx), rfl⟩ ?_)
  rintro ⟨j, fd⟩ ⟨hj, hI, hF⟩; dsimp only at hj hI hF ⊢
  refine G9 rfl (If rfl (fun h => ?_) (fun h => ?_))
  · have hjl := of_decide_eq_true h; rw [List.length_map] at hjl
    obtain ⟨y, hy⟩ := ai (l := l) (j := j) (by omega)
    refine G9 rfl (Ix (T := T) j (ab (f := pqD) hy) rfl rfl rfl rfl ⟨rfl, rfl⟩ rfl rfl ?_)
    refine Gs (T := T) 1000 rfl ?_
    refine Is (T := T) j (pqD y) (fun _ => ⟨ab (f := pqD) hy, rfl⟩) rfl rfl rfl rfl rfl rfl rfl rfl ?_
    refine Gs (T := T) 1000 rfl ?_
    refine If rfl (fun h => ?_) (fun h => ?_)
    · refine G9 rfl ?_
      exact Fe (T := T) rfl (congrArg xb (by
        have : l.any (badQ a b) = true := List.any_eq_true.2 ⟨y, List.mem_of_getElem? hy, h⟩
        rw [lP, this]; rfl))
    · have hst : (l.take (j + 1)).any (fun x => decide ((x.1 : Int) = a)) = (fd || decide ((y.1 : Int) = a)) := by
        rw [List.take_add_one, hy, List.any_append, ← hF]; show (_ || (_ || false)) = _; rw [Bool.or_false]
      cases fd with
      | true =>
        refine G9 rfl ?_
        exact Nq (j + 1, true) ⟨by show j + 1 ≤ _; omega, dp hI hy h, by rw [hst]; rfl⟩ (by show _ - (j + 1) < _ - j; omega)
      | false =>
        refine G9 rfl (Ix (T := T) j (ab (f := pqD) hy) rfl rfl rfl rfl ⟨rfl, rfl⟩ rfl rfl ?_)
        refine G9 rfl ?_
        exact Nq (j + 1, decide ((y.1 : Int) = a)) ⟨by show j + 1 ≤ _; omega, dp hI hy h, by rw [hst]; rfl⟩ (by show _ - (j + 1) < _ - j; omega)
  · have hjl := of_decide_eq_false h; rw [List.length_map] at hjl
    refine G9 rfl ?_
    rw [List.take_of_length_le (by omega)] at hI hF
    exact Fe (T := T) rfl (congrArg xb (by
      have : l.any (badQ a b) = false := List.any_eq_false.2 fun x hx => by rw [hI x hx]; simp
      rw [lP, this, hF]; rfl))
end
section
variable {a c : Pg} {R : Rf → Prop} {good : Nat → Prop} {σ : Rf → Rf} {m : Ms}
theorem pM {m' : Ms} (h : bT a c m = some m') : (∀ p ∈ m.fs, p ∈ m'.fs) ∧ ∀ p ∈ m.gs, p ∈ m'.gs := by
  obtain ⟨l, w, _, _, rfl⟩ := lj h
  obtain ⟨e1, e2⟩ := dR w (ah l) m
  exact ⟨fun p hp => by rw [e1]; exact List.mem_append_left _ hp, fun p hp => by rw [e2]; exact List.mem_append_left _ hp⟩
theorem pN : ∀ (k : Nat) {m : Ms}, (∀ p ∈ m.fs, p ∈ (bA a c k m).fs) ∧ ∀ p ∈ m.gs, p ∈ (bA a c k m).gs
  | 0, _ => ⟨fun _ h => h, fun _ h => h⟩
  | k + 1, m => by
    rw [bA]
    split; {
    rename_i m' h
    obtain ⟨h1, h2⟩ := pM h
    obtain ⟨h3, h4⟩ := pN k (m := m')
    exact ⟨fun p hp => h3 p (h1 p hp), fun p hp => h4 p (h2 p hp)⟩}; {
    exact ⟨fun _ h => h, fun _ h => h⟩}
theorem phases (hc : Corr a c R good σ) : ∀ (k : Nat) {m : Ms}, On R σ m → m.dis → m.rng a c → a.fs.length + a.gs.length < k + (m.fs.length + m.gs.length) →
    ∃ m', On R σ m' ∧ ax a c m' = [] ∧ (∀ p ∈ m.fs, p ∈ m'.fs) ∧ (∀ p ∈ m'.fs, p ∈ (bA a c k m).fs) ∧ ∀ p ∈ m'.gs, p ∈ (bA a c k m).gs
  | 0, m, _, hd, hr, hk => by have := hr.le hd; omega
  | k + 1, m, ho, hd, hr, hk => by
    by_cases hp : ax a c m = []; {
    obtain ⟨h1, h2⟩ := pN (a := a) (c := c) (k + 1) (m := m)
    exact ⟨m, ho, hp, fun _ h => h, h1, h2⟩}; {
    obtain ⟨m1, h1, h2, _⟩ := p7 hc ho hp
    obtain ⟨h3, h4⟩ := lq hr h1
    obtain ⟨m', e1, e2, e3, e4, e5⟩ := phases hc k h2 (iI hd h1) h3 (by omega)
    rw [bA, h1]
    exact ⟨m', e1, e2, fun p hp => e3 p ((pM h1).1 p hp), e4, e5⟩}
inductive Rch (p : Pg) (good : Nat → Prop) (n : Nat) : Rf → Prop
  | main : Rch p good n (true, n)
  | ref {i : Nat} {r : Rf} : Rch p good n (true, i) → good i → r ∈ aE p i → Rch p good n r
theorem reach_in {m : Ms} {n : Nat} (hc : Corr a c R good σ) (ho : On R σ m) (hp : ax a c m = []) (hn : ∃ p ∈ m.fs, p.a = n) {r : Rf} (h : Rch a good n r) : ∃ p ∈ (if r.1 then m.fs else m.gs), p.a = r.2 ∧ p.b = (σ r).2 := by
  have key : ∀ r : Rf, bS m r = false → ∃ p ∈ (if r.1 then m.fs else m.gs), p.a = r.2 ∧ p.b = (σ r).2 := by
    rintro ⟨fl, k⟩ hf
    cases fl with
    | true =>
      have h1 : ¬ (k ∉ m.fs.map (·.a)) := fun h => by rw [freeA_t.2 h] at hf; cases hf
      obtain ⟨p, hp, rfl⟩ := List.mem_map.1 (Classical.not_not.1 h1)
      exact ⟨p, hp, rfl, (ho.1 p hp).2⟩
    | false =>
      have h1 : ¬ (k ∉ m.gs.map (·.a)) := fun h => by rw [freeA_f.2 h] at hf; cases hf
      obtain ⟨p, hp, rfl⟩ := List.mem_map.1 (Classical.not_not.1 h1)
      exact ⟨p, hp, rfl, (ho.2 p hp).2⟩
  induction h with
  | main =>
    obtain ⟨p, hp, rfl⟩ := hn
    exact ⟨p, hp, rfl, (ho.1 p hp).2⟩
  | @ref i r _ hg hr ih =>
    obtain ⟨p, hp1, hp2, _⟩ := ih
    have hp1 : p ∈ m.fs := hp1
    subst hp2
    exact key r (qa hc ho hp hp1 hg r hr)
end
section
variable {a c : Pg}
theorem lQ : (aU a c).1.Perm (bA a c (a.fs.length + a.gs.length + 1) (cH a c)).fs ∧ (aU a c).2.Perm (bA a c (a.fs.length + a.gs.length + 1) (cH a c)).gs := ⟨et _, et _⟩
theorem pO : ∀ (k : Nat) {m : Ms}, m.rng a c → (bA a c k m).rng a c
  | 0, _, h => h
  | k + 1, m, h => by
    rw [bA]
    split; {
    rename_i m' hm; exact pO k (lq h hm).1}; {
    exact h}
theorem match_dis : (⟨(aU a c).1, (aU a c).2⟩ : Ms).dis ∧ (⟨(aU a c).1, (aU a c).2⟩ : Ms).rng a c := by
  have hd := iJ (a := a) (c := c) (a.fs.length + a.gs.length + 1) (lM (a := a) (c := c)).d
  have hr := pO (a := a) (c := c) (a.fs.length + a.gs.length + 1) (lM (a := a) (c := c)).r
  obtain ⟨h1, h2⟩ := lQ (a := a) (c := c)
  have e : (bA a c (a.fs.length + a.gs.length + 1) (cH a c)).eqv ⟨(aU a c).1, (aU a c).2⟩ := ⟨h1.symm, h2.symm⟩
  exact ⟨e.dis hd, fun p hp => hr.f p (h1.mem_iff.1 hp), fun p hp => hr.g p (h2.mem_iff.1 hp)⟩
theorem jK {R : Rf → Prop} {good : Nat → Prop} {σ : Rf → Rf} (hc : Corr a c R good σ) (hi : On R σ (cH a c)) {n : Nat} (hn : ∃ p ∈ (cH a c).fs, p.a = n) {r : Rf} (h : Rch a good n r) : ∃ p ∈ (if r.1 then (aU a c).1 else (aU a c).2), p.a = r.2 ∧ p.b = (σ r).2 := by
  have hr := (lM (a := a) (c := c)).r
  obtain ⟨m', e1, e2, e3, e4, e5⟩ := phases hc (a.fs.length + a.gs.length + 1) hi (lM (a := a) (c := c)).d hr (by omega)
  obtain ⟨q, hq, rfl⟩ := hn
  obtain ⟨p, hp, h1, h2⟩ := reach_in hc e1 e2 ⟨q, e3 q hq, rfl⟩ h
  obtain ⟨h3, h4⟩ := lQ (a := a) (c := c)
  refine ⟨p, ?_, h1, h2⟩
  cases hf : r.1 with
  | true => rw [hf] at hp; exact h3.mem_iff.2 (e4 p hp)
  | false => rw [hf] at hp; exact h4.mem_iff.2 (e5 p hp)
end
mutual
theorem c8 : ∀ t : Ty4, bx t t = true
  | .mk k nm n ts => by rw [bx, iT ts]; simp
theorem iT : ∀ l : List Ty4, cU l l = true
  | [] => by rw [cU]
  | t :: r => by rw [cU, c8 t, iT r]; rfl
end
theorem jL : ∀ l : List Par, jg l l = true
  | [] => rfl
  | t :: r => by rw [jg, c8, jL r]; simp
section
variable (c : Pg) (la : List ByteArray)
mutual
theorem qt : ∀ e : Ex, gk c c la la e e = true
  | .mk k nm n ks => by simp [gk, fN ks]
theorem fN : ∀ l : List Ex, co c c la la l l = true
  | [] => by rw [co]
  | t :: r => by rw [co, qt t, fN r]; rfl
end
mutual
theorem qu : ∀ s : Sm, gq c c la la s s = true
  | .mk k nm t n es b el cs => by simp [gq, c8, fN, c9 b, c9 el, jM cs]
theorem c9 : ∀ l : List Sm, be c c la la l l = true
  | [] => by rw [be]
  | t :: r => by rw [be, qu t, c9 r]; rfl
theorem jM : ∀ l : List (List Sm), cy c c la la l l = true
  | [] => by rw [cy]
  | t :: r => by rw [cy, c9 t, jM r]; rfl
end
theorem qv (f : Fu) : dQ c c f f = true := by simp [dQ, jL, c8, c9]
end
section
variable {a c x : Pg} {ρ : ByteArray → ByteArray} {σ : Rf → Rf} {la lc : List ByteArray}
end
def manN : ByteArray := ⟨#[109, 97, 105, 110]⟩
def intrN : ByteArray := ⟨#[105, 110, 116, 101, 114, 114, 117, 112, 116]⟩
theorem lR : ∀ {l : List Pr}, (l.map (·.a)).Nodup → ∀ {p q : Pr}, p ∈ l → q ∈ l → p.a = q.a → p = q
  | x :: r, h, p, q, hp, hq, e => by
    rw [List.map_cons, List.nodup_cons] at h
    rcases List.mem_cons.1 hp with hp | hp <;> rcases List.mem_cons.1 hq with hq | hq
    {
    rw [hp, hq]}; {
    exact absurd (List.mem_map.2 ⟨q, hq, by rw [← e, hp]⟩) h.1}; {
    exact absurd (List.mem_map.2 ⟨p, hp, by rw [e, hq]⟩) h.1}; {
    exact lR h.2 hp hq e}
section
variable {a c : Pg} {R : Rf → Prop} {good : Nat → Prop} {σ : Rf → Rf}
theorem On.add {m : Ms} (h : On R σ m) {w : Int} {x y : Nat} (hx : R (true, x) ∧ y = (σ (true, x)).2) : On R σ (m.add w ((true, x), (true, y))) := by
  refine ⟨fun p hp => ?_, h.2⟩
  have hp' : p ∈ m.fs ++ [⟨x, y, w⟩] := hp
  rcases List.mem_append.1 hp' with hp' | hp'
  {
  exact h.1 p hp'}; {
  rw [List.mem_singleton.1 hp']; exact hx}
theorem ini_On (h : ∀ s x y, s = manN ∨ s = intrN → al (a.fs.map (·.nm)) s = some x → al (c.fs.map (·.nm)) s = some y → R (true, x) ∧ y = (σ (true, x)).2) : On R σ (cH a c) := by
  have st : ∀ (m : Ms) (s : ByteArray), s = manN ∨ s = intrN → On R σ m → On R σ (match al (a.fs.map (·.nm)) s, al (c.fs.map (·.nm)) s with
    | some x, some y => m.add (if aR a c x y then 1 else 4) ((true, x), (true, y))
    | _, _ => m) := by
    intro m s hs hm
    cases ha : al (a.fs.map (·.nm)) s with
    | none => exact hm
    | some x =>
      cases hc : al (c.fs.map (·.nm)) s with
      | none => exact hm
      | some y => exact hm.add (h s x y hs ha hc)
  exact st _ _ (.inr rfl) (st _ _ (.inl rfl) ⟨fun p hp => (by cases hp), fun p hp => (by cases hp)⟩)
def stI (a c : Pg) (m : Ms) (s : ByteArray) : Ms := match al (a.fs.map (·.nm)) s, al (c.fs.map (·.nm)) s with
  | some x, some y => m.add (if aR a c x y then 1 else 4) ((true, x), (true, y))
  | _, _ => m
theorem ini_main {n k : Nat} (h1 : al (a.fs.map (·.nm)) manN = some n) (h2 : al (c.fs.map (·.nm)) manN = some k) : ∃ p ∈ (cH a c).fs, p.a = n := by
  have st : ∀ (m : Ms) (s : ByteArray), (∃ p ∈ m.fs, p.a = n) → ∃ p ∈ (stI a c m s).fs, p.a = n := by
    intro m s hm
    unfold stI
    cases ha : al (a.fs.map (·.nm)) s with
    | none => exact hm
    | some x =>
      cases hc : al (c.fs.map (·.nm)) s with
      | none => exact hm
      | some y =>
        obtain ⟨p, hp, e⟩ := hm
        exact ⟨p, List.mem_append.2 (.inl hp), e⟩
  refine st (stI a c ⟨[], []⟩ manN) intrN ?_
  unfold stI
  rw [h1, h2]
  exact ⟨_, List.mem_singleton.2 rfl, rfl⟩
theorem mt_few (fa : Fw a) : (mtL a c).length ≤ 1000000000 ∧ (mtG a c).length ≤ 1000000000 := by
  have h := match_dis.2.le (a := a) (c := c) match_dis.1
  have h1 := fa.f
  have h2 := fa.g
  rw [mtL, mtG, List.length_map, List.length_map]
  exact ⟨Nat.le_trans h.1 (by omega), Nat.le_trans h.2 (by omega)⟩
theorem lS (hc : Corr a c R good σ) (hi : On R σ (cH a c)) {n k : Nat} (h1 : al (a.fs.map (·.nm)) manN = some n) (h2 : al (c.fs.map (·.nm)) manN = some k) : (∀ i, Rch a good n (true, i) → lP (mtL a c) (i : Nat) ((σ (true, i)).2 : Nat) = true) ∧ (∀ i, Rch a good n (false, i) → lP (mtG a c) (i : Nat) ((σ (false, i)).2 : Nat) = true) := by
  have hm := ini_main h1 h2
  have hd := (match_dis (a := a) (c := c)).1
  refine ⟨fun i hr => ?_, fun i hr => ?_⟩; {
  obtain ⟨p, hp, e1, e2⟩ := jK hc hi hm hr
  refine partB_t (fun q hq e => ?_) ⟨(p.a, p.b, av a c p.a p.b, p.why), List.mem_map.2 ⟨p, hp, rfl⟩, e1⟩
  obtain ⟨p', hp', rfl⟩ := List.mem_map.1 hq
  rw [lR hd.fa hp' hp (by rw [e1]; exact e)]; exact e2}; {
  obtain ⟨p, hp, e1, e2⟩ := jK hc hi hm hr
  refine partB_t (fun q hq e => ?_) ⟨(p.a, p.b, 1000, 5), List.mem_map.2 ⟨p, hp, rfl⟩, e1⟩
  obtain ⟨p', hp', rfl⟩ := List.mem_map.1 hq
  rw [lR hd.ga hp' hp (by rw [e1]; exact e)]; exact e2}
end
theorem ng (a : Pg) : Corr a a (fun _ => True) (fun _ => True) id where
  flag := fun _ _ => rfl
  inj := fun _ _ _ _ h => h
  cl := fun _ _ _ _ _ => trivial
  form := fun i _ _ => ⟨by show dQ a a (jh a i) (jh a i) = true; exact qv _ _, (List.map_id _).symm⟩
  bad := fun _ _ h => absurd trivial h
  alike := fun n _ => by
    show (bx (gbAt a n).ty (gbAt a n).ty && decide ((gbAt a n).bank = -1 ↔ (gbAt a n).bank = -1)) = true
    rw [c8, decide_eq_true Iff.rfl]; rfl
theorem on_self (a : Pg) : On (fun _ => True) id (cH a a) := ini_On fun s x y _ h1 h2 => ⟨trivial, by rw [h1] at h2; cases h2; rfl⟩
section
open Go Go.RowKit Go.Proofs K
variable {pk : Pk}
theorem oe (l : List Par) : ∀ r ∈ l.map paD, r.length = 5 := fun r hr => by
  obtain ⟨x, _, rfl⟩ := List.mem_map.1 hr; rfl
theorem gb_eight (l : List Gb) : ∀ r ∈ l.map gbD, r.length = 8 := fun r hr => by
  obtain ⟨x, _, rfl⟩ := List.mem_map.1 hr; rfl
abbrev fuK (a b : Nat) (f : Fu) : List XC := [.d (.c (.string f.nm)), .l a 1 5 0 f.ps.length f.ps.length, .d (.c (.int .i64 (tk f.res))), .d (.c (.string (tnm f.res))), .d (.c (.int .i64 (tn f.res))), .d (.s (tyS f.res)), .l b 1 11 0 f.body.length f.body.length, .d (.c (.bool f.fl)), .d (.c (.int .i64 f.x)), .d (.c (.int .u16 f.y))]
theorem jz (l : List Sm) : ∀ r ∈ l.map smD, r.length = 11 := fun r hr => by
  obtain ⟨x, _, rfl⟩ := List.mem_map.1 hr
  obtain ⟨k, nm, t, n, es, b, el, cs⟩ := x
  rw [aP]; rfl
abbrev ownR (a b c : Nat) : XV := .a (.a [.l 0 1 3 0 a a, .l 1 1 8 0 b b, .l 2 1 10 0 c c])
abbrev ownB (p : Pg) (f : Fu) (pre post : List (List D)) : XH := [⟨0, 1, .row p.ts.length (p.ts.map tdD) 87 3⟩, ⟨1, 1, .row p.gs.length (p.gs.map gbD) 63 8⟩, ⟨2, 1, .rowk p.fs.length pre (fuK 3 4 f) post 61 10⟩, ⟨3, 1, .row f.ps.length (f.ps.map paD) 85 5⟩, ⟨4, 1, .row f.body.length (f.body.map smD) 71 11⟩]
theorem ref_Own {p : Pg} {B : Nat} (hok : p.ok B) (hB : B ≤ 900000000) {j : Nat} {f : Fu} (hf9 : p.fs[j]? = some f) : XM Tryz.prog pk 26 [xd (pgD p)] [] 0 5 (fun r hp' => ∃ _ : Unit, True ∧ r = ownR p.ts.length p.gs.length p.fs.length ∧ hp' = ownB p f ((p.fs.take j).map fuD) ((p.fs.drop (j + 1)).map fuD)) := by
  have htl := hok.tl
  have hgl := hok.gl
  have hfl := hok.fl
  have l1 : (p.ts.map tdD).length = p.ts.length := List.length_map ..
  have l2 : (p.gs.map gbD).length = p.gs.length := List.length_map ..
  have l3 : (p.fs.map fuD).length = p.fs.length := List.length_map ..
  refine XM.en Tryz.func26 Tryz.ntmps26 (fun w0 own H V v0 hf => ?_)
  refine G (T := T) 100001 rfl ?_
  refine (FzTo.bz 0 rfl).c ?_
  refine G (T := T) 8 rfl ?_
  refine Br (T := T) (lx := []) (rows := []) rfl rfl rfl rfl rfl ⟨rfl, rfl⟩ ?_
  refine G (T := T) 11 rfl ?_
  refine Ap (T := T) l2.symm (gb_eight _) rfl rfl rfl rfl rfl rfl ⟨rfl, rfl⟩ (by omega) (by omega) ?_
  rw [show 0 + p.gs.length = p.gs.length from Nat.zero_add _]
  refine G (T := T) 100002 rfl ?_
  refine (Nrh 3 0 87 3 rfl rfl rfl rfl rfl).c ?_
  refine (Nrh 3 2 61 10 rfl rfl rfl rfl rfl).c ?_
  refine G9 rfl (Lq [1, 2, 3] (fun (q : Nat × List (List D)) r => (4, xi (q.1 : Nat)) :: r) (fun q => [⟨4, 1, .row q.1 q.2 87 3⟩, ⟨5, 0, .row 0 [] 61 10⟩, ⟨3, 0, .cells [.l 4 1 3 0 q.1 q.1, .l 2 1 8 0 p.gs.length p.gs.length, .l 5 0 10 0 0 0] 29⟩, ⟨2, 1, .row p.gs.length (p.gs.map gbD) 63 8⟩, ⟨1, 0, .cells [.z, .z, .z] 29⟩]) 6 (fun q => q.1 ≤ p.ts.length ∧ q.2 = (p.ts.take q.1).map tdD) (fun q => p.ts.length - q.1) (0, []) rfl ⟨Nat.zero_le _, rfl⟩ ?_)
  rintro ⟨i, R⟩ ⟨hi, hR⟩; dsimp only at hi hR ⊢
  refine G9 rfl (If rfl (fun h => ?_) (fun h => ?_))
  · have hil := of_decide_eq_true h; rw [l1] at hil
    obtain ⟨y, hy⟩ := ai (l := p.ts) (j := i) (by omega)
    obtain ⟨y1, y2, y3⟩ := hok.t y (List.mem_of_getElem? hy)
    have l4 : (y.fs.map paD).length = y.fs.length := List.length_map ..
    refine G9 rfl (Ix (T := T) i (ab (f := tdD) hy) rfl rfl rfl rfl ⟨rfl, rfl⟩ rfl rfl ?_)
    refine G (T := T) 25 rfl ?_
    refine Br (T := T) (lx := []) (rows := []) rfl rfl rfl rfl rfl ⟨rfl, rfl⟩ ?_
    refine G (T := T) 28 rfl ?_
    refine Ap (T := T) l4.symm (oe _) rfl rfl rfl rfl rfl rfl ⟨rfl, rfl⟩ (by omega) (by omega) ?_
    refine G (T := T) 30 rfl ?_
    refine Zr 7 rfl ?_
    refine G9 rfl ?_
    exact Nq (i + 1, R ++ [tdD y]) ⟨by dsimp only; omega, by dsimp only; rw [hR, List.take_succ, hy, List.map_append]; rfl⟩ (by show _ - (i + 1) < _ - i; omega)
  have hie : i = p.ts.length := by have := of_decide_eq_false h; rw [l1] at this; omega
  rw [List.take_of_length_le (by omega)] at hR
  subst hR
  refine G9 rfl ?_
  refine Lq [1, 2, 3] (fun (q : Nat × List (List D) × Option (List (List D))) r => (6, xi (q.1 : Nat)) :: r) (fun q => (match q.2.2 with
    | none => [⟨5, 1, .row q.1 q.2.1 61 10⟩]
    | some post => [⟨5, 1, .rowk q.1 q.2.1 (fuK 6 7 f) post 61 10⟩, ⟨6, 1, .row f.ps.length (f.ps.map paD) 85 5⟩, ⟨7, 1, .row f.body.length (f.body.map smD) 71 11⟩]) ++ [⟨4, 1, .row p.ts.length (p.ts.map tdD) 87 3⟩, ⟨3, 0, .cells [.l 4 1 3 0 p.ts.length p.ts.length, .l 2 1 8 0 p.gs.length p.gs.length, .l 5 1 10 0 q.1 q.1] 29⟩, ⟨2, 1, .row p.gs.length (p.gs.map gbD) 63 8⟩, ⟨1, 0, .cells [.z, .z, .z] 29⟩]) 8 (fun q => q.1 ≤ p.fs.length ∧ ((q.1 ≤ j ∧ q.2.1 = (p.fs.take q.1).map fuD ∧ q.2.2 = none) ∨ (j < q.1 ∧ q.2.1 = (p.fs.take j).map fuD ∧ q.2.2 = some (((p.fs.take q.1).drop (j + 1)).map fuD)))) (fun q => p.fs.length - q.1) (0, [], none) rfl ⟨Nat.zero_le _, .inl ⟨Nat.zero_le _, rfl, rfl⟩⟩ ?_ (by subst hie; exact ⟨⟨_, _, rfl, rfl⟩, rfl, rfl⟩)
  rintro ⟨i2, R, ph⟩ ⟨hi2, hph⟩; dsimp only at hi2 hph ⊢
  rcases hph with ⟨hle, rfl, rfl⟩ | ⟨hlt, rfl, rfl⟩
  · dsimp only
    refine G9 rfl (If rfl (fun h => ?_) (fun h => ?_))
    · have hil := of_decide_eq_true h; rw [l3] at hil
      obtain ⟨y, hy⟩ := ai (l := p.fs) (j := i2) (by omega)
      obtain ⟨y1, y2, y3, y4, y5, y6, y7, y8, y9⟩ := hok.f y (List.mem_of_getElem? hy)
      have l4 : (y.ps.map paD).length = y.ps.length := List.length_map ..
      have l5 : (y.body.map smD).length = y.body.length := List.length_map ..
      have l6 := Sm.len_le y.body
      refine G9 rfl (Ix (T := T) i2 (ab (f := fuD) hy) rfl rfl rfl rfl ⟨rfl, rfl⟩ rfl rfl ?_)
      refine G (T := T) 48 rfl ?_
      refine Br (T := T) (lx := []) (rows := []) rfl rfl rfl rfl rfl ⟨rfl, rfl⟩ ?_
      refine G (T := T) 51 rfl ?_
      refine Ap (T := T) l4.symm (oe _) rfl rfl rfl rfl rfl rfl ⟨rfl, rfl⟩ (by omega) (by omega) ?_
      rw [show 0 + y.ps.length = y.ps.length from Nat.zero_add _]
      refine G (T := T) 53 rfl ?_
      refine Br (T := T) (lx := []) (rows := []) rfl rfl rfl rfl rfl ⟨rfl, rfl⟩ ?_
      refine G (T := T) 56 rfl ?_
      refine Ap (T := T) l5.symm (jz _) rfl rfl rfl rfl rfl rfl ⟨rfl, rfl⟩ (by omega) (by omega) ?_
      rw [show 0 + y.body.length = y.body.length from Nat.zero_add _]
      by_cases hij : i2 = j
      · subst hij
        rw [hf9] at hy; cases hy
        refine G (T := T) 61 rfl ?_
        refine Bkk (T := T) rfl rfl rfl rfl ⟨rfl, rfl⟩ ?_
        refine G (T := T) 62 rfl ?_
        refine Akk (T := T) rfl rfl rfl rfl rfl rfl ⟨rfl, rfl⟩ (by omega) (by omega) ?_
        refine G9 rfl ?_
        refine Nqn (fun g => bif Nat.beq g 6 then 9 else bif Nat.beq g 7 then 10 else g) (i2 + 1, (p.fs.take i2).map fuD, some (((p.fs.take (i2 + 1)).drop (i2 + 1)).map fuD)) ⟨by dsimp only; omega, .inr ⟨Nat.lt_succ_self _, rfl, rfl⟩⟩ (by show _ - (i2 + 1) < _ - i2; omega) ?_
        rw [show (p.fs.take (i2 + 1)).drop (i2 + 1) = [] from List.drop_of_length_le (by rw [List.length_take]; omega)]
        exact ⟨⟨_, _, rfl, rfl⟩, rfl, rfl⟩
      · refine G (T := T) 58 rfl ?_
        refine Zr 9 rfl ?_
        refine Zr 10 rfl ?_
        refine G9 rfl ?_
        exact Nq (i2 + 1, (p.fs.take i2).map fuD ++ [fuD y], none) ⟨by dsimp only; omega, .inl ⟨by dsimp only; omega, by dsimp only; rw [List.take_succ, hy, List.map_append]; rfl, rfl⟩⟩ (by show _ - (i2 + 1) < _ - i2; omega)
    · have := of_decide_eq_false h; rw [l3] at this
      have := (List.getElem?_eq_some_iff.1 hf9).1
      omega
  · dsimp only
    refine G9 rfl (If rfl (fun h => ?_) (fun h => ?_))
    · have hil := of_decide_eq_true h; rw [l3] at hil
      obtain ⟨y, hy⟩ := ai (l := p.fs) (j := i2) (by omega)
      obtain ⟨y1, y2, y3, y4, y5, y6, y7, y8, y9⟩ := hok.f y (List.mem_of_getElem? hy)
      have l4 : (y.ps.map paD).length = y.ps.length := List.length_map ..
      have l5 : (y.body.map smD).length = y.body.length := List.length_map ..
      have l6 := Sm.len_le y.body
      refine G9 rfl (Ix (T := T) i2 (ab (f := fuD) hy) rfl rfl rfl rfl ⟨rfl, rfl⟩ rfl rfl ?_)
      refine G (T := T) 48 rfl ?_
      refine Br (T := T) (lx := []) (rows := []) rfl rfl rfl rfl rfl ⟨rfl, rfl⟩ ?_
      refine G (T := T) 51 rfl ?_
      refine Ap (T := T) l4.symm (oe _) rfl rfl rfl rfl rfl rfl ⟨rfl, rfl⟩ (by omega) (by omega) ?_
      rw [show 0 + y.ps.length = y.ps.length from Nat.zero_add _]
      refine G (T := T) 53 rfl ?_
      refine Br (T := T) (lx := []) (rows := []) rfl rfl rfl rfl rfl ⟨rfl, rfl⟩ ?_
      refine G (T := T) 56 rfl ?_
      refine Ap (T := T) l5.symm (jz _) rfl rfl rfl rfl rfl rfl ⟨rfl, rfl⟩ (by omega) (by omega) ?_
      rw [show 0 + y.body.length = y.body.length from Nat.zero_add _]
      refine G (T := T) 58 rfl ?_
      refine Zr 9 rfl ?_
      refine Zr 10 rfl ?_
      refine G (T := T) 62 rfl ?_
      refine Adk (T := T) (m' := 1) rfl (fun r hr => by rw [List.mem_singleton.1 hr]; rfl) rfl rfl rfl rfl rfl rfl ⟨rfl, rfl⟩ (by omega) (by omega) ?_
      refine G9 rfl ?_
      have e9 : ((p.fs.take (i2 + 1)).drop (j + 1)).map fuD = ((p.fs.take i2).drop (j + 1)).map fuD ++ [fuD y] := by
        rw [List.take_succ, hy, List.drop_append_of_le_length (by rw [List.length_take]; omega), List.map_append]; rfl
      exact Nq (i2 + 1, (p.fs.take j).map fuD, some (((p.fs.take i2).drop (j + 1)).map fuD ++ [fuD y])) ⟨by dsimp only; omega, .inr ⟨by dsimp only; omega, rfl, by dsimp only; rw [e9]⟩⟩ (by show _ - (i2 + 1) < _ - i2; omega)
    · have hie2 : i2 = p.fs.length := by have := of_decide_eq_false h; rw [l3] at this; omega
      subst hie2
      rw [show p.fs.take p.fs.length = p.fs from List.take_length]
      refine G9 rfl (Fm (T := T) (fun g => [4, 2, 5, 6, 7].getD g 0) _ _ ⟨(), trivial, rfl, rfl⟩ rfl)
end
section
open Go Go.RowKit Go.Proofs K
variable {pk : Pk}
abbrev eGs : Ex := aw ⟨#[103, 115]⟩
abbrev eArr : Ex := aw ⟨#[97, 114, 114]⟩
abbrev ePtr : Ex := .mk 6 eS 0 [eArr]
abbrev eAt : Ex := .mk 6 eS 0 [eGs]
def expsL : List Ex := [eGs, eArr, ePtr, eAt, (aw ⟨#[110, 111, 112, 101]⟩), (aw ⟨#[118, 49]⟩), (aw ⟨#[112]⟩), (jP eGs ⟨#[97]⟩), (jP eGs ⟨#[120]⟩), (jP (aw ⟨#[103, 48]⟩) ⟨#[97]⟩), (jQ (aw ⟨#[103, 48]⟩) (bW 1)), (jQ eArr ePtr), (.mk 5 eS 0 [eAt]), (.mk 5 eS 0 [(aw ⟨#[103, 48]⟩)]), (jP (.mk 5 eS 0 [eAt]) ⟨#[99]⟩), (.mk 6 eS 0 [(aw ⟨#[118, 49]⟩)]), (.mk 6 eS 0 [(jQ (aw ⟨#[116, 97, 98]⟩) (bW 1))]), (fk ⟨#[61, 61]⟩ eAt eAt), (fk ⟨#[61, 61]⟩ eAt ePtr), (fk ⟨#[61, 61]⟩ eAt (bW 0)), (fk ⟨#[43]⟩ eAt (bW 1)), (fk ⟨#[60]⟩ eAt eAt), (.mk 12 ⟨#[45]⟩ 0 [eAt]), (.mk 15 ⟨#[117, 49, 54]⟩ 0 [eAt]), (.mk 15 ⟨#[117, 56]⟩ 0 [eAt]), (.mk 15 ⟨#[115, 49, 54]⟩ 0 [eGs]), (.mk 14 ⟨#[102, 105, 114, 115, 116]⟩ 0 []), (.mk 14 ⟨#[102, 105, 114, 115, 116]⟩ 0 [(bW 1)]), (.mk 14 ⟨#[102, 105, 114, 115, 116]⟩ 0 [eAt, (bW 1)]), (.mk 14 ⟨#[109, 97, 105, 110]⟩ 0 []), (.mk 14 ⟨#[109, 105, 115, 115, 105, 110, 103]⟩ 0 []), (.mk 7 eS 0 [eAt]), (.mk 8 eS 0 [(bW 3)]), (.mk 9 eS 63 [(bW 3)]), (.mk 11 eS 0 []), (.mk 10 eS 99 [(bW 3)]), (.mk 99 eS 0 []), (jQ (aw ⟨#[116, 97, 98]⟩) (bW 9))]
mutual
def Ex.okB : Ex → Bool
  | .mk k nm n ks => decide (0 ≤ k) && decide (k ≤ 9223372036854775807) && decide (nm.size ≤ 1000000) && decide (0 ≤ n) && decide (n ≤ 65535) && Ex.oksB ks
def Ex.oksB : List Ex → Bool
  | [] => true
  | t :: r => Ex.okB t && Ex.oksB r
end
mutual
theorem Ex.okB_ok : ∀ e : Ex, Ex.okB e = true → e.ok
  | .mk k nm n ks, h => by
    simp only [Ex.okB, Bool.and_eq_true, decide_eq_true_eq] at h
    exact ⟨⟨h.1.1.1.1.1, h.1.1.1.1.2⟩, h.1.1.1.2, ⟨h.1.1.2, h.1.2⟩, Ex.oksB_ok ks h.2⟩
theorem Ex.oksB_ok : ∀ l : List Ex, Ex.oksB l = true → Ex.oks l
  | [], _ => trivial
  | t :: r, h => by
    simp only [Ex.oksB, Bool.and_eq_true] at h
    exact ⟨Ex.okB_ok t h.1, Ex.oksB_ok r h.2⟩
end
theorem exps_ok : ∀ e ∈ expsL, e.ok ∧ e.size ≤ 10 := by
  have h : ∀ e ∈ expsL, Ex.okB e = true ∧ e.size ≤ 10 := by decide +kernel
  exact fun e he => ⟨Ex.okB_ok e (h e he).1, (h e he).2⟩
theorem ref_exprs : XQ Tryz.prog pk 58 [] (xr (expsL.map exD)) := by
  refine XQ.en Tryz.func58 Tryz.ntmps58 (fun w0 own H V v0 hf => ?_)
  refine G9 rfl (Cq (ak _) rfl rfl rfl rfl rfl ⟨rfl, rfl⟩ ?_)
  refine G9 rfl (Cq (ak _) rfl rfl rfl rfl rfl ⟨rfl, rfl⟩ ?_)
  refine G9 rfl (Cq (ak _) rfl rfl rfl rfl rfl ⟨rfl, rfl⟩ ?_)
  refine G9 rfl (Cq (ak _) rfl rfl rfl rfl rfl ⟨rfl, rfl⟩ ?_)
  refine G9 rfl (Cq (ak _) rfl rfl rfl rfl rfl ⟨rfl, rfl⟩ ?_)
  refine G9 rfl (Cq (bQ eGs _) rfl rfl rfl rfl rfl ⟨rfl, rfl⟩ ?_)
  refine G9 rfl (Cq (bQ eGs _) rfl rfl rfl rfl rfl ⟨rfl, rfl⟩ ?_)
  refine G9 rfl (Cq (ak _) rfl rfl rfl rfl rfl ⟨rfl, rfl⟩ ?_)
  refine G9 rfl (Cq (bQ (aw ⟨#[103, 48]⟩) _) rfl rfl rfl rfl rfl ⟨rfl, rfl⟩ ?_)
  refine G9 rfl (Cq (ak _) rfl rfl rfl rfl rfl ⟨rfl, rfl⟩ ?_)
  refine G9 rfl (Cq (az (by omega) (by omega)) rfl rfl rfl rfl rfl ⟨rfl, rfl⟩ ?_)
  refine G9 rfl (Cq (bj (aw ⟨#[103, 48]⟩) (bW 1)) rfl rfl rfl rfl rfl ⟨rfl, rfl⟩ ?_)
  refine G9 rfl (Cq (bj eArr ePtr) rfl rfl rfl rfl rfl ⟨rfl, rfl⟩ ?_)
  refine G9 rfl (Cq (ak _) rfl rfl rfl rfl rfl ⟨rfl, rfl⟩ ?_)
  refine G9 rfl (Cq (bQ (.mk 5 eS 0 [eAt]) _) rfl rfl rfl rfl rfl ⟨rfl, rfl⟩ ?_)
  refine G9 rfl (Cq (ak _) rfl rfl rfl rfl rfl ⟨rfl, rfl⟩ ?_)
  refine G9 rfl (Cq (ak _) rfl rfl rfl rfl rfl ⟨rfl, rfl⟩ ?_)
  refine G9 rfl (Cq (az (by omega) (by omega)) rfl rfl rfl rfl rfl ⟨rfl, rfl⟩ ?_)
  refine G9 rfl (Cq (bj (aw ⟨#[116, 97, 98]⟩) (bW 1)) rfl rfl rfl rfl rfl ⟨rfl, rfl⟩ ?_)
  refine G9 rfl (Cq (aO _ eAt eAt) rfl rfl rfl rfl rfl ⟨rfl, rfl⟩ ?_)
  refine G9 rfl (Cq (aO _ eAt ePtr) rfl rfl rfl rfl rfl ⟨rfl, rfl⟩ ?_)
  refine G9 rfl (Cq (az (by omega) (by omega)) rfl rfl rfl rfl rfl ⟨rfl, rfl⟩ ?_)
  refine G9 rfl (Cq (aO _ eAt (bW 0)) rfl rfl rfl rfl rfl ⟨rfl, rfl⟩ ?_)
  refine G9 rfl (Cq (az (by omega) (by omega)) rfl rfl rfl rfl rfl ⟨rfl, rfl⟩ ?_)
  refine G9 rfl (Cq (aO _ eAt (bW 1)) rfl rfl rfl rfl rfl ⟨rfl, rfl⟩ ?_)
  refine G9 rfl (Cq (aO _ eAt eAt) rfl rfl rfl rfl rfl ⟨rfl, rfl⟩ ?_)
  refine G9 rfl (Cq (az (by omega) (by omega)) rfl rfl rfl rfl rfl ⟨rfl, rfl⟩ ?_)
  refine G9 rfl (Cq (az (by omega) (by omega)) rfl rfl rfl rfl rfl ⟨rfl, rfl⟩ ?_)
  refine G9 rfl (Cq (az (by omega) (by omega)) rfl rfl rfl rfl rfl ⟨rfl, rfl⟩ ?_)
  refine G9 rfl (Cq (az (by omega) (by omega)) rfl rfl rfl rfl rfl ⟨rfl, rfl⟩ ?_)
  refine G9 rfl (Cq (az (by omega) (by omega)) rfl rfl rfl rfl rfl ⟨rfl, rfl⟩ ?_)
  refine G9 rfl (Cq (ak _) rfl rfl rfl rfl rfl ⟨rfl, rfl⟩ ?_)
  refine G9 rfl (Cq (az (by omega) (by omega)) rfl rfl rfl rfl rfl ⟨rfl, rfl⟩ ?_)
  refine G9 rfl (Cq (bj (aw ⟨#[116, 97, 98]⟩) (bW 9)) rfl rfl rfl rfl rfl ⟨rfl, rfl⟩ ?_)
  refine G9 rfl (Fq (T := T) rfl rfl)
end
section
open Go Go.RowKit Go.Proofs K
variable {pk : Pk}
def labL : List ByteArray := [⟨#[]⟩, ⟨#[76, 49]⟩, ⟨#[76, 50]⟩, ⟨#[105, 102]⟩]
def nmL5 : List ByteArray := [⟨#[118, 49]⟩, ⟨#[120]⟩, ⟨#[103, 48]⟩, ⟨#[109, 97, 105, 110]⟩, ⟨#[97]⟩]
def jmpL : List Int := [7, 8]
def tyl : List Ty4 := [.mk 1 eS 0 [], .mk 6 eS 0 [.mk 4 ⟨#[83]⟩ 0 []], .mk 4 ⟨#[83]⟩ 0 [], .mk 7 eS 0 [], .mk 6 eS 1 [.mk 2 eS 0 []]]
theorem tyl_ok : ∀ t ∈ tyl, t.ok ∧ t.size ≤ 3 := fun t h => by
  simp only [tyl, List.mem_cons, List.not_mem_nil, or_false] at h
  have a : ∀ {k : Int} {s : ByteArray} {l : List Ty4} {n : Int}, 0 ≤ k ∧ k ≤ 9 → s.size ≤ 1000000 → 0 ≤ n ∧ n ≤ 9 → Ty4.oks l → (Ty4.mk k s n l).ok := fun h1 h2 h3 h4 => ⟨⟨by omega, by omega⟩, h2, ⟨by omega, by omega⟩, h4⟩
  rcases h with rfl | rfl | rfl | rfl | rfl
  {
  exact ⟨a (by omega) (by decide) (by omega) trivial, by decide⟩}; {
  exact ⟨a (by omega) (by decide) (by omega) ⟨a (by omega) (by decide) (by omega) trivial, trivial⟩, by decide⟩}; {
  exact ⟨a (by omega) (by decide) (by omega) trivial, by decide⟩}; {
  exact ⟨a (by omega) (by decide) (by omega) trivial, by decide⟩}; {
  exact ⟨a (by omega) (by decide) (by omega) ⟨a (by omega) (by decide) (by omega) trivial, trivial⟩, by decide⟩}
theorem cv {k n : Int} {nm : ByteArray} {t : Ty4} {xs : List Ex} {b el : List Sm} {cs : List (List Sm)} (hk : 0 ≤ k ∧ k ≤ 99) (hn : nm.size ≤ 1000000) (ht : t.ok) (h0 : 0 ≤ n ∧ n ≤ 300) (hx : Ex.oks xs) (hb : Sm.oks b) (he : Sm.oks el) (hc : Sm.okc cs) : (Sm.mk k nm t n xs b el cs).ok := ⟨⟨by omega, by omega⟩, hn, ht, ⟨by omega, by omega⟩, hx, hb, he, hc⟩
theorem dl {α : Type} {l : List α} {n m : Int} (hl : (l.length : Int) = m) (hm : 0 < m) : ∃ (j : Nat) (a : α), eQ n m = (j : Int) ∧ l[j]? = some a ∧ a ∈ l := by
  have h := bD (n := n) hm
  obtain ⟨j, hj⟩ := Int.eq_ofNat_of_zero_le h.1
  have hlt : j < l.length := by omega
  exact ⟨j, l[j], hj, List.getElem?_eq_getElem hlt, List.getElem_mem hlt⟩
theorem lW {q0 q1 q2 : Int} : XP Tryz.prog pk 31 [xd [.c (.int .i64 q0), .c (.int .i64 q1), .c (.int .i64 q2)]] (fun r => ∃ s, r = xd (smD s) ∧ s.ok ∧ s.size ≤ 100) := by
  obtain ⟨j1, e1, hj1, he1, m1⟩ := dl (l := expsL) (n := q1) (m := 38) rfl (by omega)
  obtain ⟨j2, e2, hj2, he2, m2⟩ := dl (l := expsL) (n := q2) (m := 38) rfl (by omega)
  obtain ⟨j3, lb, hj3, he3, m3⟩ := dl (l := labL) (n := q2) (m := 4) rfl (by omega)
  obtain ⟨ko1, ks1⟩ := exps_ok e1 m1
  obtain ⟨ko2, ks2⟩ := exps_ok e2 m2
  have hlb : lb.size ≤ 1000000 := (show ∀ s ∈ labL, s.size ≤ 1000000 by decide) lb m3
  refine XP.en Tryz.func31 Tryz.ntmps31 (by rintro _ ⟨p, rfl, _⟩; rfl) (fun w0 own H V v0 hf => ?_)
  refine G9 rfl (Cq ref_exprs rfl rfl rfl rfl rfl ⟨rfl, rfl⟩ ?_)
  refine G9 rfl (Cq (ci (n := q1) (m := 38) (by omega) (by omega)) rfl rfl rfl rfl rfl ⟨rfl, rfl⟩ ?_)
  refine G (T := T) 14 rfl ?_
  rw [hj1]
  refine Ix (T := T) (rows := expsL.map exD) j1 (ab he1) rfl rfl rfl rfl ⟨rfl, rfl⟩ rfl rfl ?_
  refine G9 rfl (Cq (ci (n := q2) (m := 38) (by omega) (by omega)) rfl rfl rfl rfl rfl ⟨rfl, rfl⟩ ?_)
  refine G (T := T) 22 rfl ?_
  rw [hj2]
  refine Ix (T := T) (rows := expsL.map exD) j2 (ab he2) rfl rfl rfl rfl ⟨rfl, rfl⟩ rfl rfl ?_
  refine G9 rfl (Cq (ci (n := q2) (m := 4) (by omega) (by omega)) rfl rfl rfl rfl rfl ⟨rfl, rfl⟩ ?_)
  refine G (T := T) 28 rfl ?_
  rw [hj3]
  refine Ix (T := T) (rows := labL.map bH) j3 (ab he3) rfl rfl rfl rfl ⟨rfl, rfl⟩ rfl rfl ?_
  refine G9 rfl (Cq (ci (n := q0) (m := 14) (by omega) (by omega)) rfl rfl rfl rfl rfl ⟨rfl, rfl⟩ ?_)
  generalize eQ q0 14 = z
  refine G9 rfl (If rfl (fun h => ?_) (fun h => ?_)); {
  obtain ⟨j4, nm, hj4, he4, m4⟩ := dl (l := nmL5) (n := q2) (m := 5) rfl (by omega)
  obtain ⟨j5, ty, hj5, he5, m5⟩ := dl (l := tyl) (n := q0) (m := 5) rfl (by omega)
  have hnm : nm.size ≤ 1000000 := (show ∀ s ∈ nmL5, s.size ≤ 1000000 by decide) nm m4
  obtain ⟨hty, hts⟩ := tyl_ok ty m5
  refine G9 rfl (Cq (ci (n := q2) (m := 5) (by omega) (by omega)) rfl rfl rfl rfl rfl ⟨rfl, rfl⟩ ?_)
  refine G (T := T) 39 rfl ?_
  rw [hj4]
  refine Ix (T := T) (rows := nmL5.map bH) j4 (ab he4) rfl rfl rfl rfl ⟨rfl, rfl⟩ rfl rfl ?_
  refine G9 rfl (Cq (ci (n := q0) (m := 5) (by omega) (by omega)) rfl rfl rfl rfl rfl ⟨rfl, rfl⟩ ?_)
  refine G (T := T) 54 rfl ?_
  rw [hj5]
  refine Ix (T := T) (rows := tyl.map tyD) j5 (ab he5) rfl rfl rfl rfl ⟨rfl, rfl⟩ rfl rfl ?_
  refine G9 rfl ?_
  exact Fp (T := T) (xd (smD (.mk 1 nm ty 0 [e1] [] [] []))) ⟨_, rfl, (cv ⟨by omega, by omega⟩ hnm hty ⟨by omega, by omega⟩ ⟨ko1, trivial⟩ trivial trivial trivial), (by simp only [Sm.size, Sm.sizes, Sm.csizes, Ex.sizes, Ty4.size, Ty4.sizes, ty4z]; omega)⟩ rfl rfl}
  refine G9 rfl (If rfl (fun h => ?_) (fun h => ?_)); {
  refine G9 rfl ?_
  refine If rfl (fun _ => ?_) (fun h2 => (by cases h.symm.trans h2))
  refine G9 rfl ?_
  exact Fp (T := T) (xd (smD (.mk 2 eS ty4z 0 [e1, e2] [] [] []))) ⟨_, rfl, (cv ⟨by omega, by omega⟩ (by decide) aD ⟨by omega, by omega⟩ ⟨ko1, ko2, trivial⟩ trivial trivial trivial), (by simp only [Sm.size, Sm.sizes, Sm.csizes, Ex.sizes, Ty4.size, Ty4.sizes, ty4z]; omega)⟩ rfl rfl}
  refine G9 rfl (If rfl (fun h => ?_) (fun h => ?_)); {
  refine G9 rfl ?_
  refine If rfl (fun _ => ?_) (fun h2 => (by cases h.symm.trans h2))
  refine G9 rfl ?_
  exact Fp (T := T) (xd (smD (.mk 2 eS ty4z 0 [e1, e2] [] [] []))) ⟨_, rfl, (cv ⟨by omega, by omega⟩ (by decide) aD ⟨by omega, by omega⟩ ⟨ko1, ko2, trivial⟩ trivial trivial trivial), (by simp only [Sm.size, Sm.sizes, Sm.csizes, Ex.sizes, Ty4.size, Ty4.sizes, ty4z]; omega)⟩ rfl rfl}
  refine G9 rfl (If rfl (fun h => ?_) (fun h => ?_)); {
  refine G9 rfl ?_
  exact Fp (T := T) (xd (smD (.mk 2 eS ty4z 0 [e1, e2] [] [] []))) ⟨_, rfl, (cv ⟨by omega, by omega⟩ (by decide) aD ⟨by omega, by omega⟩ ⟨ko1, ko2, trivial⟩ trivial trivial trivial), (by simp only [Sm.size, Sm.sizes, Sm.csizes, Ex.sizes, Ty4.size, Ty4.sizes, ty4z]; omega)⟩ rfl rfl}
  refine G9 rfl (If rfl (fun h => ?_) (fun h => ?_)); {
  refine G9 rfl ?_
  exact Fp (T := T) (xd (smD (.mk 3 eS ty4z 0 [e1] [.mk 7 lb ty4z 0 [] [] [] []] [] []))) ⟨_, rfl, (cv ⟨by omega, by omega⟩ (by decide) aD ⟨by omega, by omega⟩ ⟨ko1, trivial⟩ ⟨(cv ⟨by omega, by omega⟩ hlb aD ⟨by omega, by omega⟩ trivial trivial trivial trivial), trivial⟩ trivial trivial), (by simp only [Sm.size, Sm.sizes, Sm.csizes, Ex.sizes, Ty4.size, Ty4.sizes, ty4z]; omega)⟩ rfl rfl}
  refine G9 rfl (If rfl (fun h => ?_) (fun h => ?_)); {
  obtain ⟨j4, k, hj4, he4, m4⟩ := dl (l := jmpL) (n := q1) (m := 2) rfl (by omega)
  have hk : 0 ≤ k ∧ k ≤ 99 := (show ∀ s ∈ jmpL, 0 ≤ s ∧ s ≤ 99 by decide) k m4
  refine G9 rfl (Cq (ci (n := q1) (m := 2) (by omega) (by omega)) rfl rfl rfl rfl rfl ⟨rfl, rfl⟩ ?_)
  refine G (T := T) 82 rfl ?_
  rw [hj4]
  refine Ix (T := T) (rows := jmpL.map intD) j4 (ab he4) rfl rfl rfl rfl ⟨rfl, rfl⟩ rfl rfl ?_
  refine G9 rfl ?_
  exact Fp (T := T) (xd (smD (.mk 6 lb ty4z 0 [] [.mk k ⟨#[76, 49]⟩ ty4z 0 [] [] [] []] [] []))) ⟨_, rfl, (cv ⟨by omega, by omega⟩ hlb aD ⟨by omega, by omega⟩ trivial ⟨(cv hk (by decide) aD ⟨by omega, by omega⟩ trivial trivial trivial trivial), trivial⟩ trivial trivial), (by simp only [Sm.size, Sm.sizes, Sm.csizes, Ex.sizes, Ty4.size, Ty4.sizes, ty4z]; omega)⟩ rfl rfl}
  refine G9 rfl (If rfl (fun h => ?_) (fun h => ?_)); {
  refine G9 rfl ?_
  exact Fp (T := T) (xd (smD (.mk 5 lb ty4z 0 [] [.mk 5 ⟨#[76, 49]⟩ ty4z 0 [] [.mk 8 ⟨#[76, 49]⟩ ty4z 0 [] [] [] []] [] []] [] []))) ⟨_, rfl, (cv ⟨by omega, by omega⟩ hlb aD ⟨by omega, by omega⟩ trivial ⟨(cv ⟨by omega, by omega⟩ (by decide) aD ⟨by omega, by omega⟩ trivial ⟨(cv ⟨by omega, by omega⟩ (by decide) aD ⟨by omega, by omega⟩ trivial trivial trivial trivial), trivial⟩ trivial trivial), trivial⟩ trivial trivial), (by simp only [Sm.size, Sm.sizes, Sm.csizes, Ex.sizes, Ty4.size, Ty4.sizes, ty4z]; omega)⟩ rfl rfl}
  refine G9 rfl (If rfl (fun h => ?_) (fun h => ?_)); {
  refine G9 rfl ?_
  exact Fp (T := T) (xd (smD (.mk 10 eS ty4z 0 [e1] [] [] []))) ⟨_, rfl, (cv ⟨by omega, by omega⟩ (by decide) aD ⟨by omega, by omega⟩ ⟨ko1, trivial⟩ trivial trivial trivial), (by simp only [Sm.size, Sm.sizes, Sm.csizes, Ex.sizes, Ty4.size, Ty4.sizes, ty4z]; omega)⟩ rfl rfl}
  refine G9 rfl (If rfl (fun h => ?_) (fun h => ?_)); {
  refine G9 rfl ?_
  exact Fp (T := T) (xd (smD (.mk 10 eS ty4z 0 [] [] [] []))) ⟨_, rfl, (cv ⟨by omega, by omega⟩ (by decide) aD ⟨by omega, by omega⟩ trivial trivial trivial trivial), (by simp only [Sm.size, Sm.sizes, Sm.csizes, Ex.sizes, Ty4.size, Ty4.sizes, ty4z]; omega)⟩ rfl rfl}
  refine G9 rfl (If rfl (fun h => ?_) (fun h => ?_)); {
  obtain ⟨n0, n1⟩ := bD (n := q2) (show (0 : Int) < 300 by omega)
  refine G9 rfl (Cq (ci (n := q2) (m := 300) (by omega) (by omega)) rfl rfl rfl rfl rfl ⟨rfl, rfl⟩ ?_)
  refine G (T := T) 111 rfl ?_
  rw [gN n0 (by omega)]
  generalize eQ q2 300 = n at n0 n1 ⊢
  refine G9 rfl ?_
  exact Fp (T := T) (xd (smD (.mk 11 eS ty4z n [e1] [] [] []))) ⟨_, rfl, (cv ⟨by omega, by omega⟩ (by decide) aD ⟨by omega, by omega⟩ ⟨ko1, trivial⟩ trivial trivial trivial), (by simp only [Sm.size, Sm.sizes, Sm.csizes, Ex.sizes, Ty4.size, Ty4.sizes, ty4z]; omega)⟩ rfl rfl}
  refine G9 rfl (If rfl (fun h => ?_) (fun h => ?_)); {
  refine G9 rfl ?_
  exact Fp (T := T) (xd (smD (.mk 9 eS ty4z 0 [e1] [] [] [[.mk 14 eS ty4z 0 [e2] [] [] []]]))) ⟨_, rfl, (cv ⟨by omega, by omega⟩ (by decide) aD ⟨by omega, by omega⟩ ⟨ko1, trivial⟩ trivial trivial ⟨⟨(cv ⟨by omega, by omega⟩ (by decide) aD ⟨by omega, by omega⟩ ⟨ko2, trivial⟩ trivial trivial trivial), trivial⟩, trivial⟩), (by simp only [Sm.size, Sm.sizes, Sm.csizes, Ex.sizes, Ty4.size, Ty4.sizes, ty4z]; omega)⟩ rfl rfl}
  refine G9 rfl (If rfl (fun h => ?_) (fun h => ?_)); {
  obtain ⟨n0, n1⟩ := bD (n := q2) (show (0 : Int) < 16 by omega)
  refine G9 rfl (Cq (ci (n := q2) (m := 16) (by omega) (by omega)) rfl rfl rfl rfl rfl ⟨rfl, rfl⟩ ?_)
  generalize eQ q2 16 = n at n0 n1 ⊢
  refine G9 rfl ?_
  exact Fp (T := T) (xd (smD (.mk 4 eS ty4z 0 [e1] [] [.mk n eS ty4z 0 [] [] [] []] []))) ⟨_, rfl, (cv ⟨by omega, by omega⟩ (by decide) aD ⟨by omega, by omega⟩ ⟨ko1, trivial⟩ trivial ⟨(cv ⟨by omega, by omega⟩ (by decide) aD ⟨by omega, by omega⟩ trivial trivial trivial trivial), trivial⟩ trivial), (by simp only [Sm.size, Sm.sizes, Sm.csizes, Ex.sizes, Ty4.size, Ty4.sizes, ty4z]; omega)⟩ rfl rfl}
  refine G9 rfl (If rfl (fun h => ?_) (fun h => ?_)); {
  refine G9 rfl ?_
  exact Fp (T := T) (xd (smD (.mk 14 eS ty4z 0 [e2] [] [] []))) ⟨_, rfl, (cv ⟨by omega, by omega⟩ (by decide) aD ⟨by omega, by omega⟩ ⟨ko2, trivial⟩ trivial trivial trivial), (by simp only [Sm.size, Sm.sizes, Sm.csizes, Ex.sizes, Ty4.size, Ty4.sizes, ty4z]; omega)⟩ rfl rfl}
  refine G9 rfl ?_
  obtain ⟨n0, n1⟩ := bD (n := q1) (show (0 : Int) < 16 by omega)
  refine Cq (ci (n := q1) (m := 16) (by omega) (by omega)) rfl rfl rfl rfl rfl ⟨rfl, rfl⟩ ?_
  generalize eQ q1 16 = n at n0 n1 ⊢
  refine G9 rfl ?_
  exact Fp (T := T) (xd (smD (.mk n lb ty4z 0 [e2] [] [] []))) ⟨_, rfl, (cv ⟨by omega, by omega⟩ hlb aD ⟨by omega, by omega⟩ ⟨ko2, trivial⟩ trivial trivial trivial), (by simp only [Sm.size, Sm.sizes, Sm.csizes, Ex.sizes, Ty4.size, Ty4.sizes, ty4z]; omega)⟩ rfl rfl
end
section
open Go Go.RowKit Go.Proofs K
variable {pk : Pk}
abbrev q3 (a b c : Int) : XV := xd [.c (.int .i64 a), .c (.int .i64 b), .c (.int .i64 c)]
def wroL : List ByteArray := [⟨#[109, 97, 105, 110]⟩, ⟨#[105, 110, 116, 101, 114, 114, 117, 112, 116]⟩, ⟨#[103, 48]⟩, ⟨#[83]⟩, ⟨#[102, 105, 114, 115, 116]⟩, ⟨#[49, 120]⟩, ⟨#[97, 95, 110, 97, 109, 101, 95, 111, 102, 95, 50, 53, 95, 99, 104, 97, 114, 97, 99, 116, 101, 114, 115, 95, 120]⟩]
theorem wro_sz : ∀ s ∈ wroL, s.size ≤ 25 := by decide
def abL : List ByteArray := [⟨#[97]⟩, ⟨#[98]⟩]
theorem w16_rg (n : Int) : 0 ≤ IntKind.u16.wrap n ∧ IntKind.u16.wrap n ≤ 65535 := by
  unfold IntKind.wrap
  simp [IntKind.bits, IntKind.signed] <;> omega
def TurR (B N M C : Nat) (r : XV) : Prop := ∃ p', r = xd (pgD p') ∧ p'.ok B ∧ 1 ≤ p'.fs.length ∧ 1 ≤ p'.gs.length ∧ p'.fs.length = N ∧ p'.gs.length ≤ M + 1 ∧ ∀ f ∈ p'.fs, f.ps.length ≤ C + 1
theorem iU {gs : List Gb} {j o : Nat} {g g' : Gb} {ds : List D} (h : gs[j]? = some g) (hd : (gbD g).take o ++ (ds ++ (gbD g).drop (o + ds.length)) = gbD g') : d7 (gs.map gbD) j o ds = (gs.set j g').map gbD := by
  rw [d7, List.getElem?_map, h]
  show (gs.map gbD).set j _ = _
  rw [hd, List.map_set]
theorem bO {n m : Int} (hm : 0 < m) (hm2 : m ≤ 4000000000000000000) : XQ Tryz.prog pk 25 [xi n, xi m] (xi (eQ n m)) := by
  have h1 : -m < n.tmod m := by
    have := Int.lt_tmod_of_pos n hm; omega
  have h2 := Int.tmod_lt_of_pos n hm
  refine XQ.en Tryz.func25 Tryz.ntmps25 (fun w0 own H V v0 hf => ?_)
  refine G9 rfl (Fe (T := T) rfl rfl)
theorem qw {p : Pg} {B : Nat} (hok : p.ok B) (hB : B ≤ 900000000) (hfs : 1 ≤ p.fs.length) (hgs : 1 ≤ p.gs.length) {C : Nat} (hC : ∀ f ∈ p.fs, f.ps.length ≤ C) {a b c : Int} : XP Tryz.prog pk 13 [xd (pgD p), q3 a b c] (TurR (B + 200) p.fs.length p.gs.length C) := by
  have hfl := hok.fl
  have hgl := hok.gl
  obtain ⟨j, hj⟩ := Int.eq_ofNat_of_zero_le (bD (n := c) (show (0 : Int) < (p.fs.length : Int) by omega)).1
  have hjl := (bD (n := c) (show (0 : Int) < (p.fs.length : Int) by omega)).2
  obtain ⟨j2, hj2⟩ := Int.eq_ofNat_of_zero_le (bD (n := c) (show (0 : Int) < (p.gs.length : Int) by omega)).1
  have hj2l := (bD (n := c) (show (0 : Int) < (p.gs.length : Int) by omega)).2
  obtain ⟨f, hf9⟩ := ai (l := p.fs) (j := j) (by omega)
  obtain ⟨g9, hg9⟩ := ai (l := p.gs) (j := j2) (by omega)
  have hO := ref_Own (pk := pk) hok hB hf9
  have hmf := bO (pk := pk) (n := c) (m := (p.fs.length : Nat)) (by omega) (by omega)
  have hmg := bO (pk := pk) (n := c) (m := (p.gs.length : Nat)) (by omega) (by omega)
  rw [hj] at hmf
  rw [hj2] at hmg
  obtain ⟨jw, nm, hjw, hnm, mw⟩ := dl (l := wroL) (n := b) (m := 7) rfl (by omega)
  have hnmz := wro_sz nm mw
  refine XP.en Tryz.func13 Tryz.ntmps13 (by rintro _ ⟨p', rfl, _⟩; rfl) (fun w0 own H V v0 hf => ?_)
  refine G9 rfl (Cy [] (fun _ => .a (.a [.l 3 1 3 0 p.ts.length p.ts.length, .l 4 1 8 0 p.gs.length p.gs.length, .l 5 1 10 0 p.fs.length p.fs.length])) (fun _ => [⟨3, 1, .row p.ts.length (p.ts.map tdD) 87 3⟩, ⟨4, 1, .row p.gs.length (p.gs.map gbD) 63 8⟩, ⟨5, 1, .rowk p.fs.length ((p.fs.take j).map fuD) (fuK 6 7 f) ((p.fs.drop (j + 1)).map fuD) 61 10⟩, ⟨6, 1, .row f.ps.length (f.ps.map paD) 85 5⟩, ⟨7, 1, .row f.body.length (f.body.map smD) 71 11⟩]) hO rfl rfl rfl rfl rfl rfl rfl ⟨⟨rfl, rfl⟩, rfl⟩ (fun _ => rfl) (fun _ => rfl) rfl ?_)
  rintro _ -
  refine Gs (T := T) 1000 rfl ?_
  refine IfF rfl ?_ ?_
  · rw [decide_eq_false (by omega), decide_eq_false (by omega)]; rfl
  have lt : (p.fs.take j).length = j := by rw [List.length_take]; omega
  refine G9 rfl (Cq hmf rfl rfl rfl rfl rfl ⟨rfl, rfl⟩ ?_)
  refine G (T := T) 32 rfl ?_
  refine Qk (T := T) j rfl rfl rfl rfl rfl ⟨rfl, rfl⟩ rfl (by omega) ?_
  refine G9 rfl (Cq hmg rfl rfl rfl rfl rfl ⟨rfl, rfl⟩ ?_)
  refine G (T := T) 41 rfl ?_
  refine Iq (T := T) j2 rfl rfl rfl rfl rfl ⟨rfl, rfl⟩ rfl (by omega) rfl ?_
  refine G9 rfl ?_
  have hm7 := bO (pk := pk) (n := b) (m := 7) (by omega) (by omega)
  rw [hjw] at hm7
  refine Cq hm7 rfl rfl rfl rfl rfl ⟨rfl, rfl⟩ ?_
  refine G (T := T) 47 rfl ?_
  refine Ix (T := T) (rows := wroL.map bH) jw (ab hnm) rfl rfl rfl rfl ⟨rfl, rfl⟩ rfl rfl ?_
  refine G9 rfl (Cq (bO (n := a) (m := 24) (by omega) (by omega)) rfl rfl rfl rfl rfl ⟨rfl, rfl⟩ ?_)
  have lt2 : j = ((p.fs.take j).map fuD).length := by rw [List.length_map]; exact lt.symm
  have hgr := ab (f := gbD) hg9
  have tl2 : p.ts.length ≤ B + 200 := Nat.le_trans hok.tl (by omega)
  have ft : ∀ x ∈ p.ts, x.ok (B + 200) := fun x hx => (hok.t x hx).mono (by omega)
  have fg : ∀ x ∈ p.gs, x.ok (B + 200) := fun x hx => (hok.g x hx).mono (by omega)
  have ff : ∀ x ∈ p.fs, x.ok (B + 200) := fun x hx => (hok.f x hx).mono (by omega)
  have fin : ∀ {ts : List Td} {gs : List Gb} {f' : Fu}, ts.length ≤ B + 200 → (∀ x ∈ ts, x.ok (B + 200)) → 1 ≤ gs.length ∧ gs.length ≤ p.gs.length + 1 → (∀ x ∈ gs, x.ok (B + 200)) → f'.ok (B + 200) → (f'.ps.length ≤ C + 1) → TurR (B + 200) p.fs.length p.gs.length C (xd [.s (ts.map tdD), .s (gs.map gbD), .s ((p.fs.take j).map fuD ++ fuD f' :: (p.fs.drop (j + 1)).map fuD)]) := fun {ts gs f'} h1 h2 h3 h4 h5 h6 => by
    have hfe : (p.fs.take j ++ f' :: p.fs.drop (j + 1)).length = p.fs.length := by
      rw [List.length_append, List.length_cons, List.length_take, List.length_drop]; omega
    refine ⟨⟨ts, gs, p.fs.take j ++ f' :: p.fs.drop (j + 1)⟩, by rw [pgD, List.map_append, List.map_cons], ⟨h1, by show gs.length ≤ _; omega, by rw [hfe]; omega, h2, h4, fun x hx => ?_⟩, by rw [hfe]; exact hfs, h3.1, hfe, h3.2, fun x hx => ?_⟩
    · rcases List.mem_append.1 hx with hx | hx
      · exact ff x (List.mem_of_mem_take hx)
      · rcases List.mem_cons.1 hx with rfl | hx
        · exact h5
        · exact ff x (List.mem_of_mem_drop hx)
    · rcases List.mem_append.1 hx with hx | hx
      · exact Nat.le_succ_of_le (hC x (List.mem_of_mem_take hx))
      · rcases List.mem_cons.1 hx with rfl | hx
        · exact h6
        · exact Nat.le_succ_of_le (hC x (List.mem_of_mem_drop hx))
  have hfC0 : f.ps.length ≤ C := hC f (List.mem_of_getElem? hf9)
  have hfC : f.ps.length ≤ C + 1 := Nat.le_succ_of_le hfC0
  have fin1 : ∀ {f' : Fu}, f'.ok (B + 200) → (f'.ps.length ≤ C + 1) → TurR (B + 200) p.fs.length p.gs.length C (xd [.s (p.ts.map tdD), .s (p.gs.map gbD), .s ((p.fs.take j).map fuD ++ fuD f' :: (p.fs.drop (j + 1)).map fuD)]) := fun h h6 => fin tl2 ft ⟨hgs, by omega⟩ fg h h6
  have fin2 : ∀ {g' : Gb}, g'.ok (B + 200) → TurR (B + 200) p.fs.length p.gs.length C (xd [.s (p.ts.map tdD), .s ((p.gs.set j2 g').map gbD), .s ((p.fs.take j).map fuD ++ fuD f :: (p.fs.drop (j + 1)).map fuD)]) := fun {g'} h => fin tl2 ft (by rw [List.length_set]; exact ⟨hgs, by omega⟩) (fun x hx => by
    rcases List.mem_or_eq_of_mem_set hx with hx | rfl
    · exact fg x hx
    · exact h) (ff f (List.mem_of_getElem? hf9)) hfC
  have hf0 := hok.f f (List.mem_of_getElem? hf9)
  have hg0 := hok.g g9 (List.mem_of_getElem? hg9)
  have hf0 := hok.f f (List.mem_of_getElem? hf9)
  have hg0 := hok.g g9 (List.mem_of_getElem? hg9)
  have hf0 := hok.f f (List.mem_of_getElem? hf9)
  have hg0 := hok.g g9 (List.mem_of_getElem? hg9)
  have hf0 := hok.f f (List.mem_of_getElem? hf9)
  have hg0 := hok.g g9 (List.mem_of_getElem? hg9)
  have hf0 := hok.f f (List.mem_of_getElem? hf9)
  have hg0 := hok.g g9 (List.mem_of_getElem? hg9)
  have hf0 := hok.f f (List.mem_of_getElem? hf9)
  have hg0 := hok.g g9 (List.mem_of_getElem? hg9)
  obtain ⟨fo1, fo2, fo3, fo4, fo5, fo6, fo7, fo8, fo9⟩ := hf0
  obtain ⟨go1, go2, go3, go4, go5, go6⟩ := hg0
  generalize eQ a 24 = d
  refine G9 rfl (If rfl (fun h => ?_) (fun h => ?_))
  · refine G9 rfl ?_
    refine Skk (T := T) lt2 rfl rfl rfl rfl rfl rfl rfl ⟨rfl, rfl⟩ rfl rfl ?_
    refine G9 rfl (MS.fz9 6 rfl ?_)
    refine MS.fz9 7 rfl ((SRto.kr 5 rfl rfl rfl rfl).e ?_)
    refine MS.fz9 5 rfl (MS.fz9 4 rfl ?_)
    refine MS.fz9 3 rfl ?_
    exact Fp (T := T) _ (fin1 (f' := ⟨nm, f.ps, f.res, f.body, f.fl, f.x, f.y⟩) ⟨Nat.le_trans hnmz (by decide), by first | omega | (dsimp only; omega), fun x hx => (fo3 x hx).mono (by omega), fo4, by first | omega | (dsimp only; omega), fo6, by first | omega | (dsimp only; omega), fo8, fo9⟩ hfC) rfl rfl
  refine G9 rfl (If rfl (fun h => ?_) (fun h => ?_))
  · refine G9 rfl ?_
    refine Sr (T := T) hgr rfl rfl rfl rfl rfl rfl rfl ⟨rfl, rfl⟩ rfl rfl ?_
    rw [iU (g' := ⟨nm, g9.ty, g9.bank, g9.addr, g9.bytes⟩) hg9 rfl]
    refine G9 rfl (MS.fz9 6 rfl ?_)
    refine MS.fz9 7 rfl ((SRto.kr 5 rfl rfl rfl rfl).e ?_)
    refine MS.fz9 5 rfl (MS.fz9 4 rfl ?_)
    refine MS.fz9 3 rfl ?_
    exact Fp (T := T) _ (fin2 (g' := ⟨nm, g9.ty, g9.bank, g9.addr, g9.bytes⟩) ⟨Nat.le_trans hnmz (by decide), go2, by first | omega | (dsimp only; omega), go4, go5, by first | omega | (dsimp only; omega)⟩) rfl rfl
  refine G9 rfl (If rfl (fun h => ?_) (fun h => ?_))
  · refine G9 rfl ?_
    refine Lr (T := T) hgr rfl rfl rfl rfl ⟨rfl, rfl⟩ rfl rfl ?_
    have hk := bD (n := b) (m := 50) (by omega)
    refine G9 rfl (Cq (bO (n := b) (m := 50) (by omega) (by omega)) rfl rfl rfl rfl rfl ⟨rfl, rfl⟩ ?_)
    generalize eQ b 50 = k at *
    refine G (T := T) 102 rfl ?_
    refine Aw rfl rfl rfl ⟨rfl, rfl⟩ ?_
    refine G (T := T) 103 rfl ?_
    refine Sw rfl rfl rfl ⟨rfl, rfl⟩ ?_
    generalize IntKind.u16.wrap (g9.addr + _) - 25 = w9
    refine G9 rfl (Sr (T := T) hgr rfl rfl rfl rfl rfl rfl rfl ⟨rfl, rfl⟩ rfl rfl ?_)
    rw [iU (g' := ⟨g9.nm, g9.ty, g9.bank, IntKind.u16.wrap w9, g9.bytes⟩) hg9 rfl]
    refine G9 rfl (MS.fz9 6 rfl ?_)
    refine MS.fz9 7 rfl ((SRto.kr 5 rfl rfl rfl rfl).e ?_)
    refine MS.fz9 5 rfl (MS.fz9 4 rfl ?_)
    refine MS.fz9 3 rfl ?_
    exact Fp (T := T) _ (fin2 (g' := ⟨g9.nm, g9.ty, g9.bank, IntKind.u16.wrap w9, g9.bytes⟩) ⟨go1, go2, by first | omega | (dsimp only; omega), go4, w16_rg _, by first | omega | (dsimp only; omega)⟩) rfl rfl
  refine G9 rfl (If rfl (fun h => ?_) (fun h => ?_))
  · have hk := bD (n := b) (m := 66) (by omega)
    refine G9 rfl (Cq (bO (n := b) (m := 66) (by omega) (by omega)) rfl rfl rfl rfl rfl ⟨rfl, rfl⟩ ?_)
    generalize eQ b 66 = k at *
    refine G9 rfl (Sr (T := T) hgr rfl rfl rfl rfl rfl rfl rfl ⟨rfl, rfl⟩ rfl rfl ?_)
    rw [iU (g' := ⟨g9.nm, g9.ty, k - 1, g9.addr, g9.bytes⟩) hg9 rfl]
    refine G9 rfl (MS.fz9 6 rfl ?_)
    refine MS.fz9 7 rfl ((SRto.kr 5 rfl rfl rfl rfl).e ?_)
    refine MS.fz9 5 rfl (MS.fz9 4 rfl ?_)
    refine MS.fz9 3 rfl ?_
    exact Fp (T := T) _ (fin2 (g' := ⟨g9.nm, g9.ty, k - 1, g9.addr, g9.bytes⟩) ⟨go1, go2, by first | omega | (dsimp only; omega), ⟨by dsimp only; omega, by dsimp only; omega⟩, go5, by first | omega | (dsimp only; omega)⟩) rfl rfl
  refine G9 rfl (If rfl (fun h => ?_) (fun h => ?_))
  · refine G9 rfl ?_
    refine Lr (T := T) hgr rfl rfl rfl rfl ⟨rfl, rfl⟩ rfl rfl ?_
    have z1 : (⟨#[120]⟩ : ByteArray).size = 1 := rfl
    refine G9 rfl (Sr (T := T) hgr rfl rfl rfl rfl rfl rfl rfl ⟨rfl, rfl⟩ rfl rfl ?_)
    rw [iU (g' := ⟨g9.nm, g9.ty, g9.bank, g9.addr, g9.bytes ++ ⟨#[120]⟩⟩) hg9 rfl]
    refine G9 rfl (MS.fz9 6 rfl ?_)
    refine MS.fz9 7 rfl ((SRto.kr 5 rfl rfl rfl rfl).e ?_)
    refine MS.fz9 5 rfl (MS.fz9 4 rfl ?_)
    refine MS.fz9 3 rfl ?_
    exact Fp (T := T) _ (fin2 (g' := ⟨g9.nm, g9.ty, g9.bank, g9.addr, g9.bytes ++ ⟨#[120]⟩⟩) ⟨go1, go2, by first | omega | (dsimp only; omega), go4, go5, by rw [ByteArray.size_append]; have : (⟨#[120]⟩ : ByteArray).size = 1 := rfl; omega⟩) rfl rfl
  refine G9 rfl (If rfl (fun h => ?_) (fun h => ?_))
  · have hk := bD (n := b) (m := 5000) (by omega)
    refine G9 rfl (Cq (bO (n := b) (m := 5000) (by omega) (by omega)) rfl rfl rfl rfl rfl ⟨rfl, rfl⟩ ?_)
    generalize eQ b 5000 = k at *
    refine G9 rfl (Lr (T := T) hgr rfl rfl rfl rfl ⟨rfl, rfl⟩ rfl rfl ?_)
    refine G9 rfl (Sr (T := T) hgr rfl rfl rfl rfl rfl rfl rfl ⟨rfl, rfl⟩ rfl rfl ?_)
    rw [iU (g' := ⟨g9.nm, .mk 5 eS k [g9.ty], g9.bank, g9.addr, g9.bytes⟩) hg9 rfl]
    refine G9 rfl (MS.fz9 6 rfl ?_)
    refine MS.fz9 7 rfl ((SRto.kr 5 rfl rfl rfl rfl).e ?_)
    refine MS.fz9 5 rfl (MS.fz9 4 rfl ?_)
    refine MS.fz9 3 rfl ?_
    exact Fp (T := T) _ (fin2 (g' := ⟨g9.nm, .mk 5 eS k [g9.ty], g9.bank, g9.addr, g9.bytes⟩) ⟨go1, ⟨⟨by omega, by omega⟩, by decide, ⟨by omega, by omega⟩, go2, trivial⟩, by simp only [Ty4.size, Ty4.sizes]; omega, go4, go5, by first | omega | (dsimp only; omega)⟩) rfl rfl
  refine G9 rfl (If rfl (fun h => ?_) (fun h => ?_))
  · refine G9 rfl ?_
    refine Lkk (T := T) lt2 rfl rfl rfl rfl ⟨rfl, rfl⟩ rfl rfl ?_
    refine G9 rfl (Lr (T := T) hgr rfl rfl rfl rfl ⟨rfl, rfl⟩ rfl rfl ?_)
    refine G9 rfl (Skk (T := T) lt2 rfl rfl rfl rfl rfl rfl rfl ⟨rfl, rfl⟩ rfl rfl ?_)
    refine G9 rfl (MS.fz9 6 rfl ?_)
    refine MS.fz9 7 rfl ((SRto.kr 5 rfl rfl rfl rfl).e ?_)
    refine MS.fz9 5 rfl (MS.fz9 4 rfl ?_)
    refine MS.fz9 3 rfl ?_
    have h9 := fin1 (f' := ⟨f.nm, f.ps ++ [⟨⟨#[97]⟩, g9.ty⟩], f.res, f.body, f.fl, f.x, f.y⟩) ⟨fo1, by rw [List.length_append]; show f.ps.length + 1 ≤ _; omega, fun x hx => by
        rcases List.mem_append.1 hx with hx | hx
        · exact (fo3 x hx).mono (by omega)
        · rw [List.mem_singleton.1 hx]; exact ⟨(by decide : (⟨#[97]⟩ : ByteArray).size ≤ 1000000), go2, by show g9.ty.size ≤ _; omega⟩, fo4, by first | omega | (dsimp only; omega), fo6, by first | omega | (dsimp only; omega), fo8, fo9⟩ (by rw [List.length_append]; exact Nat.succ_le_succ hfC0)
    simp only [fuD, List.map_append, List.map_cons, List.map_nil] at h9
    exact Fp (T := T) _ h9 rfl rfl
  refine G9 rfl (If rfl (fun h => ?_) (fun h => ?_))
  · refine G9 rfl ?_
    refine Lr (T := T) hgr rfl rfl rfl rfl ⟨rfl, rfl⟩ rfl rfl ?_
    refine G9 rfl (Skk (T := T) lt2 rfl rfl rfl rfl rfl rfl rfl ⟨rfl, rfl⟩ rfl rfl ?_)
    refine G9 rfl (MS.fz9 6 rfl ?_)
    refine MS.fz9 7 rfl ((SRto.kr 5 rfl rfl rfl rfl).e ?_)
    refine MS.fz9 5 rfl (MS.fz9 4 rfl ?_)
    refine MS.fz9 3 rfl ?_
    exact Fp (T := T) _ (fin1 (f' := ⟨f.nm, f.ps, g9.ty, f.body, f.fl, f.x, f.y⟩) ⟨fo1, by first | omega | (dsimp only; omega), fun x hx => (fo3 x hx).mono (by omega), go2, by first | omega | (dsimp only; omega), fo6, by first | omega | (dsimp only; omega), fo8, fo9⟩ hfC) rfl rfl
  refine G9 rfl (If rfl (fun h => ?_) (fun h => ?_))
  · refine G9 rfl ?_
    refine Skk (T := T) lt2 rfl rfl rfl rfl rfl rfl rfl ⟨rfl, rfl⟩ rfl rfl ?_
    have hk := bD (n := b) (m := 3) (by omega)
    refine G9 rfl (Cq (bO (n := b) (m := 3) (by omega) (by omega)) rfl rfl rfl rfl rfl ⟨rfl, rfl⟩ ?_)
    generalize eQ b 3 = k at *
    refine G9 rfl (Skk (T := T) lt2 rfl rfl rfl rfl rfl rfl rfl ⟨rfl, rfl⟩ rfl rfl ?_)
    refine G9 rfl (MS.fz9 6 rfl ?_)
    refine MS.fz9 7 rfl ((SRto.kr 5 rfl rfl rfl rfl).e ?_)
    refine MS.fz9 5 rfl (MS.fz9 4 rfl ?_)
    refine MS.fz9 3 rfl ?_
    exact Fp (T := T) _ (fin1 (f' := ⟨f.nm, f.ps, f.res, f.body, true, k, 4160⟩) ⟨fo1, by first | omega | (dsimp only; omega), fun x hx => (fo3 x hx).mono (by omega), fo4, by first | omega | (dsimp only; omega), fo6, by first | omega | (dsimp only; omega), ⟨by show _ ≤ k; omega, by show k ≤ _; omega⟩, ⟨by show (0 : Int) ≤ 4160; omega, by show (4160 : Int) ≤ _; omega⟩⟩ hfC) rfl rfl
  refine G9 rfl (If rfl (fun h => ?_) (fun h => ?_))
  · obtain ⟨j1, e1, hj1, he1, m1⟩ := dl (l := abL) (n := c) (m := 2) rfl (by omega)
    obtain ⟨j3, e2, hj3, he3, m3⟩ := dl (l := [⟨#[83]⟩, ⟨#[84]⟩, nm]) (n := c) (m := 3) rfl (by omega)
    have hm2 := bO (pk := pk) (n := c) (m := 2) (by omega) (by omega)
    have hm3 := bO (pk := pk) (n := c) (m := 3) (by omega) (by omega)
    rw [hj1] at hm2
    rw [hj3] at hm3
    have z1 : e1.size ≤ 1000000 := (by decide : ∀ s ∈ abL, s.size ≤ 1000000) e1 m1
    have z2 : e2.size ≤ 1000000 := by
      simp only [List.mem_cons, List.not_mem_nil, or_false] at m3
      rcases m3 with rfl | rfl | rfl
      · decide
      · decide
      · omega
    refine G9 rfl (Lr (T := T) hgr rfl rfl rfl rfl ⟨rfl, rfl⟩ rfl rfl ?_)
    refine G9 rfl (Cq hm2 rfl rfl rfl rfl rfl ⟨rfl, rfl⟩ ?_)
    refine G (T := T) 190 rfl ?_
    refine Ix (T := T) (rows := abL.map bH) j1 (ab he1) rfl rfl rfl rfl ⟨rfl, rfl⟩ rfl rfl ?_
    refine G9 rfl (Cq hm3 rfl rfl rfl rfl rfl ⟨rfl, rfl⟩ ?_)
    refine G (T := T) 197 rfl ?_
    refine Ix (T := T) (rows := [⟨#[83]⟩, ⟨#[84]⟩, nm].map bH) j3 (ab he3) rfl rfl rfl rfl ⟨rfl, rfl⟩ rfl rfl ?_
    refine G9 rfl (MS.fz9 6 rfl ?_)
    refine MS.fz9 7 rfl ((SRto.kr 5 rfl rfl rfl rfl).e ?_)
    refine MS.fz9 5 rfl (MS.fz9 4 rfl ?_)
    refine MS.fz9 3 rfl ?_
    have h9 := fin (ts := p.ts ++ [⟨nm, false, [⟨⟨#[97]⟩, g9.ty⟩, ⟨e1, .mk 4 e2 0 []⟩]⟩]) (gs := p.gs) (f' := f) (by rw [List.length_append]; show p.ts.length + 1 ≤ _; have := hok.tl; omega) (fun x hx => by
        rcases List.mem_append.1 hx with hx | hx
        · exact ft x hx
        · rw [List.mem_singleton.1 hx]
          refine ⟨Nat.le_trans hnmz (by decide), by show 2 ≤ _; omega, fun q hq => ?_⟩
          simp only [List.mem_cons, List.not_mem_nil, or_false] at hq
          rcases hq with rfl | rfl
          · exact ⟨(by decide : (⟨#[97]⟩ : ByteArray).size ≤ 1000000), go2, by show g9.ty.size ≤ _; omega⟩
          · exact ⟨z1, ⟨⟨by omega, by omega⟩, z2, ⟨by omega, by omega⟩, trivial⟩, by simp only [Ty4.size, Ty4.sizes]; omega⟩) ⟨hgs, by omega⟩ fg (ff f (List.mem_of_getElem? hf9)) hfC
    rw [List.map_append] at h9
    exact Fp (T := T) _ h9 rfl rfl
  refine G9 rfl (If rfl (fun h => ?_) (fun h => ?_))
  · have hk := bD (n := b) (m := 40) (by omega)
    refine G9 rfl (Cq (bO (n := b) (m := 40) (by omega) (by omega)) rfl rfl rfl rfl rfl ⟨rfl, rfl⟩ ?_)
    generalize eQ b 40 = k at *
    refine G (T := T) 218 rfl ?_
    rw [show IntKind.u16.wrap (240 + k) = 240 + k from gN (by omega) (by omega)]
    refine G9 rfl (MS.fz9 6 rfl ?_)
    refine MS.fz9 7 rfl ((SRto.kr 5 rfl rfl rfl rfl).e ?_)
    refine MS.fz9 5 rfl (MS.fz9 4 rfl ?_)
    refine MS.fz9 3 rfl ?_
    have h9 := fin (ts := p.ts) (gs := p.gs ++ [⟨⟨#[109, 111, 114, 101]⟩, .mk 5 eS 3 [.mk 2 eS 0 []], 1, 240 + k, ⟨#[97, 98, 99]⟩⟩]) (f' := f) tl2 ft (by rw [List.length_append]; show 1 ≤ p.gs.length + 1 ∧ p.gs.length + 1 ≤ _; omega) (fun x hx => by
        rcases List.mem_append.1 hx with hx | hx
        · exact fg x hx
        · rw [List.mem_singleton.1 hx]
          exact ⟨(by decide : (⟨#[109, 111, 114, 101]⟩ : ByteArray).size ≤ 1000000), ⟨⟨by omega, by omega⟩, by decide, ⟨by omega, by omega⟩, ⟨⟨by omega, by omega⟩, by decide, ⟨by omega, by omega⟩, trivial⟩, trivial⟩, by simp only [Ty4.size, Ty4.sizes]; omega, ⟨by show _ ≤ (1 : Int); omega, by show (1 : Int) ≤ _; omega⟩, ⟨by show 0 ≤ 240 + k; omega, by show 240 + k ≤ _; omega⟩, Nat.le_trans (by decide : (3 : Nat) ≤ 200) (by omega)⟩) (ff f (List.mem_of_getElem? hf9)) hfC
    rw [List.map_append] at h9
    exact Fp (T := T) _ h9 rfl rfl
  refine G9 rfl (If rfl (fun h => ?_) (fun h => ?_))
  · have l5 : (f.body.map smD).length = f.body.length := List.length_map ..
    have l6 := Sm.len_le f.body
    have hlast : ∀ z : List D, (f.body.map smD ++ [z])[f.body.length]? = some z := fun z => by rw [← l5, List.getElem?_append_right (Nat.le_refl _), Nat.sub_self]; rfl
    have hsl : ∀ z ds : List D, ds.length = z.length → d7 (f.body.map smD ++ [z]) f.body.length 0 ds = f.body.map smD ++ [ds] := fun z ds h => by have := jm (rows := f.body.map smD) h; rwa [l5] at this
    refine G9 rfl (Lkk (T := T) lt2 rfl rfl rfl rfl ⟨rfl, rfl⟩ rfl rfl ?_)
    refine G (T := T) 235 rfl ?_
    refine Iq (T := T) f.body.length rfl rfl rfl rfl rfl ⟨rfl, rfl⟩ rfl (by omega) rfl ?_
    refine G9 rfl (Sr (T := T) (hlast _) rfl rfl rfl rfl rfl rfl rfl ⟨rfl, rfl⟩ rfl rfl ?_)
    rw [hsl _ _ (by rfl)]
    refine G9 rfl (Skk (T := T) lt2 rfl rfl rfl rfl rfl rfl rfl ⟨rfl, rfl⟩ rfl rfl ?_)
    refine G9 rfl (MS.fz9 6 rfl ?_)
    refine MS.fz9 7 rfl ((SRto.kr 5 rfl rfl rfl rfl).e ?_)
    refine MS.fz9 5 rfl (MS.fz9 4 rfl ?_)
    refine MS.fz9 3 rfl ?_
    have h9 := fin1 (f' := ⟨f.nm, f.ps, f.res, f.body ++ [.mk 14 eS ty4z 0 [.mk 14 nm 0 []] [] [] []], f.fl, f.x, f.y⟩) ⟨fo1, by first | omega | (dsimp only; omega), fun x hx => (fo3 x hx).mono (by omega), fo4, by first | omega | (dsimp only; omega), Sm.oks_append.2 ⟨fo6, (show Sm.ok (.mk 14 eS ty4z 0 [.mk 14 nm 0 []] [] [] []) from ⟨⟨by omega, by omega⟩, by decide, aD, ⟨by omega, by omega⟩, ⟨⟨⟨by omega, by omega⟩, by omega, ⟨by omega, by omega⟩, trivial⟩, trivial⟩, trivial, trivial, trivial⟩), trivial⟩, by rw [Sm.sizes_append]; simp only [Sm.sizes, Sm.size, Sm.csizes, Ex.sizes, Ex.size, ty4z, Ty4.size, Ty4.sizes]; omega, fo8, fo9⟩ hfC
    simp only [fuD, aP, bc, List.map_append, List.map_cons, List.map_nil] at h9
    exact Fp (T := T) _ h9 rfl rfl
  have l5 : (f.body.map smD).length = f.body.length := List.length_map ..
  have l6 := Sm.len_le f.body
  have hlast : ∀ z : List D, (f.body.map smD ++ [z])[f.body.length]? = some z := fun z => by rw [← l5, List.getElem?_append_right (Nat.le_refl _), Nat.sub_self]; rfl
  have hsl : ∀ z ds : List D, ds.length = z.length → d7 (f.body.map smD ++ [z]) f.body.length 0 ds = f.body.map smD ++ [ds] := fun z ds h => by have := jm (rows := f.body.map smD) h; rwa [l5] at this
  refine G9 rfl (Ce (lW (q0 := a) (q1 := b) (q2 := c)) rfl rfl rfl rfl rfl ⟨rfl, rfl⟩ ?_)
  rintro _ ⟨⟨k, sn, sy, n, es, bd, el, cs⟩, rfl, so, sz⟩
  rw [aP]
  refine G9 rfl (If rfl (fun h => ?_) (fun h => ?_))
  · refine Zc 7 rfl ?_
    refine G (T := T) 60 rfl ?_
    refine Br (T := T) rfl rfl rfl rfl rfl ⟨rfl, rfl⟩ ?_
    refine G9 rfl (Lkk (T := T) lt2 rfl rfl rfl rfl ⟨rfl, rfl⟩ rfl rfl ?_)
    refine G (T := T) 65 rfl ?_
    refine Ap (T := T) l5.symm (jz _) rfl rfl rfl rfl rfl rfl ⟨rfl, rfl⟩ (by omega) (by omega) ?_
    refine G9 rfl (Skk (T := T) lt2 rfl rfl rfl rfl rfl rfl rfl ⟨rfl, rfl⟩ rfl rfl ?_)
    refine G9 rfl (MS.fz9 6 rfl ?_)
    refine MS.fz9 10 rfl ((SRto.kr 5 rfl rfl rfl rfl).e ?_)
    refine MS.fz9 5 rfl (MS.fz9 4 rfl ?_)
    refine MS.fz9 3 rfl ?_
    have h9 := fin1 (f' := ⟨f.nm, f.ps, f.res, .mk k sn sy n es bd el cs :: f.body, f.fl, f.x, f.y⟩) ⟨fo1, by first | omega | (dsimp only; omega), fun x hx => (fo3 x hx).mono (by omega), fo4, by first | omega | (dsimp only; omega), ⟨so, fo6⟩, by simp only [Sm.sizes]; omega, fo8, fo9⟩ hfC
    simp only [fuD, aP, bc, List.map_append, List.map_cons, List.map_nil] at h9
    exact Fp (T := T) _ h9 rfl rfl
  · refine G9 rfl ?_
    refine Lkk (T := T) lt2 rfl rfl rfl rfl ⟨rfl, rfl⟩ rfl rfl ?_
    refine G (T := T) 76 rfl ?_
    refine Iq (T := T) f.body.length rfl rfl rfl rfl rfl ⟨rfl, rfl⟩ rfl (by omega) rfl ?_
    refine G9 rfl (Sr (T := T) (hlast _) rfl rfl rfl rfl rfl rfl rfl ⟨rfl, rfl⟩ rfl rfl ?_)
    rw [hsl _ _ (by rfl)]
    refine G9 rfl (Skk (T := T) lt2 rfl rfl rfl rfl rfl rfl rfl ⟨rfl, rfl⟩ rfl rfl ?_)
    refine G9 rfl (MS.fz9 6 rfl ?_)
    refine MS.fz9 7 rfl ((SRto.kr 5 rfl rfl rfl rfl).e ?_)
    refine MS.fz9 5 rfl (MS.fz9 4 rfl ?_)
    refine MS.fz9 3 rfl ?_
    have h9 := fin1 (f' := ⟨f.nm, f.ps, f.res, f.body ++ [.mk k sn sy n es bd el cs], f.fl, f.x, f.y⟩) ⟨fo1, by first | omega | (dsimp only; omega), fun x hx => (fo3 x hx).mono (by omega), fo4, by first | omega | (dsimp only; omega), Sm.oks_append.2 ⟨fo6, so, trivial⟩, by rw [Sm.sizes_append]; simp only [Sm.sizes]; omega, fo8, fo9⟩ hfC
    simp only [fuD, aP, bc, List.map_append, List.map_cons, List.map_nil] at h9
    exact Fp (T := T) _ h9 rfl rfl
end
section
open Go Go.RowKit Go.Proofs K
variable {pk : Pk}
def fiI : Option Nat → Int
  | some i => (i : Nat)
  | none => -1
theorem pP {p : Pg} (hl : p.fs.length ≤ 1000000000) (s : ByteArray) : XQ Tryz.prog pk 24 [xd (pgD p), xs s] (xi (fiI (al (p.fs.map (·.nm)) s))) := by
  refine XQ.en Tryz.func24 Tryz.ntmps24 (fun w0 own H V v0 hf => ?_)
  refine G (T := T) 100001 rfl ?_
  refine (FzTo.bz 0 rfl).c ?_
  refine G9 rfl (Lq [1, 2] (fun q r => (4, xi 0) :: (5, xi (q : Nat)) :: r) (fun q => []) 1 (fun q => q ≤ p.fs.length ∧ ∀ x ∈ (p.fs.map (·.nm)).take q, decide (x = s) = false) (fun q => p.fs.length - q) 0 rfl ⟨Nat.zero_le _, fun x hx => by cases hx⟩ ?_)
  rintro j ⟨hj, hI⟩
  refine G9 rfl (If rfl (fun h => ?_) (fun h => ?_)); {
  have hjl := of_decide_eq_true h; rw [List.length_map] at hjl
  obtain ⟨y, hy⟩ := ai (l := p.fs) (j := j) (by omega)
  have hy2 : (p.fs.map (·.nm))[j]? = some y.nm := ab hy
  refine G9 rfl (Ix (T := T) j (ab (f := fuD) hy) rfl rfl rfl rfl ⟨rfl, rfl⟩ rfl rfl ?_)
  refine G9 rfl (If rfl (fun h => ?_) (fun h => ?_)); {
  refine G9 rfl ?_
  exact Fe (T := T) rfl (congrArg xi (by rw [mJ hI hy2 h]; rfl))}; {
  refine G9 rfl ?_
  exact Nq (j + 1) ⟨by omega, dp hI hy2 h⟩ (by show _ - (j + 1) < _ - j; omega)}}; {
  have hjl := of_decide_eq_false h; rw [List.length_map] at hjl
  refine G9 rfl ?_
  rw [List.take_of_length_le (by rw [List.length_map]; omega)] at hI
  exact Fe (T := T) rfl (congrArg xi (by rw [kQ hI]; rfl))}
theorem qx {p : Pg} (hl : p.gs.length ≤ 1000000000) (s : ByteArray) : XQ Tryz.prog pk 167 [xd (pgD p), xs s] (xi (fiI (al (p.gs.map (·.nm)) s))) := by
  refine XQ.en Tryz.func167 Tryz.ntmps167 (fun w0 own H V v0 hf => ?_)
  refine G (T := T) 100001 rfl ?_
  refine (FzTo.bz 0 rfl).c ?_
  refine G9 rfl (Lq [1, 2] (fun q r => (4, xi 0) :: (5, xi (q : Nat)) :: r) (fun q => []) 1 (fun q => q ≤ p.gs.length ∧ ∀ x ∈ (p.gs.map (·.nm)).take q, decide (x = s) = false) (fun q => p.gs.length - q) 0 rfl ⟨Nat.zero_le _, fun x hx => by cases hx⟩ ?_)
  rintro j ⟨hj, hI⟩
  refine G9 rfl (If rfl (fun h => ?_) (fun h => ?_)); {
  have hjl := of_decide_eq_true h; rw [List.length_map] at hjl
  obtain ⟨y, hy⟩ := ai (l := p.gs) (j := j) (by omega)
  have hy2 : (p.gs.map (·.nm))[j]? = some y.nm := ab hy
  refine G9 rfl (Ix (T := T) j (ab (f := gbD) hy) rfl rfl rfl rfl ⟨rfl, rfl⟩ rfl rfl ?_)
  refine G9 rfl (If rfl (fun h => ?_) (fun h => ?_)); {
  refine G9 rfl ?_
  exact Fe (T := T) rfl (congrArg xi (by rw [mJ hI hy2 h]; rfl))}; {
  refine G9 rfl ?_
  exact Nq (j + 1) ⟨by omega, dp hI hy2 h⟩ (by show _ - (j + 1) < _ - j; omega)}}; {
  have hjl := of_decide_eq_false h; rw [List.length_map] at hjl
  refine G9 rfl ?_
  rw [List.take_of_length_le (by rw [List.length_map]; omega)] at hI
  exact Fe (T := T) rfl (congrArg xi (by rw [kQ hI]; rfl))}
theorem dgL_le : ∀ (k n : Nat), n < 10 ^ (k + 1) → (dgL n).length ≤ k + 1
  | 0, n, h => by rw [nN (by omega)]; exact Nat.le_refl _
  | k + 1, n, h => by
    by_cases h9 : n < 10; {
    rw [nN h9]; show 1 ≤ _; omega}; {
    rw [dgL_ge h9, List.length_append]
    have := dgL_le k (n / 10) (by rw [Nat.pow_succ] at h; omega)
    show _ + 1 ≤ _; omega}
theorem pQ : ∀ (k n : Nat), n < 10 ^ (k + 1) → k ≤ 18 → n ≤ 9223372036854775807 → XQ Tryz.prog pk 27 [xi (n : Nat)] (xs (dgB n)) := by
  intro k
  induction k with
  | zero =>
    intro n h _ _
    have := ec (pk := pk) (n := n) (by omega)
    rw [dgB, nN (by omega)]
    exact this
  | succ k ih =>
    intro n h hk hn
    by_cases h9 : n < 10
    · have := ec (pk := pk) (n := n) (by omega)
      rw [dgB, nN (by omega)]
      exact this
    have h10 : n / 10 < 10 ^ (k + 1) := by rw [Nat.pow_succ] at h; omega
    have hc := ih (n / 10) h10 (by omega) (by omega)
    have hsz := oU (n / 10)
    have hs1 : (⟨#[dg1 (n % 10)]⟩ : ByteArray).size = 1 := rfl
    have hln := dgL_le k (n / 10) h10
    refine XQ.en Tryz.func27 Tryz.ntmps27 (fun w0 own H V v0 hf => ?_)
    have t1 : 0 ≤ (n : Int).tmod 10 ∧ (n : Int).tmod 10 < 10 := ⟨Int.tmod_nonneg 10 (Int.natCast_nonneg n), Int.tmod_lt_of_pos (n : Int) (by omega)⟩
    have t2 := tdiv10 n
    refine G (T := T) 9 rfl ?_
    rw [kI n]
    refine Cd (T := T) [dg1 (n % 10)] rfl rfl rfl rfl rfl rfl ⟨rfl, rfl⟩ ?_
    refine G9 rfl (IfF rfl (decide_eq_false (by omega)) ?_)
    refine G (T := T) 15 rfl ?_
    rw [tdiv10]
    refine G9 rfl (Cq hc rfl rfl rfl rfl rfl ⟨rfl, rfl⟩ ?_)
    refine G9 rfl ?_
    exact Fe (T := T) rfl (congrArg xs (by
      show _ = (⟨(dgL n).toArray⟩ : ByteArray)
      rw [dgL_ge h9]
      apply ByteArray.ext
      simp [dgB]))
theorem pT {n : Int} (h0 : 0 ≤ n) (h1 : n ≤ 9223372036854775807) : XQ Tryz.prog pk 27 [xi n] (xs (dgB n.toNat)) ∧ (dgB n.toNat).size ≤ 19 := by
  obtain ⟨k, rfl⟩ := Int.eq_ofNat_of_zero_le h0
  have hk : k < 10 ^ (18 + 1) := by omega
  exact ⟨pQ 18 k hk (Nat.le_refl _) (by omega), by rw [oU]; exact dgL_le 18 k hk⟩
abbrev p0R : XV := .a (.c (.p 0 0 0))
abbrev scB (p : Pg) (v n : Nat) (N : List (List D)) (m : Nat) (M : List (List D)) : XH := [⟨0, 0, .cells [.d (.s (p.ts.map tdD)), .d (.s (p.gs.map gbD)), .d (.s (p.fs.map fuD)), .l 1 v 1 0 n n, .l 2 v 4 0 m m] 266⟩, ⟨1, v, .row n N 9 1⟩, ⟨2, v, .row m M 55 4⟩]
theorem sc_add {p : Pg} {n m : Nat} {N M : List (List D)} (hn : n ≤ 1000000000000) (hm : M.length = m) (hmn : m = n) {s : ByteArray} {t : Ty4} : XM Tryz.prog pk 172 [p0R, xs s, xd (tyD t)] (scB p 0 n N m M) 3 3 (fun r hp' => r = .t [] ∧ hp' = scB p 1 (n + 1) (N ++ [bH s]) (m + 1) (M ++ [tyD t])) := by
  obtain ⟨k, nm, a, ks⟩ := t
  rw [nA]
  refine XM.en Tryz.func172 Tryz.ntmps172 (fun w0 own H V v0 hf => ?_)
  refine G9 rfl ?_
  subst hm
  refine Iq (T := T) M.length rfl rfl rfl rfl rfl ⟨rfl, rfl⟩ rfl (by omega) rfl ?_
  refine Sr (T := T) (by rw [List.getElem?_append_right (Nat.le_refl _), Nat.sub_self]; rfl) rfl rfl rfl rfl rfl rfl rfl ⟨rfl, rfl⟩ rfl rfl ?_
  rw [jm (by rfl)]
  refine G9 rfl (Fm (T := T) (fun g => g) (.t []) (scB p 1 (n + 1) (N ++ [bH s]) (M.length + 1) (M ++ [[.c (.int .i64 k), .c (.string nm), .c (.int .i64 a), .s (ks.map tyD)]])) ⟨rfl, rfl⟩ rfl)
def letF : Sm ⊕ Ex → Option (ByteArray × Ty4)
  | .inl s => if smK s = 1 then some (gJ s, sty s) else none
  | .inr _ => none
def aS (l : List Sm) : List (ByteArray × Ty4) := (au l).filterMap letF
def dT (l : List (List Sm)) : List (ByteArray × Ty4) := (aY l).filterMap letF
theorem lets_ex (l : List Ex) : (l.map (Sum.inr : Ex → Sm ⊕ Ex)).filterMap letF = [] := by
  induction l with
  | nil => rfl
  | cons e r ih => rw [List.map_cons, List.filterMap_cons]; exact ih
theorem gV (k : Int) (nm : ByteArray) (t : Ty4) (n : Int) (es : List Ex) (b el : List Sm) (cs : List (List Sm)) (r : List Sm) : aS (.mk k nm t n es b el cs :: r) = ((if k = 1 then [(nm, t)] else []) ++ aS b ++ dT cs ++ aS el) ++ aS r := by
  unfold aS dT
  rw [au, evS, List.filterMap_append, List.filterMap_cons, List.filterMap_append, List.filterMap_append, List.filterMap_append, lets_ex]
  have e : letF (.inl (.mk k nm t n es b el cs)) = if k = 1 then some (nm, t) else none := rfl
  rw [e]
  by_cases hk : k = 1; {
  rw [if_pos hk, if_pos hk]; simp}; {
  rw [if_neg hk, if_neg hk]; simp}
theorem gW (c : List Sm) (r : List (List Sm)) : dT (c :: r) = aS c ++ dT r := by
  unfold aS dT
  rw [aY, List.filterMap_append]
theorem iV : ∀ (l r : List Sm), aS (l ++ r) = aS l ++ aS r
  | [], r => rfl
  | .mk k nm t n es b el cs :: l, r => by rw [List.cons_append, gV, gV, iV l r, List.append_assoc (_ ++ aS el)]
theorem iW : ∀ (l r : List (List Sm)), dT (l ++ r) = dT l ++ dT r
  | [], r => rfl
  | c :: l, r => by rw [List.cons_append, gW, gW, iW l r, List.append_assoc]
theorem qy {l : List Sm} {j : Nat} {k : Int} {nm : ByteArray} {t : Ty4} {n : Int} {es : List Ex} {b el : List Sm} {cs : List (List Sm)} (h : l[j]? = some (.mk k nm t n es b el cs)) : aS (l.take (j + 1)) = aS (l.take j) ++ ((if k = 1 then [(nm, t)] else []) ++ aS b ++ dT cs ++ aS el) := by
  rw [List.take_add_one, h, iV]
  show _ ++ aS [_] = _
  rw [gV]
  show _ ++ (_ ++ []) = _
  rw [List.append_nil]
theorem qz {l : List (List Sm)} {j : Nat} {c : List Sm} (h : l[j]? = some c) : dT (l.take (j + 1)) = dT (l.take j) ++ aS c := by
  rw [List.take_add_one, h, iW]
  show _ ++ dT [_] = _
  rw [gW]
  show _ ++ (_ ++ []) = _
  rw [List.append_nil]
mutual
theorem lets_lenS : ∀ s : Sm, ((evS s).filterMap letF).length ≤ s.size
  | .mk k nm t n es b el cs => by
    have h1 := dI b
    have h2 := dI el
    have h3 := hY cs
    rw [evS, List.filterMap_cons, List.filterMap_append, List.filterMap_append, List.filterMap_append, lets_ex, Sm.size]
    split; {
    simp only [List.nil_append, List.length_append]; omega}; {
    simp only [List.nil_append, List.length_append, List.length_cons]; omega}
theorem dI : ∀ l : List Sm, ((au l).filterMap letF).length ≤ Sm.sizes l
  | [] => Nat.le_refl _
  | s :: r => by
    have h1 := lets_lenS s
    have h2 := dI r
    rw [au, List.filterMap_append, List.length_append, Sm.sizes]; omega
theorem hY : ∀ l : List (List Sm), ((aY l).filterMap letF).length ≤ Sm.csizes l
  | [] => Nat.le_refl _
  | s :: r => by
    have h1 := dI s
    have h2 := hY r
    rw [aY, List.filterMap_append, List.length_append, Sm.csizes]; omega
end
theorem gh (l : List Sm) : (aS l).length ≤ Sm.sizes l := dI l
abbrev lnR (l : List (ByteArray × Ty4)) : List (List D) := l.map fun y => bH y.1
abbrev ltR (l : List (ByteArray × Ty4)) : List (List D) := l.map fun y => tyD y.2
abbrev scL (p : Pg) (v : Nat) (l : List (ByteArray × Ty4)) : XH := scB p v l.length (lnR l) l.length (ltR l)
theorem sc_addL {p : Pg} {l : List (ByteArray × Ty4)} (hn : l.length ≤ 1000000000000) {s : ByteArray} {t : Ty4} : XM Tryz.prog pk 172 [p0R, xs s, xd (tyD t)] (scL p 0 l) 3 3 (fun r hp' => r = .t [] ∧ hp' = scL p 1 (l ++ [(s, t)])) := by
  have h := sc_add (pk := pk) (p := p) (n := l.length) (m := l.length) (N := lnR l) (M := ltR l) (s := s) (t := t) hn (by rw [List.length_map]) rfl
  have e1 : (l ++ [(s, t)]).length = l.length + 1 := by rw [List.length_append]; rfl
  have e2 : lnR (l ++ [(s, t)]) = lnR l ++ [bH s] := by rw [lnR, List.map_append]; rfl
  have e3 : ltR (l ++ [(s, t)]) = ltR l ++ [tyD t] := by rw [ltR, List.map_append]; rfl
  show XM _ _ _ _ _ _ _ (fun r hp' => r = .t [] ∧ hp' = scB p 1 (l ++ [(s, t)]).length (lnR (l ++ [(s, t)])) (l ++ [(s, t)]).length (ltR (l ++ [(s, t)])))
  rw [e1, e2, e3]
  exact h
theorem Sm.sizes_tk : ∀ {l : List Sm} {j : Nat} {y : Sm}, l[j]? = some y → Sm.sizes (l.take j) + y.size ≤ Sm.sizes l
  | x :: r, 0, y, h => by cases h; show 0 + _ ≤ _; rw [Sm.sizes]; omega
  | x :: r, j + 1, y, h => by
    have := Sm.sizes_tk (l := r) (j := j) (y := y) (by simpa using h)
    rw [List.take_succ_cons, Sm.sizes, Sm.sizes]; omega
theorem Sm.csizes_tk : ∀ {l : List (List Sm)} {j : Nat} {y : List Sm}, l[j]? = some y → Sm.csizes (l.take j) + Sm.sizes y + 1 ≤ Sm.csizes l
  | x :: r, 0, y, h => by cases h; show 0 + _ + 1 ≤ _; rw [Sm.csizes]; omega
  | x :: r, j + 1, y, h => by
    have := Sm.csizes_tk (l := r) (j := j) (y := y) (by simpa using h)
    rw [List.take_succ_cons, Sm.csizes, Sm.csizes]; omega
theorem nh (l : List (List Sm)) : (dT l).length ≤ Sm.csizes l := hY l
theorem sc_lets {p : Pg} : ∀ (m : Nat), m ≤ 100000000000 → ∀ {l : List Sm}, Sm.sizes l ≤ m → ∀ {q : List (ByteArray × Ty4)}, q.length + Sm.sizes l ≤ 1000000000000 → XM Tryz.prog pk 173 [p0R, xr (l.map smD)] (scL p 0 q) 3 3 (fun r hp' => r = .t [] ∧ hp' = scL p 1 (q ++ aS l)) := by
  intro m
  induction m with
  | zero =>
    intro _ l hs q hq
    cases l with
    | cons e r => have := e.size_pos; simp only [Sm.sizes] at hs; omega
    | nil =>
      rw [show q ++ aS [] = q from List.append_nil q]
      refine XM.en Tryz.func173 Tryz.ntmps173 (fun w0 own H V v0 hf => ?_)
      refine G9 rfl (Un 1 ?_)
      refine G9 rfl (IfF rfl rfl ?_)
      refine G9 rfl (Fm (T := T) (fun g => g) (.t []) (scL p 1 q) ⟨rfl, rfl⟩ rfl)
  | succ m ih =>
  intro hm l hs q hq
  have hlen := Sm.slen_le l
  refine XM.en Tryz.func173 Tryz.ntmps173 (fun w0 own H V v0 hf => ?_)
  refine G9 rfl (Lq [0, 1] (fun (u : Nat × List (ByteArray × Ty4)) r => (4, xi (u.1 : Nat)) :: r) (fun u => scL p 1 u.2) 3 (fun u => u.1 ≤ l.length ∧ u.2 = q ++ aS (l.take u.1)) (fun u => l.length - u.1) (0, q) rfl ⟨Nat.zero_le _, (List.append_nil q).symm⟩ ?_)
  rintro ⟨j, S⟩ ⟨hj, hS⟩; dsimp only at hj hS ⊢
  refine G9 rfl (If rfl (fun h => ?_) (fun h => ?_)); {
  have hjl := of_decide_eq_true h; rw [List.length_map] at hjl
  obtain ⟨y, hy⟩ := ai (l := l) (j := j) (by omega)
  have hys := Sm.size_mem (List.mem_of_getElem? hy)
  have hst := Sm.sizes_tk hy
  have hSl : S.length ≤ q.length + Sm.sizes (l.take j) := by
    have h1 := gh (l.take j)
    rw [hS, List.length_append]; omega
  obtain ⟨k, nm, t, n, es, b, el, cs⟩ := y
  simp only [Sm.size] at hys hst
  have hstep := qy hy
  have hbl := gh b
  refine G9 rfl (Ix (T := T) j (ab (f := smD) hy) rfl rfl rfl rfl ⟨rfl, rfl⟩ rfl rfl ?_)
  refine G9 rfl (Cf [0, 1, 4] (fun (u : List (ByteArray × Ty4)) r => r) (fun u => scL p 1 u) 3 (fun u => u = S ++ (if k = 1 then [(nm, t)] else [])) rfl ?_ ?_); {
  refine If rfl (fun h => ?_) (fun h => ?_); {
  have hk : k = 1 := of_decide_eq_true h
  refine G9 rfl (Ix (T := T) j (ab (f := smD) hy) rfl rfl rfl rfl ⟨rfl, rfl⟩ rfl rfl ?_)
  refine G9 rfl (Ix (T := T) j (ab (f := smD) hy) rfl rfl rfl rfl ⟨rfl, rfl⟩ rfl rfl ?_)
  refine G9 rfl (Ckz [0, 1, 2] (scL p 2 (S ++ [(nm, t)])) (sc_addL (pk := pk) (p := p) (l := S) (s := nm) (t := t) (by omega)) rfl rfl rfl rfl rfl rfl rfl ⟨⟨rfl, rfl⟩, rfl⟩ rfl rfl ?_)
  refine G9 rfl (Dn (S ++ [(nm, t)]) (by rw [if_pos hk]))}; {
  have hk : ¬ k = 1 := of_decide_eq_false h
  refine G9 rfl (Dn S (by rw [if_neg hk, List.append_nil]))}}
  rintro U hU
  have hUl : U.length ≤ S.length + 1 := by rw [hU, List.length_append]; split <;> simp
  have key : ∀ {X : List Sm} {U : List (ByteArray × Ty4)}, Sm.sizes X ≤ m → U.length + Sm.sizes X ≤ 1000000000000 → XM Tryz.prog pk 173 [p0R, xr (X.map smD)] (scL p 0 U) 3 3 (fun r hp' => r = .t [] ∧ hp' = scL p 1 (U ++ aS X)) := fun h1 h2 => ih (by omega) h1 h2
  refine G9 rfl (Ix (T := T) j (ab (f := smD) hy) rfl rfl rfl rfl ⟨rfl, rfl⟩ rfl rfl ?_)
  rw [aP]
  refine G9 rfl (Ckz [0, 1, 2] (scL p 2 (U ++ aS b)) (key (X := b) (U := U) (by omega) (by omega)) rfl rfl rfl rfl rfl rfl rfl ⟨⟨rfl, rfl⟩, rfl⟩ rfl rfl ?_)
  refine G9 rfl (Lq [0, 1, 4] (fun (u : Nat × List (ByteArray × Ty4)) r => (5, xi (u.1 : Nat)) :: r) (fun u => scL p 1 u.2) 3 (fun u => u.1 ≤ cs.length ∧ u.2 = U ++ aS b ++ dT (cs.take u.1)) (fun u => cs.length - u.1) (0, U ++ aS b) rfl ⟨Nat.zero_le _, (List.append_nil _).symm⟩ ?_)
  rintro ⟨i, C⟩ ⟨hi, hC⟩; dsimp only at hi hC ⊢
  have hclen := Sm.sclen_le cs
  refine G9 rfl (Ix (T := T) j (ab (f := smD) hy) rfl rfl rfl rfl ⟨rfl, rfl⟩ rfl rfl ?_)
  rw [aP]
  refine G9 rfl (If rfl (fun h => ?_) (fun h => ?_)); {
  have hil := of_decide_eq_true h; rw [List.length_map] at hil
  obtain ⟨c, hc⟩ := ai (l := cs) (j := i) (by omega)
  have hcz := Sm.csizes_tk hc
  have hcl := nh (cs.take i)
  have hCl : C.length ≤ U.length + Sm.sizes b + Sm.csizes (cs.take i) := by
    rw [hC, List.length_append, List.length_append]; omega
  refine G9 rfl (Ix (T := T) j (ab (f := smD) hy) rfl rfl rfl rfl ⟨rfl, rfl⟩ rfl rfl ?_)
  rw [aP]
  refine G9 rfl (Ix (T := T) i (ab (f := blD) hc) rfl rfl rfl rfl ⟨rfl, rfl⟩ rfl rfl ?_)
  refine G9 rfl (Ckz [0, 1, 2] (scL p 2 (C ++ aS c)) (key (X := c) (U := C) (by omega) (by omega)) rfl rfl rfl rfl rfl rfl rfl ⟨⟨rfl, rfl⟩, rfl⟩ rfl rfl ?_)
  refine G9 rfl ?_
  exact Nq (i + 1, C ++ aS c) ⟨by show i + 1 ≤ _; omega, by show C ++ aS c = _; rw [qz hc, hC, List.append_assoc]⟩ (by show _ - (i + 1) < _ - i; omega)}; {
  have hil := of_decide_eq_false h; rw [List.length_map] at hil
  rw [List.take_of_length_le (by omega)] at hC
  have hcl := nh cs
  have hCl : C.length ≤ U.length + Sm.sizes b + Sm.csizes cs := by
    rw [hC, List.length_append, List.length_append]; omega
  refine G9 rfl (Ix (T := T) j (ab (f := smD) hy) rfl rfl rfl rfl ⟨rfl, rfl⟩ rfl rfl ?_)
  rw [aP]
  refine G9 rfl (Ckz [0, 1, 2] (scL p 2 (C ++ aS el)) (key (X := el) (U := C) (by omega) (by omega)) rfl rfl rfl rfl rfl rfl rfl ⟨⟨rfl, rfl⟩, rfl⟩ rfl rfl ?_)
  refine G9 rfl ?_
  refine Nq (j + 1, C ++ aS el) ⟨by show j + 1 ≤ _; omega, ?_⟩ (by show _ - (j + 1) < _ - j; omega)
  show C ++ aS el = _
  rw [hstep, hC, hU, hS]
  simp only [List.append_assoc]}}; {
  have hjl := of_decide_eq_false h; rw [List.length_map] at hjl
  rw [List.take_of_length_le (by omega)] at hS
  subst hS
  refine G9 rfl (Fm (T := T) (fun g => g) (.t []) (scL p 1 (q ++ aS l)) ⟨rfl, rfl⟩ rfl)}
end
section
open Go Go.RowKit Go.Proofs K
variable {pk : Pk}
abbrev fmB (p : Pg) (sc : List D) (t : ByteArray) (v n : Nat) (R : List (List D)) : XH := [⟨0, 0, .cells [.d (.s (p.ts.map tdD)), .d (.s (p.gs.map gbD)), .d (.s (p.fs.map fuD)), .d (.p sc), .d (.c (.string t)), .l 1 v 2 0 n n] 124⟩, ⟨1, v, .row n R 126 2⟩]
abbrev FmC (pk : Pk) (f : FuncId) (args : List XV) (p : Pg) (sc : List D) (t : ByteArray) (n : Nat) (R : List (List D)) (c : Nat) : Prop := XM Tryz.prog pk f (p0R :: args) (fmB p sc t 0 n R) 2 2 (fun r hp' => ∃ t' : ByteArray, t'.size ≤ t.size + c ∧ r = .t [] ∧ hp' = fmB p sc t' 0 n R)
section
variable {p : Pg} {sc : List D} {t : ByteArray} {n : Nat} {R : List (List D)}
theorem a7 {k : Int} (h0 : 0 ≤ k) (h1 : k ≤ 9223372036854775807) (ht : t.size ≤ 9000000000000000000) : FmC pk 156 [xi k] p sc t n R 20 := by
  obtain ⟨hd, hs⟩ := pT (pk := pk) h0 h1
  generalize dgB k.toNat = d at hd hs
  have h2 : (⟨#[44]⟩ : ByteArray).size = 1 := rfl
  have e1 : (t ++ d).size = t.size + d.size := ByteArray.size_append
  have e2 : (t ++ d ++ ⟨#[44]⟩).size = t.size + d.size + 1 := by rw [ByteArray.size_append, e1]; rfl
  refine XM.en Tryz.func156 Tryz.ntmps156 (fun w0 own H V v0 hf => ?_)
  refine G9 rfl (IfF rfl (decide_eq_false (by omega)) ?_)
  refine G9 rfl (Cq hd rfl rfl rfl rfl rfl ⟨rfl, rfl⟩ ?_)
  refine G9 rfl (Fm (T := T) (fun g => g) (.t []) (fmB p sc (t ++ d ++ ⟨#[44]⟩) 0 n R) ⟨t ++ d ++ ⟨#[44]⟩, by omega, rfl, rfl⟩ rfl)
theorem j8 {s : ByteArray} (hs : s.size ≤ 1000000) (ht : t.size ≤ 8000000000000000000) : FmC pk 157 [xs s] p sc t n R 1000020 := by
  refine XM.en Tryz.func157 Tryz.ntmps157 (fun w0 own H V v0 hf => ?_)
  refine G9 rfl (Cmc [0, 1] (a7 (pk := pk) (p := p) (sc := sc) (t := t) (n := n) (R := R) (k := (s.size : Nat)) (by omega) (by omega) (by omega)) rfl rfl rfl rfl rfl rfl rfl ⟨⟨rfl, rfl⟩, rfl⟩ ?_)
  rintro r hp' ⟨t1, h1, rfl, rfl⟩
  have e1 : (t1 ++ s).size = t1.size + s.size := ByteArray.size_append
  refine G9 rfl (Fm (T := T) (fun g => g) (.t []) (fmB p sc (t1 ++ s) 0 n R) ⟨t1 ++ s, by omega, rfl, rfl⟩ rfl)
theorem Ty4.sizes_tk : ∀ {l : List Ty4} {j : Nat} {y : Ty4}, l[j]? = some y → Ty4.sizes (l.take j) + y.size ≤ Ty4.sizes l
  | x :: r, 0, y, h => by cases h; show 0 + _ ≤ _; rw [Ty4.sizes]; omega
  | x :: r, j + 1, y, h => by
    have := Ty4.sizes_tk (l := r) (j := j) (y := y) (by simpa using h)
    rw [List.take_succ_cons, Ty4.sizes, Ty4.sizes]; omega
theorem Ty4.sizes_tk2 : ∀ {l : List Ty4} {j : Nat} {y : Ty4}, l[j]? = some y → Ty4.sizes (l.take (j + 1)) = Ty4.sizes (l.take j) + y.size
  | x :: r, 0, y, h => by cases h; show Ty4.sizes [x] = 0 + x.size; rw [Ty4.sizes, Ty4.sizes]; omega
  | x :: r, j + 1, y, h => by
    have := Ty4.sizes_tk2 (l := r) (j := j) (y := y) (by simpa using h)
    rw [List.take_succ_cons, List.take_succ_cons, Ty4.sizes, Ty4.sizes]; omega
theorem fm_typ : ∀ (m : Nat), m ≤ 1000000000000 → ∀ {y : Ty4}, y.size ≤ m → y.ok → ∀ {t : ByteArray}, t.size + 2000000 * y.size ≤ 8000000000000000000 → FmC pk 158 [xd (tyD y)] p sc t n R (2000000 * y.size) := by
  intro m
  induction m with
  | zero => intro _ y h; have := y.size_pos; omega
  | succ m ih =>
  rintro hm ⟨k, nm, a, ks⟩ hs ⟨o1, o2, o3, o4⟩ t ht
  have hsz : (Ty4.mk k nm a ks).size = Ty4.sizes ks + 1 := rfl
  have hkl := Ty4.len_le ks
  rw [nA]
  refine XM.en Tryz.func158 Tryz.ntmps158 (fun w0 own H V v0 hf => ?_)
  refine G (T := T) 100001 rfl ?_
  refine (FzTo.bz 2 rfl).c ?_
  refine G9 rfl (Cmc [0, 1] (a7 (pk := pk) o1.1 o1.2 (by omega)) rfl rfl rfl rfl rfl rfl rfl ⟨⟨rfl, rfl⟩, rfl⟩ ?_)
  rintro r hp' ⟨t1, h1, rfl, rfl⟩
  refine G9 rfl (Cmc [0, 1] (j8 (pk := pk) o2 (by omega)) rfl rfl rfl rfl rfl rfl rfl ⟨⟨rfl, rfl⟩, rfl⟩ ?_)
  rintro r hp' ⟨t2, h2, rfl, rfl⟩
  refine G9 rfl (Cmc [0, 1] (a7 (pk := pk) o3.1 o3.2 (by omega)) rfl rfl rfl rfl rfl rfl rfl ⟨⟨rfl, rfl⟩, rfl⟩ ?_)
  rintro r hp' ⟨t3, h3, rfl, rfl⟩
  refine G9 rfl ?_
  refine Cmc [0, 1] (a7 (pk := pk) (k := ((ks.map tyD).length : Nat)) (by omega) (by rw [List.length_map]; omega) (by omega)) rfl rfl rfl rfl rfl rfl rfl ⟨⟨rfl, rfl⟩, rfl⟩ ?_
  rintro r hp' ⟨t4, h4, rfl, rfl⟩
  refine G9 rfl ?_
  refine Lq [0, 3] (fun (u : Nat × ByteArray) r => (4, xi (u.1 : Nat)) :: r) (fun u => fmB p sc u.2 0 n R) 3 (fun u => u.1 ≤ ks.length ∧ u.2.size ≤ t.size + 1000080 + 2000000 * Ty4.sizes (ks.take u.1)) (fun u => ks.length - u.1) (0, t4) rfl ⟨Nat.zero_le _, by show t4.size ≤ _ + 2000000 * 0; omega⟩ ?_
  rintro ⟨j, T'⟩ ⟨hj, hT⟩; dsimp only at hj hT ⊢
  refine G9 rfl (If rfl (fun h => ?_) (fun h => ?_)); {
  have hjl := of_decide_eq_true h; rw [List.length_map] at hjl
  obtain ⟨y, hy⟩ := ai (l := ks) (j := j) (by omega)
  have hst := Ty4.sizes_tk hy
  have hst2 := Ty4.sizes_tk2 hy
  refine G9 rfl (Ix (T := T) j (ab (f := tyD) hy) rfl rfl rfl rfl ⟨rfl, rfl⟩ rfl rfl ?_)
  refine G9 rfl (Cmc [0, 1] (ih (by omega) (y := y) (by omega) (Ty4.oks_mem o4 (List.mem_of_getElem? hy)) (t := T') (by omega)) rfl rfl rfl rfl rfl rfl rfl ⟨⟨rfl, rfl⟩, rfl⟩ ?_)
  rintro r hp' ⟨t5, h5, rfl, rfl⟩
  refine G9 rfl ?_
  exact Nq (j + 1, t5) ⟨by show j + 1 ≤ _; omega, by show t5.size ≤ t.size + 1000080 + 2000000 * Ty4.sizes (ks.take (j + 1)); omega⟩ (by show _ - (j + 1) < _ - j; omega)}; {
  have hjl := of_decide_eq_false h; rw [List.length_map] at hjl
  rw [List.take_of_length_le (by omega)] at hT
  refine G9 rfl (Fm (T := T) (fun g => g) (.t []) (fmB p sc T' 0 n R) ⟨T', by omega, rfl, rfl⟩ rfl)}
end
theorem qA {l : List ByteArray} (hl : l.length ≤ 1000000000000) (s : ByteArray) : XQ Tryz.prog pk 96 [xs s, xr (l.map bH)] (xb (aN s l)) := by
  refine XQ.en Tryz.func96 Tryz.ntmps96 (fun w0 own H V v0 hf => ?_)
  refine G9 rfl (Lq [0, 1] (fun q r => (4, xb false) :: (5, xi (q : Nat)) :: r) (fun q => []) 0 (fun q => q ≤ l.length ∧ (l.take q).any (fun x => decide (x = s)) = false) (fun q => l.length - q) 0 rfl ⟨Nat.zero_le _, rfl⟩ ?_)
  rintro j ⟨hj, hI⟩
  refine G9 rfl (If rfl (fun h => ?_) (fun h => ?_)); {
  have hjl := of_decide_eq_true h; rw [List.length_map] at hjl
  obtain ⟨y, hy⟩ := ai (l := l) (j := j) (by omega)
  refine G9 rfl (Ix (T := T) j (ab hy) rfl rfl rfl rfl ⟨rfl, rfl⟩ rfl rfl ?_)
  refine G9 rfl (If rfl (fun h => ?_) (fun h => ?_)); {
  refine G9 rfl ?_
  exact Fe (T := T) rfl (congrArg xb (List.any_eq_true.2 ⟨y, List.mem_of_getElem? hy, h⟩).symm)}; {
  refine G9 rfl ?_
  exact Nq (j + 1) ⟨by omega, d8 hI hy h⟩ (by show _ - (j + 1) < _ - j; omega)}}; {
  have hjl := of_decide_eq_false h; rw [List.length_map] at hjl
  refine G9 rfl ?_
  rw [List.take_of_length_le (by omega)] at hI
  exact Fe (T := T) rfl (congrArg xb hI.symm)}
abbrev scD (p : Pg) (L : List (ByteArray × Ty4)) : List D := [.s (p.ts.map tdD), .s (p.gs.map gbD), .s (p.fs.map fuD), .s (lnR L), .s (ltR L)]
abbrev fmL (p : Pg) (L : List (ByteArray × Ty4)) (t : ByteArray) (v : Nat) (Q : List Rf) : XH := fmB p (scD p L) t v Q.length (Q.map rfD)
section
variable {p : Pg} {L : List (ByteArray × Ty4)} {t : ByteArray} {Q : List Rf}
theorem lnR_str : lnR L = (L.map (·.1)).map bH := by rw [List.map_map]; rfl
theorem fm_local (hL : L.length ≤ 1000000000000) (s : ByteArray) : XM Tryz.prog pk 220 [p0R, xs s] (fmL p L t 0 Q) 2 2 (fun r hp' => r = xb (aN s (L.map (·.1))) ∧ hp' = fmL p L t 0 Q) := by
  have ha := qA (pk := pk) (l := L.map (·.1)) (by rw [List.length_map]; exact hL) s
  rw [← lnR_str] at ha
  refine XM.en Tryz.func220 Tryz.ntmps220 (fun w0 own H V v0 hf => ?_)
  refine G9 rfl (Cq ha rfl rfl rfl rfl rfl ⟨rfl, rfl⟩ ?_)
  refine G9 rfl (Fm (T := T) (fun g => g) (xb (aN s (L.map (·.1)))) (fmL p L t 0 Q) ⟨rfl, rfl⟩ rfl)
def cd (p : Pg) (loc : List ByteArray) (l : List Ex) : List Rf := (aF l).filterMap (aH p loc)
theorem hZ {loc : List ByteArray} : ∀ {l : List Ex} {j : Nat} {y : Ex}, l[j]? = some y → cd p loc (l.take (j + 1)) = cd p loc (l.take j) ++ cd p loc [y]
  | x :: r, 0, y, h => by cases h; rfl
  | x :: r, j + 1, y, h => by
    have ih := hZ (loc := loc) (l := r) (j := j) (y := y) (by simpa using h)
    unfold cd at ih ⊢
    rw [List.take_succ_cons, List.take_succ_cons, aF, aF, List.filterMap_append, List.filterMap_append, ih, List.append_assoc]
theorem Ex.sizes_tk : ∀ {l : List Ex} {j : Nat} {y : Ex}, l[j]? = some y → Ex.sizes (l.take j) + y.size ≤ Ex.sizes l
  | x :: r, 0, y, h => by cases h; show 0 + _ ≤ _; rw [Ex.sizes]; omega
  | x :: r, j + 1, y, h => by
    have := Ex.sizes_tk (l := r) (j := j) (y := y) (by simpa using h)
    rw [List.take_succ_cons, Ex.sizes, Ex.sizes]; omega
theorem Ex.sizes_tk2 : ∀ {l : List Ex} {j : Nat} {y : Ex}, l[j]? = some y → Ex.sizes (l.take (j + 1)) = Ex.sizes (l.take j) + y.size
  | x :: r, 0, y, h => by cases h; show Ex.sizes [x] = 0 + x.size; rw [Ex.sizes, Ex.sizes]; omega
  | x :: r, j + 1, y, h => by
    have := Ex.sizes_tk2 (l := r) (j := j) (y := y) (by simpa using h)
    rw [List.take_succ_cons, List.take_succ_cons, Ex.sizes, Ex.sizes]; omega
mutual
theorem qB {loc : List ByteArray} : ∀ e : Ex, ((evE e).filterMap (aH p loc)).length ≤ e.size
  | .mk k nm n ks => by
    have := db (loc := loc) ks
    rw [evE, Ex.size, List.filterMap_cons]
    split; {
    omega}; {
    rw [List.length_cons]; omega}
theorem db {loc : List ByteArray} : ∀ l : List Ex, ((aF l).filterMap (aH p loc)).length ≤ Ex.sizes l
  | [] => Nat.le_refl _
  | e :: r => by
    have := qB (loc := loc) e
    have := db (loc := loc) r
    rw [aF, List.filterMap_append, List.length_append, Ex.sizes]; omega
end
theorem refsE_mk {loc : List ByteArray} (k : Int) (nm : ByteArray) (n : Int) (ks : List Ex) : cd p loc [.mk k nm n ks] = (aH p loc (.mk k nm n ks)).toList ++ cd p loc ks := by
  unfold cd
  rw [aF, evE, aF, List.append_nil, List.filterMap_cons]
  cases aH p loc (.mk k nm n ks) <;> rfl
theorem fm_expr (hL : L.length ≤ 1000000000000) (hp : p.fs.length ≤ 1000000000) (hg : p.gs.length ≤ 1000000000) : ∀ (m : Nat), m ≤ 1000000000000 → ∀ {e : Ex}, e.size ≤ m → e.ok → ∀ {t : ByteArray} {Q : List Rf}, t.size + 3000000 * e.size ≤ 8000000000000000000 → Q.length + e.size ≤ 1000000000000 →
    XM Tryz.prog pk 198 [p0R, xd (exD e)] (fmL p L t 0 Q) 2 2 (fun r hp' => ∃ t' : ByteArray, t'.size ≤ t.size + 3000000 * e.size ∧ r = .t [] ∧ hp' = fmL p L t' 1 (Q ++ cd p (L.map (·.1)) [e])) := by
  intro m
  induction m with
  | zero => intro _ e h; have := e.size_pos; omega
  | succ m ih =>
  rintro hm ⟨k, nm, a, ks⟩ hs ⟨o1, o2, o3, o4⟩ t Q ht hQ
  have hsz : (Ex.mk k nm a ks).size = Ex.sizes ks + 1 := rfl
  have hkl := Ex.len_le ks
  have hrm := refsE_mk (p := p) (loc := L.map (·.1)) k nm a ks
  rw [bc]
  refine XM.en Tryz.func198 Tryz.ntmps198 (fun w0 own H V v0 hf => ?_)
  refine G (T := T) 100001 rfl ?_
  refine (FzTo.bz 2 rfl).c ?_
  refine G9 rfl (Cmc [0, 1] (a7 (pk := pk) o1.1 o1.2 (by omega)) rfl rfl rfl rfl rfl rfl rfl ⟨⟨rfl, rfl⟩, rfl⟩ ?_)
  rintro r hp' ⟨t1, h1, rfl, rfl⟩
  refine G9 rfl (Cmc [0, 1] (a7 (pk := pk) o3.1 (by omega) (by omega)) rfl rfl rfl rfl rfl rfl rfl ⟨⟨rfl, rfl⟩, rfl⟩ ?_)
  rintro r hp' ⟨t2, h2, rfl, rfl⟩
  refine G9 rfl (Cf [0, 3] (fun (u : Int) r => (4, xi u) :: r) (fun _ => fmL p L t2 0 Q) 2 (fun u => u = if k = 14 then fiI (al (p.fs.map (·.nm)) nm) else -1) rfl ?_ ?_)
  · refine If rfl (fun h => ?_) (fun h => ?_)
    · have hk : k = 14 := of_decide_eq_true h
      refine G9 rfl (Cq (pP (pk := pk) hp nm) rfl rfl rfl rfl rfl ⟨rfl, rfl⟩ ?_)
      refine G9 rfl (Dn _ (by rw [if_pos hk]))
    · have hk : ¬ k = 14 := of_decide_eq_false h
      refine G9 rfl (Dn _ (by rw [if_neg hk]))
  rintro u hu
  refine G9 rfl (Cmc [0, 1] (fm_local (pk := pk) hL nm) rfl rfl rfl rfl rfl rfl rfl ⟨⟨rfl, rfl⟩, rfl⟩ ?_)
  rintro r hp' ⟨rfl, rfl⟩
  refine Gs (T := T) 1000 rfl ?_
  have hval : (if (decide (k = 2) && !aN nm (L.map (·.1))) = true then fiI (al (p.gs.map (·.nm)) nm) else u) = fiI ((aH p (L.map (·.1)) (.mk k nm a ks)).map (·.2)) := by
    rw [hu]
    show _ = fiI (Option.map _ (if k = 14 then _ else if k = 2 then (if (L.map (·.1)).any (fun s => decide (s = nm)) then none else _) else none))
    have ham : aN nm (L.map (·.1)) = (L.map (·.1)).any (fun s => decide (s = nm)) := rfl
    rw [ham]
    by_cases h14 : k = 14
    · rw [if_pos h14, if_pos h14, if_neg (by rw [h14]; simp), Option.map_map]
      exact congrArg fiI (congrFun Option.map_id _).symm
    · rw [if_neg h14, if_neg h14]
      by_cases h2 : k = 2
      · rw [if_pos h2]
        cases (L.map (·.1)).any (fun s => decide (s = nm)) with
        | true => rw [if_neg (by simp)]; rfl
        | false =>
          rw [if_pos (by rw [h2]; rfl), if_neg (by simp), Option.map_map]
          exact congrArg fiI (congrFun Option.map_id _).symm
      · rw [if_neg h2, if_neg (by simp [h2])]; rfl
  refine Cf [0, 3] (fun (u : Int) r => (4, xi u) :: r) (fun _ => fmL p L t2 0 Q) 2 (fun u => u = fiI ((aH p (L.map (·.1)) (.mk k nm a ks)).map (·.2))) rfl ?_ ?_
  · refine If rfl (fun h => ?_) (fun h => ?_)
    · refine G9 rfl ?_
      refine Cq (qx (pk := pk) hg nm) rfl rfl rfl rfl rfl ⟨rfl, rfl⟩ ?_
      refine G9 rfl (Dn _ (by rw [← hval, if_pos h]))
    · refine G9 rfl ?_
      exact Dn _ (by rw [← hval, if_neg (by rw [h]; simp)])
  clear hval hu
  rintro w rfl
  have hb : ∀ r, aH p (L.map (·.1)) (.mk k nm a ks) = some r → r.1 = decide (k = 14) := by
    intro r hr
    have hr2 : (if k = 14 then (al (p.fs.map (·.nm)) nm).map (true, ·) else if k = 2 then (if (L.map (·.1)).any (fun s => decide (s = nm)) then none else (al (p.gs.map (·.nm)) nm).map (false, ·)) else none) = some r := hr
    by_cases h14 : k = 14
    · rw [if_pos h14] at hr2
      obtain ⟨i, _, rfl⟩ := Option.map_eq_some_iff.1 hr2
      exact (decide_eq_true h14).symm
    · rw [if_neg h14] at hr2
      split at hr2
      · split at hr2
        · cases hr2
        · obtain ⟨i, _, rfl⟩ := Option.map_eq_some_iff.1 hr2
          exact (decide_eq_false h14).symm
      · cases hr2
  generalize aH p (L.map (·.1)) (.mk k nm a ks) = rf at hrm hb ⊢
  refine G9 rfl ?_
  obtain ⟨Q2, hQ2⟩ : ∃ Q2, Q2 = Q ++ rf.toList := ⟨_, rfl⟩
  refine Cf [0, 3] (fun (u : ByteArray) r => r) (fun u => fmL p L u 1 Q2) 2 (fun u => u.size ≤ t2.size + 1000020) rfl ?_ ?_
  · cases rf with
    | some r =>
      obtain ⟨b, i⟩ := r
      have hb' : b = decide (k = 14) := hb _ rfl
      have e0 : (⟨#[63]⟩ : ByteArray).size = 1 := rfl
      have e1 : (t2 ++ ⟨#[63]⟩).size = t2.size + 1 := by rw [ByteArray.size_append]; rfl
      refine IfT rfl (decide_eq_true (by show (0 : Int) ≤ ((i : Nat) : Int); omega)) ?_
      refine G9 rfl ?_
      have e3 : fmL p L (t2 ++ ⟨#[63]⟩) 1 Q2 = fmB p (scD p L) (t2 ++ ⟨#[63]⟩) 1 (Q.length + 1) (Q.map rfD ++ [[.c (.bool (decide (k = 14))), .c (.int .i64 (i : Nat))]]) := by
        rw [hQ2, hb']
        show fmB p (scD p L) _ 1 (Q ++ [_]).length ((Q ++ [_]).map rfD) = _
        rw [List.length_append, List.map_append]; rfl
      exact Dn (t2 ++ ⟨#[63]⟩) (by rw [e1]; omega) (by
        show Mt _ _ _ ⟨_, fmL p L (t2 ++ ⟨#[63]⟩) 1 Q2, 2⟩ id
        rw [e3]; exact ⟨⟨_, _, rfl, rfl⟩, rfl, rfl⟩)
    | none =>
      have e2 : Q2 = Q := hQ2.trans (List.append_nil _)
      clear hQ2
      subst e2
      refine IfF rfl (decide_eq_false (by show ¬ (0 : Int) ≤ -1; omega)) ?_
      refine G9 rfl (Cmc [0, 1] (j8 (pk := pk) o2 (by omega)) rfl rfl rfl rfl rfl rfl rfl ⟨⟨rfl, rfl⟩, rfl⟩ ?_)
      rintro r hp' ⟨t3, h3, rfl, rfl⟩
      refine G9 rfl (Dn t3 h3)
  rintro t3 h3
  have hrl : rf.toList.length ≤ 1 := by cases rf <;> simp
  have key : ∀ {y : Ex} {t : ByteArray} {Q : List Rf}, y.size ≤ m → y.ok → t.size + 3000000 * y.size ≤ 8000000000000000000 → Q.length + y.size ≤ 1000000000000 → XM Tryz.prog pk 198 [p0R, xd (exD y)] (fmL p L t 0 Q) 2 2 (fun r hp' => ∃ t' : ByteArray, t'.size ≤ t.size + 3000000 * y.size ∧ r = .t [] ∧ hp' = fmL p L t' 1 (Q ++ cd p (L.map (·.1)) [y])) := fun h1 h2 h3 h4 => ih (by omega) h1 h2 h3 h4
  refine G9 rfl ?_
  refine Cmc [0, 1] (a7 (pk := pk) (t := t3) (n := Q2.length) (R := Q2.map rfD) (k := ((ks.map exD).length : Nat)) (by omega) (by rw [List.length_map]; omega) (by omega)) rfl rfl rfl rfl rfl rfl rfl ⟨⟨rfl, rfl⟩, rfl⟩ ?_
  rintro r hp' ⟨t4, h4, rfl, rfl⟩
  refine G9 rfl ?_
  refine Lq [0, 3] (fun (u : Nat × ByteArray × List Rf) r => (6, xi (u.1 : Nat)) :: r) (fun u => fmL p L u.2.1 1 u.2.2) 2 (fun u => u.1 ≤ ks.length ∧ u.2.1.size ≤ t.size + 2000080 + 3000000 * Ex.sizes (ks.take u.1) ∧ u.2.2 = Q ++ rf.toList ++ cd p (L.map (·.1)) (ks.take u.1)) (fun u => ks.length - u.1) (0, t4, Q2) rfl ⟨Nat.zero_le _, by show t4.size ≤ _ + 3000000 * 0; omega, hQ2.trans (List.append_nil _).symm⟩ ?_
  rintro ⟨j, T', S⟩ ⟨hj, hT, hS⟩; dsimp only at hj hT hS ⊢
  refine G9 rfl (If rfl (fun h => ?_) (fun h => ?_))
  · have hjl := of_decide_eq_true h; rw [List.length_map] at hjl
    obtain ⟨y, hy⟩ := ai (l := ks) (j := j) (by omega)
    have hst := Ex.sizes_tk hy
    have hst2 := Ex.sizes_tk2 hy
    have hSl : S.length ≤ Q.length + 1 + Ex.sizes (ks.take j) := by
      have h1 := db (p := p) (loc := L.map (·.1)) (ks.take j)
      rw [hS, List.length_append, List.length_append]; show _ + (cd p _ _).length ≤ _; unfold cd; omega
    refine G9 rfl (Ix (T := T) j (ab (f := exD) hy) rfl rfl rfl rfl ⟨rfl, rfl⟩ rfl rfl ?_)
    refine G9 rfl (Cmc [0, 1] (key (y := y) (t := T') (Q := S) (by omega) (Ex.oks_mem o4 (List.mem_of_getElem? hy)) (by omega) (by omega)) rfl rfl rfl rfl rfl rfl rfl ⟨⟨rfl, rfl⟩, rfl⟩ ?_)
    rintro r hp' ⟨t5, h5, rfl, rfl⟩
    refine G9 rfl ?_
    exact Nq (j + 1, t5, S ++ cd p (L.map (·.1)) [y]) ⟨by show j + 1 ≤ _; omega, by show t5.size ≤ t.size + 2000080 + 3000000 * Ex.sizes (ks.take (j + 1)); omega, by show _ = _ ++ cd p _ (ks.take (j + 1)); rw [hZ hy, hS, List.append_assoc, List.append_assoc]⟩ (by show _ - (j + 1) < _ - j; omega)
  · have hjl := of_decide_eq_false h; rw [List.length_map] at hjl
    rw [List.take_of_length_le (by omega)] at hT hS
    refine G9 rfl (Fm (T := T) (fun g => g) (.t []) (fmL p L T' 1 S) ⟨T', by omega, rfl, by rw [hrm, hS, List.append_assoc]⟩ rfl)
end
end
section
open Go Go.RowKit Go.Proofs K
variable {pk : Pk}
def refG (p : Pg) (loc : List ByteArray) : Sm ⊕ Ex → Option Rf
  | .inl _ => none
  | .inr e => aH p loc e
def bB (p : Pg) (loc : List ByteArray) (l : List Sm) : List Rf := (au l).filterMap (refG p loc)
def dJ (p : Pg) (loc : List ByteArray) (l : List (List Sm)) : List Rf := (aY l).filterMap (refG p loc)
section
variable {p : Pg} {loc : List ByteArray}
theorem refG_ex (l : List Ex) : (l.map (Sum.inr : Ex → Sm ⊕ Ex)).filterMap (refG p loc) = l.filterMap (aH p loc) := by
  induction l with
  | nil => rfl
  | cons e r ih =>
    rw [List.map_cons, List.filterMap_cons, List.filterMap_cons, ih]; rfl
theorem ia (k : Int) (nm : ByteArray) (t : Ty4) (n : Int) (es : List Ex) (b el : List Sm) (cs : List (List Sm)) (r : List Sm) : bB p loc (.mk k nm t n es b el cs :: r) = (cd p loc es ++ bB p loc b ++ dJ p loc cs ++ bB p loc el) ++ bB p loc r := by
  unfold bB dJ cd
  rw [au, evS, List.filterMap_append, List.filterMap_cons, List.filterMap_append, List.filterMap_append, List.filterMap_append, refG_ex]
  show (_ ++ (_ ++ (_ ++ _))) ++ _ = _
  simp only [List.append_assoc]
theorem ib (c : List Sm) (r : List (List Sm)) : dJ p loc (c :: r) = bB p loc c ++ dJ p loc r := by
  unfold bB dJ
  rw [aY, List.filterMap_append]
theorem iX : ∀ (l r : List Sm), bB p loc (l ++ r) = bB p loc l ++ bB p loc r
  | [], r => rfl
  | .mk k nm t n es b el cs :: l, r => by rw [List.cons_append, ia, ia, iX l r, List.append_assoc (_ ++ bB p loc el)]
theorem iY : ∀ (l r : List (List Sm)), dJ p loc (l ++ r) = dJ p loc l ++ dJ p loc r
  | [], r => rfl
  | c :: l, r => by rw [List.cons_append, ib, ib, iY l r, List.append_assoc]
theorem qC {l : List Sm} {j : Nat} {k : Int} {nm : ByteArray} {t : Ty4} {n : Int} {es : List Ex} {b el : List Sm} {cs : List (List Sm)} (h : l[j]? = some (.mk k nm t n es b el cs)) : bB p loc (l.take (j + 1)) = bB p loc (l.take j) ++ (cd p loc es ++ bB p loc b ++ dJ p loc cs ++ bB p loc el) := by
  rw [List.take_add_one, h, iX]
  show _ ++ bB p loc [_] = _
  rw [ia]
  show _ ++ (_ ++ []) = _
  rw [List.append_nil]
theorem qD {l : List (List Sm)} {j : Nat} {c : List Sm} (h : l[j]? = some c) : dJ p loc (l.take (j + 1)) = dJ p loc (l.take j) ++ bB p loc c := by
  rw [List.take_add_one, h, iY]
  show _ ++ dJ p loc [_] = _
  rw [ib]
  show _ ++ (_ ++ []) = _
  rw [List.append_nil]
mutual
theorem refs_lenS : ∀ s : Sm, ((evS s).filterMap (refG p loc)).length ≤ s.size
  | .mk k nm t n es b el cs => by
    have h0 := db (p := p) (loc := loc) es
    have h1 := dK b
    have h2 := dK el
    have h3 := ic cs
    rw [evS, List.filterMap_cons, List.filterMap_append, List.filterMap_append, List.filterMap_append, refG_ex, Sm.size]
    show List.length (_ ++ _) ≤ _
    simp only [List.length_append]; omega
theorem dK : ∀ l : List Sm, ((au l).filterMap (refG p loc)).length ≤ Sm.sizes l
  | [] => Nat.le_refl _
  | s :: r => by
    have h1 := refs_lenS s
    have h2 := dK r
    rw [au, List.filterMap_append, List.length_append, Sm.sizes]; omega
theorem ic : ∀ l : List (List Sm), ((aY l).filterMap (refG p loc)).length ≤ Sm.csizes l
  | [] => Nat.le_refl _
  | s :: r => by
    have h1 := dK s
    have h2 := ic r
    rw [aY, List.filterMap_append, List.length_append, Sm.csizes]; omega
end
theorem jA (l : List Sm) : (bB p loc l).length ≤ Sm.sizes l := dK l
theorem ni (l : List (List Sm)) : (dJ p loc l).length ≤ Sm.csizes l := ic l
theorem nj (l : List Ex) : (cd p loc l).length ≤ Ex.sizes l := db l
theorem Sm.sizes_tk2 : ∀ {l : List Sm} {j : Nat} {y : Sm}, l[j]? = some y → Sm.sizes (l.take (j + 1)) = Sm.sizes (l.take j) + y.size
  | x :: r, 0, y, h => by cases h; show Sm.sizes [x] = 0 + x.size; rw [Sm.sizes, Sm.sizes]; omega
  | x :: r, j + 1, y, h => by
    have := Sm.sizes_tk2 (l := r) (j := j) (y := y) (by simpa using h)
    rw [List.take_succ_cons, List.take_succ_cons, Sm.sizes, Sm.sizes]; omega
theorem Sm.csizes_tk2 : ∀ {l : List (List Sm)} {j : Nat} {y : List Sm}, l[j]? = some y → Sm.csizes (l.take (j + 1)) = Sm.csizes (l.take j) + Sm.sizes y + 1
  | x :: r, 0, y, h => by cases h; show Sm.csizes [x] = 0 + Sm.sizes x + 1; rw [Sm.csizes, Sm.csizes]; omega
  | x :: r, j + 1, y, h => by
    have := Sm.csizes_tk2 (l := r) (j := j) (y := y) (by simpa using h)
    rw [List.take_succ_cons, List.take_succ_cons, Sm.csizes, Sm.csizes]; omega
end
section
variable {p : Pg} {L : List (ByteArray × Ty4)}
theorem fm_stmts (hL : L.length ≤ 1000000000000) (hp : p.fs.length ≤ 1000000000) (hg : p.gs.length ≤ 1000000000) : ∀ (m : Nat), m ≤ 100000000000 → ∀ {l : List Sm}, Sm.sizes l = m → Sm.oks l → ∀ {t : ByteArray} {Q : List Rf}, t.size + 20 + 3000000 * Sm.sizes l ≤ 8000000000000000000 → Q.length + Sm.sizes l ≤ 1000000000000 →
    XM Tryz.prog pk 159 [p0R, xr (l.map smD)] (fmL p L t 0 Q) 2 2 (fun r hp' => ∃ t' : ByteArray, t'.size ≤ t.size + 20 + 3000000 * Sm.sizes l ∧ r = .t [] ∧ hp' = fmL p L t' 1 (Q ++ bB p (L.map (·.1)) l)) := by
  intro m
  induction m using Nat.strongRecOn with
  | _ m ih =>
  intro hm l hs ho t Q ht hQ
  subst hs
  have hlen := Sm.slen_le l
  refine XM.en Tryz.func159 Tryz.ntmps159 (fun w0 own H V v0 hf => ?_)
  refine G9 rfl ?_
  refine Cmc [0, 1] (a7 (pk := pk) (k := ((l.map smD).length : Nat)) (by omega) (by rw [List.length_map]; omega) (by omega)) rfl rfl rfl rfl rfl rfl rfl ⟨⟨rfl, rfl⟩, rfl⟩ ?_
  rintro r hp' ⟨t1, h1, rfl, rfl⟩
  refine G9 rfl ?_
  refine Lq [0, 1] (fun (u : Nat × ByteArray × List Rf) r => (4, xi (u.1 : Nat)) :: r) (fun u => fmL p L u.2.1 1 u.2.2) 2 (fun u => u.1 ≤ l.length ∧ u.2.1.size ≤ t.size + 20 + 3000000 * Sm.sizes (l.take u.1) ∧ u.2.2 = Q ++ bB p (L.map (·.1)) (l.take u.1)) (fun u => l.length - u.1) (0, t1, Q) rfl ⟨Nat.zero_le _, by show t1.size ≤ _ + 3000000 * 0; omega, (List.append_nil _).symm⟩ ?_
  rintro ⟨j, T', S⟩ ⟨hj, hT, hS⟩; dsimp only at hj hT hS ⊢
  refine G9 rfl (If rfl (fun h => ?_) (fun h => ?_)); {
  have hjl := of_decide_eq_true h; rw [List.length_map] at hjl
  obtain ⟨y, hy⟩ := ai (l := l) (j := j) (by omega)
  have hmem := List.mem_of_getElem? hy
  have hst := Sm.sizes_tk hy
  have hst2 := Sm.sizes_tk2 hy
  have hSl : S.length ≤ Q.length + Sm.sizes (l.take j) := by
    have h1 := jA (p := p) (loc := L.map (·.1)) (l.take j)
    rw [hS, List.length_append]; omega
  obtain ⟨k, nm, ty, n, es, b, el, cs⟩ := y
  obtain ⟨o1, o2, o3, o4, o5, o6, o7, o8⟩ := Sm.oks_mem ho hmem
  have hsz : (Sm.mk k nm ty n es b el cs).size = ty.size + Ex.sizes es + Sm.sizes b + Sm.sizes el + Sm.csizes cs + 1 := rfl
  have hstep := qC (p := p) (loc := L.map (·.1)) hy
  have hel := Ex.len_le es
  have hcl := Sm.clen_le cs
  have key : ∀ {X : List Sm} {t : ByteArray} {Q : List Rf}, Sm.sizes X < Sm.sizes l → Sm.oks X → t.size + 20 + 3000000 * Sm.sizes X ≤ 8000000000000000000 → Q.length + Sm.sizes X ≤ 1000000000000 →
    XM Tryz.prog pk 159 [p0R, xr (X.map smD)] (fmL p L t 0 Q) 2 2 (fun r hp' => ∃ t' : ByteArray, t'.size ≤ t.size + 20 + 3000000 * Sm.sizes X ∧ r = .t [] ∧ hp' = fmL p L t' 1 (Q ++ bB p (L.map (·.1)) X)) := fun h1 h2 h3 h4 => ih _ h1 (by omega) rfl h2 h3 h4
  have hx : (l.map smD)[j]? = some [.c (.int .i64 k), .c (.string nm), .c (.int .i64 (tk ty)), .c (.string (tnm ty)), .c (.int .i64 (tn ty)), .s (tyS ty), .c (.int .u16 n), .s (es.map exD), .s (b.map smD), .s (el.map smD), .s (cs.map blD)] := by rw [← aP]; exact ab hy
  refine G9 rfl (Ix (T := T) j hx rfl rfl rfl rfl ⟨rfl, rfl⟩ rfl rfl ?_)
  refine G (T := T) 100005 rfl ?_
  refine (FzTo.bz 2 rfl).c ?_
  refine G9 rfl (Cmc [0, 1] (a7 (pk := pk) (t := T') (n := S.length) (R := S.map rfD) o1.1 o1.2 (by omega)) rfl rfl rfl rfl rfl rfl rfl ⟨⟨rfl, rfl⟩, rfl⟩ ?_)
  rintro r hp' ⟨t2, h2, rfl, rfl⟩
  refine G9 rfl (Cmc [0, 1] (j8 (pk := pk) (t := t2) (n := S.length) (R := S.map rfD) o2 (by omega)) rfl rfl rfl rfl rfl rfl rfl ⟨⟨rfl, rfl⟩, rfl⟩ ?_)
  rintro r hp' ⟨t3, h3, rfl, rfl⟩
  refine G9 rfl (Cmc [0, 1] (fm_typ (pk := pk) (p := p) (sc := scD p L) (t := t3) (n := S.length) (R := S.map rfD) ty.size (by omega) (y := ty) (Nat.le_refl _) o3 (by omega)) rfl rfl rfl rfl rfl rfl rfl ⟨⟨rfl, rfl⟩, rfl⟩ ?_)
  rintro r hp' ⟨t4, h4, rfl, rfl⟩
  refine G9 rfl (Cmc [0, 1] (a7 (pk := pk) (t := t4) (n := S.length) (R := S.map rfD) o4.1 (by omega) (by omega)) rfl rfl rfl rfl rfl rfl rfl ⟨⟨rfl, rfl⟩, rfl⟩ ?_)
  rintro r hp' ⟨t5, h5, rfl, rfl⟩
  refine G9 rfl ?_
  refine Cmc [0, 1] (a7 (pk := pk) (t := t5) (n := S.length) (R := S.map rfD) (k := ((es.map exD).length : Nat)) (by omega) (by rw [List.length_map]; omega) (by omega)) rfl rfl rfl rfl rfl rfl rfl ⟨⟨rfl, rfl⟩, rfl⟩ ?_
  rintro r hp' ⟨t6, h6, rfl, rfl⟩
  refine G9 rfl ?_
  refine Lq [0, 1, 4, 5] (fun (u : Nat × ByteArray × List Rf) r => (6, xi (u.1 : Nat)) :: r) (fun u => fmL p L u.2.1 1 u.2.2) 3 (fun u => u.1 ≤ es.length ∧ u.2.1.size ≤ t6.size + 3000000 * Ex.sizes (es.take u.1) ∧ u.2.2 = S ++ cd p (L.map (·.1)) (es.take u.1)) (fun u => es.length - u.1) (0, t6, S) rfl ⟨Nat.zero_le _, by show t6.size ≤ _ + 3000000 * 0; omega, (List.append_nil _).symm⟩ ?_
  rintro ⟨i, T2, S2⟩ ⟨hi, hT2, hS2⟩; dsimp only at hi hT2 hS2 ⊢
  refine G9 rfl (If rfl (fun h => ?_) (fun h => ?_)); {
  have hil := of_decide_eq_true h; rw [List.length_map] at hil
  obtain ⟨e, he⟩ := ai (l := es) (j := i) (by omega)
  have hst3 := Ex.sizes_tk he
  have hst4 := Ex.sizes_tk2 he
  have hSl2 : S2.length ≤ S.length + Ex.sizes (es.take i) := by
    have h1 := nj (p := p) (loc := L.map (·.1)) (es.take i)
    rw [hS2, List.length_append]; omega
  refine G9 rfl (Ix (T := T) i (ab (f := exD) he) rfl rfl rfl rfl ⟨rfl, rfl⟩ rfl rfl ?_)
  refine G9 rfl (Cmc [0, 1] (fm_expr (pk := pk) hL hp hg e.size (by omega) (e := e) (Nat.le_refl _) (Ex.oks_mem o5 (List.mem_of_getElem? he)) (t := T2) (Q := S2) (by omega) (by omega)) rfl rfl rfl rfl rfl rfl rfl ⟨⟨rfl, rfl⟩, rfl⟩ ?_)
  rintro r hp' ⟨t7, h7, rfl, rfl⟩
  refine G9 rfl ?_
  exact Nq (i + 1, t7, S2 ++ cd p (L.map (·.1)) [e]) ⟨by show i + 1 ≤ _; omega, by show t7.size ≤ t6.size + 3000000 * Ex.sizes (es.take (i + 1)); omega, by show _ = _ ++ cd p _ (es.take (i + 1)); rw [hZ he, hS2, List.append_assoc]⟩ (by show _ - (i + 1) < _ - i; omega)}
  have hil := of_decide_eq_false h; rw [List.length_map] at hil
  rw [List.take_of_length_le (by omega)] at hT2 hS2
  have hSl2 : S2.length ≤ S.length + Ex.sizes es := by
    have h1 := nj (p := p) (loc := L.map (·.1)) es
    rw [hS2, List.length_append]; omega
  refine G9 rfl (Cmc [0, 1] (key (X := b) (t := T2) (Q := S2) (by omega) o6 (by omega) (by omega)) rfl rfl rfl rfl rfl rfl rfl ⟨⟨rfl, rfl⟩, rfl⟩ ?_)
  rintro r hp' ⟨t7, h7, rfl, rfl⟩
  obtain ⟨S3, hS3⟩ : ∃ S3, S3 = S2 ++ bB p (L.map (·.1)) b := ⟨_, rfl⟩
  rw [← hS3]
  have hSl3 : S3.length ≤ S2.length + Sm.sizes b := by
    have h1 := jA (p := p) (loc := L.map (·.1)) b
    rw [hS3, List.length_append]; omega
  refine G9 rfl ?_
  refine Cmc [0, 1] (a7 (pk := pk) (t := t7) (n := S3.length) (R := S3.map rfD) (k := ((cs.map blD).length : Nat)) (by omega) (by rw [List.length_map]; omega) (by omega)) rfl rfl rfl rfl rfl rfl rfl ⟨⟨rfl, rfl⟩, rfl⟩ ?_
  rintro r hp' ⟨t8, h8, rfl, rfl⟩
  refine G9 rfl ?_
  refine Lq [0, 1, 4, 5] (fun (u : Nat × ByteArray × List Rf) r => (7, xi (u.1 : Nat)) :: r) (fun u => fmL p L u.2.1 1 u.2.2) 3 (fun u => u.1 ≤ cs.length ∧ u.2.1.size ≤ t8.size + 3000000 * Sm.csizes (cs.take u.1) ∧ u.2.2 = S3 ++ dJ p (L.map (·.1)) (cs.take u.1)) (fun u => cs.length - u.1) (0, t8, S3) rfl ⟨Nat.zero_le _, by show t8.size ≤ _ + 3000000 * 0; omega, (List.append_nil _).symm⟩ ?_
  rintro ⟨i, T3, S4⟩ ⟨hi2, hT3, hS4⟩; dsimp only at hi2 hT3 hS4 ⊢
  refine G9 rfl (If rfl (fun h => ?_) (fun h => ?_)); {
  have hil2 := of_decide_eq_true h; rw [List.length_map] at hil2
  obtain ⟨c, hc⟩ := ai (l := cs) (j := i) (by omega)
  have hst3 := Sm.csizes_tk hc
  have hst4 := Sm.csizes_tk2 hc
  have hSl4 : S4.length ≤ S3.length + Sm.csizes (cs.take i) := by
    have h1 := ni (p := p) (loc := L.map (·.1)) (cs.take i)
    rw [hS4, List.length_append]; omega
  refine G9 rfl (Ix (T := T) i (ab (f := blD) hc) rfl rfl rfl rfl ⟨rfl, rfl⟩ rfl rfl ?_)
  refine G9 rfl (Cmc [0, 1] (key (X := c) (t := T3) (Q := S4) (by omega) (Sm.okc_mem o8 (List.mem_of_getElem? hc)) (by omega) (by omega)) rfl rfl rfl rfl rfl rfl rfl ⟨⟨rfl, rfl⟩, rfl⟩ ?_)
  rintro r hp' ⟨t9, h9, rfl, rfl⟩
  refine G9 rfl ?_
  exact Nq (i + 1, t9, S4 ++ bB p (L.map (·.1)) c) ⟨by show i + 1 ≤ _; omega, by show t9.size ≤ t8.size + 3000000 * Sm.csizes (cs.take (i + 1)); omega, by show _ = _ ++ dJ p _ (cs.take (i + 1)); rw [qD hc, hS4, List.append_assoc]⟩ (by show _ - (i + 1) < _ - i; omega)}
  have hil2 := of_decide_eq_false h; rw [List.length_map] at hil2
  rw [List.take_of_length_le (by omega)] at hT3 hS4
  have hSl4 : S4.length ≤ S3.length + Sm.csizes cs := by
    have h1 := ni (p := p) (loc := L.map (·.1)) cs
    rw [hS4, List.length_append]; omega
  refine G9 rfl (Cmc [0, 1] (key (X := el) (t := T3) (Q := S4) (by omega) o7 (by omega) (by omega)) rfl rfl rfl rfl rfl rfl rfl ⟨⟨rfl, rfl⟩, rfl⟩ ?_)
  rintro r hp' ⟨t9, h9, rfl, rfl⟩
  refine G9 rfl ?_
  exact Nq (j + 1, t9, S4 ++ bB p (L.map (·.1)) el) ⟨by show j + 1 ≤ _; omega, by show t9.size ≤ t.size + 20 + 3000000 * Sm.sizes (l.take (j + 1)); omega, by show _ = _ ++ bB p _ (l.take (j + 1)); rw [hstep, hS4, hS3, hS2, hS]; simp only [List.append_assoc]⟩ (by show _ - (j + 1) < _ - j; omega)}; {
  have hjl := of_decide_eq_false h; rw [List.length_map] at hjl
  rw [List.take_of_length_le (by omega)] at hT hS
  refine G9 rfl (Fm (T := T) (fun g => g) (.t []) (fmL p L T' 1 S) ⟨T', by omega, rfl, by rw [hS]⟩ rfl)}
end
end
section
open Go Go.RowKit Go.Proofs K
variable {pk : Pk}
def jN (f : Fu) : List (ByteArray × Ty4) := f.ps.map fun q => (q.nm, q.ty)
def cG (f : Fu) : List (ByteArray × Ty4) := jN f ++ aS f.body
abbrev scM (p : Pg) (v : Nat) (l : List (ByteArray × Ty4)) : XH := [⟨2, 0, .cells [.d (.s (p.ts.map tdD)), .d (.s (p.gs.map gbD)), .d (.s (p.fs.map fuD)), .l 3 v 1 0 l.length l.length, .l 4 v 4 0 l.length l.length] 266⟩, ⟨3, v, .row l.length (lnR l) 9 1⟩, ⟨4, v, .row l.length (ltR l) 55 4⟩]
theorem qE {p : Pg} {f : Fu} (hl : f.ps.length ≤ 1000000) (hb : Sm.sizes f.body ≤ 10000000000) : XQ Tryz.prog pk 102 [xd (pgD p), xd (fuD f)] (.a (.c (.d (.p (scD p (cG f)))))) := by
  refine XQ.en Tryz.func102 Tryz.ntmps102 (fun w0 own H V v0 hf => ?_)
  refine G (T := T) 100001 rfl ?_
  refine (FzTo.bz 0 rfl).c ?_
  refine (FzTo.bz 1 rfl).c ?_
  refine G9 rfl ((Nrh 2 3 9 1 rfl rfl rfl rfl rfl).c ?_)
  refine (Nrh 2 4 55 4 rfl rfl rfl rfl rfl).c ?_
  refine Lq [3, 5] (fun (u : Nat × List (ByteArray × Ty4)) r => (6, xi (u.1 : Nat)) :: r) (fun u => scM p 1 u.2) 5 (fun u => u.1 ≤ f.ps.length ∧ u.2 = (jN f).take u.1) (fun u => f.ps.length - u.1) (0, []) rfl ⟨Nat.zero_le _, rfl⟩ ?_
  rintro ⟨j, S⟩ ⟨hj, hS⟩; dsimp only at hj hS ⊢
  refine G9 rfl (If rfl (fun h => ?_) (fun h => ?_)); {
  have hjl := of_decide_eq_true h; rw [List.length_map] at hjl
  obtain ⟨y, hy⟩ := ai (l := f.ps) (j := j) (by omega)
  have hSl : S.length ≤ 1000000 := by rw [hS, jN, List.length_take, List.length_map]; omega
  refine G9 rfl (Ix (T := T) j (ab (f := paD) hy) rfl rfl rfl rfl ⟨rfl, rfl⟩ rfl rfl ?_)
  refine G9 rfl (Ix (T := T) j (ab (f := paD) hy) rfl rfl rfl rfl ⟨rfl, rfl⟩ rfl rfl ?_)
  refine G9 rfl (Ckz [2, 3, 4] (scM p 2 (S ++ [(y.nm, y.ty)])) (sc_addL (pk := pk) (p := p) (l := S) (s := y.nm) (t := y.ty) (by omega)) rfl rfl rfl rfl rfl rfl rfl ⟨⟨rfl, rfl⟩, rfl⟩ rfl rfl ?_)
  refine G9 rfl ?_
  exact Nq (j + 1, S ++ [(y.nm, y.ty)]) ⟨by show j + 1 ≤ _; omega, by show _ = _; rw [hS, List.take_add_one (i := j), show (jN f)[j]? = some (y.nm, y.ty) from ab hy]; rfl⟩ (by show _ - (j + 1) < _ - j; omega)}
  have hjl := of_decide_eq_false h; rw [List.length_map] at hjl
  have hpl : (jN f).length = f.ps.length := List.length_map ..
  rw [List.take_of_length_le (by omega)] at hS
  subst hS
  have hll := gh f.body
  refine G9 rfl (Ckz [2, 3, 4] (scM p 2 (cG f)) (sc_lets (pk := pk) (p := p) (Sm.sizes f.body) (by omega) (l := f.body) (Nat.le_refl _) (q := jN f) (by omega)) rfl rfl rfl rfl rfl rfl rfl ⟨⟨rfl, rfl⟩, rfl⟩ rfl rfl ?_)
  refine G9 rfl (MS.fz9 3 rfl ?_)
  refine MS.fz9 4 rfl ((FzTo.bz 2 rfl).e ?_)
  exact Fe (T := T) rfl rfl
theorem letsF_fst (l : List Sm) : (aS l).map (·.1) = (au l).filterMap fun
    | .inl s => if smK s = 1 then some (gJ s) else none
    | .inr _ => none := by
  unfold aS
  rw [List.map_filterMap]
  refine congrArg (fun g => (au l).filterMap g) (funext fun e => ?_)
  cases e with
  | inl s =>
    show Option.map _ (if smK s = 1 then some (gJ s, sty s) else none) = if smK s = 1 then some (gJ s) else none
    split <;> rfl
  | inr e => rfl
theorem qF (f : Fu) : (cG f).map (·.1) = aI f := by
  unfold cG aI jN
  rw [List.map_append, List.map_map, letsF_fst]; rfl
theorem refsF_S (p : Pg) (f : Fu) : aV p f = bB p (aI f) f.body := rfl
abbrev fmV (p : Pg) (f : Fu) (t : ByteArray) : D := .p [.s (p.ts.map tdD), .s (p.gs.map gbD), .s (p.fs.map fuD), .p (scD p (cG f)), .c (.string t), .s ((aV p f).map rfD)]
abbrev fmM (p : Pg) (L : List (ByteArray × Ty4)) (t : ByteArray) (v : Nat) (Q : List Rf) : XH := [⟨2, 0, .cells [.d (.s (p.ts.map tdD)), .d (.s (p.gs.map gbD)), .d (.s (p.fs.map fuD)), .d (.p (scD p L)), .d (.c (.string t)), .l 3 v 2 0 Q.length Q.length] 124⟩, ⟨3, v, .row Q.length (Q.map rfD) 126 2⟩]
theorem qG {p : Pg} {f : Fu} {B : Nat} (hB : B ≤ 1000000000) (hpl : f.ps.length ≤ 1000) (ho : f.ok B) (hp : p.fs.length ≤ 1000000000) (hg : p.gs.length ≤ 1000000000) : XP Tryz.prog pk 89 [xd (pgD p), xd (fuD f)] (fun r => ∃ t, r = .a (.c (.d (fmV p f t)))) := by
  obtain ⟨o1, o2, o3, o4, o5, o6, o7, o8, o9⟩ := ho
  refine XP.en Tryz.func89 Tryz.ntmps89 (by rintro r ⟨t, rfl⟩; rfl) (fun w0 own H V v0 hf => ?_)
  refine G (T := T) 100001 rfl ?_
  refine (FzTo.bz 0 rfl).c ?_
  refine (FzTo.bz 1 rfl).c ?_
  refine G9 rfl (Cq (qE (pk := pk) (p := p) (f := f) (by omega) (by omega)) rfl rfl rfl rfl rfl ⟨rfl, rfl⟩ ?_)
  refine G9 rfl ?_
  have hLl : (cG f).length ≤ 1000000000000 := by
    have h1 := gh f.body
    unfold cG jN; rw [List.length_append, List.length_map]; omega
  have hfst := qF f
  refine (Nrh 2 5 126 2 rfl rfl rfl rfl rfl).c ?_
  refine Cf [3, 5] (fun (u : ByteArray) r => r) (fun u => fmM p (cG f) u 0 []) 4 (fun u => u.size ≤ 6) rfl ?_ ?_; {
  refine If rfl (fun h => ?_) (fun h => ?_); {
  refine G9 rfl ?_
  exact Dn (⟨#[101, 120, 116, 101, 114, 110]⟩ : ByteArray) (Nat.le_refl _)}; {
  refine G9 rfl ?_
  exact Dn eS (Nat.zero_le _)}}
  rintro t0 h0
  refine G9 rfl ?_
  refine Cmc [2, 3] (a7 (pk := pk) (p := p) (sc := scD p (cG f)) (t := t0) (n := 0) (R := []) (k := ((f.ps.map paD).length : Nat)) (by omega) (by rw [List.length_map]; omega) (by omega)) rfl rfl rfl rfl rfl rfl rfl ⟨⟨rfl, rfl⟩, rfl⟩ ?_
  rintro r hp' ⟨t1, h1, rfl, rfl⟩
  refine G9 rfl ?_
  refine Lq [3, 5] (fun (u : Nat × ByteArray) r => (6, xi (u.1 : Nat)) :: r) (fun u => fmM p (cG f) u.2 0 []) 4 (fun u => u.1 ≤ f.ps.length ∧ u.2.size ≤ 26 + 2001000000000000 * u.1) (fun u => f.ps.length - u.1) (0, t1) rfl ⟨Nat.zero_le _, by show t1.size ≤ 26 + 2001000000000000 * 0; omega⟩ ?_
  rintro ⟨j, T'⟩ ⟨hj, hT⟩; dsimp only at hj hT ⊢
  refine G9 rfl (If rfl (fun h => ?_) (fun h => ?_)); {
  have hjl := of_decide_eq_true h; rw [List.length_map] at hjl
  obtain ⟨y, hy⟩ := ai (l := f.ps) (j := j) (by omega)
  obtain ⟨q1, q2, q3⟩ := o3 y (List.mem_of_getElem? hy)
  refine G9 rfl (Ix (T := T) j (ab (f := paD) hy) rfl rfl rfl rfl ⟨rfl, rfl⟩ rfl rfl ?_)
  refine G9 rfl (Cmc [2, 3] (j8 (pk := pk) (p := p) (sc := scD p (cG f)) (t := T') (n := 0) (R := []) q1 (by omega)) rfl rfl rfl rfl rfl rfl rfl ⟨⟨rfl, rfl⟩, rfl⟩ ?_)
  rintro r hp' ⟨t2, h2, rfl, rfl⟩
  refine G9 rfl (Ix (T := T) j (ab (f := paD) hy) rfl rfl rfl rfl ⟨rfl, rfl⟩ rfl rfl ?_)
  refine G9 rfl (Cmc [2, 3] (fm_typ (pk := pk) (p := p) (sc := scD p (cG f)) (t := t2) (n := 0) (R := []) y.ty.size (by omega) (y := y.ty) (Nat.le_refl _) q2 (by omega)) rfl rfl rfl rfl rfl rfl rfl ⟨⟨rfl, rfl⟩, rfl⟩ ?_)
  rintro r hp' ⟨t3, h3, rfl, rfl⟩
  refine G9 rfl ?_
  exact Nq (j + 1, t3) ⟨by show j + 1 ≤ _; omega, by show t3.size ≤ 26 + 2001000000000000 * (j + 1); omega⟩ (by show _ - (j + 1) < _ - j; omega)}
  have hjl := of_decide_eq_false h; rw [List.length_map] at hjl
  refine G9 rfl (Cmc [2, 3] (fm_typ (pk := pk) (p := p) (sc := scD p (cG f)) (t := T') (n := 0) (R := []) f.res.size (by omega) (y := f.res) (Nat.le_refl _) o4 (by omega)) rfl rfl rfl rfl rfl rfl rfl ⟨⟨rfl, rfl⟩, rfl⟩ ?_)
  rintro r hp' ⟨t3, h3, rfl, rfl⟩
  refine G9 rfl ?_
  refine Cmc [2, 3] (fm_stmts (pk := pk) (p := p) (L := cG f) hLl hp hg (Sm.sizes f.body) (by omega) (l := f.body) rfl o6 (t := t3) (Q := []) (by omega) (by show 0 + _ ≤ _; omega)) rfl rfl rfl rfl rfl rfl rfl ⟨⟨rfl, rfl⟩, rfl⟩ ?_
  rintro r hp' ⟨t4, h4, rfl, rfl⟩
  rw [List.nil_append, hfst, ← refsF_S]
  refine G9 rfl (MS.fz9 3 rfl ?_)
  refine (FzTo.bz 2 rfl).e ?_
  exact Fp (T := T) (.a (.c (.d (fmV p f t4)))) ⟨t4, rfl⟩ rfl rfl
def FmsR (p : Pg) (k : Nat) (R : List (List D)) : Prop := R.length = k ∧ ∀ i f, i < k → p.fs[i]? = some f → ∃ t, R[i]? = some [fmV p f t]
theorem FmsR.snoc {p : Pg} {k : Nat} {R : List (List D)} {f : Fu} {t : ByteArray} (h : FmsR p k R) (hf : p.fs[k]? = some f) : FmsR p (k + 1) (R ++ [[fmV p f t]]) := by
  obtain ⟨h1, h2⟩ := h
  refine ⟨by rw [List.length_append, h1]; rfl, fun i g hi hg => ?_⟩
  by_cases hik : i < k; {
  obtain ⟨t, ht⟩ := h2 i g hik hg
  exact ⟨t, by rw [List.getElem?_append_left (by omega)]; exact ht⟩}; {
  have : i = k := by omega
  subst this
  rw [hf] at hg; cases hg
  exact ⟨t, by rw [List.getElem?_append_right (by omega), h1, Nat.sub_self]; rfl⟩}
theorem ref_forms {p : Pg} {B : Nat} (hB : B ≤ 1000000000) (hok : p.ok B) (hpl : ∀ f ∈ p.fs, f.ps.length ≤ 1000) : XP Tryz.prog pk 46 [xd (pgD p)] (fun r => ∃ R, r = xr R ∧ FmsR p p.fs.length R) := by
  have hfl := hok.fl
  have hgl := hok.gl
  refine XP.en Tryz.func46 Tryz.ntmps46 (by rintro r ⟨R, rfl, _⟩; rfl) (fun w0 own H V v0 hf => ?_)
  refine G (T := T) 100001 rfl ?_
  refine (FzTo.bz 0 rfl).c ?_
  refine G9 rfl ((Nr 3 120 1 rfl rfl).c ?_)
  refine Lq [1] (fun (u : Nat × List (List D)) r => (3, .a (.c (.l 1 0 1 0 u.1 u.1))) :: (4, xi (u.1 : Nat)) :: r) (fun u => [⟨1, 0, .row u.1 u.2 120 1⟩]) 2 (fun u => u.1 ≤ p.fs.length ∧ FmsR p u.1 u.2) (fun u => p.fs.length - u.1) (0, []) rfl ⟨Nat.zero_le _, rfl, fun i f hi => absurd hi (Nat.not_lt_zero i)⟩ ?_
  rintro ⟨j, R⟩ ⟨hj, hR⟩; dsimp only at hj hR ⊢
  refine G9 rfl (If rfl (fun h => ?_) (fun h => ?_)); {
  have hjl := of_decide_eq_true h; rw [List.length_map] at hjl
  obtain ⟨y, hy⟩ := ai (l := p.fs) (j := j) (by omega)
  have hmem := List.mem_of_getElem? hy
  refine G9 rfl (Ix (T := T) j (ab (f := fuD) hy) rfl rfl rfl rfl ⟨rfl, rfl⟩ rfl rfl ?_)
  refine G9 rfl (Ce (qG (p := p) (f := y) hB (hpl y hmem) (hok.f y hmem) (by omega) (by omega)) rfl rfl rfl rfl rfl ⟨rfl, rfl⟩ ?_)
  rintro _ ⟨t, rfl⟩
  refine G9 rfl ?_
  exact Nq (j + 1, R ++ [[fmV p y t]]) ⟨by show j + 1 ≤ _; omega, hR.snoc hy⟩ (by show _ - (j + 1) < _ - j; omega)}; {
  have hjl := of_decide_eq_false h; rw [List.length_map] at hjl
  refine G9 rfl (MS.fz9 1 rfl ?_)
  have hj9 : j = p.fs.length := by omega
  rw [hj9] at hR
  exact Fp (T := T) (xr R) ⟨R, rfl, hR⟩ rfl rfl}
end
section
open Go Go.RowKit Go.Proofs K
variable {pk : Pk}
def bnD (b : Bool) : List D := [.c (.bool b)]
theorem og {l : List Bool} {j : Nat} {b z : Bool} (h : l[j]? = some z) : d7 (l.map bnD) j 0 [.c (.bool b)] = (l.set j b).map bnD := by
  rw [d7, List.getElem?_map, h, List.map_set]; rfl
theorem oh : ∀ {l : List Bool} {i : Nat}, l[i]? = some false → (l.set i true).count false + 1 = l.count false
  | x :: r, 0, h => by cases h; simp
  | x :: r, i + 1, h => by
    have ih := oh (l := r) (i := i) (by simpa using h)
    rw [List.set_cons_succ, List.count_cons, List.count_cons]; omega
abbrev RcP (p : Pg) (n : Nat) (r : Rf) : Prop := Rch p (fun _ => True) n r
structure ReI (p : Pg) (n0 : Nat) (bf bg : List Bool) (td : List Nat) : Prop where
  lf : bf.length = p.fs.length
  lg : bg.length = p.gs.length
  mf : ∀ i, bf[i]? = some true → RcP p n0 (true, i)
  mg : ∀ i, bg[i]? = some true → RcP p n0 (false, i)
  td : ∀ i ∈ td, i < p.fs.length ∧ RcP p n0 (true, i)
def muR (bf : List Bool) (td : List Nat) : Nat := 2 * bf.count false + td.length
theorem lT {l : List Bool} {n : Nat} {P : Nat → Prop} (h : ∀ i, l[i]? = some true → P i) (hn : P n) : ∀ i, (l.set n true)[i]? = some true → P i := by
  intro i hi
  rw [List.getElem?_set] at hi
  split at hi; {
  rename_i e; subst e; exact hn}; {
  exact h i hi}
theorem oi {α : Type} {l : List α} {n : Nat} (h : n < l.length) : ∃ y, l[n]? = some y := ⟨_, List.getElem?_eq_getElem h⟩
theorem pU {p : Pg} {B : Nat} (hB : B ≤ 1000000000) (hok : p.ok B) (hpl : ∀ f ∈ p.fs, f.ps.length ≤ 1000) : XP Tryz.prog pk 16 [xd (pgD p)] (fun r => ∃ bf bg : List Bool, r = .t [.c (.d (.s (bf.map bnD))), .c (.d (.s (bg.map bnD)))] ∧ bf.length = p.fs.length ∧ bg.length = p.gs.length ∧ (∀ i, bf[i]? = some true → ∃ n0, al (p.fs.map (·.nm)) ⟨#[109, 97, 105, 110]⟩ = some n0 ∧ RcP p n0 (true, i)) ∧ ∀ i, bg[i]? = some true → ∃ n0, al (p.fs.map (·.nm)) ⟨#[109, 97, 105, 110]⟩ = some n0 ∧ RcP p n0 (false, i)) := by
  have hfl := hok.fl
  have hgl := hok.gl
  refine XP.en Tryz.func16 Tryz.ntmps16 (by rintro r ⟨bf, bg, rfl, _⟩; rfl) (fun w0 own H V v0 hf => ?_)
  refine G (T := T) 100001 rfl ?_
  refine (FzTo.bz 0 rfl).c ?_
  refine G9 rfl (Ce (ref_forms hB hok hpl) rfl rfl rfl rfl rfl ⟨rfl, rfl⟩ ?_)
  rintro _ ⟨R, rfl, hR⟩
  refine G9 rfl (Mz (T := T) p.fs.length (bnD false) rfl rfl rfl rfl ⟨rfl, rfl⟩ (by rw [List.length_map]) (by omega) (by omega) (fun z hz H => zero_of rfl rfl z hz H) ?_)
  refine G9 rfl (Mz (T := T) p.gs.length (bnD false) rfl rfl rfl rfl ⟨rfl, rfl⟩ (by rw [List.length_map]) (by omega) (by omega) (fun z hz H => zero_of rfl rfl z hz H) ?_)
  refine G9 rfl (Cq (pP (pk := pk) (p := p) (by omega) _) rfl rfl rfl rfl rfl ⟨rfl, rfl⟩ ?_)
  refine G9 rfl ?_
  cases hm : al (p.fs.map (·.nm)) ⟨#[109, 97, 105, 110]⟩ with
  | none =>
    refine IfT rfl rfl ?_
    refine G9 rfl ?_
    refine MS.fze 1 rfl ?_ (by repeat' (first | exact trivial | apply And.intro | rfl | (simp; done)))
    refine MS.fze 2 rfl ?_ (by repeat' (first | exact trivial | apply And.intro | rfl | (simp; done)))
    have e1 : ∀ k, List.replicate k (bnD false) = (List.replicate k false).map bnD := fun k => by rw [List.map_replicate]
    exact Fp (T := T) (.t [.c (.d (.s (List.replicate p.fs.length (bnD false)))), .c (.d (.s (List.replicate p.gs.length (bnD false))))]) ⟨List.replicate p.fs.length false, List.replicate p.gs.length false, by rw [e1, e1], List.length_replicate, List.length_replicate, fun i h => by (rw [List.getElem?_replicate] at h; split at h <;> cases h), fun i h => by (rw [List.getElem?_replicate] at h; split at h <;> cases h)⟩ rfl rfl
  | some n0 =>
  have hn0 := em hm; rw [List.length_map] at hn0
  refine IfF rfl (decide_eq_false (by show ¬ ((n0 : Nat) : Int) < 0; omega)) ?_
  refine G9 rfl (Iq (T := T) n0 rfl rfl rfl rfl rfl ⟨rfl, rfl⟩ rfl (by omega) rfl ?_)
  have e1 : ∀ k, List.replicate k (bnD false) = (List.replicate k false).map bnD := fun k => by rw [List.map_replicate]
  rw [e1, e1]
  have hz0 : (List.replicate p.fs.length false)[n0]? = some false := by rw [List.getElem?_replicate, if_pos hn0]
  refine Sr (T := T) (ab (f := bnD) hz0) rfl rfl rfl rfl rfl rfl rfl ⟨rfl, rfl⟩ rfl rfl ?_
  rw [og hz0]
  refine G (T := T) 32 rfl ?_
  refine Br (T := T) rfl rfl rfl rfl rfl ⟨rfl, rfl⟩ ?_
  refine G9 rfl ?_
  have hI0 : ReI p n0 ((List.replicate p.fs.length false).set n0 true) (List.replicate p.gs.length false) [n0] := by
    refine ⟨by rw [List.length_set, List.length_replicate], List.length_replicate .., lT (P := fun i => RcP p n0 (true, i)) (fun i hi => ?_) .main, fun i hi => ?_, fun i hi => ?_⟩; {
    rw [List.getElem?_replicate] at hi; split at hi <;> cases hi}
    {
    rw [List.getElem?_replicate] at hi; split at hi <;> cases hi}
    {
    rw [List.mem_singleton] at hi; subst hi; exact ⟨hn0, .main⟩}
  have hM0 : muR ((List.replicate p.fs.length false).set n0 true) [n0] ≤ 2 * p.fs.length + 1 := by
    have h1 := oh hz0
    rw [List.count_replicate_self] at h1
    unfold muR; show _ + 1 ≤ _; omega
  refine Lq [4] (fun (u : List Bool × List Bool × List Nat) r => (5, .a (.c (.l 1 0 1 0 p.fs.length p.fs.length))) :: (6, .a (.c (.l 2 0 1 0 p.gs.length p.gs.length))) :: (8, .a (.c (.l 3 1 1 0 u.2.2.length u.2.2.length))) :: r) (fun u => [⟨1, 0, .row p.fs.length (u.1.map bnD) 4 1⟩, ⟨2, 0, .row p.gs.length (u.2.1.map bnD) 4 1⟩, ⟨3, 1, .row u.2.2.length (u.2.2.map natD) 3 1⟩]) 4 (fun u => ReI p n0 u.1 u.2.1 u.2.2 ∧ muR u.1 u.2.2 ≤ 2 * p.fs.length + 1) (fun u => muR u.1 u.2.2) ((List.replicate p.fs.length false).set n0 true, List.replicate p.gs.length false, [n0]) rfl ⟨hI0, hM0⟩ ?_
  rintro ⟨bf, bg, td⟩ ⟨hI, hM⟩; dsimp only at hI hM ⊢
  refine G9 rfl (If rfl (fun h => ?_) (fun h => ?_)); {
  have htl := of_decide_eq_true h
  have htb : td.length ≤ 2 * p.fs.length + 1 := by have h9 := hM; unfold muR at h9; omega
  obtain ⟨k, hk⟩ := oi (l := td) (n := td.length - 1) (by omega)
  obtain ⟨hkl, hkr⟩ := hI.td k (List.mem_of_getElem? hk)
  obtain ⟨f, hf9⟩ := ai (l := p.fs) (j := k) hkl
  obtain ⟨t, ht⟩ := hR.2 k f hkl hf9
  have hrl : (aV p f).length ≤ B := Nat.le_trans (jA f.body) (hok.f f (List.mem_of_getElem? hf9)).2.2.2.2.2.2.1
  refine G9 rfl (Iq (T := T) (td.length - 1) rfl rfl rfl rfl rfl ⟨rfl, rfl⟩ (by omega) (by omega) rfl ?_)
  refine Lr (T := T) (ab (f := natD) hk) rfl rfl rfl rfl ⟨rfl, rfl⟩ rfl rfl ?_
  refine G9 rfl (Ix (T := T) k ht rfl rfl rfl rfl ⟨rfl, rfl⟩ rfl rfl ?_)
  refine G (T := T) 49 rfl ?_
  refine Po (T := T) (td.length - 1) rfl rfl rfl rfl rfl rfl ⟨rfl, rfl⟩ (by omega) (by omega) rfl rfl ?_
  obtain ⟨td', htd, hl'⟩ : ∃ td', td' = td.take (td.length - 1) ∧ td'.length = td.length - 1 := ⟨_, rfl, by rw [List.length_take]; omega⟩
  rw [← List.map_take, ← htd, ← hl']
  have hI1 : ReI p n0 bf bg td' := ⟨hI.lf, hI.lg, hI.mf, hI.mg, fun i hi => hI.td i (by rw [htd] at hi; exact List.mem_of_mem_take hi)⟩
  have hM1 : muR bf td' + 1 ≤ muR bf td := by unfold muR; omega
  refine G9 rfl (Lq [4, 9] (fun (u : Nat × List Bool × List Bool × List Nat) r => (5, .a (.c (.l 1 0 1 0 p.fs.length p.fs.length))) :: (6, .a (.c (.l 2 0 1 0 p.gs.length p.gs.length))) :: (8, .a (.c (.l 3 1 1 0 u.2.2.2.length u.2.2.2.length))) :: (10, xi (u.1 : Nat)) :: r) (fun u => [⟨1, 0, .row p.fs.length (u.2.1.map bnD) 4 1⟩, ⟨2, 0, .row p.gs.length (u.2.2.1.map bnD) 4 1⟩, ⟨3, 1, .row u.2.2.2.length (u.2.2.2.map natD) 3 1⟩]) 4 (fun u => u.1 ≤ (aV p f).length ∧ ReI p n0 u.2.1 u.2.2.1 u.2.2.2 ∧ muR u.2.1 u.2.2.2 + 1 ≤ muR bf td) (fun u => (aV p f).length - u.1) (0, bf, bg, td') rfl ⟨Nat.zero_le _, hI1, hM1⟩ ?_)
  rintro ⟨i, cf, cg, ud⟩ ⟨hi, hJ, hN⟩; dsimp only at hi hJ hN ⊢
  have hub : ud.length ≤ 2 * p.fs.length + 1 := by have h9 := hN; unfold muR at h9 hM; omega
  refine G9 rfl (If rfl (fun h => ?_) (fun h => ?_)); {
  have hil := of_decide_eq_true h; rw [List.length_map] at hil
  obtain ⟨⟨b, n⟩, hq⟩ := ai (l := aV p f) (j := i) (by omega)
  have hrm := List.mem_of_getElem? hq
  have hrg := c5 _ hrm
  have hre : RcP p n0 (b, n) := .ref hkr trivial (by rw [aE, bm hf9]; exact hrm)
  refine G9 rfl (Ix (T := T) i (ab (f := rfD) hq) rfl rfl rfl rfl ⟨rfl, rfl⟩ rfl rfl ?_)
  refine G (T := T) 100016 rfl ?_
  refine (FzTo.bz 4 rfl).c ?_
  cases b with
  | false =>
    have hng : n < p.gs.length := hrg
    obtain ⟨z, hz⟩ := oi (l := cg) (n := n) (by rw [hJ.lg]; exact hng)
    refine G9 rfl (IfT rfl rfl ?_)
    refine G9 rfl (Iq (T := T) n rfl rfl rfl rfl rfl ⟨rfl, rfl⟩ rfl hng rfl ?_)
    refine Sr (T := T) (ab (f := bnD) hz) rfl rfl rfl rfl rfl rfl rfl ⟨rfl, rfl⟩ rfl rfl ?_
    rw [og hz]
    refine G9 rfl (IfF rfl rfl ?_)
    refine G9 rfl ?_
    exact Nq (i + 1, cf, cg.set n true, ud) ⟨by show i + 1 ≤ _; omega, ⟨hJ.lf, by rw [List.length_set]; exact hJ.lg, hJ.mf, lT (P := fun i => RcP p n0 (false, i)) hJ.mg hre, hJ.td⟩, hN⟩ (by show _ - (i + 1) < _ - i; omega)
  | true =>
    have hng : n < p.fs.length := hrg
    obtain ⟨z, hz⟩ := oi (l := cf) (n := n) (by rw [hJ.lf]; exact hng)
    refine G9 rfl (IfF rfl rfl ?_)
    refine G9 rfl (Iq (T := T) n rfl rfl rfl rfl rfl ⟨rfl, rfl⟩ rfl hng rfl ?_)
    refine Lr (T := T) (ab (f := bnD) hz) rfl rfl rfl rfl ⟨rfl, rfl⟩ rfl rfl ?_
    refine G9 rfl ?_
    cases z with
    | true =>
      refine IfF rfl rfl ?_
      refine G9 rfl ?_
      exact Nq (i + 1, cf, cg, ud) ⟨by show i + 1 ≤ _; omega, hJ, hN⟩ (by show _ - (i + 1) < _ - i; omega)
    | false =>
      refine IfT rfl rfl ?_
      refine G9 rfl (Iq (T := T) n rfl rfl rfl rfl rfl ⟨rfl, rfl⟩ rfl hng rfl ?_)
      refine Sr (T := T) (ab (f := bnD) hz) rfl rfl rfl rfl rfl rfl rfl ⟨rfl, rfl⟩ rfl rfl ?_
      rw [og hz]
      refine G9 rfl ?_
      have e8 : (ud ++ [n]).length = ud.length + 1 := by rw [List.length_append]; rfl
      have e9 : (ud ++ [n]).map natD = ud.map natD ++ [natD n] := by rw [List.map_append]; rfl
      have hcs := oh hz
      refine Nq (i + 1, cf.set n true, cg, ud ++ [n]) ⟨by show i + 1 ≤ _; omega, ⟨by rw [List.length_set]; exact hJ.lf, hJ.lg, lT (P := fun i => RcP p n0 (true, i)) hJ.mf hre, hJ.mg, fun x hx => ?_⟩, ?_⟩ (by show _ - (i + 1) < _ - i; omega) ?_; {
      rcases List.mem_append.1 hx with hx | hx
      {
      exact hJ.td x hx}; {
      rw [List.mem_singleton] at hx; subst hx; exact ⟨hng, hre⟩}}; {
      have h9 := hN; unfold muR at h9 ⊢; show 2 * (cf.set n true).count false + (ud ++ [n]).length + 1 ≤ _; rw [e8]; omega}; {
      dsimp only; rw [e8, e9]; exact ⟨⟨_, _, rfl, rfl⟩, rfl, rfl⟩}}
  {
  refine G9 rfl ?_
  exact Nq (cf, cg, ud) ⟨hJ, by show muR cf ud ≤ _; omega⟩ (by show muR cf ud < muR bf td; omega)}}; {
  refine G9 rfl ?_
  refine MS.fze 1 rfl ?_ (by repeat' (first | exact trivial | apply And.intro | rfl | (rw [List.length_map]; exact hI.lf.symm)))
  refine MS.fze 2 rfl ?_ (by repeat' (first | exact trivial | apply And.intro | rfl | (rw [List.length_map]; exact hI.lg.symm)))
  refine Fp (T := T) (.t [.c (.d (.s (bf.map bnD))), .c (.d (.s (bg.map bnD)))]) ⟨bf, bg, rfl, hI.lf, hI.lg, fun i h => ⟨n0, rfl, hI.mf i h⟩, fun i h => ⟨n0, rfl, hI.mg i h⟩⟩ rfl rfl}
end
theorem l7 {l : List Int} {a b c : Int} (h1 : ∀ n ∈ l, I64 n) : XQ Tryz.prog pk0 3 [xr (l.map intD), q3 a b c] (xb true) := by
  have hBG : BG = 400000000 := rfl
  refine XQ.en Tryz.func3 Tryz.ntmps3 (fun w0 own H V v0 hf => ?_)
  refine Ln 0 rfl (fun hl => ?_); rw [List.length_map] at hl
  refine G (T := T) 100001 rfl ?_
  refine (FzTo.bz 0 rfl).c ?_
  refine G9 rfl (Cq qr rfl rfl rfl rfl rfl ⟨rfl, rfl⟩ ?_)
  refine G (T := T) 100002 rfl ?_
  refine Cu [5] (fun (_ : Pg) r => (6, .a (.c (.p 1 0 0))) :: r) (fun p => [⟨1, 0, .cells [.d (.s (p.ts.map tdD)), .d (.s (p.gs.map gbD)), .d (.s (p.fs.map fuD))] 29⟩]) 2 (fun p => p.ok (BG + 200) ∧ Fw p ∧ ∀ f ∈ p.fs, f.ps.length ≤ 1000) rfl ?_ ?_; {
  refine Ao (T := T) [[0, 1, 2, 3, 4, 5], [0, 1, 2, 4, 3, 5], [0, 1, 4, 2, 3, 5], [0, 2, 1, 3, 4, 5], [0, 2, 1, 4, 3, 5], [0, 2, 4, 1, 3, 5], [0, 4, 1, 2, 3, 5], [0, 4, 2, 1, 3, 5], [2, 0, 1, 3, 4, 5], [2, 0, 1, 4, 3, 5], [2, 0, 4, 1, 3, 5], [2, 4, 0, 1, 3, 5], [4, 0, 1, 2, 3, 5], [4, 0, 2, 1, 3, 5], [4, 2, 0, 1, 3, 5]] ⟨?_, ?_, ?_, ?_, ?_, ?_, ?_, ?_, ?_, ?_, ?_, ?_, ?_, ?_, ?_, trivial⟩
  all_goals
    intro L hL
    injection hL with hL
    subst hL
    refine G9 rfl (Ce (mk_Made h1 hl) rfl rfl rfl rfl rfl ⟨rfl, rfl⟩ ?_)
    rintro _ ⟨p0, rfl, hp⟩
    obtain ⟨pok, pfw, pf1, pg1⟩ := hp.few
    have pfl := pfw.f
    have pgl := pfw.g
    have hsm := hp.small
    refine G9 rfl (Ce (qw pok (by omega) pf1 pg1 hp.thin (a := a) (b := b) (c := c)) rfl rfl rfl rfl rfl ⟨rfl, rfl⟩ ?_)
    rintro _ ⟨p, rfl, tok, tf1, tg1, tfn, tgn, tth⟩
    refine G9 rfl (Dn p ⟨tok, ⟨by omega, by omega⟩, fun f hf => Nat.le_trans (tth f hf) (by decide)⟩)}
  rintro p ⟨tok, tfw, tth⟩
  refine (FzTo.bz 1 rfl).c ?_
  refine G9 rfl (Cq (eK tok tok (by omega) tfw tfw) rfl rfl rfl rfl rfl ⟨rfl, rfl⟩ ?_)
  refine G (T := T) 100004 rfl ?_
  refine (FzTo.bz 2 rfl).c ?_
  refine G9 rfl (Ce (pU (p := p) (B := BG + 200) (by omega) tok tth) rfl rfl rfl rfl rfl ⟨rfl, rfl⟩ ?_)
  rintro _ ⟨bf, bg, rfl, lf, lg, hrf, hrg⟩
  obtain ⟨ml1, ml2⟩ := mt_few (a := p) (c := p) tfw
  refine G9 rfl (Lq [5, 7, 9, 8] (fun (q : Nat) r => (10, xi (q : Nat)) :: r) (fun _ => []) 3 (fun q => q ≤ bf.length) (fun q => bf.length - q) 0 rfl (Nat.zero_le _) ?_)
  intro i hi
  refine G9 rfl (If rfl (fun h => ?_) (fun h => ?_)); {
  have hil := of_decide_eq_true h; rw [List.length_map] at hil
  have tf := tfw.f
  obtain ⟨u, hu⟩ := ai (l := bf) (j := i) (by omega)
  refine G9 rfl (Ix (T := T) i (ab (f := bnD) hu) rfl rfl rfl rfl ⟨rfl, rfl⟩ rfl rfl ?_)
  cases u with
  | true =>
    obtain ⟨n0, hn0, hr⟩ := hrf i hu
    have hpt := (lS (ng p) (on_self p) hn0 hn0).1 i hr
    refine G9 rfl (Cq (jJ ml1 (i : Nat) (i : Nat)) rfl rfl rfl rfl rfl ⟨rfl, rfl⟩ ?_)
    refine G9 rfl (IfF rfl (congrArg not hpt) ?_)
    refine G9 rfl ?_
    exact Nq (i + 1) (by show i + 1 ≤ _; omega) (by show _ - (i + 1) < _ - i; omega)
  | false =>
    refine G9 rfl (IfF rfl rfl ?_)
    refine G9 rfl ?_
    exact Nq (i + 1) (by show i + 1 ≤ _; omega) (by show _ - (i + 1) < _ - i; omega)}
  refine G9 rfl (Lq [5, 7, 9] (fun (q : Nat) r => (11, xi (q : Nat)) :: r) (fun _ => []) 3 (fun q => q ≤ bg.length) (fun q => bg.length - q) 0 rfl (Nat.zero_le _) ?_)
  intro i hi
  refine G9 rfl (If rfl (fun h => ?_) (fun h => ?_)); {
  have hil := of_decide_eq_true h; rw [List.length_map] at hil
  have tg := tfw.g
  obtain ⟨u, hu⟩ := ai (l := bg) (j := i) (by omega)
  refine G9 rfl (Ix (T := T) i (ab (f := bnD) hu) rfl rfl rfl rfl ⟨rfl, rfl⟩ rfl rfl ?_)
  cases u with
  | true =>
    obtain ⟨n0, hn0, hr⟩ := hrg i hu
    have hpt := (lS (ng p) (on_self p) hn0 hn0).2 i hr
    refine G9 rfl (Cq (jJ ml2 (i : Nat) (i : Nat)) rfl rfl rfl rfl rfl ⟨rfl, rfl⟩ ?_)
    refine G9 rfl (IfF rfl (congrArg not hpt) ?_)
    refine G9 rfl ?_
    exact Nq (i + 1) (by show i + 1 ≤ _; omega) (by show _ - (i + 1) < _ - i; omega)
  | false =>
    refine G9 rfl (IfF rfl rfl ?_)
    refine G9 rfl ?_
    exact Nq (i + 1) (by show i + 1 ≤ _; omega) (by show _ - (i + 1) < _ - i; omega)}
  refine G9 rfl (Fe (T := T) rfl rfl)
end Go.Proofs.YticengaggjcppaaGreat.X
namespace Go.Proofs.YticengaggjcppaaGreat.K
open Go Go.RowKit Go.ChangeShapes Go.WideShapes Go.Deep
def jO (k : IntKind) (l : List Int) : List D := (l.map (Value.int k)).map D.c
abbrev InK (k : IntKind) (n : Int) : Prop := k.min ≤ n ∧ n ≤ k.max
theorem lit_in {k : IntKind} {n : Int} (h : (Lit.int k n).wf = true) : InK k n := by
  unfold Lit.wf at h
  simp only [Bool.and_eq_true, decide_eq_true_eq] at h
  exact h
theorem inK_i64 {n : Int} (h : InK .i64 n) : -9223372036854775808 ≤ n ∧ n ≤ 9223372036854775807 := by
  have e1 : IntKind.i64.min = -9223372036854775808 := by decide
  have e2 : IntKind.i64.max = 9223372036854775807 := by decide
  obtain ⟨h1, h2⟩ := h
  rw [e1] at h1; rw [e2] at h2
  exact ⟨h1, h2⟩
def allH (W : World) : Hp := fun b => W.heap[b]?
theorem St.all (W : World) : St W (allH W) [] W := ⟨rfl, ⟨rfl, by omega⟩, rfl, fun _ _ h => h, by simp, by simp, by simp⟩
theorem spot_none {W : World} {a : Addr} {v : Value} (h : W.cell? a = some v) : a = ⟨a.block, a.off, none⟩ := by
  obtain ⟨b, o, s⟩ := a
  cases s with
  | none => rfl
  | some s =>
    unfold World.cell? at h
    split at h <;> simp at h
theorem cel_of {W : World} {b o : Nat} {v : Value} (h : W.cell? ⟨b, o, none⟩ = some v) : cel (allH W) b o = some v := by
  unfold World.cell? at h
  unfold cel allH
  split at h; {
  rename_i hb
  rw [hb]
  simpa using h}; {
  cases h}
theorem add_zero' (a : Addr) : a.add 0 = a := by unfold Addr.add; simp
section
variable {P : Program} {H : Type} {enc : TypeId × Value → H} {W : World}
theorem qH {t e : TypeId} {k : IntKind} (ht : P.underlying t = some (.slice e)) (he : P.underlying e = some (.int k)) (hc : P.cellsOf e = 1) {a : Option Addr} {len cap : Nat} {d : DataW H} {ps : List MemPlace}
    (h : DataW.Trod enc P W 0 (fun _ => true) true t (.slice a len cap) d ps) : ∃ l : List Int, (∀ n ∈ l, InK k n) ∧ rd (allH W) (.s 1 (jO k l)) (.slice a len cap) := by
  obtain ⟨fuel, hf⟩ := h
  have hcs : (Value.slice a len cap).cells.toList = [.slice a len cap] := rfl
  rw [hcs] at hf
  rcases open_ints ht he hc hf with ⟨hcs, _⟩ | ⟨a, len', cap', zs, hcs, _, hl, hm, hz, _, hcell, hwz⟩
  {
  simp only [List.cons.injEq, Value.slice.injEq, and_true] at hcs
  obtain ⟨rfl, rfl, rfl⟩ := hcs
  exact ⟨[], by simp, rd.nil _ _⟩}; {
  simp only [List.cons.injEq, Value.slice.injEq, and_true] at hcs
  obtain ⟨rfl, rfl, rfl⟩ := hcs
  simp only [if_true] at hz
  refine ⟨zs.take len, fun n hn => ?_, ?_⟩; {
  exact lit_in (hwz n (List.mem_of_mem_take hn))}; {
  simp only [rd]
  refine ⟨_, _, _, rfl, by simp [jO]; omega, hl, by simpa [maxLen] using hm, ?_⟩
  by_cases h0 : len = 0; {
  exact .inl h0}; {
  have e := hcell 0 (by omega)
  rw [add_zero'] at e
  have ea := spot_none e
  refine .inr ⟨a.block, a.off, by rw [← ea], rds.mk fun i x hx => ?_⟩
  simp only [jO, List.getElem?_map, List.getElem?_take] at hx
  split at hx; {
  rename_i hlt
  have h1 := hcell i (by omega)
  have h2 : zs[i]? = some zs[i] := List.getElem?_eq_getElem (by omega)
  rw [h2] at hx
  simp only [Option.map_some, Option.some.injEq] at hx
  subst hx
  refine ⟨.int k zs[i], ?_, by simp [rd]⟩
  rw [ea, dg] at h1
  rw [List.getD_eq_getElem?_getD, h2] at h1
  exact cel_of h1}; {
  simp at hx}}}}
theorem nk (hl : laidOutB P = true) {W' : World} (hb : ∀ k, k < W.heap.size → W'.heap[k]? = W.heap[k]?) {sp : Nat → Bool} : ∀ {ts : List TypeId} {vs : List Value} {ds : List (DataW H)} {ps : List MemPlace},
    (ts.all fun t => P.readableRec t && decide (t < P.types.size)) = true → DataW.TrodAll enc P W 0 (fun _ => true) true ts vs ds ps → (∀ x ∈ ps, x.block < W.heap.size) → (∀ x ∈ ps, sp x.block = true) → DataW.TrodAll enc P W' 0 sp true ts vs ds ps
  | [], [], [], _, _, h, _, _ => h
  | t :: ts, v :: vs, d :: ds, _, hts, h, hlt, hsp => by
    obtain ⟨p, q, h1, h2, rfl⟩ := h
    simp only [List.all_cons, Bool.and_eq_true, decide_eq_true_eq] at hts
    refine ⟨p, q, WideElems.Trod_stays hl hts.1.1 hts.1.2 h1 (fun x hx => ?_) (fun x hx => hsp x (List.mem_append_left _ hx)), nk hl hb hts.2 h2 (fun x hx => hlt x (List.mem_append_right _ hx)) (fun x hx => hsp x (List.mem_append_right _ hx)), rfl⟩
    have hx' := hlt x (List.mem_append_left _ hx)
    cases x with
    | cell b o => exact World.cell?_of_block (w := W) (hb b hx')
    | map b => exact hb b hx'
theorem law_post {f : Func} {s : ChangeSpec} {apart fresh handsOn again : Bool} {W' : World} {args : Array Value} {ds gs : List (DataW H)} {fe : List MemPlace} {bt : TypeId} (hl : laidOutB P = true)
    (hW : DataW.Whole enc P f.params.toList s.vars apart W args.toList ds gs fe) (hvs : s.vars = []) (hfn : s.fn H (ds ++ gs) = { results := [.lit (.bool true)], args := ds }) (hrt : f.resultTypes = #[bt]) (hbt : P.underlying bt = some .bool)
    (hts : (f.params.toList.all fun t => P.readableRec t && decide (t < P.types.size)) = true)
    (hos : W'.os = W.os) (hout : W'.output = W.output) (hb : ∀ k, k < W.heap.size → W'.heap[k]? = W.heap[k]?) : s.post enc P f apart fresh handsOn again W args (.bool true) W' := by
  have hlt := hW.lt
  have hW0 := hW
  obtain ⟨p, q, hA, hV, rfl, hfz, hnd⟩ := hW
  have hq : q = [] := by
    rw [hvs] at hV
    obtain ⟨_, rfl⟩ := trodVars_none hV
    rfl
  subst hq
  have hg : gs = [] := by
    rw [hvs] at hV
    obtain ⟨rfl, _⟩ := trodVars_none hV
    rfl
  subst hg
  simp only [List.append_nil] at hlt hfz hnd hW0
  have hres : ∀ (b : Nat) (sp : Nat → Bool) (hd : Bool), DataW.TrodAll enc P W' b sp hd f.resultTypes.toList ((Value.bool true).resultList f.resultTypes.size) (s.fn H (ds ++ [])).results [] := by
    intro b sp hd
    rw [hfn, hrt]
    exact trodAll_mk1 (shut_bool hbt true)
  have hargs : ∀ sp : Nat → Bool, (∀ x ∈ p, sp x.block = true) → DataW.TrodAll enc P W' 0 sp true f.params.toList args.toList (s.fn H (ds ++ [])).args p := by
    intro sp hsp
    rw [hfn]
    exact nk hl hb hts hA hlt hsp
  have hvars : ∀ sp : Nat → Bool, DataW.TrodVars enc P W' sp s.vars (s.fn H (ds ++ [])).vars [] := by
    intro sp
    rw [hfn, hvs]
    rfl
  have hok : ∀ (j : Nat) (t : TypeId) (r : Value), f.resultTypes[j]? = some t → ((Value.bool true).resultList f.resultTypes.size)[j]? = some r → Value.okWide P W' .any 0 t r := by
    rw [hrt]
    intro j t r hj hr
    match j, hj, hr with
    | 0, hj, hr =>
      simp [Value.resultList] at hj hr
      subst hj; subst hr
      simp [Value.okWide, hbt, Cell.okWide, Cell.ok]
    | j + 1, hj, hr => simp at hj
  have hk : W.keptBut W' (fun x => x ∈ p ∧ (x ∈ ([] : List MemPlace) ∨ x ∈ p ∨ x ∈ ([] : List MemPlace))) := by
    refine ⟨hos, hout, fun i hi => ?_⟩
    rw [hb i hi]
    split <;> simp_all
  have hfz' : W'.noneFrozen p := by
    intro b off hp
    have := hfz b off hp
    rw [← this]
    exact World.frozen?_of_block (w := W) (hb b (hlt _ hp))
  refine ⟨ds, [], p, [], p, [], by simpa using hW0, hres _ _ _, hargs _ (fun x hx => by simpa using hlt x hx), hvars _, hk, fun _ => ⟨hok, _, _, ([] ++ p) ++ [], ⟨[] ++ p, [], trodAll_append (hargs _ (fun _ _ => rfl)) (hres _ _ _), hvars _, rfl, by simpa using hfz', fun ha => by simpa using hnd ha⟩, fun x hx _ => by simpa using hx⟩⟩
end
section
end
end Go.Proofs.YticengaggjcppaaGreat.K
namespace Go.Proofs.YticengaggjcppaaGreat.X
open Go Go.RowKit K
theorem nl {H : Hp} {b : Nat} {k : IntKind} : ∀ {l : List Int} {o : Nat}, K.rds H b o (jO k l) → rdr H b 1 o (l.map fun n => [.c (.int k n)])
  | [], o, _ => by simp only [List.map_nil, rdr]
  | n :: l, o, h => by
    simp only [jO, List.map_cons, K.rds] at h
    simp only [List.map_cons, rdr, rds]
    obtain ⟨⟨u, h1, h2⟩, h3⟩ := h
    exact ⟨⟨rfl, ⟨u, h1, by simp only [rd]; exact ⟨h2, rfl⟩⟩, trivial⟩, nl (l := l) h3⟩
theorem rd_kints {H : Hp} {k : IntKind} {l : List Int} {v : Value} (h : K.rd H (.s 1 (jO k l)) v) : rd H (.s (l.map fun n => [.c (.int k n)])) v := by
  simp only [K.rd] at h
  obtain ⟨A, n, c, rfl, h1, h2, h3, h4⟩ := h
  have hn : n = (l.map fun n => [D.c (.int k n)]).length := by simpa [jO] using h1.symm
  simp only [rd]
  refine ⟨A, c, 1, by rw [hn], by rw [← hn]; exact h2, (by simpa [maxLen] using h3), ?_⟩
  rcases h4 with h4 | ⟨b, o, rfl, h4⟩
  {
  exact .inl (List.eq_nil_of_length_eq_zero (by rw [← hn]; exact h4))}; {
  exact .inr ⟨b, o, rfl, nl h4⟩}
end Go.Proofs.YticengaggjcppaaGreat.X
namespace Go.Proofs.YticengaggjcppaaGreat.K
open Go Go.RowKit Go.Proofs Go.ChangeShapes Go.WideShapes Go.Deep
section
variable {P : Program} {H : Type} {enc : TypeId × Value → H} {W : World}
theorem open_arrI {t e : TypeId} {n : Nat} (ht : P.underlying t = some (.array n e)) (he : P.underlying e = some (.int .i64)) (hc : P.cellsOf t = n) (hc1 : P.cellsOf e = 1) {fuel : Nat} {cs : List Value} {x : DataW H × List MemPlace} (hl : cs.length = n)
    (h : DataW.trod enc P W 0 (fun _ => true) true fuel t cs = some x) : ∃ l : List Int, l.length = n ∧ (∀ y ∈ l, I64 y) ∧ cs = l.map (Value.int .i64) := by
  obtain ⟨xs, mm, _, _, _, hxs, hel⟩ := DataW.trod_array ht h
  have one : ∀ i, i < n → ∃ y : Int, I64 y ∧ cs[i]? = some (.int .i64 y) := by
    intro i hi
    have e1 := hel i (by omega)
    rw [List.getElem?_eq_getElem (by omega), hc1, Nat.mul_one] at e1
    obtain ⟨y, g, _, w⟩ := DataW.trod_int he e1
    refine ⟨y, inK_i64 (lit_in w), ?_⟩
    have h2 := congrArg (fun l => l[0]?) g
    simp only [List.getElem?_cons_zero] at h2
    rw [List.getElem?_take, if_pos (by omega), List.getElem?_drop] at h2
    simpa using h2
  obtain ⟨f, hF⟩ := choose_lt one
  refine ⟨(List.range n).map f, by simp, fun y hy => ?_, ?_⟩; {
  obtain ⟨i, hi, rfl⟩ := List.mem_map.1 hy
  exact (hF i (List.mem_range.1 hi)).1}; {
  refine List.ext_getElem? fun i => ?_
  by_cases hi : i < n; {
  rw [(hF i hi).2]
  simp [hi]}; {
  rw [List.getElem?_eq_none (by omega), List.getElem?_eq_none (by simp; omega)]}}
theorem open_arrV {t e : TypeId} {n : Nat} (ht : P.underlying t = some (.array n e)) (he : P.underlying e = some (.int .i64)) (hc : P.cellsOf t = n) (hc1 : P.cellsOf e = 1) {r : Reach} {b0 : Nat} {v : Value} {d : DataW H} {ps : List MemPlace} (hval : Value.okWide P W r b0 t v)
    (h : DataW.Trod enc P W 0 (fun _ => true) true t v d ps) : ∃ l : List Int, l.length = n ∧ (∀ y ∈ l, I64 y) ∧ v = .agg (l.map (Value.int .i64)).toArray := by
  simp only [Value.okWide, ht] at hval
  obtain ⟨cs, rfl, h2, _⟩ := hval
  rw [hc] at h2
  obtain ⟨fuel, hf⟩ := h
  obtain ⟨l, h3, h4, h5⟩ := open_arrI ht he hc hc1 (cs := cs.toList) (by simpa using h2) hf
  exact ⟨l, h3, h4, by rw [← h5]⟩
end
section
variable {H : Type} {enc : TypeId × Value → H} {W : World}
theorem qI {v : Value} {d : DataW H} {ps : List MemPlace} {r : Reach} {b0 : Nat} (hval : Value.okWide Tryz.prog W r b0 23 v) (h : DataW.Trod enc Tryz.prog W 0 (fun _ => true) true 23 v d ps) : ∃ a b c : Int, I64 a ∧ I64 b ∧ I64 c ∧ v = .agg #[.int .i64 a, .int .i64 b, .int .i64 c] := by
  obtain ⟨l, h1, h2, rfl⟩ := open_arrV Tryz.underlying23 Tryz.underlying3 (by kernel_rfl) (by kernel_rfl) hval h
  match l, h1, h2 with
  | [a, b, c], _, h2 => exact ⟨a, b, c, h2 a (by simp), h2 b (by simp), h2 c (by simp), rfl⟩
end
end Go.Proofs.YticengaggjcppaaGreat.K
namespace Go.Proofs.YticengaggjcppaaGreat.X
open Go Go.RowKit Go.Proofs K
theorem res_true {P : Program} {f : FuncId} {vals : List Value} {w0 : World} {own : List Seg} {H : Hp} (h : K.Fn P f vals w0 H own (fun r o H' => (xb true).rel (fun _ _ => none) H' r ∧ o = own ∧ Le H H')) : K.Fn P f vals w0 H own (fun r o H' => r = .bool true ∧ o = own ∧ Le H H') :=
  h.mono fun r o H' ⟨h1, h2, h3⟩ => ⟨by
    simp only [XV.rel, XA.rel, XC.rel, rd] at h1
    exact h1.1, h2, h3⟩
end Go.Proofs.YticengaggjcppaaGreat.X
namespace Go.Proofs.YticengaggjcppaaGreat.K
open Go Go.RowKit Go.Proofs
theorem law_self {l : List Int} {a b c : Int} (h1 : ∀ n ∈ l, I64 n) {w0 : World} {H : Hp} {own : List Seg} {v1 : Value} (hA : rd H (.s 1 (jO .i64 l)) v1) :
    Fn Tryz.prog 3 [v1, .agg #[.int .i64 a, .int .i64 b, .int .i64 c]] w0 H own (fun r o H' => r = .bool true ∧ o = own ∧ Le H H') :=
  X.res_true (X.XQ.toFn (X.l7 (l := l) (a := a) (b := b) (c := c) h1) id trivial ⟨X.rd_kints hA, by simp only [X.XV.rel, X.XA.rel]; exact ⟨_, rfl, by simp only [X.rdL, X.rd]; exact ⟨⟨trivial, rfl⟩, ⟨trivial, rfl⟩, ⟨trivial, rfl⟩, trivial⟩⟩, trivial⟩)
end Go.Proofs.YticengaggjcppaaGreat.K
namespace Go.Proofs.YticengaggjcppaaGreat
open Go Go.RowKit Go.ChangeShapes Go.WideShapes
namespace Row3
theorem own0 : ownKnob Tryz.prog.godebug = none := by kernel_rfl
theorem laid0 : laidOutB Tryz.prog = true := by kernel_rfl
theorem lifted (os : Os) (started : os.Started) (H : Type) (enc : TypeId × Value → H) :
    ReturnsInHanded {} Tryz.checked os 3 .any (Rows.matchSelfSpec.pre6 enc Tryz.prog Tryz.f3 Rows.matchSelfRow.domain false) (Rows.matchSelfSpec.post enc Tryz.prog Tryz.f3 false true false false) := by
  refine returnsInHanded_of_change (C := Tryz.checked) own0 started (by kernel_rfl) Tryz.func3
    (ChangeSpec.witness6 (enc := enc) (C := Tryz.checked) false ⟨#[], #[.slice none 0 0, .agg #[.int .i64 0, .int .i64 0, .int .i64 0]], []⟩ 8 (by kernel_rfl) (by kernel_rfl) (by kernel_rfl) (by kernel_rfl)) ?_
  intro W base args ds gs fe hval0 hW hcnd _
  have hval : ∀ (j : Nat) t v, Tryz.f3.params[j]? = some t → args[j]? = some v → Value.okWide Tryz.prog W .any base t v := hval0
  have hW' : DataW.Whole enc Tryz.prog Tryz.f3.params.toList Rows.matchSelfSpec.vars false W args.toList ds gs fe := hW
  obtain ⟨p, q, hA0, hV, rfl, hfz, hnd⟩ := hW
  have hA : DataW.TrodAll enc Tryz.prog W 0 (fun _ => true) true Tryz.f3.params.toList args.toList ds p := hA0
  rw [Tryz.params3] at hA hval
  obtain ⟨v0, v1, d0, d1, p0, p1, rfl, rfl, rfl, h0, h1⟩ := trodAll_two hA
  obtain ⟨rfl, rfl⟩ := trodVars_none hV
  obtain ⟨a0, n0, c0, rfl⟩ := okWide_slice Tryz.underlying22 (hval 0 22 v0 rfl rfl)
  obtain ⟨l0, k0, r0⟩ := K.qH Tryz.underlying22 Tryz.underlying3 (by kernel_rfl) h0
  obtain ⟨a1, b1, c1, ka1, kb1, kc1, rfl⟩ := K.qI (hval 1 23 v1 rfl rfl) h1
  refine (K.law_self (fun n h => K.inK_i64 (k0 n h)) r0 W (K.St.all W)).mono fun e W1 hh => ?_
  obtain ⟨v, own1, H1, rfl, ⟨rfl, _, hle⟩, hst⟩ := hh
  exact ⟨_, rfl, K.law_post laid0 hW' rfl rfl rfl Tryz.underlying4 (by kernel_rfl) hst.os hst.output (fun k hk => by
    have e1 : W.heap[k]? = some W.heap[k] := by simp [hk]
    rw [e1]
    exact hst.imm k _ (hle k _ e1))⟩
end Row3
theorem self_holds : Rows.MatchSelfSaid :=
  OpenClaim.holds_of_wide 3 Tryz.f3 rfl rfl rfl rfl rfl rfl rfl ⟨rfl, rfl, rfl, rfl, rfl⟩ rfl rfl rfl rfl rfl (by kernel_rfl) Tryz.func3 (by kernel_rfl)
    (of_decide_eq_true (by kernel_rfl)) (by unfold Func.isWrapper; first | (rw [if_pos (by decide +kernel)]; kernel_rfl) | (rw [if_neg (by decide +kernel)]; exact ⟨rfl, rfl⟩))
    (fun os started H enc _ => Row3.lifted os started H enc)
end Go.Proofs.YticengaggjcppaaGreat
