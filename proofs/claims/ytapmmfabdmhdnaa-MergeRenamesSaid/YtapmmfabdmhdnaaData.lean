/-
  Go's data in blocks that stay: what a value reads as. A datum is a list of cells; a slice is the list of its elements' cells.
  Everything here is plain; no condition beyond those typed.
-/
import Derived.Test.YtapmmfabdmhdnaaCall
set_option linter.unusedVariables false
set_option linter.unusedSimpArgs false
namespace Go.Proofs.Ytapmmfabdmhdnaa.K
open Go Go.RowKit

/-- What one cell reads as: a plain value, or a slice with its elements' cells (sz cells an element). -/
inductive D where
  | c (v : Value)
  | s (sz : Nat) (xs : List D)

mutual
/-- The cell's value u reads as the datum. -/
def rd (H : Hp) : D → Value → Prop
  | .c v, u => u = v
  | .s sz xs, u => ∃ A n k, u = .slice A n k ∧ xs.length = n * sz ∧ n ≤ k ∧ k ≤ 9223372036854775807 ∧ (n = 0 ∨ ∃ b o, A = some ⟨b, o, none⟩ ∧ rds H b o xs)
/-- The cells from place o of block b on read as the data. -/
def rds (H : Hp) (b : Nat) : Nat → List D → Prop
  | _, [] => True
  | o, x :: xs => (∃ u, cel H b o = some u ∧ rd H x u) ∧ rds H b (o + 1) xs
end

theorem cel_le {H H' : Hp} (h : Le H H') {b o : Nat} {v : Value} (hc : cel H b o = some v) : cel H' b o = some v := by
  unfold cel at *
  split at hc
  · rename_i hb; rw [h _ _ hb]; exact hc
  · cases hc
theorem hAt.mono {H H' : Hp} (h : Le H H') {b : Nat} : ∀ {vs : List Value} {o : Nat}, hAt H b o vs → hAt H' b o vs
  | [], _, _ => trivial
  | _ :: _, _, hv => ⟨cel_le h hv.1, hAt.mono h hv.2⟩

mutual
theorem rd.mono {H H' : Hp} (h : Le H H') : ∀ {d : D} {u : Value}, rd H d u → rd H' d u
  | .c _, _, hr => by simpa [rd] using hr
  | .s sz xs, u, hr => by
    simp only [rd] at hr ⊢
    obtain ⟨A, n, k, h1, h2, h3, h3', h4⟩ := hr
    refine ⟨A, n, k, h1, h2, h3, h3', ?_⟩
    rcases h4 with h4 | ⟨b, o, h5, h6⟩
    · exact .inl h4
    · exact .inr ⟨b, o, h5, rds.mono h h6⟩
theorem rds.mono {H H' : Hp} (h : Le H H') {b : Nat} : ∀ {xs : List D} {o : Nat}, rds H b o xs → rds H' b o xs
  | [], _, _ => by simp [rds]
  | x :: xs, o, hr => by
    simp only [rds] at hr ⊢
    obtain ⟨⟨u, h1, h2⟩, h3⟩ := hr
    exact ⟨⟨u, cel_le h h1, rd.mono h h2⟩, rds.mono h h3⟩
end

theorem rds.get {H : Hp} {b : Nat} : ∀ {xs : List D} {o : Nat}, rds H b o xs → ∀ i x, xs[i]? = some x → ∃ u, cel H b (o + i) = some u ∧ rd H x u
  | [], _, _, i, x, hx => by simp at hx
  | y :: ys, o, hr, 0, x, hx => by simp only [rds] at hr; simp at hx; subst hx; exact hr.1
  | y :: ys, o, hr, i + 1, x, hx => by
    simp only [rds] at hr
    obtain ⟨u, h1, h2⟩ := rds.get hr.2 i x (by simpa using hx)
    exact ⟨u, by rw [← h1]; congr 1; omega, h2⟩
theorem rds.mk {H : Hp} {b : Nat} : ∀ {xs : List D} {o : Nat}, (∀ i x, xs[i]? = some x → ∃ u, cel H b (o + i) = some u ∧ rd H x u) → rds H b o xs
  | [], _, _ => by simp [rds]
  | y :: ys, o, h => by
    simp only [rds]
    refine ⟨h 0 y rfl, rds.mk fun i x hx => ?_⟩
    have := h (i + 1) x (by simpa using hx)
    rw [show o + 1 + i = o + (i + 1) by omega]
    exact this

/-- Values that read as data, one by one. -/
def RdL (H : Hp) : List D → List Value → Prop
  | [], [] => True
  | d :: ds, v :: vs => rd H d v ∧ RdL H ds vs
  | _, _ => False
theorem RdL.len {H : Hp} : ∀ {ds : List D} {vs : List Value}, RdL H ds vs → ds.length = vs.length
  | [], [], _ => rfl
  | _ :: _, _ :: _, h => by simp [RdL.len h.2]
  | [], _ :: _, h => h.elim
  | _ :: _, [], h => h.elim
theorem RdL.get {H : Hp} : ∀ {ds : List D} {vs : List Value}, RdL H ds vs → ∀ (i : Nat) (d : D), ds[i]? = some d → ∃ v, vs[i]? = some v ∧ rd H d v
  | [], [], _, i, d, h => by simp at h
  | _ :: _, v :: _, h, 0, d, hd => by simp at hd; subst hd; exact ⟨v, rfl, h.1⟩
  | _ :: ds, _ :: vs, h, i + 1, d, hd => RdL.get h.2 i d (by simpa using hd)
  | [], _ :: _, h, _, _, _ => h.elim
  | _ :: _, [], h, _, _, _ => h.elim
theorem RdL.append {H : Hp} : ∀ {ds es : List D} {vs us : List Value}, RdL H ds vs → RdL H es us → RdL H (ds ++ es) (vs ++ us)
  | [], _, [], _, _, h => h
  | _ :: _, _, _ :: _, _, h, k => ⟨h.1, RdL.append h.2 k⟩
  | [], _, _ :: _, _, h, _ => h.elim
  | _ :: _, _, [], _, h, _ => h.elim
theorem RdL.mono {H H' : Hp} (hl : Le H H') : ∀ {ds : List D} {vs : List Value}, RdL H ds vs → RdL H' ds vs
  | [], [], _ => trivial
  | _ :: _, _ :: _, h => ⟨rd.mono hl h.1, RdL.mono hl h.2⟩
  | [], _ :: _, h => h.elim
  | _ :: _, [], h => h.elim
theorem RdL.split {H : Hp} : ∀ {ds es : List D} {vs : List Value}, RdL H (ds ++ es) vs → ∃ v1 v2, vs = v1 ++ v2 ∧ RdL H ds v1 ∧ RdL H es v2
  | [], _, vs, h => ⟨[], vs, rfl, trivial, h⟩
  | d :: ds, es, v :: vs, h => by
    obtain ⟨v1, v2, h1, h2, h3⟩ := RdL.split (ds := ds) h.2
    exact ⟨v :: v1, v2, by rw [h1]; rfl, ⟨h.1, h2⟩, h3⟩
  | _ :: _, _, [], h => h.elim

/-- The cells of a row that stays. -/
theorem rds.cells {H : Hp} {b : Nat} : ∀ {xs : List D} {o : Nat}, rds H b o xs → ∃ vs, hAt H b o vs ∧ RdL H xs vs
  | [], _, _ => ⟨[], trivial, trivial⟩
  | x :: xs, o, h => by
    simp only [rds] at h
    obtain ⟨⟨u, h1, h2⟩, h3⟩ := h
    obtain ⟨vs, h4, h5⟩ := rds.cells h3
    exact ⟨u :: vs, ⟨h1, h4⟩, h2, h5⟩
theorem rds.ofCells {H : Hp} {b : Nat} : ∀ {xs : List D} {vs : List Value} {o : Nat}, hAt H b o vs → RdL H xs vs → rds H b o xs
  | [], [], _, _, _ => by simp [rds]
  | _ :: _, u :: _, _, h, k => by simp only [rds]; exact ⟨⟨u, h.1, k.1⟩, rds.ofCells h.2 k.2⟩
  | [], _ :: _, _, _, k => k.elim
  | _ :: _, [], _, _, k => k.elim

/-- Data of slices: what one element's cells are, seen from the slice. -/
theorem rd.s_at {H : Hp} {sz : Nat} {xs : List D} {A : Option Addr} {n k : Nat} (h : rd H (.s sz xs) (.slice A n k)) (hn : 0 < n) : xs.length = n * sz ∧ ∃ b o, A = some ⟨b, o, none⟩ ∧ rds H b o xs := by
  simp only [rd] at h
  obtain ⟨A', n', k', h1, h2, _, _, h4⟩ := h
  injection h1 with e1 e2 e3
  subst e1; subst e2
  rcases h4 with h4 | h4
  · omega
  · exact ⟨h2, h4⟩
theorem rd.s_len {H : Hp} {sz : Nat} {xs : List D} {v : Value} (h : rd H (.s sz xs) v) : ∃ A n k, v = .slice A n k ∧ xs.length = n * sz ∧ n ≤ k ∧ k ≤ 9223372036854775807 := by
  simp only [rd] at h
  obtain ⟨A, n, k, h1, h2, h3, h3', _⟩ := h
  exact ⟨A, n, k, h1, h2, h3, h3'⟩

/-- A cut of a slice. -/
theorem rd.cut {H : Hp} {sz : Nat} {xs : List D} {A : Option Addr} {n k : Nat} (h : rd H (.s sz xs) (.slice A n k)) {l r : Nat} (hlr : l ≤ r) (hr : r ≤ n) :
    rd H (.s sz ((xs.drop (l * sz)).take ((r - l) * sz))) (.slice (if k = l then A else A.map (·.add (l * sz))) (r - l) (k - l)) := by
  simp only [rd] at h ⊢
  obtain ⟨A', n', k', h1, h2, h3, h3', h4⟩ := h
  injection h1 with e1 e2 e3
  subst e1; subst e2; subst e3
  have hle : (r - l) * sz ≤ xs.length - l * sz := by
    rw [h2, ← Nat.sub_mul]
    exact Nat.mul_le_mul_right _ (by omega)
  refine ⟨_, _, _, rfl, by simp [List.length_take, List.length_drop]; omega, by omega, by omega, ?_⟩
  by_cases h0 : r - l = 0
  · exact .inl h0
  · rcases h4 with h4 | ⟨b, o, rfl, h6⟩
    · omega
    · refine .inr ⟨b, o + l * sz, ?_, rds.mk fun i x hx => ?_⟩
      · rw [if_neg (by omega)]; simp [add_off]
      · rw [List.getElem?_take] at hx
        split at hx
        · rw [List.getElem?_drop] at hx
          obtain ⟨u, h7, h8⟩ := h6.get _ x hx
          exact ⟨u, by rw [← h7]; congr 1; omega, h8⟩
        · cases hx

/-- The nil slice, and a row of our own that is kept from now on. -/
theorem rd.nil (H : Hp) (sz : Nat) : rd H (.s sz []) (.slice none 0 0) := by
  simp only [rd]
  exact ⟨none, 0, 0, rfl, by simp, Nat.le_refl _, by omega, .inl rfl⟩
theorem rd.ofRow {H H' : Hp} {e : TypeId} {sz : Nat} {v : Value} {n : Nat} {xs : List Value} {seg : Seg} {ds : List D} (h : Row e sz v n xs seg) (hH : ∀ p ∈ seg, H' p.1 = some p.2) (hr : RdL H ds xs) (hl : Le H H') : rd H' (.s sz ds) v := by
  obtain ⟨hlen, h⟩ := h
  rcases h with ⟨rfl, rfl, _⟩ | ⟨g, cap, cur, rfl, rfl, h1, h2, h3, h4⟩
  · have : xs = [] := List.eq_nil_of_length_eq_zero (by simpa using hlen)
    subst this
    have : ds = [] := List.eq_nil_of_length_eq_zero (by rw [hr.len]; rfl)
    subst this
    exact rd.nil _ _
  · simp only [rd]
    refine ⟨_, _, _, rfl, by rw [hr.len, hlen], h1, by simpa [maxLen] using h2, .inr ⟨g, 0, rfl, rds.mk fun i d hd => ?_⟩⟩
    obtain ⟨u, hu, hrd⟩ := hr.get i d hd
    refine ⟨u, ?_, hrd.mono hl⟩
    unfold cel
    rw [hH _ (List.mem_singleton.2 rfl)]
    rw [← h4, List.getElem?_take] at hu
    split at hu
    · simpa using hu
    · cases hu

/-- Slices of plain values. -/
theorem vals_len {H : Hp} {l : List Value} {v : Value} (h : rd H (.s 1 (l.map D.c)) v) : ∃ A c, v = .slice A l.length c ∧ l.length ≤ c ∧ c ≤ 9223372036854775807 := by
  obtain ⟨A, n, c, rfl, h1, h2, h3⟩ := h.s_len
  have : n = l.length := by simpa using h1.symm
  subst this
  exact ⟨A, c, rfl, h2, h3⟩
theorem vals_at {H : Hp} {l : List Value} {A : Option Addr} {n c : Nat} (h : rd H (.s 1 (l.map D.c)) (.slice A n c)) {i : Nat} {u : Value} (hi : l[i]? = some u) : ∃ b o, A = some ⟨b, o, none⟩ ∧ cel H b (o + i * 1) = some u := by
  have hlt : i < l.length := (List.getElem?_eq_some_iff.1 hi).1
  have hn : n = l.length := by
    obtain ⟨A', c', e, _⟩ := vals_len h
    injection e
  subst hn
  obtain ⟨_, b, o, rfl, hr⟩ := h.s_at (by omega)
  obtain ⟨u', h1, h2⟩ := hr.get i (.c u) (by simp [hi])
  simp only [rd] at h2
  subst h2
  exact ⟨b, o, rfl, by rw [Nat.mul_one]; exact h1⟩
end Go.Proofs.Ytapmmfabdmhdnaa.K
