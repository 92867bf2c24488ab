/-
  The table of the alignment in memory: a row of rows, each a block of our own; what its entries are; the pairs step by step.
-/
import Derived.Test.YtapmmfabdmhdnaaMerge
set_option linter.unusedVariables false
set_option linter.unusedSimpArgs false
namespace Go.Proofs.Ytapmmfabdmhdnaa.K
open Go Go.RowKit

def rowC (m : Nat) (f : Nat → Int) : Array Value := ((List.range (m + 1)).map fun j => Value.int .i64 (f j)).toArray
def outL (m : Nat) (gs : List Nat) : List Value := gs.map fun g => Value.slice (some ⟨g, 0, none⟩) (m + 1) (m + 1)
def rowsFrom (m : Nat) (T : Nat → Nat → Int) : Nat → List Nat → Seg
  | _, [] => []
  | k, g :: r => (g, .cells (rowC m (T k)) 3 (0, 0)) :: rowsFrom m T (k + 1) r
def upd (T : Nat → Nat → Int) (i j : Nat) (v : Int) : Nat → Nat → Int := fun i' j' => if i' = i ∧ j' = j then v else T i' j'
theorem upd_same (T : Nat → Nat → Int) (i j : Nat) (v : Int) : upd T i j v i j = v := by simp [upd]
theorem upd_ne (T : Nat → Nat → Int) {i j i' j' : Nat} (v : Int) (h : ¬ (i' = i ∧ j' = j)) : upd T i j v i' j' = T i' j' := by simp only [upd]; rw [if_neg h]

theorem upd_upd (T : Nat → Nat → Int) (i j : Nat) (a v : Int) : upd (upd T i j a) i j v = upd T i j v := by
  funext i' j'
  simp only [upd]
  split <;> rfl

theorem rowC_size (m : Nat) (f : Nat → Int) : (rowC m f).size = m + 1 := by simp [rowC]
theorem rowC_get {m : Nat} {f : Nat → Int} {j : Nat} (h : j ≤ m) : lget (rowC m f).toList (0 + j * 1) = some (.int .i64 (f j)) := by
  rw [lget_eq]
  simp [rowC, List.getElem?_range (show j < m + 1 by omega)]
theorem outL_get {m : Nat} {gs : List Nat} {rest : List Value} {i g : Nat} (h : gs[i]? = some g) : lget (outL m gs ++ rest).toArray.toList (0 + i * 1) = some (.slice (some ⟨g, 0, none⟩) (m + 1) (m + 1)) := by
  have hlt : i < gs.length := (List.getElem?_eq_some_iff.1 h).1
  rw [lget_eq]
  obtain ⟨hlt', rfl⟩ := List.getElem?_eq_some_iff.1 h
  simp [outL, List.getElem?_append_left, hlt]
theorem outL_get0 {m : Nat} {gs : List Nat} {i g : Nat} (h : gs[i]? = some g) : lget (outL m gs).toArray.toList (0 + i * 1) = some (.slice (some ⟨g, 0, none⟩) (m + 1) (m + 1)) := by
  have := outL_get (m := m) (rest := []) h
  simpa using this
theorem rows_get {m : Nat} {T : Nat → Nat → Int} : ∀ {gs : List Nat} {k i g : Nat}, gs[i]? = some g → (rowsFrom m T k gs)[i]? = some (g, .cells (rowC m (T (k + i))) 3 (0, 0))
  | [], _, _, _, h => by simp at h
  | a :: r, k, 0, g, h => by simp at h; subst h; simp [rowsFrom]
  | a :: r, k, i + 1, g, h => by
    have := rows_get (m := m) (T := T) (gs := r) (k := k + 1) (i := i) (g := g) (by simpa using h)
    simp only [rowsFrom, List.getElem?_cons_succ, this]
    congr 5; omega
theorem rows_get0 {m : Nat} {T : Nat → Nat → Int} {gs : List Nat} {i g : Nat} (h : gs[i]? = some g) : (rowsFrom m T 0 gs)[i]? = some (g, .cells (rowC m (T i)) 3 (0, 0)) := by
  have := rows_get (m := m) (T := T) (k := 0) h
  simpa using this
theorem rowC_set {m : Nat} {T : Nat → Nat → Int} {i j : Nat} {v : Int} (hj : j ≤ m) : (rowC m (T i)).setIfInBounds (0 + j * 1) (.int .i64 v) = rowC m (upd T i j v i) := by
  simp only [rowC, List.setIfInBounds_toArray, Nat.zero_add, Nat.mul_one]
  congr 1
  refine List.ext_getElem? fun q => ?_
  rw [List.getElem?_set]
  by_cases h : j = q
  · subst h
    simp [upd, show j < m + 1 by omega]
  · rw [if_neg h]
    simp only [List.getElem?_map]
    by_cases hq : q < m + 1
    · simp [List.getElem?_range hq, upd, show ¬ q = j by omega]
    · have : (List.range (m + 1))[q]? = none := by simp; omega
      simp [this]
theorem rows_congr {m : Nat} {T T' : Nat → Nat → Int} : ∀ {gs : List Nat} {k : Nat}, (∀ i, k ≤ i → i < k + gs.length → T i = T' i) → rowsFrom m T k gs = rowsFrom m T' k gs
  | [], _, _ => rfl
  | g :: r, k, h => by
    simp only [rowsFrom]
    rw [h k (by omega) (by simp), rows_congr (fun i h1 h2 => h i (by omega) (by simp at h2 ⊢; omega))]
theorem rows_set {m : Nat} {T : Nat → Nat → Int} {j : Nat} {v : Int} (hj : j ≤ m) : ∀ {gs : List Nat} {k i g : Nat}, gs[i]? = some g →
    (rowsFrom m T k gs).set i (g, .cells ((rowC m (T (k + i))).setIfInBounds (0 + j * 1) (.int .i64 v)) 3 (0, 0)) = rowsFrom m (upd T (k + i) j v) k gs
  | [], _, _, _, h => by simp at h
  | a :: r, k, 0, g, h => by
    simp at h; subst h
    simp only [rowsFrom, List.set_cons_zero, Nat.add_zero, rowC_set hj]
    congr 1
    exact rows_congr fun i h1 h2 => by
      funext q
      rw [upd_ne]
      omega
  | a :: r, k, i + 1, g, h => by
    have := rows_set (T := T) (v := v) hj (gs := r) (k := k + 1) (i := i) (g := g) (by simpa using h)
    rw [show k + 1 + i = k + (i + 1) by omega] at this
    simp only [rowsFrom, List.set_cons_succ, this]
    have e : T k = upd T (k + (i + 1)) j v k := by
      funext q
      rw [upd_ne]
      omega
    rw [← e]
theorem rows_set0 {m : Nat} {T : Nat → Nat → Int} {j : Nat} {v : Int} {gs : List Nat} {i g : Nat} (hj : j ≤ m) (h : gs[i]? = some g) :
    (rowsFrom m T 0 gs).set i (g, .cells ((rowC m (T i)).setIfInBounds (0 + j * 1) (.int .i64 v)) 3 (0, 0)) = rowsFrom m (upd T i j v) 0 gs := by
  have := rows_set (T := T) (v := v) hj (k := 0) h
  simpa using this
theorem rows_snoc {m : Nat} {T : Nat → Nat → Int} {g : Nat} : ∀ {gs : List Nat} {k : Nat}, rowsFrom m T k (gs ++ [g]) = rowsFrom m T k gs ++ [(g, .cells (rowC m (T (k + gs.length))) 3 (0, 0))]
  | [], k => by simp [rowsFrom]
  | a :: r, k => by
    simp only [List.cons_append, rowsFrom, rows_snoc (gs := r), List.length_cons]
    rw [show k + 1 + r.length = k + (r.length + 1) by omega]
theorem made_row {m : Nat} {z : Value} (hz : z.cells = #[.int .i64 0]) : madeCells z.cells ((m + 1) * 1) = rowC m (fun _ => 0) := by
  rw [hz]
  refine Array.ext_getElem? fun q => ?_
  simp only [madeCells, rowC]
  by_cases h : q < m + 1
  · simp [h, Nat.mod_one]
  · have : (List.range (m + 1))[q]? = none := by simp; omega
    simp [h]
theorem made_out {m k : Nat} {z : Value} (hz : z.cells = #[.slice none 0 0]) : madeCells z.cells (k * 1) = (outL m [] ++ List.replicate k (Value.slice none 0 0)).toArray := by
  rw [hz]
  refine Array.ext_getElem? fun q => ?_
  simp only [madeCells, outL, List.map_nil, List.nil_append]
  by_cases h : q < k
  · simp [h, Nat.mod_one]
  · simp [h]
theorem out_snoc {m c : Nat} {gs : List Nat} {g : Nat} (h : 0 < c) : ((outL m gs ++ List.replicate c (Value.slice none 0 0)).toArray).setIfInBounds (0 + gs.length * 1) (.slice (some ⟨g, 0, none⟩) (m + 1) (m + 1)) = (outL m (gs ++ [g]) ++ List.replicate (c - 1) (Value.slice none 0 0)).toArray := by
  obtain ⟨c, rfl⟩ : ∃ d, c = d + 1 := ⟨c - 1, by omega⟩
  have e : gs.length = (outL m gs).length := by simp [outL]
  simp only [Nat.zero_add, Nat.mul_one, List.setIfInBounds_toArray, List.replicate_succ]
  rw [e, List.set_append_right _ _ (Nat.le_refl _)]
  simp [outL]

/-- The entries that are right: the rows from k on, and those of the row before from q on. -/
def OkT (b x : List Tr) (T : Nat → Nat → Int) (k q : Nat) : Prop := ∀ i j, i ≤ b.length → j ≤ x.length → (k ≤ i ∨ (i + 1 = k ∧ q ≤ j)) → T i j = (lcs (b.drop i) (x.drop j) : Int)
theorem OkT.init (b x : List Tr) : OkT b x (fun _ _ => 0) b.length (x.length + 1) := by
  intro i j h1 h2 h3
  have : b.drop i = [] := by
    apply List.drop_eq_nil_of_le
    omega
  rw [this]; rfl
theorem OkT.enter {b x : List Tr} {T : Nat → Nat → Int} {k : Nat} (h : OkT b x T k (x.length + 1)) (hz : ∀ i j, i + 1 ≤ k → T i j = 0) : OkT b x T k x.length := by
  intro i j h1 h2 h3
  rcases h3 with h3 | ⟨h3, h4⟩
  · exact h i j h1 h2 (.inl h3)
  · have e : j = x.length := by omega
    rw [hz i j (by omega), e, List.drop_length, lcs_nil]
    rfl
theorem OkT.leave {b x : List Tr} {T : Nat → Nat → Int} {k : Nat} (h : OkT b x T k 0) (hk : 0 < k) : OkT b x T (k - 1) (x.length + 1) := by
  intro i j h1 h2 h3
  refine h i j h1 h2 ?_
  omega
theorem drop_cons {α : Type} {l : List α} {i : Nat} {a : α} (h : l[i]? = some a) : l.drop i = a :: l.drop (i + 1) := by
  obtain ⟨hlt, rfl⟩ := List.getElem?_eq_some_iff.1 h
  exact List.drop_eq_getElem_cons hlt
/-- One entry. -/
theorem OkT.step {b x : List Tr} {T : Nat → Nat → Int} {i j : Nat} {s t : Tr} {v : Int} (h : OkT b x T (i + 1) (j + 1)) (hs : b[i]? = some s) (ht : x[j]? = some t)
    (hv : v = if s = t then T (i + 1) (j + 1) + 1 else max (T (i + 1) j) (T i (j + 1))) : OkT b x (upd T i j v) (i + 1) j := by
  have hi : i < b.length := (List.getElem?_eq_some_iff.1 hs).1
  have hj : j < x.length := (List.getElem?_eq_some_iff.1 ht).1
  intro i' j' h1 h2 h3
  by_cases he : i' = i ∧ j' = j
  · obtain ⟨rfl, rfl⟩ := he
    have e1 := h (i' + 1) (j' + 1) (by omega) (by omega) (.inl (by omega))
    have e2 := h (i' + 1) j' (by omega) (by omega) (.inl (by omega))
    have e3 := h i' (j' + 1) (by omega) (by omega) (.inr ⟨rfl, by omega⟩)
    rw [upd_same, hv, e1, e2, e3, drop_cons hs, drop_cons ht, lcs_cons, Tr.eqb_eq]
    by_cases hst : s = t
    · simp [hst]
    · simp only [hst, if_false, decide_false, Bool.false_eq_true]
      omega
  · rw [upd_ne T v he]
    refine h i' j' h1 h2 ?_
    omega
theorem lcs_le : ∀ (b x : List Tr), lcs b x ≤ b.length
  | [], x => by simp [lcs]
  | b :: bs, [] => by simp [lcs, lcsRow]
  | b :: bs, x :: xs => by
    have h1 := lcs_le bs xs
    have h2 := lcs_le bs (x :: xs)
    have h3 := lcs_le (b :: bs) xs
    rw [lcs_cons]
    simp only [List.length_cons] at *
    split <;> omega

/-! the pairs -/
def pairsV (l : List (Nat × Nat)) : List Value := l.flatMap fun p => [Value.int .i64 (p.1 : Int), .int .i64 (p.2 : Int)]
def pairsD (l : List (Nat × Nat)) : D := .s 2 ((pairsV l).map D.c)
theorem pairsV_len (l : List (Nat × Nat)) : (pairsV l).length = l.length * 2 := by
  induction l with
  | nil => rfl
  | cons p r ih => simp only [pairsV, List.flatMap_cons, List.length_append, List.length_cons, List.length_nil] at ih ⊢; omega
theorem pairsV_snoc (l : List (Nat × Nat)) (p : Nat × Nat) : pairsV (l ++ [p]) = pairsV l ++ [.int .i64 (p.1 : Int), .int .i64 (p.2 : Int)] := by simp [pairsV]
/-- What is still to come of the pairs. -/
def PwAt (b x : List Tr) (out : List (Nat × Nat)) (i j : Nat) : Prop := ∃ f, (b.length - i) + (x.length - j) ≤ f ∧ out ++ pw f (b.drop i) (x.drop j) i j = pw (b.length + x.length) b x 0 0
theorem PwAt.init (b x : List Tr) : PwAt b x [] 0 0 := ⟨b.length + x.length, by omega, by simp⟩
theorem PwAt.done {b x : List Tr} {out : List (Nat × Nat)} {i j : Nat} (h : PwAt b x out i j) (he : b.length ≤ i ∨ x.length ≤ j) : out ++ [(b.length, x.length)] = pairsP b x := by
  obtain ⟨f, h1, h2⟩ := h
  have e : pw f (b.drop i) (x.drop j) i j = [] := by
    cases f with
    | zero => rfl
    | succ f =>
      rcases he with he | he
      · rw [List.drop_eq_nil_of_le he]; simp [pw]
      · rw [List.drop_eq_nil_of_le he]; cases b.drop i <;> simp [pw]
  rw [e, List.append_nil] at h2
  rw [h2, pairsP]
theorem PwAt.succ {b x : List Tr} {out : List (Nat × Nat)} {i j : Nat} {s t : Tr} (h : PwAt b x out i j) (hs : b[i]? = some s) (ht : x[j]? = some t) :
    PwAt b x (if s = t then out ++ [(i, j)] else out) (if s = t then i + 1 else if lcs (b.drop i) (x.drop (j + 1)) ≤ lcs (b.drop (i + 1)) (x.drop j) then i + 1 else i)
      (if s = t then j + 1 else if lcs (b.drop i) (x.drop (j + 1)) ≤ lcs (b.drop (i + 1)) (x.drop j) then j else j + 1) := by
  have hi : i < b.length := (List.getElem?_eq_some_iff.1 hs).1
  have hj : j < x.length := (List.getElem?_eq_some_iff.1 ht).1
  obtain ⟨f, h1, h2⟩ := h
  obtain ⟨f, rfl⟩ : ∃ g, f = g + 1 := ⟨f - 1, by omega⟩
  refine ⟨f, ?_, ?_⟩
  · split
    · omega
    · split <;> omega
  · rw [← h2]
    conv => rhs; rw [drop_cons hs, drop_cons ht]
    simp only [pw, Tr.eqb_eq, decide_eq_true_eq]
    by_cases hst : s = t
    · simp [hst]
    · simp only [hst, if_false]
      rw [← drop_cons hs, ← drop_cons ht]
      split <;> rfl
theorem pw_len : ∀ (f : Nat) (b x : List Tr) (i j : Nat), (pw f b x i j).length ≤ b.length
  | 0, _, _, _, _ => by simp [pw]
  | f + 1, [], x, i, j => by simp [pw]
  | f + 1, b :: bs, [], i, j => by simp [pw]
  | f + 1, b :: bs, x :: xs, i, j => by
    have h1 := pw_len f bs xs (i + 1) (j + 1)
    have h2 := pw_len f bs (x :: xs) (i + 1) j
    have h3 := pw_len f (b :: bs) xs i (j + 1)
    simp only [pw, List.length_cons] at *
    split
    · simp; omega
    · split <;> omega
theorem PwAt.len {b x : List Tr} {out : List (Nat × Nat)} {i j : Nat} (h : PwAt b x out i j) : out.length ≤ b.length := by
  obtain ⟨f, h1, h2⟩ := h
  have := pw_len (b.length + x.length) b x 0 0
  rw [← h2, List.length_append] at this
  omega
end Go.Proofs.Ytapmmfabdmhdnaa.K
