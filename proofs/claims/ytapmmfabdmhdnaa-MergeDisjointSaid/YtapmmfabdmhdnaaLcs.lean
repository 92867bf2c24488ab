/-
  The alignment of lists that differ in one place, or by one more element; the merge of their nodes.
-/
import Derived.Test.YtapmmfabdmhdnaaPlain
set_option linter.unusedVariables false
set_option linter.unusedSimpArgs false
namespace Go.Proofs.Ytapmmfabdmhdnaa.K
open Go Go.RowKit

theorem eqb_ne {t u : Tr} (h : t ≠ u) : t.eqb u = false := by rw [Tr.eqb_eq]; exact decide_eq_false h
theorem eqb_same (t : Tr) : t.eqb t = true := (Tr.eqb_iff t t).2 rfl

/-! bounds of the longest common part -/
theorem lcs_right : ∀ (b : List Tr), (∀ x xs, lcs b (x :: xs) ≤ lcs b xs + 1) ∧ (∀ c xs, lcs b xs ≤ lcs (c :: b) xs)
  | [] => ⟨fun x xs => by simp [lcs], fun c xs => by simp [lcs]⟩
  | b :: bs => by
    obtain ⟨p, m⟩ := lcs_right bs
    have p' : ∀ x xs, lcs (b :: bs) (x :: xs) ≤ lcs (b :: bs) xs + 1 := by
      intro x xs
      have h1 := m b xs
      have h2 := p x xs
      rw [lcs_cons]
      split <;> omega
    refine ⟨p', fun c xs => ?_⟩
    cases xs with
    | nil => simp [lcs_nil]
    | cons y ys =>
      rw [lcs_cons c y]
      split
      · exact p' y ys
      · omega
theorem lcs_plus (b : List Tr) (hm : ∀ x xs, lcs b xs ≤ lcs b (x :: xs)) (c : Tr) : ∀ xs, lcs (c :: b) xs ≤ lcs b xs + 1
  | [] => by simp [lcs_nil]
  | y :: ys => by
    have ih := lcs_plus b hm c ys
    have h1 := hm y ys
    rw [lcs_cons]
    split <;> omega
theorem lcs_left : ∀ (b : List Tr) (x : Tr) (xs : List Tr), lcs b xs ≤ lcs b (x :: xs)
  | [], x, xs => by simp [lcs]
  | c :: b, x, xs => by
    have h1 := lcs_plus b (lcs_left b) c xs
    rw [lcs_cons]
    split <;> omega
theorem lcs_skipL {d : Tr} {b : List Tr} : ∀ {x : List Tr}, d ∉ x → lcs (d :: b) x = lcs b x
  | [], _ => by simp [lcs_nil]
  | y :: ys, h => by
    simp only [List.mem_cons, not_or] at h
    have h1 := lcs_left b y ys
    rw [lcs_cons, eqb_ne h.1, lcs_skipL h.2]
    simp only [Bool.false_eq_true, if_false]
    omega
theorem lcs_skipR {d : Tr} {xs : List Tr} : ∀ {b : List Tr}, d ∉ b → lcs b (d :: xs) = lcs b xs
  | [], _ => by simp [lcs]
  | c :: b, h => by
    simp only [List.mem_cons, not_or] at h
    have h1 := (lcs_right b).2 c xs
    rw [lcs_cons, eqb_ne (fun e => h.1 e.symm), lcs_skipR h.2]
    simp only [Bool.false_eq_true, if_false]
    omega
theorem lcs_self : ∀ (v : List Tr), lcs v v = v.length
  | [] => by simp [lcs]
  | a :: v => by rw [lcs_cons, eqb_same, if_pos rfl, lcs_self v]; rfl
theorem lcs_len_le : ∀ (b x : List Tr), lcs b x ≤ b.length
  | [], x => by simp [lcs]
  | c :: b, x => by
    have h1 := lcs_plus b (lcs_left b) c x
    have h2 := lcs_len_le b x
    simp only [List.length_cons]; omega

/-! the pairs -/
def diag : Nat → Nat → Nat → List (Nat × Nat)
  | 0, _, _ => []
  | n + 1, i, j => (i, j) :: diag n (i + 1) (j + 1)
theorem diag_snoc : ∀ (n i j : Nat), diag n i j ++ [(i + n, j + n)] = diag (n + 1) i j
  | 0, i, j => by simp [diag]
  | n + 1, i, j => by
    have := diag_snoc n (i + 1) (j + 1)
    rw [diag, List.cons_append, show i + (n + 1) = i + 1 + n by omega, show j + (n + 1) = j + 1 + n by omega, this]
    rfl
theorem pw_same : ∀ (f : Nat) (v : List Tr) (i j : Nat), v.length ≤ f → pw f v v i j = diag v.length i j
  | 0, [], i, j, _ => rfl
  | f + 1, [], i, j, _ => rfl
  | f + 1, a :: v, i, j, h => by
    simp only [pw, eqb_same, if_true, List.length_cons, diag]
    rw [pw_same f v (i + 1) (j + 1) (by simp at h; omega)]
theorem pw_prefix : ∀ (u : List Tr) (f : Nat) (b x : List Tr) (i j : Nat), pw (u.length + f) (u ++ b) (u ++ x) i j = diag u.length i j ++ pw f b x (i + u.length) (j + u.length)
  | [], f, b, x, i, j => by simp [diag]
  | a :: u, f, b, x, i, j => by
    rw [List.length_cons, show u.length + 1 + f = (u.length + f) + 1 by omega]
    simp only [List.cons_append, pw, eqb_same, if_true, diag]
    rw [pw_prefix u f b x (i + 1) (j + 1), show i + 1 + u.length = i + (u.length + 1) by omega, show j + 1 + u.length = j + (u.length + 1) by omega]
/-- One more at the front of the second list. -/
theorem pw_more {d : Tr} {v : List Tr} (h : d ∉ v) (f i j : Nat) (hf : v.length + 1 ≤ f) : pw f v (d :: v) i j = diag v.length i (j + 1) := by
  obtain ⟨f, rfl⟩ : ∃ g, f = g + 1 := ⟨f - 1, by omega⟩
  cases v with
  | nil => simp [pw, diag]
  | cons y ys =>
    have hd := h
    simp only [List.mem_cons, not_or] at h
    have h1 : lcs (y :: ys) (y :: ys) = (y :: ys).length := lcs_self _
    have h2 : lcs ys (d :: y :: ys) = lcs ys (y :: ys) := lcs_skipR h.2
    have h3 := lcs_len_le ys (y :: ys)
    have h4 : ¬ (lcs (y :: ys) (y :: ys) ≤ lcs ys (d :: y :: ys)) := by rw [h1, h2, List.length_cons]; omega
    simp only [pw, eqb_ne (fun e => h.1 e.symm), Bool.false_eq_true, if_false, h4]
    rw [pw_same f (y :: ys) i (j + 1) (by omega)]
/-- One other at the front of both lists. -/
theorem pw_other {d d' : Tr} {v : List Tr} (hne : d ≠ d') (h : d ∉ v) (h' : d' ∉ v) (f i j : Nat) (hf : v.length + 2 ≤ f) : pw f (d :: v) (d' :: v) i j = diag v.length (i + 1) (j + 1) := by
  obtain ⟨f, rfl⟩ : ∃ g, f = g + 1 := ⟨f - 1, by omega⟩
  have h1 : lcs (d :: v) v = lcs v v := lcs_skipL h
  have h2 : lcs v (d' :: v) = lcs v v := lcs_skipR h'
  simp only [pw, eqb_ne hne, Bool.false_eq_true, if_false, h1, h2, Nat.le_refl, if_true]
  exact pw_more h' f (i + 1) j (by omega)
theorem pairs_other {d d' : Tr} {u v : List Tr} (hne : d ≠ d') (h : d ∉ v) (h' : d' ∉ v) : pairsP (u ++ d :: v) (u ++ d' :: v) = diag u.length 0 0 ++ diag (v.length + 1) (u.length + 1) (u.length + 1) := by
  unfold pairsP
  rw [show (u ++ d :: v).length + (u ++ d' :: v).length = u.length + ((d :: v).length + (u ++ d' :: v).length) by simp only [List.length_append]; omega, pw_prefix, pw_other hne h h' _ _ _ (by simp; omega), ← diag_snoc, List.append_assoc]
  simp only [List.length_append, List.length_cons, Nat.zero_add]
  rw [show u.length + (v.length + 1) = u.length + 1 + v.length by omega]
theorem pairs_more {d : Tr} {u v : List Tr} (h : d ∉ v) : pairsP (u ++ v) (u ++ d :: v) = diag u.length 0 0 ++ diag (v.length + 1) u.length (u.length + 1) := by
  unfold pairsP
  rw [show (u ++ v).length + (u ++ d :: v).length = u.length + (v.length + (u ++ d :: v).length) by simp only [List.length_append]; omega, pw_prefix, pw_more h _ _ _ (by simp; omega), ← diag_snoc, List.append_assoc]
  simp only [List.length_append, List.length_cons, Nat.zero_add]
  rw [show u.length + (v.length + 1) = u.length + 1 + v.length by omega]

/-! the alignment -/
theorem go_diag (x : List Tr) : ∀ (n i j : Nat) (r : List (Nat × Nat)) (a : Al), alignGo x (diag n i j ++ r) i j a = alignGo x r (i + n) (j + n) a
  | 0, i, j, r, a => by simp [diag]
  | n + 1, i, j, r, a => by
    simp only [diag, List.cons_append, alignGo, Nat.sub_self, gapK, gapI, if_true]
    rw [go_diag x n (i + 1) (j + 1) r a, show i + 1 + n = i + (n + 1) by omega, show j + 1 + n = j + (n + 1) by omega]
theorem align_other {d d' : Tr} {u v : List Tr} (hne : d ≠ d') (h : d ∉ v) (h' : d' ∉ v) :
    alignP (u ++ d :: v) (u ++ d' :: v) = ⟨(List.replicate (u ++ d :: v).length Fate.kept).set u.length (.chg d'), List.replicate ((u ++ d :: v).length + 1) []⟩ := by
  unfold alignP
  rw [pairs_other hne h h', go_diag]
  simp only [diag, alignGo, Nat.zero_add]
  rw [← List.append_nil (diag v.length _ _), go_diag]
  simp only [alignGo, show u.length + 1 - u.length = 1 by omega, gapK, gapI, if_true, Nat.add_zero, List.getD_eq_getElem?_getD]
  rw [List.getElem?_append_right (Nat.le_refl _), Nat.sub_self]
  simp
theorem align_more {d : Tr} {u v : List Tr} (h : d ∉ v) :
    alignP (u ++ v) (u ++ d :: v) = ⟨List.replicate (u ++ v).length Fate.kept, (List.replicate ((u ++ v).length + 1) []).set u.length [d]⟩ := by
  unfold alignP
  rw [pairs_more h, go_diag]
  simp only [diag, alignGo, Nat.zero_add]
  rw [← List.append_nil (diag v.length _ _), go_diag]
  simp only [alignGo, Nat.sub_self, gapK, gapI, show u.length + 1 - u.length = 1 by omega]
  rw [if_neg (by omega)]
  simp
end Go.Proofs.Ytapmmfabdmhdnaa.K
