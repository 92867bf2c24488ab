/-
  A table in one row: its cells by two indices; the reference's two tables.
-/
import Derived.Test.YtapmmfabdmhdnaaPairs
set_option linter.unusedVariables false
set_option linter.unusedSimpArgs false
namespace Go.Proofs.Ytapmmfabdmhdnaa.K
open Go Go.RowKit

def flatC (N M : Nat) (g : Nat → Nat → Value) : Array Value := ((List.range N).map fun a => g (a / M) (a % M)).toArray
def updV (g : Nat → Nat → Value) (i j : Nat) (v : Value) : Nat → Nat → Value := fun i' j' => if i' = i ∧ j' = j then v else g i' j'
theorem flat_size (N M : Nat) (g : Nat → Nat → Value) : (flatC N M g).size = N := by simp [flatC]
theorem flat_ij {M i j : Nat} (hj : j < M) : (i * M + j) / M = i ∧ (i * M + j) % M = j := by
  have hM : 0 < M := by omega
  constructor
  · rw [Nat.add_comm, Nat.add_mul_div_right _ _ hM, Nat.div_eq_of_lt hj, Nat.zero_add]
  · rw [Nat.add_comm, Nat.add_mul_mod_self_right, Nat.mod_eq_of_lt hj]
theorem flat_get {N M i j a : Nat} {g : Nat → Nat → Value} (hj : j < M) (ha : a = i * M + j) (hN : a < N) : lget (flatC N M g).toList (0 + a * 1) = some (g i j) := by
  subst ha
  obtain ⟨h1, h2⟩ := flat_ij (i := i) hj
  rw [lget_eq]
  simp [flatC, List.getElem?_range hN, h1, h2]
theorem flat_set {N M i j a : Nat} {g : Nat → Nat → Value} {v : Value} (hj : j < M) (ha : a = i * M + j) : (flatC N M g).setIfInBounds (0 + a * 1) v = flatC N M (updV g i j v) := by
  subst ha
  obtain ⟨h1, h2⟩ := flat_ij (i := i) hj
  simp only [flatC, List.setIfInBounds_toArray, Nat.zero_add, Nat.mul_one]
  congr 1
  refine List.ext_getElem? fun q => ?_
  rw [List.getElem?_set]
  by_cases h : i * M + j = q
  · subst h
    by_cases hN : i * M + j < N
    · simp [hN, updV, h1, h2]
    · have : (List.range N)[i * M + j]? = none := by simp; omega
      simp [hN]
  · rw [if_neg h]
    simp only [List.getElem?_map]
    by_cases hN : q < N
    · have hne : ¬ (q / M = i ∧ q % M = j) := by
        rintro ⟨e1, e2⟩
        apply h
        have := Nat.div_add_mod q M
        rw [e1, e2, Nat.mul_comm] at this
        exact this
      simp [List.getElem?_range hN, updV, hne]
    · have : (List.range N)[q]? = none := by simp; omega
      simp [this]
def intT (T : Nat → Nat → Int) : Nat → Nat → Value := fun i j => .int .i64 (T i j)
def boolT (S : Nat → Nat → Bool) : Nat → Nat → Value := fun i j => .bool (S i j)
def updB (S : Nat → Nat → Bool) (i j : Nat) (v : Bool) : Nat → Nat → Bool := fun i' j' => if i' = i ∧ j' = j then v else S i' j'
theorem intT_upd (T : Nat → Nat → Int) (i j : Nat) (v : Int) : updV (intT T) i j (.int .i64 v) = intT (upd T i j v) := by
  funext i' j'
  simp only [updV, intT, upd]
  split <;> rfl
theorem boolT_upd (S : Nat → Nat → Bool) (i j : Nat) (v : Bool) : updV (boolT S) i j (.bool v) = boolT (updB S i j v) := by
  funext i' j'
  simp only [updV, boolT, updB]
  split <;> rfl
theorem int_set {N M i j a : Nat} {T : Nat → Nat → Int} {v : Int} (hj : j < M) (ha : a = i * M + j) : (flatC N M (intT T)).setIfInBounds (0 + a * 1) (.int .i64 v) = flatC N M (intT (upd T i j v)) := by
  rw [flat_set hj ha, intT_upd]
theorem bool_set {N M i j a : Nat} {S : Nat → Nat → Bool} {v : Bool} (hj : j < M) (ha : a = i * M + j) : (flatC N M (boolT S)).setIfInBounds (0 + a * 1) (.bool v) = flatC N M (boolT (updB S i j v)) := by
  rw [flat_set hj ha, boolT_upd]
theorem int_get {N M i j a : Nat} {T : Nat → Nat → Int} (hj : j < M) (ha : a = i * M + j) (hN : a < N) : lget (flatC N M (intT T)).toList (0 + a * 1) = some (.int .i64 (T i j)) := flat_get hj ha hN
theorem bool_get {N M i j a : Nat} {S : Nat → Nat → Bool} (hj : j < M) (ha : a = i * M + j) (hN : a < N) : lget (flatC N M (boolT S)).toList (0 + a * 1) = some (.bool (S i j)) := flat_get hj ha hN
theorem made_int {N M : Nat} {z : Value} (hz : z.cells = #[.int .i64 0]) : madeCells z.cells (N * 1) = flatC N M (intT fun _ _ => 0) := by
  rw [hz]
  refine Array.ext_getElem? fun q => ?_
  simp only [madeCells, flatC, intT]
  by_cases h : q < N
  · simp [h, Nat.mod_one]
  · simp [h]
theorem made_bool {N M : Nat} {z : Value} (hz : z.cells = #[.bool false]) : madeCells z.cells (N * 1) = flatC N M (boolT fun _ _ => false) := by
  rw [hz]
  refine Array.ext_getElem? fun q => ?_
  simp only [madeCells, flatC, boolT]
  by_cases h : q < N
  · simp [h, Nat.mod_one]
  · simp [h]
/-- The entries of the first table that are right: as those of the second (OkT), but for the last row and column. -/
def OkS (b x : List Tr) (S : Nat → Nat → Bool) (k q : Nat) : Prop := ∀ i j s t, b[i]? = some s → x[j]? = some t → (k ≤ i ∨ (i + 1 = k ∧ q ≤ j)) → S i j = s.eqb t
theorem OkS.init (b x : List Tr) (S : Nat → Nat → Bool) : OkS b x S b.length (x.length + 1) := by
  intro i j s t hs ht h
  have h1 := (List.getElem?_eq_some_iff.1 hs).1
  have h2 := (List.getElem?_eq_some_iff.1 ht).1
  omega
theorem OkS.enter {b x : List Tr} {S : Nat → Nat → Bool} {k : Nat} (h : OkS b x S k (x.length + 1)) : OkS b x S k x.length := by
  intro i j s t hs ht hc
  have h2 := (List.getElem?_eq_some_iff.1 ht).1
  exact h i j s t hs ht (by omega)
theorem OkS.leave {b x : List Tr} {S : Nat → Nat → Bool} {k : Nat} (h : OkS b x S k 0) (hk : 0 < k) : OkS b x S (k - 1) (x.length + 1) := by
  intro i j s t hs ht hc
  have h2 := (List.getElem?_eq_some_iff.1 ht).1
  exact h i j s t hs ht (by omega)
theorem OkS.step {b x : List Tr} {S : Nat → Nat → Bool} {i j : Nat} {s t : Tr} (h : OkS b x S (i + 1) (j + 1)) (hs : b[i]? = some s) (ht : x[j]? = some t) : OkS b x (updB S i j (s.eqb t)) (i + 1) j := by
  intro i' j' s' t' hs' ht' hc
  unfold updB
  by_cases he : i' = i ∧ j' = j
  · obtain ⟨rfl, rfl⟩ := he
    rw [hs] at hs'; rw [ht] at ht'
    injection hs' with hs'; injection ht' with ht'
    subst hs'; subst ht'
    simp
  · rw [if_neg he]
    exact h i' j' s' t' hs' ht' (by omega)
theorem mul_bd {i m : Nat} (hi : i ≤ 8193) (hm : m ≤ 8193) : i * m ≤ 67125249 := Nat.le_trans (Nat.mul_le_mul hi hm) (by omega)
end Go.Proofs.Ytapmmfabdmhdnaa.K
