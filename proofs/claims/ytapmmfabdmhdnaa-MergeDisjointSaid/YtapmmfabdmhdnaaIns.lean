/-
  A row of leaves into which each side inserts one more: at different places they combine, at the same one they are a conflict there.
-/
import Derived.Test.YtapmmfabdmhdnaaLcs
import Derived.Test.YtapmmfabdmhdnaaTurn
set_option linter.unusedVariables false
set_option linter.unusedSimpArgs false
namespace Go.Proofs.Ytapmmfabdmhdnaa.K
open Go Go.RowKit

def lfK (k : Nat) : Tr := .node ⟨#[UInt8.ofNat (97 + k)]⟩ []
def wL : Tr := .node ⟨#[108, 101, 102, 116]⟩ []
def wR : Tr := .node ⟨#[114, 105, 103, 104, 116]⟩ []
/-- What stands behind k rounds: before each leaf what ds says. -/
def rnd (n : Nat) (ds : Nat → List Tr) : Nat → List Tr
  | 0 => []
  | k + 1 => rnd n ds k ++ ds k ++ (if k < n then [lfK k] else [])
def at1 (t : Tr) (a : Nat) : Nat → List Tr := fun k => if k = a then [t] else []
def at2 (a b : Nat) : Nat → List Tr := fun k => at1 wL a k ++ at1 wR b k
def no (_ : Nat) : List Tr := []
theorem rnd_no (n : Nat) : ∀ k, k ≤ n → rnd n no k = (List.range k).map lfK
  | 0, _ => rfl
  | k + 1, h => by
    rw [rnd, rnd_no n k (by omega), if_pos (by omega), List.range_succ, List.map_append]
    simp [no]
theorem rnd_all (n : Nat) : rnd n no (n + 1) = (List.range n).map lfK := by
  rw [rnd, rnd_no n n (Nat.le_refl _), if_neg (by omega)]
  simp [no]
theorem rnd_at (n : Nat) (t : Tr) (a : Nat) (ha : a ≤ n) : ∀ k, k ≤ n + 1 → rnd n (at1 t a) k = if a < k then ((List.range (min k n)).map lfK).take a ++ t :: ((List.range (min k n)).map lfK).drop a else (List.range k).map lfK
  | 0, _ => by simp [rnd]
  | k + 1, h => by
    rw [rnd, rnd_at n t a ha k (by omega)]
    by_cases h1 : a < k
    · rw [if_pos h1, if_pos (show a < k + 1 by omega)]
      have e0 : at1 t a k = [] := if_neg (show ¬ k = a by omega)
      rw [e0, List.append_nil]
      by_cases h2 : k < n
      · rw [if_pos h2, show min k n = k by omega, show min (k + 1) n = k + 1 by omega, List.range_succ, List.map_append]
        rw [List.take_append_of_le_length (by simp; omega), List.drop_append_of_le_length (by simp; omega)]
        simp
      · rw [if_neg h2, show min k n = n by omega, show min (k + 1) n = n by omega, List.append_nil]
    · rw [if_neg h1]
      by_cases h3 : k = a
      · subst h3
        rw [if_pos (show k < k + 1 by omega), show at1 t k k = [t] from if_pos rfl]
        by_cases h2 : k < n
        · rw [if_pos h2, show min (k + 1) n = k + 1 by omega, List.range_succ, List.map_append]
          rw [List.take_append_of_le_length (by simp), List.take_of_length_le (by simp), List.drop_append_of_le_length (by simp), List.drop_of_length_le (by simp)]
          simp
        · rw [if_neg h2, show min (k + 1) n = k by omega, List.append_nil, List.take_of_length_le (by simp), List.drop_of_length_le (by simp)]
      · rw [if_neg (show ¬ a < k + 1 by omega), show at1 t a k = [] from if_neg h3, if_pos (show k < n by omega), List.append_nil, List.range_succ, List.map_append]
        rfl
theorem rnd_one (n : Nat) (t : Tr) (a : Nat) (ha : a ≤ n) : rnd n (at1 t a) (n + 1) = ((List.range n).map lfK).take a ++ t :: ((List.range n).map lfK).drop a := by
  rw [rnd_at n t a ha _ (Nat.le_refl _), if_pos (by omega), show min (n + 1) n = n by omega]
theorem wL_no (k : Nat) : wL ≠ lfK k := by
  intro h
  simp only [wL, lfK, Tr.node.injEq, and_true] at h
  have := congrArg (fun b : ByteArray => b.data.size) h
  simp at this
theorem wR_no (k : Nat) : wR ≠ lfK k := by
  intro h
  simp only [wR, lfK, Tr.node.injEq, and_true] at h
  have := congrArg (fun b : ByteArray => b.data.size) h
  simp at this
theorem wL_wR : wL ≠ wR := by
  intro h
  simp only [wL, wR, Tr.node.injEq, and_true] at h
  have := congrArg (fun b : ByteArray => b.data.size) h
  simp at this
theorem w_notin {t : Tr} (h : ∀ k, t ≠ lfK k) (n : Nat) : t ∉ (List.range n).map lfK := by
  intro hc
  obtain ⟨k, _, e⟩ := List.mem_map.1 hc
  exact h k e.symm
theorem align_at {t : Tr} (h : ∀ k, t ≠ lfK k) {n a : Nat} (ha : a ≤ n) : alignP ((List.range n).map lfK) (rnd n (at1 t a) (n + 1)) = ⟨List.replicate n .kept, (List.replicate (n + 1) []).set a [t]⟩ := by
  have e := align_more (d := t) (u := ((List.range n).map lfK).take a) (v := ((List.range n).map lfK).drop a) (fun hc => w_notin h n (List.mem_of_mem_drop hc))
  rw [List.take_append_drop, ← rnd_one n t a ha] at e
  rw [e]
  have e1 : (((List.range n).map lfK).take a).length = a := by simp; omega
  rw [e1]
  simp
theorem ins_get (t : Tr) {n a i : Nat} (hi : i ≤ n) : ((List.replicate (n + 1) []).set a [t]).getD i [] = at1 t a i := by
  unfold at1
  rw [List.getD_eq_getElem?_getD, List.getElem?_set]
  by_cases h : a = i
  · subst h; simp [show a < n + 1 by omega]
  · rw [if_neg h, if_neg (fun e => h e.symm), List.getElem?_replicate, if_pos (by omega)]; rfl
theorem kids_ins (f : Tr → Tr → Tr → Path → Tr × List Path) {n a b : Nat} (hab : a ≠ b) (p : Path) : ∀ i, i ≤ n + 1 →
    mergeK f ((List.range n).map lfK) ⟨List.replicate n .kept, (List.replicate (n + 1) []).set a [wL]⟩ ⟨List.replicate n .kept, (List.replicate (n + 1) []).set b [wR]⟩ p [] i = (rnd n (at2 a b) i, [])
  | 0, _ => rfl
  | i + 1, h => by
    have ih := kids_ins f (n := n) hab p i (by omega)
    have e1 : insP (at1 wL a i) (at1 wR b i) (p ++ [i]) = (at2 a b i, []) := by
      unfold at2 at1
      by_cases h1 : i = a
      · subst h1; simp [insP, hab]
      · by_cases h2 : i = b
        · subst h2; simp [insP, h1]
        · simp [insP, h1, h2]
    simp only [mergeK, ins_get wL (n := n) (i := i) (by omega), ins_get wR (n := n) (i := i) (by omega), e1]
    by_cases hi : i < n
    · have e2 : ((List.range n).map lfK)[i]? = some (lfK i) := by simp [hi]
      simp only [e2]
      rw [ih]
      simp [kidP, rnd, hi, List.getD_eq_getElem?_getD]
    · have e2 : ((List.range n).map lfK)[i]? = none := by simp; omega
      simp only [e2]
      rw [ih]
      simp [rnd, hi]
theorem kids_same (f : Tr → Tr → Tr → Path → Tr × List Path) {n a : Nat} (p : Path) : ∀ i, i ≤ n + 1 →
    (mergeK f ((List.range n).map lfK) ⟨List.replicate n .kept, (List.replicate (n + 1) []).set a [wL]⟩ ⟨List.replicate n .kept, (List.replicate (n + 1) []).set a [wR]⟩ p [] i).2 = if a < i then [p ++ [a]] else []
  | 0, _ => rfl
  | i + 1, h => by
    have ih := kids_same f (n := n) (a := a) p i (by omega)
    have e1 : (insP (at1 wL a i) (at1 wR a i) (p ++ [i])).2 = if i = a then [p ++ [a]] else [] := by
      unfold at1
      by_cases h1 : i = a
      · subst h1; simp [insP, wL_wR]
      · simp [insP, h1]
    have e3 : (if a < i + 1 then [p ++ [a]] else ([] : List Path)) = (if a < i then [p ++ [a]] else []) ++ if i = a then [p ++ [a]] else [] := by
      by_cases h1 : a < i
      · rw [if_pos h1, if_pos (by omega), if_neg (by omega)]; rfl
      · by_cases h2 : i = a
        · rw [if_neg h1, if_pos (by omega), if_pos h2]; rfl
        · rw [if_neg h1, if_neg (by omega), if_neg h2]; rfl
    rw [e3]
    simp only [mergeK, ins_get wL (n := n) (i := i) (by omega), ins_get wR (n := n) (i := i) (by omega)]
    by_cases hi : i < n
    · have e2 : ((List.range n).map lfK)[i]? = some (lfK i) := by simp [hi]
      simp only [e2, ih, e1]
      simp [kidP, hi, List.getD_eq_getElem?_getD]
    · have e2 : ((List.range n).map lfK)[i]? = none := by simp; omega
      simp only [e2, ih, e1]
def tN (ks : List Tr) : Tr := .node ⟨#[116]⟩ ks
theorem ins_F {n a b : Nat} (ha : a ≤ n) (hb : b ≤ n) (k : Nat) : mergeF (k + 1) (tN (rnd n no (n + 1))) (tN (rnd n (at1 wL a) (n + 1))) (tN (rnd n (at1 wR b) (n + 1))) [] =
    (tN (mergeK (mergeF k) ((List.range n).map lfK) ⟨List.replicate n .kept, (List.replicate (n + 1) []).set a [wL]⟩ ⟨List.replicate n .kept, (List.replicate (n + 1) []).set b [wR]⟩ [] [] (n + 1)).1,
      (mergeK (mergeF k) ((List.range n).map lfK) ⟨List.replicate n .kept, (List.replicate (n + 1) []).set a [wL]⟩ ⟨List.replicate n .kept, (List.replicate (n + 1) []).set b [wR]⟩ [] [] (n + 1)).2) := by
  have l1 : (rnd n (at1 wL a) (n + 1)).length = n + 1 := by rw [rnd_one n _ a ha]; simp; omega
  have l2 : (rnd n (at1 wR b) (n + 1)).length = n + 1 := by rw [rnd_one n _ b hb]; simp; omega
  have n1 : tN (rnd n (at1 wL a) (n + 1)) ≠ tN (rnd n no (n + 1)) := by
    intro h
    simp only [tN, Tr.node.injEq, true_and] at h
    have := congrArg List.length h
    rw [l1, rnd_all] at this; simp at this
  have n2 : tN (rnd n (at1 wR b) (n + 1)) ≠ tN (rnd n no (n + 1)) := by
    intro h
    simp only [tN, Tr.node.injEq, true_and] at h
    have := congrArg List.length h
    rw [l2, rnd_all] at this; simp at this
  have n3 : tN (rnd n (at1 wL a) (n + 1)) ≠ tN (rnd n (at1 wR b) (n + 1)) := by
    intro h
    simp only [tN, Tr.node.injEq, true_and] at h
    have m1 : wL ∈ rnd n (at1 wL a) (n + 1) := by rw [rnd_one n _ a ha]; simp
    rw [h, rnd_one n _ b hb] at m1
    rcases List.mem_append.1 m1 with m | m
    · exact w_notin wL_no n (List.mem_of_mem_take m)
    · rcases List.mem_cons.1 m with m | m
      · exact wL_wR m
      · exact w_notin wL_no n (List.mem_of_mem_drop m)
  unfold tN at *
  rw [mf_c n1 n2 n3, rnd_all, align_at wL_no ha, align_at wR_no hb, labP_1 rfl, labC_1 (.inl rfl)]
  simp
theorem ins_R {n a b : Nat} (ha : a ≤ n) (hb : b ≤ n) (hab : a ≠ b) : mergeR (tN (rnd n no (n + 1))) (tN (rnd n (at1 wL a) (n + 1))) (tN (rnd n (at1 wR b) (n + 1))) = (tN (rnd n (at2 a b) (n + 1)), []) := by
  obtain ⟨k, hk⟩ := mergeF_pos (b := tN (rnd n no (n + 1))) (l := tN (rnd n (at1 wL a) (n + 1))) (r := tN (rnd n (at1 wR b) (n + 1))) (p := [])
  simp only [mergeR, hk, ins_F ha hb, kids_ins _ hab _ _ (Nat.le_refl _), if_true]
theorem ins_C {n a : Nat} (ha : a ≤ n) : mergeR (tN (rnd n no (n + 1))) (tN (rnd n (at1 wL a) (n + 1))) (tN (rnd n (at1 wR a) (n + 1))) = (Tr.zero, [[a]]) := by
  obtain ⟨k, hk⟩ := mergeF_pos (b := tN (rnd n no (n + 1))) (l := tN (rnd n (at1 wL a) (n + 1))) (r := tN (rnd n (at1 wR a) (n + 1))) (p := [])
  have h := kids_same (mergeF k) (n := n) (a := a) [] (n + 1) (Nat.le_refl _)
  rw [if_pos (by omega)] at h
  simp only [mergeR, hk, ins_F ha ha, h]
  simp [canon, addP, insB]
theorem rnd_len (n : Nat) (ds : Nat → List Tr) (h : ∀ k, (ds k).length ≤ 2) : ∀ k, (rnd n ds k).length ≤ 3 * k
  | 0 => by simp [rnd]
  | k + 1 => by
    have ih := rnd_len n ds h k
    have h2 := h k
    simp only [rnd, List.length_append]
    split <;> simp <;> omega
theorem leaf_sizes : ∀ (ks : List Tr), (∀ t ∈ ks, t.size = 1) → Tr.sizes ks = ks.length
  | [], _ => by simp [Tr.sizes]
  | t :: r, h => by
    have h1 := h t (by simp)
    have h2 := leaf_sizes r (fun u hu => h u (by simp [hu]))
    simp only [Tr.sizes, List.length_cons]; omega
theorem rnd_ones (n : Nat) (ds : Nat → List Tr) (h : ∀ k, ∀ t ∈ ds k, t.size = 1) : ∀ k, ∀ t ∈ rnd n ds k, t.size = 1
  | 0 => by simp [rnd]
  | k + 1 => by
    intro t ht
    simp only [rnd, List.mem_append] at ht
    rcases ht with (ht | ht) | ht
    · exact rnd_ones n ds h k t ht
    · exact h k t ht
    · split at ht
      · simp at ht; subst ht; simp [lfK, Tr.size, Tr.sizes]
      · cases ht
theorem at1_len (t : Tr) (a k : Nat) : (at1 t a k).length ≤ 1 := by unfold at1; split <;> simp
theorem at2_len (a b k : Nat) : (at2 a b k).length ≤ 2 := by
  have h1 := at1_len wL a k
  have h2 := at1_len wR b k
  simp only [at2, List.length_append]; omega
theorem tN_size {n : Nat} (hn : n ≤ 20) (ds : Nat → List Tr) (h : ∀ k, (ds k).length ≤ 2) (h1 : ∀ k, ∀ t ∈ ds k, t.size = 1) : (tN (rnd n ds (n + 1))).size ≤ 64 := by
  have e1 := leaf_sizes _ (rnd_ones n ds h1 (n + 1))
  have e2 := rnd_len n ds h (n + 1)
  simp only [tN, Tr.size]; omega
theorem wL_1 : wL.size = 1 := by simp [wL, Tr.size, Tr.sizes]
theorem wR_1 : wR.size = 1 := by simp [wR, Tr.size, Tr.sizes]
theorem at1_1 {t : Tr} (ht : t.size = 1) (a k : Nat) : ∀ u ∈ at1 t a k, u.size = 1 := by
  intro u hu
  unfold at1 at hu
  split at hu
  · simp at hu; subst hu; exact ht
  · cases hu
theorem at2_1 (a b k : Nat) : ∀ u ∈ at2 a b k, u.size = 1 := by
  intro u hu
  rcases List.mem_append.1 hu with h | h
  · exact at1_1 wL_1 a k u h
  · exact at1_1 wR_1 b k u h
theorem rnd_t {n k : Nat} (h : k < n) (ds : Nat → List Tr) : rnd n ds (k + 1) = (rnd n ds k ++ ds k) ++ [lfK k] := by rw [rnd, if_pos h]
theorem rnd_f {n k : Nat} (h : ¬ k < n) (ds : Nat → List Tr) : rnd n ds (k + 1) = rnd n ds k ++ ds k := by rw [rnd, if_neg h, List.append_nil]
theorem at1_y {t : Tr} {a k : Nat} (h : k = a) : at1 t a k = [t] := if_pos h
theorem at1_n {t : Tr} {a k : Nat} (h : ¬ k = a) : at1 t a k = [] := if_neg h
/-- One row of trees, in a segment of its own. -/
def RT (H : Hp) (u : Value) (ts : List Tr) (xs : List Value) (seg : Seg) : Prop := Row 27 2 u ts.length xs seg ∧ RdL H (Tr.ds ts) xs
theorem RT.snoc {H : Hp} {u : Value} {ts : List Tr} {xs : List Value} {seg : Seg} {t : Tr} {c0 c1 : Value} (h : Row 27 2 u (ts.length + 1) (xs ++ [c0, c1]) seg) (hx : RdL H (Tr.ds ts) xs) (ht : RdL H t.d [c0, c1]) : RT H u (ts ++ [t]) (xs ++ [c0, c1]) seg :=
  ⟨by rw [List.length_append]; exact h, trs_snoc hx ht⟩
theorem leaf_d (H : Hp) (s : ByteArray) : RdL H (Tr.node s []).d [.string s, .slice none 0 0] := tr_mk (rd.nil _ _)
end Go.Proofs.Ytapmmfabdmhdnaa.K
