/-
  What a side makes of kids, in memory: rows of fates and of insertions, set one by one.
-/
import Derived.Test.YtapmmfabdmhdnaaPairs
set_option linter.unusedVariables false
set_option linter.unusedSimpArgs false
namespace Go.Proofs.Ytapmmfabdmhdnaa.K
open Go Go.RowKit

set_option linter.unusedVariables false in
theorem RdL.set {H : Hp} : ∀ {ds : List D} {vs : List Value} {k : Nat} {d : D} {v : Value}, RdL H ds vs → rd H d v → RdL H (ds.set k d) (vs.set k v)
  | [], [], _, _, _, _, _ => trivial
  | _ :: _, _ :: _, 0, _, _, h, hd => ⟨hd, h.2⟩
  | _ :: _, _ :: _, k + 1, _, _, h, hd => ⟨h.1, RdL.set h.2 hd⟩
  | [], _ :: _, _, _, _, h, _ => h.elim
  | _ :: _, [], _, _, _, h, _ => h.elim
theorem set_toArr (l : List Value) {o k : Nat} (v : Value) (h : o = k) : l.toArray.setIfInBounds o v = (l.set k v).toArray := by subst h; simp
theorem set3_toArr (l : List Value) {o k : Nat} (a b c : Value) (h : o = k) : putC l.toArray o [a, b, c] = (((l.set k a).set (k + 1) b).set (k + 2) c).toArray := by subst h; simp [putC]

theorem Fate.d_eq (f : Fate) : f.d = [.c (.int .i64 f.tag), .c (.string f.to.lab), .s 2 (Tr.ds f.to.kids)] := by
  unfold Fate.d
  cases hf : f.to with
  | node l ks => simp [Tr.d, Tr.lab, Tr.kids]
theorem Fate.ds_len (F : List Fate) : (Fate.ds F).length = F.length * 3 := by
  induction F with
  | nil => rfl
  | cons f r ih => simp only [Fate.ds, List.flatMap_cons, List.length_append, Fate.d_eq, List.length_cons, List.length_nil] at ih ⊢; omega
theorem Fate.ds_set (f : Fate) : ∀ (F : List Fate) (k : Nat), Fate.ds (F.set k f) = (((Fate.ds F).set (k * 3) (.c (.int .i64 f.tag))).set (k * 3 + 1) (.c (.string f.to.lab))).set (k * 3 + 2) (.s 2 (Tr.ds f.to.kids))
  | [], k => by simp [Fate.ds]
  | a :: F, 0 => by simp [Fate.ds, Fate.d_eq]
  | a :: F, k + 1 => by
    have ih := Fate.ds_set f F k
    simp only [Fate.ds] at ih
    simp only [List.set_cons_succ, Fate.ds, List.flatMap_cons, ih]
    rw [Fate.d_eq a]
    rw [show (k + 1) * 3 = k * 3 + 1 + 1 + 1 by omega]
    simp only [List.cons_append, List.nil_append]
    rw [show k * 3 + 1 + 1 + 1 + 1 = k * 3 + 1 + 1 + 1 + 1 by rfl, show k * 3 + 1 + 1 + 1 + 2 = k * 3 + 2 + 1 + 1 + 1 by omega]
    rfl
theorem Fate.ds_del : ∀ (F : List Fate) (k : Nat), F[k]? = some .kept → (Fate.ds F).set (k * 3) (.c (.int .i64 2)) = Fate.ds (F.set k .del)
  | [], k, h => by simp at h
  | a :: F, 0, h => by
    simp at h; subst h
    simp [Fate.ds, Fate.d_eq, Fate.tag, Fate.to]
  | a :: F, k + 1, h => by
    have ih := Fate.ds_del F k (by simpa using h)
    simp only [Fate.ds] at ih
    simp only [List.set_cons_succ, Fate.ds, List.flatMap_cons, ← ih]
    rw [Fate.d_eq a]
    rw [show (k + 1) * 3 = k * 3 + 1 + 1 + 1 by omega]
    rfl
theorem fate_set1 {H : Hp} {F : List Fate} {fv : List Value} {k : Nat} (h : RdL H (Fate.ds F) fv) (hk : F[k]? = some .kept) : RdL H (Fate.ds (F.set k .del)) (fv.set (k * 3) (.int .i64 2)) := by
  rw [← Fate.ds_del F k hk]
  exact h.set (by simp [rd])
theorem fate_set3 {H : Hp} {F : List Fate} {fv : List Value} {k : Nat} {t : Tr} {p0 p1 : Value} (h : RdL H (Fate.ds F) fv) (ht : RdL H t.d [p0, p1]) :
    RdL H (Fate.ds (F.set k (.chg t))) (((fv.set (k * 3) (.int .i64 1)).set (k * 3 + 1) p0).set (k * 3 + 2) p1) := by
  rw [Fate.ds_set]
  obtain ⟨l, ks⟩ := t
  simp only [Tr.d] at ht
  obtain ⟨h1, h2, _⟩ := ht
  exact ((h.set (by simp [rd, Fate.tag])).set h1).set h2

def insD (I : List (List Tr)) : List D := I.map fun l => D.s 2 (Tr.ds l)
theorem ins_set {H : Hp} {I : List (List Tr)} {iv : List Value} {k : Nat} {l : List Tr} {v : Value} (h : RdL H (insD I) iv) (hv : rd H (.s 2 (Tr.ds l)) v) : RdL H (insD (I.set k l)) (iv.set k v) := by
  have : insD (I.set k l) = (insD I).set k (.s 2 (Tr.ds l)) := by simp [insD, List.map_set]
  rw [this]
  exact h.set hv
theorem trs_cut {H : Hp} {ks : List Tr} {A : Option Addr} {n k : Nat} (h : rd H (.s 2 (Tr.ds ks)) (.slice A n k)) {l r : Nat} (hlr : l ≤ r) (hr : r ≤ n) :
    rd H (.s 2 (Tr.ds ((ks.drop l).take (r - l)))) (.slice (if k = l then A else A.map (·.add (l * 2))) (r - l) (k - l)) := by
  have := h.cut hlr hr
  rwa [Tr.ds_drop, Tr.ds_take] at this

theorem gapK_len (x : List Tr) (i j n m : Nat) : ∀ (c : Nat) (F : List Fate), (gapK x i j n m c F).length = F.length
  | 0, F => rfl
  | c + 1, F => by simp [gapK, gapK_len x i j n m c F]
theorem gapK_get (x : List Tr) (i j n m : Nat) : ∀ (c : Nat) (F : List Fate) (k : Nat), i + c ≤ k → (gapK x i j n m c F)[k]? = F[k]?
  | 0, F, k, _ => rfl
  | c + 1, F, k, h => by
    simp only [gapK]
    rw [List.getElem?_set_ne (by omega), gapK_get x i j n m c F k (by omega)]
theorem gapI_len (x : List Tr) (i j n m : Nat) (I : List (List Tr)) : (gapI x i j n m I).length = I.length := by unfold gapI; split <;> simp
theorem gapK_eq {x : List Tr} {i j n m c : Nat} {F : List Fate} {t : Tr} (h : n - i = m - j) (ht : x[j + c]? = some t) : gapK x i j n m (c + 1) F = (gapK x i j n m c F).set (i + c) (.chg t) := by
  simp only [gapK, h, if_true, List.getD_eq_getElem?_getD, ht, Option.getD_some]
theorem gapK_ne {x : List Tr} {i j n m c : Nat} {F : List Fate} (h : n - i ≠ m - j) : gapK x i j n m (c + 1) F = (gapK x i j n m c F).set (i + c) .del := by
  simp only [gapK]; rw [if_neg h]

theorem made_fates {n : Nat} {z : Value} (hz : z.cells = #[.int .i64 0, .string ⟨#[]⟩, .slice none 0 0]) : madeCells z.cells (n * 3) = ((List.replicate n [Value.int .i64 0, Value.string ⟨#[]⟩, Value.slice none 0 0]).flatten).toArray := by
  rw [hz]
  have gen : ∀ n : Nat, (Array.range (n * 3)).toList.map (fun k => (#[Value.int .i64 0, Value.string ⟨#[]⟩, Value.slice none 0 0] : Array Value).getD (k % 3) undef) = (List.replicate n [Value.int .i64 0, Value.string ⟨#[]⟩, Value.slice none 0 0]).flatten := by
    intro n
    induction n with
    | zero => simp
    | succ n ih =>
      rw [List.replicate_succ', List.flatten_append, ← ih]
      simp only [Array.toList_range]
      rw [show (n + 1) * 3 = n * 3 + 1 + 1 + 1 by omega, List.range_succ, List.range_succ, List.range_succ]
      simp [show (n * 3 + 1) % 3 = 1 by omega, show (n * 3 + 1 + 1) % 3 = 2 by omega, show n * 3 % 3 = 0 by omega]
  refine Array.ext' ?_
  rw [← gen n]
  simp only [madeCells, Array.toList_map]
  refine List.map_congr_left fun k _ => ?_
  have h3 : k % 3 = 0 ∨ k % 3 = 1 ∨ k % 3 = 2 := by omega
  rcases h3 with h3 | h3 | h3 <;> simp [h3]
theorem fates_kept (H : Hp) (n : Nat) : RdL H (Fate.ds (List.replicate n .kept)) ((List.replicate n [Value.int .i64 0, Value.string ⟨#[]⟩, Value.slice none 0 0]).flatten) := by
  induction n with
  | zero => trivial
  | succ n ih =>
    simp only [List.replicate_succ, Fate.ds, List.flatMap_cons, List.flatten_cons]
    refine RdL.append ?_ ih
    rw [Fate.d_eq]
    exact ⟨by simp [rd, Fate.tag], by simp [rd, Fate.to, Tr.zero, Tr.lab], by simp only [Fate.to, Tr.zero, Tr.kids, Tr.ds]; exact rd.nil _ _, trivial⟩
theorem ins_none (H : Hp) (n : Nat) : RdL H (insD (List.replicate n [])) (List.replicate n (Value.slice none 0 0)) := by
  induction n with
  | zero => trivial
  | succ n ih => exact ⟨rd.nil _ _, ih⟩
theorem made_ins {n : Nat} {z : Value} (hz : z.cells = #[.slice none 0 0]) : madeCells z.cells (n * 1) = (List.replicate n (Value.slice none 0 0)).toArray := by
  have := made_out (m := 0) (k := n) hz
  simpa [outL] using this

/-- The pairs as they lie in memory. -/
theorem pairs_len {H : Hp} {l : List (Nat × Nat)} {v : Value} (h : rd H (pairsD l) v) : ∃ A c, v = .slice A l.length c := by
  obtain ⟨A, n, c, rfl, h1, h2, h3⟩ := rd.s_len (sz := 2) h
  rw [List.length_map, pairsV_len] at h1
  have : n = l.length := by omega
  subst this
  exact ⟨A, c, rfl⟩
theorem pairs_get : ∀ (l : List (Nat × Nat)) (k : Nat) (p : Nat × Nat), l[k]? = some p → (pairsV l)[k * 2]? = some (.int .i64 (p.1 : Int)) ∧ (pairsV l)[k * 2 + 1]? = some (.int .i64 (p.2 : Int))
  | [], k, p, h => by simp at h
  | a :: r, 0, p, h => by simp at h; subst h; simp [pairsV]
  | a :: r, k + 1, p, h => by
    have := pairs_get r k p (by simpa using h)
    simp only [pairsV] at this
    rw [show (k + 1) * 2 = k * 2 + 1 + 1 by omega]
    simpa [pairsV] using this
theorem pairs_at {H : Hp} {l : List (Nat × Nat)} {A : Option Addr} {n c : Nat} (h : rd H (pairsD l) (.slice A n c)) {k : Nat} {p : Nat × Nat} (hk : l[k]? = some p) :
    ∃ b o, A = some ⟨b, o, none⟩ ∧ hAt H b (o + k * 2) [.int .i64 (p.1 : Int), .int .i64 (p.2 : Int)] := by
  have hlt : k < l.length := (List.getElem?_eq_some_iff.1 hk).1
  have hn : n = l.length := by
    obtain ⟨A', c', e⟩ := pairs_len h
    injection e
  subst hn
  obtain ⟨_, b, o, rfl, hr⟩ := rd.s_at (sz := 2) h (by omega)
  obtain ⟨h1, h2⟩ := pairs_get l k p hk
  obtain ⟨u1, h3, h4⟩ := hr.get (k * 2) _ (by rw [List.getElem?_map, h1]; rfl)
  obtain ⟨u2, h5, h6⟩ := hr.get (k * 2 + 1) _ (by rw [List.getElem?_map, h2]; rfl)
  simp only [rd] at h4 h6
  subst h4; subst h6
  exact ⟨b, o, rfl, h3, by rw [← h5]; congr 1, trivial⟩

/-- The pairs are in order and end with the lengths. -/
def Ord (nb mx : Nat) : List (Nat × Nat) → Nat → Nat → Prop
  | [], _, _ => True
  | (n, m) :: r, i, j => i ≤ n ∧ j ≤ m ∧ n ≤ nb ∧ m ≤ mx ∧ Ord nb mx r (n + 1) (m + 1)
theorem Ord.mono {nb mx : Nat} {l : List (Nat × Nat)} {i j i' j' : Nat} (h : Ord nb mx l i j) (hi : i' ≤ i) (hj : j' ≤ j) : Ord nb mx l i' j' := by
  cases l with
  | nil => trivial
  | cons p r => exact ⟨Nat.le_trans hi h.1, Nat.le_trans hj h.2.1, h.2.2⟩
theorem pw_ord (nb mx : Nat) : ∀ (f : Nat) (b x : List Tr) (i j : Nat), i + b.length = nb → j + x.length = mx → Ord nb mx (pw f b x i j ++ [(nb, mx)]) i j
  | 0, b, x, i, j, h1, h2 => ⟨by omega, by omega, Nat.le_refl _, Nat.le_refl _, trivial⟩
  | f + 1, [], x, i, j, h1, h2 => by simp only [pw, List.nil_append]; exact ⟨by omega, by omega, Nat.le_refl _, Nat.le_refl _, trivial⟩
  | f + 1, b :: bs, [], i, j, h1, h2 => by simp only [pw, List.nil_append]; exact ⟨by omega, by omega, Nat.le_refl _, Nat.le_refl _, trivial⟩
  | f + 1, b :: bs, x :: xs, i, j, h1, h2 => by
    simp only [List.length_cons] at h1 h2
    simp only [pw]
    split
    · exact ⟨Nat.le_refl _, Nat.le_refl _, by omega, by omega, pw_ord nb mx f bs xs (i + 1) (j + 1) (by omega) (by omega)⟩
    · split
      · exact (pw_ord nb mx f bs (x :: xs) (i + 1) j (by omega) (by simp; omega)).mono (by omega) (Nat.le_refl _)
      · exact (pw_ord nb mx f (b :: bs) xs i (j + 1) (by simp; omega) (by omega)).mono (Nat.le_refl _) (by omega)
theorem pairsP_ord (b x : List Tr) : Ord b.length x.length (pairsP b x) 0 0 := pw_ord _ _ _ b x 0 0 (by omega) (by omega)
theorem pairsP_len (b x : List Tr) : (pairsP b x).length ≤ b.length + 1 := by
  have := pw_len (b.length + x.length) b x 0 0
  simp only [pairsP, List.length_append, List.length_cons, List.length_nil]
  omega

/-- A side, as the program's struct of two slices. -/
def Al.d (a : Al) : List D := [.s 3 (Fate.ds a.F), .s 1 (insD a.I)]
end Go.Proofs.Ytapmmfabdmhdnaa.K
