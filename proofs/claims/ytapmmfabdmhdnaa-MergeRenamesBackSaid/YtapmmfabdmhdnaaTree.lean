/-
  Trees (api.Tree) as data.
  Everything here is plain; no condition beyond those typed.
-/
import Derived.Test.YtapmmfabdmhdnaaMore
set_option linter.unusedVariables false
set_option linter.unusedSimpArgs false
namespace Go.Proofs.Ytapmmfabdmhdnaa.K
open Go Go.RowKit

inductive Tr where
  | node (l : ByteArray) (ks : List Tr)

mutual
def Tr.d : Tr → List D
  | .node l ks => [.c (.string l), .s 2 (Tr.ds ks)]
def Tr.ds : List Tr → List D
  | [] => []
  | t :: ts => t.d ++ Tr.ds ts
end

def Tr.lab : Tr → ByteArray | .node l _ => l
def Tr.kids : Tr → List Tr | .node _ ks => ks

mutual
def Tr.size : Tr → Nat
  | .node _ ks => Tr.sizes ks + 1
def Tr.sizes : List Tr → Nat
  | [] => 0
  | t :: ts => t.size + Tr.sizes ts
end

mutual
def Tr.eqb : Tr → Tr → Bool
  | .node l ks, .node l' ks' => (l.data.toList == l'.data.toList) && Tr.eqbs ks ks'
def Tr.eqbs : List Tr → List Tr → Bool
  | [], [] => true
  | t :: ts, u :: us => t.eqb u && Tr.eqbs ts us
  | _, _ => false
end

theorem bytes_beq (l l' : ByteArray) : (l.data.toList == l'.data.toList) = decide (l = l') := by
  rw [Bool.eq_iff_iff]
  simp only [beq_iff_eq, decide_eq_true_eq]
  exact ⟨fun h => WideShapes.bytes_inj h, fun h => by rw [h]⟩

mutual
theorem Tr.eqb_iff : ∀ (t u : Tr), t.eqb u = true ↔ t = u
  | .node l ks, .node l' ks' => by
    simp only [Tr.eqb, bytes_beq, Bool.and_eq_true, decide_eq_true_eq, Tr.eqbs_iff ks ks', Tr.node.injEq]
theorem Tr.eqbs_iff : ∀ (ts us : List Tr), Tr.eqbs ts us = true ↔ ts = us
  | [], [] => by simp [Tr.eqbs]
  | t :: ts, u :: us => by simp only [Tr.eqbs, Bool.and_eq_true, Tr.eqb_iff t u, Tr.eqbs_iff ts us, List.cons.injEq]
  | [], _ :: _ => by simp [Tr.eqbs]
  | _ :: _, [] => by simp [Tr.eqbs]
end
instance : DecidableEq Tr := fun t u => decidable_of_iff _ (Tr.eqb_iff t u)
theorem Tr.eqb_eq (t u : Tr) : t.eqb u = decide (t = u) := by rw [Bool.eq_iff_iff]; simp [Tr.eqb_iff]
theorem Tr.eqbs_eq (t u : List Tr) : Tr.eqbs t u = decide (t = u) := by rw [Bool.eq_iff_iff]; simp [Tr.eqbs_iff]

theorem Tr.d_len (t : Tr) : t.d.length = 2 := by cases t; simp [Tr.d]
theorem Tr.ds_len : ∀ (ts : List Tr), (Tr.ds ts).length = ts.length * 2
  | [] => by simp [Tr.ds]
  | t :: ts => by simp [Tr.ds, Tr.d_len, Tr.ds_len ts]; omega
theorem Tr.ds_append : ∀ (ts us : List Tr), Tr.ds (ts ++ us) = Tr.ds ts ++ Tr.ds us
  | [], _ => rfl
  | t :: ts, us => by simp [Tr.ds, Tr.ds_append ts us]
theorem Tr.ds_drop : ∀ (k : Nat) (ts : List Tr), (Tr.ds ts).drop (k * 2) = Tr.ds (ts.drop k)
  | 0, _ => by simp
  | k + 1, [] => by simp [Tr.ds]
  | k + 1, t :: ts => by
    obtain ⟨l, ks⟩ := t
    have := Tr.ds_drop k ts
    simp only [Tr.ds, Tr.d, List.drop_succ_cons, ← this]
    rw [show (k + 1) * 2 = k * 2 + 1 + 1 by omega]
    rfl
theorem Tr.ds_take : ∀ (k : Nat) (ts : List Tr), (Tr.ds ts).take (k * 2) = Tr.ds (ts.take k)
  | 0, _ => by simp [Tr.ds]
  | k + 1, [] => by simp [Tr.ds]
  | k + 1, t :: ts => by
    obtain ⟨l, ks⟩ := t
    have := Tr.ds_take k ts
    simp only [Tr.ds, Tr.d, List.take_succ_cons, ← this]
    rw [show (k + 1) * 2 = k * 2 + 1 + 1 by omega]
    rfl
theorem Tr.size_mem {t : Tr} : ∀ {ts : List Tr}, t ∈ ts → t.size ≤ Tr.sizes ts
  | u :: us, h => by
    simp only [Tr.sizes]
    rcases List.mem_cons.1 h with rfl | h
    · omega
    · have := Tr.size_mem h; omega
theorem Tr.size_kid {t : Tr} {l : ByteArray} {ks : List Tr} {k : Nat} (h : t ∈ ks) (hs : (Tr.node l ks).size ≤ k + 1) : t.size ≤ k := by
  have := Tr.size_mem h
  simp only [Tr.size] at hs
  omega
theorem Tr.len_le : ∀ (ts : List Tr), ts.length ≤ Tr.sizes ts
  | [] => by simp
  | t :: ts => by
    have := Tr.len_le ts
    have h2 : 0 < t.size := by cases t; simp [Tr.size]
    simp only [Tr.sizes, List.length_cons]
    omega
theorem Tr.size_pos (t : Tr) : 0 < t.size := by cases t; simp [Tr.size]

/-- A slice of trees: its length; one of its elements. -/
theorem trs_len {H : Hp} {ks : List Tr} {v : Value} (h : rd H (.s 2 (Tr.ds ks)) v) : ∃ A c, v = .slice A ks.length c ∧ ks.length ≤ c ∧ c ≤ 9223372036854775807 := by
  obtain ⟨A, n, c, rfl, h1, h2, h3⟩ := h.s_len
  rw [Tr.ds_len] at h1
  have : n = ks.length := by omega
  subst this
  exact ⟨A, c, rfl, h2, h3⟩
theorem trs_at {H : Hp} {ks : List Tr} {A : Option Addr} {n c : Nat} (h : rd H (.s 2 (Tr.ds ks)) (.slice A n c)) {i : Nat} {t : Tr} (hi : ks[i]? = some t) :
    ∃ b o c0 c1, A = some ⟨b, o, none⟩ ∧ hAt H b (o + i * 2) [c0, c1] ∧ RdL H t.d [c0, c1] := by
  have hlt : i < ks.length := (List.getElem?_eq_some_iff.1 hi).1
  have hn : n = ks.length := by
    obtain ⟨A', c', e, _⟩ := trs_len h
    injection e
  subst hn
  obtain ⟨_, b, o, rfl, hr⟩ := h.s_at (by omega)
  obtain ⟨l1, l2, rfl, rfl⟩ := split_at hi
  have hr' : rds H b (o + l1.length * 2) (t.d ++ Tr.ds l2) := by
    refine rds.mk fun j x hx => ?_
    have := hr.get (l1.length * 2 + j) x (by
      rw [Tr.ds_append, List.getElem?_append_right (by rw [Tr.ds_len]; omega), Tr.ds_len]
      simp only [Tr.ds]
      rw [← hx]; congr 1; omega)
    obtain ⟨u, h1, h2⟩ := this
    exact ⟨u, by rw [← h1]; congr 1; omega, h2⟩
  obtain ⟨l, kk⟩ := t
  simp only [Tr.d, List.cons_append, List.nil_append, rds] at hr'
  obtain ⟨⟨c0, h1, h2⟩, ⟨c1, h3, h4⟩, _⟩ := hr'
  refine ⟨b, o, c0, c1, rfl, ⟨h1, h3, trivial⟩, ?_⟩
  simp only [Tr.d]
  exact ⟨h2, h4, trivial⟩
/-- A tree's two cells. -/
theorem tr_cells {H : Hp} {l : ByteArray} {ks : List Tr} {c0 c1 : Value} (h : RdL H (Tr.node l ks).d [c0, c1]) : c0 = .string l ∧ ∃ A c, c1 = .slice A ks.length c ∧ ks.length ≤ c ∧ c ≤ 9223372036854775807 ∧ rd H (.s 2 (Tr.ds ks)) (.slice A ks.length c) := by
  simp only [Tr.d] at h
  obtain ⟨h1, h2, _⟩ := h
  simp only [rd] at h1
  obtain ⟨A, c, rfl, h3, h4⟩ := trs_len h2
  exact ⟨h1, A, c, rfl, h3, h4, h2⟩
theorem tr_mk {H : Hp} {l : ByteArray} {ks : List Tr} {c1 : Value} (h : rd H (.s 2 (Tr.ds ks)) c1) : RdL H (Tr.node l ks).d [.string l, c1] := by
  simp only [Tr.d]
  exact ⟨by simp [rd], h, trivial⟩
theorem tr_ones {H : Hp} {t : Tr} {c0 c1 : Value} (h : RdL H t.d [c0, c1]) : Ones [c0, c1] := by
  obtain ⟨l, ks⟩ := t
  obtain ⟨rfl, A, c, rfl, _⟩ := tr_cells h
  exact ⟨rfl, rfl, trivial⟩
/-- A list of trees as cells: one more at the end. -/
theorem trs_snoc {H : Hp} {ks : List Tr} {vs : List Value} {t : Tr} {c0 c1 : Value} (h : RdL H (Tr.ds ks) vs) (ht : RdL H t.d [c0, c1]) : RdL H (Tr.ds (ks ++ [t])) (vs ++ [c0, c1]) := by
  rw [Tr.ds_append]
  refine h.append ?_
  simpa [Tr.ds] using ht
end Go.Proofs.Ytapmmfabdmhdnaa.K
