/-
  Trees with a label at the end of a path: their merge is a conflict at that path.
-/
import Derived.Test.YtapmmfabdmhdnaaLcs
import Derived.Test.YtapmmfabdmhdnaaTurn
set_option linter.unusedVariables false
set_option linter.unusedSimpArgs false
namespace Go.Proofs.Ytapmmfabdmhdnaa.K
open Go Go.RowKit

def lf (n : UInt8) : Tr := .node ⟨#[n]⟩ []
def abc : List Tr := [lf 97, lf 98, lf 99]
def deepP (s : ByteArray) : List Int → Tr
  | [] => .node s []
  | p :: r => .node ⟨#[116]⟩ (abc.set (p % 3).toNat (deepP s r))
def pathP (l : List Int) : Path := l.map fun x => (x % 3).toNat
theorem abc_set (i : Nat) (h : i < 3) (t : Tr) : abc.set i t = abc.take i ++ t :: abc.drop (i + 1) := by
  match i, h with
  | 0, _ => rfl
  | 1, _ => rfl
  | 2, _ => rfl
/-- A label that is none of the leaves'. -/
def Odd1 (s : ByteArray) : Prop := s ≠ ⟨#[97]⟩ ∧ s ≠ ⟨#[98]⟩ ∧ s ≠ ⟨#[99]⟩
theorem deep_odd {s : ByteArray} (hs : Odd1 s) (l : List Int) : deepP s l ≠ lf 97 ∧ deepP s l ≠ lf 98 ∧ deepP s l ≠ lf 99 := by
  cases l with
  | nil => simp only [deepP, lf, ne_eq, Tr.node.injEq, and_true]; exact hs
  | cons p r =>
    have : ∀ n, n ≠ 116 → deepP s (p :: r) ≠ lf n := by
      intro n hn he
      simp only [deepP, lf, Tr.node.injEq] at he
      have h1 := congrArg (fun b : ByteArray => b.data[0]?) he.1
      simp at h1
      exact hn h1.symm
    exact ⟨this 97 (by decide), this 98 (by decide), this 99 (by decide)⟩
theorem deep_mem {s : ByteArray} (hs : Odd1 s) (l : List Int) (i : Nat) : deepP s l ∉ abc.drop i ∧ deepP s l ∉ abc.take i := by
  obtain ⟨h1, h2, h3⟩ := deep_odd hs l
  have : deepP s l ∉ abc := by simp [abc, h1, h2, h3]
  exact ⟨fun h => this (List.mem_of_mem_drop h), fun h => this (List.mem_of_mem_take h)⟩
theorem deep_ne {s s' : ByteArray} (h : s ≠ s') : ∀ (l : List Int), deepP s l ≠ deepP s' l
  | [] => by simp [deepP, h]
  | p :: r => by
    intro he
    simp only [deepP, Tr.node.injEq, true_and] at he
    have h1 := Int.emod_nonneg p (b := 3) (by omega)
    have h2 := Int.emod_lt_of_pos p (b := 3) (by omega)
    have hi : (p % 3).toNat < 3 := by omega
    have h3 := congrArg (fun l : List Tr => l[(p % 3).toNat]?) he
    simp only [List.getElem?_set_self (show (p % 3).toNat < abc.length from hi), Option.some.injEq] at h3
    exact deep_ne h r h3
theorem deep_size (s : ByteArray) : ∀ (l : List Int), (deepP s l).size ≤ 4 * l.length + 1
  | [] => by simp [deepP, Tr.size, Tr.sizes]
  | p :: r => by
    have ih := deep_size s r
    have h := sizes_set abc (p % 3).toNat (deepP s r)
    have e : Tr.sizes abc = 3 := by decide
    simp only [deepP, Tr.size, List.length_cons]; omega
/-- One kid of three is changed differently: what comes of it is that kid's own. -/
theorem kids_conf {f : Tr → Tr → Tr → Path → Tr × List Path} {d x y : Tr} {q c : Path} {i : Nat} (hi : i < 3) (hc : (f d x y (q ++ [i])).2 = [c]) :
    (mergeK f (abc.take i ++ d :: abc.drop (i + 1)) ⟨(List.replicate 3 Fate.kept).set i (.chg x), List.replicate 4 []⟩ ⟨(List.replicate 3 Fate.kept).set i (.chg y), List.replicate 4 []⟩ q [] 4).2 = [c] := by
  match i, hi with
  | 0, _ => simp [mergeK, abc, insP, kidP, hc]
  | 1, _ => simp [mergeK, abc, insP, kidP, hc]
  | 2, _ => simp [mergeK, abc, insP, kidP, hc]
theorem conf_F {s x y : ByteArray} (hs : Odd1 s) (hx : Odd1 x) (hy : Odd1 y) (h1 : x ≠ s) (h2 : y ≠ s) (h3 : x ≠ y) : ∀ (l : List Int) (k : Nat) (q : Path), (deepP s l).size ≤ k → (mergeF k (deepP s l) (deepP x l) (deepP y l) q).2 = [q ++ pathP l]
  | l, 0, q, h => by have := (deepP s l).size_pos; omega
  | [], k + 1, q, _ => by
    have e1 := deep_ne h1 []
    have e2 := deep_ne h2 []
    have e3 := deep_ne h3 []
    simp only [deepP] at e1 e2 e3 ⊢
    rw [mf_c e1 e2 e3]
    have : labC s x y q = [q] := labC_2 h1 h2 (fun h => h3 h.symm)
    simp [mergeK, this, pathP, insP, alignP, alignGo, pairsP, pw, gapK, gapI]
  | p :: r, k + 1, q, h => by
    have e1 := deep_ne h1 (p :: r)
    have e2 := deep_ne h2 (p :: r)
    have e3 := deep_ne h3 (p :: r)
    have a1 := Int.emod_nonneg p (b := 3) (by omega)
    have a2 := Int.emod_lt_of_pos p (b := 3) (by omega)
    have hi : (p % 3).toNat < 3 := by omega
    have hk : (deepP s r).size ≤ k := by
      refine Tr.size_kid (l := ⟨#[116]⟩) (ks := abc.set (p % 3).toNat (deepP s r)) ?_ h
      rw [abc_set _ hi]; simp
    have ih := conf_F hs hx hy h1 h2 h3 r k (q ++ [(p % 3).toNat]) hk
    simp only [deepP] at e1 e2 e3 ⊢
    rw [mf_c e1 e2 e3]
    simp only [pathP, List.map_cons]
    generalize (p % 3).toNat = i at *
    rw [abc_set _ hi, abc_set _ hi, abc_set _ hi, align_other (deep_ne (fun h => h1 h.symm) r) (deep_mem hs r _).1 (deep_mem hx r _).1, align_other (deep_ne (fun h => h2 h.symm) r) (deep_mem hs r _).1 (deep_mem hy r _).1]
    have e4 : (abc.take i ++ deepP s r :: abc.drop (i + 1)).length = 3 := by rw [← abc_set _ hi, List.length_set]; rfl
    have e5 : (abc.take i).length = i := by
      match i, hi with
      | 0, _ => rfl
      | 1, _ => rfl
      | 2, _ => rfl
    rw [e4, e5, labC_1 (.inl rfl)]
    exact kids_conf hi (by rw [ih]; simp [pathP])
theorem conf_R (l : List Int) : mergeR (deepP ⟨#[109]⟩ l) (deepP ⟨#[120]⟩ l) (deepP ⟨#[121]⟩ l) = (Tr.zero, [pathP l]) := by
  have n1 : ∀ a b : UInt8, a ≠ b → (⟨#[a]⟩ : ByteArray) ≠ ⟨#[b]⟩ := by
    intro a b hab he
    have h1 := congrArg (fun b : ByteArray => b.data[0]?) he
    simp at h1
    exact hab h1
  have h := conf_F (s := ⟨#[109]⟩) (x := ⟨#[120]⟩) (y := ⟨#[121]⟩) ⟨n1 _ _ (by decide), n1 _ _ (by decide), n1 _ _ (by decide)⟩ ⟨n1 _ _ (by decide), n1 _ _ (by decide), n1 _ _ (by decide)⟩ ⟨n1 _ _ (by decide), n1 _ _ (by decide), n1 _ _ (by decide)⟩
    (n1 _ _ (by decide)) (n1 _ _ (by decide)) (n1 _ _ (by decide)) l _ [] (Nat.le_refl _)
  simp only [List.nil_append] at h
  simp only [mergeR, h]
  simp [canon, addP, insB]
end Go.Proofs.Ytapmmfabdmhdnaa.K
