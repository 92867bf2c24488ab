/-
  Sizes of the trees that numbers make.
-/
import Derived.Test.YtapmmfabdmhdnaaSane
set_option linter.unusedVariables false
set_option linter.unusedSimpArgs false
set_option maxHeartbeats 4000000
namespace Go.Proofs.Ytapmmfabdmhdnaa.K
open Go Go.RowKit Go.Proofs

theorem growK_size {f : Nat → Tr × Nat} {B : Nat} (hf : ∀ a, (f a).1.size ≤ B) (a : Nat) : ∀ n, Tr.sizes (growK f n a).1 ≤ n * B
  | 0 => by simp [growK, Tr.sizes]
  | n + 1 => by
    have h1 := growK_size hf a n
    have h2 := hf (growK f n a).2
    have e : (n + 1) * B = n * B + B := by rw [Nat.add_mul, Nat.one_mul]
    simp only [growK, sizes_append, Tr.sizes]
    omega
theorem grow_size (l : List Int) : ∀ (d a : Nat), (grow l d a).1.size ≤ 5 ^ d
  | 0, a => by simp [grow, Tr.size, Tr.sizes]
  | d + 1, a => by
    have h1 := growK_size (f := grow l d) (B := 5 ^ d) (grow_size l d) (gnext l (gnext l a 6).2 5).2 (gnext l (gnext l a 6).2 5).1.toNat
    have h2 := gnext_bd (l := l) (at_ := (gnext l a 6).2) (m := 5) (by omega)
    have h3 : (gnext l (gnext l a 6).2 5).1.toNat * 5 ^ d ≤ 4 * 5 ^ d := Nat.mul_le_mul_right _ (by omega)
    have h4 : 0 < 5 ^ d := Nat.pow_pos (by omega)
    have e : 5 ^ (d + 1) = 5 ^ d * 5 := Nat.pow_succ ..
    simp only [grow, Tr.size]
    omega
theorem made_size (l : List Int) : (madeP l).size ≤ 625 := grow_size l 4 0
theorem nil_paths {H : Hp} {v : Value} (h : rd H (.s 1 (([] : List Path).map pD)) v) : ∃ A c, v = .slice A 0 c := by
  obtain ⟨A, c, rfl, _⟩ := paths_len h
  exact ⟨A, c, rfl⟩
abbrev QOk (q : List (Int × Int × Int)) : Prop := ∀ x ∈ q, I64 x.1 ∧ I64 x.2.1 ∧ I64 x.2.2


end Go.Proofs.Ytapmmfabdmhdnaa.K
