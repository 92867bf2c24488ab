/-
  The laws of renaming: cells of the statements that the law adds; names.
-/
import Derived.Test.YtapmmfabdmhdnaaRenP
import Derived.Test.YtapmmfabdmhdnaaKeep
import Derived.Test.YtapmmfabdmhdnaaMk2
import Derived.Test.YtapmmfabdmhdnaaEq2
import Derived.Test.YtapmmfabdmhdnaaRen6
set_option linter.unusedVariables false
set_option linter.unusedSimpArgs false
namespace Go.Proofs.Ytapmmfabdmhdnaa.K
open Go Go.RowKit Go.Proofs

theorem Row.at {e : TypeId} {sz : Nat} {v : Value} {n : Nat} {xs : List Value} {seg : Seg} (h : Row e sz v n xs seg) (hn : 0 < n) : ∃ g cap, v = .slice (some ⟨g, 0, none⟩) n cap ∧ n ≤ cap ∧ cap ≤ 9223372036854775807 := by
  rcases h.2 with ⟨_, rfl, _⟩ | ⟨g, cap, cur, rfl, _, h1, h2, _⟩
  · omega
  · exact ⟨g, cap, rfl, h1, by simpa [maxLen] using h2⟩
theorem slice_zero (g c sz r : Nat) : Value.slice (if c = 0 then some ⟨g, 0, none⟩ else (some (⟨g, 0, none⟩ : Addr)).map (·.add (0 * sz))) (r - 0) (c - 0) = .slice (some ⟨g, 0, none⟩) r c := by
  have : (⟨g, 0, none⟩ : Addr).add (0 * sz) = ⟨g, 0, none⟩ := by rw [add_off, Nat.zero_mul]
  simp only [Option.map_some, this, ite_self, Nat.sub_zero]
theorem dsOf_take {α : Type} {d : α → List D} {n : Nat} (hd : ∀ a, (d a).length = n) : ∀ (l : List α) (i : Nat), (dsOf d l).take (i * n) = dsOf d (l.take i)
  | _, 0 => by simp [dsOf]
  | [], i + 1 => by simp [dsOf]
  | a :: r, i + 1 => by
    have ih := dsOf_take hd r i
    simp only [dsOf, List.take_succ_cons, List.flatMap_cons] at ih ⊢
    rw [← ih, Nat.add_mul, Nat.one_mul, Nat.add_comm, ← hd a, List.take_append, List.take_of_length_le (by omega), Nat.add_sub_cancel_left]
theorem sms_take (l : List Sm) (i : Nat) : (Sm.ds l).take (i * 11) = Sm.ds (l.take i) := by rw [Sm.ds_of, Sm.ds_of, dsOf_take Sm.d_len]
theorem sms_two {H : Hp} {a b : Sm} {l : List Sm} {xs va vb : List Value} (h : RdL H (Sm.ds l) xs) (ha : RdL H a.d va) (hb : RdL H b.d vb) : RdL H (Sm.ds (l ++ [a, b])) (xs ++ (va ++ vb)) := by
  have := sms_snoc (sms_snoc h ha) hb
  simpa only [List.append_assoc, List.cons_append, List.nil_append] using this
theorem tyz_d (H : Hp) (k : Int) : RdL H (Ty4.mk k ⟨#[]⟩ 0 []).d [.int .i64 k, .string ⟨#[]⟩, .int .i64 0, .slice none 0 0] := by
  simp only [Ty4.d]
  exact ⟨by simp [rd], by simp [rd], by simp [rd], rd.nil _ _, trivial⟩
theorem let_d {H : Hp} {g : Nat} (hz : ∀ p ∈ ([(g, .cells #[.int .i64 2, .string nG1, .int .u16 0, .slice none 0 0] 58 (0, 0))] : Seg), H p.1 = some p.2) :
    RdL H letS.d [.int .i64 1, .string nV1, .int .i64 1, .string ⟨#[]⟩, .int .i64 0, .slice none 0 0, .int .u16 0, .slice (some ⟨g, 0, none⟩) 1 1, .slice none 0 0, .slice none 0 0, .slice none 0 0] :=
  sm_of (tyz_d _ _) (one_ex hz (name_d _ _)) (rd.nil _ _) (rd.nil _ _) (rd.nil _ _)
theorem loop_d {H : Hp} {g20 g22 : Nat} (hz0 : ∀ p ∈ ([(g20, .cells #[.int .i64 2, .string nV1, .int .u16 0, .slice none 0 0] 58 (0, 0))] : Seg), H p.1 = some p.2)
    (hz2 : ∀ p ∈ ([(g22, .cells #[.int .i64 7, .string nF, .int .i64 0, .string ⟨#[]⟩, .int .i64 0, .slice none 0 0, .int .u16 0, .slice none 0 0, .slice none 0 0, .slice none 0 0, .slice none 0 0,
      .int .i64 11, .string ⟨#[]⟩, .int .i64 0, .string ⟨#[]⟩, .int .i64 0, .slice none 0 0, .int .u16 1, .slice (some ⟨g20, 0, none⟩) 1 1, .slice none 0 0, .slice none 0 0, .slice none 0 0] 61 (0, 0))] : Seg), H p.1 = some p.2) :
    RdL H loopS.d [.int .i64 5, .string nF, .int .i64 0, .string ⟨#[]⟩, .int .i64 0, .slice none 0 0, .int .u16 0, .slice none 0 0, .slice (some ⟨g22, 0, none⟩) 2 2, .slice none 0 0, .slice none 0 0] := by
  refine sm_of (tyz_d _ _) (rd.nil _ _) ?_ (rd.nil _ _) (rd.nil _ _)
  refine rd.ofRow (Row.lit 61 11 2 g22 _ rfl (by omega)) hz2 ?_ (Le.refl _)
  have h1 : RdL H (Sm.mk 7 nF ty4z 0 [] [] [] []).d [.int .i64 7, .string nF, .int .i64 0, .string ⟨#[]⟩, .int .i64 0, .slice none 0 0, .int .u16 0, .slice none 0 0, .slice none 0 0, .slice none 0 0, .slice none 0 0] :=
    sm_of (tyz_d _ _) (rd.nil _ _) (rd.nil _ _) (rd.nil _ _) (rd.nil _ _)
  have h2 : RdL H (smK 11 1 [nameE nV1] []).d [.int .i64 11, .string ⟨#[]⟩, .int .i64 0, .string ⟨#[]⟩, .int .i64 0, .slice none 0 0, .int .u16 1, .slice (some ⟨g20, 0, none⟩) 1 1, .slice none 0 0, .slice none 0 0, .slice none 0 0] :=
    sm_mk (one_ex hz0 (name_d _ _)) (rd.nil _ _)
  exact sms_two (l := []) (xs := []) trivial h1 h2
theorem names_ok (l : List Int) : NmOk (namesP l) := by
  refine NmOk.of (by simp only [namesP, List.length_map, List.length_take]; omega) (fun s hs => ?_)
  obtain ⟨x, _, rfl⟩ := List.mem_map.1 hs
  have h : ∀ s ∈ allN, s.size ≤ 1000 := by decide
  unfold nameP
  rw [List.getD_eq_getElem?_getD]
  cases hx : allN[(x % 7).toNat]? with
  | none => simp [z_size]
  | some y => exact h _ (List.mem_of_getElem? hx)
theorem old_ok : NmOk oldN := NmOk.of (by decide) (by decide)
theorem fresh_ok : NmOk freshN := NmOk.of (by decide) (by decide)
theorem nil_ok : NmOk [] := NmOk.of (by decide) (by decide)
end Go.Proofs.Ytapmmfabdmhdnaa.K
