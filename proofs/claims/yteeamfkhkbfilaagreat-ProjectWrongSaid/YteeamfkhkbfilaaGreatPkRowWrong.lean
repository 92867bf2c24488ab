/-
  ProjectWrong returns true for every four numbers and string, and leaves its arguments as they were. No condition beyond the given statement.
-/
import Derived.Test.YteeamfkhkbfilaaGreatPkA5
import Derived.Test.YteeamfkhkbfilaaGreatRows
import Derived.ProofKit
set_option linter.unusedVariables false
set_option linter.unusedSimpArgs false
set_option maxHeartbeats 4000000
set_option maxRecDepth 100000
namespace Go.Proofs.YteeamfkhkbfilaaGreat
open Go Go.RowKit Go.ChangeShapes Go.WideShapes
namespace Row9
theorem own0 : ownKnob Tryz.prog.godebug = none := by kernel_rfl
theorem laid0 : laidOutB Tryz.prog = true := by kernel_rfl
theorem lifted (os : Os) (started : os.Started) (H : Type) (enc : TypeId × Value → H) :
    ReturnsInHanded {} Tryz.checked os 9 .any (Rows.projectWrongSpec.pre6 enc Tryz.prog Tryz.f9 Rows.projectWrongRow.domain false) (Rows.projectWrongSpec.post enc Tryz.prog Tryz.f9 false true false false) := by
  refine returnsInHanded_of_change (C := Tryz.checked) own0 started (by kernel_rfl) Tryz.func9
    (ChangeSpec.witness6 (enc := enc) (C := Tryz.checked) false ⟨#[], #[.agg #[.int .i64 0, .int .i64 0, .int .i64 0], .string ⟨#[]⟩, .int .i64 0], []⟩ 8 (by kernel_rfl) (by kernel_rfl) (by kernel_rfl) (by kernel_rfl)) ?_
  intro W base args ds gs before hval0 hW hcnd _
  have hval : ∀ (j : Nat) t v, Tryz.f9.params[j]? = some t → args[j]? = some v → Value.okWide Tryz.prog W .any base t v := hval0
  have hW' : DataW.Whole enc Tryz.prog Tryz.f9.params.toList Rows.projectWrongSpec.vars false W args.toList ds gs before := hW
  obtain ⟨p, q, hA0, hV, rfl, hfz, hnd⟩ := hW
  have hA : DataW.TrodAll enc Tryz.prog W 0 (fun _ => true) true Tryz.f9.params.toList args.toList ds p := hA0
  rw [Tryz.params9] at hA hval
  obtain ⟨v0, v1, v2, d0, d1, d2, p0, p1, p2, rfl, rfl, rfl, h0, h1, h2⟩ := trodAll_three hA
  obtain ⟨rfl, rfl⟩ := trodVars_none hV
  obtain ⟨a0, b0, c0, ka0, kb0, kc0, rfl⟩ := K.open_three (hval 0 48 v0 rfl rfl) h0
  obtain ⟨s1, rfl⟩ := K.open_str (hval 1 9 v1 rfl rfl) h1
  obtain ⟨n2, k2, rfl⟩ := K.open_i64 (hval 2 3 v2 rfl rfl) h2
  refine (K.law_projectwrong ka0 kb0 kc0 k2 W (K.St.all W)).mono fun e W1 hh => ?_
  obtain ⟨v, own1, H1, rfl, ⟨rfl, _, hle⟩, hst⟩ := hh
  exact ⟨_, rfl, K.law_post laid0 hW' rfl rfl rfl Tryz.underlying4 (by kernel_rfl) hst.os hst.output (fun k hk => by
    have e1 : W.heap[k]? = some W.heap[k] := by simp [hk]
    rw [e1]
    exact hst.imm k _ (hle k _ e1))⟩
end Row9
theorem wrong_holds : Rows.ProjectWrongSaid :=
  OpenClaim.holds_of_wide 9 Tryz.f9 rfl rfl rfl rfl rfl rfl rfl ⟨rfl, rfl, rfl, rfl, rfl⟩ rfl rfl rfl rfl rfl (by kernel_rfl) Tryz.func9 (by kernel_rfl)
    (of_decide_eq_true (by kernel_rfl)) (by unfold Func.isWrapper; first | (rw [if_pos (by decide +kernel)]; kernel_rfl) | (rw [if_neg (by decide +kernel)]; exact ⟨rfl, rfl⟩))
    (fun os started H enc _ => Row9.lifted os started H enc)
end Go.Proofs.YteeamfkhkbfilaaGreat
