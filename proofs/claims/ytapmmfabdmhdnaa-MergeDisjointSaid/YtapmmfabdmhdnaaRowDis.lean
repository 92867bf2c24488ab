/-
  MergeDisjoint returns true for every three bytes. No condition beyond the given statement.
-/
import Derived.Test.YtapmmfabdmhdnaaLawDis
import Derived.Test.YtapmmfabdmhdnaaFrame
import Derived.Test.YtapmmfabdmhdnaaRows
import Derived.ProofKit
set_option linter.unusedVariables false
set_option linter.unusedSimpArgs false
set_option maxHeartbeats 4000000
set_option maxRecDepth 100000
namespace Go.Proofs.Ytapmmfabdmhdnaa
open Go Go.RowKit Go.ChangeShapes Go.WideShapes
namespace Row7
theorem own0 : ownKnob Try.prog.godebug = none := by kernel_rfl
theorem laid0 : laidOutB Try.prog = true := by kernel_rfl
theorem lifted (os : Os) (started : os.Started) (H : Type) (enc : TypeId × Value → H) :
    ReturnsInHanded {} Try.checked os 7 .any (Rows.mergeDisjointSpec.pre6 enc Try.prog Try.f7 Rows.mergeDisjointRow.domain false) (Rows.mergeDisjointSpec.post enc Try.prog Try.f7 false true false false) := by
  refine returnsInHanded_of_change (C := Try.checked) own0 started (by kernel_rfl) Try.func7
    (ChangeSpec.witness6 (enc := enc) (C := Try.checked) false ⟨#[], #[.int .u8 0, .int .u8 0, .int .u8 0], []⟩ 8 (by kernel_rfl) (by kernel_rfl) (by kernel_rfl) (by kernel_rfl)) ?_
  intro W base args ds gs before hval0 hW hcnd _
  have hval : ∀ (j : Nat) t v, Try.f7.params[j]? = some t → args[j]? = some v → Value.okWide Try.prog W .any base t v := hval0
  have hW' : DataW.Whole enc Try.prog Try.f7.params.toList Rows.mergeDisjointSpec.vars false W args.toList ds gs before := hW
  obtain ⟨p, q, hA0, hV, rfl, hfz, hnd⟩ := hW
  have hA : DataW.TrodAll enc Try.prog W 0 (fun _ => true) true Try.f7.params.toList args.toList ds p := hA0
  rw [Try.params7] at hA hval
  obtain ⟨v0, v1, v2, d0, d1, d2, p0, p1, p2, rfl, rfl, rfl, h0, h1, h2⟩ := trodAll_three hA
  obtain ⟨rfl, rfl⟩ := trodVars_none hV
  obtain ⟨l0, rfl, _, _, k0⟩ := open_int Try.underlying5 (hval 0 5 v0 rfl rfl) h0
  obtain ⟨l1, rfl, _, _, k1⟩ := open_int Try.underlying5 (hval 1 5 v1 rfl rfl) h1
  obtain ⟨l2, rfl, _, _, k2⟩ := open_int Try.underlying5 (hval 2 5 v2 rfl rfl) h2
  refine (K.law_disjoint (K.lit_in k0) (K.lit_in k1) (K.lit_in k2) W (K.St.all W)).mono fun e W1 hh => ?_
  obtain ⟨v, own1, H1, rfl, ⟨rfl, _, hle⟩, hst⟩ := hh
  exact ⟨_, rfl, K.law_post laid0 hW' rfl rfl rfl Try.underlying4 (by kernel_rfl) hst.os hst.output (fun k hk => by
    have e1 : W.heap[k]? = some W.heap[k] := by simp [hk]
    rw [e1]
    exact hst.imm k _ (hle k _ e1))⟩
end Row7
theorem dis_holds : Rows.MergeDisjointSaid :=
  OpenClaim.holds_of_wide 7 Try.f7 rfl rfl rfl rfl rfl rfl rfl ⟨rfl, rfl, rfl, rfl, rfl⟩ rfl rfl rfl rfl rfl (by kernel_rfl) Try.func7 (by kernel_rfl)
    (of_decide_eq_true (by kernel_rfl)) (by unfold Func.isWrapper; first | (rw [if_pos (by decide +kernel)]; kernel_rfl) | (rw [if_neg (by decide +kernel)]; exact ⟨rfl, rfl⟩))
    (fun os started H enc _ => Row7.lifted os started H enc)
end Go.Proofs.Ytapmmfabdmhdnaa
