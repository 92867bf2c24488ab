/-
  The walk of MergeExact, MergeAny.
-/
import Derived.Test.YtapmmfabdmhdnaaLaw0
import Derived.Test.YtapmmfabdmhdnaaChg
import Derived.Test.YtapmmfabdmhdnaaRef4
set_option linter.unusedVariables false
set_option linter.unusedSimpArgs false
set_option maxHeartbeats 4000000
namespace Go.Proofs.Ytapmmfabdmhdnaa.K
open Go Go.RowKit Go.Proofs


theorem law_exact {s : List Int} (hs : ∀ n ∈ s, I64 n) {q r : List (Int × Int × Int)} (hqq : QOk q) (hqr : QOk r) {w0 : World} {H : Hp} {own : List Seg} {v vq vr : Value} (hA : rd H (.s 1 (ints s)) v) (hQq : rd H (.s 3 (trips q)) vq) (hQr : rd H (.s 3 (trips r)) vr) :
    Fn Try.prog 3 [v, vq, vr] w0 H own (fun r own' H' => r = .bool true ∧ own' = own ∧ Le H H') := by
  have hsl : s.length ≤ 9223372036854775807 := by
    obtain ⟨_, _, _, h1, h2⟩ := vals_len hA
    rw [List.length_map] at h1; omega
  have hz := made_size s
  have hcz := changedP_size (madeP s) q
  have hcr := changedP_size (madeP s) r
  refine Fn.enter Try.func3 rfl Try.ntmps3 rfl ?_
  have hL := Le.refl H
  refine TC.seq ?_
  refine TC.region ?_
  refine TL.assign rfl rfl ?_
  refine TL.nil ?_
  refine TQ.then_n ?_
  refine TC.seq ?_
  refine TC.region ?_
  refine TL.call (law_sanity) trivial rfl ?_
  rintro _ own Hsn ⟨rfl, rfl, hlesn⟩
  have hL := Le.trans hL hlesn
  have hA := rd.mono hlesn hA
  have hQq := rd.mono hlesn hQq
  have hQr := rd.mono hlesn hQr
  refine TL.assign rfl rfl ?_
  refine TL.nil ?_
  refine TQ.then_n ?_
  refine TC.seq ?_
  refine TC.region ?_
  refine TL.move rfl rfl ?_
  refine TL.call (ref_Made hs hsl hA) ⟨rfl, trivial⟩ rfl ?_
  rintro _ own Hb11 ⟨b0, b1, rfl, hb, rfl, hle11⟩
  have hL := Le.trans hL hle11
  have hA := rd.mono hle11 hA
  have hQq := rd.mono hle11 hQq
  have hQr := rd.mono hle11 hQr
  refine TL.new rfl ?_; intro g8
  refine TL.storeA 0 0 (vs := [b0, b1]) (c' := #[_, _]) (own' := [(_, .cells #[_, _] _ _)] :: _) rfl rfl rfl rfl rfl (tr_ones hb) (by simp) rfl rfl rfl ?_
  refine TL.nil ?_
  refine TQ.then_n ?_
  refine TC.seq ?_
  refine TC.drawQV 9  [(0, _), (1, _), (2, _), (6, _), (7, _), (8, _)] follows_mixed ⟨rfl, rfl, rfl, rfl, rfl, rfl, trivial⟩ ?_
  refine ChainV.q (some 12) [] (by
   intro H' X F hle
   have hL := Le.trans hL hle
   have hA := rd.mono hle hA
   have hQq := rd.mono hle hQq
   have hQr := rd.mono hle hQr
   have hb := RdL.mono hle hb
   intro hF
   refine TL.move rfl rfl ?_
   refine TL.nil ?_
   exact TQ.one [] hF (Le.refl _) ⟨rfl, rfl⟩) ?_
  refine ChainV.q (some 13) [(0, 0)] (by
   intro H' X F hle
   have hL := Le.trans hL hle
   have hA := rd.mono hle hA
   have hQq := rd.mono hle hQq
   have hQr := rd.mono hle hQr
   have hb := RdL.mono hle hb
   intro hF
   refine TL.move rfl rfl ?_
   refine TL.nil ?_
   exact TQ.one [] hF (Le.refl _) ⟨rfl, rfl⟩) ?_
  refine ChainV.q (some 14) [(1, 0)] (by
   intro H' X F hle
   have hL := Le.trans hL hle
   have hA := rd.mono hle hA
   have hQq := rd.mono hle hQq
   have hQr := rd.mono hle hQr
   have hb := RdL.mono hle hb
   intro hF
   refine TL.gyes rfl rfl rfl ?_
   refine TL.load_ownA 0 0 [_, _] rfl rfl rfl ⟨rfl, rfl, trivial⟩ rfl rfl ?_
   refine TL.nil ?_
   exact TQ.one [] hF (Le.refl _) ⟨rfl, rfl⟩) ?_
  refine ChainV.q (some 15) [(1, 1)] (by
   intro H' X F hle
   have hL := Le.trans hL hle
   have hA := rd.mono hle hA
   have hQq := rd.mono hle hQq
   have hQr := rd.mono hle hQr
   have hb := RdL.mono hle hb
   intro hF
   refine TL.gyes rfl rfl rfl ?_
   refine TL.load_ownA 0 0 [_, _] rfl rfl rfl ⟨rfl, rfl, trivial⟩ rfl rfl ?_
   refine TL.nil ?_
   exact TQ.one [] hF (Le.refl _) ⟨rfl, rfl⟩) ?_
  refine ChainV.q (some 16) [(1, 2)] (by
   intro H' X F hle
   have hL := Le.trans hL hle
   have hA := rd.mono hle hA
   have hQq := rd.mono hle hQq
   have hQr := rd.mono hle hQr
   have hb := RdL.mono hle hb
   intro hF
   refine TL.gyes rfl rfl rfl ?_
   refine TL.move rfl rfl ?_
   refine TL.nil ?_
   exact TQ.one [] hF (Le.refl _) ⟨rfl, rfl⟩) ?_
  refine ChainV.r (some 17) [(3, 1), (4, 0), (1, 3)] ([]) (fun _ => fun u s_ H => ∃ c0 c1, u = .agg #[c0, c1] ∧ RdL H (changedP (madeP s) q).d [c0, c1] ∧ s_ = []) (by
   intro H' X F hle
   have hL := Le.trans hL hle
   have hA := rd.mono hle hA
   have hQq := rd.mono hle hQq
   have hQr := rd.mono hle hQr
   have hb := RdL.mono hle hb
   intro hF
   refine TL.gyes rfl rfl rfl ?_
   refine TL.call (law_changed (by omega) hqq hb hQq) ⟨rfl, rfl, trivial⟩ rfl ?_
   rintro _ own H7 ⟨c0, c1, rfl, hr, rfl, hle7⟩
   refine TL.nil ?_
   exact TQ.one [] hF hle7 ⟨_, _, rfl, hr, rfl⟩) ?_
  refine ChainV.q (some 18) [(1, 4)] (by
   intro H' X F hle
   have hL := Le.trans hL hle
   have hA := rd.mono hle hA
   have hQq := rd.mono hle hQq
   have hQr := rd.mono hle hQr
   have hb := RdL.mono hle hb
   intro hF
   refine TL.gyes rfl rfl rfl ?_
   refine TL.load_ownA 0 0 [_, _] rfl rfl rfl ⟨rfl, rfl, trivial⟩ rfl rfl ?_
   refine TL.nil ?_
   exact TQ.one [] hF (Le.refl _) ⟨rfl, rfl⟩) ?_
  refine ChainV.q (some 19) [(1, 5)] (by
   intro H' X F hle
   have hL := Le.trans hL hle
   have hA := rd.mono hle hA
   have hQq := rd.mono hle hQq
   have hQr := rd.mono hle hQr
   have hb := RdL.mono hle hb
   intro hF
   refine TL.gyes rfl rfl rfl ?_
   refine TL.move rfl rfl ?_
   refine TL.nil ?_
   exact TQ.one [] hF (Le.refl _) ⟨rfl, rfl⟩) ?_
  refine ChainV.r (some 20) [(6, 1), (7, 0), (1, 6)] ([]) (fun _ => fun u s_ H => ∃ c0 c1, u = .agg #[c0, c1] ∧ RdL H (changedP (madeP s) r).d [c0, c1] ∧ s_ = []) (by
   intro H' X F hle
   have hL := Le.trans hL hle
   have hA := rd.mono hle hA
   have hQq := rd.mono hle hQq
   have hQr := rd.mono hle hQr
   have hb := RdL.mono hle hb
   intro hF
   refine TL.gyes rfl rfl rfl ?_
   refine TL.call (law_changed (by omega) hqr hb hQr) ⟨rfl, rfl, trivial⟩ rfl ?_
   rintro _ own H7 ⟨c0, c1, rfl, hr, rfl, hle7⟩
   refine TL.nil ?_
   exact TQ.one [] hF hle7 ⟨_, _, rfl, hr, rfl⟩) ?_
  refine ⟨by kernel_rfl, .refl _, ?_⟩
  ·
   intro H1 hle
   rintro _ _ H17 hle17 ⟨lq0, lq1, rfl, hlq, rfl⟩
   replace hlq := RdL.mono hle17 hlq
   rintro _ _ H20 hle20 ⟨lr0, lr1, rfl, hlr, rfl⟩
   replace hlr := RdL.mono hle20 hlr
   have hL := Le.trans hL hle
   have hA := rd.mono hle hA
   have hQq := rd.mono hle hQq
   have hQr := rd.mono hle hQr
   have hb := RdL.mono hle hb
   refine TL.toOwn (own' := _ :: own) rfl ?_
   refine TL.wk (env' := [(0, _), (6, _), (8, _), (13, _), (14, _), (17, _), (20, _)]) ⟨rfl, rfl, rfl, rfl, rfl, rfl, rfl, trivial⟩ ?_
   refine TL.gyes rfl rfl rfl ?_
   refine TL.call (law_agrees (by omega) (by omega) (by omega) hb hlq hlr) ⟨rfl, rfl, rfl, trivial⟩ rfl ?_
   rintro _ own Hag ⟨rfl, rfl, hleag⟩
   have hL := Le.trans hL hleag
   have hA := rd.mono hleag hA
   have hQq := rd.mono hleag hQq
   have hQr := rd.mono hleag hQr
   have hb := RdL.mono hleag hb
   have hlq := RdL.mono hleag hlq
   have hlr := RdL.mono hleag hlr
   refine TL.pickT rfl rfl rfl rfl ?_
   refine TL.assign rfl rfl ?_
   refine TL.nil ?_
   refine TQ.then_n ?_
   refine TC.ret ?_
   refine TQ.ret1 1 rfl rfl ?_
   exact ⟨rfl, rfl, hL⟩
theorem law_any {s t u : List Int} (hs : ∀ n ∈ s, I64 n) (ht : ∀ n ∈ t, I64 n) (hu : ∀ n ∈ u, I64 n) {w0 : World} {H : Hp} {own : List Seg} {vs vt vu : Value} (hA : rd H (.s 1 (ints s)) vs) (hB : rd H (.s 1 (ints t)) vt) (hC : rd H (.s 1 (ints u)) vu) :
    Fn Try.prog 4 [vs, vt, vu] w0 H own (fun r own' H' => r = .bool true ∧ own' = own ∧ Le H H') := by
  have len : ∀ {l : List Int} {v : Value}, rd H (.s 1 (ints l)) v → l.length ≤ 9223372036854775807 := by
    intro l v h
    obtain ⟨_, _, _, h1, h2⟩ := vals_len h
    rw [List.length_map] at h1; omega
  have hsl := len hA
  have htl := len hB
  have hul := len hC
  have z1 := made_size s
  have z2 := made_size t
  have z3 := made_size u
  refine Fn.enter Try.func4 rfl Try.ntmps4 rfl ?_
  have hL := Le.refl H
  refine TC.seq ?_
  refine TC.region ?_
  refine TL.assign rfl rfl ?_
  refine TL.nil ?_
  refine TQ.then_n ?_
  refine TC.seq ?_
  refine TC.region ?_
  refine TL.call (law_sanity) trivial rfl ?_
  rintro _ own Hsn ⟨rfl, rfl, hlesn⟩
  have hL := Le.trans hL hlesn
  have hA := rd.mono hlesn hA
  have hB := rd.mono hlesn hB
  have hC := rd.mono hlesn hC
  refine TL.assign rfl rfl ?_
  refine TL.nil ?_
  refine TQ.then_n ?_
  refine TC.seq ?_
  refine TC.region ?_
  refine TL.move rfl rfl ?_
  refine TL.move rfl rfl ?_
  refine TL.gyes rfl rfl rfl ?_
  refine TL.move rfl rfl ?_
  refine TL.gyes rfl rfl rfl ?_
  refine TL.call (ref_Made hs hsl hA) ⟨rfl, trivial⟩ rfl ?_
  rintro _ own Hb12 ⟨b0, b1, rfl, hb, rfl, hle12⟩
  have hL := Le.trans hL hle12
  have hA := rd.mono hle12 hA
  have hB := rd.mono hle12 hB
  have hC := rd.mono hle12 hC
  refine TL.gyes rfl rfl rfl ?_
  refine TL.move rfl rfl ?_
  refine TL.gyes rfl rfl rfl ?_
  refine TL.call (ref_Made ht htl hB) ⟨rfl, trivial⟩ rfl ?_
  rintro _ own Hb14 ⟨lq0, lq1, rfl, hlq, rfl, hle14⟩
  have hL := Le.trans hL hle14
  have hA := rd.mono hle14 hA
  have hB := rd.mono hle14 hB
  have hC := rd.mono hle14 hC
  have hb := RdL.mono hle14 hb
  refine TL.gyes rfl rfl rfl ?_
  refine TL.move rfl rfl ?_
  refine TL.gyes rfl rfl rfl ?_
  refine TL.call (ref_Made hu hul hC) ⟨rfl, trivial⟩ rfl ?_
  rintro _ own Hb16 ⟨lr0, lr1, rfl, hlr, rfl, hle16⟩
  have hL := Le.trans hL hle16
  have hA := rd.mono hle16 hA
  have hB := rd.mono hle16 hB
  have hC := rd.mono hle16 hC
  have hb := RdL.mono hle16 hb
  have hlq := RdL.mono hle16 hlq
  refine TL.gyes rfl rfl rfl ?_
  refine TL.call (law_agrees (by omega) (by omega) (by omega) hb hlq hlr) ⟨rfl, rfl, rfl, trivial⟩ rfl ?_
  rintro _ own Hag ⟨rfl, rfl, hleag⟩
  have hL := Le.trans hL hleag
  have hA := rd.mono hleag hA
  have hB := rd.mono hleag hB
  have hC := rd.mono hleag hC
  have hb := RdL.mono hleag hb
  have hlq := RdL.mono hleag hlq
  have hlr := RdL.mono hleag hlr
  refine TL.pickT rfl rfl rfl rfl ?_
  refine TL.assign rfl rfl ?_
  refine TL.nil ?_
  refine TQ.then_n ?_
  refine TC.ret ?_
  refine TQ.ret1 0 rfl rfl ?_
  exact ⟨rfl, rfl, hL⟩

end Go.Proofs.Ytapmmfabdmhdnaa.K
