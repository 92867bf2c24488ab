/-
  The walk of MergeRenamesBack.
-/
import Derived.Test.YtapmmfabdmhdnaaLawRB
import Derived.Test.YtapmmfabdmhdnaaSane
set_option linter.unusedVariables false
set_option linter.unusedSimpArgs false
set_option maxHeartbeats 4000000
namespace Go.Proofs.Ytapmmfabdmhdnaa.K
open Go Go.RowKit Go.Proofs

theorem law_back {l : List (Int × Int × Int)} (hq : ∀ x ∈ l, I64 x.1 ∧ I64 x.2.1 ∧ I64 x.2.2) {w0 : World} {H : Hp} {own : List Seg} {v : Value} (hA : rd H (.s 3 (trips l)) v) :
    Fn Try.prog 12 [v] w0 H own (fun r own' H' => r = .bool true ∧ own' = own ∧ Le H H') := by
  have hok := fu_ok l
  have hok2 : FuOk (renF (oldN.zip freshN) (funcP l)) := ren_ok hok (by decide)
  have hm9 : (renF (oldN.zip freshN) (funcP l)).nm = (⟨#[109, 57]⟩ : ByteArray) := new_main
  refine Fn.enter Try.func12 rfl Try.ntmps12 rfl ?_
  have hL := Le.refl H
  refine TC.seq ?_
  refine TC.region ?_
  refine TL.assign rfl rfl ?_
  refine TL.nil ?_
  refine TQ.then_n ?_
  refine TC.seq ?_
  refine TC.region ?_
  refine TL.call (law_sanity) trivial rfl ?_
  rintro _ own Hsn ⟨rfl, rfl, hlesn⟩
  have hL := Le.trans hL hlesn
  have hA := rd.mono hlesn hA
  refine TL.assign rfl rfl ?_
  refine TL.nil ?_
  refine TQ.then_n ?_
  refine TC.seq ?_
  refine TC.region ?_
  refine TL.move rfl rfl ?_
  refine TL.call (mk_Func hq hA) ⟨rfl, trivial⟩ rfl ?_
  rintro _ _ H10 ⟨vp, u, xs, seg, rfl, hvp, rfl, hrow, hxs, hle10⟩
  have hL := Le.trans hL hle10
  have hA := rd.mono hle10 hA
  refine TL.new rfl ?_; intro g4
  refine TL.storeA 0 0 (c' := #[_, _, _, _, _, _, _, _, _, _]) (own' := [(_, .cells #[_, _, _, _, _, _, _, _, _, _] _ _)] :: _) rfl rfl rfl rfl rfl ⟨rfl, hvp.one, rfl, rfl, rfl, rfl, hrow.one, rfl, rfl, rfl, trivial⟩ (by simp [putC]) (putC_all rfl) rfl rfl ?_
  refine TL.nil ?_
  refine TQ.then_n ?_
  refine TC.seq ?_
  refine TC.sel 2 [1, 0] rfl (fun o ho => ?_)
  simp only [K.sel, List.map_cons, List.map_nil, List.getD_cons_zero, List.getD_cons_succ, List.drop_succ_cons, List.drop_zero, List.cons_append, List.nil_append, List.set_cons_zero, List.set_cons_succ] at ho; subst ho
  refine TC.freeze (fun H1 hle hz_row => ?_)
  have hL := Le.trans hL hle
  have hA := rd.mono hle hA
  have hvp := rd.mono hle hvp
  have hxs := RdL.mono hle hxs
  have hfd : RdL H1 (funcP l).d [.string (bs [109, 97, 105, 110]), vp, .int .i64 7, .string ⟨#[]⟩, .int .i64 0, .slice none 0 0, u, .bool false, .int .i64 0, .int .u16 0] := fu_of (f := funcP l) hvp (tyz_d _ _) (rd.ofRow hrow hz_row hxs (Le.refl _))
  refine TC.region ?_
  refine TL.litF (r := [_, _, _, _, _]) [(0, [_]), (1, [_]), (2, [_]), (3, [_]), (4, [_])] ⟨rfl, ⟨_, rfl, rfl⟩, rfl, ⟨_, rfl, rfl⟩, rfl, ⟨_, rfl, rfl⟩, rfl, ⟨_, rfl, rfl⟩, rfl, ⟨_, rfl, rfl⟩, trivial⟩ rfl rfl rfl rfl ?_; intro g11
  refine TL.assign rfl rfl ?_
  refine TL.nil ?_
  refine TQ.then_n ?_
  refine TC.seq ?_
  refine TC.region ?_
  refine TL.litF (r := [_, _, _, _, _]) [(0, [_]), (1, [_]), (2, [_]), (3, [_]), (4, [_])] ⟨rfl, ⟨_, rfl, rfl⟩, rfl, ⟨_, rfl, rfl⟩, rfl, ⟨_, rfl, rfl⟩, rfl, ⟨_, rfl, rfl⟩, rfl, ⟨_, rfl, rfl⟩, trivial⟩ rfl rfl rfl rfl ?_; intro g12
  refine TL.assign rfl rfl ?_
  refine TL.nil ?_
  refine TQ.then_n ?_
  refine TC.seq ?_
  refine TC.sel 3 [1, 0, 2] rfl (fun o ho => ?_)
  simp only [K.sel, List.map_cons, List.map_nil, List.getD_cons_zero, List.getD_cons_succ, List.drop_succ_cons, List.drop_zero, List.cons_append, List.nil_append, List.set_cons_zero, List.set_cons_succ] at ho; subst ho
  refine TC.freeze (fun H2 hle hz_g11 => ?_)
  have hL := Le.trans hL hle
  have hA := rd.mono hle hA
  have hvp := rd.mono hle hvp
  have hxs := RdL.mono hle hxs
  have hz_row := hz.mono hle hz_row
  have hfd := RdL.mono hle hfd
  refine TC.freeze (fun H3 hle hz_g12 => ?_)
  have hL := Le.trans hL hle
  have hA := rd.mono hle hA
  have hvp := rd.mono hle hvp
  have hxs := RdL.mono hle hxs
  have hz_row := hz.mono hle hz_row
  have hfd := RdL.mono hle hfd
  have hz_g11 := hz.mono hle hz_g11
  have ho : rd H3 (.s 1 (strsD oldN)) (.slice (some ⟨g11, 0, none⟩) 5 5) := strs_lit (l := oldN) (by decide) hz_g11
  have hn : rd H3 (.s 1 (strsD freshN)) (.slice (some ⟨g12, 0, none⟩) 5 5) := strs_lit (l := freshN) (by decide) hz_g12
  refine TC.region ?_
  refine TL.load_ownA 0 0 [_, _, _, _, _, _, _, _, _, _] rfl rfl rfl ⟨rfl, rfl, rfl, rfl, rfl, rfl, rfl, rfl, rfl, rfl, trivial⟩ rfl rfl ?_
  refine TL.move rfl rfl ?_
  refine TL.move rfl rfl ?_
  refine TL.call (ren_Rename hok old_ok fresh_ok hfd ho hn) ⟨rfl, rfl, rfl, trivial⟩ rfl ?_
  rintro _ _ H16 ⟨c16, rfl, hgd, rfl, hle16⟩
  have hgd0 := hgd
  obtain ⟨up, s0, s1, s2, s3, ub, rfl, hup, hss, hub⟩ := fu_cells hgd
  replace hgd := hgd0
  have hL := Le.trans hL hle16
  have hA := rd.mono hle16 hA
  have hvp := rd.mono hle16 hvp
  have hxs := RdL.mono hle16 hxs
  have hz_row := hz.mono hle16 hz_row
  have hfd := RdL.mono hle16 hfd
  have hz_g11 := hz.mono hle16 hz_g11
  have hz_g12 := hz.mono hle16 hz_g12
  have ho := rd.mono hle16 ho
  have hn := rd.mono hle16 hn
  refine TL.new rfl ?_; intro g7
  refine TL.storeA 0 0 (c' := #[_, _, _, _, _, _, _, _, _, _]) (own' := [(_, .cells #[_, _, _, _, _, _, _, _, _, _] _ _)] :: _) rfl rfl rfl rfl rfl (fu_ones hup hss hub) (by simp [putC]) (putC_all rfl) rfl rfl ?_
  refine TL.nil ?_
  refine TQ.then_n ?_
  refine TC.seq ?_
  refine TC.drawQV 27  [(0, _), (2, _), (3, _), (4, _), (5, _), (6, _), (7, _)] follows_mixed ⟨rfl, rfl, rfl, rfl, rfl, rfl, rfl, trivial⟩ ?_
  refine ChainV.q (some 17) [] (by
   intro H' X F hle
   intro hF
   refine TL.move rfl rfl ?_
   refine TL.nil ?_
   exact TQ.one [] hF (Le.refl _) ⟨rfl, rfl⟩) ?_
  refine ChainV.q (some 18) [(0, 0)] (by
   intro H' X F hle
   intro hF
   refine TL.move rfl rfl ?_
   refine TL.nil ?_
   exact TQ.one [] hF (Le.refl _) ⟨rfl, rfl⟩) ?_
  refine ChainV.q (some 19) [(1, 0)] (by
   intro H' X F hle
   intro hF
   refine TL.gyes rfl rfl rfl ?_
   refine TL.fieldAddr rfl rfl ?_
   refine TL.nil ?_
   exact TQ.one [] hF (Le.refl _) ⟨rfl, rfl⟩) ?_
  refine ChainV.q (some 20) [(2, 0), (1, 1)] (by
   intro H' X F hle
   have hL := Le.trans hL hle
   have hA := rd.mono hle hA
   have hvp := rd.mono hle hvp
   have hxs := RdL.mono hle hxs
   have hz_row := hz.mono hle hz_row
   have hfd := RdL.mono hle hfd
   have hz_g11 := hz.mono hle hz_g11
   have hz_g12 := hz.mono hle hz_g12
   have ho := rd.mono hle ho
   have hn := rd.mono hle hn
   have hgd := RdL.mono hle hgd
   intro hF
   refine TL.gyes rfl rfl rfl ?_
   refine TL.load_own 0 0 rfl rfl rfl rfl rfl ?_
   refine TL.nil ?_
   exact TQ.one [] hF (Le.refl _) ⟨rfl, rfl⟩) ?_
  refine ChainV.q (some 21) [(3, 0), (1, 2)] (by
   intro H' X F hle
   have hL := Le.trans hL hle
   have hA := rd.mono hle hA
   have hvp := rd.mono hle hvp
   have hxs := RdL.mono hle hxs
   have hz_row := hz.mono hle hz_row
   have hfd := RdL.mono hle hfd
   have hz_g11 := hz.mono hle hz_g11
   have hz_g12 := hz.mono hle hz_g12
   have ho := rd.mono hle ho
   have hn := rd.mono hle hn
   have hgd := RdL.mono hle hgd
   intro hF
   refine TL.gyes rfl rfl rfl ?_
   refine TL.eqlS rfl rfl rfl ?_
   rw [decide_eq_true hm9]
   refine TL.nil ?_
   exact TQ.one [] hF (Le.refl _) ⟨rfl, rfl⟩) ?_
  refine ChainV.q (some 22) [(1, 3), (4, 0)] (by
   intro H' X F hle
   intro hF
   refine TL.pickT rfl rfl rfl rfl ?_
   refine TL.nil ?_
   exact TQ.one [] hF (Le.refl _) ⟨rfl, rfl⟩) ?_
  refine ChainV.q (some 23) [(5, 0)] (by
   intro H' X F hle
   intro hF
   refine TL.move rfl rfl ?_
   refine TL.nil ?_
   exact TQ.one [] hF (Le.refl _) ⟨rfl, rfl⟩) ?_
  refine ChainV.q (some 24) [(6, 0)] (by
   intro H' X F hle
   have hL := Le.trans hL hle
   have hA := rd.mono hle hA
   have hvp := rd.mono hle hvp
   have hxs := RdL.mono hle hxs
   have hz_row := hz.mono hle hz_row
   have hfd := RdL.mono hle hfd
   have hz_g11 := hz.mono hle hz_g11
   have hz_g12 := hz.mono hle hz_g12
   have ho := rd.mono hle ho
   have hn := rd.mono hle hn
   have hgd := RdL.mono hle hgd
   intro hF
   refine TL.gyes rfl rfl rfl ?_
   refine TL.load_ownA 0 0 [_, _, _, _, _, _, _, _, _, _] rfl rfl rfl ⟨rfl, rfl, rfl, rfl, rfl, rfl, rfl, rfl, rfl, rfl, trivial⟩ rfl rfl ?_
   refine TL.nil ?_
   exact TQ.one [] hF (Le.refl _) ⟨rfl, rfl⟩) ?_
  refine ChainV.q (some 25) [(6, 1)] (by
   intro H' X F hle
   intro hF
   refine TL.gyes rfl rfl rfl ?_
   refine TL.move rfl rfl ?_
   refine TL.nil ?_
   exact TQ.one [] hF (Le.refl _) ⟨rfl, rfl⟩) ?_
  refine ChainV.q (some 26) [(6, 2)] (by
   intro H' X F hle
   intro hF
   refine TL.gyes rfl rfl rfl ?_
   refine TL.move rfl rfl ?_
   refine TL.nil ?_
   exact TQ.one [] hF (Le.refl _) ⟨rfl, rfl⟩) ?_
  refine ChainV.r (some 27) [(7, 2), (8, 1), (9, 0), (6, 3)] ([]) (fun _ => fun u s H => ∃ cs, u = .agg (List.toArray cs) ∧ RdL H (funcP l).d cs ∧ s = []) (by
   intro H' X F hle
   have hL := Le.trans hL hle
   have hA := rd.mono hle hA
   have hvp := rd.mono hle hvp
   have hxs := RdL.mono hle hxs
   have hz_row := hz.mono hle hz_row
   have hfd := RdL.mono hle hfd
   have hz_g11 := hz.mono hle hz_g11
   have hz_g12 := hz.mono hle hz_g12
   have ho := rd.mono hle ho
   have hn := rd.mono hle hn
   have hgd := RdL.mono hle hgd
   intro hF
   refine TL.gyes rfl rfl rfl ?_
   refine TL.call (ren_Rename hok2 fresh_ok old_ok hgd hn ho) ⟨rfl, rfl, rfl, trivial⟩ rfl ?_
   rintro _ _ H27 ⟨c27, rfl, hr27, rfl, hle27⟩
   rw [back_F] at hr27
   have hL := Le.trans hL hle27
   have hA := rd.mono hle27 hA
   have hvp := rd.mono hle27 hvp
   have hxs := RdL.mono hle27 hxs
   have hz_row := hz.mono hle27 hz_row
   have hfd := RdL.mono hle27 hfd
   have hz_g11 := hz.mono hle27 hz_g11
   have hz_g12 := hz.mono hle27 hz_g12
   have ho := rd.mono hle27 ho
   have hn := rd.mono hle27 hn
   have hgd := RdL.mono hle27 hgd
   refine TL.nil ?_
   exact TQ.one [] hF hle27 ⟨_, rfl, hr27, rfl⟩) ?_
  refine ChainV.q (some 28) [(6, 4)] (by
   intro H' X F hle
   have hL := Le.trans hL hle
   have hA := rd.mono hle hA
   have hvp := rd.mono hle hvp
   have hxs := RdL.mono hle hxs
   have hz_row := hz.mono hle hz_row
   have hfd := RdL.mono hle hfd
   have hz_g11 := hz.mono hle hz_g11
   have hz_g12 := hz.mono hle hz_g12
   have ho := rd.mono hle ho
   have hn := rd.mono hle hn
   have hgd := RdL.mono hle hgd
   intro hF
   refine TL.gyes rfl rfl rfl ?_
   refine TL.load_ownA 1 0 [_, _, _, _, _, _, _, _, _, _] rfl rfl rfl ⟨rfl, rfl, rfl, rfl, rfl, rfl, rfl, rfl, rfl, rfl, trivial⟩ rfl rfl ?_
   refine TL.nil ?_
   exact TQ.one [] hF (Le.refl _) ⟨rfl, rfl⟩) ?_
  refine ChainV.q (some 29) [(10, 1), (11, 0), (6, 5)] (by
   intro H' X F hle
   have hL := Le.trans hL hle
   have hA := rd.mono hle hA
   have hvp := rd.mono hle hvp
   have hxs := RdL.mono hle hxs
   have hz_row := hz.mono hle hz_row
   have hfd := RdL.mono hle hfd
   have hz_g11 := hz.mono hle hz_g11
   have hz_g12 := hz.mono hle hz_g12
   have ho := rd.mono hle ho
   have hn := rd.mono hle hn
   have hgd := RdL.mono hle hgd
   intro _
   rintro _ _ H27 hle27 ⟨c27, rfl, hr27, rfl⟩
   replace hr27 := RdL.mono hle27 hr27
   intro hF
   refine TL.gyes rfl rfl rfl ?_
   refine TL.call (law_equal hr27 hfd) ⟨rfl, rfl, trivial⟩ rfl ?_
   rintro _ _ H29 ⟨rfl, rfl, hle29⟩
   have hL := Le.trans hL hle29
   have hA := rd.mono hle29 hA
   have hvp := rd.mono hle29 hvp
   have hxs := RdL.mono hle29 hxs
   have hz_row := hz.mono hle29 hz_row
   have hfd := RdL.mono hle29 hfd
   have hz_g11 := hz.mono hle29 hz_g11
   have hz_g12 := hz.mono hle29 hz_g12
   have ho := rd.mono hle29 ho
   have hn := rd.mono hle29 hn
   have hgd := RdL.mono hle29 hgd
   refine TL.nil ?_
   exact TQ.one [] hF hle29 ⟨rfl, rfl⟩) ?_
  refine ChainV.q (some 30) [(6, 6), (12, 0)] (by
   intro H' X F hle
   intro hF
   refine TL.pickT rfl rfl rfl rfl ?_
   refine TL.nil ?_
   exact TQ.one [] hF (Le.refl _) ⟨rfl, rfl⟩) ?_
  refine ChainV.q (some 31) [(13, 0)] (by
   intro H' X F hle
   intro hF
   refine TL.move rfl rfl ?_
   refine TL.nil ?_
   exact TQ.one [] hF (Le.refl _) ⟨rfl, rfl⟩) ?_
  refine ChainV.q (some 32) [(14, 0)] (by
   intro H' X F hle
   have hL := Le.trans hL hle
   have hA := rd.mono hle hA
   have hvp := rd.mono hle hvp
   have hxs := RdL.mono hle hxs
   have hz_row := hz.mono hle hz_row
   have hfd := RdL.mono hle hfd
   have hz_g11 := hz.mono hle hz_g11
   have hz_g12 := hz.mono hle hz_g12
   have ho := rd.mono hle ho
   have hn := rd.mono hle hn
   have hgd := RdL.mono hle hgd
   intro hF
   refine TL.gyes rfl rfl rfl ?_
   refine TL.load_ownA 1 0 [_, _, _, _, _, _, _, _, _, _] rfl rfl rfl ⟨rfl, rfl, rfl, rfl, rfl, rfl, rfl, rfl, rfl, rfl, trivial⟩ rfl rfl ?_
   refine TL.nil ?_
   exact TQ.one [] hF (Le.refl _) ⟨rfl, rfl⟩) ?_
  refine ChainV.q (some 33) [(14, 1)] (by
   intro H' X F hle
   intro hF
   refine TL.gyes rfl rfl rfl ?_
   refine TL.move rfl rfl ?_
   refine TL.nil ?_
   exact TQ.one [] hF (Le.refl _) ⟨rfl, rfl⟩) ?_
  refine ChainV.q (some 34) [(14, 2)] (by
   intro H' X F hle
   intro hF
   refine TL.gyes rfl rfl rfl ?_
   refine TL.move rfl rfl ?_
   refine TL.nil ?_
   exact TQ.one [] hF (Le.refl _) ⟨rfl, rfl⟩) ?_
  refine ChainV.r (some 35) [(15, 2), (16, 1), (17, 0), (14, 3)] ([]) (fun _ => fun u s H => ∃ cs, u = .agg (List.toArray cs) ∧ RdL H (funcP l).d cs ∧ s = []) (by
   intro H' X F hle
   have hL := Le.trans hL hle
   have hA := rd.mono hle hA
   have hvp := rd.mono hle hvp
   have hxs := RdL.mono hle hxs
   have hz_row := hz.mono hle hz_row
   have hfd := RdL.mono hle hfd
   have hz_g11 := hz.mono hle hz_g11
   have hz_g12 := hz.mono hle hz_g12
   have ho := rd.mono hle ho
   have hn := rd.mono hle hn
   have hgd := RdL.mono hle hgd
   intro hF
   refine TL.gyes rfl rfl rfl ?_
   refine TL.call (ren_Rename hok old_ok old_ok hfd ho ho) ⟨rfl, rfl, rfl, trivial⟩ rfl ?_
   rintro _ _ H35 ⟨c35, rfl, hr35, rfl, hle35⟩
   rw [renF_id (toT_same oldN)] at hr35
   have hL := Le.trans hL hle35
   have hA := rd.mono hle35 hA
   have hvp := rd.mono hle35 hvp
   have hxs := RdL.mono hle35 hxs
   have hz_row := hz.mono hle35 hz_row
   have hfd := RdL.mono hle35 hfd
   have hz_g11 := hz.mono hle35 hz_g11
   have hz_g12 := hz.mono hle35 hz_g12
   have ho := rd.mono hle35 ho
   have hn := rd.mono hle35 hn
   have hgd := RdL.mono hle35 hgd
   refine TL.nil ?_
   exact TQ.one [] hF hle35 ⟨_, rfl, hr35, rfl⟩) ?_
  refine ChainV.q (some 36) [(14, 4)] (by
   intro H' X F hle
   have hL := Le.trans hL hle
   have hA := rd.mono hle hA
   have hvp := rd.mono hle hvp
   have hxs := RdL.mono hle hxs
   have hz_row := hz.mono hle hz_row
   have hfd := RdL.mono hle hfd
   have hz_g11 := hz.mono hle hz_g11
   have hz_g12 := hz.mono hle hz_g12
   have ho := rd.mono hle ho
   have hn := rd.mono hle hn
   have hgd := RdL.mono hle hgd
   intro hF
   refine TL.gyes rfl rfl rfl ?_
   refine TL.load_ownA 1 0 [_, _, _, _, _, _, _, _, _, _] rfl rfl rfl ⟨rfl, rfl, rfl, rfl, rfl, rfl, rfl, rfl, rfl, rfl, trivial⟩ rfl rfl ?_
   refine TL.nil ?_
   exact TQ.one [] hF (Le.refl _) ⟨rfl, rfl⟩) ?_
  refine ChainV.q (some 37) [(18, 1), (19, 0), (14, 5)] (by
   intro H' X F hle
   have hL := Le.trans hL hle
   have hA := rd.mono hle hA
   have hvp := rd.mono hle hvp
   have hxs := RdL.mono hle hxs
   have hz_row := hz.mono hle hz_row
   have hfd := RdL.mono hle hfd
   have hz_g11 := hz.mono hle hz_g11
   have hz_g12 := hz.mono hle hz_g12
   have ho := rd.mono hle ho
   have hn := rd.mono hle hn
   have hgd := RdL.mono hle hgd
   intro _
   rintro _ _ H35 hle35 ⟨c35, rfl, hr35, rfl⟩
   replace hr35 := RdL.mono hle35 hr35
   intro hF
   refine TL.gyes rfl rfl rfl ?_
   refine TL.call (law_equal hr35 hfd) ⟨rfl, rfl, trivial⟩ rfl ?_
   rintro _ _ H37 ⟨rfl, rfl, hle37⟩
   have hL := Le.trans hL hle37
   have hA := rd.mono hle37 hA
   have hvp := rd.mono hle37 hvp
   have hxs := RdL.mono hle37 hxs
   have hz_row := hz.mono hle37 hz_row
   have hfd := RdL.mono hle37 hfd
   have hz_g11 := hz.mono hle37 hz_g11
   have hz_g12 := hz.mono hle37 hz_g12
   have ho := rd.mono hle37 ho
   have hn := rd.mono hle37 hn
   have hgd := RdL.mono hle37 hgd
   refine TL.nil ?_
   exact TQ.one [] hF hle37 ⟨rfl, rfl⟩) ?_
  refine ChainV.q (some 38) [(14, 6), (20, 0)] (by
   intro H' X F hle
   intro hF
   refine TL.pickT rfl rfl rfl rfl ?_
   refine TL.nil ?_
   exact TQ.one [] hF (Le.refl _) ⟨rfl, rfl⟩) ?_
  refine ChainV.q (some 39) [(21, 0)] (by
   intro H' X F hle
   intro hF
   refine TL.move rfl rfl ?_
   refine TL.nil ?_
   exact TQ.one [] hF (Le.refl _) ⟨rfl, rfl⟩) ?_
  refine ChainV.q (some 40) [(22, 0)] (by
   intro H' X F hle
   have hL := Le.trans hL hle
   have hA := rd.mono hle hA
   have hvp := rd.mono hle hvp
   have hxs := RdL.mono hle hxs
   have hz_row := hz.mono hle hz_row
   have hfd := RdL.mono hle hfd
   have hz_g11 := hz.mono hle hz_g11
   have hz_g12 := hz.mono hle hz_g12
   have ho := rd.mono hle ho
   have hn := rd.mono hle hn
   have hgd := RdL.mono hle hgd
   intro hF
   refine TL.gyes rfl rfl rfl ?_
   refine TL.load_ownA 1 0 [_, _, _, _, _, _, _, _, _, _] rfl rfl rfl ⟨rfl, rfl, rfl, rfl, rfl, rfl, rfl, rfl, rfl, rfl, trivial⟩ rfl rfl ?_
   refine TL.nil ?_
   exact TQ.one [] hF (Le.refl _) ⟨rfl, rfl⟩) ?_
  refine ChainV.q (some 41) [(22, 1)] (by
   intro H' X F hle
   intro hF
   refine TL.gyes rfl rfl rfl ?_
   refine TL.move rfl rfl ?_
   refine TL.nil ?_
   exact TQ.one [] hF (Le.refl _) ⟨rfl, rfl⟩) ?_
  refine ChainV.r (some 42) [(23, 1), (24, 0), (22, 2)] ([]) (fun _ => fun u s H => ∃ cs, u = .agg (List.toArray cs) ∧ RdL H (funcP l).d cs ∧ s = []) (by
   intro H' X F hle
   have hL := Le.trans hL hle
   have hA := rd.mono hle hA
   have hvp := rd.mono hle hvp
   have hxs := RdL.mono hle hxs
   have hz_row := hz.mono hle hz_row
   have hfd := RdL.mono hle hfd
   have hz_g11 := hz.mono hle hz_g11
   have hz_g12 := hz.mono hle hz_g12
   have ho := rd.mono hle ho
   have hn := rd.mono hle hn
   have hgd := RdL.mono hle hgd
   intro hF
   refine TL.gyes rfl rfl rfl ?_
   refine TL.call (ren_Rename hok nil_ok fresh_ok hfd (fr := []) (rd.nil _ _) hn) ⟨rfl, rfl, rfl, trivial⟩ rfl ?_
   rintro _ _ H42 ⟨c42, rfl, hr42, rfl, hle42⟩
   rw [renF_id (fun s => rfl)] at hr42
   have hL := Le.trans hL hle42
   have hA := rd.mono hle42 hA
   have hvp := rd.mono hle42 hvp
   have hxs := RdL.mono hle42 hxs
   have hz_row := hz.mono hle42 hz_row
   have hfd := RdL.mono hle42 hfd
   have hz_g11 := hz.mono hle42 hz_g11
   have hz_g12 := hz.mono hle42 hz_g12
   have ho := rd.mono hle42 ho
   have hn := rd.mono hle42 hn
   have hgd := RdL.mono hle42 hgd
   refine TL.nil ?_
   exact TQ.one [] hF hle42 ⟨_, rfl, hr42, rfl⟩) ?_
  refine ChainV.q (some 43) [(22, 3)] (by
   intro H' X F hle
   have hL := Le.trans hL hle
   have hA := rd.mono hle hA
   have hvp := rd.mono hle hvp
   have hxs := RdL.mono hle hxs
   have hz_row := hz.mono hle hz_row
   have hfd := RdL.mono hle hfd
   have hz_g11 := hz.mono hle hz_g11
   have hz_g12 := hz.mono hle hz_g12
   have ho := rd.mono hle ho
   have hn := rd.mono hle hn
   have hgd := RdL.mono hle hgd
   intro hF
   refine TL.gyes rfl rfl rfl ?_
   refine TL.load_ownA 1 0 [_, _, _, _, _, _, _, _, _, _] rfl rfl rfl ⟨rfl, rfl, rfl, rfl, rfl, rfl, rfl, rfl, rfl, rfl, trivial⟩ rfl rfl ?_
   refine TL.nil ?_
   exact TQ.one [] hF (Le.refl _) ⟨rfl, rfl⟩) ?_
  refine ⟨by kernel_rfl, .refl _, ?_⟩
  ·
   intro H4 hle
   rintro _ _ H27 hle27 ⟨c27, rfl, hr27, rfl⟩
   replace hr27 := RdL.mono hle27 hr27
   rintro _ _ H35 hle35 ⟨c35, rfl, hr35, rfl⟩
   replace hr35 := RdL.mono hle35 hr35
   rintro _ _ H42 hle42 ⟨c42, rfl, hr42, rfl⟩
   replace hr42 := RdL.mono hle42 hr42
   have hL := Le.trans hL hle
   have hA := rd.mono hle hA
   have hvp := rd.mono hle hvp
   have hxs := RdL.mono hle hxs
   have hz_row := hz.mono hle hz_row
   have hfd := RdL.mono hle hfd
   have hz_g11 := hz.mono hle hz_g11
   have hz_g12 := hz.mono hle hz_g12
   have ho := rd.mono hle ho
   have hn := rd.mono hle hn
   have hgd := RdL.mono hle hgd
   refine TL.toOwn (own' := _ :: _ :: own) rfl ?_
   refine TL.wk (env' := [(0, _), (2, _), (4, _), (5, _), (6, _), (7, _), (39, _), (42, _), (43, _)]) ⟨rfl, rfl, rfl, rfl, rfl, rfl, rfl, rfl, rfl, trivial⟩ ?_
   refine TL.gyes rfl rfl rfl ?_
   refine TL.call (law_equal hr42 hfd) ⟨rfl, rfl, trivial⟩ rfl ?_
   rintro _ _ H44 ⟨rfl, rfl, hle44⟩
   have hL := Le.trans hL hle44
   have hA := rd.mono hle44 hA
   have hvp := rd.mono hle44 hvp
   have hxs := RdL.mono hle44 hxs
   have hz_row := hz.mono hle44 hz_row
   have hfd := RdL.mono hle44 hfd
   have hz_g11 := hz.mono hle44 hz_g11
   have hz_g12 := hz.mono hle44 hz_g12
   have ho := rd.mono hle44 ho
   have hn := rd.mono hle44 hn
   have hgd := RdL.mono hle44 hgd
   refine TL.pickT rfl rfl rfl rfl ?_
   refine TL.assign rfl rfl ?_
   refine TL.nil ?_
   refine TQ.then_n ?_
   refine TC.ret ?_
   refine TQ.ret1 2 rfl rfl ?_
   exact ⟨rfl, rfl, hL⟩

end Go.Proofs.Ytapmmfabdmhdnaa.K
