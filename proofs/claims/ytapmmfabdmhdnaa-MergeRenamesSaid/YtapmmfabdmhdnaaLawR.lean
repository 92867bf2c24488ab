/-
  The walk of MergeRenames.
-/
import Derived.Test.YtapmmfabdmhdnaaLawRB
import Derived.Test.YtapmmfabdmhdnaaSane
set_option linter.unusedVariables false
set_option linter.unusedSimpArgs false
set_option maxHeartbeats 4000000
namespace Go.Proofs.Ytapmmfabdmhdnaa.K
open Go Go.RowKit Go.Proofs

theorem law_renames {l : List (Int × Int × Int)} (hq : ∀ x ∈ l, I64 x.1 ∧ I64 x.2.1 ∧ I64 x.2.2) {l1 l2 : List Int} (hl1 : ∀ x ∈ l1, InK .u8 x) (hl2 : ∀ x ∈ l2, InK .u8 x) {w0 : World} {H : Hp} {own : List Seg} {v v1 v2 : Value}
    (hA : rd H (.s 3 (trips l)) v) (h1 : rd H (.s 1 (kints .u8 l1)) v1) (h2 : rd H (.s 1 (kints .u8 l2)) v2) :
    Fn Try.prog 11 [v, v1, v2] w0 H own (fun r own' H' => r = .bool true ∧ own' = own ∧ Le H H') := by
  obtain ⟨nb, hnb⟩ : ∃ nb, nb = (funcP l).body.length + 2 := ⟨_, rfl⟩
  have hnb14 : nb ≤ 14 := by rw [hnb]; simp only [funcP, List.length_map, List.length_take]; omega
  have hok := law_ok l
  have hn1 := names_ok l1
  have hn2 := names_ok l2
  refine Fn.enter Try.func11 rfl Try.ntmps11 rfl ?_
  have hL := Le.refl H
  refine TC.seq ?_
  refine TC.region ?_
  refine TL.assign rfl rfl ?_
  refine TL.nil ?_
  refine TQ.then_n ?_
  refine TC.seq ?_
  refine TC.region ?_
  refine TL.call (law_sanity) trivial rfl ?_
  rintro _ own Hsn ⟨rfl, rfl, hlesn⟩
  have hL := Le.trans hL hlesn
  have hA := rd.mono hlesn hA
  have h1 := rd.mono hlesn h1
  have h2 := rd.mono hlesn h2
  refine TL.assign rfl rfl ?_
  refine TL.nil ?_
  refine TQ.then_n ?_
  refine TC.seq ?_
  refine TC.region ?_
  refine TL.move rfl rfl ?_
  refine TL.call (mk_Func hq hA) ⟨rfl, trivial⟩ rfl ?_
  rintro _ _ H11 ⟨vp, u, xs, seg, rfl, hvp, rfl, hrow, hxs, hle11⟩
  have hL := Le.trans hL hle11
  have hA := rd.mono hle11 hA
  have h1 := rd.mono hle11 h1
  have h2 := rd.mono hle11 h2
  refine TL.new rfl ?_; intro g8
  refine TL.storeA 0 0 (c' := #[_, _, _, _, _, _, _, _, _, _]) (own' := [(_, .cells #[_, _, _, _, _, _, _, _, _, _] _ _)] :: _) rfl rfl rfl rfl rfl ⟨rfl, hvp.one, rfl, rfl, rfl, rfl, hrow.one, rfl, rfl, rfl, trivial⟩ (by simp [putC]) (putC_all rfl) rfl rfl ?_
  refine TL.nil ?_
  refine TQ.then_n ?_
  refine TC.seq ?_
  refine TC.region ?_
  refine TL.fieldAddr rfl rfl ?_
  refine TL.load_own 0 0 rfl rfl rfl rfl rfl ?_
  refine TL.struct [(0, [_])] ⟨rfl, ⟨_, rfl, rfl⟩, trivial⟩ rfl rfl ?_
  refine TL.struct [(0, [_]), (1, [_])] ⟨rfl, ⟨_, rfl, rfl⟩, rfl, ⟨_, rfl, rfl⟩, trivial⟩ rfl rfl ?_
  refine TL.litF (r := [_, _, _, _]) [(0, [_, _, _, _])] ⟨rfl, ⟨_, rfl, rfl⟩, trivial⟩ rfl rfl rfl rfl ?_; intro g16
  refine TL.struct [(0, [_]), (1, [_]), (2, [_, _, _, _]), (4, [_])] ⟨rfl, ⟨_, rfl, rfl⟩, rfl, ⟨_, rfl, rfl⟩, rfl, ⟨_, rfl, rfl⟩, rfl, ⟨_, rfl, rfl⟩, trivial⟩ rfl rfl ?_
  refine TL.struct [(0, [_]), (1, [_])] ⟨rfl, ⟨_, rfl, rfl⟩, rfl, ⟨_, rfl, rfl⟩, trivial⟩ rfl rfl ?_
  refine TL.struct [(0, [_]), (1, [_])] ⟨rfl, ⟨_, rfl, rfl⟩, rfl, ⟨_, rfl, rfl⟩, trivial⟩ rfl rfl ?_
  refine TL.litF (r := [_, _, _, _]) [(0, [_, _, _, _])] ⟨rfl, ⟨_, rfl, rfl⟩, trivial⟩ rfl rfl rfl rfl ?_; intro g20
  refine TL.struct [(0, [_]), (3, [_]), (4, [_])] ⟨rfl, ⟨_, rfl, rfl⟩, rfl, ⟨_, rfl, rfl⟩, rfl, ⟨_, rfl, rfl⟩, trivial⟩ rfl rfl ?_
  refine TL.litF (r := [_, _, _, _, _, _, _, _, _, _, _, _, _, _, _, _, _, _, _, _, _, _]) [(0, [_, _, _, _, _, _, _, _, _, _, _]), (1, [_, _, _, _, _, _, _, _, _, _, _])] ⟨rfl, ⟨_, rfl, rfl⟩, rfl, ⟨_, rfl, rfl⟩, trivial⟩ rfl rfl rfl rfl ?_; intro g22
  refine TL.struct [(0, [_]), (1, [_]), (5, [_])] ⟨rfl, ⟨_, rfl, rfl⟩, rfl, ⟨_, rfl, rfl⟩, rfl, ⟨_, rfl, rfl⟩, trivial⟩ rfl rfl ?_
  refine TL.litF (r := [_, _, _, _, _, _, _, _, _, _, _, _, _, _, _, _, _, _, _, _, _, _]) [(0, [_, _, _, _, _, _, _, _, _, _, _]), (1, [_, _, _, _, _, _, _, _, _, _, _])] ⟨rfl, ⟨_, rfl, rfl⟩, rfl, ⟨_, rfl, rfl⟩, trivial⟩ rfl rfl rfl rfl ?_; intro g24
  refine TL.append 5 rfl rfl rfl hrow (Src.ofOwn 0 0 rfl rfl rfl (Ones.all (show Ones ([.int .i64 1, .string nV1, .int .i64 1, .string ⟨#[]⟩, .int .i64 0, .slice none 0 0, .int .u16 0, .slice (some ⟨g16, 0, none⟩) 1 1, .slice none 0 0, .slice none 0 0, .slice none 0 0] ++ [.int .i64 5, .string nF, .int .i64 0, .string ⟨#[]⟩, .int .i64 0, .slice none 0 0, .int .u16 0, .slice none 0 0, .slice (some ⟨g22, 0, none⟩) 2 2, .slice none 0 0, .slice none 0 0]) from ⟨rfl, rfl, rfl, rfl, rfl, rfl, rfl, rfl, rfl, rfl, rfl, rfl, rfl, rfl, rfl, rfl, rfl, rfl, rfl, rfl, rfl, rfl, trivial⟩)) ⟨rfl, rfl, rfl, rfl, rfl, rfl, rfl, rfl, rfl, rfl, rfl, rfl, rfl, rfl, rfl, rfl, rfl, rfl, rfl, rfl, rfl, rfl, trivial⟩) (by omega) (by omega) rfl ?_
  intro u2 seg2 hrow2
  rw [← hnb] at hrow2
  refine TL.fieldAddr rfl rfl ?_
  refine TL.store1 4 0 (c' := #[_, _, _, _, _, _, _, _, _, _]) (own' := _ :: _ :: _ :: _ :: [(_, .cells #[_, _, _, _, _, _, _, _, _, _] _ _)] :: _) rfl rfl rfl rfl hrow2.one (by simp) rfl rfl rfl ?_
  refine TL.nil ?_
  refine TQ.then_n ?_
  refine TC.seq ?_
  refine TC.sel 6 [3, 0, 1, 2, 4, 5] rfl (fun o ho => ?_)
  simp only [K.sel, List.map_cons, List.map_nil, List.getD_cons_zero, List.getD_cons_succ, List.drop_succ_cons, List.drop_zero, List.cons_append, List.nil_append, List.set_cons_zero, List.set_cons_succ] at ho; subst ho
  refine TC.freeze (fun H1 hle hz_g16 => ?_)
  have hL := Le.trans hL hle
  have hA := rd.mono hle hA
  have h1 := rd.mono hle h1
  have h2 := rd.mono hle h2
  have hvp := rd.mono hle hvp
  have hxs := RdL.mono hle hxs
  refine TC.sel 5 [2, 0, 1, 3, 4] rfl (fun o ho => ?_)
  simp only [K.sel, List.map_cons, List.map_nil, List.getD_cons_zero, List.getD_cons_succ, List.drop_succ_cons, List.drop_zero, List.cons_append, List.nil_append, List.set_cons_zero, List.set_cons_succ] at ho; subst ho
  refine TC.freeze (fun H2 hle hz_g20 => ?_)
  have hL := Le.trans hL hle
  have hA := rd.mono hle hA
  have h1 := rd.mono hle h1
  have h2 := rd.mono hle h2
  have hvp := rd.mono hle hvp
  have hxs := RdL.mono hle hxs
  have hz_g16 := hz.mono hle hz_g16
  refine TC.sel 4 [1, 0, 2, 3] rfl (fun o ho => ?_)
  simp only [K.sel, List.map_cons, List.map_nil, List.getD_cons_zero, List.getD_cons_succ, List.drop_succ_cons, List.drop_zero, List.cons_append, List.nil_append, List.set_cons_zero, List.set_cons_succ] at ho; subst ho
  refine TC.freeze (fun H3 hle hz_g22 => ?_)
  have hL := Le.trans hL hle
  have hA := rd.mono hle hA
  have h1 := rd.mono hle h1
  have h2 := rd.mono hle h2
  have hvp := rd.mono hle hvp
  have hxs := RdL.mono hle hxs
  have hz_g16 := hz.mono hle hz_g16
  have hz_g20 := hz.mono hle hz_g20
  have hB : RdL H3 (Sm.ds (lawB l)) (xs ++ ([.int .i64 1, .string nV1, .int .i64 1, .string ⟨#[]⟩, .int .i64 0, .slice none 0 0, .int .u16 0, .slice (some ⟨g16, 0, none⟩) 1 1, .slice none 0 0, .slice none 0 0, .slice none 0 0] ++ [.int .i64 5, .string nF, .int .i64 0, .string ⟨#[]⟩, .int .i64 0, .slice none 0 0, .int .u16 0, .slice none 0 0, .slice (some ⟨g22, 0, none⟩) 2 2, .slice none 0 0, .slice none 0 0])) := sms_two hxs (let_d hz_g16) (loop_d hz_g20 hz_g22)
  clear hrow
  obtain ⟨gr, cap, rfl, hcap1, hcap2⟩ := hrow2.at (by omega)
  refine TC.drawQV 15  [(0, _), (1, _), (2, _), (6, _), (7, _), (8, _)] follows_mixed ⟨rfl, rfl, rfl, rfl, rfl, rfl, trivial⟩ ?_
  refine ChainV.q (some 27) [] (by
   intro H' X F hle
   intro hF
   refine TL.fieldAddr rfl rfl ?_
   refine TL.nil ?_
   exact TQ.one [] hF (Le.refl _) ⟨rfl, rfl⟩) ?_
  refine ChainV.q (some 28) [(0, 0)] (by
   intro H' X F hle
   have hL := Le.trans hL hle
   have hA := rd.mono hle hA
   have h1 := rd.mono hle h1
   have h2 := rd.mono hle h2
   have hvp := rd.mono hle hvp
   have hxs := RdL.mono hle hxs
   have hz_g16 := hz.mono hle hz_g16
   have hz_g20 := hz.mono hle hz_g20
   have hz_g22 := hz.mono hle hz_g22
   have hB := RdL.mono hle hB
   intro hF
   refine TL.load_own 1 0 rfl rfl rfl rfl rfl ?_
   refine TL.nil ?_
   exact TQ.one [] hF (Le.refl _) ⟨rfl, rfl⟩) ?_
  refine ChainV.q (some 29) [] (by
   intro H' X F hle
   have hL := Le.trans hL hle
   have hA := rd.mono hle hA
   have h1 := rd.mono hle h1
   have h2 := rd.mono hle h2
   have hvp := rd.mono hle hvp
   have hxs := RdL.mono hle hxs
   have hz_g16 := hz.mono hle hz_g16
   have hz_g20 := hz.mono hle hz_g20
   have hz_g22 := hz.mono hle hz_g22
   have hB := RdL.mono hle hB
   intro hF
   refine TL.struct [(0, [_]), (1, [_])] ⟨rfl, ⟨_, rfl, rfl⟩, rfl, ⟨_, rfl, rfl⟩, trivial⟩ rfl rfl ?_
   refine TL.nil ?_
   exact TQ.one [] hF (Le.refl _) ⟨rfl, rfl⟩) ?_
  refine ChainV.r (some 30) [(2, 0)] ([]) (fun _ => fun u s H => rd H (.s 4 (Ex.ds [nameE nG0])) u ∧ s = []) (by
   intro H' X F hle
   have hL := Le.trans hL hle
   have hA := rd.mono hle hA
   have h1 := rd.mono hle h1
   have h2 := rd.mono hle h2
   have hvp := rd.mono hle hvp
   have hxs := RdL.mono hle hxs
   have hz_g16 := hz.mono hle hz_g16
   have hz_g20 := hz.mono hle hz_g20
   have hz_g22 := hz.mono hle hz_g22
   have hB := RdL.mono hle hB
   intro hF
   refine TL.litF (r := [_, _, _, _]) [(0, [_, _, _, _])] ⟨rfl, ⟨_, rfl, rfl⟩, trivial⟩ rfl rfl rfl rfl ?_; intro g30
   refine TL.nil ?_
   refine TQ.freeze (fun H3 hle3 hz => ?_)
   exact TQ.one [] hF hle3 ⟨one_ex hz (name_d _ _), rfl⟩) ?_
  refine ChainV.q (some 31) [] (by
   intro H' X F hle
   intro hF
   refine TL.fieldAddr rfl rfl ?_
   refine TL.nil ?_
   exact TQ.one [] hF (Le.refl _) ⟨rfl, rfl⟩) ?_
  refine ChainV.q (some 32) [(4, 0)] (by
   intro H' X F hle
   have hL := Le.trans hL hle
   have hA := rd.mono hle hA
   have h1 := rd.mono hle h1
   have h2 := rd.mono hle h2
   have hvp := rd.mono hle hvp
   have hxs := RdL.mono hle hxs
   have hz_g16 := hz.mono hle hz_g16
   have hz_g20 := hz.mono hle hz_g20
   have hz_g22 := hz.mono hle hz_g22
   have hB := RdL.mono hle hB
   intro hF
   refine TL.load_own 1 0 rfl rfl rfl rfl rfl ?_
   refine TL.nil ?_
   exact TQ.one [] hF (Le.refl _) ⟨rfl, rfl⟩) ?_
  refine ChainV.q (some 33) [(5, 0)] (by
   intro H' X F hle
   have hL := Le.trans hL hle
   have hA := rd.mono hle hA
   have h1 := rd.mono hle h1
   have h2 := rd.mono hle h2
   have hvp := rd.mono hle hvp
   have hxs := RdL.mono hle hxs
   have hz_g16 := hz.mono hle hz_g16
   have hz_g20 := hz.mono hle hz_g20
   have hz_g22 := hz.mono hle hz_g22
   have hB := RdL.mono hle hB
   intro hF
   refine TL.slice 0 1 rfl rfl ⟨_, _, rfl, rfl⟩ rfl rfl (by omega) (by omega) rfl ?_
   rw [slice_zero]
   refine TL.nil ?_
   exact TQ.one [] hF (Le.refl _) ⟨rfl, rfl⟩) ?_
  refine ChainV.q (some 34) [] (by
   intro H' X F hle
   intro hF
   refine TL.fieldAddr rfl rfl ?_
   refine TL.nil ?_
   exact TQ.one [] hF (Le.refl _) ⟨rfl, rfl⟩) ?_
  refine ChainV.q (some 35) [(7, 0)] (by
   intro H' X F hle
   have hL := Le.trans hL hle
   have hA := rd.mono hle hA
   have h1 := rd.mono hle h1
   have h2 := rd.mono hle h2
   have hvp := rd.mono hle hvp
   have hxs := RdL.mono hle hxs
   have hz_g16 := hz.mono hle hz_g16
   have hz_g20 := hz.mono hle hz_g20
   have hz_g22 := hz.mono hle hz_g22
   have hB := RdL.mono hle hB
   intro hF
   refine TL.load_own 1 0 rfl rfl rfl rfl rfl ?_
   refine TL.nil ?_
   exact TQ.one [] hF (Le.refl _) ⟨rfl, rfl⟩) ?_
  refine ChainV.r (some 36) [(6, 2), (8, 0)] ([]) (fun _ => fun u s H => ∃ g, u = .slice (some ⟨g, 0, none⟩) 2 2 ∧ s = [[(g, .cells #[.slice (some ⟨gr, 0, none⟩) 1 cap, .slice (some ⟨gr, 0, none⟩) nb cap] 49 (0, 0))]]) (by
   intro H' X F hle
   have hL := Le.trans hL hle
   have hA := rd.mono hle hA
   have h1 := rd.mono hle h1
   have h2 := rd.mono hle h2
   have hvp := rd.mono hle hvp
   have hxs := RdL.mono hle hxs
   have hz_g16 := hz.mono hle hz_g16
   have hz_g20 := hz.mono hle hz_g20
   have hz_g22 := hz.mono hle hz_g22
   have hB := RdL.mono hle hB
   intro hF
   refine TL.litF (r := [_, _]) [(0, [_]), (1, [_])] ⟨rfl, ⟨_, rfl, rfl⟩, rfl, ⟨_, rfl, rfl⟩, trivial⟩ rfl rfl rfl rfl ?_; intro g36
   refine TL.nil ?_
   exact TQ.one [_] hF (Le.refl _) ⟨_, rfl, rfl⟩) ?_
  refine ChainV.q (some 37) [] (by
   intro H' X F hle
   intro hF
   refine TL.fieldAddr rfl rfl ?_
   refine TL.nil ?_
   exact TQ.one [] hF (Le.refl _) ⟨rfl, rfl⟩) ?_
  refine ChainV.q (some 38) [(10, 0)] (by
   intro H' X F hle
   have hL := Le.trans hL hle
   have hA := rd.mono hle hA
   have h1 := rd.mono hle h1
   have h2 := rd.mono hle h2
   have hvp := rd.mono hle hvp
   have hxs := RdL.mono hle hxs
   have hz_g16 := hz.mono hle hz_g16
   have hz_g20 := hz.mono hle hz_g20
   have hz_g22 := hz.mono hle hz_g22
   have hB := RdL.mono hle hB
   intro hF
   refine TL.load_own 1 0 rfl rfl rfl rfl rfl ?_
   refine TL.nil ?_
   exact TQ.one [] hF (Le.refl _) ⟨rfl, rfl⟩) ?_
  refine ChainV.q (some 39) [(11, 0)] (by
   intro H' X F hle
   have hL := Le.trans hL hle
   have hA := rd.mono hle hA
   have h1 := rd.mono hle h1
   have h2 := rd.mono hle h2
   have hvp := rd.mono hle hvp
   have hxs := RdL.mono hle hxs
   have hz_g16 := hz.mono hle hz_g16
   have hz_g20 := hz.mono hle hz_g20
   have hz_g22 := hz.mono hle hz_g22
   have hB := RdL.mono hle hB
   intro hF
   refine TL.slice 0 1 rfl rfl ⟨_, _, rfl, rfl⟩ rfl rfl (by omega) (by omega) rfl ?_
   rw [slice_zero]
   refine TL.nil ?_
   exact TQ.one [] hF (Le.refl _) ⟨rfl, rfl⟩) ?_
  refine ChainV.r (some 40) [(3, 9), (9, 3), (12, 0)] ([]) (fun vs u s H => u = .agg #[.int .i64 9, .string ⟨#[]⟩, .int .i64 0, .string ⟨#[]⟩, .int .i64 0, .slice none 0 0, .int .u16 0, nthV vs 0, .slice none 0 0, .slice (some ⟨gr, 0, none⟩) 1 cap, nthV vs 1] ∧ s = []) (by
   intro H' X F hle
   have hL := Le.trans hL hle
   have hA := rd.mono hle hA
   have h1 := rd.mono hle h1
   have h2 := rd.mono hle h2
   have hvp := rd.mono hle hvp
   have hxs := RdL.mono hle hxs
   have hz_g16 := hz.mono hle hz_g16
   have hz_g20 := hz.mono hle hz_g20
   have hz_g22 := hz.mono hle hz_g22
   have hB := RdL.mono hle hB
   intro _
   rintro r30 _ H30 hle30 ⟨hr30, rfl⟩
   replace hr30 := rd.mono hle30 hr30
   intro _
   rintro _ _ H36 hle36 ⟨g36, rfl, rfl⟩
   intro hF
   refine TL.struct [(0, [_]), (4, [_]), (7, [_]), (6, [_])] ⟨rfl, ⟨_, rfl, rfl⟩, rfl, ⟨_, rfl, one_cells hr30.one⟩, rfl, ⟨_, rfl, rfl⟩, rfl, ⟨_, rfl, rfl⟩, trivial⟩ rfl rfl ?_
   refine TL.nil ?_
   exact TQ.one [] hF (Le.refl _) ⟨rfl, rfl⟩) ?_
  refine ChainV.r (some 41) [(13, 0)] ([]) (fun vs u s H => ∃ g a b, nthV vs 0 = .agg #[.int .i64 9, .string ⟨#[]⟩, .int .i64 0, .string ⟨#[]⟩, .int .i64 0, .slice none 0 0, .int .u16 0, a, .slice none 0 0, .slice (some ⟨gr, 0, none⟩) 1 cap, b] ∧ u = .slice (some ⟨g, 0, none⟩) 1 1 ∧ s = [[(g, .cells #[.int .i64 9, .string ⟨#[]⟩, .int .i64 0, .string ⟨#[]⟩, .int .i64 0, .slice none 0 0, .int .u16 0, a, .slice none 0 0, .slice (some ⟨gr, 0, none⟩) 1 cap, b] 61 (0, 0))]]) (by
   intro H' X F hle
   have hL := Le.trans hL hle
   have hA := rd.mono hle hA
   have h1 := rd.mono hle h1
   have h2 := rd.mono hle h2
   have hvp := rd.mono hle hvp
   have hxs := RdL.mono hle hxs
   have hz_g16 := hz.mono hle hz_g16
   have hz_g20 := hz.mono hle hz_g20
   have hz_g22 := hz.mono hle hz_g22
   have hB := RdL.mono hle hB
   intro _
   rintro _ _ H40 hle40 ⟨rfl, rfl⟩
   intro hF
   refine TL.litF (r := [_, _, _, _, _, _, _, _, _, _, _]) [(0, [_, _, _, _, _, _, _, _, _, _, _])] ⟨rfl, ⟨_, rfl, rfl⟩, trivial⟩ rfl rfl rfl rfl ?_; intro g41
   refine TL.nil ?_
   exact TQ.one [_] hF (Le.refl _) ⟨_, _, _, rfl, rfl, rfl⟩) ?_
  refine ⟨by kernel_rfl, .refl _, ?_⟩
  ·
   intro H4 hle
   rintro r30 _ H30 hle30 ⟨hr30, rfl⟩
   replace hr30 := rd.mono hle30 hr30
   rintro _ _ H36 hle36 ⟨g36, rfl, rfl⟩
   rintro _ _ H40 hle40 ⟨rfl, rfl⟩
   rintro _ _ H41 hle41 ⟨g41, a41, b41, e41, rfl, rfl⟩
   replace e41 : Value.agg #[.int .i64 9, .string ⟨#[]⟩, .int .i64 0, .string ⟨#[]⟩, .int .i64 0, .slice none 0 0, .int .u16 0, r30, .slice none 0 0, .slice (some ⟨gr, 0, none⟩) 1 cap, .slice (some ⟨g36, 0, none⟩) 2 2] = .agg #[.int .i64 9, .string ⟨#[]⟩, .int .i64 0, .string ⟨#[]⟩, .int .i64 0, .slice none 0 0, .int .u16 0, a41, .slice none 0 0, .slice (some ⟨gr, 0, none⟩) 1 cap, b41] := e41
   simp only [Value.agg.injEq, Array.mk.injEq, List.cons.injEq, true_and, and_true] at e41
   obtain ⟨rfl, rfl⟩ := e41
   have hL := Le.trans hL hle
   have hA := rd.mono hle hA
   have h1 := rd.mono hle h1
   have h2 := rd.mono hle h2
   have hvp := rd.mono hle hvp
   have hxs := RdL.mono hle hxs
   have hz_g16 := hz.mono hle hz_g16
   have hz_g20 := hz.mono hle hz_g20
   have hz_g22 := hz.mono hle hz_g22
   have hB := RdL.mono hle hB
   refine TL.toOwn (own' := _ :: _ :: _ :: _ :: _ :: own) rfl ?_
   refine TL.wk (env' := [(0, _), (1, _), (2, _), (6, _), (7, _), (8, _), (28, _), (41, _)]) ⟨rfl, rfl, rfl, rfl, rfl, rfl, rfl, rfl, trivial⟩ ?_
   refine TL.appendK 4 rfl rfl rfl hrow2 (by omega) (Src.ofOwn 0 0 rfl rfl rfl (Ones.all (show Ones [.int .i64 9, .string ⟨#[]⟩, .int .i64 0, .string ⟨#[]⟩, .int .i64 0, .slice none 0 0, .int .u16 0, r30, .slice none 0 0, .slice (some ⟨gr, 0, none⟩) 1 cap, .slice (some ⟨g36, 0, none⟩) 2 2] from ⟨rfl, rfl, rfl, rfl, rfl, rfl, rfl, hr30.one, rfl, rfl, rfl, trivial⟩)) ⟨rfl, rfl, rfl, rfl, rfl, rfl, rfl, rfl, rfl, rfl, rfl, trivial⟩) (by omega) (by omega) (by omega) rfl ?_
   intro u3 seg3 old hrow3 hkept
   refine TL.fieldAddr rfl rfl ?_
   refine TL.store1 4 0 (c' := #[_, _, _, _, _, _, _, _, _, _]) (own' := _ :: _ :: _ :: _ :: [(_, .cells #[_, _, _, _, _, _, _, _, _, _] _ _)] :: _) rfl rfl rfl rfl hrow3.one (by simp) rfl rfl rfl ?_
   refine TL.nil ?_
   refine TQ.then_n ?_
   refine TC.seq ?_
   refine TC.freeze (fun H5 hle hz_old => ?_)
   have hL := Le.trans hL hle
   have hA := rd.mono hle hA
   have h1 := rd.mono hle h1
   have h2 := rd.mono hle h2
   have hvp := rd.mono hle hvp
   have hxs := RdL.mono hle hxs
   have hz_g16 := hz.mono hle hz_g16
   have hz_g20 := hz.mono hle hz_g20
   have hz_g22 := hz.mono hle hz_g22
   have hB := RdL.mono hle hB
   have hr30 := rd.mono hle hr30
   refine TC.sel 5 [4, 0, 1, 2, 3] rfl (fun o ho => ?_)
   simp only [K.sel, List.map_cons, List.map_nil, List.getD_cons_zero, List.getD_cons_succ, List.drop_succ_cons, List.drop_zero, List.cons_append, List.nil_append, List.set_cons_zero, List.set_cons_succ] at ho; subst ho
   refine TC.freeze (fun H6 hle hz_row => ?_)
   have hL := Le.trans hL hle
   have hA := rd.mono hle hA
   have h1 := rd.mono hle h1
   have h2 := rd.mono hle h2
   have hvp := rd.mono hle hvp
   have hxs := RdL.mono hle hxs
   have hz_g16 := hz.mono hle hz_g16
   have hz_g20 := hz.mono hle hz_g20
   have hz_g22 := hz.mono hle hz_g22
   have hB := RdL.mono hle hB
   have hr30 := rd.mono hle hr30
   have hz_old := hz.mono hle hz_old
   refine TC.sel 4 [1, 0, 2, 3] rfl (fun o ho => ?_)
   simp only [K.sel, List.map_cons, List.map_nil, List.getD_cons_zero, List.getD_cons_succ, List.drop_succ_cons, List.drop_zero, List.cons_append, List.nil_append, List.set_cons_zero, List.set_cons_succ] at ho; subst ho
   refine TC.freeze (fun H7 hle hz_g36 => ?_)
   have hL := Le.trans hL hle
   have hA := rd.mono hle hA
   have h1 := rd.mono hle h1
   have h2 := rd.mono hle h2
   have hvp := rd.mono hle hvp
   have hxs := RdL.mono hle hxs
   have hz_g16 := hz.mono hle hz_g16
   have hz_g20 := hz.mono hle hz_g20
   have hz_g22 := hz.mono hle hz_g22
   have hB := RdL.mono hle hB
   have hr30 := rd.mono hle hr30
   have hz_old := hz.mono hle hz_old
   have hz_row := hz.mono hle hz_row
   have hzk : ∀ p ∈ old ++ seg3, H7 p.1 = some p.2 := fun p hp => (List.mem_append.1 hp).elim (hz_old p) (hz_row p)
   have hBl : (xs ++ (([.int .i64 1, .string nV1, .int .i64 1, .string ⟨#[]⟩, .int .i64 0, .slice none 0 0, .int .u16 0, .slice (some ⟨g16, 0, none⟩) 1 1, .slice none 0 0, .slice none 0 0, .slice none 0 0] : List Value) ++ ([.int .i64 5, .string nF, .int .i64 0, .string ⟨#[]⟩, .int .i64 0, .slice none 0 0, .int .u16 0, .slice none 0 0, .slice (some ⟨g22, 0, none⟩) 2 2, .slice none 0 0, .slice none 0 0] : List Value))).length = nb * 11 := hrow2.1
   have hv1 := hkept.view hzk hB hBl rfl (j := 1) (by omega)
   have hvn := hkept.view hzk hB hBl rfl (j := nb) (Nat.le_refl _)
   rw [sms_take] at hv1 hvn
   rw [List.take_of_length_le (by simp only [lawB, List.length_append, List.length_cons, List.length_nil]; omega)] at hvn
   have hcs : rd H7 (.s 1 (Sm.cd [(lawB l).take 1, lawB l])) (.slice (some ⟨g36, 0, none⟩) 2 2) := rd.ofRow (Row.lit 49 1 2 g36 _ rfl (by omega)) hz_g36 ⟨hv1, hvn, trivial⟩ (Le.refl _)
   have hsw : RdL H7 (swS (lawB l)).d [.int .i64 9, .string ⟨#[]⟩, .int .i64 0, .string ⟨#[]⟩, .int .i64 0, .slice none 0 0, .int .u16 0, r30, .slice none 0 0, .slice (some ⟨gr, 0, none⟩) 1 cap, .slice (some ⟨g36, 0, none⟩) 2 2] := sm_of (tyz_d _ _) hr30 (rd.nil _ _) hv1 hcs
   have hbody : rd H7 (.s 11 (Sm.ds (lawF l).body)) u3 := rd.ofRow hrow3 hz_row (sms_snoc hB hsw) (Le.refl _)
   have hfd : RdL H7 (lawF l).d [.string (bs [109, 97, 105, 110]), vp, .int .i64 7, .string ⟨#[]⟩, .int .i64 0, .slice none 0 0, u3, .bool false, .int .i64 0, .int .u16 0] := fu_of (f := lawF l) hvp (tyz_d _ _) hbody
   refine TC.drawQV 13  [(0, _), (1, _), (2, _), (6, _), (7, _), (8, _)] follows_mixed ⟨rfl, rfl, rfl, rfl, rfl, rfl, trivial⟩ ?_
   refine ChainV.q (some 44) [] (by
    intro H' X F hle
    intro hF
    refine TL.move rfl rfl ?_
    refine TL.nil ?_
    exact TQ.one [] hF (Le.refl _) ⟨rfl, rfl⟩) ?_
   refine ChainV.q (some 45) [(0, 0)] (by
    intro H' X F hle
    intro hF
    refine TL.move rfl rfl ?_
    refine TL.nil ?_
    exact TQ.one [] hF (Le.refl _) ⟨rfl, rfl⟩) ?_
   refine ChainV.q (some 46) [(1, 0)] (by
    intro H' X F hle
    have hL := Le.trans hL hle
    have hA := rd.mono hle hA
    have h1 := rd.mono hle h1
    have h2 := rd.mono hle h2
    have hvp := rd.mono hle hvp
    have hxs := RdL.mono hle hxs
    have hz_g16 := hz.mono hle hz_g16
    have hz_g20 := hz.mono hle hz_g20
    have hz_g22 := hz.mono hle hz_g22
    have hB := RdL.mono hle hB
    have hr30 := rd.mono hle hr30
    have hz_old := hz.mono hle hz_old
    have hz_row := hz.mono hle hz_row
    have hz_g36 := hz.mono hle hz_g36
    have hfd := RdL.mono hle hfd
    intro hF
    refine TL.gyes rfl rfl rfl ?_
    refine TL.load_ownA 2 0 [_, _, _, _, _, _, _, _, _, _] rfl rfl rfl ⟨rfl, rfl, rfl, rfl, rfl, rfl, rfl, rfl, rfl, rfl, trivial⟩ rfl rfl ?_
    refine TL.nil ?_
    exact TQ.one [] hF (Le.refl _) ⟨rfl, rfl⟩) ?_
   refine ChainV.q (some 47) [(1, 1)] (by
    intro H' X F hle
    intro hF
    refine TL.gyes rfl rfl rfl ?_
    refine TL.move rfl rfl ?_
    refine TL.nil ?_
    exact TQ.one [] hF (Le.refl _) ⟨rfl, rfl⟩) ?_
   refine ChainV.r (some 48) [(3, 0), (1, 2)] ([]) (fun _ => fun u s H => rd H (.s 1 (strsD (namesP l1))) u ∧ s = []) (by
    intro H' X F hle
    have hL := Le.trans hL hle
    have hA := rd.mono hle hA
    have h1 := rd.mono hle h1
    have h2 := rd.mono hle h2
    have hvp := rd.mono hle hvp
    have hxs := RdL.mono hle hxs
    have hz_g16 := hz.mono hle hz_g16
    have hz_g20 := hz.mono hle hz_g20
    have hz_g22 := hz.mono hle hz_g22
    have hB := RdL.mono hle hB
    have hr30 := rd.mono hle hr30
    have hz_old := hz.mono hle hz_old
    have hz_row := hz.mono hle hz_row
    have hz_g36 := hz.mono hle hz_g36
    have hfd := RdL.mono hle hfd
    intro hF
    refine TL.gyes rfl rfl rfl ?_
    refine TL.call (mk_names hl1 h1) ⟨rfl, trivial⟩ rfl ?_
    rintro r48 _ H48 ⟨hr48, rfl, hle48⟩
    refine TL.nil ?_
    exact TQ.one [] hF hle48 ⟨hr48, rfl⟩) ?_
   refine ChainV.q (some 49) [(1, 3)] (by
    intro H' X F hle
    intro hF
    refine TL.gyes rfl rfl rfl ?_
    refine TL.move rfl rfl ?_
    refine TL.nil ?_
    exact TQ.one [] hF (Le.refl _) ⟨rfl, rfl⟩) ?_
   refine ChainV.r (some 50) [(5, 0), (1, 4)] ([]) (fun _ => fun u s H => rd H (.s 1 (strsD (namesP l2))) u ∧ s = []) (by
    intro H' X F hle
    have hL := Le.trans hL hle
    have hA := rd.mono hle hA
    have h1 := rd.mono hle h1
    have h2 := rd.mono hle h2
    have hvp := rd.mono hle hvp
    have hxs := RdL.mono hle hxs
    have hz_g16 := hz.mono hle hz_g16
    have hz_g20 := hz.mono hle hz_g20
    have hz_g22 := hz.mono hle hz_g22
    have hB := RdL.mono hle hB
    have hr30 := rd.mono hle hr30
    have hz_old := hz.mono hle hz_old
    have hz_row := hz.mono hle hz_row
    have hz_g36 := hz.mono hle hz_g36
    have hfd := RdL.mono hle hfd
    intro hF
    refine TL.gyes rfl rfl rfl ?_
    refine TL.call (mk_names hl2 h2) ⟨rfl, trivial⟩ rfl ?_
    rintro r50 _ H50 ⟨hr50, rfl, hle50⟩
    refine TL.nil ?_
    exact TQ.one [] hF hle50 ⟨hr50, rfl⟩) ?_
   refine ChainV.r (some 51) [(2, 4), (4, 2), (6, 0), (1, 5)] ([]) (fun _ => fun u s H => ∃ cs, u = .agg (List.toArray cs) ∧ RdL H (renF ((namesP l1).zip (namesP l2)) (lawF l)).d cs ∧ s = []) (by
    intro H' X F hle
    have hL := Le.trans hL hle
    have hA := rd.mono hle hA
    have h1 := rd.mono hle h1
    have h2 := rd.mono hle h2
    have hvp := rd.mono hle hvp
    have hxs := RdL.mono hle hxs
    have hz_g16 := hz.mono hle hz_g16
    have hz_g20 := hz.mono hle hz_g20
    have hz_g22 := hz.mono hle hz_g22
    have hB := RdL.mono hle hB
    have hr30 := rd.mono hle hr30
    have hz_old := hz.mono hle hz_old
    have hz_row := hz.mono hle hz_row
    have hz_g36 := hz.mono hle hz_g36
    have hfd := RdL.mono hle hfd
    intro _
    rintro r48 _ H48 hle48 ⟨hr48, rfl⟩
    replace hr48 := rd.mono hle48 hr48
    intro _
    rintro r50 _ H50 hle50 ⟨hr50, rfl⟩
    replace hr50 := rd.mono hle50 hr50
    intro hF
    refine TL.gyes rfl rfl rfl ?_
    refine TL.call (ren_Rename hok hn1 hn2 hfd hr48 hr50) ⟨rfl, rfl, rfl, trivial⟩ rfl ?_
    rintro _ _ H51 ⟨c51, rfl, hr51, rfl, hle51⟩
    refine TL.nil ?_
    exact TQ.one [] hF hle51 ⟨_, rfl, hr51, rfl⟩) ?_
   refine ChainV.q (some 52) [(1, 6)] (by
    intro H' X F hle
    have hL := Le.trans hL hle
    have hA := rd.mono hle hA
    have h1 := rd.mono hle h1
    have h2 := rd.mono hle h2
    have hvp := rd.mono hle hvp
    have hxs := RdL.mono hle hxs
    have hz_g16 := hz.mono hle hz_g16
    have hz_g20 := hz.mono hle hz_g20
    have hz_g22 := hz.mono hle hz_g22
    have hB := RdL.mono hle hB
    have hr30 := rd.mono hle hr30
    have hz_old := hz.mono hle hz_old
    have hz_row := hz.mono hle hz_row
    have hz_g36 := hz.mono hle hz_g36
    have hfd := RdL.mono hle hfd
    intro hF
    refine TL.gyes rfl rfl rfl ?_
    refine TL.load_ownA 2 0 [_, _, _, _, _, _, _, _, _, _] rfl rfl rfl ⟨rfl, rfl, rfl, rfl, rfl, rfl, rfl, rfl, rfl, rfl, trivial⟩ rfl rfl ?_
    refine TL.nil ?_
    exact TQ.one [] hF (Le.refl _) ⟨rfl, rfl⟩) ?_
   refine ChainV.q (some 53) [(1, 7)] (by
    intro H' X F hle
    intro hF
    refine TL.gyes rfl rfl rfl ?_
    refine TL.move rfl rfl ?_
    refine TL.nil ?_
    exact TQ.one [] hF (Le.refl _) ⟨rfl, rfl⟩) ?_
   refine ChainV.r (some 54) [(9, 0), (1, 8)] ([]) (fun _ => fun u s H => rd H (.s 1 (strsD (namesP l1))) u ∧ s = []) (by
    intro H' X F hle
    have hL := Le.trans hL hle
    have hA := rd.mono hle hA
    have h1 := rd.mono hle h1
    have h2 := rd.mono hle h2
    have hvp := rd.mono hle hvp
    have hxs := RdL.mono hle hxs
    have hz_g16 := hz.mono hle hz_g16
    have hz_g20 := hz.mono hle hz_g20
    have hz_g22 := hz.mono hle hz_g22
    have hB := RdL.mono hle hB
    have hr30 := rd.mono hle hr30
    have hz_old := hz.mono hle hz_old
    have hz_row := hz.mono hle hz_row
    have hz_g36 := hz.mono hle hz_g36
    have hfd := RdL.mono hle hfd
    intro hF
    refine TL.gyes rfl rfl rfl ?_
    refine TL.call (mk_names hl1 h1) ⟨rfl, trivial⟩ rfl ?_
    rintro r54 _ H54 ⟨hr54, rfl, hle54⟩
    refine TL.nil ?_
    exact TQ.one [] hF hle54 ⟨hr54, rfl⟩) ?_
   refine ChainV.q (some 55) [(1, 9)] (by
    intro H' X F hle
    intro hF
    refine TL.gyes rfl rfl rfl ?_
    refine TL.move rfl rfl ?_
    refine TL.nil ?_
    exact TQ.one [] hF (Le.refl _) ⟨rfl, rfl⟩) ?_
   refine ChainV.r (some 56) [(11, 0), (1, 10)] ([]) (fun _ => fun u s H => rd H (.s 1 (strsD (namesP l2))) u ∧ s = []) (by
    intro H' X F hle
    have hL := Le.trans hL hle
    have hA := rd.mono hle hA
    have h1 := rd.mono hle h1
    have h2 := rd.mono hle h2
    have hvp := rd.mono hle hvp
    have hxs := RdL.mono hle hxs
    have hz_g16 := hz.mono hle hz_g16
    have hz_g20 := hz.mono hle hz_g20
    have hz_g22 := hz.mono hle hz_g22
    have hB := RdL.mono hle hB
    have hr30 := rd.mono hle hr30
    have hz_old := hz.mono hle hz_old
    have hz_row := hz.mono hle hz_row
    have hz_g36 := hz.mono hle hz_g36
    have hfd := RdL.mono hle hfd
    intro hF
    refine TL.gyes rfl rfl rfl ?_
    refine TL.call (mk_names hl2 h2) ⟨rfl, trivial⟩ rfl ?_
    rintro r56 _ H56 ⟨hr56, rfl, hle56⟩
    refine TL.nil ?_
    exact TQ.one [] hF hle56 ⟨hr56, rfl⟩) ?_
   refine ⟨by kernel_rfl, .refl _, ?_⟩
   ·
    intro H8 hle
    rintro r48 _ H48 hle48 ⟨hr48, rfl⟩
    replace hr48 := rd.mono hle48 hr48
    rintro r50 _ H50 hle50 ⟨hr50, rfl⟩
    replace hr50 := rd.mono hle50 hr50
    rintro _ _ H51 hle51 ⟨c51, rfl, hr51, rfl⟩
    replace hr51 := RdL.mono hle51 hr51
    rintro r54 _ H54 hle54 ⟨hr54, rfl⟩
    replace hr54 := rd.mono hle54 hr54
    rintro r56 _ H56 hle56 ⟨hr56, rfl⟩
    replace hr56 := rd.mono hle56 hr56
    have hL := Le.trans hL hle
    have hA := rd.mono hle hA
    have h1 := rd.mono hle h1
    have h2 := rd.mono hle h2
    have hvp := rd.mono hle hvp
    have hxs := RdL.mono hle hxs
    have hz_g16 := hz.mono hle hz_g16
    have hz_g20 := hz.mono hle hz_g20
    have hz_g22 := hz.mono hle hz_g22
    have hB := RdL.mono hle hB
    have hr30 := rd.mono hle hr30
    have hz_old := hz.mono hle hz_old
    have hz_row := hz.mono hle hz_row
    have hz_g36 := hz.mono hle hz_g36
    have hfd := RdL.mono hle hfd
    refine TL.toOwn (own' := _ :: _ :: _ :: own) rfl ?_
    refine TL.wk (env' := [(0, _), (6, _), (8, _), (45, _), (51, _), (52, _), (54, _), (56, _)]) ⟨rfl, rfl, rfl, rfl, rfl, rfl, rfl, rfl, trivial⟩ ?_
    refine TL.gyes rfl rfl rfl ?_
    refine TL.call (ref_Rename hok hfd hr54 hr56) ⟨rfl, rfl, rfl, trivial⟩ rfl ?_
    rintro _ _ H57 ⟨c57, rfl, hr57, rfl, hle57⟩
    have hL := Le.trans hL hle57
    have hA := rd.mono hle57 hA
    have h1 := rd.mono hle57 h1
    have h2 := rd.mono hle57 h2
    have hvp := rd.mono hle57 hvp
    have hxs := RdL.mono hle57 hxs
    have hz_g16 := hz.mono hle57 hz_g16
    have hz_g20 := hz.mono hle57 hz_g20
    have hz_g22 := hz.mono hle57 hz_g22
    have hB := RdL.mono hle57 hB
    have hr30 := rd.mono hle57 hr30
    have hz_old := hz.mono hle57 hz_old
    have hz_row := hz.mono hle57 hz_row
    have hz_g36 := hz.mono hle57 hz_g36
    have hfd := RdL.mono hle57 hfd
    have hr51 := RdL.mono hle57 hr51
    refine TL.gyes rfl rfl rfl ?_
    refine TL.call (law_equal hr51 hr57) ⟨rfl, rfl, trivial⟩ rfl ?_
    rintro _ _ H58 ⟨rfl, rfl, hle58⟩
    have hL := Le.trans hL hle58
    have hA := rd.mono hle58 hA
    have h1 := rd.mono hle58 h1
    have h2 := rd.mono hle58 h2
    have hvp := rd.mono hle58 hvp
    have hxs := RdL.mono hle58 hxs
    have hz_g16 := hz.mono hle58 hz_g16
    have hz_g20 := hz.mono hle58 hz_g20
    have hz_g22 := hz.mono hle58 hz_g22
    have hB := RdL.mono hle58 hB
    have hr30 := rd.mono hle58 hr30
    have hz_old := hz.mono hle58 hz_old
    have hz_row := hz.mono hle58 hz_row
    have hz_g36 := hz.mono hle58 hz_g36
    have hfd := RdL.mono hle58 hfd
    have hr51 := RdL.mono hle58 hr51
    have hr57 := RdL.mono hle58 hr57
    refine TL.pickT rfl rfl rfl rfl ?_
    refine TL.assign rfl rfl ?_
    refine TL.nil ?_
    refine TQ.then_n ?_
    refine TC.ret ?_
    refine TQ.ret1 3 rfl rfl ?_
    exact ⟨rfl, rfl, hL⟩

end Go.Proofs.Ytapmmfabdmhdnaa.K
