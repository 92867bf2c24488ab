/-
  Makers of expressions.
-/
import Derived.Test.YtapmmfabdmhdnaaRen
import Derived.Test.YtapmmfabdmhdnaaMade1
set_option linter.unusedVariables false
set_option linter.unusedSimpArgs false
set_option maxHeartbeats 4000000
namespace Go.Proofs.Ytapmmfabdmhdnaa.K
open Go Go.RowKit Go.Proofs

theorem mk_name {s : ByteArray} {w0 : World} {H : Hp} {own : List Seg} :
    Fn Try.prog 63 [.string s] w0 H own (fun r own' H' => r = .agg #[.int .i64 2, .string s, .int .u16 0, .slice none 0 0] ∧ own' = own ∧ Le H H') := by
  refine Fn.enter Try.func63 rfl Try.ntmps63 rfl ?_
  have hL := Le.refl H
  refine TC.seq ?_
  refine TC.region ?_
  refine TL.new rfl ?_; intro g2
  refine TL.nil ?_
  refine TQ.then_n ?_
  refine TC.seq ?_
  refine TC.region ?_
  refine TL.move rfl rfl ?_
  refine TL.struct [(0, [_]), (1, [_])] ⟨rfl, ⟨_, rfl, rfl⟩, rfl, ⟨_, rfl, rfl⟩, trivial⟩ rfl rfl ?_
  refine TL.storeA 0 0 (c' := #[_, _, _, _]) (own' := [(_, .cells #[_, _, _, _] _ _)] :: _) rfl rfl rfl rfl rfl ⟨rfl, rfl, rfl, rfl, trivial⟩ (by simp [putC]) rfl rfl rfl ?_
  refine TL.nil ?_
  refine TQ.then_n ?_
  refine TC.ret ?_
  refine TQ.retC 0 0 1 [_, _, _, _] rfl rfl rfl rfl ⟨rfl, rfl, rfl, rfl, trivial⟩ rfl rfl ?_
  exact ⟨rfl, rfl, hL⟩
theorem mk_num {n : Int} {w0 : World} {H : Hp} {own : List Seg} :
    Fn Try.prog 64 [.int .u16 n] w0 H own (fun r own' H' => r = .agg #[.int .i64 1, .string ⟨#[]⟩, .int .u16 n, .slice none 0 0] ∧ own' = own ∧ Le H H') := by
  refine Fn.enter Try.func64 rfl Try.ntmps64 rfl ?_
  have hL := Le.refl H
  refine TC.seq ?_
  refine TC.region ?_
  refine TL.new rfl ?_; intro g2
  refine TL.nil ?_
  refine TQ.then_n ?_
  refine TC.seq ?_
  refine TC.region ?_
  refine TL.move rfl rfl ?_
  refine TL.struct [(0, [_]), (2, [_])] ⟨rfl, ⟨_, rfl, rfl⟩, rfl, ⟨_, rfl, rfl⟩, trivial⟩ rfl rfl ?_
  refine TL.storeA 0 0 (c' := #[_, _, _, _]) (own' := [(_, .cells #[_, _, _, _] _ _)] :: _) rfl rfl rfl rfl rfl ⟨rfl, rfl, rfl, rfl, trivial⟩ (by simp [putC]) rfl rfl rfl ?_
  refine TL.nil ?_
  refine TQ.then_n ?_
  refine TC.ret ?_
  refine TQ.retC 0 0 1 [_, _, _, _] rfl rfl rfl rfl ⟨rfl, rfl, rfl, rfl, trivial⟩ rfl rfl ?_
  exact ⟨rfl, rfl, hL⟩
theorem mk_value {q0 q1 q2 : Int} (i1 : I64 q1) {w0 : World} {H : Hp} {own : List Seg} :
    Fn Try.prog 62 [.agg #[.int .i64 q0, .int .i64 q1, .int .i64 q2]] w0 H own (fun r own' H' => ∃ c0 c1 c2 c3, r = .agg #[c0, c1, c2, c3] ∧ RdL H' (valueP q1 q2).d [c0, c1, c2, c3] ∧ own' = own ∧ Le H H') := by
  obtain ⟨n, hn⟩ : ∃ n, n = IntKind.u16.wrap q2 := ⟨_, rfl⟩
  refine Fn.enter Try.func62 rfl Try.ntmps62 rfl ?_
  have hL := Le.refl H
  refine TC.seq ?_
  refine TC.region ?_
  refine TL.box (c := #[_, _, _]) rfl rfl rfl ?_; intro g1
  refine TL.new rfl ?_; intro g2
  refine TL.nil ?_
  refine TQ.then_n ?_
  refine TC.seq ?_
  refine TC.region ?_
  refine TL.indexArr (1) rfl rfl rfl (by omega) rfl ?_
  refine TL.load_own 1 0 rfl rfl rfl rfl rfl ?_
  refine TL.call (ref_Mod i1 (by omega) (by omega)) ⟨rfl, rfl, trivial⟩ rfl ?_
  rintro _ _ H2 ⟨rfl, rfl, hle2⟩
  have hL := Le.trans hL hle2
  refine TL.assign rfl rfl ?_
  refine TL.nil ?_
  refine TQ.then_n ?_
  refine TC.seq ?_
  refine TC.region ?_
  refine TL.indexArr (2) rfl rfl rfl (by omega) rfl ?_
  refine TL.load_own 1 0 rfl rfl rfl rfl rfl ?_
  refine TL.convI rfl rfl ?_
  rw [← hn]
  refine TL.call (mk_num) ⟨rfl, trivial⟩ rfl ?_
  rintro _ _ H3 ⟨rfl, rfl, hle3⟩
  have hL := Le.trans hL hle3
  refine TL.new rfl ?_; intro g4
  refine TL.storeA 0 0 (c' := #[_, _, _, _]) (own' := [(_, .cells #[_, _, _, _] _ _)] :: _) rfl rfl rfl rfl rfl ⟨rfl, rfl, rfl, rfl, trivial⟩ (by simp) rfl rfl rfl ?_
  refine TL.nil ?_
  refine TQ.then_n ?_
  refine TC.seq ?_
  refine TC.drawQV 15  [(0, _), (1, _), (2, _), (3, _), (4, _)] follows_mixed ⟨rfl, rfl, rfl, rfl, rfl, trivial⟩ ?_
  refine ChainV.q (some 13) [] (by
   intro H' X F hle
   have hL := Le.trans hL hle
   intro hF
   refine TL.load_ownA 0 0 [_, _, _, _] rfl rfl rfl ⟨rfl, rfl, rfl, rfl, trivial⟩ rfl rfl ?_
   refine TL.nil ?_
   exact TQ.one [] hF (Le.refl _) ⟨rfl, rfl⟩) ?_
  refine ChainV.q (some 14) [] (by
   intro H' X F hle
   have hL := Le.trans hL hle
   intro hF
   refine TL.call (mk_name) ⟨rfl, trivial⟩ rfl ?_
   rintro _ _ H2 ⟨rfl, rfl, hle2⟩
   refine TL.nil ?_
   exact TQ.one [] hF hle2 ⟨rfl, rfl⟩) ?_
  refine ChainV.q (some 15) [] (by
   intro H' X F hle
   have hL := Le.trans hL hle
   intro hF
   refine TL.call (mk_name) ⟨rfl, trivial⟩ rfl ?_
   rintro _ _ H2 ⟨rfl, rfl, hle2⟩
   refine TL.nil ?_
   exact TQ.one [] hF hle2 ⟨rfl, rfl⟩) ?_
  refine ChainV.q (some 16) [] (by
   intro H' X F hle
   have hL := Le.trans hL hle
   intro hF
   refine TL.call (mk_name) ⟨rfl, trivial⟩ rfl ?_
   rintro _ _ H2 ⟨rfl, rfl, hle2⟩
   refine TL.nil ?_
   exact TQ.one [] hF hle2 ⟨rfl, rfl⟩) ?_
  refine ChainV.q (some 17) [] (by
   intro H' X F hle
   have hL := Le.trans hL hle
   intro hF
   refine TL.load_ownA 0 0 [_, _, _, _] rfl rfl rfl ⟨rfl, rfl, rfl, rfl, trivial⟩ rfl rfl ?_
   refine TL.nil ?_
   exact TQ.one [] hF (Le.refl _) ⟨rfl, rfl⟩) ?_
  refine ChainV.q (some 18) [] (by
   intro H' X F hle
   have hL := Le.trans hL hle
   intro hF
   refine TL.call (mk_name) ⟨rfl, trivial⟩ rfl ?_
   rintro _ _ H2 ⟨rfl, rfl, hle2⟩
   refine TL.nil ?_
   exact TQ.one [] hF hle2 ⟨rfl, rfl⟩) ?_
  refine ChainV.r (some 19) [(4, 1), (5, 0)] ([]) (fun _ => fun r s H => rd H (.s 4 (Ex.ds [numE n, nameE nG0])) r ∧ s = []) (by
   intro H' X F hle
   have hL := Le.trans hL hle
   intro hF
   refine TL.litF (r := [_, _, _, _, _, _, _, _]) [(0, [_, _, _, _]), (1, [_, _, _, _])] ⟨rfl, ⟨_, rfl, rfl⟩, rfl, ⟨_, rfl, rfl⟩, trivial⟩ rfl rfl rfl rfl ?_; intro g19
   refine TL.nil ?_
   refine TQ.freeze (fun H3 hle3 hz => ?_)
   exact TQ.one [] hF hle3 ⟨rd.ofRow (Row.lit _ 4 2 _ _ rfl (by omega)) hz (ex_cons (num_d _ _) (ex_cons (name_d _ _) (ex_nil _))) (Le.refl _), rfl⟩) ?_
  refine ChainV.r (some 20) [(6, 0)] ([]) (fun vs u s H => u = .agg #[.int .i64 14, .string ⟨#[102]⟩, .int .u16 0, nthV vs 0] ∧ s = []) (by
   intro H' X F hle
   have hL := Le.trans hL hle
   intro _
   rintro r19 _ H19 hle19 ⟨hr19, rfl⟩
   replace hr19 := rd.mono hle19 hr19
   intro hF
   refine TL.struct [(0, [_]), (1, [_]), (3, [_])] ⟨rfl, ⟨_, rfl, rfl⟩, rfl, ⟨_, rfl, rfl⟩, rfl, ⟨_, rfl, one_cells (rd.one (sz := 4) hr19)⟩, trivial⟩ rfl rfl ?_
   refine TL.nil ?_
   exact TQ.one [] hF (Le.refl _) ⟨rfl, rfl⟩) ?_
  refine ChainV.q (some 21) [] (by
   intro H' X F hle
   have hL := Le.trans hL hle
   intro hF
   refine TL.call (mk_name) ⟨rfl, trivial⟩ rfl ?_
   rintro _ _ H2 ⟨rfl, rfl, hle2⟩
   refine TL.nil ?_
   exact TQ.one [] hF hle2 ⟨rfl, rfl⟩) ?_
  refine ChainV.q (some 22) [] (by
   intro H' X F hle
   have hL := Le.trans hL hle
   intro hF
   refine TL.load_ownA 0 0 [_, _, _, _] rfl rfl rfl ⟨rfl, rfl, rfl, rfl, trivial⟩ rfl rfl ?_
   refine TL.nil ?_
   exact TQ.one [] hF (Le.refl _) ⟨rfl, rfl⟩) ?_
  refine ChainV.r (some 23) [(8, 1), (9, 0)] ([]) (fun _ => fun r s H => rd H (.s 4 (Ex.ds [nameE nA, numE n])) r ∧ s = []) (by
   intro H' X F hle
   have hL := Le.trans hL hle
   intro hF
   refine TL.litF (r := [_, _, _, _, _, _, _, _]) [(0, [_, _, _, _]), (1, [_, _, _, _])] ⟨rfl, ⟨_, rfl, rfl⟩, rfl, ⟨_, rfl, rfl⟩, trivial⟩ rfl rfl rfl rfl ?_; intro g23
   refine TL.nil ?_
   refine TQ.freeze (fun H3 hle3 hz => ?_)
   exact TQ.one [] hF hle3 ⟨rd.ofRow (Row.lit _ 4 2 _ _ rfl (by omega)) hz (ex_cons (name_d _ _) (ex_cons (num_d _ _) (ex_nil _))) (Le.refl _), rfl⟩) ?_
  refine ChainV.r (some 24) [(10, 0)] ([]) (fun vs u s H => u = .agg #[.int .i64 13, .string ⟨#[43]⟩, .int .u16 0, nthV vs 0] ∧ s = []) (by
   intro H' X F hle
   have hL := Le.trans hL hle
   intro _
   rintro r23 _ H23 hle23 ⟨hr23, rfl⟩
   replace hr23 := rd.mono hle23 hr23
   intro hF
   refine TL.struct [(0, [_]), (1, [_]), (3, [_])] ⟨rfl, ⟨_, rfl, rfl⟩, rfl, ⟨_, rfl, rfl⟩, rfl, ⟨_, rfl, one_cells (rd.one (sz := 4) hr23)⟩, trivial⟩ rfl rfl ?_
   refine TL.nil ?_
   exact TQ.one [] hF (Le.refl _) ⟨rfl, rfl⟩) ?_
  refine ChainV.q (some 25) [] (by
   intro H' X F hle
   have hL := Le.trans hL hle
   intro hF
   refine TL.call (mk_name) ⟨rfl, trivial⟩ rfl ?_
   rintro _ _ H2 ⟨rfl, rfl, hle2⟩
   refine TL.nil ?_
   exact TQ.one [] hF hle2 ⟨rfl, rfl⟩) ?_
  refine ChainV.r (some 26) [(12, 0)] ([]) (fun _ => fun r s H => rd H (.s 4 (Ex.ds [nameE nG1])) r ∧ s = []) (by
   intro H' X F hle
   have hL := Le.trans hL hle
   intro hF
   refine TL.litF (r := [_, _, _, _]) [(0, [_, _, _, _])] ⟨rfl, ⟨_, rfl, rfl⟩, trivial⟩ rfl rfl rfl rfl ?_; intro g26
   refine TL.nil ?_
   refine TQ.freeze (fun H3 hle3 hz => ?_)
   exact TQ.one [] hF hle3 ⟨rd.ofRow (Row.lit _ 4 1 _ _ rfl (by omega)) hz (ex_cons (name_d _ _) (ex_nil _)) (Le.refl _), rfl⟩) ?_
  refine ChainV.r (some 27) [(13, 0)] ([]) (fun vs u s H => u = .agg #[.int .i64 12, .string ⟨#[126]⟩, .int .u16 0, nthV vs 0] ∧ s = []) (by
   intro H' X F hle
   have hL := Le.trans hL hle
   intro _
   rintro r26 _ H26 hle26 ⟨hr26, rfl⟩
   replace hr26 := rd.mono hle26 hr26
   intro hF
   refine TL.struct [(0, [_]), (1, [_]), (3, [_])] ⟨rfl, ⟨_, rfl, rfl⟩, rfl, ⟨_, rfl, rfl⟩, rfl, ⟨_, rfl, one_cells (rd.one (sz := 4) hr26)⟩, trivial⟩ rfl rfl ?_
   refine TL.nil ?_
   exact TQ.one [] hF (Le.refl _) ⟨rfl, rfl⟩) ?_
  refine ⟨by kernel_rfl, .refl _, ?_⟩
  ·
   intro H1 hle
   rintro r19 _ H19 hle19 ⟨hr19, rfl⟩
   replace hr19 := rd.mono hle19 hr19
   rintro _ _ H20 hle20 ⟨rfl, rfl⟩
   rintro r23 _ H23 hle23 ⟨hr23, rfl⟩
   replace hr23 := rd.mono hle23 hr23
   rintro _ _ H24 hle24 ⟨rfl, rfl⟩
   rintro r26 _ H26 hle26 ⟨hr26, rfl⟩
   replace hr26 := rd.mono hle26 hr26
   rintro _ _ H27 hle27 ⟨rfl, rfl⟩
   have hL := Le.trans hL hle
   refine TL.toOwn (own' := _ :: _ :: _ :: own) rfl ?_
   refine TL.wk (env' := [(0, _), (1, _), (2, _), (3, _), (4, _), (13, _), (14, _), (15, _), (16, _), (20, _), (24, _), (27, _)]) ⟨rfl, rfl, rfl, rfl, rfl, rfl, rfl, rfl, rfl, rfl, rfl, rfl, trivial⟩ ?_
   refine TL.litF (r := [_, _, _, _, _, _, _, _, _, _, _, _, _, _, _, _, _, _, _, _, _, _, _, _, _, _, _, _]) [(0, [_, _, _, _]), (1, [_, _, _, _]), (2, [_, _, _, _]), (3, [_, _, _, _]), (4, [_, _, _, _]), (5, [_, _, _, _]), (6, [_, _, _, _])] ⟨rfl, ⟨_, rfl, rfl⟩, rfl, ⟨_, rfl, rfl⟩, rfl, ⟨_, rfl, rfl⟩, rfl, ⟨_, rfl, rfl⟩, rfl, ⟨_, rfl, rfl⟩, rfl, ⟨_, rfl, rfl⟩, rfl, ⟨_, rfl, rfl⟩, trivial⟩ rfl rfl rfl rfl ?_; intro g28
   refine TL.assign rfl rfl ?_
   refine TL.nil ?_
   refine TQ.then_n ?_
   refine TC.seq ?_
   refine TC.freeze (fun H2 hle hz_g28 => ?_)
   have hL := Le.trans hL hle
   have hr19 := rd.mono hle hr19
   have hr23 := rd.mono hle hr23
   have hr26 := rd.mono hle hr26
   have hA : rd H2 (.s 4 (dsOf Ex.d (valueL n))) (.slice (some ⟨g28, 0, none⟩) 7 7) := by
     rw [← Ex.ds_of]
     exact rd.ofRow (Row.lit _ 4 7 _ _ rfl (by omega)) hz_g28 (ex_cons (num_d _ _) (ex_cons (name_d _ _) (ex_cons (name_d _ _) (ex_cons (name_d _ _) (ex_cons (ex_mk hr19) (ex_cons (ex_mk hr23) (ex_cons (ex_mk hr26) (ex_nil _)))))))) (Le.refl _)
   have hk1 := Int.emod_nonneg q1 (b := 7) (by omega)
   have hk2 := Int.emod_lt_of_pos q1 (b := 7) (by omega)
   obtain ⟨kk, hkk⟩ : ∃ kk : Nat, q1 % 7 = (kk : Int) := ⟨_, (Int.toNat_of_nonneg hk1).symm⟩
   obtain ⟨x, hx⟩ : ∃ x, (valueL n)[kk]? = some x := ⟨_, List.getElem?_eq_getElem (by simp [valueL]; omega)⟩
   obtain ⟨b9, o9, cs, he, hp, hxd, hcl⟩ := el_at Ex.d_len (by omega) hA hx
   obtain ⟨c0, c1, c2, c3, rfl⟩ : ∃ c0 c1 c2 c3, cs = [c0, c1, c2, c3] := by
     match cs, hcl with
     | [c0, c1, c2, c3], _ => exact ⟨_, _, _, _, rfl⟩
   cases he
   refine TC.region ?_
   refine TL.move rfl rfl ?_
   refine TL.move rfl rfl ?_
   refine TL.indexAddr (kk) rfl rfl hkk (by omega) rfl ?_
   refine TL.load_immA rfl (hp) rfl rfl ?_
   refine TL.storeA 1 0 (vs := [c0, c1, c2, c3]) (c' := #[_, _, _, _]) (own' := _ :: [(_, .cells #[_, _, _, _] _ _)] :: _) rfl rfl rfl rfl rfl (ex_ones hxd) (by simp) rfl rfl rfl ?_
   refine TL.nil ?_
   refine TQ.then_n ?_
   refine TC.ret ?_
   refine TQ.retC 1 0 3 [_, _, _, _] rfl rfl rfl rfl ⟨rfl, rfl, rfl, rfl, trivial⟩ rfl rfl ?_
   refine ⟨_, _, _, _, rfl, ?_, rfl, hL⟩
   have e : valueP q1 q2 = x := by
     unfold valueP
     rw [← hn, hkk, Int.toNat_natCast, List.getD_eq_getElem?_getD, hx]; rfl
   rw [e]; exact hxd

end Go.Proofs.Ytapmmfabdmhdnaa.K
