/-
  The reference's Rename.
-/
import Derived.Test.YtapmmfabdmhdnaaRen5
set_option linter.unusedVariables false
set_option linter.unusedSimpArgs false
set_option maxHeartbeats 4000000
namespace Go.Proofs.Ytapmmfabdmhdnaa.K
open Go Go.RowKit Go.Proofs

theorem ref_Rename {f : Fu} (hf : FuOk f) {fr to : List ByteArray} {w0 : World} {H : Hp} {own : List Seg} {v1 v2 : Value} {cs : List Value} (hfd : RdL H f.d cs) (h1 : rd H (.s 1 (strsD fr)) v1) (h2 : rd H (.s 1 (strsD to)) v2) :
    Fn Try.prog 27 [.agg cs.toArray, v1, v2] w0 H own (fun r own' H' => ∃ cs', r = .agg cs'.toArray ∧ RdL H' (renF (fr.zip to) f).d cs' ∧ own' = own ∧ Le H H') := by
  obtain ⟨hf0, hf1, hf2, hf3, hf4⟩ := hf
  obtain ⟨vp, t0, t1, t2, t3, vb, rfl, hvp, hst, hvb⟩ := fu_cells hfd
  obtain ⟨Ap, cp, rfl, hcp1, hcp2⟩ := pars_len hvp
  have ho1 := rd.one h1
  have ho2 := rd.one h2
  refine Fn.enter Try.func27 rfl Try.ntmps27 rfl ?_
  have hL := Le.refl H
  refine TC.seq ?_
  refine TC.region ?_
  refine TL.box (c := #[_, _, _, _, _, _, _, _, _, _]) rfl rfl rfl ?_; intro g3
  refine TL.new rfl ?_; intro g6
  refine TL.nil ?_
  refine TQ.then_n ?_
  refine TC.seq ?_
  refine TC.region ?_
  refine TL.move rfl rfl ?_
  refine TL.move rfl rfl ?_
  refine TL.struct [(0, [_]), (1, [_])] ⟨rfl, ⟨_, rfl, one_cells ho1⟩, rfl, ⟨_, rfl, one_cells ho2⟩, trivial⟩ rfl rfl ?_
  refine TL.box (c := #[_, _, _]) rfl rfl rfl ?_; intro g12
  refine TL.assign rfl rfl ?_
  refine TL.nil ?_
  refine TQ.then_n ?_
  refine TC.seq ?_
  refine TC.seq ?_
  refine TC.nilseg ?_
  refine TC.region ?_
  refine TL.assign rfl rfl ?_
  refine TL.nil ?_
  refine TQ.then_n ?_
  refine TC.block ?_
  refine TC.bring 1 ?_
  refine TC.toOwn (own' := [(g12, .cells #[v1, v2, .slice none 0 0] 110 (0, 0))] :: [] :: [(g6, .cells #[.string ⟨#[]⟩, .slice none 0 0, .int .i64 0, .string ⟨#[]⟩, .int .i64 0, .slice none 0 0, .slice none 0 0, .bool false, .int .i64 0, .int .u16 0] 54 (0, 0))] :: [(g3, .cells #[.string f.nm, .slice Ap f.ps.length cp, t0, t1, t2, t3, vb, .bool f.fl, .int .i64 f.x, .int .u16 f.y] 54 (0, 0))] :: own) rfl ?_
  refine TC.loop (fun zz env' own' H' => ∃ (i : Nat) (u : Value) (seg : Seg), zz = f.ps.length - i ∧ i ≤ f.ps.length ∧ Row 9 1 u i (((f.ps.take i).map Par.nm).map Value.string) seg ∧ env' = [(3, .pointer (some ⟨g3, 0, none⟩)), (6, .pointer (some ⟨g6, 0, none⟩)), (7, .pointer (some ⟨g12, 0, none⟩)), (8, .int .i64 (i : Int))] ∧ own' = [(g12, .cells #[v1, v2, u] 110 (0, 0))] :: seg :: [(g6, .cells #[.string ⟨#[]⟩, .slice none 0 0, .int .i64 0, .string ⟨#[]⟩, .int .i64 0, .slice none 0 0, .slice none 0 0, .bool false, .int .i64 0, .int .u16 0] 54 (0, 0))] :: [(g3, .cells #[.string f.nm, .slice Ap f.ps.length cp, t0, t1, t2, t3, vb, .bool f.fl, .int .i64 f.x, .int .u16 f.y] 54 (0, 0))] :: own ∧ Le H H') f.ps.length [(3, _), (6, _), (7, _), (8, _)] ⟨rfl, rfl, rfl, rfl, trivial⟩ ⟨0, _, _, by omega, by omega, Row.nil 9 1, rfl, rfl, Le.refl _⟩ ?_
  rintro zz _ _ H3 ⟨i, u, seg, rfl, hi, hrow, rfl, rfl, hle3⟩
  have hL := Le.trans hL hle3
  have h1 := rd.mono hle3 h1
  have h2 := rd.mono hle3 h2
  have hvp := rd.mono hle3 hvp
  have hst := RdL.mono hle3 hst
  have hvb := rd.mono hle3 hvb
  refine TC.seq ?_
  refine TC.seq ?_
  refine TC.region ?_
  refine TL.move rfl rfl ?_
  refine TL.fieldAddr rfl rfl ?_
  refine TL.load_own 3 0 rfl rfl rfl rfl rfl ?_
  refine TL.len_slice rfl rfl ?_
  refine TL.lssB rfl rfl rfl (fun hlt => ?_) (fun hlt => ?_)
  ·
   obtain ⟨x, hx⟩ : ∃ x, f.ps[i]? = some x := ⟨_, List.getElem?_eq_getElem (by omega)⟩
   obtain ⟨b1, o1, x0, x1, x2, x3, rfl, hp, hxt⟩ := pars_at hvp hx
   refine TL.nil ?_
   refine TQ.then_n ?_
   refine TC.cond_t rfl ?_
   refine TC.skip ?_
   refine TQ.then_n ?_
   refine TC.seq ?_
   refine TC.block ?_
   refine TC.sel 4 [1, 0, 2, 3] rfl (fun o ho => ?_)
   simp only [K.sel, List.map_cons, List.map_nil, List.getD_cons_zero, List.getD_cons_succ, List.drop_succ_cons, List.drop_zero, List.cons_append, List.nil_append, List.set_cons_zero, List.set_cons_succ] at ho; subst ho
   refine TC.drawCV 13  [(3, _), (6, _), (7, _), (8, _)] follows_mixed ⟨rfl, rfl, rfl, rfl, trivial⟩ ?_
   refine ChainV.q (some 20) [] (by
    intro H' X F hle
    intro hF
    refine TL.move rfl rfl ?_
    refine TL.nil ?_
    exact TQ.one [] hF (Le.refl _) ⟨rfl, rfl⟩) ?_
   refine ChainV.q (some 21) [] (by
    intro H' X F hle
    intro hF
    refine TL.move rfl rfl ?_
    refine TL.nil ?_
    exact TQ.one [] hF (Le.refl _) ⟨rfl, rfl⟩) ?_
   refine ChainV.q (some 22) [(1, 0)] (by
    intro H' X F hle
    intro hF
    refine TL.nilCheck rfl rfl ?_
    refine TL.nil ?_
    exact TQ.one [] hF (Le.refl _) ⟨rfl, rfl⟩) ?_
   refine ChainV.q (some 23) [(2, 0)] (by
    intro H' X F hle
    intro hF
    refine TL.fieldAddr rfl rfl ?_
    refine TL.nil ?_
    exact TQ.one [] hF (Le.refl _) ⟨rfl, rfl⟩) ?_
   refine ChainV.q (some 24) [(3, 0)] (by
    intro H' X F hle
    have hL := Le.trans hL hle
    have h1 := rd.mono hle h1
    have h2 := rd.mono hle h2
    have hvp := rd.mono hle hvp
    have hst := RdL.mono hle hst
    have hvb := rd.mono hle hvb
    have hle3 := Le.trans hle3 hle
    have hp := hAt.mono hle hp
    intro hF
    refine TL.load_own 0 0 rfl rfl rfl rfl rfl ?_
    refine TL.nil ?_
    exact TQ.one [] hF (Le.refl _) ⟨rfl, rfl⟩) ?_
   refine ChainV.q (some 25) [] (by
    intro H' X F hle
    intro hF
    refine TL.fieldAddr rfl rfl ?_
    refine TL.nil ?_
    exact TQ.one [] hF (Le.refl _) ⟨rfl, rfl⟩) ?_
   refine ChainV.q (some 26) [(5, 0)] (by
    intro H' X F hle
    have hL := Le.trans hL hle
    have h1 := rd.mono hle h1
    have h2 := rd.mono hle h2
    have hvp := rd.mono hle hvp
    have hst := RdL.mono hle hst
    have hvb := rd.mono hle hvb
    have hle3 := Le.trans hle3 hle
    have hp := hAt.mono hle hp
    intro hF
    refine TL.load_own 2 0 rfl rfl rfl rfl rfl ?_
    refine TL.nil ?_
    exact TQ.one [] hF (Le.refl _) ⟨rfl, rfl⟩) ?_
   refine ChainV.q (some 27) [] (by
    intro H' X F hle
    intro hF
    refine TL.move rfl rfl ?_
    refine TL.nil ?_
    exact TQ.one [] hF (Le.refl _) ⟨rfl, rfl⟩) ?_
   refine ChainV.q (some 28) [(6, 1), (7, 0)] (by
    intro H' X F hle
    intro hF
    refine TL.indexAddr (i) rfl rfl rfl (by omega) rfl ?_
    refine TL.nil ?_
    exact TQ.one [] hF (Le.refl _) ⟨rfl, rfl⟩) ?_
   refine ChainV.q (some 29) [(8, 0)] (by
    intro H' X F hle
    intro hF
    refine TL.fieldAddr rfl rfl ?_
    refine TL.nil ?_
    exact TQ.one [] hF (Le.refl _) ⟨rfl, rfl⟩) ?_
   refine ChainV.q (some 30) [(9, 0)] (by
    intro H' X F hle
    have hL := Le.trans hL hle
    have h1 := rd.mono hle h1
    have h2 := rd.mono hle h2
    have hvp := rd.mono hle hvp
    have hst := RdL.mono hle hst
    have hvb := rd.mono hle hvb
    have hle3 := Le.trans hle3 hle
    have hp := hAt.mono hle hp
    intro hF
    refine TL.load_imm rfl (hp.1) rfl ?_
    refine TL.nil ?_
    exact TQ.one [] hF (Le.refl _) ⟨rfl, rfl⟩) ?_
   refine ChainV.r (some 31) [(10, 0)] ([]) (fun _ => fun r s H => rd H (.s 1 (strsD [x.nm])) r ∧ s = []) (by
    intro H' X F hle
    have hL := Le.trans hL hle
    have h1 := rd.mono hle h1
    have h2 := rd.mono hle h2
    have hvp := rd.mono hle hvp
    have hst := RdL.mono hle hst
    have hvb := rd.mono hle hvb
    have hle3 := Le.trans hle3 hle
    have hp := hAt.mono hle hp
    intro hF
    refine TL.litF (r := [_]) [(0, [_])] ⟨rfl, ⟨_, rfl, rfl⟩, trivial⟩ rfl rfl rfl rfl ?_; intro g31
    refine TL.nil ?_
    refine TQ.freeze (fun H3 hle3 hz => ?_)
    exact TQ.one [] hF hle3 ⟨rd.ofRow (Row.lit 9 1 1 _ _ rfl (by omega)) hz (RdL.vals [.string x.nm]) (Le.refl _), rfl⟩) ?_
   refine ChainV.r (some 32) [(4, 7), (11, 0)] ([seg]) (fun _ => fun r s H => ∃ sg, s = [sg] ∧ Row 9 1 r (i + 1) (((f.ps.take i).map Par.nm).map Value.string ++ [.string x.nm]) sg) (by
    intro H' X F hle
    have hL := Le.trans hL hle
    have h1 := rd.mono hle h1
    have h2 := rd.mono hle h2
    have hvp := rd.mono hle hvp
    have hst := RdL.mono hle hst
    have hvb := rd.mono hle hvb
    have hle3 := Le.trans hle3 hle
    have hp := hAt.mono hle hp
    intro _
    rintro _ _ Hr hler ⟨hs, rfl⟩
    intro hF
    replace hs := hs.mono hler
    obtain ⟨A9, c9, rfl, _, _⟩ := names_len hs
    refine TL.append 0 rfl rfl rfl hrow (vals_src (l := [.string x.nm]) hs (by simp [Value.oneCell'])) (by simp only [List.length_cons, List.length_nil]; omega) (by simp only [List.length_cons, List.length_nil]; omega) rfl ?_
    intro v' seg' hrow'
    refine TL.nil ?_
    exact TQ.one [_] hF (Le.refl _) ⟨_, rfl, hrow'⟩) ?_
   refine ⟨by kernel_rfl, .refl _, ?_⟩
   ·
    intro H1 hle
    rintro _ _ Hr hler ⟨hs, rfl⟩
    rintro v32 _ Hr hler ⟨seg32, rfl, hrow32⟩
    have hL := Le.trans hL hle
    have h1 := rd.mono hle h1
    have h2 := rd.mono hle h2
    have hvp := rd.mono hle hvp
    have hst := RdL.mono hle hst
    have hvb := rd.mono hle hvb
    have hle3 := Le.trans hle3 hle
    have hp := hAt.mono hle hp
    refine TL.toOwn (own' := _ :: _ :: _ :: _ :: own) rfl ?_
    refine TL.wk (env' := [(3, _), (6, _), (7, _), (8, _), (20, _), (32, _)]) ⟨rfl, rfl, rfl, rfl, rfl, rfl, trivial⟩ ?_
    refine TL.nilCheck rfl rfl ?_
    refine TL.fieldAddr rfl rfl ?_
    refine TL.store1 1 0 (c' := #[_, _, _]) (own' := _ :: [(_, .cells #[_, _, _] _ _)] :: _) rfl rfl rfl rfl hrow32.one (by simp) rfl rfl rfl ?_
    refine TL.nil ?_
    refine TQ.in_n ?_
    refine TQ.then_n ?_
    refine TC.region ?_
    refine TL.move rfl rfl ?_
    refine TL.add rfl rfl rfl ⟨by omega, by omega⟩ ?_
    refine TL.assign rfl rfl ?_
    refine TL.nil ?_
    refine TQ.sel 4 [1, 0, 2, 3] rfl (fun o ho => ?_)
    simp only [K.sel, List.map_cons, List.map_nil, List.getD_cons_zero, List.getD_cons_succ, List.drop_succ_cons, List.drop_zero, List.cons_append, List.nil_append, List.set_cons_zero, List.set_cons_succ] at ho; subst ho
    refine TQ.next (f.ps.length - (i + 1)) [(3, _), (6, _), (7, _), (8, _)] (by omega) ⟨rfl, rfl, rfl, rfl, trivial⟩ ⟨i + 1, _, _, rfl, by omega, ?_, by simp, rfl, hle3⟩
    rw [List.take_add_one, hx]
    simpa only [List.map_append, Option.toList_some, List.map_cons, List.map_nil] using hrow32
  ·
   have hii : i = f.ps.length := by omega
   subst hii
   rw [List.take_length] at hrow
   refine TL.nil ?_
   refine TQ.then_n ?_
   refine TC.cond_f rfl ?_
   refine TC.exit ?_
   refine TQ.then_e ?_
   refine TQ.then_e ?_
   refine TQ.in_e ?_
   refine TQ.then_n ?_
   refine TC.seq ?_
   refine TC.region ?_
   refine TL.move rfl rfl ?_
   refine TL.fieldAddr rfl rfl ?_
   refine TL.load_own 3 0 rfl rfl rfl rfl rfl ?_
   refine TL.call (ref_collect _ f.body (Nat.le_refl _) (by omega) hrow hvb) ⟨rfl, rfl, trivial⟩ rfl ?_
   clear hrow
   rintro _ _ H38 ⟨u, n38, seg, rfl, rfl, hrow, hn38, hle38⟩
   have hL := Le.trans hL hle38
   have h1 := rd.mono hle38 h1
   have h2 := rd.mono hle38 h2
   have hvp := rd.mono hle38 hvp
   have hst := RdL.mono hle38 hst
   have hvb := rd.mono hle38 hvb
   have hle3 := Le.trans hle3 hle38
   refine TL.nil ?_
   refine TQ.then_n ?_
   refine TC.seq ?_
   refine TC.sel 4 [1, 0, 2, 3] rfl (fun o ho => ?_)
   simp only [K.sel, List.map_cons, List.map_nil, List.getD_cons_zero, List.getD_cons_succ, List.drop_succ_cons, List.drop_zero, List.cons_append, List.nil_append, List.set_cons_zero, List.set_cons_succ] at ho; subst ho
   refine TC.freeze (fun H2 hle hz_row => ?_)
   have hL := Le.trans hL hle
   have h1 := rd.mono hle h1
   have h2 := rd.mono hle h2
   have hvp := rd.mono hle hvp
   have hst := RdL.mono hle hst
   have hvb := rd.mono hle hvb
   have hle3 := Le.trans hle3 hle
   refine TC.freeze (fun H3 hle hz_g12 => ?_)
   have hL := Le.trans hL hle
   have h1 := rd.mono hle h1
   have h2 := rd.mono hle h2
   have hvp := rd.mono hle hvp
   have hst := RdL.mono hle hst
   have hvb := rd.mono hle hvb
   have hle3 := Le.trans hle3 hle
   have hz_row := hz.mono hle hz_row
   have hN : RmS H3 g12 fr to (f.ps.map Par.nm ++ decSs f.body) := ⟨_, _, _, hAt_three hz_g12, h1, h2, rd.ofRow hrow hz_row (by rw [← List.map_append]; exact RdL.vals _) (Le.refl _)⟩
   refine TC.region ?_
   refine TL.move rfl rfl ?_
   refine TL.fieldAddr rfl rfl ?_
   refine TL.load_own 1 0 rfl rfl rfl rfl rfl ?_
   refine TL.call (ref_name hN) ⟨rfl, rfl, trivial⟩ rfl ?_
   rintro _ _ H42 ⟨rfl, rfl, hle42⟩
   have hL := Le.trans hL hle42
   have h1 := rd.mono hle42 h1
   have h2 := rd.mono hle42 h2
   have hvp := rd.mono hle42 hvp
   have hst := RdL.mono hle42 hst
   have hvb := rd.mono hle42 hvb
   have hle3 := Le.trans hle3 hle42
   have hz_row := hz.mono hle42 hz_row
   have hz_g12 := hz.mono hle42 hz_g12
   have hN := RmS.mono hle42 hN
   refine TL.fieldAddr rfl rfl ?_
   refine TL.store1 1 0 (c' := #[_, _, _, _, _, _, _, _, _, _]) (own' := _ :: [(_, .cells #[_, _, _, _, _, _, _, _, _, _] _ _)] :: _) rfl rfl rfl rfl rfl (by simp) rfl rfl rfl ?_
   refine TL.nil ?_
   refine TQ.then_n ?_
   refine TC.seq ?_
   obtain ⟨news, hsrc, hnw⟩ := hvp.src (Par.one f.ps)
   refine TC.region ?_
   refine TL.litF (r := []) [] trivial rfl rfl rfl rfl ?_; intro g44
   refine TL.fieldAddr rfl rfl ?_
   refine TL.load_own 2 0 rfl rfl rfl rfl rfl ?_
   refine TL.append 0 rfl rfl rfl (Row.lit 89 5 0 _ #[] rfl (by omega)) (hsrc _ _) (by omega) (by omega) rfl ?_
   intro v' seg' hrow'
   refine TL.fieldAddr rfl rfl ?_
   refine TL.store1 2 0 (c' := #[_, _, _, _, _, _, _, _, _, _]) (own' := _ :: _ :: [(_, .cells #[_, _, _, _, _, _, _, _, _, _] _ _)] :: _) rfl rfl rfl rfl hrow'.one (by simp) rfl rfl rfl ?_
   refine TL.nil ?_
   refine TQ.then_n ?_
   refine TC.seq ?_
   refine TC.freeze (fun H4 hle hz_g44 => ?_)
   have hL := Le.trans hL hle
   have h1 := rd.mono hle h1
   have h2 := rd.mono hle h2
   have hvp := rd.mono hle hvp
   have hst := RdL.mono hle hst
   have hvb := rd.mono hle hvb
   have hle3 := Le.trans hle3 hle
   have hz_row := hz.mono hle hz_row
   have hz_g12 := hz.mono hle hz_g12
   have hN := RmS.mono hle hN
   have hnw := RdL.mono hle hnw
   have hr47 : rd H4 (.s 5 (Par.ds f.ps)) v' := rd.ofRow (by simpa using hrow') hz_g44 hnw (Le.refl _)
   refine TC.region ?_
   refine TL.move rfl rfl ?_
   refine TL.fieldAddr rfl rfl ?_
   refine TL.load_own 1 0 rfl rfl rfl rfl rfl ?_
   refine TL.call (ref_stmts rfl rfl _ f.body (Nat.le_refl _) (by omega) hN hvb) ⟨rfl, rfl, trivial⟩ rfl ?_
   rintro r52 _ H52 ⟨hr52, rfl, hle52⟩
   have hL := Le.trans hL hle52
   have h1 := rd.mono hle52 h1
   have h2 := rd.mono hle52 h2
   have hvp := rd.mono hle52 hvp
   have hst := RdL.mono hle52 hst
   have hvb := rd.mono hle52 hvb
   have hle3 := Le.trans hle3 hle52
   have hz_row := hz.mono hle52 hz_row
   have hz_g12 := hz.mono hle52 hz_g12
   have hN := RmS.mono hle52 hN
   have hnw := RdL.mono hle52 hnw
   have hz_g44 := hz.mono hle52 hz_g44
   have hr47 := rd.mono hle52 hr47
   refine TL.fieldAddr rfl rfl ?_
   refine TL.store1 1 0 (c' := #[_, _, _, _, _, _, _, _, _, _]) (own' := _ :: [(_, .cells #[_, _, _, _, _, _, _, _, _, _] _ _)] :: _) rfl rfl rfl rfl hr52.one (by simp) rfl rfl rfl ?_
   refine TL.nil ?_
   refine TQ.then_n ?_
   refine TC.seq ?_
   refine TC.region ?_
   refine TL.load_ownA 1 0 [_, _, _, _, _, _, _, _, _, _] rfl rfl rfl ⟨rfl, rfl, rfl, rfl, rfl, rfl, rfl, rfl, rfl, rfl, trivial⟩ rfl rfl ?_
   refine TL.storeA 0 0 (c' := #[_, _, _, _, _, _, _, _, _, _]) (own' := [(_, .cells #[_, _, _, _, _, _, _, _, _, _] _ _)] :: _) rfl rfl rfl rfl rfl (fu_ones hr47 hst hr52) (by simp [putC]) (putC_all rfl) rfl rfl ?_
   refine TL.nil ?_
   refine TQ.then_n ?_
   refine TC.ret ?_
   refine TQ.retC 0 0 2 [_, _, _, _, _, _, _, _, _, _] rfl rfl rfl rfl ⟨rfl, rfl, rfl, rfl, rfl, rfl, rfl, rfl, rfl, rfl, trivial⟩ rfl rfl ?_
   exact ⟨_, rfl, fu_of (f := renF (fr.zip to) f) hr47 hst hr52, rfl, hL⟩

end Go.Proofs.Ytapmmfabdmhdnaa.K
