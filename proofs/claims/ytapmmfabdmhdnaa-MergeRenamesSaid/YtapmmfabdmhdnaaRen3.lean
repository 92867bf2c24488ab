/-
  The program's Rename.
-/
import Derived.Test.YtapmmfabdmhdnaaRen2
set_option linter.unusedVariables false
set_option linter.unusedSimpArgs false
set_option maxHeartbeats 4000000
namespace Go.Proofs.Ytapmmfabdmhdnaa.K
open Go Go.RowKit Go.Proofs

theorem names_len {H : Hp} {l : List ByteArray} {v : Value} (h : rd H (.s 1 (strsD l)) v) : ∃ A c, v = .slice A l.length c ∧ l.length ≤ c ∧ c ≤ 9223372036854775807 := by
  obtain ⟨A, c, e, h1, h2⟩ := vals_len h
  rw [List.length_map] at e h1
  exact ⟨A, c, e, h1, h2⟩
theorem names_at {H : Hp} {l : List ByteArray} {A : Option Addr} {n c : Nat} (h : rd H (.s 1 (strsD l)) (.slice A n c)) {i : Nat} {x : ByteArray} (hi : l[i]? = some x) : ∃ b o, A = some ⟨b, o, none⟩ ∧ cel H b (o + i * 1) = some (.string x) :=
  vals_at h (by simp [hi])
theorem ren_Rename {f : Fu} (hf : FuOk f) {fr to : List ByteArray} (hfr : NmOk fr) (hto : NmOk to) {w0 : World} {H : Hp} {own : List Seg} {v1 v2 : Value} {cs : List Value} (hfd : RdL H f.d cs) (h1 : rd H (.s 1 (strsD fr)) v1) (h2 : rd H (.s 1 (strsD to)) v2) :
    Fn Try.prog 25 [.agg cs.toArray, v1, v2] w0 H own (fun r own' H' => ∃ cs', r = .agg cs'.toArray ∧ RdL H' (renF (fr.zip to) f).d cs' ∧ own' = own ∧ Le H H') := by
  obtain ⟨hf0, hf1, hf2, hf3, hf4⟩ := hf
  obtain ⟨hfr1, hfr2⟩ := hfr
  obtain ⟨hto1, hto2⟩ := hto
  have hmax : (2000000 : Nat) < maxLen := by decide
  obtain ⟨vp, t0, t1, t2, t3, vb, rfl, hvp, hst, hvb⟩ := fu_cells hfd
  obtain ⟨A1, c1, rfl, hc11, hc12⟩ := names_len h1
  obtain ⟨A2, c2, rfl, hc21, hc22⟩ := names_len h2
  obtain ⟨Ap, cp, rfl, hcp1, hcp2⟩ := pars_len hvp
  obtain ⟨m, hm⟩ : ∃ m, m = min fr.length to.length := ⟨_, rfl⟩
  obtain ⟨z, hz0⟩ : ∃ z, z = fr.zip to := ⟨_, rfl⟩
  have hzl : z.length = m := by rw [hz0, hm, List.length_zip]
  refine Fn.enter Try.func25 rfl Try.ntmps25 rfl ?_
  have hL := Le.refl H
  refine TC.seq ?_
  refine TC.region ?_
  refine TL.box (c := #[_, _, _, _, _, _, _, _, _, _]) rfl rfl rfl ?_; intro g3
  refine TL.new rfl ?_; intro g6
  refine TL.nil ?_
  refine TQ.then_n ?_
  refine TC.seq ?_
  refine TC.region ?_
  refine TL.newMap rfl ?_; intro gt
  refine TL.newMap rfl ?_; intro gl
  refine TL.struct [(0, [_]), (1, [_])] ⟨rfl, ⟨_, rfl, rfl⟩, rfl, ⟨_, rfl, rfl⟩, trivial⟩ rfl rfl ?_
  refine TL.box (c := #[_, _]) rfl rfl rfl ?_; intro g14
  refine TL.assign rfl rfl ?_
  refine TL.nil ?_
  refine TQ.then_n ?_
  refine TC.seq ?_
  refine TC.seq ?_
  refine TC.freeze (fun H1 hle hz_g14 => ?_)
  have hL := Le.trans hL hle
  have h1 := rd.mono hle h1
  have h2 := rd.mono hle h2
  have hvp := rd.mono hle hvp
  have hst := RdL.mono hle hst
  have hvb := rd.mono hle hvb
  have hn := hAt_two hz_g14
  refine TC.region ?_
  refine TL.move rfl rfl ?_
  refine TL.len_slice rfl rfl ?_
  refine TL.move rfl rfl ?_
  refine TL.len_slice rfl rfl ?_
  refine TL.min2 rfl rfl rfl ?_
  rw [show min ((fr.length : Nat) : Int) (to.length : Int) = (m : Int) by omega]
  refine TL.sub rfl rfl rfl ⟨by omega, by omega⟩ ?_
  refine TL.assign rfl rfl ?_
  refine TL.nil ?_
  refine TQ.then_n ?_
  refine TC.block ?_
  refine TC.toOwn (own' := [(gl, .map #[] 0)] :: [(gt, .map #[] 0)] :: _ :: _ :: own) rfl ?_
  refine TC.bring 1 ?_
  refine TC.toOwn (own' := [(gt, .map #[] 0)] :: [(gl, .map #[] 0)] :: _ :: _ :: own) rfl ?_
  refine TC.loop (fun zz env' own' H' => ∃ (i : Nat) (ot : Obj), zz = i ∧ i ≤ m ∧ MapO Try.prog 9 9 ot (m - i) (mT (lookT (z.drop i))) ∧ env' = [(1, .slice A1 fr.length c1), (2, .slice A2 to.length c2), (3, .pointer (some ⟨g3, 0, none⟩)), (6, .pointer (some ⟨g6, 0, none⟩)), (7, .pointer (some ⟨g14, 0, none⟩)), (8, .int .i64 ((i : Int) - 1))] ∧ own' = [(gt, ot)] :: [(gl, .map #[] 0)] :: [(g6, .cells #[.string ⟨#[]⟩, .slice none 0 0, .int .i64 0, .string ⟨#[]⟩, .int .i64 0, .slice none 0 0, .slice none 0 0, .bool false, .int .i64 0, .int .u16 0] 54 (0, 0))] :: [(g3, .cells #[.string f.nm, .slice Ap f.ps.length cp, t0, t1, t2, t3, vb, .bool f.fl, .int .i64 f.x, .int .u16 f.y] 54 (0, 0))] :: own ∧ Le H1 H') m [(1, _), (2, _), (3, _), (6, _), (7, _), (8, _)] ⟨rfl, rfl, rfl, rfl, rfl, rfl, trivial⟩ ⟨m, _, rfl, by omega, by rw [List.drop_of_length_le (by omega), Nat.sub_self]; exact (MapO.nil _ _ _).congr mT_nil, rfl, rfl, Le.refl _⟩ ?_
  rintro zz _ _ H3 ⟨i, ot, hzz, hi, hmt, rfl, rfl, hle0⟩
  have hL := Le.trans hL hle0
  have h1 := rd.mono hle0 h1
  have h2 := rd.mono hle0 h2
  have hvp := rd.mono hle0 hvp
  have hst := RdL.mono hle0 hst
  have hvb := rd.mono hle0 hvb
  have hz_g14 := hz.mono hle0 hz_g14
  have hn := hAt.mono hle0 hn
  refine TC.seq ?_
  refine TC.seq ?_
  refine TC.region ?_
  refine TL.move rfl rfl ?_
  refine TL.geqB rfl rfl rfl (fun hge => ?_) (fun hge => ?_)
  ·
   obtain ⟨j, rfl⟩ : ∃ j, i = j + 1 := ⟨i - 1, by omega⟩
   obtain ⟨a, ha⟩ : ∃ a, fr[j]? = some a := ⟨_, List.getElem?_eq_getElem (by omega)⟩
   obtain ⟨b, hb⟩ : ∃ b, to[j]? = some b := ⟨_, List.getElem?_eq_getElem (by omega)⟩
   have hzd := zip_drop ha hb
   rw [← hz0] at hzd
   obtain ⟨b1, o1, rfl, hp1⟩ := names_at h1 ha
   obtain ⟨b2, o2, rfl, hp2⟩ := names_at h2 hb
   refine TL.nil ?_
   refine TQ.then_n ?_
   refine TC.cond_t rfl ?_
   refine TC.skip ?_
   refine TQ.then_n ?_
   refine TC.seq ?_
   refine TC.block ?_
   refine TC.drawQV 12  [(1, _), (2, _), (3, _), (6, _), (7, _), (8, _)] follows_mixed ⟨rfl, rfl, rfl, rfl, rfl, rfl, trivial⟩ ?_
   refine ChainV.q (some 25) [] (by
    intro H' X F hle
    intro hF
    refine TL.move rfl rfl ?_
    refine TL.nil ?_
    exact TQ.one [] hF (Le.refl _) ⟨rfl, rfl⟩) ?_
   refine ChainV.q (some 26) [(0, 0)] (by
    intro H' X F hle
    intro hF
    refine TL.nilCheck rfl rfl ?_
    refine TL.nil ?_
    exact TQ.one [] hF (Le.refl _) ⟨rfl, rfl⟩) ?_
   refine ChainV.q (some 27) [(1, 0)] (by
    intro H' X F hle
    intro hF
    refine TL.fieldAddr rfl rfl ?_
    refine TL.nil ?_
    exact TQ.one [] hF (Le.refl _) ⟨rfl, rfl⟩) ?_
   refine ChainV.q (some 28) [(2, 0)] (by
    intro H' X F hle
    have hL := Le.trans hL hle
    have h1 := rd.mono hle h1
    have h2 := rd.mono hle h2
    have hvp := rd.mono hle hvp
    have hst := RdL.mono hle hst
    have hvb := rd.mono hle hvb
    have hz_g14 := hz.mono hle hz_g14
    have hn := hAt.mono hle hn
    have hle0 := Le.trans hle0 hle
    have hp1 := cel_le hle hp1
    have hp2 := cel_le hle hp2
    intro hF
    refine TL.load_imm rfl (hn.1) rfl ?_
    refine TL.nil ?_
    exact TQ.one [] hF (Le.refl _) ⟨rfl, rfl⟩) ?_
   refine ChainV.q (some 29) [] (by
    intro H' X F hle
    intro hF
    refine TL.move rfl rfl ?_
    refine TL.nil ?_
    exact TQ.one [] hF (Le.refl _) ⟨rfl, rfl⟩) ?_
   refine ChainV.q (some 30) [] (by
    intro H' X F hle
    intro hF
    refine TL.move rfl rfl ?_
    refine TL.nil ?_
    exact TQ.one [] hF (Le.refl _) ⟨rfl, rfl⟩) ?_
   refine ChainV.q (some 31) [(4, 1), (5, 0)] (by
    intro H' X F hle
    intro hF
    refine TL.indexAddr (j) rfl rfl (by omega) (by omega) rfl ?_
    refine TL.nil ?_
    exact TQ.one [] hF (Le.refl _) ⟨rfl, rfl⟩) ?_
   refine ChainV.q (some 32) [(6, 0)] (by
    intro H' X F hle
    have hL := Le.trans hL hle
    have h1 := rd.mono hle h1
    have h2 := rd.mono hle h2
    have hvp := rd.mono hle hvp
    have hst := RdL.mono hle hst
    have hvb := rd.mono hle hvb
    have hz_g14 := hz.mono hle hz_g14
    have hn := hAt.mono hle hn
    have hle0 := Le.trans hle0 hle
    have hp1 := cel_le hle hp1
    have hp2 := cel_le hle hp2
    intro hF
    refine TL.load_imm rfl (hp1) rfl ?_
    refine TL.nil ?_
    exact TQ.one [] hF (Le.refl _) ⟨rfl, rfl⟩) ?_
   refine ChainV.q (some 33) [] (by
    intro H' X F hle
    intro hF
    refine TL.move rfl rfl ?_
    refine TL.nil ?_
    exact TQ.one [] hF (Le.refl _) ⟨rfl, rfl⟩) ?_
   refine ChainV.q (some 34) [] (by
    intro H' X F hle
    intro hF
    refine TL.move rfl rfl ?_
    refine TL.nil ?_
    exact TQ.one [] hF (Le.refl _) ⟨rfl, rfl⟩) ?_
   refine ChainV.q (some 35) [(8, 1), (9, 0)] (by
    intro H' X F hle
    intro hF
    refine TL.indexAddr (j) rfl rfl (by omega) (by omega) rfl ?_
    refine TL.nil ?_
    exact TQ.one [] hF (Le.refl _) ⟨rfl, rfl⟩) ?_
   refine ChainV.q (some 36) [(10, 0)] (by
    intro H' X F hle
    have hL := Le.trans hL hle
    have h1 := rd.mono hle h1
    have h2 := rd.mono hle h2
    have hvp := rd.mono hle hvp
    have hst := RdL.mono hle hst
    have hvb := rd.mono hle hvb
    have hz_g14 := hz.mono hle hz_g14
    have hn := hAt.mono hle hn
    have hle0 := Le.trans hle0 hle
    have hp1 := cel_le hle hp1
    have hp2 := cel_le hle hp2
    intro hF
    refine TL.load_imm rfl (hp2) rfl ?_
    refine TL.nil ?_
    exact TQ.one [] hF (Le.refl _) ⟨rfl, rfl⟩) ?_
   refine ⟨by kernel_rfl, .refl _, ?_⟩
   ·
    intro H2 hle
    have hL := Le.trans hL hle
    have h1 := rd.mono hle h1
    have h2 := rd.mono hle h2
    have hvp := rd.mono hle hvp
    have hst := RdL.mono hle hst
    have hvb := rd.mono hle hvb
    have hz_g14 := hz.mono hle hz_g14
    have hn := hAt.mono hle hn
    have hle0 := Le.trans hle0 hle
    have hp1 := cel_le hle hp1
    have hp2 := cel_le hle hp2
    refine TL.toOwn (own' := _ :: _ :: _ :: _ :: own) rfl ?_
    refine TL.wk (env' := [(1, _), (2, _), (3, _), (6, _), (7, _), (8, _), (28, _), (32, _), (36, _)]) ⟨rfl, rfl, rfl, rfl, rfl, rfl, rfl, rfl, rfl, trivial⟩ ?_
    refine TL.mapSet 0 0 rfl rfl rfl rfl rfl hmt (by omega) (hfr2 _ (List.mem_of_getElem? ha)) (plain9 b (hto2 _ (List.mem_of_getElem? hb))) rfl ?_
    intro ot2 hmt2
    refine TL.toOwn (own' := [(gt, ot2)] :: _ :: _ :: _ :: own) rfl ?_
    refine TL.nil ?_
    refine TQ.in_n ?_
    refine TQ.then_n ?_
    refine TC.region ?_
    refine TL.move rfl rfl ?_
    refine TL.sub rfl rfl rfl ⟨by omega, by omega⟩ ?_
    refine TL.assign rfl rfl ?_
    refine TL.nil ?_
    refine TQ.toOwn (own' := _ :: _ :: _ :: _ :: own) rfl ?_
    refine TQ.next j [(1, _), (2, _), (3, _), (6, _), (7, _), (8, _)] (by omega) ⟨rfl, rfl, rfl, rfl, rfl, rfl, trivial⟩ ⟨j, ot2, rfl, by omega, ?_, ?_, rfl, hle0⟩
    · rw [hzd]
      have e : m - j = m - (j + 1) + 1 := by omega
      rw [e]
      exact hmt2.congr (mT_set _ _ _)
    · rw [show (((j + 1 : Nat) : Int) - 1 - 1) = (j : Int) - 1 by omega]
  ·
   have hi0 : i = 0 := by omega
   subst hi0
   rw [List.drop_zero] at hmt
   refine TL.nil ?_
   refine TQ.then_n ?_
   refine TC.cond_f rfl ?_
   refine TC.exit ?_
   refine TQ.then_e ?_
   refine TQ.then_e ?_
   refine TQ.in_e ?_
   refine TQ.then_n ?_
   refine TC.seq ?_
   refine TC.seq ?_
   refine TC.sel 4 [1, 0, 2, 3] rfl (fun o ho => ?_)
   simp only [K.sel, List.map_cons, List.map_nil, List.getD_cons_zero, List.getD_cons_succ, List.drop_succ_cons, List.drop_zero, List.cons_append, List.nil_append, List.set_cons_zero, List.set_cons_succ] at ho; subst ho
   refine TC.region ?_
   refine TL.fieldAddr rfl rfl ?_
   refine TL.load_own 3 0 rfl rfl rfl rfl rfl ?_
   refine TL.len_slice rfl rfl ?_
   refine TL.move rfl rfl ?_
   refine TL.nil ?_
   refine TQ.then_n ?_
   refine TC.block ?_
   refine TC.loop (fun zz env' own' H' => ∃ (i : Nat) (ol : Obj), zz = f.ps.length - i ∧ i ≤ f.ps.length ∧ MapO Try.prog 9 4 ol i (mL (addL (fun _ => false) ((f.ps.take i).map Par.nm))) ∧ env' = [(3, .pointer (some ⟨g3, 0, none⟩)), (6, .pointer (some ⟨g6, 0, none⟩)), (7, .pointer (some ⟨g14, 0, none⟩)), (38, .slice Ap f.ps.length cp), (39, .int .i64 (f.ps.length : Int)), (40, .int .i64 (i : Int))] ∧ own' = [(gl, ol)] :: [(gt, ot)] :: [(g6, .cells #[.string ⟨#[]⟩, .slice none 0 0, .int .i64 0, .string ⟨#[]⟩, .int .i64 0, .slice none 0 0, .slice none 0 0, .bool false, .int .i64 0, .int .u16 0] 54 (0, 0))] :: [(g3, .cells #[.string f.nm, .slice Ap f.ps.length cp, t0, t1, t2, t3, vb, .bool f.fl, .int .i64 f.x, .int .u16 f.y] 54 (0, 0))] :: own ∧ Le H3 H') f.ps.length [(3, _), (6, _), (7, _), (38, _), (39, _), (40, _)] ⟨rfl, rfl, rfl, rfl, rfl, rfl, trivial⟩ ⟨0, _, by omega, by omega, (MapO.nil _ _ _).congr mL_nil, rfl, rfl, Le.refl _⟩ ?_
   rintro zz _ _ H7 ⟨i, ol, rfl, hi, hml, rfl, rfl, hle7⟩
   have hL := Le.trans hL hle7
   have h1 := rd.mono hle7 h1
   have h2 := rd.mono hle7 h2
   have hvp := rd.mono hle7 hvp
   have hst := RdL.mono hle7 hst
   have hvb := rd.mono hle7 hvb
   have hz_g14 := hz.mono hle7 hz_g14
   have hn := hAt.mono hle7 hn
   have hle0 := Le.trans hle0 hle7
   refine TC.seq ?_
   refine TC.region ?_
   refine TL.lssB rfl rfl rfl (fun hlt => ?_) (fun hlt => ?_)
   ·
    obtain ⟨x, hx⟩ : ∃ x, f.ps[i]? = some x := ⟨_, List.getElem?_eq_getElem (by omega)⟩
    obtain ⟨b1, o1, x0, x1, x2, x3, rfl, hp, hxt⟩ := pars_at hvp hx
    refine TL.nil ?_
    refine TQ.then_n ?_
    refine TC.seq ?_
    refine TC.cond_t rfl ?_
    refine TC.skip ?_
    refine TQ.then_n ?_
    refine TC.seq ?_
    refine TC.block ?_
    refine TC.seq ?_
    refine TC.region ?_
    refine TL.indexAddr (i) rfl rfl rfl (by omega) rfl ?_
    refine TL.load_immA rfl (hp) rfl rfl ?_
    refine TL.new rfl ?_; intro g10
    refine TL.storeA 0 0 (c' := #[_, _, _, _, _]) (own' := [(_, .cells #[_, _, _, _, _] _ _)] :: _) rfl rfl rfl rfl rfl ⟨rfl, (ty_ones hxt).1, (ty_ones hxt).2.1, (ty_ones hxt).2.2.1, (ty_ones hxt).2.2.2, trivial⟩ (by simp [putC]) (putC_all rfl) rfl rfl ?_
    refine TL.nil ?_
    refine TQ.then_n ?_
    refine TC.drawQV 6  [(3, _), (6, _), (7, _), (38, _), (39, _), (40, _), (10, _)] follows_mixed ⟨rfl, rfl, rfl, rfl, rfl, rfl, rfl, trivial⟩ ?_
    refine ChainV.q (some 44) [] (by
     intro H' X F hle
     intro hF
     refine TL.move rfl rfl ?_
     refine TL.nil ?_
     exact TQ.one [] hF (Le.refl _) ⟨rfl, rfl⟩) ?_
    refine ChainV.q (some 45) [(0, 0)] (by
     intro H' X F hle
     intro hF
     refine TL.nilCheck rfl rfl ?_
     refine TL.nil ?_
     exact TQ.one [] hF (Le.refl _) ⟨rfl, rfl⟩) ?_
    refine ChainV.q (some 46) [(1, 0)] (by
     intro H' X F hle
     intro hF
     refine TL.fieldAddr rfl rfl ?_
     refine TL.nil ?_
     exact TQ.one [] hF (Le.refl _) ⟨rfl, rfl⟩) ?_
    refine ChainV.q (some 47) [(2, 0)] (by
     intro H' X F hle
     have hL := Le.trans hL hle
     have h1 := rd.mono hle h1
     have h2 := rd.mono hle h2
     have hvp := rd.mono hle hvp
     have hst := RdL.mono hle hst
     have hvb := rd.mono hle hvb
     have hz_g14 := hz.mono hle hz_g14
     have hn := hAt.mono hle hn
     have hle0 := Le.trans hle0 hle
     have hle7 := Le.trans hle7 hle
     have hp := hAt.mono hle hp
     have hxt := RdL.mono hle hxt
     intro hF
     refine TL.load_imm rfl (hn.2.1) rfl ?_
     refine TL.nil ?_
     exact TQ.one [] hF (Le.refl _) ⟨rfl, rfl⟩) ?_
    refine ChainV.q (some 48) [] (by
     intro H' X F hle
     intro hF
     refine TL.fieldAddr rfl rfl ?_
     refine TL.nil ?_
     exact TQ.one [] hF (Le.refl _) ⟨rfl, rfl⟩) ?_
    refine ChainV.q (some 49) [(4, 0)] (by
     intro H' X F hle
     have hL := Le.trans hL hle
     have h1 := rd.mono hle h1
     have h2 := rd.mono hle h2
     have hvp := rd.mono hle hvp
     have hst := RdL.mono hle hst
     have hvb := rd.mono hle hvb
     have hz_g14 := hz.mono hle hz_g14
     have hn := hAt.mono hle hn
     have hle0 := Le.trans hle0 hle
     have hle7 := Le.trans hle7 hle
     have hp := hAt.mono hle hp
     have hxt := RdL.mono hle hxt
     intro hF
     refine TL.load_own 0 0 rfl rfl rfl rfl rfl ?_
     refine TL.nil ?_
     exact TQ.one [] hF (Le.refl _) ⟨rfl, rfl⟩) ?_
    refine ⟨by kernel_rfl, .refl _, ?_⟩
    ·
     intro H3 hle
     have hL := Le.trans hL hle
     have h1 := rd.mono hle h1
     have h2 := rd.mono hle h2
     have hvp := rd.mono hle hvp
     have hst := RdL.mono hle hst
     have hvb := rd.mono hle hvb
     have hz_g14 := hz.mono hle hz_g14
     have hn := hAt.mono hle hn
     have hle0 := Le.trans hle0 hle
     have hle7 := Le.trans hle7 hle
     have hp := hAt.mono hle hp
     have hxt := RdL.mono hle hxt
     refine TL.toOwn (own' := _ :: _ :: _ :: _ :: _ :: own) rfl ?_
     refine TL.wk (env' := [(3, _), (6, _), (7, _), (38, _), (39, _), (40, _), (10, _), (47, _), (49, _)]) ⟨rfl, rfl, rfl, rfl, rfl, rfl, rfl, rfl, rfl, trivial⟩ ?_
     refine TL.mapSet 1 0 rfl rfl rfl rfl rfl hml (by omega) (hf2 _ (List.mem_of_getElem? hx)) (plain4 true) rfl ?_
     intro ol2 hml2
     refine TL.toOwn (own' := _ :: [(gl, ol2)] :: _ :: _ :: _ :: own) rfl ?_
     refine TL.nil ?_
     refine TQ.in_n ?_
     refine TQ.then_n ?_
     refine TC.region ?_
     refine TL.add rfl rfl rfl ⟨by omega, by omega⟩ ?_
     refine TL.move rfl rfl ?_
     refine TL.nil ?_
     refine TQ.sel 5 [1, 2, 3, 4] rfl (fun o ho => ?_)
     simp only [K.sel, List.map_cons, List.map_nil, List.getD_cons_zero, List.getD_cons_succ, List.drop_succ_cons, List.drop_zero, List.cons_append, List.nil_append, List.set_cons_zero, List.set_cons_succ] at ho; subst ho
     refine TQ.next (f.ps.length - (i + 1)) [(3, _), (6, _), (7, _), (38, _), (39, _), (40, _)] (by omega) ⟨rfl, rfl, rfl, rfl, rfl, rfl, trivial⟩ ⟨i + 1, ol2, rfl, by omega, ?_, by simp, rfl, hle7⟩
     rw [List.take_add_one, hx, List.map_append, ← addL_append]
     exact hml2.congr (mL_set _ _)
   ·
    have hii : i = f.ps.length := by omega
    subst hii
    rw [List.take_length] at hml
    refine TL.nil ?_
    refine TQ.then_n ?_
    refine TC.seq ?_
    refine TC.cond_f rfl ?_
    refine TC.exit ?_
    refine TQ.then_e ?_
    refine TQ.then_e ?_
    refine TQ.in_e ?_
    refine TQ.then_n ?_
    refine TC.seq ?_
    refine TC.region ?_
    refine TL.move rfl rfl ?_
    refine TL.fieldAddr rfl rfl ?_
    refine TL.load_own 3 0 rfl rfl rfl rfl rfl ?_
    refine TL.call (ren_declare _ f.body (Nat.le_refl _) hf4 (by omega) hn hml hvb) ⟨rfl, rfl, trivial⟩ rfl ?_
    rintro _ _ H54 ⟨ol, rfl, rfl, hml, hle54⟩
    rw [addL_append] at hml
    have hL := Le.trans hL hle54
    have h1 := rd.mono hle54 h1
    have h2 := rd.mono hle54 h2
    have hvp := rd.mono hle54 hvp
    have hst := RdL.mono hle54 hst
    have hvb := rd.mono hle54 hvb
    have hz_g14 := hz.mono hle54 hz_g14
    have hn := hAt.mono hle54 hn
    have hle0 := Le.trans hle0 hle54
    have hle7 := Le.trans hle7 hle54
    refine TL.nil ?_
    refine TQ.then_n ?_
    refine TC.seq ?_
    refine TC.freeze (fun H4 hle hz_gl => ?_)
    have hL := Le.trans hL hle
    have h1 := rd.mono hle h1
    have h2 := rd.mono hle h2
    have hvp := rd.mono hle hvp
    have hst := RdL.mono hle hst
    have hvb := rd.mono hle hvb
    have hz_g14 := hz.mono hle hz_g14
    have hn := hAt.mono hle hn
    have hle0 := Le.trans hle0 hle
    have hle7 := Le.trans hle7 hle
    refine TC.freeze (fun H5 hle hz_gt => ?_)
    have hL := Le.trans hL hle
    have h1 := rd.mono hle h1
    have h2 := rd.mono hle h2
    have hvp := rd.mono hle hvp
    have hst := RdL.mono hle hst
    have hvb := rd.mono hle hvb
    have hz_g14 := hz.mono hle hz_g14
    have hn := hAt.mono hle hn
    have hle0 := Le.trans hle0 hle
    have hle7 := Le.trans hle7 hle
    have hz_gl := hz.mono hle hz_gl
    have hN : NmS H5 g14 (lookT z) (locF f) := ⟨gt, gl, ot, ol, _, _, hn, hz_gt _ (List.mem_singleton.2 rfl), hmt, hz_gl _ (List.mem_singleton.2 rfl), hml⟩
    refine TC.region ?_
    refine TL.move rfl rfl ?_
    refine TL.fieldAddr rfl rfl ?_
    refine TL.load_own 1 0 rfl rfl rfl rfl rfl ?_
    refine TL.call (ren_name hf0 hN) ⟨rfl, rfl, trivial⟩ rfl ?_
    rintro _ _ H58 ⟨rfl, rfl, hle58⟩
    have hL := Le.trans hL hle58
    have h1 := rd.mono hle58 h1
    have h2 := rd.mono hle58 h2
    have hvp := rd.mono hle58 hvp
    have hst := RdL.mono hle58 hst
    have hvb := rd.mono hle58 hvb
    have hz_g14 := hz.mono hle58 hz_g14
    have hn := hAt.mono hle58 hn
    have hle0 := Le.trans hle0 hle58
    have hle7 := Le.trans hle7 hle58
    have hz_gl := hz.mono hle58 hz_gl
    have hz_gt := hz.mono hle58 hz_gt
    have hN := NmS.mono hle58 hN
    refine TL.fieldAddr rfl rfl ?_
    refine TL.store1 1 0 (c' := #[_, _, _, _, _, _, _, _, _, _]) (own' := _ :: [(_, .cells #[_, _, _, _, _, _, _, _, _, _] _ _)] :: _) rfl rfl rfl rfl rfl (by simp) rfl rfl rfl ?_
    refine TL.nil ?_
    refine TQ.then_n ?_
    refine TC.seq ?_
    refine TC.region ?_
    refine TL.fieldAddr rfl rfl ?_
    refine TL.load_own 1 0 rfl rfl rfl rfl rfl ?_
    refine TL.call (clone_pars (by omega) hvp) ⟨rfl, trivial⟩ rfl ?_
    rintro r62 _ H62 ⟨hr62, rfl, hle62⟩
    have hL := Le.trans hL hle62
    have h1 := rd.mono hle62 h1
    have h2 := rd.mono hle62 h2
    have hvp := rd.mono hle62 hvp
    have hst := RdL.mono hle62 hst
    have hvb := rd.mono hle62 hvb
    have hz_g14 := hz.mono hle62 hz_g14
    have hn := hAt.mono hle62 hn
    have hle0 := Le.trans hle0 hle62
    have hle7 := Le.trans hle7 hle62
    have hz_gl := hz.mono hle62 hz_gl
    have hz_gt := hz.mono hle62 hz_gt
    have hN := NmS.mono hle62 hN
    refine TL.fieldAddr rfl rfl ?_
    refine TL.store1 1 0 (c' := #[_, _, _, _, _, _, _, _, _, _]) (own' := _ :: [(_, .cells #[_, _, _, _, _, _, _, _, _, _] _ _)] :: _) rfl rfl rfl rfl hr62.one (by simp) rfl rfl rfl ?_
    refine TL.nil ?_
    refine TQ.then_n ?_
    refine TC.seq ?_
    refine TC.region ?_
    refine TL.move rfl rfl ?_
    refine TL.fieldAddr rfl rfl ?_
    refine TL.load_own 1 0 rfl rfl rfl rfl rfl ?_
    refine TL.call (ren_stmts _ f.body (Nat.le_refl _) (by omega) hf4 hN hvb) ⟨rfl, rfl, trivial⟩ rfl ?_
    rintro r67 _ H67 ⟨hr67, rfl, hle67⟩
    have hL := Le.trans hL hle67
    have h1 := rd.mono hle67 h1
    have h2 := rd.mono hle67 h2
    have hvp := rd.mono hle67 hvp
    have hst := RdL.mono hle67 hst
    have hvb := rd.mono hle67 hvb
    have hz_g14 := hz.mono hle67 hz_g14
    have hn := hAt.mono hle67 hn
    have hle0 := Le.trans hle0 hle67
    have hle7 := Le.trans hle7 hle67
    have hz_gl := hz.mono hle67 hz_gl
    have hz_gt := hz.mono hle67 hz_gt
    have hN := NmS.mono hle67 hN
    have hr62 := rd.mono hle67 hr62
    refine TL.fieldAddr rfl rfl ?_
    refine TL.store1 1 0 (c' := #[_, _, _, _, _, _, _, _, _, _]) (own' := _ :: [(_, .cells #[_, _, _, _, _, _, _, _, _, _] _ _)] :: _) rfl rfl rfl rfl hr67.one (by simp) rfl rfl rfl ?_
    refine TL.nil ?_
    refine TQ.then_n ?_
    refine TC.seq ?_
    refine TC.region ?_
    refine TL.load_ownA 1 0 [_, _, _, _, _, _, _, _, _, _] rfl rfl rfl ⟨rfl, rfl, rfl, rfl, rfl, rfl, rfl, rfl, rfl, rfl, trivial⟩ rfl rfl ?_
    refine TL.storeA 0 0 (c' := #[_, _, _, _, _, _, _, _, _, _]) (own' := [(_, .cells #[_, _, _, _, _, _, _, _, _, _] _ _)] :: _) rfl rfl rfl rfl rfl (fu_ones hr62 hst hr67) (by simp [putC]) (putC_all rfl) rfl rfl ?_
    refine TL.nil ?_
    refine TQ.then_n ?_
    refine TC.ret ?_
    refine TQ.retC 0 0 2 [_, _, _, _, _, _, _, _, _, _] rfl rfl rfl rfl ⟨rfl, rfl, rfl, rfl, rfl, rfl, rfl, rfl, rfl, rfl, trivial⟩ rfl rfl ?_
    rw [← hz0]
    exact ⟨_, rfl, fu_of (f := renF z f) hr62 hst hr67, rfl, hL⟩

end Go.Proofs.Ytapmmfabdmhdnaa.K
