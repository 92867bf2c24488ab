/-
  The program's renamer: exprs, stmts.
-/
import Derived.Test.YtapmmfabdmhdnaaRen1
import Derived.Test.YtapmmfabdmhdnaaHelp
set_option linter.unusedVariables false
set_option linter.unusedSimpArgs false
set_option maxHeartbeats 4000000
namespace Go.Proofs.Ytapmmfabdmhdnaa.K
open Go Go.RowKit Go.Proofs

theorem clone_pars {ps : List Par} (hp : ps.length ≤ 1000000) {w0 : World} {H : Hp} {own : List Seg} {v : Value} (hA : rd H (.s 5 (Par.ds ps)) v) :
    Fn Try.prog 43 [v] w0 H own (fun r own' H' => rd H' (.s 5 (Par.ds ps)) r ∧ own' = own ∧ Le H H') := by
  obtain ⟨A, c, news, rfl, hsrc, hn⟩ := hA.srcN (m := ps.length) (by omega) (Par.ds_len ps) (Par.one ps)
  refine Fn.enter Try.func43 rfl Try.ntmps43 rfl ?_
  have hL := Le.refl H
  refine TC.seq ?_
  refine TC.region ?_
  refine TL.assign rfl rfl ?_
  refine TL.nil ?_
  refine TQ.then_n ?_
  refine TC.seq ?_
  refine TC.seq ?_
  refine TC.region ?_
  refine TL.move rfl rfl ?_
  refine TL.eqlNilB rfl rfl rfl (fun hnil => ?_) (fun hnil => ?_)
  ·
   refine TL.nil ?_
   refine TQ.then_n ?_
   refine TC.cond_t rfl ?_
   refine TC.seq ?_
   refine TC.region ?_
   refine TL.assign rfl rfl ?_
   refine TL.nil ?_
   refine TQ.then_n ?_
   refine TC.ret ?_
   refine TQ.then_r ?_
   refine TQ.ret1 0 rfl rfl ?_
   first
     | exact ⟨rd.ofRow (by simpa using hrow') hz_g5 hn (by assumption), rfl, hL⟩
     | exact ⟨by rw [hA.nil_of hnil]; exact rd.nil _ _, rfl, hL⟩
  ·
   refine TL.nil ?_
   refine TQ.then_n ?_
   refine TC.cond_f rfl ?_
   refine TC.skip ?_
   refine TQ.then_n ?_
   refine TC.seq ?_
   refine TC.region ?_
   refine TL.litF (r := []) [] trivial rfl rfl rfl rfl ?_; intro g5
   refine TL.move rfl rfl ?_
   refine TL.append 0 rfl rfl rfl (Row.lit 89 5 0 _ #[] rfl (by omega)) (hsrc _ _) (by omega) (by omega) rfl ?_
   intro v' seg' hrow'
   refine TL.assign rfl rfl ?_
   refine TL.nil ?_
   refine TQ.then_n ?_
   refine TC.ret ?_
   refine TQ.freeze (fun H1 hle hz_g5 => ?_)
   have hL := Le.trans hL hle
   have hA := rd.mono hle hA
   refine TQ.ret1 0 rfl rfl ?_
   first
     | exact ⟨rd.ofRow (by simpa using hrow') hz_g5 hn (by assumption), rfl, hL⟩
     | exact ⟨by rw [hA.nil_of hnil]; exact rd.nil _ _, rfl, hL⟩
theorem ren_exprs {T : ByteArray → Option ByteArray} {L : ByteArray → Bool} (k : Nat) : ∀ (l : List Ex), Ex.sizes l ≤ k → k ≤ 1000000 → Ex.nbs maxLen l → ∀ {w0 : World} {H : Hp} {own : List Seg} {gn : Nat} {v : Value}, NmS H gn T L → rd H (.s 4 (Ex.ds l)) v →
    Fn Try.prog 68 [.pointer (some ⟨gn, 0, none⟩), v] w0 H own (fun r own' H' => rd H' (.s 4 (Ex.ds (renEs (toO T) L l))) r ∧ own' = own ∧ Le H H') := by
  induction k using Nat.strongRecOn with
  | _ k ih =>
  intro l hk hlim hnb w0 H own gn v hN hA
  have hlen := Ex.len_le l
  obtain ⟨A, c, rfl, hc1, hc2⟩ := exs_len hA
  have hN0 := hN
  obtain ⟨gt, gl, ot, ol, nt, nl, hn, hgt, hmt, hgl, hml⟩ := hN
  replace hN := hN0
  clear hN0
  refine Fn.enter Try.func68 rfl Try.ntmps68 rfl ?_
  have hL := Le.refl H
  refine TC.seq ?_
  refine TC.region ?_
  refine TL.assign rfl rfl ?_
  refine TL.nil ?_
  refine TQ.then_n ?_
  refine TC.seq ?_
  refine TC.region ?_
  refine TL.assign rfl rfl ?_
  refine TL.nil ?_
  refine TQ.then_n ?_
  refine TC.seq ?_
  refine TC.seq ?_
  refine TC.nilseg ?_
  refine TC.region ?_
  refine TL.move rfl rfl ?_
  refine TL.len_slice rfl rfl ?_
  refine TL.move rfl rfl ?_
  refine TL.nil ?_
  refine TQ.then_n ?_
  refine TC.block ?_
  refine TC.loop (fun z env' own' H' => ∃ (i : Nat) (u : Value) (xs : List Value) (seg : Seg), z = l.length - i ∧ i ≤ l.length ∧ Row 58 4 u i xs seg ∧ RdL H' (Ex.ds (renEs (toO T) L (l.take i))) xs ∧ env' = [(0, .pointer (some ⟨gn, 0, none⟩)), (5, u), (8, .slice A l.length c), (9, .int .i64 (l.length : Int)), (10, .int .i64 (i : Int))] ∧ own' = seg :: own ∧ Le H H') l.length [(0, _), (5, _), (8, _), (9, _), (10, _)] ⟨rfl, rfl, rfl, rfl, rfl, trivial⟩ ⟨0, _, [], [], by omega, by omega, Row.nil 58 4, by simp [renEs, Ex.ds, RdL], rfl, rfl, Le.refl _⟩ ?_
  rintro z _ _ H1 ⟨i, u, xs, seg, rfl, hi, hrow, hxs, rfl, rfl, hle0⟩
  have hL := Le.trans hL hle0
  have hA := rd.mono hle0 hA
  have hN := NmS.mono hle0 hN
  have hn := hAt.mono hle0 hn
  have hgt := Hp_mono hle0 hgt
  have hgl := Hp_mono hle0 hgl
  refine TC.seq ?_
  refine TC.region ?_
  refine TL.lssB rfl rfl rfl (fun hlt => ?_) (fun hlt => ?_)
  ·
   obtain ⟨x, hx⟩ : ∃ x, l[i]? = some x := ⟨_, List.getElem?_eq_getElem (by omega)⟩
   have hxs' := Ex.size_mem (List.mem_of_getElem? hx)
   have hxb := Ex.nb_mem hnb (List.mem_of_getElem? hx)
   obtain ⟨sk, snm, sn, sks⟩ := x
   simp only [Ex.size, Ex.nb] at hxs' hxb
   obtain ⟨hb0, hb1⟩ := hxb
   obtain ⟨b1, o1, vk, rfl, hp, hvk⟩ := exs_at hA hx
   refine TL.nil ?_
   refine TQ.then_n ?_
   refine TC.seq ?_
   refine TC.cond_t rfl ?_
   refine TC.skip ?_
   refine TQ.then_n ?_
   refine TC.seq ?_
   refine TC.block ?_
   refine TC.seq ?_
   refine TC.region ?_
   refine TL.indexAddr (i) rfl rfl rfl (by omega) rfl ?_
   refine TL.load_immA rfl (hp) rfl rfl ?_
   refine TL.new rfl ?_; intro g7
   refine TL.storeA 0 0 (c' := #[_, _, _, _]) (own' := [(_, .cells #[_, _, _, _] _ _)] :: _) rfl rfl rfl rfl rfl ⟨rfl, rfl, rfl, hvk.one, trivial⟩ (by simp) rfl rfl rfl ?_
   refine TL.nil ?_
   refine TQ.then_n ?_
   refine TC.cut (fun env' own' H' => ∃ nm2, nm2 = (if sk = 14 ∨ (sk = 2 ∧ L snm = false) then toO T snm else snm) ∧ env' = [(0, .pointer (some ⟨gn, 0, none⟩)), (5, u), (7, .pointer (some ⟨g7, 0, none⟩)), (8, .slice (some ⟨b1, o1, none⟩) l.length c), (9, .int .i64 (l.length : Int)), (10, .int .i64 (i : Int))] ∧ own' = [(g7, .cells #[.int .i64 sk, .string nm2, .int .u16 sn, vk] 58 (0, 0))] :: seg :: own ∧ Le H1 H') ?_ ?_
   ·
    have hcut := Le.refl H1
    refine TC.seq ?_
    rcases kind_cases sk with hk1 | hk1 | ⟨hk1, hk2⟩
    ·
     refine TC.drawQV 14  [(0, _), (5, _), (8, _), (9, _), (10, _), (7, _)] follows_mixed ⟨rfl, rfl, rfl, rfl, rfl, rfl, trivial⟩ ?_
     refine ChainV.q (some 14) [] (by
      intro H' X F hle
      intro hF
      refine TL.fieldAddr rfl rfl ?_
      refine TL.nil ?_
      exact TQ.one [] hF (Le.refl _) ⟨rfl, rfl⟩) ?_
     refine ChainV.q (some 15) [(0, 0)] (by
      intro H' X F hle
      have hL := Le.trans hL hle
      have hA := rd.mono hle hA
      have hN := NmS.mono hle hN
      have hn := hAt.mono hle hn
      have hgt := Hp_mono hle hgt
      have hgl := Hp_mono hle hgl
      have hle0 := Le.trans hle0 hle
      have hxs := RdL.mono hle hxs
      have hp := hAt.mono hle hp
      have hvk := rd.mono hle hvk
      have hcut := Le.trans hcut hle
      intro hF
      refine TL.load_own 0 0 rfl rfl rfl rfl rfl ?_
      refine TL.nil ?_
      exact TQ.one [] hF (Le.refl _) ⟨rfl, rfl⟩) ?_
     refine ChainV.q (some 16) [(1, 0)] (by
      intro H' X F hle
      have hL := Le.trans hL hle
      have hA := rd.mono hle hA
      have hN := NmS.mono hle hN
      have hn := hAt.mono hle hn
      have hgt := Hp_mono hle hgt
      have hgl := Hp_mono hle hgl
      have hle0 := Le.trans hle0 hle
      have hxs := RdL.mono hle hxs
      have hp := hAt.mono hle hp
      have hvk := rd.mono hle hvk
      have hcut := Le.trans hcut hle
      intro hF
      refine TL.eql rfl rfl rfl ?_
      rw [decide_eq_true hk1]
      refine TL.nil ?_
      exact TQ.one [] hF (Le.refl _) ⟨rfl, rfl⟩) ?_
     refine ChainV.q (some 17) [(2, 0)] (by
      intro H' X F hle
      intro hF
      refine TL.move rfl rfl ?_
      refine TL.nil ?_
      exact TQ.one [] hF (Le.refl _) ⟨rfl, rfl⟩) ?_
     refine ChainV.q (some 18) [(3, 0)] (by
      intro H' X F hle
      intro hF
      refine TL.gno rfl rfl rfl rfl ?_
      refine TL.nil ?_
      exact TQ.one [] hF (Le.refl _) ⟨rfl, rfl⟩) ?_
     refine ChainV.q (some 19) [(4, 0), (3, 1)] (by
      intro H' X F hle
      intro hF
      refine TL.gno rfl rfl rfl rfl ?_
      refine TL.nil ?_
      exact TQ.one [] hF (Le.refl _) ⟨rfl, rfl⟩) ?_
     refine ChainV.q (some 20) [(5, 0), (3, 2)] (by
      intro H' X F hle
      intro hF
      refine TL.gno rfl rfl rfl rfl ?_
      refine TL.nil ?_
      exact TQ.one [] hF (Le.refl _) ⟨rfl, rfl⟩) ?_
     refine ChainV.q (some 21) [(6, 0), (3, 3)] (by
      intro H' X F hle
      intro hF
      refine TL.gno rfl rfl rfl rfl ?_
      refine TL.nil ?_
      exact TQ.one [] hF (Le.refl _) ⟨rfl, rfl⟩) ?_
     refine ChainV.q (some 22) [(7, 0)] (by
      intro H' X F hle
      intro hF
      refine TL.gund rfl rfl rfl ?_
      refine TL.nil ?_
      exact TQ.one [] hF (Le.refl _) ⟨rfl, rfl⟩) ?_
     refine ChainV.q (some 23) [(8, 0), (7, 1)] (by
      intro H' X F hle
      intro hF
      refine TL.gund rfl rfl rfl ?_
      refine TL.nil ?_
      exact TQ.one [] hF (Le.refl _) ⟨rfl, rfl⟩) ?_
     refine ChainV.q (some 24) [(9, 0), (7, 2)] (by
      intro H' X F hle
      intro hF
      refine TL.gund rfl rfl rfl ?_
      refine TL.nil ?_
      exact TQ.one [] hF (Le.refl _) ⟨rfl, rfl⟩) ?_
     refine ChainV.q (some 25) [(10, 0), (7, 3)] (by
      intro H' X F hle
      intro hF
      refine TL.gund rfl rfl rfl ?_
      refine TL.nil ?_
      exact TQ.one [] hF (Le.refl _) ⟨rfl, rfl⟩) ?_
     refine ChainV.q (some 26) [(7, 4)] (by
      intro H' X F hle
      intro hF
      refine TL.gund rfl rfl rfl ?_
      refine TL.nil ?_
      exact TQ.one [] hF (Le.refl _) ⟨rfl, rfl⟩) ?_
     refine ChainV.q (some 27) [(12, 0), (7, 5)] (by
      intro H' X F hle
      intro hF
      refine TL.gund rfl rfl rfl ?_
      refine TL.nil ?_
      exact TQ.one [] hF (Le.refl _) ⟨rfl, rfl⟩) ?_
     refine ⟨by kernel_rfl, .refl _, ?_⟩
     ·
      intro H1 hle
      have hL := Le.trans hL hle
      have hA := rd.mono hle hA
      have hN := NmS.mono hle hN
      have hn := hAt.mono hle hn
      have hgt := Hp_mono hle hgt
      have hgl := Hp_mono hle hgl
      have hle0 := Le.trans hle0 hle
      have hxs := RdL.mono hle hxs
      have hp := hAt.mono hle hp
      have hvk := rd.mono hle hvk
      have hcut := Le.trans hcut hle
      refine TL.toOwn (own' := _ :: _ :: own) rfl ?_
      refine TL.wk (env' := [(0, _), (5, _), (8, _), (9, _), (10, _), (7, _), (17, _), (21, _), (25, _), (27, _)]) ⟨rfl, rfl, rfl, rfl, rfl, rfl, rfl, rfl, rfl, rfl, trivial⟩ ?_
      refine TL.gund rfl rfl rfl ?_
      refine TL.gund rfl rfl rfl ?_
      refine TL.gno rfl rfl rfl rfl ?_
      refine TL.pickT rfl rfl rfl rfl ?_
      refine TL.nil ?_
      refine TQ.then_n ?_
      refine TC.cond_t rfl ?_
      refine TC.region ?_
      refine TL.move rfl rfl ?_
      refine TL.fieldAddr rfl rfl ?_
      refine TL.load_own 0 0 rfl rfl rfl rfl rfl ?_
      refine TL.call (ren_name hb0 hN) ⟨rfl, rfl, trivial⟩ rfl ?_
      rintro _ _ H35 ⟨rfl, rfl, hle35⟩
      have hL := Le.trans hL hle35
      have hA := rd.mono hle35 hA
      have hN := NmS.mono hle35 hN
      have hn := hAt.mono hle35 hn
      have hgt := Hp_mono hle35 hgt
      have hgl := Hp_mono hle35 hgl
      have hle0 := Le.trans hle0 hle35
      have hxs := RdL.mono hle35 hxs
      have hp := hAt.mono hle35 hp
      have hvk := rd.mono hle35 hvk
      have hcut := Le.trans hcut hle35
      refine TL.fieldAddr rfl rfl ?_
      refine TL.store1 0 0 (c' := #[_, _, _, _]) (own' := [(_, .cells #[_, _, _, _] _ _)] :: _) rfl rfl rfl rfl rfl (by simp) rfl rfl rfl ?_
      refine TL.nil ?_
      refine TQ.toOwn (own' := _ :: _ :: own) rfl ?_
      refine TQ.mid [(0, _), (5, _), (7, _), (8, _), (9, _), (10, _)] ⟨rfl, rfl, rfl, rfl, rfl, rfl, trivial⟩ ⟨_, ?_, rfl, rfl, hcut⟩
      exact (if_pos (.inl hk1)).symm
    ·
     refine TC.drawQV 14  [(0, _), (5, _), (8, _), (9, _), (10, _), (7, _)] follows_mixed ⟨rfl, rfl, rfl, rfl, rfl, rfl, trivial⟩ ?_
     refine ChainV.q (some 14) [] (by
      intro H' X F hle
      intro hF
      refine TL.fieldAddr rfl rfl ?_
      refine TL.nil ?_
      exact TQ.one [] hF (Le.refl _) ⟨rfl, rfl⟩) ?_
     refine ChainV.q (some 15) [(0, 0)] (by
      intro H' X F hle
      have hL := Le.trans hL hle
      have hA := rd.mono hle hA
      have hN := NmS.mono hle hN
      have hn := hAt.mono hle hn
      have hgt := Hp_mono hle hgt
      have hgl := Hp_mono hle hgl
      have hle0 := Le.trans hle0 hle
      have hxs := RdL.mono hle hxs
      have hp := hAt.mono hle hp
      have hvk := rd.mono hle hvk
      have hcut := Le.trans hcut hle
      intro hF
      refine TL.load_own 0 0 rfl rfl rfl rfl rfl ?_
      refine TL.nil ?_
      exact TQ.one [] hF (Le.refl _) ⟨rfl, rfl⟩) ?_
     refine ChainV.q (some 16) [(1, 0)] (by
      intro H' X F hle
      have hL := Le.trans hL hle
      have hA := rd.mono hle hA
      have hN := NmS.mono hle hN
      have hn := hAt.mono hle hn
      have hgt := Hp_mono hle hgt
      have hgl := Hp_mono hle hgl
      have hle0 := Le.trans hle0 hle
      have hxs := RdL.mono hle hxs
      have hp := hAt.mono hle hp
      have hvk := rd.mono hle hvk
      have hcut := Le.trans hcut hle
      intro hF
      refine TL.eql rfl rfl rfl ?_
      rw [decide_eq_false (by omega)]
      refine TL.nil ?_
      exact TQ.one [] hF (Le.refl _) ⟨rfl, rfl⟩) ?_
     refine ChainV.q (some 17) [(2, 0)] (by
      intro H' X F hle
      intro hF
      refine TL.move rfl rfl ?_
      refine TL.nil ?_
      exact TQ.one [] hF (Le.refl _) ⟨rfl, rfl⟩) ?_
     refine ChainV.q (some 18) [(3, 0)] (by
      intro H' X F hle
      intro hF
      refine TL.gyes rfl rfl rfl ?_
      refine TL.fieldAddr rfl rfl ?_
      refine TL.nil ?_
      exact TQ.one [] hF (Le.refl _) ⟨rfl, rfl⟩) ?_
     refine ChainV.q (some 19) [(4, 0), (3, 1)] (by
      intro H' X F hle
      have hL := Le.trans hL hle
      have hA := rd.mono hle hA
      have hN := NmS.mono hle hN
      have hn := hAt.mono hle hn
      have hgt := Hp_mono hle hgt
      have hgl := Hp_mono hle hgl
      have hle0 := Le.trans hle0 hle
      have hxs := RdL.mono hle hxs
      have hp := hAt.mono hle hp
      have hvk := rd.mono hle hvk
      have hcut := Le.trans hcut hle
      intro hF
      refine TL.gyes rfl rfl rfl ?_
      refine TL.load_own 0 0 rfl rfl rfl rfl rfl ?_
      refine TL.nil ?_
      exact TQ.one [] hF (Le.refl _) ⟨rfl, rfl⟩) ?_
     refine ChainV.q (some 20) [(5, 0), (3, 2)] (by
      intro H' X F hle
      have hL := Le.trans hL hle
      have hA := rd.mono hle hA
      have hN := NmS.mono hle hN
      have hn := hAt.mono hle hn
      have hgt := Hp_mono hle hgt
      have hgl := Hp_mono hle hgl
      have hle0 := Le.trans hle0 hle
      have hxs := RdL.mono hle hxs
      have hp := hAt.mono hle hp
      have hvk := rd.mono hle hvk
      have hcut := Le.trans hcut hle
      intro hF
      refine TL.gyes rfl rfl rfl ?_
      refine TL.eql rfl rfl rfl ?_
      rw [decide_eq_true hk1]
      refine TL.nil ?_
      exact TQ.one [] hF (Le.refl _) ⟨rfl, rfl⟩) ?_
     refine ChainV.q (some 21) [(6, 0), (3, 3)] (by
      intro H' X F hle
      intro hF
      refine TL.gyes rfl rfl rfl ?_
      refine TL.move rfl rfl ?_
      refine TL.nil ?_
      exact TQ.one [] hF (Le.refl _) ⟨rfl, rfl⟩) ?_
     refine ChainV.q (some 22) [(7, 0)] (by
      intro H' X F hle
      intro hF
      refine TL.gyes rfl rfl rfl ?_
      refine TL.move rfl rfl ?_
      refine TL.nil ?_
      exact TQ.one [] hF (Le.refl _) ⟨rfl, rfl⟩) ?_
     refine ChainV.q (some 23) [(8, 0), (7, 1)] (by
      intro H' X F hle
      intro hF
      refine TL.gyes rfl rfl rfl ?_
      refine TL.nilCheck rfl rfl ?_
      refine TL.nil ?_
      exact TQ.one [] hF (Le.refl _) ⟨rfl, rfl⟩) ?_
     refine ChainV.q (some 24) [(9, 0), (7, 2)] (by
      intro H' X F hle
      intro hF
      refine TL.gyes rfl rfl rfl ?_
      refine TL.fieldAddr rfl rfl ?_
      refine TL.nil ?_
      exact TQ.one [] hF (Le.refl _) ⟨rfl, rfl⟩) ?_
     refine ChainV.q (some 25) [(10, 0), (7, 3)] (by
      intro H' X F hle
      have hL := Le.trans hL hle
      have hA := rd.mono hle hA
      have hN := NmS.mono hle hN
      have hn := hAt.mono hle hn
      have hgt := Hp_mono hle hgt
      have hgl := Hp_mono hle hgl
      have hle0 := Le.trans hle0 hle
      have hxs := RdL.mono hle hxs
      have hp := hAt.mono hle hp
      have hvk := rd.mono hle hvk
      have hcut := Le.trans hcut hle
      intro hF
      refine TL.gyes rfl rfl rfl ?_
      refine TL.load_imm rfl (hn.2.1) rfl ?_
      refine TL.nil ?_
      exact TQ.one [] hF (Le.refl _) ⟨rfl, rfl⟩) ?_
     refine ChainV.q (some 26) [(7, 4)] (by
      intro H' X F hle
      intro hF
      refine TL.gyes rfl rfl rfl ?_
      refine TL.fieldAddr rfl rfl ?_
      refine TL.nil ?_
      exact TQ.one [] hF (Le.refl _) ⟨rfl, rfl⟩) ?_
     refine ChainV.q (some 27) [(12, 0), (7, 5)] (by
      intro H' X F hle
      have hL := Le.trans hL hle
      have hA := rd.mono hle hA
      have hN := NmS.mono hle hN
      have hn := hAt.mono hle hn
      have hgt := Hp_mono hle hgt
      have hgl := Hp_mono hle hgl
      have hle0 := Le.trans hle0 hle
      have hxs := RdL.mono hle hxs
      have hp := hAt.mono hle hp
      have hvk := rd.mono hle hvk
      have hcut := Le.trans hcut hle
      intro hF
      refine TL.gyes rfl rfl rfl ?_
      refine TL.load_own 0 0 rfl rfl rfl rfl rfl ?_
      refine TL.nil ?_
      exact TQ.one [] hF (Le.refl _) ⟨rfl, rfl⟩) ?_
     refine ⟨by kernel_rfl, .refl _, ?_⟩
     ·
      intro H2 hle
      have hL := Le.trans hL hle
      have hA := rd.mono hle hA
      have hN := NmS.mono hle hN
      have hn := hAt.mono hle hn
      have hgt := Hp_mono hle hgt
      have hgl := Hp_mono hle hgl
      have hle0 := Le.trans hle0 hle
      have hxs := RdL.mono hle hxs
      have hp := hAt.mono hle hp
      have hvk := rd.mono hle hvk
      have hcut := Le.trans hcut hle
      refine TL.toOwn (own' := _ :: _ :: own) rfl ?_
      refine TL.wk (env' := [(0, _), (5, _), (8, _), (9, _), (10, _), (7, _), (17, _), (21, _), (25, _), (27, _)]) ⟨rfl, rfl, rfl, rfl, rfl, rfl, rfl, rfl, rfl, rfl, trivial⟩ ?_
      refine TL.gyes rfl rfl rfl ?_
      refine TL.look rfl rfl hgl hml hb0 (plain_bool_inj Try.underlying4) zero4 rfl ?_
      simp only [Bool.false_eq_true, if_false, mL_get]
      refine TL.gyes rfl rfl rfl ?_
      refine TL.not rfl rfl ?_
      refine TL.gyes rfl rfl rfl ?_
      refine TL.pickT rfl rfl rfl rfl ?_
      refine TL.pickF rfl rfl rfl rfl ?_
      refine TL.nil ?_
      refine TQ.then_n ?_
      refine TC.cond rfl (fun hc => ?_) (fun hc => ?_)
      ·
       refine TC.region ?_
       refine TL.move rfl rfl ?_
       refine TL.fieldAddr rfl rfl ?_
       refine TL.load_own 0 0 rfl rfl rfl rfl rfl ?_
       refine TL.call (ren_name hb0 hN) ⟨rfl, rfl, trivial⟩ rfl ?_
       rintro _ _ H35 ⟨rfl, rfl, hle35⟩
       have hL := Le.trans hL hle35
       have hA := rd.mono hle35 hA
       have hN := NmS.mono hle35 hN
       have hn := hAt.mono hle35 hn
       have hgt := Hp_mono hle35 hgt
       have hgl := Hp_mono hle35 hgl
       have hle0 := Le.trans hle0 hle35
       have hxs := RdL.mono hle35 hxs
       have hp := hAt.mono hle35 hp
       have hvk := rd.mono hle35 hvk
       have hcut := Le.trans hcut hle35
       refine TL.fieldAddr rfl rfl ?_
       refine TL.store1 0 0 (c' := #[_, _, _, _]) (own' := [(_, .cells #[_, _, _, _] _ _)] :: _) rfl rfl rfl rfl rfl (by simp) rfl rfl rfl ?_
       refine TL.nil ?_
       refine TQ.toOwn (own' := _ :: _ :: own) rfl ?_
       refine TQ.mid [(0, _), (5, _), (7, _), (8, _), (9, _), (10, _)] ⟨rfl, rfl, rfl, rfl, rfl, rfl, trivial⟩ ⟨_, ?_, rfl, rfl, hcut⟩
       first
         | exact (if_neg (by rintro (h | ⟨_, h⟩); omega; simp [h] at hc)).symm
         | exact (if_pos (.inr ⟨hk1, by simpa using hc⟩)).symm
      ·
       refine TC.skip ?_
       refine TQ.toOwn (own' := _ :: _ :: own) rfl ?_
       refine TQ.mid [(0, _), (5, _), (7, _), (8, _), (9, _), (10, _)] ⟨rfl, rfl, rfl, rfl, rfl, rfl, trivial⟩ ⟨_, ?_, rfl, rfl, hcut⟩
       first
         | exact (if_neg (by rintro (h | ⟨_, h⟩); omega; simp [h] at hc)).symm
         | exact (if_pos (.inr ⟨hk1, by simpa using hc⟩)).symm
    ·
     refine TC.drawQV 14  [(0, _), (5, _), (8, _), (9, _), (10, _), (7, _)] follows_mixed ⟨rfl, rfl, rfl, rfl, rfl, rfl, trivial⟩ ?_
     refine ChainV.q (some 14) [] (by
      intro H' X F hle
      intro hF
      refine TL.fieldAddr rfl rfl ?_
      refine TL.nil ?_
      exact TQ.one [] hF (Le.refl _) ⟨rfl, rfl⟩) ?_
     refine ChainV.q (some 15) [(0, 0)] (by
      intro H' X F hle
      have hL := Le.trans hL hle
      have hA := rd.mono hle hA
      have hN := NmS.mono hle hN
      have hn := hAt.mono hle hn
      have hgt := Hp_mono hle hgt
      have hgl := Hp_mono hle hgl
      have hle0 := Le.trans hle0 hle
      have hxs := RdL.mono hle hxs
      have hp := hAt.mono hle hp
      have hvk := rd.mono hle hvk
      have hcut := Le.trans hcut hle
      intro hF
      refine TL.load_own 0 0 rfl rfl rfl rfl rfl ?_
      refine TL.nil ?_
      exact TQ.one [] hF (Le.refl _) ⟨rfl, rfl⟩) ?_
     refine ChainV.q (some 16) [(1, 0)] (by
      intro H' X F hle
      have hL := Le.trans hL hle
      have hA := rd.mono hle hA
      have hN := NmS.mono hle hN
      have hn := hAt.mono hle hn
      have hgt := Hp_mono hle hgt
      have hgl := Hp_mono hle hgl
      have hle0 := Le.trans hle0 hle
      have hxs := RdL.mono hle hxs
      have hp := hAt.mono hle hp
      have hvk := rd.mono hle hvk
      have hcut := Le.trans hcut hle
      intro hF
      refine TL.eql rfl rfl rfl ?_
      rw [decide_eq_false hk1]
      refine TL.nil ?_
      exact TQ.one [] hF (Le.refl _) ⟨rfl, rfl⟩) ?_
     refine ChainV.q (some 17) [(2, 0)] (by
      intro H' X F hle
      intro hF
      refine TL.move rfl rfl ?_
      refine TL.nil ?_
      exact TQ.one [] hF (Le.refl _) ⟨rfl, rfl⟩) ?_
     refine ChainV.q (some 18) [(3, 0)] (by
      intro H' X F hle
      intro hF
      refine TL.gyes rfl rfl rfl ?_
      refine TL.fieldAddr rfl rfl ?_
      refine TL.nil ?_
      exact TQ.one [] hF (Le.refl _) ⟨rfl, rfl⟩) ?_
     refine ChainV.q (some 19) [(4, 0), (3, 1)] (by
      intro H' X F hle
      have hL := Le.trans hL hle
      have hA := rd.mono hle hA
      have hN := NmS.mono hle hN
      have hn := hAt.mono hle hn
      have hgt := Hp_mono hle hgt
      have hgl := Hp_mono hle hgl
      have hle0 := Le.trans hle0 hle
      have hxs := RdL.mono hle hxs
      have hp := hAt.mono hle hp
      have hvk := rd.mono hle hvk
      have hcut := Le.trans hcut hle
      intro hF
      refine TL.gyes rfl rfl rfl ?_
      refine TL.load_own 0 0 rfl rfl rfl rfl rfl ?_
      refine TL.nil ?_
      exact TQ.one [] hF (Le.refl _) ⟨rfl, rfl⟩) ?_
     refine ChainV.q (some 20) [(5, 0), (3, 2)] (by
      intro H' X F hle
      have hL := Le.trans hL hle
      have hA := rd.mono hle hA
      have hN := NmS.mono hle hN
      have hn := hAt.mono hle hn
      have hgt := Hp_mono hle hgt
      have hgl := Hp_mono hle hgl
      have hle0 := Le.trans hle0 hle
      have hxs := RdL.mono hle hxs
      have hp := hAt.mono hle hp
      have hvk := rd.mono hle hvk
      have hcut := Le.trans hcut hle
      intro hF
      refine TL.gyes rfl rfl rfl ?_
      refine TL.eql rfl rfl rfl ?_
      rw [decide_eq_false hk2]
      refine TL.nil ?_
      exact TQ.one [] hF (Le.refl _) ⟨rfl, rfl⟩) ?_
     refine ChainV.q (some 21) [(6, 0), (3, 3)] (by
      intro H' X F hle
      intro hF
      refine TL.gyes rfl rfl rfl ?_
      refine TL.move rfl rfl ?_
      refine TL.nil ?_
      exact TQ.one [] hF (Le.refl _) ⟨rfl, rfl⟩) ?_
     refine ChainV.q (some 22) [(7, 0)] (by
      intro H' X F hle
      intro hF
      refine TL.gno rfl rfl rfl rfl ?_
      refine TL.nil ?_
      exact TQ.one [] hF (Le.refl _) ⟨rfl, rfl⟩) ?_
     refine ChainV.q (some 23) [(8, 0), (7, 1)] (by
      intro H' X F hle
      intro hF
      refine TL.gno rfl rfl rfl rfl ?_
      refine TL.nil ?_
      exact TQ.one [] hF (Le.refl _) ⟨rfl, rfl⟩) ?_
     refine ChainV.q (some 24) [(9, 0), (7, 2)] (by
      intro H' X F hle
      intro hF
      refine TL.gno rfl rfl rfl rfl ?_
      refine TL.nil ?_
      exact TQ.one [] hF (Le.refl _) ⟨rfl, rfl⟩) ?_
     refine ChainV.q (some 25) [(10, 0), (7, 3)] (by
      intro H' X F hle
      intro hF
      refine TL.gno rfl rfl rfl rfl ?_
      refine TL.nil ?_
      exact TQ.one [] hF (Le.refl _) ⟨rfl, rfl⟩) ?_
     refine ChainV.q (some 26) [(7, 4)] (by
      intro H' X F hle
      intro hF
      refine TL.gno rfl rfl rfl rfl ?_
      refine TL.nil ?_
      exact TQ.one [] hF (Le.refl _) ⟨rfl, rfl⟩) ?_
     refine ChainV.q (some 27) [(12, 0), (7, 5)] (by
      intro H' X F hle
      intro hF
      refine TL.gno rfl rfl rfl rfl ?_
      refine TL.nil ?_
      exact TQ.one [] hF (Le.refl _) ⟨rfl, rfl⟩) ?_
     refine ⟨by kernel_rfl, .refl _, ?_⟩
     ·
      intro H4 hle
      have hL := Le.trans hL hle
      have hA := rd.mono hle hA
      have hN := NmS.mono hle hN
      have hn := hAt.mono hle hn
      have hgt := Hp_mono hle hgt
      have hgl := Hp_mono hle hgl
      have hle0 := Le.trans hle0 hle
      have hxs := RdL.mono hle hxs
      have hp := hAt.mono hle hp
      have hvk := rd.mono hle hvk
      have hcut := Le.trans hcut hle
      refine TL.toOwn (own' := _ :: _ :: own) rfl ?_
      refine TL.wk (env' := [(0, _), (5, _), (8, _), (9, _), (10, _), (7, _), (17, _), (21, _), (25, _), (27, _)]) ⟨rfl, rfl, rfl, rfl, rfl, rfl, rfl, rfl, rfl, rfl, trivial⟩ ?_
      refine TL.gno rfl rfl rfl rfl ?_
      refine TL.gno rfl rfl rfl rfl ?_
      refine TL.gyes rfl rfl rfl ?_
      refine TL.pickF rfl rfl rfl rfl ?_
      refine TL.pickF rfl rfl rfl rfl ?_
      refine TL.nil ?_
      refine TQ.then_n ?_
      refine TC.cond_f rfl ?_
      refine TC.skip ?_
      refine TQ.toOwn (own' := _ :: _ :: own) rfl ?_
      refine TQ.mid [(0, _), (5, _), (7, _), (8, _), (9, _), (10, _)] ⟨rfl, rfl, rfl, rfl, rfl, rfl, trivial⟩ ⟨_, ?_, rfl, rfl, hcut⟩
      exact (if_neg (fun h => h.elim hk1 (fun h => hk2 h.1))).symm
   rintro _ _ H5 ⟨nm2, hnm2, rfl, rfl, hle5⟩
   have hL := Le.trans hL hle5
   have hA := rd.mono hle5 hA
   have hN := NmS.mono hle5 hN
   have hn := hAt.mono hle5 hn
   have hgt := Hp_mono hle5 hgt
   have hgl := Hp_mono hle5 hgl
   have hle0 := Le.trans hle0 hle5
   have hxs := RdL.mono hle5 hxs
   have hp := hAt.mono hle5 hp
   have hvk := rd.mono hle5 hvk
   refine TC.seq ?_
   refine TC.region ?_
   refine TL.move rfl rfl ?_
   refine TL.fieldAddr rfl rfl ?_
   refine TL.load_own 0 0 rfl rfl rfl rfl rfl ?_
   refine TL.call (ih (k - 1) (by omega) sks (by omega) (by omega) hb1 hN hvk) ⟨rfl, rfl, trivial⟩ rfl ?_
   rintro r40 _ H40 ⟨hr40, rfl, hle40⟩
   have hL := Le.trans hL hle40
   have hA := rd.mono hle40 hA
   have hN := NmS.mono hle40 hN
   have hn := hAt.mono hle40 hn
   have hgt := Hp_mono hle40 hgt
   have hgl := Hp_mono hle40 hgl
   have hle0 := Le.trans hle0 hle40
   have hxs := RdL.mono hle40 hxs
   have hp := hAt.mono hle40 hp
   have hvk := rd.mono hle40 hvk
   refine TL.fieldAddr rfl rfl ?_
   refine TL.store1 0 0 (c' := #[_, _, _, _]) (own' := [(_, .cells #[_, _, _, _] _ _)] :: _) rfl rfl rfl rfl hr40.one (by simp) rfl rfl rfl ?_
   refine TL.nil ?_
   refine TQ.then_n ?_
   refine TC.region ?_
   refine TL.move rfl rfl ?_
   refine TL.load_ownA 0 0 [_, _, _, _] rfl rfl rfl ⟨rfl, rfl, rfl, rfl, trivial⟩ rfl rfl ?_
   refine TL.litF (r := [_, _, _, _]) [(0, [_, _, _, _])] ⟨rfl, ⟨_, rfl, rfl⟩, trivial⟩ rfl rfl rfl rfl ?_; intro g44
   refine TL.append 2 rfl rfl rfl hrow (Src.ofOwn 0 0 rfl rfl rfl (Ones.all (show Ones [.int .i64 sk, .string nm2, .int .u16 sn, r40] from ⟨rfl, rfl, rfl, hr40.one, trivial⟩)) ⟨rfl, rfl, rfl, rfl, trivial⟩) (by omega) (by omega) rfl ?_
   intro v' seg' hrow'
   refine TL.assign rfl rfl ?_
   refine TL.nil ?_
   refine TQ.in_n ?_
   refine TQ.then_n ?_
   refine TC.region ?_
   refine TL.add rfl rfl rfl ⟨by omega, by omega⟩ ?_
   refine TL.move rfl rfl ?_
   refine TL.nil ?_
   refine TQ.sel 3 [2] rfl (fun o ho => ?_)
   simp only [K.sel, List.map_cons, List.map_nil, List.getD_cons_zero, List.getD_cons_succ, List.drop_succ_cons, List.drop_zero, List.cons_append, List.nil_append, List.set_cons_zero, List.set_cons_succ] at ho; subst ho
   refine TQ.next (l.length - (i + 1)) [(0, _), (5, _), (8, _), (9, _), (10, _)] (by omega) ⟨rfl, rfl, rfl, rfl, rfl, trivial⟩ ⟨i + 1, v', _, seg', rfl, by omega, hrow', ?_, by simp, rfl, hle0⟩
   rw [List.take_add_one, hx, renEs_map, List.map_append, ← renEs_map]
   refine exs_snoc hxs ?_
   rw [renE, ← hnm2]
   exact ex_mk hr40
  ·
   refine TL.nil ?_
   refine TQ.then_n ?_
   refine TC.seq ?_
   refine TC.cond_f rfl ?_
   refine TC.exit ?_
   refine TQ.then_e ?_
   refine TQ.then_e ?_
   refine TQ.in_e ?_
   refine TQ.then_n ?_
   refine TC.seq ?_
   refine TC.region ?_
   refine TL.move rfl rfl ?_
   refine TL.assign rfl rfl ?_
   refine TL.nil ?_
   refine TQ.then_n ?_
   refine TC.ret ?_
   refine TQ.freeze (fun H5 hle hz_row => ?_)
   have hL := Le.trans hL hle
   have hA := rd.mono hle hA
   have hN := NmS.mono hle hN
   have hn := hAt.mono hle hn
   have hgt := Hp_mono hle hgt
   have hgl := Hp_mono hle hgl
   have hle0 := Le.trans hle0 hle
   have hxs := RdL.mono hle hxs
   refine TQ.ret1 0 rfl rfl ?_
   rw [List.take_of_length_le (by omega)] at hxs
   exact ⟨rd.ofRow hrow hz_row hxs (Le.refl _), rfl, hL⟩
theorem ren_stmts {T : ByteArray → Option ByteArray} {L : ByteArray → Bool} (k : Nat) : ∀ (l : List Sm), Sm.sizes l ≤ k → k ≤ 1000000 → Sm.nbs maxLen l → ∀ {w0 : World} {H : Hp} {own : List Seg} {gn : Nat} {v : Value}, NmS H gn T L → rd H (.s 11 (Sm.ds l)) v →
    Fn Try.prog 44 [.pointer (some ⟨gn, 0, none⟩), v] w0 H own (fun r own' H' => rd H' (.s 11 (Sm.ds (renSs (toO T) L l))) r ∧ own' = own ∧ Le H H') := by
  induction k using Nat.strongRecOn with
  | _ k ih =>
  intro l hk hlim hnb w0 H own gn v hN hA
  have hlen := Sm.len_le l
  obtain ⟨A, c, rfl, hc1, hc2⟩ := sms_len hA
  refine Fn.enter Try.func44 rfl Try.ntmps44 rfl ?_
  have hL := Le.refl H
  refine TC.seq ?_
  refine TC.region ?_
  refine TL.assign rfl rfl ?_
  refine TL.nil ?_
  refine TQ.then_n ?_
  refine TC.seq ?_
  refine TC.region ?_
  refine TL.assign rfl rfl ?_
  refine TL.nil ?_
  refine TQ.then_n ?_
  refine TC.seq ?_
  refine TC.seq ?_
  refine TC.nilseg ?_
  refine TC.region ?_
  refine TL.move rfl rfl ?_
  refine TL.len_slice rfl rfl ?_
  refine TL.move rfl rfl ?_
  refine TL.nil ?_
  refine TQ.then_n ?_
  refine TC.block ?_
  refine TC.loop (fun z env' own' H' => ∃ (i : Nat) (u : Value) (xs : List Value) (seg : Seg), z = l.length - i ∧ i ≤ l.length ∧ Row 61 11 u i xs seg ∧ RdL H' (Sm.ds (renSs (toO T) L (l.take i))) xs ∧ env' = [(0, .pointer (some ⟨gn, 0, none⟩)), (5, u), (11, .slice A l.length c), (12, .int .i64 (l.length : Int)), (13, .int .i64 (i : Int))] ∧ own' = seg :: own ∧ Le H H') l.length [(0, _), (5, _), (11, _), (12, _), (13, _)] ⟨rfl, rfl, rfl, rfl, rfl, trivial⟩ ⟨0, _, [], [], by omega, by omega, Row.nil 61 11, by simp [renSs, Sm.ds, RdL], rfl, rfl, Le.refl _⟩ ?_
  rintro z _ _ H1 ⟨i, u, xs, seg, rfl, hi, hrow, hxs, rfl, rfl, hle0⟩
  have hL := Le.trans hL hle0
  have hA := rd.mono hle0 hA
  have hN := NmS.mono hle0 hN
  refine TC.seq ?_
  refine TC.region ?_
  refine TL.lssB rfl rfl rfl (fun hlt => ?_) (fun hlt => ?_)
  ·
   obtain ⟨x, hx⟩ : ∃ x, l[i]? = some x := ⟨_, List.getElem?_eq_getElem (by omega)⟩
   have hxs' := Sm.size_mem (List.mem_of_getElem? hx)
   have hxb := Sm.nb_mem hnb (List.mem_of_getElem? hx)
   obtain ⟨sk, snm, st, sn, sxs, sb, sel, scs⟩ := x
   simp only [Sm.size, Sm.nb] at hxs' hxb
   obtain ⟨hb0, hb1, hb2, hb3, hb4⟩ := hxb
   obtain ⟨b1, o1, t0, t1, t2, t3, vx, vb, ve, vc, rfl, hp, hst, hvx, hvb, hve, hvc⟩ := sms_at hA hx
   have hcl := Sm.clen_le scs
   refine TL.nil ?_
   refine TQ.then_n ?_
   refine TC.seq ?_
   refine TC.cond_t rfl ?_
   refine TC.skip ?_
   refine TQ.then_n ?_
   refine TC.seq ?_
   refine TC.block ?_
   refine TC.seq ?_
   refine TC.region ?_
   refine TL.indexAddr (i) rfl rfl rfl (by omega) rfl ?_
   refine TL.load_immA rfl (hp) rfl rfl ?_
   refine TL.new rfl ?_; intro g7
   refine TL.storeA 0 0 (c' := #[_, _, _, _, _, _, _, _, _, _, _]) (own' := [(_, .cells #[_, _, _, _, _, _, _, _, _, _, _] _ _)] :: _) rfl rfl rfl rfl rfl (sm_ones hst hvx hvb hve hvc) (by simp [putC]) (putC_all rfl) rfl rfl ?_
   refine TL.nil ?_
   refine TQ.then_n ?_
   refine TC.seq ?_
   refine TC.drawQV 13  [(0, _), (5, _), (11, _), (12, _), (13, _), (7, _)] follows_mixed ⟨rfl, rfl, rfl, rfl, rfl, rfl, trivial⟩ ?_
   refine ChainV.q (some 17) [] (by
    intro H' X F hle
    intro hF
    refine TL.move rfl rfl ?_
    refine TL.nil ?_
    exact TQ.one [] hF (Le.refl _) ⟨rfl, rfl⟩) ?_
   refine ChainV.q (some 18) [] (by
    intro H' X F hle
    intro hF
    refine TL.fieldAddr rfl rfl ?_
    refine TL.nil ?_
    exact TQ.one [] hF (Le.refl _) ⟨rfl, rfl⟩) ?_
   refine ChainV.q (some 19) [(1, 0)] (by
    intro H' X F hle
    have hL := Le.trans hL hle
    have hA := rd.mono hle hA
    have hN := NmS.mono hle hN
    have hle0 := Le.trans hle0 hle
    have hxs := RdL.mono hle hxs
    have hp := hAt.mono hle hp
    have hst := RdL.mono hle hst
    have hvx := rd.mono hle hvx
    have hvb := rd.mono hle hvb
    have hve := rd.mono hle hve
    have hvc := rd.mono hle hvc
    intro hF
    refine TL.load_own 0 0 rfl rfl rfl rfl rfl ?_
    refine TL.nil ?_
    exact TQ.one [] hF (Le.refl _) ⟨rfl, rfl⟩) ?_
   refine ChainV.r (some 20) [(0, 2), (2, 0)] ([]) (fun _ => fun u s H => rd H (.s 4 (Ex.ds (renEs (toO T) L sxs))) u ∧ s = []) (by
    intro H' X F hle
    have hL := Le.trans hL hle
    have hA := rd.mono hle hA
    have hN := NmS.mono hle hN
    have hle0 := Le.trans hle0 hle
    have hxs := RdL.mono hle hxs
    have hp := hAt.mono hle hp
    have hst := RdL.mono hle hst
    have hvx := rd.mono hle hvx
    have hvb := rd.mono hle hvb
    have hve := rd.mono hle hve
    have hvc := rd.mono hle hvc
    intro hF
    refine TL.call (ren_exprs _ sxs (Nat.le_refl _) (by omega) hb1 hN hvx) ⟨rfl, rfl, trivial⟩ rfl ?_
    rintro r20 _ H20 ⟨hr20, rfl, hle20⟩
    refine TL.nil ?_
    exact TQ.one [] hF hle20 ⟨hr20, rfl⟩) ?_
   refine ChainV.q (some 21) [] (by
    intro H' X F hle
    intro hF
    refine TL.move rfl rfl ?_
    refine TL.nil ?_
    exact TQ.one [] hF (Le.refl _) ⟨rfl, rfl⟩) ?_
   refine ChainV.q (some 22) [] (by
    intro H' X F hle
    intro hF
    refine TL.fieldAddr rfl rfl ?_
    refine TL.nil ?_
    exact TQ.one [] hF (Le.refl _) ⟨rfl, rfl⟩) ?_
   refine ChainV.q (some 23) [(5, 0)] (by
    intro H' X F hle
    have hL := Le.trans hL hle
    have hA := rd.mono hle hA
    have hN := NmS.mono hle hN
    have hle0 := Le.trans hle0 hle
    have hxs := RdL.mono hle hxs
    have hp := hAt.mono hle hp
    have hst := RdL.mono hle hst
    have hvx := rd.mono hle hvx
    have hvb := rd.mono hle hvb
    have hve := rd.mono hle hve
    have hvc := rd.mono hle hvc
    intro hF
    refine TL.load_own 0 0 rfl rfl rfl rfl rfl ?_
    refine TL.nil ?_
    exact TQ.one [] hF (Le.refl _) ⟨rfl, rfl⟩) ?_
   refine ChainV.r (some 24) [(4, 2), (6, 0)] ([]) (fun _ => fun u s H => rd H (.s 11 (Sm.ds (renSs (toO T) L sb))) u ∧ s = []) (by
    intro H' X F hle
    have hL := Le.trans hL hle
    have hA := rd.mono hle hA
    have hN := NmS.mono hle hN
    have hle0 := Le.trans hle0 hle
    have hxs := RdL.mono hle hxs
    have hp := hAt.mono hle hp
    have hst := RdL.mono hle hst
    have hvx := rd.mono hle hvx
    have hvb := rd.mono hle hvb
    have hve := rd.mono hle hve
    have hvc := rd.mono hle hvc
    intro hF
    refine TL.call (ih (k - 1) (by omega) sb (by omega) (by omega) hb2 hN hvb) ⟨rfl, rfl, trivial⟩ rfl ?_
    rintro r24 _ H24 ⟨hr24, rfl, hle24⟩
    refine TL.nil ?_
    exact TQ.one [] hF hle24 ⟨hr24, rfl⟩) ?_
   refine ChainV.q (some 25) [] (by
    intro H' X F hle
    intro hF
    refine TL.move rfl rfl ?_
    refine TL.nil ?_
    exact TQ.one [] hF (Le.refl _) ⟨rfl, rfl⟩) ?_
   refine ChainV.q (some 26) [] (by
    intro H' X F hle
    intro hF
    refine TL.fieldAddr rfl rfl ?_
    refine TL.nil ?_
    exact TQ.one [] hF (Le.refl _) ⟨rfl, rfl⟩) ?_
   refine ChainV.q (some 27) [(9, 0)] (by
    intro H' X F hle
    have hL := Le.trans hL hle
    have hA := rd.mono hle hA
    have hN := NmS.mono hle hN
    have hle0 := Le.trans hle0 hle
    have hxs := RdL.mono hle hxs
    have hp := hAt.mono hle hp
    have hst := RdL.mono hle hst
    have hvx := rd.mono hle hvx
    have hvb := rd.mono hle hvb
    have hve := rd.mono hle hve
    have hvc := rd.mono hle hvc
    intro hF
    refine TL.load_own 0 0 rfl rfl rfl rfl rfl ?_
    refine TL.nil ?_
    exact TQ.one [] hF (Le.refl _) ⟨rfl, rfl⟩) ?_
   refine ChainV.r (some 28) [(8, 2), (10, 0)] ([]) (fun _ => fun u s H => rd H (.s 11 (Sm.ds (renSs (toO T) L sel))) u ∧ s = []) (by
    intro H' X F hle
    have hL := Le.trans hL hle
    have hA := rd.mono hle hA
    have hN := NmS.mono hle hN
    have hle0 := Le.trans hle0 hle
    have hxs := RdL.mono hle hxs
    have hp := hAt.mono hle hp
    have hst := RdL.mono hle hst
    have hvx := rd.mono hle hvx
    have hvb := rd.mono hle hvb
    have hve := rd.mono hle hve
    have hvc := rd.mono hle hvc
    intro hF
    refine TL.call (ih (k - 1) (by omega) sel (by omega) (by omega) hb3 hN hve) ⟨rfl, rfl, trivial⟩ rfl ?_
    rintro r28 _ H28 ⟨hr28, rfl, hle28⟩
    refine TL.nil ?_
    exact TQ.one [] hF hle28 ⟨hr28, rfl⟩) ?_
   refine ChainV.q (some 29) [] (by
    intro H' X F hle
    intro hF
    refine TL.fieldAddr rfl rfl ?_
    refine TL.nil ?_
    exact TQ.one [] hF (Le.refl _) ⟨rfl, rfl⟩) ?_
   refine ⟨by kernel_rfl, .refl _, ?_⟩
   ·
    intro H1 hle
    rintro r20 _ H20 hle20 ⟨hr20, rfl⟩
    replace hr20 := rd.mono hle20 hr20
    rintro r24 _ H24 hle24 ⟨hr24, rfl⟩
    replace hr24 := rd.mono hle24 hr24
    rintro r28 _ H28 hle28 ⟨hr28, rfl⟩
    replace hr28 := rd.mono hle28 hr28
    have hL := Le.trans hL hle
    have hA := rd.mono hle hA
    have hN := NmS.mono hle hN
    have hle0 := Le.trans hle0 hle
    have hxs := RdL.mono hle hxs
    have hp := hAt.mono hle hp
    have hst := RdL.mono hle hst
    have hvx := rd.mono hle hvx
    have hvb := rd.mono hle hvb
    have hve := rd.mono hle hve
    have hvc := rd.mono hle hvc
    refine TL.toOwn (own' := _ :: _ :: own) rfl ?_
    refine TL.wk (env' := [(0, _), (5, _), (11, _), (12, _), (13, _), (7, _), (20, _), (24, _), (28, _), (29, _)]) ⟨rfl, rfl, rfl, rfl, rfl, rfl, rfl, rfl, rfl, rfl, trivial⟩ ?_
    refine TL.store1 0 0 (c' := #[_, _, _, _, _, _, _, _, _, _, _]) (own' := [(_, .cells #[_, _, _, _, _, _, _, _, _, _, _] _ _)] :: _) rfl rfl rfl rfl hr20.one (by simp) rfl rfl rfl ?_
    refine TL.fieldAddr rfl rfl ?_
    refine TL.store1 0 0 (c' := #[_, _, _, _, _, _, _, _, _, _, _]) (own' := [(_, .cells #[_, _, _, _, _, _, _, _, _, _, _] _ _)] :: _) rfl rfl rfl rfl hr24.one (by simp) rfl rfl rfl ?_
    refine TL.fieldAddr rfl rfl ?_
    refine TL.store1 0 0 (c' := #[_, _, _, _, _, _, _, _, _, _, _]) (own' := [(_, .cells #[_, _, _, _, _, _, _, _, _, _, _] _ _)] :: _) rfl rfl rfl rfl hr28.one (by simp) rfl rfl rfl ?_
    refine TL.nil ?_
    refine TQ.then_n ?_
    refine TC.seq ?_
    refine TC.region ?_
    refine TL.fieldAddr rfl rfl ?_
    refine TL.load_own 0 0 rfl rfl rfl rfl rfl ?_
    obtain ⟨Ac, cc, rfl, hcc1, hcc2⟩ := css_len hvc
    refine TL.assign rfl rfl ?_
    refine TL.nil ?_
    refine TQ.then_n ?_
    refine TC.seq ?_
    refine TC.region ?_
    refine TL.fieldAddr rfl rfl ?_
    refine TL.store1 0 0 (c' := #[_, _, _, _, _, _, _, _, _, _, _]) (own' := [(_, .cells #[_, _, _, _, _, _, _, _, _, _, _] _ _)] :: _) rfl rfl rfl rfl rfl (by simp) rfl rfl rfl ?_
    refine TL.nil ?_
    refine TQ.then_n ?_
    refine TC.seq ?_
    refine TC.seq ?_
    refine TC.nilseg ?_
    refine TC.region ?_
    refine TL.move rfl rfl ?_
    refine TL.len_slice rfl rfl ?_
    refine TL.move rfl rfl ?_
    refine TL.nil ?_
    refine TQ.then_n ?_
    refine TC.block ?_
    refine TC.loop (fun z env' own' H' => ∃ (q : Nat) (uc : Value) (cxs : List Value) (cseg : Seg), z = scs.length - q ∧ q ≤ scs.length ∧ Row 49 1 uc q cxs cseg ∧ RdL H' (Sm.cd (renCs (toO T) L (scs.take q))) cxs ∧ env' = [(0, .pointer (some ⟨gn, 0, none⟩)), (5, u), (7, .pointer (some ⟨g7, 0, none⟩)), (11, .slice (some ⟨b1, o1, none⟩) l.length c), (12, .int .i64 (l.length : Int)), (13, .int .i64 (i : Int)), (35, .slice Ac scs.length cc), (36, .int .i64 (scs.length : Int)), (37, .int .i64 (q : Int))] ∧ own' = cseg :: [(g7, .cells #[.int .i64 sk, .string snm, t0, t1, t2, t3, .int .u16 sn, r20, r24, r28, uc] 61 (0, 0))] :: seg :: own ∧ Le H1 H') scs.length [(0, _), (5, _), (7, _), (11, _), (12, _), (13, _), (35, _), (36, _), (37, _)] ⟨rfl, rfl, rfl, rfl, rfl, rfl, rfl, rfl, rfl, trivial⟩ ⟨0, _, [], [], by omega, by omega, Row.nil 49 1, by simp [renCs, Sm.cd, RdL], rfl, rfl, Le.refl _⟩ ?_
    rintro z _ _ H9 ⟨q, uc, cxs, cseg, rfl, hq, hcrow, hcxs, rfl, rfl, hle9⟩
    have hL := Le.trans hL hle9
    have hA := rd.mono hle9 hA
    have hN := NmS.mono hle9 hN
    have hle0 := Le.trans hle0 hle9
    have hxs := RdL.mono hle9 hxs
    have hp := hAt.mono hle9 hp
    have hst := RdL.mono hle9 hst
    have hvx := rd.mono hle9 hvx
    have hvb := rd.mono hle9 hvb
    have hve := rd.mono hle9 hve
    have hvc := rd.mono hle9 hvc
    have hr20 := rd.mono hle9 hr20
    have hr24 := rd.mono hle9 hr24
    have hr28 := rd.mono hle9 hr28
    refine TC.seq ?_
    refine TC.region ?_
    refine TL.lssB rfl rfl rfl (fun hlt2 => ?_) (fun hlt2 => ?_)
    ·
     obtain ⟨y, hy⟩ : ∃ y, scs[q]? = some y := ⟨_, List.getElem?_eq_getElem (by omega)⟩
     have hys := Sm.csize_mem (List.mem_of_getElem? hy)
     have hyb := Sm.nc_mem hb4 (List.mem_of_getElem? hy)
     obtain ⟨b2, o2, v2, rfl, hp2, hv2⟩ := css_at hvc hy
     refine TL.nil ?_
     refine TQ.then_n ?_
     refine TC.seq ?_
     refine TC.cond_t rfl ?_
     refine TC.skip ?_
     refine TQ.then_n ?_
     refine TC.seq ?_
     refine TC.block ?_
     refine TC.seq ?_
     refine TC.region ?_
     refine TL.indexAddr (q) rfl rfl rfl (by omega) rfl ?_
     refine TL.load_imm rfl (hp2) rfl ?_
     refine TL.assign rfl rfl ?_
     refine TL.nil ?_
     refine TQ.then_n ?_
     refine TC.drawQV 6  [(0, _), (5, _), (7, _), (11, _), (12, _), (13, _), (35, _), (36, _), (37, _), (10, _)] follows_mixed ⟨rfl, rfl, rfl, rfl, rfl, rfl, rfl, rfl, rfl, rfl, trivial⟩ ?_
     refine ChainV.q (some 41) [] (by
      intro H' X F hle
      intro hF
      refine TL.fieldAddr rfl rfl ?_
      refine TL.nil ?_
      exact TQ.one [] hF (Le.refl _) ⟨rfl, rfl⟩) ?_
     refine ChainV.q (some 42) [(0, 0)] (by
      intro H' X F hle
      have hL := Le.trans hL hle
      have hA := rd.mono hle hA
      have hN := NmS.mono hle hN
      have hle0 := Le.trans hle0 hle
      have hxs := RdL.mono hle hxs
      have hp := hAt.mono hle hp
      have hst := RdL.mono hle hst
      have hvx := rd.mono hle hvx
      have hvb := rd.mono hle hvb
      have hve := rd.mono hle hve
      have hvc := rd.mono hle hvc
      have hr20 := rd.mono hle hr20
      have hr24 := rd.mono hle hr24
      have hr28 := rd.mono hle hr28
      have hle9 := Le.trans hle9 hle
      have hcxs := RdL.mono hle hcxs
      have hp2 := cel_le hle hp2
      have hv2 := rd.mono hle hv2
      intro hF
      refine TL.load_own 1 0 rfl rfl rfl rfl rfl ?_
      refine TL.nil ?_
      exact TQ.one [] hF (Le.refl _) ⟨rfl, rfl⟩) ?_
     refine ChainV.q (some 43) [] (by
      intro H' X F hle
      intro hF
      refine TL.move rfl rfl ?_
      refine TL.nil ?_
      exact TQ.one [] hF (Le.refl _) ⟨rfl, rfl⟩) ?_
     refine ChainV.q (some 44) [] (by
      intro H' X F hle
      intro hF
      refine TL.move rfl rfl ?_
      refine TL.nil ?_
      exact TQ.one [] hF (Le.refl _) ⟨rfl, rfl⟩) ?_
     refine ChainV.r (some 45) [(2, 1), (3, 0)] ([]) (fun _ => fun u s H => rd H (.s 11 (Sm.ds (renSs (toO T) L y))) u ∧ s = []) (by
      intro H' X F hle
      have hL := Le.trans hL hle
      have hA := rd.mono hle hA
      have hN := NmS.mono hle hN
      have hle0 := Le.trans hle0 hle
      have hxs := RdL.mono hle hxs
      have hp := hAt.mono hle hp
      have hst := RdL.mono hle hst
      have hvx := rd.mono hle hvx
      have hvb := rd.mono hle hvb
      have hve := rd.mono hle hve
      have hvc := rd.mono hle hvc
      have hr20 := rd.mono hle hr20
      have hr24 := rd.mono hle hr24
      have hr28 := rd.mono hle hr28
      have hle9 := Le.trans hle9 hle
      have hcxs := RdL.mono hle hcxs
      have hp2 := cel_le hle hp2
      have hv2 := rd.mono hle hv2
      intro hF
      refine TL.call (ih (k - 1) (by omega) y (by omega) (by omega) hyb hN hv2) ⟨rfl, rfl, trivial⟩ rfl ?_
      rintro r45 _ H45 ⟨hr45, rfl, hle45⟩
      refine TL.nil ?_
      exact TQ.one [] hF hle45 ⟨hr45, rfl⟩) ?_
     refine ChainV.r (some 46) [(4, 0)] ([]) (fun _ => fun u s H => ∃ g r, u = .slice (some ⟨g, 0, none⟩) 1 1 ∧ s = [[(g, .cells #[r] 49 (0, 0))]] ∧ rd H (.s 11 (Sm.ds (renSs (toO T) L y))) r) (by
      intro H' X F hle
      have hL := Le.trans hL hle
      have hA := rd.mono hle hA
      have hN := NmS.mono hle hN
      have hle0 := Le.trans hle0 hle
      have hxs := RdL.mono hle hxs
      have hp := hAt.mono hle hp
      have hst := RdL.mono hle hst
      have hvx := rd.mono hle hvx
      have hvb := rd.mono hle hvb
      have hve := rd.mono hle hve
      have hvc := rd.mono hle hvc
      have hr20 := rd.mono hle hr20
      have hr24 := rd.mono hle hr24
      have hr28 := rd.mono hle hr28
      have hle9 := Le.trans hle9 hle
      have hcxs := RdL.mono hle hcxs
      have hp2 := cel_le hle hp2
      have hv2 := rd.mono hle hv2
      intro _
      rintro r45 _ H45 hle45 ⟨hr45, rfl⟩
      replace hr45 := rd.mono hle45 hr45
      intro hF
      refine TL.litF (r := [_]) [(0, [_])] ⟨rfl, ⟨_, rfl, one_cells hr45.one⟩, trivial⟩ rfl rfl rfl rfl ?_; intro g46
      refine TL.nil ?_
      exact TQ.one [_] hF (Le.refl _) ⟨_, _, rfl, rfl, hr45⟩) ?_
     refine ⟨by kernel_rfl, .refl _, ?_⟩
     ·
      intro H2 hle
      rintro r45 _ H45 hle45 ⟨hr45, rfl⟩
      replace hr45 := rd.mono hle45 hr45
      rintro _ _ H46 hle46 ⟨g46, r46, rfl, rfl, hr46⟩
      replace hr46 := rd.mono hle46 hr46
      have hL := Le.trans hL hle
      have hA := rd.mono hle hA
      have hN := NmS.mono hle hN
      have hle0 := Le.trans hle0 hle
      have hxs := RdL.mono hle hxs
      have hp := hAt.mono hle hp
      have hst := RdL.mono hle hst
      have hvx := rd.mono hle hvx
      have hvb := rd.mono hle hvb
      have hve := rd.mono hle hve
      have hvc := rd.mono hle hvc
      have hr20 := rd.mono hle hr20
      have hr24 := rd.mono hle hr24
      have hr28 := rd.mono hle hr28
      have hle9 := Le.trans hle9 hle
      have hcxs := RdL.mono hle hcxs
      have hp2 := cel_le hle hp2
      have hv2 := rd.mono hle hv2
      refine TL.toOwn (own' := _ :: _ :: _ :: _ :: own) rfl ?_
      refine TL.wk (env' := [(0, _), (5, _), (7, _), (11, _), (12, _), (13, _), (35, _), (36, _), (37, _), (42, _), (46, _)]) ⟨rfl, rfl, rfl, rfl, rfl, rfl, rfl, rfl, rfl, rfl, rfl, trivial⟩ ?_
      refine TL.append 1 rfl rfl rfl hcrow (Src.ofOwn 0 0 rfl rfl rfl (Ones.all (show Ones [r46] from ⟨hr46.one, trivial⟩)) ⟨rfl, trivial⟩) (by omega) (by omega) rfl ?_
      intro v47 seg47 hcrow'
      refine TL.fieldAddr rfl rfl ?_
      refine TL.store1 2 0 (c' := #[_, _, _, _, _, _, _, _, _, _, _]) (own' := _ :: _ :: [(_, .cells #[_, _, _, _, _, _, _, _, _, _, _] _ _)] :: _) rfl rfl rfl rfl hcrow'.one (by simp) rfl rfl rfl ?_
      refine TL.nil ?_
      refine TQ.in_n ?_
      refine TQ.then_n ?_
      refine TC.region ?_
      refine TL.add rfl rfl rfl ⟨by omega, by omega⟩ ?_
      refine TL.move rfl rfl ?_
      refine TL.nil ?_
      refine TQ.sel 4 [1, 2, 3] rfl (fun o ho => ?_)
      simp only [K.sel, List.map_cons, List.map_nil, List.getD_cons_zero, List.getD_cons_succ, List.drop_succ_cons, List.drop_zero, List.cons_append, List.nil_append, List.set_cons_zero, List.set_cons_succ] at ho; subst ho
      refine TQ.next (scs.length - (q + 1)) [(0, _), (5, _), (7, _), (11, _), (12, _), (13, _), (35, _), (36, _), (37, _)] (by omega) ⟨rfl, rfl, rfl, rfl, rfl, rfl, rfl, rfl, rfl, trivial⟩ ⟨q + 1, v47, _, seg47, rfl, by omega, hcrow', ?_, by simp, rfl, hle9⟩
      rw [List.take_add_one, hy, renCs_map, List.map_append, ← renCs_map]
      exact css_snoc hcxs hr46
    ·
     have hqq : q = scs.length := by omega
     subst hqq
     rw [List.take_length] at hcxs
     refine TL.nil ?_
     refine TQ.then_n ?_
     refine TC.seq ?_
     refine TC.cond_f rfl ?_
     refine TC.exit ?_
     refine TQ.then_e ?_
     refine TQ.then_e ?_
     refine TQ.in_e ?_
     refine TQ.then_n ?_
     refine TC.freeze (fun H3 hle hz_crow => ?_)
     have hL := Le.trans hL hle
     have hA := rd.mono hle hA
     have hN := NmS.mono hle hN
     have hle0 := Le.trans hle0 hle
     have hxs := RdL.mono hle hxs
     have hp := hAt.mono hle hp
     have hst := RdL.mono hle hst
     have hvx := rd.mono hle hvx
     have hvb := rd.mono hle hvb
     have hve := rd.mono hle hve
     have hvc := rd.mono hle hvc
     have hr20 := rd.mono hle hr20
     have hr24 := rd.mono hle hr24
     have hr28 := rd.mono hle hr28
     have hle9 := Le.trans hle9 hle
     have hcxs := RdL.mono hle hcxs
     have hvc2 : rd H3 (.s 1 (Sm.cd (renCs (toO T) L scs))) uc := rd.ofRow hcrow hz_crow hcxs (Le.refl _)
     refine TC.region ?_
     refine TL.move rfl rfl ?_
     refine TL.load_ownA 0 0 [_, _, _, _, _, _, _, _, _, _, _] rfl rfl rfl ⟨rfl, rfl, rfl, rfl, rfl, rfl, rfl, rfl, rfl, rfl, rfl, trivial⟩ rfl rfl ?_
     refine TL.litF (r := [_, _, _, _, _, _, _, _, _, _, _]) [(0, [_, _, _, _, _, _, _, _, _, _, _])] ⟨rfl, ⟨_, rfl, rfl⟩, trivial⟩ rfl rfl rfl rfl ?_; intro g52
     refine TL.append 2 rfl rfl rfl hrow (Src.ofOwn 0 0 rfl rfl rfl (Ones.all (sm_ones hst hr20 hr24 hr28 hvc2)) ⟨rfl, rfl, rfl, rfl, rfl, rfl, rfl, rfl, rfl, rfl, rfl, trivial⟩) (by omega) (by omega) rfl ?_
     intro v' seg' hrow'
     refine TL.assign rfl rfl ?_
     refine TL.nil ?_
     refine TQ.in_n ?_
     refine TQ.then_n ?_
     refine TC.region ?_
     refine TL.add rfl rfl rfl ⟨by omega, by omega⟩ ?_
     refine TL.move rfl rfl ?_
     refine TL.nil ?_
     refine TQ.sel 3 [2] rfl (fun o ho => ?_)
     simp only [K.sel, List.map_cons, List.map_nil, List.getD_cons_zero, List.getD_cons_succ, List.drop_succ_cons, List.drop_zero, List.cons_append, List.nil_append, List.set_cons_zero, List.set_cons_succ] at ho; subst ho
     refine TQ.next (l.length - (i + 1)) [(0, _), (5, _), (11, _), (12, _), (13, _)] (by omega) ⟨rfl, rfl, rfl, rfl, rfl, trivial⟩ ⟨i + 1, v', _, seg', rfl, by omega, hrow', ?_, by simp, rfl, hle0⟩
     rw [List.take_add_one, hx, renSs_map, List.map_append, ← renSs_map]
     refine sms_snoc hxs ?_
     rw [renS]
     exact sm_of hst hr20 hr24 hr28 hvc2
  ·
   refine TL.nil ?_
   refine TQ.then_n ?_
   refine TC.seq ?_
   refine TC.cond_f rfl ?_
   refine TC.exit ?_
   refine TQ.then_e ?_
   refine TQ.then_e ?_
   refine TQ.in_e ?_
   refine TQ.then_n ?_
   refine TC.seq ?_
   refine TC.region ?_
   refine TL.move rfl rfl ?_
   refine TL.assign rfl rfl ?_
   refine TL.nil ?_
   refine TQ.then_n ?_
   refine TC.ret ?_
   refine TQ.freeze (fun H4 hle hz_row => ?_)
   have hL := Le.trans hL hle
   have hA := rd.mono hle hA
   have hN := NmS.mono hle hN
   have hle0 := Le.trans hle0 hle
   have hxs := RdL.mono hle hxs
   refine TQ.ret1 0 rfl rfl ?_
   rw [List.take_of_length_le (by omega)] at hxs
   exact ⟨rd.ofRow hrow hz_row hxs (Le.refl _), rfl, hL⟩

end Go.Proofs.Ytapmmfabdmhdnaa.K
