/-
  The program's renamer: name, declare.
-/
import Derived.Test.YtapmmfabdmhdnaaRenB
set_option linter.unusedVariables false
set_option linter.unusedSimpArgs false
set_option maxHeartbeats 4000000
namespace Go.Proofs.Ytapmmfabdmhdnaa.K
open Go Go.RowKit Go.Proofs

theorem ren_name {T : ByteArray → Option ByteArray} {L : ByteArray → Bool} {s : ByteArray} (hs : s.size ≤ maxLen) {w0 : World} {H : Hp} {own : List Seg} {gn : Nat} (hN : NmS H gn T L) :
    Fn Try.prog 42 [.pointer (some ⟨gn, 0, none⟩), .string s] w0 H own (fun r own' H' => r = .string ((T s).getD s) ∧ own' = own ∧ Le H H') := by
  obtain ⟨gt, gl, ot, ol, nt, nl, hn, hgt, hmt, hgl, hml⟩ := hN
  refine Fn.enter Try.func42 rfl Try.ntmps42 rfl ?_
  have hL := Le.refl H
  refine TC.seq ?_
  refine TC.region ?_
  refine TL.assign rfl rfl ?_
  refine TL.nil ?_
  refine TQ.then_n ?_
  refine TC.seq ?_
  refine TC.seq ?_
  refine TC.region ?_
  refine TL.move rfl rfl ?_
  refine TL.nilCheck rfl rfl ?_
  refine TL.fieldAddr rfl rfl ?_
  refine TL.load_imm rfl (hn.1) rfl ?_
  refine TL.move rfl rfl ?_
  refine TL.look rfl rfl hgt hmt hs (plain_string_inj Try.underlying9) zero9 rfl ?_
  rw [if_pos rfl]
  refine TL.move rfl rfl ?_
  refine TL.extract rfl rfl rfl ?_
  refine TL.extract rfl rfl rfl ?_
  refine TL.assign rfl rfl ?_
  refine TL.assign rfl rfl ?_
  refine TL.nil ?_
  refine TQ.then_n ?_
  refine TC.seq ?_
  refine TC.region ?_
  refine TL.move rfl rfl ?_
  refine TL.nil ?_
  refine TQ.then_n ?_
  refine TC.cond rfl (fun hc => ?_) (fun hc => ?_)
  ·
   refine TC.seq ?_
   refine TC.region ?_
   refine TL.move rfl rfl ?_
   refine TL.assign rfl rfl ?_
   refine TL.nil ?_
   refine TQ.then_n ?_
   refine TC.ret ?_
   refine TQ.then_r ?_
   refine TQ.ret1 0 rfl rfl ?_
   refine ⟨?_, rfl, hL⟩
   cases hT : T s <;> simp_all [mT]
  ·
   refine TC.skip ?_
   refine TQ.then_n ?_
   refine TC.seq ?_
   refine TC.region ?_
   refine TL.move rfl rfl ?_
   refine TL.assign rfl rfl ?_
   refine TL.nil ?_
   refine TQ.then_n ?_
   refine TC.ret ?_
   refine TQ.ret1 0 rfl rfl ?_
   refine ⟨?_, rfl, hL⟩
   cases hT : T s <;> simp_all [mT]
theorem ren_declare (k : Nat) : ∀ (l : List Sm), Sm.sizes l ≤ k → Sm.nbs maxLen l → ∀ {L : ByteArray → Bool} {n0 : Nat} {w0 : World} {H : Hp} {own : List Seg} {gn gl : Nat} {ol : Obj} {v mt : Value}, n0 + Sm.sizes l ≤ 2000000 → hAt H gn 0 [mt, .map (some gl)] →
    MapO Try.prog 9 4 ol n0 (mL L) → rd H (.s 11 (Sm.ds l)) v →
    Fn Try.prog 41 [.pointer (some ⟨gn, 0, none⟩), v] w0 H ([(gl, ol)] :: own) (fun r own' H' => ∃ ol', r = .tuple #[] ∧ own' = [(gl, ol')] :: own ∧ MapO Try.prog 9 4 ol' (n0 + Sm.sizes l) (mL (addL L (decSs l))) ∧ Le H H') := by
  induction k using Nat.strongRecOn with
  | _ k ih =>
  intro l hk hnb L n0 w0 H own gn gl ol v mt hn0 hn hml hA
  have hmax : (2000000 : Nat) < maxLen := by decide
  obtain ⟨A, c, rfl, hc1, hc2⟩ := sms_len hA
  refine Fn.enter Try.func41 rfl Try.ntmps41 rfl ?_
  have hL := Le.refl H
  refine TC.seq ?_
  refine TC.region ?_
  refine TL.move rfl rfl ?_
  refine TL.len_slice rfl rfl ?_
  refine TL.move rfl rfl ?_
  refine TL.nil ?_
  refine TQ.then_n ?_
  refine TC.block ?_
  refine TC.loop (fun z env' own' H' => ∃ (i : Nat) (ol : Obj), z = l.length - i ∧ i ≤ l.length ∧ MapO Try.prog 9 4 ol (n0 + Sm.sizes (l.take i)) (mL (addL L (decSs (l.take i)))) ∧ env' = [(0, .pointer (some ⟨gn, 0, none⟩)), (8, .slice A l.length c), (9, .int .i64 (l.length : Int)), (10, .int .i64 (i : Int))] ∧ own' = [(gl, ol)] :: own ∧ Le H H') l.length [(0, _), (8, _), (9, _), (10, _)] ⟨rfl, rfl, rfl, rfl, trivial⟩ ⟨0, _, by omega, by omega, by simpa [decSs, addL_nil, Sm.sizes] using hml, rfl, rfl, Le.refl _⟩ ?_
  clear hml
  rintro z _ _ H1 ⟨i, ol, rfl, hi, hml, rfl, rfl, hle0⟩
  have hL := Le.trans hL hle0
  have hn := hAt.mono hle0 hn
  have hA := rd.mono hle0 hA
  refine TC.seq ?_
  refine TC.region ?_
  refine TL.lssB rfl rfl rfl (fun hlt => ?_) (fun hlt => ?_)
  ·
   obtain ⟨x, hx⟩ : ∃ x, l[i]? = some x := ⟨_, List.getElem?_eq_getElem (by omega)⟩
   have hxs := Sm.size_mem (List.mem_of_getElem? hx)
   have hxb := Sm.nb_mem hnb (List.mem_of_getElem? hx)
   have htk := Sm.sizes_take hx
   have htl := Sm.sizes_take_le l (i + 1)
   obtain ⟨sk, snm, st, sn, sxs, sb, sel, scs⟩ := x
   simp only [Sm.size, Sm.nb] at hxs hxb htk
   obtain ⟨hb0, hb1, hb2, hb3, hb4⟩ := hxb
   obtain ⟨b1, o1, t0, t1, t2, t3, vx, vb, ve, vc, rfl, hp, hst, hvx, hvb, hve, hvc⟩ := sms_at hA hx
   refine TL.nil ?_
   refine TQ.then_n ?_
   refine TC.seq ?_
   refine TC.cond_t rfl ?_
   refine TC.skip ?_
   refine TQ.then_n ?_
   refine TC.seq ?_
   refine TC.block ?_
   refine TC.seq ?_
   refine TC.region ?_
   refine TL.indexAddr (i) rfl rfl rfl (by omega) rfl ?_
   refine TL.load_immA rfl (hp) rfl rfl ?_
   refine TL.new rfl ?_; intro g5
   refine TL.storeA 0 0 (c' := #[_, _, _, _, _, _, _, _, _, _, _]) (own' := [(_, .cells #[_, _, _, _, _, _, _, _, _, _, _] _ _)] :: _) rfl rfl rfl rfl rfl (sm_ones hst hvx hvb hve hvc) (by simp [putC]) (putC_all rfl) rfl rfl ?_
   refine TL.nil ?_
   refine TQ.then_n ?_
   refine TC.cut (fun env' own' H' => ∃ ol, env' = [(0, .pointer (some ⟨gn, 0, none⟩)), (5, .pointer (some ⟨g5, 0, none⟩)), (8, .slice (some ⟨b1, o1, none⟩) l.length c), (9, .int .i64 (l.length : Int)), (10, .int .i64 (i : Int))] ∧ own' = [(g5, .cells #[.int .i64 sk, .string snm, t0, t1, t2, t3, .int .u16 sn, vx, vb, ve, vc] 61 (0, 0))] :: [(gl, ol)] :: own ∧ MapO Try.prog 9 4 ol (n0 + Sm.sizes (l.take i) + 1) (mL (addL (addL L (decSs (l.take i))) (if sk = 1 then [snm] else []))) ∧ Le H1 H') ?_ ?_
   ·
    have hcut := Le.refl H1
    refine TC.seq ?_
    refine TC.region ?_
    refine TL.fieldAddr rfl rfl ?_
    refine TL.load_own 0 0 rfl rfl rfl rfl rfl ?_
    refine TL.eqlB rfl rfl rfl (fun hk1 => ?_) (fun hk1 => ?_)
    ·
     refine TL.nil ?_
     refine TQ.then_n ?_
     refine TC.cond_t rfl ?_
     refine TC.drawQV 6  [(0, _), (8, _), (9, _), (10, _), (5, _)] follows_mixed ⟨rfl, rfl, rfl, rfl, rfl, trivial⟩ ?_
     refine ChainV.q (some 17) [] (by
      intro H' X F hle
      intro hF
      refine TL.move rfl rfl ?_
      refine TL.nil ?_
      exact TQ.one [] hF (Le.refl _) ⟨rfl, rfl⟩) ?_
     refine ChainV.q (some 18) [(0, 0)] (by
      intro H' X F hle
      intro hF
      refine TL.nilCheck rfl rfl ?_
      refine TL.nil ?_
      exact TQ.one [] hF (Le.refl _) ⟨rfl, rfl⟩) ?_
     refine ChainV.q (some 19) [(1, 0)] (by
      intro H' X F hle
      intro hF
      refine TL.fieldAddr rfl rfl ?_
      refine TL.nil ?_
      exact TQ.one [] hF (Le.refl _) ⟨rfl, rfl⟩) ?_
     refine ChainV.q (some 20) [(2, 0)] (by
      intro H' X F hle
      have hL := Le.trans hL hle
      have hn := hAt.mono hle hn
      have hA := rd.mono hle hA
      have hle0 := Le.trans hle0 hle
      have hp := hAt.mono hle hp
      have hst := RdL.mono hle hst
      have hvx := rd.mono hle hvx
      have hvb := rd.mono hle hvb
      have hve := rd.mono hle hve
      have hvc := rd.mono hle hvc
      have hcut := Le.trans hcut hle
      intro hF
      refine TL.load_imm rfl (hn.2.1) rfl ?_
      refine TL.nil ?_
      exact TQ.one [] hF (Le.refl _) ⟨rfl, rfl⟩) ?_
     refine ChainV.q (some 21) [] (by
      intro H' X F hle
      intro hF
      refine TL.fieldAddr rfl rfl ?_
      refine TL.nil ?_
      exact TQ.one [] hF (Le.refl _) ⟨rfl, rfl⟩) ?_
     refine ChainV.q (some 22) [(4, 0)] (by
      intro H' X F hle
      have hL := Le.trans hL hle
      have hn := hAt.mono hle hn
      have hA := rd.mono hle hA
      have hle0 := Le.trans hle0 hle
      have hp := hAt.mono hle hp
      have hst := RdL.mono hle hst
      have hvx := rd.mono hle hvx
      have hvb := rd.mono hle hvb
      have hve := rd.mono hle hve
      have hvc := rd.mono hle hvc
      have hcut := Le.trans hcut hle
      intro hF
      refine TL.load_own 0 0 rfl rfl rfl rfl rfl ?_
      refine TL.nil ?_
      exact TQ.one [] hF (Le.refl _) ⟨rfl, rfl⟩) ?_
     refine ⟨by kernel_rfl, .refl _, ?_⟩
     ·
      intro H1 hle
      have hL := Le.trans hL hle
      have hn := hAt.mono hle hn
      have hA := rd.mono hle hA
      have hle0 := Le.trans hle0 hle
      have hp := hAt.mono hle hp
      have hst := RdL.mono hle hst
      have hvx := rd.mono hle hvx
      have hvb := rd.mono hle hvb
      have hve := rd.mono hle hve
      have hvc := rd.mono hle hvc
      have hcut := Le.trans hcut hle
      refine TL.toOwn (own' := _ :: _ :: own) rfl ?_
      refine TL.wk (env' := [(0, _), (8, _), (9, _), (10, _), (5, _), (20, _), (22, _)]) ⟨rfl, rfl, rfl, rfl, rfl, rfl, rfl, trivial⟩ ?_
      refine TL.mapSet 1 0 rfl rfl rfl rfl rfl hml (by omega) hb0 (plain4 true) rfl ?_
      intro ol2 hml2
      refine TL.toOwn (own' := _ :: [(gl, ol2)] :: own) rfl ?_
      refine TL.nil ?_
      refine TQ.toOwn (own' := _ :: _ :: own) rfl ?_
      exact TQ.mid [(0, _), (5, _), (8, _), (9, _), (10, _)] ⟨rfl, rfl, rfl, rfl, rfl, trivial⟩ ⟨_, rfl, rfl, by first | (rw [if_pos hk1]; exact hml2.congr (mL_set _ _)) | (rw [if_neg hk1, addL_nil]; exact hml.le (by omega)), hcut⟩
    ·
     refine TL.nil ?_
     refine TQ.then_n ?_
     refine TC.cond_f rfl ?_
     refine TC.skip ?_
     refine TQ.toOwn (own' := _ :: _ :: own) rfl ?_
     exact TQ.mid [(0, _), (5, _), (8, _), (9, _), (10, _)] ⟨rfl, rfl, rfl, rfl, rfl, trivial⟩ ⟨_, rfl, rfl, by first | (rw [if_pos hk1]; exact hml2.congr (mL_set _ _)) | (rw [if_neg hk1, addL_nil]; exact hml.le (by omega)), hcut⟩
   clear hml
   rintro _ _ H3 ⟨ol, rfl, rfl, hml, hle3⟩
   have hL := Le.trans hL hle3
   have hn := hAt.mono hle3 hn
   have hA := rd.mono hle3 hA
   have hle0 := Le.trans hle0 hle3
   have hp := hAt.mono hle3 hp
   have hst := RdL.mono hle3 hst
   have hvx := rd.mono hle3 hvx
   have hvb := rd.mono hle3 hvb
   have hve := rd.mono hle3 hve
   have hvc := rd.mono hle3 hvc
   refine TC.seq ?_
   refine TC.region ?_
   refine TL.move rfl rfl ?_
   refine TL.fieldAddr rfl rfl ?_
   refine TL.load_own 0 0 rfl rfl rfl rfl rfl ?_
   refine TL.sel 2 [1, 0] rfl (fun o ho => ?_)
   simp only [K.sel, List.map_cons, List.map_nil, List.getD_cons_zero, List.getD_cons_succ, List.drop_succ_cons, List.drop_zero, List.cons_append, List.nil_append, List.set_cons_zero, List.set_cons_succ] at ho; subst ho
   refine TL.call (ih (k - 1) (by omega) sb (by omega) hb2 (by omega) hn hml hvb) ⟨rfl, rfl, trivial⟩ rfl ?_
   rintro _ _ H26 ⟨ol, rfl, rfl, hml, hle26⟩
   have hL := Le.trans hL hle26
   have hn := hAt.mono hle26 hn
   have hA := rd.mono hle26 hA
   have hle0 := Le.trans hle0 hle26
   have hp := hAt.mono hle26 hp
   have hst := RdL.mono hle26 hst
   have hvx := rd.mono hle26 hvx
   have hvb := rd.mono hle26 hvb
   have hve := rd.mono hle26 hve
   have hvc := rd.mono hle26 hvc
   refine TL.nil ?_
   refine TQ.then_n ?_
   refine TC.seq ?_
   refine TC.region ?_
   refine TL.move rfl rfl ?_
   refine TL.fieldAddr rfl rfl ?_
   refine TL.load_own 1 0 rfl rfl rfl rfl rfl ?_
   refine TL.call (ih (k - 1) (by omega) sel (by omega) hb3 (by omega) hn hml hve) ⟨rfl, rfl, trivial⟩ rfl ?_
   rintro _ _ H30 ⟨ol, rfl, rfl, hml, hle30⟩
   have hL := Le.trans hL hle30
   have hn := hAt.mono hle30 hn
   have hA := rd.mono hle30 hA
   have hle0 := Le.trans hle0 hle30
   have hp := hAt.mono hle30 hp
   have hst := RdL.mono hle30 hst
   have hvx := rd.mono hle30 hvx
   have hvb := rd.mono hle30 hvb
   have hve := rd.mono hle30 hve
   have hvc := rd.mono hle30 hvc
   refine TL.nil ?_
   refine TQ.then_n ?_
   refine TC.seq ?_
   refine TC.toOwn (own' := _ :: _ :: own) rfl ?_
   refine TC.region ?_
   refine TL.fieldAddr rfl rfl ?_
   refine TL.load_own 1 0 rfl rfl rfl rfl rfl ?_
   obtain ⟨Ac, cc, rfl, hcc1, hcc2⟩ := css_len hvc
   refine TL.len_slice rfl rfl ?_
   refine TL.move rfl rfl ?_
   refine TL.nil ?_
   refine TQ.then_n ?_
   refine TC.block ?_
   refine TC.loop (fun z env' own' H' => ∃ (q : Nat) (ol : Obj), z = scs.length - q ∧ q ≤ scs.length ∧ MapO Try.prog 9 4 ol (n0 + Sm.sizes (l.take i) + 1 + Sm.sizes sb + Sm.sizes sel + Sm.csizes (scs.take q)) (mL (addL (addL (addL (addL (addL L (decSs (l.take i))) (if sk = 1 then [snm] else [])) (decSs sb)) (decSs sel)) (decCs (scs.take q)))) ∧ env' = [(0, .pointer (some ⟨gn, 0, none⟩)), (8, .slice (some ⟨b1, o1, none⟩) l.length c), (9, .int .i64 (l.length : Int)), (10, .int .i64 (i : Int)), (32, .slice Ac scs.length cc), (33, .int .i64 (scs.length : Int)), (34, .int .i64 (q : Int))] ∧ own' = [(gl, ol)] :: [(g5, .cells #[.int .i64 sk, .string snm, t0, t1, t2, t3, .int .u16 sn, vx, vb, ve, .slice Ac scs.length cc] 61 (0, 0))] :: own ∧ Le H30 H') scs.length [(0, _), (8, _), (9, _), (10, _), (32, _), (33, _), (34, _)] ⟨rfl, rfl, rfl, rfl, rfl, rfl, rfl, trivial⟩ ⟨0, _, by omega, by omega, by simpa [decCs, addL_nil, Sm.csizes] using hml, rfl, rfl, Le.refl _⟩ ?_
   clear hml
   rintro z _ _ H8 ⟨q, ol, rfl, hq, hml, rfl, rfl, hle8⟩
   have hL := Le.trans hL hle8
   have hn := hAt.mono hle8 hn
   have hA := rd.mono hle8 hA
   have hle0 := Le.trans hle0 hle8
   have hp := hAt.mono hle8 hp
   have hst := RdL.mono hle8 hst
   have hvx := rd.mono hle8 hvx
   have hvb := rd.mono hle8 hvb
   have hve := rd.mono hle8 hve
   have hvc := rd.mono hle8 hvc
   refine TC.seq ?_
   refine TC.region ?_
   refine TL.lssB rfl rfl rfl (fun hlt2 => ?_) (fun hlt2 => ?_)
   ·
    obtain ⟨y, hy⟩ : ∃ y, scs[q]? = some y := ⟨_, List.getElem?_eq_getElem (by omega)⟩
    have hys := Sm.csize_mem (List.mem_of_getElem? hy)
    have hyb := Sm.nc_mem hb4 (List.mem_of_getElem? hy)
    have hytk := Sm.csizes_take hy
    have hytl := Sm.csizes_take_le scs (q + 1)
    obtain ⟨b2, o2, v2, rfl, hp2, hv2⟩ := css_at hvc hy
    refine TL.nil ?_
    refine TQ.then_n ?_
    refine TC.seq ?_
    refine TC.cond_t rfl ?_
    refine TC.skip ?_
    refine TQ.then_n ?_
    refine TC.seq ?_
    refine TC.block ?_
    refine TC.seq ?_
    refine TC.region ?_
    refine TL.indexAddr (q) rfl rfl rfl (by omega) rfl ?_
    refine TL.load_imm rfl (hp2) rfl ?_
    refine TL.assign rfl rfl ?_
    refine TL.nil ?_
    refine TQ.then_n ?_
    refine TC.region ?_
    refine TL.move rfl rfl ?_
    refine TL.move rfl rfl ?_
    refine TL.call (ih (k - 1) (by omega) y (by omega) hyb (by omega) hn hml hv2) ⟨rfl, rfl, trivial⟩ rfl ?_
    rintro _ _ H40 ⟨ol, rfl, rfl, hml, hle40⟩
    have hL := Le.trans hL hle40
    have hn := hAt.mono hle40 hn
    have hA := rd.mono hle40 hA
    have hle0 := Le.trans hle0 hle40
    have hp := hAt.mono hle40 hp
    have hst := RdL.mono hle40 hst
    have hvx := rd.mono hle40 hvx
    have hvb := rd.mono hle40 hvb
    have hve := rd.mono hle40 hve
    have hvc := rd.mono hle40 hvc
    have hle8 := Le.trans hle8 hle40
    have hp2 := cel_le hle40 hp2
    have hv2 := rd.mono hle40 hv2
    refine TL.nil ?_
    refine TQ.in_n ?_
    refine TQ.then_n ?_
    refine TC.region ?_
    refine TL.add rfl rfl rfl ⟨by omega, by omega⟩ ?_
    refine TL.move rfl rfl ?_
    refine TL.nil ?_
    refine TQ.toOwn (own' := _ :: _ :: own) rfl ?_
    refine TQ.next (scs.length - (q + 1)) [(0, _), (8, _), (9, _), (10, _), (32, _), (33, _), (34, _)] (by omega) ⟨rfl, rfl, rfl, rfl, rfl, rfl, rfl, trivial⟩ ⟨q + 1, ol, rfl, by omega, ?_, by simp, rfl, hle8⟩
    rw [Sm.csizes_take hy, decCs_take hy, ← addL_append]
    exact hml.le (by omega)
   ·
    have hqq : q = scs.length := by omega
    subst hqq
    rw [List.take_length] at hml
    refine TL.nil ?_
    refine TQ.then_n ?_
    refine TC.seq ?_
    refine TC.cond_f rfl ?_
    refine TC.exit ?_
    refine TQ.then_e ?_
    refine TQ.then_e ?_
    refine TQ.in_e ?_
    refine TQ.in_n ?_
    refine TQ.then_n ?_
    refine TC.region ?_
    refine TL.add rfl rfl rfl ⟨by omega, by omega⟩ ?_
    refine TL.move rfl rfl ?_
    refine TL.nil ?_
    refine TQ.sel 2 [0] rfl (fun o ho => ?_)
    simp only [K.sel, List.map_cons, List.map_nil, List.getD_cons_zero, List.getD_cons_succ, List.drop_succ_cons, List.drop_zero, List.cons_append, List.nil_append, List.set_cons_zero, List.set_cons_succ] at ho; subst ho
    refine TQ.next (l.length - (i + 1)) [(0, _), (8, _), (9, _), (10, _)] (by omega) ⟨rfl, rfl, rfl, rfl, trivial⟩ ⟨i + 1, ol, rfl, by omega, ?_, by simp, rfl, hle0⟩
    rw [Sm.sizes_take hx, decSs_take hx]
    simp only [addL_append] at hml
    simp only [decS, ← List.append_assoc]
    refine MapO.le hml ?_
    simp only [Sm.size]; omega
  ·
   refine TL.nil ?_
   refine TQ.then_n ?_
   refine TC.seq ?_
   refine TC.cond_f rfl ?_
   refine TC.exit ?_
   refine TQ.then_e ?_
   refine TQ.then_e ?_
   refine TQ.in_e ?_
   refine TQ.end0 0 rfl ?_
   have hii : i = l.length := by omega
   subst hii
   rw [List.take_length] at hml
   exact ⟨_, rfl, rfl, hml, hL⟩

end Go.Proofs.Ytapmmfabdmhdnaa.K
