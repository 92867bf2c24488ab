/-
  Equality of the reference at equal texts.
-/
import Derived.Test.YtapmmfabdmhdnaaEqB
set_option linter.unusedVariables false
set_option linter.unusedSimpArgs false
set_option maxHeartbeats 4000000
namespace Go.Proofs.Ytapmmfabdmhdnaa.K
open Go Go.RowKit Go.Proofs

theorem same_type (k : Nat) : ∀ (t : Ty4), t.size ≤ k → ∀ {w0 : World} {H : Hp} {own : List Seg} {a0 a1 a2 a3 b0 b1 b2 b3 : Value}, RdL H t.d [a0, a1, a2, a3] → RdL H t.d [b0, b1, b2, b3] →
    Fn Try.prog 66 [.agg #[a0, a1, a2, a3], .agg #[b0, b1, b2, b3]] w0 H own (fun r own' H' => r = .bool true ∧ own' = own ∧ Le H H') := by
  induction k with
  | zero => intro t h; have := t.size_pos; omega
  | succ k ih =>
    rintro ⟨tk, tn, tx, ts⟩ hk w0 H own a0 a1 a2 a3 b0 b1 b2 b3 ht hu
    simp only [Ty4.size] at hk
    obtain ⟨rfl, rfl, rfl, hA⟩ := ty4_cells ht
    obtain ⟨rfl, rfl, rfl, hB⟩ := ty4_cells hu
    obtain ⟨A, c, rfl, hc1, hc2⟩ := tys_len hA
    obtain ⟨B, c', rfl, hc1', hc2'⟩ := tys_len hB
    refine Fn.enter Try.func66 rfl Try.ntmps66 rfl ?_
    have hL := Le.refl H
    refine TC.seq ?_
    refine TC.region ?_
    refine TL.box (c := #[_, _, _, _]) rfl rfl rfl ?_; intro g2
    refine TL.box (c := #[_, _, _, _]) rfl rfl rfl ?_; intro g3
    refine TL.assign rfl rfl ?_
    refine TL.nil ?_
    refine TQ.then_n ?_
    refine TC.seq ?_
    refine TC.seq ?_
    refine TC.region ?_
    refine TL.fieldAddr rfl rfl ?_
    refine TL.load_own 1 0 rfl rfl rfl rfl rfl ?_
    refine TL.fieldAddr rfl rfl ?_
    refine TL.load_own 0 0 rfl rfl rfl rfl rfl ?_
    refine TL.neqB rfl rfl rfl (fun hq11 => ?_) (fun hq11 => ?_)
    ·
     exact absurd rfl hq11 -- dead
    ·
     refine TL.move rfl rfl ?_
     refine TL.gyes rfl rfl rfl ?_
     refine TL.fieldAddr rfl rfl ?_
     refine TL.gyes rfl rfl rfl ?_
     refine TL.load_own 1 0 rfl rfl rfl rfl rfl ?_
     refine TL.gyes rfl rfl rfl ?_
     refine TL.fieldAddr rfl rfl ?_
     refine TL.gyes rfl rfl rfl ?_
     refine TL.load_own 0 0 rfl rfl rfl rfl rfl ?_
     refine TL.gyes rfl rfl rfl ?_
     refine TL.neqSB rfl rfl rfl (fun hq17 => ?_) (fun hq17 => ?_)
     ·
      exact absurd rfl hq17 -- dead
     ·
      refine TL.pickF rfl rfl rfl rfl ?_
      refine TL.move rfl rfl ?_
      refine TL.gyes rfl rfl rfl ?_
      refine TL.fieldAddr rfl rfl ?_
      refine TL.gyes rfl rfl rfl ?_
      refine TL.load_own 1 0 rfl rfl rfl rfl rfl ?_
      refine TL.gyes rfl rfl rfl ?_
      refine TL.fieldAddr rfl rfl ?_
      refine TL.gyes rfl rfl rfl ?_
      refine TL.load_own 0 0 rfl rfl rfl rfl rfl ?_
      refine TL.gyes rfl rfl rfl ?_
      refine TL.neqB rfl rfl rfl (fun hq24 => ?_) (fun hq24 => ?_)
      ·
       exact absurd rfl hq24 -- dead
      ·
       refine TL.pickF rfl rfl rfl rfl ?_
       refine TL.move rfl rfl ?_
       refine TL.gyes rfl rfl rfl ?_
       refine TL.fieldAddr rfl rfl ?_
       refine TL.gyes rfl rfl rfl ?_
       refine TL.load_own 1 0 rfl rfl rfl rfl rfl ?_
       refine TL.gyes rfl rfl rfl ?_
       refine TL.len_slice rfl rfl ?_
       refine TL.gyes rfl rfl rfl ?_
       refine TL.fieldAddr rfl rfl ?_
       refine TL.gyes rfl rfl rfl ?_
       refine TL.load_own 0 0 rfl rfl rfl rfl rfl ?_
       refine TL.gyes rfl rfl rfl ?_
       refine TL.len_slice rfl rfl ?_
       refine TL.gyes rfl rfl rfl ?_
       refine TL.neqB rfl rfl rfl (fun hq33 => ?_) (fun hq33 => ?_)
       ·
        exact absurd rfl hq33 -- dead
       ·
        refine TL.pickF rfl rfl rfl rfl ?_
        refine TL.nil ?_
        refine TQ.then_n ?_
        refine TC.cond_f rfl ?_
        refine TC.skip ?_
        refine TQ.then_n ?_
        refine TC.seq ?_
        refine TC.seq ?_
        refine TC.region ?_
        refine TL.assign rfl rfl ?_
        refine TL.nil ?_
        refine TQ.then_n ?_
        refine TC.block ?_
        refine TC.loop (fun z env' own' H' => ∃ i : Nat, z = ts.length - i ∧ i ≤ ts.length ∧ env' = [(2, .pointer (some ⟨g2, 0, none⟩)), (3, .pointer (some ⟨g3, 0, none⟩)), (5, .int .i64 (i : Int))] ∧ own' = [(g3, .cells #[.int .i64 tk, .string tn, .int .i64 tx, .slice B ts.length c'] 48 (0, 0))] :: [(g2, .cells #[.int .i64 tk, .string tn, .int .i64 tx, .slice A ts.length c] 48 (0, 0))] :: own ∧ Le H H') ts.length [(2, _), (3, _), (5, _)] ⟨rfl, rfl, rfl, trivial⟩ ⟨0, by omega, by omega, rfl, rfl, Le.refl _⟩ ?_
        rintro z _ _ H1 ⟨i, rfl, hi, rfl, rfl, hle0⟩
        have hL := Le.trans hL hle0
        have hA := rd.mono hle0 hA
        have hB := rd.mono hle0 hB
        refine TC.seq ?_
        refine TC.seq ?_
        refine TC.region ?_
        refine TL.move rfl rfl ?_
        refine TL.fieldAddr rfl rfl ?_
        refine TL.load_own 1 0 rfl rfl rfl rfl rfl ?_
        refine TL.len_slice rfl rfl ?_
        refine TL.lssB rfl rfl rfl (fun hlt => ?_) (fun hlt => ?_)
        ·
         obtain ⟨x, hx⟩ : ∃ x, ts[i]? = some x := ⟨_, List.getElem?_eq_getElem (by omega)⟩
         have hxs := Ty4.size_mem (List.mem_of_getElem? hx)
         obtain ⟨b1, o1, p0, p1, p2, p3, rfl, hp, hpr⟩ := tys_at hA hx
         obtain ⟨b2, o2, q0, q1, q2, q3, rfl, hq, hqr⟩ := tys_at hB hx
         refine TL.nil ?_
         refine TQ.then_n ?_
         refine TC.cond_t rfl ?_
         refine TC.skip ?_
         refine TQ.then_n ?_
         refine TC.seq ?_
         refine TC.block ?_
         refine TC.seq ?_
         refine TC.drawQV 10  [(2, _), (3, _), (5, _)] follows_mixed ⟨rfl, rfl, rfl, trivial⟩ ?_
         refine ChainV.q (some 42) [] (by
          intro H' X F hle
          intro hF
          refine TL.fieldAddr rfl rfl ?_
          refine TL.nil ?_
          exact TQ.one [] hF (Le.refl _) ⟨rfl, rfl⟩) ?_
         refine ChainV.q (some 43) [(0, 0)] (by
          intro H' X F hle
          have hL := Le.trans hL hle
          have hA := rd.mono hle hA
          have hB := rd.mono hle hB
          have hle0 := Le.trans hle0 hle
          have hp := hAt.mono hle hp
          have hpr := RdL.mono hle hpr
          have hq := hAt.mono hle hq
          have hqr := RdL.mono hle hqr
          intro hF
          refine TL.load_own 1 0 rfl rfl rfl rfl rfl ?_
          refine TL.nil ?_
          exact TQ.one [] hF (Le.refl _) ⟨rfl, rfl⟩) ?_
         refine ChainV.q (some 44) [] (by
          intro H' X F hle
          intro hF
          refine TL.move rfl rfl ?_
          refine TL.nil ?_
          exact TQ.one [] hF (Le.refl _) ⟨rfl, rfl⟩) ?_
         refine ChainV.q (some 45) [(1, 1), (2, 0)] (by
          intro H' X F hle
          intro hF
          refine TL.indexAddr (i) rfl rfl rfl (by omega) rfl ?_
          refine TL.nil ?_
          exact TQ.one [] hF (Le.refl _) ⟨rfl, rfl⟩) ?_
         refine ChainV.q (some 46) [(3, 0)] (by
          intro H' X F hle
          have hL := Le.trans hL hle
          have hA := rd.mono hle hA
          have hB := rd.mono hle hB
          have hle0 := Le.trans hle0 hle
          have hp := hAt.mono hle hp
          have hpr := RdL.mono hle hpr
          have hq := hAt.mono hle hq
          have hqr := RdL.mono hle hqr
          intro hF
          refine TL.load_immA rfl (hp) rfl rfl ?_
          refine TL.nil ?_
          exact TQ.one [] hF (Le.refl _) ⟨rfl, rfl⟩) ?_
         refine ChainV.q (some 47) [] (by
          intro H' X F hle
          intro hF
          refine TL.fieldAddr rfl rfl ?_
          refine TL.nil ?_
          exact TQ.one [] hF (Le.refl _) ⟨rfl, rfl⟩) ?_
         refine ChainV.q (some 48) [(5, 0)] (by
          intro H' X F hle
          have hL := Le.trans hL hle
          have hA := rd.mono hle hA
          have hB := rd.mono hle hB
          have hle0 := Le.trans hle0 hle
          have hp := hAt.mono hle hp
          have hpr := RdL.mono hle hpr
          have hq := hAt.mono hle hq
          have hqr := RdL.mono hle hqr
          intro hF
          refine TL.load_own 0 0 rfl rfl rfl rfl rfl ?_
          refine TL.nil ?_
          exact TQ.one [] hF (Le.refl _) ⟨rfl, rfl⟩) ?_
         refine ChainV.q (some 49) [] (by
          intro H' X F hle
          intro hF
          refine TL.move rfl rfl ?_
          refine TL.nil ?_
          exact TQ.one [] hF (Le.refl _) ⟨rfl, rfl⟩) ?_
         refine ChainV.q (some 50) [(6, 1), (7, 0)] (by
          intro H' X F hle
          intro hF
          refine TL.indexAddr (i) rfl rfl rfl (by omega) rfl ?_
          refine TL.nil ?_
          exact TQ.one [] hF (Le.refl _) ⟨rfl, rfl⟩) ?_
         refine ChainV.q (some 51) [(8, 0)] (by
          intro H' X F hle
          have hL := Le.trans hL hle
          have hA := rd.mono hle hA
          have hB := rd.mono hle hB
          have hle0 := Le.trans hle0 hle
          have hp := hAt.mono hle hp
          have hpr := RdL.mono hle hpr
          have hq := hAt.mono hle hq
          have hqr := RdL.mono hle hqr
          intro hF
          refine TL.load_immA rfl (hq) rfl rfl ?_
          refine TL.nil ?_
          exact TQ.one [] hF (Le.refl _) ⟨rfl, rfl⟩) ?_
         refine ⟨by kernel_rfl, .refl _, ?_⟩
         ·
          intro H1 hle
          have hL := Le.trans hL hle
          have hA := rd.mono hle hA
          have hB := rd.mono hle hB
          have hle0 := Le.trans hle0 hle
          have hp := hAt.mono hle hp
          have hpr := RdL.mono hle hpr
          have hq := hAt.mono hle hq
          have hqr := RdL.mono hle hqr
          refine TL.toOwn (own' := _ :: _ :: own) rfl ?_
          refine TL.wk (env' := [(2, _), (3, _), (5, _), (46, _), (51, _)]) ⟨rfl, rfl, rfl, rfl, rfl, trivial⟩ ?_
          refine TL.call (ih x (by omega) hpr hqr) ⟨rfl, rfl, trivial⟩ rfl ?_
          rintro _ _ H52 ⟨rfl, rfl, hle52⟩
          have hL := Le.trans hL hle52
          have hA := rd.mono hle52 hA
          have hB := rd.mono hle52 hB
          have hle0 := Le.trans hle0 hle52
          have hp := hAt.mono hle52 hp
          have hpr := RdL.mono hle52 hpr
          have hq := hAt.mono hle52 hq
          have hqr := RdL.mono hle52 hqr
          refine TL.assign rfl rfl ?_
          refine TL.nil ?_
          refine TQ.then_n ?_
          refine TC.seq ?_
          refine TC.region ?_
          refine TL.move rfl rfl ?_
          refine TL.not rfl rfl ?_
          refine TL.nil ?_
          refine TQ.then_n ?_
          refine TC.cond_f rfl ?_
          refine TC.skip ?_
          refine TQ.in_n ?_
          refine TQ.then_n ?_
          refine TC.region ?_
          refine TL.move rfl rfl ?_
          refine TL.add rfl rfl rfl ⟨by omega, by omega⟩ ?_
          refine TL.assign rfl rfl ?_
          refine TL.nil ?_
          refine TQ.next (ts.length - (i + 1)) [(2, _), (3, _), (5, _)] (by omega) ⟨rfl, rfl, rfl, trivial⟩ ⟨i + 1, rfl, by omega, by simp, rfl, hle0⟩
        ·
         refine TL.nil ?_
         refine TQ.then_n ?_
         refine TC.cond_f rfl ?_
         refine TC.exit ?_
         refine TQ.then_e ?_
         refine TQ.then_e ?_
         refine TQ.in_e ?_
         refine TQ.then_n ?_
         refine TC.seq ?_
         refine TC.region ?_
         refine TL.assign rfl rfl ?_
         refine TL.nil ?_
         refine TQ.then_n ?_
         refine TC.ret ?_
         refine TQ.ret1 2 rfl rfl ?_
         exact ⟨rfl, rfl, hL⟩
theorem same_fields {ps : List Par} {w0 : World} {H : Hp} {own : List Seg} {va vb : Value} (hA : rd H (.s 5 (Par.ds ps)) va) (hB : rd H (.s 5 (Par.ds ps)) vb) :
    Fn Try.prog 65 [va, vb] w0 H own (fun r own' H' => r = .bool true ∧ own' = own ∧ Le H H') := by
  obtain ⟨A, c, rfl, hc1, hc2⟩ := pars_len hA
  obtain ⟨B, c', rfl, hc1', hc2'⟩ := pars_len hB
  refine Fn.enter Try.func65 rfl Try.ntmps65 rfl ?_
  have hL := Le.refl H
  refine TC.seq ?_
  refine TC.region ?_
  refine TL.assign rfl rfl ?_
  refine TL.nil ?_
  refine TQ.then_n ?_
  refine TC.seq ?_
  refine TC.seq ?_
  refine TC.region ?_
  refine TL.move rfl rfl ?_
  refine TL.len_slice rfl rfl ?_
  refine TL.move rfl rfl ?_
  refine TL.len_slice rfl rfl ?_
  refine TL.neqB rfl rfl rfl (fun hn => ?_) (fun hn => ?_)
  ·
   exact absurd rfl hn -- dead
  ·
   refine TL.nil ?_
   refine TQ.then_n ?_
   refine TC.cond_f rfl ?_
   refine TC.skip ?_
   refine TQ.then_n ?_
   refine TC.seq ?_
   refine TC.seq ?_
   refine TC.region ?_
   refine TL.assign rfl rfl ?_
   refine TL.nil ?_
   refine TQ.then_n ?_
   refine TC.block ?_
   refine TC.loop (fun z env' own' H' => ∃ i : Nat, z = ps.length - i ∧ i ≤ ps.length ∧ env' = [(0, .slice A ps.length c), (1, .slice B ps.length c'), (5, .int .i64 (i : Int))] ∧ own' = own ∧ Le H H') ps.length [(0, _), (1, _), (5, _)] ⟨rfl, rfl, rfl, trivial⟩ ⟨0, by omega, by omega, rfl, rfl, Le.refl _⟩ ?_
   rintro z _ own H1 ⟨i, rfl, hi, rfl, rfl, hle0⟩
   have hL := Le.trans hL hle0
   have hA := rd.mono hle0 hA
   have hB := rd.mono hle0 hB
   refine TC.seq ?_
   refine TC.seq ?_
   refine TC.region ?_
   refine TL.move rfl rfl ?_
   refine TL.move rfl rfl ?_
   refine TL.len_slice rfl rfl ?_
   refine TL.lssB rfl rfl rfl (fun hlt => ?_) (fun hlt => ?_)
   ·
    obtain ⟨x, hx⟩ : ∃ x, ps[i]? = some x := ⟨_, List.getElem?_eq_getElem (by omega)⟩
    obtain ⟨b1, o1, p0, p1, p2, p3, rfl, hp, hpr⟩ := pars_at hA hx
    obtain ⟨b2, o2, q0, q1, q2, q3, rfl, hq, hqr⟩ := pars_at hB hx
    refine TL.nil ?_
    refine TQ.then_n ?_
    refine TC.cond_t rfl ?_
    refine TC.skip ?_
    refine TQ.then_n ?_
    refine TC.seq ?_
    refine TC.block ?_
    refine TC.seq ?_
    refine TC.drawQV 10  [(0, _), (1, _), (5, _)] follows_mixed ⟨rfl, rfl, rfl, trivial⟩ ?_
    refine ChainV.q (some 18) [] (by
     intro H' X F hle
     intro hF
     refine TL.move rfl rfl ?_
     refine TL.nil ?_
     exact TQ.one [] hF (Le.refl _) ⟨rfl, rfl⟩) ?_
    refine ChainV.q (some 19) [] (by
     intro H' X F hle
     intro hF
     refine TL.move rfl rfl ?_
     refine TL.nil ?_
     exact TQ.one [] hF (Le.refl _) ⟨rfl, rfl⟩) ?_
    refine ChainV.q (some 20) [(0, 1), (1, 0)] (by
     intro H' X F hle
     intro hF
     refine TL.indexAddr (i) rfl rfl rfl (by omega) rfl ?_
     refine TL.nil ?_
     exact TQ.one [] hF (Le.refl _) ⟨rfl, rfl⟩) ?_
    refine ChainV.q (some 21) [(2, 0)] (by
     intro H' X F hle
     intro hF
     refine TL.fieldAddr rfl rfl ?_
     refine TL.nil ?_
     exact TQ.one [] hF (Le.refl _) ⟨rfl, rfl⟩) ?_
    refine ChainV.q (some 22) [(3, 0)] (by
     intro H' X F hle
     have hL := Le.trans hL hle
     have hA := rd.mono hle hA
     have hB := rd.mono hle hB
     have hle0 := Le.trans hle0 hle
     have hp := hAt.mono hle hp
     have hpr := RdL.mono hle hpr
     have hq := hAt.mono hle hq
     have hqr := RdL.mono hle hqr
     intro hF
     refine TL.load_immA rfl (hp.2) rfl rfl ?_
     refine TL.nil ?_
     exact TQ.one [] hF (Le.refl _) ⟨rfl, rfl⟩) ?_
    refine ChainV.q (some 23) [] (by
     intro H' X F hle
     intro hF
     refine TL.move rfl rfl ?_
     refine TL.nil ?_
     exact TQ.one [] hF (Le.refl _) ⟨rfl, rfl⟩) ?_
    refine ChainV.q (some 24) [] (by
     intro H' X F hle
     intro hF
     refine TL.move rfl rfl ?_
     refine TL.nil ?_
     exact TQ.one [] hF (Le.refl _) ⟨rfl, rfl⟩) ?_
    refine ChainV.q (some 25) [(5, 1), (6, 0)] (by
     intro H' X F hle
     intro hF
     refine TL.indexAddr (i) rfl rfl rfl (by omega) rfl ?_
     refine TL.nil ?_
     exact TQ.one [] hF (Le.refl _) ⟨rfl, rfl⟩) ?_
    refine ChainV.q (some 26) [(7, 0)] (by
     intro H' X F hle
     intro hF
     refine TL.fieldAddr rfl rfl ?_
     refine TL.nil ?_
     exact TQ.one [] hF (Le.refl _) ⟨rfl, rfl⟩) ?_
    refine ChainV.q (some 27) [(8, 0)] (by
     intro H' X F hle
     have hL := Le.trans hL hle
     have hA := rd.mono hle hA
     have hB := rd.mono hle hB
     have hle0 := Le.trans hle0 hle
     have hp := hAt.mono hle hp
     have hpr := RdL.mono hle hpr
     have hq := hAt.mono hle hq
     have hqr := RdL.mono hle hqr
     intro hF
     refine TL.load_immA rfl (hq.2) rfl rfl ?_
     refine TL.nil ?_
     exact TQ.one [] hF (Le.refl _) ⟨rfl, rfl⟩) ?_
    refine ⟨by kernel_rfl, .refl _, ?_⟩
    ·
     intro H1 hle
     have hL := Le.trans hL hle
     have hA := rd.mono hle hA
     have hB := rd.mono hle hB
     have hle0 := Le.trans hle0 hle
     have hp := hAt.mono hle hp
     have hpr := RdL.mono hle hpr
     have hq := hAt.mono hle hq
     have hqr := RdL.mono hle hqr
     refine TL.toOwn (own' := own) rfl ?_
     refine TL.wk (env' := [(0, _), (1, _), (5, _), (22, _), (27, _)]) ⟨rfl, rfl, rfl, rfl, rfl, trivial⟩ ?_
     refine TL.call (same_type _ x.ty (Nat.le_refl _) hpr hqr) ⟨rfl, rfl, trivial⟩ rfl ?_
     rintro _ own H28 ⟨rfl, rfl, hle28⟩
     have hL := Le.trans hL hle28
     have hA := rd.mono hle28 hA
     have hB := rd.mono hle28 hB
     have hle0 := Le.trans hle0 hle28
     have hp := hAt.mono hle28 hp
     have hpr := RdL.mono hle28 hpr
     have hq := hAt.mono hle28 hq
     have hqr := RdL.mono hle28 hqr
     refine TL.assign rfl rfl ?_
     refine TL.nil ?_
     refine TQ.then_n ?_
     refine TC.seq ?_
     refine TC.drawQV 13  [(0, _), (1, _), (5, _), (6, _)] follows_mixed ⟨rfl, rfl, rfl, rfl, trivial⟩ ?_
     refine ChainV.q (some 29) [] (by
      intro H' X F hle
      intro hF
      refine TL.move rfl rfl ?_
      refine TL.nil ?_
      exact TQ.one [] hF (Le.refl _) ⟨rfl, rfl⟩) ?_
     refine ChainV.q (some 30) [(0, 0)] (by
      intro H' X F hle
      intro hF
      refine TL.not rfl rfl ?_
      refine TL.nil ?_
      exact TQ.one [] hF (Le.refl _) ⟨rfl, rfl⟩) ?_
     refine ChainV.q (some 31) [(1, 0)] (by
      intro H' X F hle
      intro hF
      refine TL.move rfl rfl ?_
      refine TL.nil ?_
      exact TQ.one [] hF (Le.refl _) ⟨rfl, rfl⟩) ?_
     refine ChainV.q (some 32) [(2, 0)] (by
      intro H' X F hle
      intro hF
      refine TL.gyes rfl rfl rfl ?_
      refine TL.move rfl rfl ?_
      refine TL.nil ?_
      exact TQ.one [] hF (Le.refl _) ⟨rfl, rfl⟩) ?_
     refine ChainV.q (some 33) [(2, 1)] (by
      intro H' X F hle
      intro hF
      refine TL.gyes rfl rfl rfl ?_
      refine TL.move rfl rfl ?_
      refine TL.nil ?_
      exact TQ.one [] hF (Le.refl _) ⟨rfl, rfl⟩) ?_
     refine ChainV.q (some 34) [(3, 1), (4, 0), (2, 2)] (by
      intro H' X F hle
      intro hF
      refine TL.gyes rfl rfl rfl ?_
      refine TL.indexAddr (i) rfl rfl rfl (by omega) rfl ?_
      refine TL.nil ?_
      exact TQ.one [] hF (Le.refl _) ⟨rfl, rfl⟩) ?_
     refine ChainV.q (some 35) [(5, 0), (2, 3)] (by
      intro H' X F hle
      intro hF
      refine TL.gyes rfl rfl rfl ?_
      refine TL.fieldAddr rfl rfl ?_
      refine TL.nil ?_
      exact TQ.one [] hF (Le.refl _) ⟨rfl, rfl⟩) ?_
     refine ChainV.q (some 36) [(6, 0), (2, 4)] (by
      intro H' X F hle
      have hL := Le.trans hL hle
      have hA := rd.mono hle hA
      have hB := rd.mono hle hB
      have hle0 := Le.trans hle0 hle
      have hp := hAt.mono hle hp
      have hpr := RdL.mono hle hpr
      have hq := hAt.mono hle hq
      have hqr := RdL.mono hle hqr
      intro hF
      refine TL.gyes rfl rfl rfl ?_
      refine TL.load_imm rfl (hp.1) rfl ?_
      refine TL.nil ?_
      exact TQ.one [] hF (Le.refl _) ⟨rfl, rfl⟩) ?_
     refine ChainV.q (some 37) [(2, 5)] (by
      intro H' X F hle
      intro hF
      refine TL.gyes rfl rfl rfl ?_
      refine TL.move rfl rfl ?_
      refine TL.nil ?_
      exact TQ.one [] hF (Le.refl _) ⟨rfl, rfl⟩) ?_
     refine ChainV.q (some 38) [(2, 6)] (by
      intro H' X F hle
      intro hF
      refine TL.gyes rfl rfl rfl ?_
      refine TL.move rfl rfl ?_
      refine TL.nil ?_
      exact TQ.one [] hF (Le.refl _) ⟨rfl, rfl⟩) ?_
     refine ChainV.q (some 39) [(8, 1), (9, 0), (2, 7)] (by
      intro H' X F hle
      intro hF
      refine TL.gyes rfl rfl rfl ?_
      refine TL.indexAddr (i) rfl rfl rfl (by omega) rfl ?_
      refine TL.nil ?_
      exact TQ.one [] hF (Le.refl _) ⟨rfl, rfl⟩) ?_
     refine ChainV.q (some 40) [(10, 0), (2, 8)] (by
      intro H' X F hle
      intro hF
      refine TL.gyes rfl rfl rfl ?_
      refine TL.fieldAddr rfl rfl ?_
      refine TL.nil ?_
      exact TQ.one [] hF (Le.refl _) ⟨rfl, rfl⟩) ?_
     refine ChainV.q (some 41) [(11, 0), (2, 9)] (by
      intro H' X F hle
      have hL := Le.trans hL hle
      have hA := rd.mono hle hA
      have hB := rd.mono hle hB
      have hle0 := Le.trans hle0 hle
      have hp := hAt.mono hle hp
      have hpr := RdL.mono hle hpr
      have hq := hAt.mono hle hq
      have hqr := RdL.mono hle hqr
      intro hF
      refine TL.gyes rfl rfl rfl ?_
      refine TL.load_imm rfl (hq.1) rfl ?_
      refine TL.nil ?_
      exact TQ.one [] hF (Le.refl _) ⟨rfl, rfl⟩) ?_
     refine ⟨by kernel_rfl, .refl _, ?_⟩
     ·
      intro H2 hle
      have hL := Le.trans hL hle
      have hA := rd.mono hle hA
      have hB := rd.mono hle hB
      have hle0 := Le.trans hle0 hle
      have hp := hAt.mono hle hp
      have hpr := RdL.mono hle hpr
      have hq := hAt.mono hle hq
      have hqr := RdL.mono hle hqr
      refine TL.toOwn (own' := own) rfl ?_
      refine TL.wk (env' := [(0, _), (1, _), (5, _), (31, _), (36, _), (41, _)]) ⟨rfl, rfl, rfl, rfl, rfl, rfl, trivial⟩ ?_
      refine TL.gyes rfl rfl rfl ?_
      refine TL.neqS rfl rfl rfl ?_
      rw [decide_eq_false (show ¬ (x.nm ≠ x.nm) by simp)]
      refine TL.pickF rfl rfl rfl rfl ?_
      refine TL.nil ?_
      refine TQ.then_n ?_
      refine TC.cond_f rfl ?_
      refine TC.skip ?_
      refine TQ.in_n ?_
      refine TQ.then_n ?_
      refine TC.region ?_
      refine TL.move rfl rfl ?_
      refine TL.add rfl rfl rfl ⟨by omega, by omega⟩ ?_
      refine TL.assign rfl rfl ?_
      refine TL.nil ?_
      refine TQ.next (ps.length - (i + 1)) [(0, _), (1, _), (5, _)] (by omega) ⟨rfl, rfl, rfl, trivial⟩ ⟨i + 1, rfl, by omega, by simp, rfl, hle0⟩
   ·
    refine TL.nil ?_
    refine TQ.then_n ?_
    refine TC.cond_f rfl ?_
    refine TC.exit ?_
    refine TQ.then_e ?_
    refine TQ.then_e ?_
    refine TQ.in_e ?_
    refine TQ.then_n ?_
    refine TC.seq ?_
    refine TC.region ?_
    refine TL.assign rfl rfl ?_
    refine TL.nil ?_
    refine TQ.then_n ?_
    refine TC.ret ?_
    refine TQ.ret1 0 rfl rfl ?_
    exact ⟨rfl, rfl, hL⟩
theorem same_exprs (k : Nat) : ∀ (l : List Ex), Ex.sizes l ≤ k → ∀ {w0 : World} {H : Hp} {own : List Seg} {va vb : Value}, rd H (.s 4 (Ex.ds l)) va → rd H (.s 4 (Ex.ds l)) vb →
    Fn Try.prog 99 [va, vb] w0 H own (fun r own' H' => r = .bool true ∧ own' = own ∧ Le H H') := by
  induction k using Nat.strongRecOn with
  | _ k ih =>
  intro l hk w0 H own va vb hA hB
  obtain ⟨A, c, rfl, hc1, hc2⟩ := exs_len hA
  obtain ⟨B, c', rfl, hc1', hc2'⟩ := exs_len hB
  refine Fn.enter Try.func99 rfl Try.ntmps99 rfl ?_
  have hL := Le.refl H
  refine TC.seq ?_
  refine TC.region ?_
  refine TL.assign rfl rfl ?_
  refine TL.nil ?_
  refine TQ.then_n ?_
  refine TC.seq ?_
  refine TC.seq ?_
  refine TC.region ?_
  refine TL.move rfl rfl ?_
  refine TL.len_slice rfl rfl ?_
  refine TL.move rfl rfl ?_
  refine TL.len_slice rfl rfl ?_
  refine TL.neqB rfl rfl rfl (fun hn => ?_) (fun hn => ?_)
  ·
   exact absurd rfl hn -- dead
  ·
   refine TL.nil ?_
   refine TQ.then_n ?_
   refine TC.cond_f rfl ?_
   refine TC.skip ?_
   refine TQ.then_n ?_
   refine TC.seq ?_
   refine TC.seq ?_
   refine TC.region ?_
   refine TL.assign rfl rfl ?_
   refine TL.nil ?_
   refine TQ.then_n ?_
   refine TC.block ?_
   refine TC.loop (fun z env' own' H' => ∃ i : Nat, z = l.length - i ∧ i ≤ l.length ∧ env' = [(0, .slice A l.length c), (1, .slice B l.length c'), (5, .int .i64 (i : Int))] ∧ own' = own ∧ Le H H') l.length [(0, _), (1, _), (5, _)] ⟨rfl, rfl, rfl, trivial⟩ ⟨0, by omega, by omega, rfl, rfl, Le.refl _⟩ ?_
   rintro z _ own H1 ⟨i, rfl, hi, rfl, rfl, hle0⟩
   have hL := Le.trans hL hle0
   have hA := rd.mono hle0 hA
   have hB := rd.mono hle0 hB
   refine TC.seq ?_
   refine TC.seq ?_
   refine TC.region ?_
   refine TL.move rfl rfl ?_
   refine TL.move rfl rfl ?_
   refine TL.len_slice rfl rfl ?_
   refine TL.lssB rfl rfl rfl (fun hlt => ?_) (fun hlt => ?_)
   ·
    obtain ⟨x, hx⟩ : ∃ x, l[i]? = some x := ⟨_, List.getElem?_eq_getElem (by omega)⟩
    have hxs := Ex.size_mem (List.mem_of_getElem? hx)
    obtain ⟨sk, snm, sn, sks⟩ := x
    simp only [Ex.size] at hxs
    obtain ⟨b1, o1, va, rfl, hp, hva⟩ := exs_at hA hx
    obtain ⟨b2, o2, vb, rfl, hq, hvb⟩ := exs_at hB hx
    refine TL.nil ?_
    refine TQ.then_n ?_
    refine TC.cond_t rfl ?_
    refine TC.skip ?_
    refine TQ.then_n ?_
    refine TC.seq ?_
    refine TC.block ?_
    refine TC.seq ?_
    refine TC.drawQV 10  [(0, _), (1, _), (5, _)] follows_mixed ⟨rfl, rfl, rfl, trivial⟩ ?_
    refine ChainV.q (some 18) [] (by
     intro H' X F hle
     intro hF
     refine TL.move rfl rfl ?_
     refine TL.nil ?_
     exact TQ.one [] hF (Le.refl _) ⟨rfl, rfl⟩) ?_
    refine ChainV.q (some 19) [] (by
     intro H' X F hle
     intro hF
     refine TL.move rfl rfl ?_
     refine TL.nil ?_
     exact TQ.one [] hF (Le.refl _) ⟨rfl, rfl⟩) ?_
    refine ChainV.q (some 20) [(0, 1), (1, 0)] (by
     intro H' X F hle
     intro hF
     refine TL.indexAddr (i) rfl rfl rfl (by omega) rfl ?_
     refine TL.nil ?_
     exact TQ.one [] hF (Le.refl _) ⟨rfl, rfl⟩) ?_
    refine ChainV.q (some 21) [(2, 0)] (by
     intro H' X F hle
     intro hF
     refine TL.fieldAddr rfl rfl ?_
     refine TL.nil ?_
     exact TQ.one [] hF (Le.refl _) ⟨rfl, rfl⟩) ?_
    refine ChainV.q (some 22) [(3, 0)] (by
     intro H' X F hle
     have hL := Le.trans hL hle
     have hA := rd.mono hle hA
     have hB := rd.mono hle hB
     have hle0 := Le.trans hle0 hle
     have hp := hAt.mono hle hp
     have hva := rd.mono hle hva
     have hq := hAt.mono hle hq
     have hvb := rd.mono hle hvb
     intro hF
     refine TL.load_imm rfl (hp.2.2.2.1) rfl ?_
     refine TL.nil ?_
     exact TQ.one [] hF (Le.refl _) ⟨rfl, rfl⟩) ?_
    refine ChainV.q (some 23) [] (by
     intro H' X F hle
     intro hF
     refine TL.move rfl rfl ?_
     refine TL.nil ?_
     exact TQ.one [] hF (Le.refl _) ⟨rfl, rfl⟩) ?_
    refine ChainV.q (some 24) [] (by
     intro H' X F hle
     intro hF
     refine TL.move rfl rfl ?_
     refine TL.nil ?_
     exact TQ.one [] hF (Le.refl _) ⟨rfl, rfl⟩) ?_
    refine ChainV.q (some 25) [(5, 1), (6, 0)] (by
     intro H' X F hle
     intro hF
     refine TL.indexAddr (i) rfl rfl rfl (by omega) rfl ?_
     refine TL.nil ?_
     exact TQ.one [] hF (Le.refl _) ⟨rfl, rfl⟩) ?_
    refine ChainV.q (some 26) [(7, 0)] (by
     intro H' X F hle
     intro hF
     refine TL.fieldAddr rfl rfl ?_
     refine TL.nil ?_
     exact TQ.one [] hF (Le.refl _) ⟨rfl, rfl⟩) ?_
    refine ChainV.q (some 27) [(8, 0)] (by
     intro H' X F hle
     have hL := Le.trans hL hle
     have hA := rd.mono hle hA
     have hB := rd.mono hle hB
     have hle0 := Le.trans hle0 hle
     have hp := hAt.mono hle hp
     have hva := rd.mono hle hva
     have hq := hAt.mono hle hq
     have hvb := rd.mono hle hvb
     intro hF
     refine TL.load_imm rfl (hq.2.2.2.1) rfl ?_
     refine TL.nil ?_
     exact TQ.one [] hF (Le.refl _) ⟨rfl, rfl⟩) ?_
    refine ⟨by kernel_rfl, .refl _, ?_⟩
    ·
     intro H1 hle
     have hL := Le.trans hL hle
     have hA := rd.mono hle hA
     have hB := rd.mono hle hB
     have hle0 := Le.trans hle0 hle
     have hp := hAt.mono hle hp
     have hva := rd.mono hle hva
     have hq := hAt.mono hle hq
     have hvb := rd.mono hle hvb
     refine TL.toOwn (own' := own) rfl ?_
     refine TL.wk (env' := [(0, _), (1, _), (5, _), (22, _), (27, _)]) ⟨rfl, rfl, rfl, rfl, rfl, trivial⟩ ?_
     refine TL.call (ih (k - 1) (by omega) sks (by omega) hva hvb) ⟨rfl, rfl, trivial⟩ rfl ?_
     rintro _ own H28 ⟨rfl, rfl, hle28⟩
     have hL := Le.trans hL hle28
     have hA := rd.mono hle28 hA
     have hB := rd.mono hle28 hB
     have hle0 := Le.trans hle0 hle28
     have hp := hAt.mono hle28 hp
     have hva := rd.mono hle28 hva
     have hq := hAt.mono hle28 hq
     have hvb := rd.mono hle28 hvb
     refine TL.assign rfl rfl ?_
     refine TL.nil ?_
     refine TQ.then_n ?_
     refine TC.seq ?_
     refine TC.drawQV 39  [(0, _), (1, _), (5, _), (6, _)] follows_mixed ⟨rfl, rfl, rfl, rfl, trivial⟩ ?_
     refine ChainV.q (some 29) [] (by
      intro H' X F hle
      intro hF
      refine TL.move rfl rfl ?_
      refine TL.nil ?_
      exact TQ.one [] hF (Le.refl _) ⟨rfl, rfl⟩) ?_
     refine ChainV.q (some 30) [(0, 0)] (by
      intro H' X F hle
      intro hF
      refine TL.not rfl rfl ?_
      refine TL.nil ?_
      exact TQ.one [] hF (Le.refl _) ⟨rfl, rfl⟩) ?_
     refine ChainV.q (some 31) [(1, 0)] (by
      intro H' X F hle
      intro hF
      refine TL.move rfl rfl ?_
      refine TL.nil ?_
      exact TQ.one [] hF (Le.refl _) ⟨rfl, rfl⟩) ?_
     refine ChainV.q (some 32) [(2, 0)] (by
      intro H' X F hle
      intro hF
      refine TL.gyes rfl rfl rfl ?_
      refine TL.move rfl rfl ?_
      refine TL.nil ?_
      exact TQ.one [] hF (Le.refl _) ⟨rfl, rfl⟩) ?_
     refine ChainV.q (some 33) [(2, 1)] (by
      intro H' X F hle
      intro hF
      refine TL.gyes rfl rfl rfl ?_
      refine TL.move rfl rfl ?_
      refine TL.nil ?_
      exact TQ.one [] hF (Le.refl _) ⟨rfl, rfl⟩) ?_
     refine ChainV.q (some 34) [(3, 1), (4, 0), (2, 2)] (by
      intro H' X F hle
      intro hF
      refine TL.gyes rfl rfl rfl ?_
      refine TL.indexAddr (i) rfl rfl rfl (by omega) rfl ?_
      refine TL.nil ?_
      exact TQ.one [] hF (Le.refl _) ⟨rfl, rfl⟩) ?_
     refine ChainV.q (some 35) [(5, 0), (2, 3)] (by
      intro H' X F hle
      intro hF
      refine TL.gyes rfl rfl rfl ?_
      refine TL.fieldAddr rfl rfl ?_
      refine TL.nil ?_
      exact TQ.one [] hF (Le.refl _) ⟨rfl, rfl⟩) ?_
     refine ChainV.q (some 36) [(6, 0), (2, 4)] (by
      intro H' X F hle
      have hL := Le.trans hL hle
      have hA := rd.mono hle hA
      have hB := rd.mono hle hB
      have hle0 := Le.trans hle0 hle
      have hp := hAt.mono hle hp
      have hva := rd.mono hle hva
      have hq := hAt.mono hle hq
      have hvb := rd.mono hle hvb
      intro hF
      refine TL.gyes rfl rfl rfl ?_
      refine TL.load_imm rfl (hp.1) rfl ?_
      refine TL.nil ?_
      exact TQ.one [] hF (Le.refl _) ⟨rfl, rfl⟩) ?_
     refine ChainV.q (some 37) [(2, 5)] (by
      intro H' X F hle
      intro hF
      refine TL.gyes rfl rfl rfl ?_
      refine TL.move rfl rfl ?_
      refine TL.nil ?_
      exact TQ.one [] hF (Le.refl _) ⟨rfl, rfl⟩) ?_
     refine ChainV.q (some 38) [(2, 6)] (by
      intro H' X F hle
      intro hF
      refine TL.gyes rfl rfl rfl ?_
      refine TL.move rfl rfl ?_
      refine TL.nil ?_
      exact TQ.one [] hF (Le.refl _) ⟨rfl, rfl⟩) ?_
     refine ChainV.q (some 39) [(8, 1), (9, 0), (2, 7)] (by
      intro H' X F hle
      intro hF
      refine TL.gyes rfl rfl rfl ?_
      refine TL.indexAddr (i) rfl rfl rfl (by omega) rfl ?_
      refine TL.nil ?_
      exact TQ.one [] hF (Le.refl _) ⟨rfl, rfl⟩) ?_
     refine ChainV.q (some 40) [(10, 0), (2, 8)] (by
      intro H' X F hle
      intro hF
      refine TL.gyes rfl rfl rfl ?_
      refine TL.fieldAddr rfl rfl ?_
      refine TL.nil ?_
      exact TQ.one [] hF (Le.refl _) ⟨rfl, rfl⟩) ?_
     refine ChainV.q (some 41) [(11, 0), (2, 9)] (by
      intro H' X F hle
      have hL := Le.trans hL hle
      have hA := rd.mono hle hA
      have hB := rd.mono hle hB
      have hle0 := Le.trans hle0 hle
      have hp := hAt.mono hle hp
      have hva := rd.mono hle hva
      have hq := hAt.mono hle hq
      have hvb := rd.mono hle hvb
      intro hF
      refine TL.gyes rfl rfl rfl ?_
      refine TL.load_imm rfl (hq.1) rfl ?_
      refine TL.nil ?_
      exact TQ.one [] hF (Le.refl _) ⟨rfl, rfl⟩) ?_
     refine ChainV.q (some 42) [(7, 5), (12, 0), (2, 10)] (by
      intro H' X F hle
      have hL := Le.trans hL hle
      have hA := rd.mono hle hA
      have hB := rd.mono hle hB
      have hle0 := Le.trans hle0 hle
      have hp := hAt.mono hle hp
      have hva := rd.mono hle hva
      have hq := hAt.mono hle hq
      have hvb := rd.mono hle hvb
      intro hF
      refine TL.gyes rfl rfl rfl ?_
      refine TL.neq rfl rfl rfl ?_
      rw [decide_eq_false (show ¬ (sk ≠ sk) by simp)]
      refine TL.nil ?_
      exact TQ.one [] hF (Le.refl _) ⟨rfl, rfl⟩) ?_
     refine ChainV.q (some 43) [(2, 11), (13, 0)] (by
      intro H' X F hle
      intro hF
      refine TL.pickF rfl rfl rfl rfl ?_
      refine TL.nil ?_
      exact TQ.one [] hF (Le.refl _) ⟨rfl, rfl⟩) ?_
     refine ChainV.q (some 44) [(14, 0)] (by
      intro H' X F hle
      intro hF
      refine TL.move rfl rfl ?_
      refine TL.nil ?_
      exact TQ.one [] hF (Le.refl _) ⟨rfl, rfl⟩) ?_
     refine ChainV.q (some 45) [(15, 0)] (by
      intro H' X F hle
      intro hF
      refine TL.gyes rfl rfl rfl ?_
      refine TL.move rfl rfl ?_
      refine TL.nil ?_
      exact TQ.one [] hF (Le.refl _) ⟨rfl, rfl⟩) ?_
     refine ChainV.q (some 46) [(15, 1)] (by
      intro H' X F hle
      intro hF
      refine TL.gyes rfl rfl rfl ?_
      refine TL.move rfl rfl ?_
      refine TL.nil ?_
      exact TQ.one [] hF (Le.refl _) ⟨rfl, rfl⟩) ?_
     refine ChainV.q (some 47) [(16, 1), (17, 0), (15, 2)] (by
      intro H' X F hle
      intro hF
      refine TL.gyes rfl rfl rfl ?_
      refine TL.indexAddr (i) rfl rfl rfl (by omega) rfl ?_
      refine TL.nil ?_
      exact TQ.one [] hF (Le.refl _) ⟨rfl, rfl⟩) ?_
     refine ChainV.q (some 48) [(18, 0), (15, 3)] (by
      intro H' X F hle
      intro hF
      refine TL.gyes rfl rfl rfl ?_
      refine TL.fieldAddr rfl rfl ?_
      refine TL.nil ?_
      exact TQ.one [] hF (Le.refl _) ⟨rfl, rfl⟩) ?_
     refine ChainV.q (some 49) [(19, 0), (15, 4)] (by
      intro H' X F hle
      have hL := Le.trans hL hle
      have hA := rd.mono hle hA
      have hB := rd.mono hle hB
      have hle0 := Le.trans hle0 hle
      have hp := hAt.mono hle hp
      have hva := rd.mono hle hva
      have hq := hAt.mono hle hq
      have hvb := rd.mono hle hvb
      intro hF
      refine TL.gyes rfl rfl rfl ?_
      refine TL.load_imm rfl (hp.2.2.1) rfl ?_
      refine TL.nil ?_
      exact TQ.one [] hF (Le.refl _) ⟨rfl, rfl⟩) ?_
     refine ChainV.q (some 50) [(15, 5)] (by
      intro H' X F hle
      intro hF
      refine TL.gyes rfl rfl rfl ?_
      refine TL.move rfl rfl ?_
      refine TL.nil ?_
      exact TQ.one [] hF (Le.refl _) ⟨rfl, rfl⟩) ?_
     refine ChainV.q (some 51) [(15, 6)] (by
      intro H' X F hle
      intro hF
      refine TL.gyes rfl rfl rfl ?_
      refine TL.move rfl rfl ?_
      refine TL.nil ?_
      exact TQ.one [] hF (Le.refl _) ⟨rfl, rfl⟩) ?_
     refine ChainV.q (some 52) [(21, 1), (22, 0), (15, 7)] (by
      intro H' X F hle
      intro hF
      refine TL.gyes rfl rfl rfl ?_
      refine TL.indexAddr (i) rfl rfl rfl (by omega) rfl ?_
      refine TL.nil ?_
      exact TQ.one [] hF (Le.refl _) ⟨rfl, rfl⟩) ?_
     refine ChainV.q (some 53) [(23, 0), (15, 8)] (by
      intro H' X F hle
      intro hF
      refine TL.gyes rfl rfl rfl ?_
      refine TL.fieldAddr rfl rfl ?_
      refine TL.nil ?_
      exact TQ.one [] hF (Le.refl _) ⟨rfl, rfl⟩) ?_
     refine ChainV.q (some 54) [(24, 0), (15, 9)] (by
      intro H' X F hle
      have hL := Le.trans hL hle
      have hA := rd.mono hle hA
      have hB := rd.mono hle hB
      have hle0 := Le.trans hle0 hle
      have hp := hAt.mono hle hp
      have hva := rd.mono hle hva
      have hq := hAt.mono hle hq
      have hvb := rd.mono hle hvb
      intro hF
      refine TL.gyes rfl rfl rfl ?_
      refine TL.load_imm rfl (hq.2.2.1) rfl ?_
      refine TL.nil ?_
      exact TQ.one [] hF (Le.refl _) ⟨rfl, rfl⟩) ?_
     refine ChainV.q (some 55) [(20, 5), (25, 0), (15, 10)] (by
      intro H' X F hle
      have hL := Le.trans hL hle
      have hA := rd.mono hle hA
      have hB := rd.mono hle hB
      have hle0 := Le.trans hle0 hle
      have hp := hAt.mono hle hp
      have hva := rd.mono hle hva
      have hq := hAt.mono hle hq
      have hvb := rd.mono hle hvb
      intro hF
      refine TL.gyes rfl rfl rfl ?_
      refine TL.neq rfl rfl rfl ?_
      rw [decide_eq_false (show ¬ (sn ≠ sn) by simp)]
      refine TL.nil ?_
      exact TQ.one [] hF (Le.refl _) ⟨rfl, rfl⟩) ?_
     refine ChainV.q (some 56) [(15, 11), (26, 0)] (by
      intro H' X F hle
      intro hF
      refine TL.pickF rfl rfl rfl rfl ?_
      refine TL.nil ?_
      exact TQ.one [] hF (Le.refl _) ⟨rfl, rfl⟩) ?_
     refine ChainV.q (some 57) [(27, 0)] (by
      intro H' X F hle
      intro hF
      refine TL.move rfl rfl ?_
      refine TL.nil ?_
      exact TQ.one [] hF (Le.refl _) ⟨rfl, rfl⟩) ?_
     refine ChainV.q (some 58) [(28, 0)] (by
      intro H' X F hle
      intro hF
      refine TL.gyes rfl rfl rfl ?_
      refine TL.move rfl rfl ?_
      refine TL.nil ?_
      exact TQ.one [] hF (Le.refl _) ⟨rfl, rfl⟩) ?_
     refine ChainV.q (some 59) [(28, 1)] (by
      intro H' X F hle
      intro hF
      refine TL.gyes rfl rfl rfl ?_
      refine TL.move rfl rfl ?_
      refine TL.nil ?_
      exact TQ.one [] hF (Le.refl _) ⟨rfl, rfl⟩) ?_
     refine ChainV.q (some 60) [(29, 1), (30, 0), (28, 2)] (by
      intro H' X F hle
      intro hF
      refine TL.gyes rfl rfl rfl ?_
      refine TL.indexAddr (i) rfl rfl rfl (by omega) rfl ?_
      refine TL.nil ?_
      exact TQ.one [] hF (Le.refl _) ⟨rfl, rfl⟩) ?_
     refine ChainV.q (some 61) [(31, 0), (28, 3)] (by
      intro H' X F hle
      intro hF
      refine TL.gyes rfl rfl rfl ?_
      refine TL.fieldAddr rfl rfl ?_
      refine TL.nil ?_
      exact TQ.one [] hF (Le.refl _) ⟨rfl, rfl⟩) ?_
     refine ChainV.q (some 62) [(32, 0), (28, 4)] (by
      intro H' X F hle
      have hL := Le.trans hL hle
      have hA := rd.mono hle hA
      have hB := rd.mono hle hB
      have hle0 := Le.trans hle0 hle
      have hp := hAt.mono hle hp
      have hva := rd.mono hle hva
      have hq := hAt.mono hle hq
      have hvb := rd.mono hle hvb
      intro hF
      refine TL.gyes rfl rfl rfl ?_
      refine TL.load_imm rfl (hp.2.1) rfl ?_
      refine TL.nil ?_
      exact TQ.one [] hF (Le.refl _) ⟨rfl, rfl⟩) ?_
     refine ChainV.q (some 63) [(28, 5)] (by
      intro H' X F hle
      intro hF
      refine TL.gyes rfl rfl rfl ?_
      refine TL.move rfl rfl ?_
      refine TL.nil ?_
      exact TQ.one [] hF (Le.refl _) ⟨rfl, rfl⟩) ?_
     refine ChainV.q (some 64) [(28, 6)] (by
      intro H' X F hle
      intro hF
      refine TL.gyes rfl rfl rfl ?_
      refine TL.move rfl rfl ?_
      refine TL.nil ?_
      exact TQ.one [] hF (Le.refl _) ⟨rfl, rfl⟩) ?_
     refine ChainV.q (some 65) [(34, 1), (35, 0), (28, 7)] (by
      intro H' X F hle
      intro hF
      refine TL.gyes rfl rfl rfl ?_
      refine TL.indexAddr (i) rfl rfl rfl (by omega) rfl ?_
      refine TL.nil ?_
      exact TQ.one [] hF (Le.refl _) ⟨rfl, rfl⟩) ?_
     refine ChainV.q (some 66) [(36, 0), (28, 8)] (by
      intro H' X F hle
      intro hF
      refine TL.gyes rfl rfl rfl ?_
      refine TL.fieldAddr rfl rfl ?_
      refine TL.nil ?_
      exact TQ.one [] hF (Le.refl _) ⟨rfl, rfl⟩) ?_
     refine ChainV.q (some 67) [(37, 0), (28, 9)] (by
      intro H' X F hle
      have hL := Le.trans hL hle
      have hA := rd.mono hle hA
      have hB := rd.mono hle hB
      have hle0 := Le.trans hle0 hle
      have hp := hAt.mono hle hp
      have hva := rd.mono hle hva
      have hq := hAt.mono hle hq
      have hvb := rd.mono hle hvb
      intro hF
      refine TL.gyes rfl rfl rfl ?_
      refine TL.load_imm rfl (hq.2.1) rfl ?_
      refine TL.nil ?_
      exact TQ.one [] hF (Le.refl _) ⟨rfl, rfl⟩) ?_
     refine ⟨by kernel_rfl, .refl _, ?_⟩
     ·
      intro H2 hle
      have hL := Le.trans hL hle
      have hA := rd.mono hle hA
      have hB := rd.mono hle hB
      have hle0 := Le.trans hle0 hle
      have hp := hAt.mono hle hp
      have hva := rd.mono hle hva
      have hq := hAt.mono hle hq
      have hvb := rd.mono hle hvb
      refine TL.toOwn (own' := own) rfl ?_
      refine TL.wk (env' := [(0, _), (1, _), (5, _), (57, _), (62, _), (67, _)]) ⟨rfl, rfl, rfl, rfl, rfl, rfl, trivial⟩ ?_
      refine TL.gyes rfl rfl rfl ?_
      refine TL.neqS rfl rfl rfl ?_
      rw [decide_eq_false (show ¬ (snm ≠ snm) by simp)]
      refine TL.pickF rfl rfl rfl rfl ?_
      refine TL.nil ?_
      refine TQ.then_n ?_
      refine TC.cond_f rfl ?_
      refine TC.skip ?_
      refine TQ.in_n ?_
      refine TQ.then_n ?_
      refine TC.region ?_
      refine TL.move rfl rfl ?_
      refine TL.add rfl rfl rfl ⟨by omega, by omega⟩ ?_
      refine TL.assign rfl rfl ?_
      refine TL.nil ?_
      refine TQ.next (l.length - (i + 1)) [(0, _), (1, _), (5, _)] (by omega) ⟨rfl, rfl, rfl, trivial⟩ ⟨i + 1, rfl, by omega, by simp, rfl, hle0⟩
   ·
    refine TL.nil ?_
    refine TQ.then_n ?_
    refine TC.cond_f rfl ?_
    refine TC.exit ?_
    refine TQ.then_e ?_
    refine TQ.then_e ?_
    refine TQ.in_e ?_
    refine TQ.then_n ?_
    refine TC.seq ?_
    refine TC.region ?_
    refine TL.assign rfl rfl ?_
    refine TL.nil ?_
    refine TQ.then_n ?_
    refine TC.ret ?_
    refine TQ.ret1 0 rfl rfl ?_
    exact ⟨rfl, rfl, hL⟩
theorem same_stmts (k : Nat) : ∀ (l : List Sm), Sm.sizes l ≤ k → ∀ {w0 : World} {H : Hp} {own : List Seg} {va vb : Value}, rd H (.s 11 (Sm.ds l)) va → rd H (.s 11 (Sm.ds l)) vb →
    Fn Try.prog 90 [va, vb] w0 H own (fun r own' H' => r = .bool true ∧ own' = own ∧ Le H H') := by
  induction k using Nat.strongRecOn with
  | _ k ih =>
  intro l hk w0 H own va vb hA hB
  obtain ⟨A, c, rfl, hc1, hc2⟩ := sms_len hA
  obtain ⟨B, c', rfl, hc1', hc2'⟩ := sms_len hB
  refine Fn.enter Try.func90 rfl Try.ntmps90 rfl ?_
  have hL := Le.refl H
  refine TC.seq ?_
  refine TC.region ?_
  refine TL.assign rfl rfl ?_
  refine TL.nil ?_
  refine TQ.then_n ?_
  refine TC.seq ?_
  refine TC.seq ?_
  refine TC.region ?_
  refine TL.move rfl rfl ?_
  refine TL.len_slice rfl rfl ?_
  refine TL.move rfl rfl ?_
  refine TL.len_slice rfl rfl ?_
  refine TL.neqB rfl rfl rfl (fun hn => ?_) (fun hn => ?_)
  ·
   exact absurd rfl hn -- dead
  ·
   refine TL.nil ?_
   refine TQ.then_n ?_
   refine TC.cond_f rfl ?_
   refine TC.skip ?_
   refine TQ.then_n ?_
   refine TC.seq ?_
   refine TC.seq ?_
   refine TC.region ?_
   refine TL.assign rfl rfl ?_
   refine TL.nil ?_
   refine TQ.then_n ?_
   refine TC.block ?_
   refine TC.loop (fun z env' own' H' => ∃ i : Nat, z = l.length - i ∧ i ≤ l.length ∧ env' = [(0, .slice A l.length c), (1, .slice B l.length c'), (5, .int .i64 (i : Int))] ∧ own' = own ∧ Le H H') l.length [(0, _), (1, _), (5, _)] ⟨rfl, rfl, rfl, trivial⟩ ⟨0, by omega, by omega, rfl, rfl, Le.refl _⟩ ?_
   rintro z _ own H1 ⟨i, rfl, hi, rfl, rfl, hle0⟩
   have hL := Le.trans hL hle0
   have hA := rd.mono hle0 hA
   have hB := rd.mono hle0 hB
   refine TC.seq ?_
   refine TC.seq ?_
   refine TC.region ?_
   refine TL.move rfl rfl ?_
   refine TL.move rfl rfl ?_
   refine TL.len_slice rfl rfl ?_
   refine TL.lssB rfl rfl rfl (fun hlt => ?_) (fun hlt => ?_)
   ·
    obtain ⟨x, hx⟩ : ∃ x, l[i]? = some x := ⟨_, List.getElem?_eq_getElem (by omega)⟩
    have hxs := Sm.size_mem (List.mem_of_getElem? hx)
    obtain ⟨sk, snm, st, sn, sxs, sb, sel, scs⟩ := x
    simp only [Sm.size] at hxs
    obtain ⟨b1, o1, t0, t1, t2, t3, vx, vb, ve, vc, rfl, hp, hst, hvx, hvb, hve, hvc⟩ := sms_at hA hx
    obtain ⟨b2, o2, s0, s1, s2, s3, ux, ub, ue, uc, rfl, hq, htt, hux, hub, hue, huc⟩ := sms_at hB hx
    obtain ⟨Ac, cc, rfl, hcc1, hcc2⟩ := css_len hvc
    obtain ⟨Bc, cd, rfl, hcd1, hcd2⟩ := css_len huc
    refine TL.nil ?_
    refine TQ.then_n ?_
    refine TC.cond_t rfl ?_
    refine TC.skip ?_
    refine TQ.then_n ?_
    refine TC.seq ?_
    refine TC.block ?_
    refine TC.seq ?_
    refine TC.drawQV 10  [(0, _), (1, _), (5, _)] follows_mixed ⟨rfl, rfl, rfl, trivial⟩ ?_
    refine ChainV.q (some 23) [] (by
     intro H' X F hle
     intro hF
     refine TL.move rfl rfl ?_
     refine TL.nil ?_
     exact TQ.one [] hF (Le.refl _) ⟨rfl, rfl⟩) ?_
    refine ChainV.q (some 24) [] (by
     intro H' X F hle
     intro hF
     refine TL.move rfl rfl ?_
     refine TL.nil ?_
     exact TQ.one [] hF (Le.refl _) ⟨rfl, rfl⟩) ?_
    refine ChainV.q (some 25) [(0, 1), (1, 0)] (by
     intro H' X F hle
     intro hF
     refine TL.indexAddr (i) rfl rfl rfl (by omega) rfl ?_
     refine TL.nil ?_
     exact TQ.one [] hF (Le.refl _) ⟨rfl, rfl⟩) ?_
    refine ChainV.q (some 26) [(2, 0)] (by
     intro H' X F hle
     intro hF
     refine TL.fieldAddr rfl rfl ?_
     refine TL.nil ?_
     exact TQ.one [] hF (Le.refl _) ⟨rfl, rfl⟩) ?_
    refine ChainV.q (some 27) [(3, 0)] (by
     intro H' X F hle
     have hL := Le.trans hL hle
     have hA := rd.mono hle hA
     have hB := rd.mono hle hB
     have hle0 := Le.trans hle0 hle
     have hp := hAt.mono hle hp
     have hst := RdL.mono hle hst
     have hvx := rd.mono hle hvx
     have hvb := rd.mono hle hvb
     have hve := rd.mono hle hve
     have hvc := rd.mono hle hvc
     have hq := hAt.mono hle hq
     have htt := RdL.mono hle htt
     have hux := rd.mono hle hux
     have hub := rd.mono hle hub
     have hue := rd.mono hle hue
     have huc := rd.mono hle huc
     intro hF
     refine TL.load_imm rfl (hp.2.2.2.2.2.2.2.1) rfl ?_
     refine TL.nil ?_
     exact TQ.one [] hF (Le.refl _) ⟨rfl, rfl⟩) ?_
    refine ChainV.q (some 28) [] (by
     intro H' X F hle
     intro hF
     refine TL.move rfl rfl ?_
     refine TL.nil ?_
     exact TQ.one [] hF (Le.refl _) ⟨rfl, rfl⟩) ?_
    refine ChainV.q (some 29) [] (by
     intro H' X F hle
     intro hF
     refine TL.move rfl rfl ?_
     refine TL.nil ?_
     exact TQ.one [] hF (Le.refl _) ⟨rfl, rfl⟩) ?_
    refine ChainV.q (some 30) [(5, 1), (6, 0)] (by
     intro H' X F hle
     intro hF
     refine TL.indexAddr (i) rfl rfl rfl (by omega) rfl ?_
     refine TL.nil ?_
     exact TQ.one [] hF (Le.refl _) ⟨rfl, rfl⟩) ?_
    refine ChainV.q (some 31) [(7, 0)] (by
     intro H' X F hle
     intro hF
     refine TL.fieldAddr rfl rfl ?_
     refine TL.nil ?_
     exact TQ.one [] hF (Le.refl _) ⟨rfl, rfl⟩) ?_
    refine ChainV.q (some 32) [(8, 0)] (by
     intro H' X F hle
     have hL := Le.trans hL hle
     have hA := rd.mono hle hA
     have hB := rd.mono hle hB
     have hle0 := Le.trans hle0 hle
     have hp := hAt.mono hle hp
     have hst := RdL.mono hle hst
     have hvx := rd.mono hle hvx
     have hvb := rd.mono hle hvb
     have hve := rd.mono hle hve
     have hvc := rd.mono hle hvc
     have hq := hAt.mono hle hq
     have htt := RdL.mono hle htt
     have hux := rd.mono hle hux
     have hub := rd.mono hle hub
     have hue := rd.mono hle hue
     have huc := rd.mono hle huc
     intro hF
     refine TL.load_imm rfl (hq.2.2.2.2.2.2.2.1) rfl ?_
     refine TL.nil ?_
     exact TQ.one [] hF (Le.refl _) ⟨rfl, rfl⟩) ?_
    refine ⟨by kernel_rfl, .refl _, ?_⟩
    ·
     intro H1 hle
     have hL := Le.trans hL hle
     have hA := rd.mono hle hA
     have hB := rd.mono hle hB
     have hle0 := Le.trans hle0 hle
     have hp := hAt.mono hle hp
     have hst := RdL.mono hle hst
     have hvx := rd.mono hle hvx
     have hvb := rd.mono hle hvb
     have hve := rd.mono hle hve
     have hvc := rd.mono hle hvc
     have hq := hAt.mono hle hq
     have htt := RdL.mono hle htt
     have hux := rd.mono hle hux
     have hub := rd.mono hle hub
     have hue := rd.mono hle hue
     have huc := rd.mono hle huc
     refine TL.toOwn (own' := own) rfl ?_
     refine TL.wk (env' := [(0, _), (1, _), (5, _), (27, _), (32, _)]) ⟨rfl, rfl, rfl, rfl, rfl, trivial⟩ ?_
     refine TL.call (same_exprs _ sxs (Nat.le_refl _) hvx hux) ⟨rfl, rfl, trivial⟩ rfl ?_
     rintro _ own H33 ⟨rfl, rfl, hle33⟩
     have hL := Le.trans hL hle33
     have hA := rd.mono hle33 hA
     have hB := rd.mono hle33 hB
     have hle0 := Le.trans hle0 hle33
     have hp := hAt.mono hle33 hp
     have hst := RdL.mono hle33 hst
     have hvx := rd.mono hle33 hvx
     have hvb := rd.mono hle33 hvb
     have hve := rd.mono hle33 hve
     have hvc := rd.mono hle33 hvc
     have hq := hAt.mono hle33 hq
     have htt := RdL.mono hle33 htt
     have hux := rd.mono hle33 hux
     have hub := rd.mono hle33 hub
     have hue := rd.mono hle33 hue
     have huc := rd.mono hle33 huc
     refine TL.assign rfl rfl ?_
     refine TL.nil ?_
     refine TQ.then_n ?_
     refine TC.seq ?_
     refine TC.drawQV 10  [(0, _), (1, _), (5, _), (6, _)] follows_mixed ⟨rfl, rfl, rfl, rfl, trivial⟩ ?_
     refine ChainV.q (some 34) [] (by
      intro H' X F hle
      intro hF
      refine TL.move rfl rfl ?_
      refine TL.nil ?_
      exact TQ.one [] hF (Le.refl _) ⟨rfl, rfl⟩) ?_
     refine ChainV.q (some 35) [] (by
      intro H' X F hle
      intro hF
      refine TL.move rfl rfl ?_
      refine TL.nil ?_
      exact TQ.one [] hF (Le.refl _) ⟨rfl, rfl⟩) ?_
     refine ChainV.q (some 36) [(0, 1), (1, 0)] (by
      intro H' X F hle
      intro hF
      refine TL.indexAddr (i) rfl rfl rfl (by omega) rfl ?_
      refine TL.nil ?_
      exact TQ.one [] hF (Le.refl _) ⟨rfl, rfl⟩) ?_
     refine ChainV.q (some 37) [(2, 0)] (by
      intro H' X F hle
      intro hF
      refine TL.fieldAddr rfl rfl ?_
      refine TL.nil ?_
      exact TQ.one [] hF (Le.refl _) ⟨rfl, rfl⟩) ?_
     refine ChainV.q (some 38) [(3, 0)] (by
      intro H' X F hle
      have hL := Le.trans hL hle
      have hA := rd.mono hle hA
      have hB := rd.mono hle hB
      have hle0 := Le.trans hle0 hle
      have hp := hAt.mono hle hp
      have hst := RdL.mono hle hst
      have hvx := rd.mono hle hvx
      have hvb := rd.mono hle hvb
      have hve := rd.mono hle hve
      have hvc := rd.mono hle hvc
      have hq := hAt.mono hle hq
      have htt := RdL.mono hle htt
      have hux := rd.mono hle hux
      have hub := rd.mono hle hub
      have hue := rd.mono hle hue
      have huc := rd.mono hle huc
      intro hF
      refine TL.load_imm rfl (hp.2.2.2.2.2.2.2.2.1) rfl ?_
      refine TL.nil ?_
      exact TQ.one [] hF (Le.refl _) ⟨rfl, rfl⟩) ?_
     refine ChainV.q (some 39) [] (by
      intro H' X F hle
      intro hF
      refine TL.move rfl rfl ?_
      refine TL.nil ?_
      exact TQ.one [] hF (Le.refl _) ⟨rfl, rfl⟩) ?_
     refine ChainV.q (some 40) [] (by
      intro H' X F hle
      intro hF
      refine TL.move rfl rfl ?_
      refine TL.nil ?_
      exact TQ.one [] hF (Le.refl _) ⟨rfl, rfl⟩) ?_
     refine ChainV.q (some 41) [(5, 1), (6, 0)] (by
      intro H' X F hle
      intro hF
      refine TL.indexAddr (i) rfl rfl rfl (by omega) rfl ?_
      refine TL.nil ?_
      exact TQ.one [] hF (Le.refl _) ⟨rfl, rfl⟩) ?_
     refine ChainV.q (some 42) [(7, 0)] (by
      intro H' X F hle
      intro hF
      refine TL.fieldAddr rfl rfl ?_
      refine TL.nil ?_
      exact TQ.one [] hF (Le.refl _) ⟨rfl, rfl⟩) ?_
     refine ChainV.q (some 43) [(8, 0)] (by
      intro H' X F hle
      have hL := Le.trans hL hle
      have hA := rd.mono hle hA
      have hB := rd.mono hle hB
      have hle0 := Le.trans hle0 hle
      have hp := hAt.mono hle hp
      have hst := RdL.mono hle hst
      have hvx := rd.mono hle hvx
      have hvb := rd.mono hle hvb
      have hve := rd.mono hle hve
      have hvc := rd.mono hle hvc
      have hq := hAt.mono hle hq
      have htt := RdL.mono hle htt
      have hux := rd.mono hle hux
      have hub := rd.mono hle hub
      have hue := rd.mono hle hue
      have huc := rd.mono hle huc
      intro hF
      refine TL.load_imm rfl (hq.2.2.2.2.2.2.2.2.1) rfl ?_
      refine TL.nil ?_
      exact TQ.one [] hF (Le.refl _) ⟨rfl, rfl⟩) ?_
     refine ⟨by kernel_rfl, .refl _, ?_⟩
     ·
      intro H2 hle
      have hL := Le.trans hL hle
      have hA := rd.mono hle hA
      have hB := rd.mono hle hB
      have hle0 := Le.trans hle0 hle
      have hp := hAt.mono hle hp
      have hst := RdL.mono hle hst
      have hvx := rd.mono hle hvx
      have hvb := rd.mono hle hvb
      have hve := rd.mono hle hve
      have hvc := rd.mono hle hvc
      have hq := hAt.mono hle hq
      have htt := RdL.mono hle htt
      have hux := rd.mono hle hux
      have hub := rd.mono hle hub
      have hue := rd.mono hle hue
      have huc := rd.mono hle huc
      refine TL.toOwn (own' := own) rfl ?_
      refine TL.wk (env' := [(0, _), (1, _), (5, _), (6, _), (38, _), (43, _)]) ⟨rfl, rfl, rfl, rfl, rfl, rfl, trivial⟩ ?_
      refine TL.call (ih (k - 1) (by omega) sb (by omega) hvb hub) ⟨rfl, rfl, trivial⟩ rfl ?_
      rintro _ own H44 ⟨rfl, rfl, hle44⟩
      have hL := Le.trans hL hle44
      have hA := rd.mono hle44 hA
      have hB := rd.mono hle44 hB
      have hle0 := Le.trans hle0 hle44
      have hp := hAt.mono hle44 hp
      have hst := RdL.mono hle44 hst
      have hvx := rd.mono hle44 hvx
      have hvb := rd.mono hle44 hvb
      have hve := rd.mono hle44 hve
      have hvc := rd.mono hle44 hvc
      have hq := hAt.mono hle44 hq
      have htt := RdL.mono hle44 htt
      have hux := rd.mono hle44 hux
      have hub := rd.mono hle44 hub
      have hue := rd.mono hle44 hue
      have huc := rd.mono hle44 huc
      refine TL.assign rfl rfl ?_
      refine TL.nil ?_
      refine TQ.then_n ?_
      refine TC.seq ?_
      refine TC.drawQV 10  [(0, _), (1, _), (5, _), (6, _), (7, _)] follows_mixed ⟨rfl, rfl, rfl, rfl, rfl, trivial⟩ ?_
      refine ChainV.q (some 45) [] (by
       intro H' X F hle
       intro hF
       refine TL.move rfl rfl ?_
       refine TL.nil ?_
       exact TQ.one [] hF (Le.refl _) ⟨rfl, rfl⟩) ?_
      refine ChainV.q (some 46) [] (by
       intro H' X F hle
       intro hF
       refine TL.move rfl rfl ?_
       refine TL.nil ?_
       exact TQ.one [] hF (Le.refl _) ⟨rfl, rfl⟩) ?_
      refine ChainV.q (some 47) [(0, 1), (1, 0)] (by
       intro H' X F hle
       intro hF
       refine TL.indexAddr (i) rfl rfl rfl (by omega) rfl ?_
       refine TL.nil ?_
       exact TQ.one [] hF (Le.refl _) ⟨rfl, rfl⟩) ?_
      refine ChainV.q (some 48) [(2, 0)] (by
       intro H' X F hle
       intro hF
       refine TL.fieldAddr rfl rfl ?_
       refine TL.nil ?_
       exact TQ.one [] hF (Le.refl _) ⟨rfl, rfl⟩) ?_
      refine ChainV.q (some 49) [(3, 0)] (by
       intro H' X F hle
       have hL := Le.trans hL hle
       have hA := rd.mono hle hA
       have hB := rd.mono hle hB
       have hle0 := Le.trans hle0 hle
       have hp := hAt.mono hle hp
       have hst := RdL.mono hle hst
       have hvx := rd.mono hle hvx
       have hvb := rd.mono hle hvb
       have hve := rd.mono hle hve
       have hvc := rd.mono hle hvc
       have hq := hAt.mono hle hq
       have htt := RdL.mono hle htt
       have hux := rd.mono hle hux
       have hub := rd.mono hle hub
       have hue := rd.mono hle hue
       have huc := rd.mono hle huc
       intro hF
       refine TL.load_imm rfl (hp.2.2.2.2.2.2.2.2.2.1) rfl ?_
       refine TL.nil ?_
       exact TQ.one [] hF (Le.refl _) ⟨rfl, rfl⟩) ?_
      refine ChainV.q (some 50) [] (by
       intro H' X F hle
       intro hF
       refine TL.move rfl rfl ?_
       refine TL.nil ?_
       exact TQ.one [] hF (Le.refl _) ⟨rfl, rfl⟩) ?_
      refine ChainV.q (some 51) [] (by
       intro H' X F hle
       intro hF
       refine TL.move rfl rfl ?_
       refine TL.nil ?_
       exact TQ.one [] hF (Le.refl _) ⟨rfl, rfl⟩) ?_
      refine ChainV.q (some 52) [(5, 1), (6, 0)] (by
       intro H' X F hle
       intro hF
       refine TL.indexAddr (i) rfl rfl rfl (by omega) rfl ?_
       refine TL.nil ?_
       exact TQ.one [] hF (Le.refl _) ⟨rfl, rfl⟩) ?_
      refine ChainV.q (some 53) [(7, 0)] (by
       intro H' X F hle
       intro hF
       refine TL.fieldAddr rfl rfl ?_
       refine TL.nil ?_
       exact TQ.one [] hF (Le.refl _) ⟨rfl, rfl⟩) ?_
      refine ChainV.q (some 54) [(8, 0)] (by
       intro H' X F hle
       have hL := Le.trans hL hle
       have hA := rd.mono hle hA
       have hB := rd.mono hle hB
       have hle0 := Le.trans hle0 hle
       have hp := hAt.mono hle hp
       have hst := RdL.mono hle hst
       have hvx := rd.mono hle hvx
       have hvb := rd.mono hle hvb
       have hve := rd.mono hle hve
       have hvc := rd.mono hle hvc
       have hq := hAt.mono hle hq
       have htt := RdL.mono hle htt
       have hux := rd.mono hle hux
       have hub := rd.mono hle hub
       have hue := rd.mono hle hue
       have huc := rd.mono hle huc
       intro hF
       refine TL.load_imm rfl (hq.2.2.2.2.2.2.2.2.2.1) rfl ?_
       refine TL.nil ?_
       exact TQ.one [] hF (Le.refl _) ⟨rfl, rfl⟩) ?_
      refine ⟨by kernel_rfl, .refl _, ?_⟩
      ·
       intro H3 hle
       have hL := Le.trans hL hle
       have hA := rd.mono hle hA
       have hB := rd.mono hle hB
       have hle0 := Le.trans hle0 hle
       have hp := hAt.mono hle hp
       have hst := RdL.mono hle hst
       have hvx := rd.mono hle hvx
       have hvb := rd.mono hle hvb
       have hve := rd.mono hle hve
       have hvc := rd.mono hle hvc
       have hq := hAt.mono hle hq
       have htt := RdL.mono hle htt
       have hux := rd.mono hle hux
       have hub := rd.mono hle hub
       have hue := rd.mono hle hue
       have huc := rd.mono hle huc
       refine TL.toOwn (own' := own) rfl ?_
       refine TL.wk (env' := [(0, _), (1, _), (5, _), (6, _), (7, _), (49, _), (54, _)]) ⟨rfl, rfl, rfl, rfl, rfl, rfl, rfl, trivial⟩ ?_
       refine TL.call (ih (k - 1) (by omega) sel (by omega) hve hue) ⟨rfl, rfl, trivial⟩ rfl ?_
       rintro _ own H55 ⟨rfl, rfl, hle55⟩
       have hL := Le.trans hL hle55
       have hA := rd.mono hle55 hA
       have hB := rd.mono hle55 hB
       have hle0 := Le.trans hle0 hle55
       have hp := hAt.mono hle55 hp
       have hst := RdL.mono hle55 hst
       have hvx := rd.mono hle55 hvx
       have hvb := rd.mono hle55 hvb
       have hve := rd.mono hle55 hve
       have hvc := rd.mono hle55 hvc
       have hq := hAt.mono hle55 hq
       have htt := RdL.mono hle55 htt
       have hux := rd.mono hle55 hux
       have hub := rd.mono hle55 hub
       have hue := rd.mono hle55 hue
       have huc := rd.mono hle55 huc
       refine TL.assign rfl rfl ?_
       refine TL.nil ?_
       refine TQ.then_n ?_
       refine TC.seq ?_
       refine TC.drawQV 10  [(0, _), (1, _), (5, _), (6, _), (7, _), (8, _)] follows_mixed ⟨rfl, rfl, rfl, rfl, rfl, rfl, trivial⟩ ?_
       refine ChainV.q (some 56) [] (by
        intro H' X F hle
        intro hF
        refine TL.move rfl rfl ?_
        refine TL.nil ?_
        exact TQ.one [] hF (Le.refl _) ⟨rfl, rfl⟩) ?_
       refine ChainV.q (some 57) [] (by
        intro H' X F hle
        intro hF
        refine TL.move rfl rfl ?_
        refine TL.nil ?_
        exact TQ.one [] hF (Le.refl _) ⟨rfl, rfl⟩) ?_
       refine ChainV.q (some 58) [(0, 1), (1, 0)] (by
        intro H' X F hle
        intro hF
        refine TL.indexAddr (i) rfl rfl rfl (by omega) rfl ?_
        refine TL.nil ?_
        exact TQ.one [] hF (Le.refl _) ⟨rfl, rfl⟩) ?_
       refine ChainV.q (some 59) [(2, 0)] (by
        intro H' X F hle
        intro hF
        refine TL.fieldAddr rfl rfl ?_
        refine TL.nil ?_
        exact TQ.one [] hF (Le.refl _) ⟨rfl, rfl⟩) ?_
       refine ChainV.q (some 60) [(3, 0)] (by
        intro H' X F hle
        have hL := Le.trans hL hle
        have hA := rd.mono hle hA
        have hB := rd.mono hle hB
        have hle0 := Le.trans hle0 hle
        have hp := hAt.mono hle hp
        have hst := RdL.mono hle hst
        have hvx := rd.mono hle hvx
        have hvb := rd.mono hle hvb
        have hve := rd.mono hle hve
        have hvc := rd.mono hle hvc
        have hq := hAt.mono hle hq
        have htt := RdL.mono hle htt
        have hux := rd.mono hle hux
        have hub := rd.mono hle hub
        have hue := rd.mono hle hue
        have huc := rd.mono hle huc
        intro hF
        refine TL.load_immA rfl (show hAt _ _ _ [_, _, _, _] from ⟨hp.2.2.1, hp.2.2.2.1, hp.2.2.2.2.1, hp.2.2.2.2.2.1, trivial⟩) rfl rfl ?_
        refine TL.nil ?_
        exact TQ.one [] hF (Le.refl _) ⟨rfl, rfl⟩) ?_
       refine ChainV.q (some 61) [] (by
        intro H' X F hle
        intro hF
        refine TL.move rfl rfl ?_
        refine TL.nil ?_
        exact TQ.one [] hF (Le.refl _) ⟨rfl, rfl⟩) ?_
       refine ChainV.q (some 62) [] (by
        intro H' X F hle
        intro hF
        refine TL.move rfl rfl ?_
        refine TL.nil ?_
        exact TQ.one [] hF (Le.refl _) ⟨rfl, rfl⟩) ?_
       refine ChainV.q (some 63) [(5, 1), (6, 0)] (by
        intro H' X F hle
        intro hF
        refine TL.indexAddr (i) rfl rfl rfl (by omega) rfl ?_
        refine TL.nil ?_
        exact TQ.one [] hF (Le.refl _) ⟨rfl, rfl⟩) ?_
       refine ChainV.q (some 64) [(7, 0)] (by
        intro H' X F hle
        intro hF
        refine TL.fieldAddr rfl rfl ?_
        refine TL.nil ?_
        exact TQ.one [] hF (Le.refl _) ⟨rfl, rfl⟩) ?_
       refine ChainV.q (some 65) [(8, 0)] (by
        intro H' X F hle
        have hL := Le.trans hL hle
        have hA := rd.mono hle hA
        have hB := rd.mono hle hB
        have hle0 := Le.trans hle0 hle
        have hp := hAt.mono hle hp
        have hst := RdL.mono hle hst
        have hvx := rd.mono hle hvx
        have hvb := rd.mono hle hvb
        have hve := rd.mono hle hve
        have hvc := rd.mono hle hvc
        have hq := hAt.mono hle hq
        have htt := RdL.mono hle htt
        have hux := rd.mono hle hux
        have hub := rd.mono hle hub
        have hue := rd.mono hle hue
        have huc := rd.mono hle huc
        intro hF
        refine TL.load_immA rfl (show hAt _ _ _ [_, _, _, _] from ⟨hq.2.2.1, hq.2.2.2.1, hq.2.2.2.2.1, hq.2.2.2.2.2.1, trivial⟩) rfl rfl ?_
        refine TL.nil ?_
        exact TQ.one [] hF (Le.refl _) ⟨rfl, rfl⟩) ?_
       refine ⟨by kernel_rfl, .refl _, ?_⟩
       ·
        intro H4 hle
        have hL := Le.trans hL hle
        have hA := rd.mono hle hA
        have hB := rd.mono hle hB
        have hle0 := Le.trans hle0 hle
        have hp := hAt.mono hle hp
        have hst := RdL.mono hle hst
        have hvx := rd.mono hle hvx
        have hvb := rd.mono hle hvb
        have hve := rd.mono hle hve
        have hvc := rd.mono hle hvc
        have hq := hAt.mono hle hq
        have htt := RdL.mono hle htt
        have hux := rd.mono hle hux
        have hub := rd.mono hle hub
        have hue := rd.mono hle hue
        have huc := rd.mono hle huc
        refine TL.toOwn (own' := own) rfl ?_
        refine TL.wk (env' := [(0, _), (1, _), (5, _), (6, _), (7, _), (8, _), (60, _), (65, _)]) ⟨rfl, rfl, rfl, rfl, rfl, rfl, rfl, rfl, trivial⟩ ?_
        refine TL.call (same_type _ st (Nat.le_refl _) hst htt) ⟨rfl, rfl, trivial⟩ rfl ?_
        rintro _ own H66 ⟨rfl, rfl, hle66⟩
        have hL := Le.trans hL hle66
        have hA := rd.mono hle66 hA
        have hB := rd.mono hle66 hB
        have hle0 := Le.trans hle0 hle66
        have hp := hAt.mono hle66 hp
        have hst := RdL.mono hle66 hst
        have hvx := rd.mono hle66 hvx
        have hvb := rd.mono hle66 hvb
        have hve := rd.mono hle66 hve
        have hvc := rd.mono hle66 hvc
        have hq := hAt.mono hle66 hq
        have htt := RdL.mono hle66 htt
        have hux := rd.mono hle66 hux
        have hub := rd.mono hle66 hub
        have hue := rd.mono hle66 hue
        have huc := rd.mono hle66 huc
        refine TL.assign rfl rfl ?_
        refine TL.nil ?_
        refine TQ.then_n ?_
        refine TC.seq ?_
        refine TC.seq ?_
        refine TC.drawQV 66  [(0, _), (1, _), (5, _), (6, _), (7, _), (8, _), (9, _)] follows_mixed ⟨rfl, rfl, rfl, rfl, rfl, rfl, rfl, trivial⟩ ?_
        refine ChainV.q (some 67) [] (by
         intro H' X F hle
         intro hF
         refine TL.move rfl rfl ?_
         refine TL.nil ?_
         exact TQ.one [] hF (Le.refl _) ⟨rfl, rfl⟩) ?_
        refine ChainV.q (some 68) [(0, 0)] (by
         intro H' X F hle
         intro hF
         refine TL.not rfl rfl ?_
         refine TL.nil ?_
         exact TQ.one [] hF (Le.refl _) ⟨rfl, rfl⟩) ?_
        refine ChainV.q (some 69) [(1, 0)] (by
         intro H' X F hle
         intro hF
         refine TL.move rfl rfl ?_
         refine TL.nil ?_
         exact TQ.one [] hF (Le.refl _) ⟨rfl, rfl⟩) ?_
        refine ChainV.q (some 70) [(2, 0)] (by
         intro H' X F hle
         intro hF
         refine TL.gyes rfl rfl rfl ?_
         refine TL.move rfl rfl ?_
         refine TL.nil ?_
         exact TQ.one [] hF (Le.refl _) ⟨rfl, rfl⟩) ?_
        refine ChainV.q (some 71) [(3, 0), (2, 1)] (by
         intro H' X F hle
         intro hF
         refine TL.gyes rfl rfl rfl ?_
         refine TL.not rfl rfl ?_
         refine TL.nil ?_
         exact TQ.one [] hF (Le.refl _) ⟨rfl, rfl⟩) ?_
        refine ChainV.q (some 72) [(2, 2), (4, 0)] (by
         intro H' X F hle
         intro hF
         refine TL.pickF rfl rfl rfl rfl ?_
         refine TL.nil ?_
         exact TQ.one [] hF (Le.refl _) ⟨rfl, rfl⟩) ?_
        refine ChainV.q (some 73) [(5, 0)] (by
         intro H' X F hle
         intro hF
         refine TL.move rfl rfl ?_
         refine TL.nil ?_
         exact TQ.one [] hF (Le.refl _) ⟨rfl, rfl⟩) ?_
        refine ChainV.q (some 74) [(6, 0)] (by
         intro H' X F hle
         intro hF
         refine TL.gyes rfl rfl rfl ?_
         refine TL.move rfl rfl ?_
         refine TL.nil ?_
         exact TQ.one [] hF (Le.refl _) ⟨rfl, rfl⟩) ?_
        refine ChainV.q (some 75) [(7, 0), (6, 1)] (by
         intro H' X F hle
         intro hF
         refine TL.gyes rfl rfl rfl ?_
         refine TL.not rfl rfl ?_
         refine TL.nil ?_
         exact TQ.one [] hF (Le.refl _) ⟨rfl, rfl⟩) ?_
        refine ChainV.q (some 76) [(6, 2), (8, 0)] (by
         intro H' X F hle
         intro hF
         refine TL.pickF rfl rfl rfl rfl ?_
         refine TL.nil ?_
         exact TQ.one [] hF (Le.refl _) ⟨rfl, rfl⟩) ?_
        refine ChainV.q (some 77) [(9, 0)] (by
         intro H' X F hle
         intro hF
         refine TL.move rfl rfl ?_
         refine TL.nil ?_
         exact TQ.one [] hF (Le.refl _) ⟨rfl, rfl⟩) ?_
        refine ChainV.q (some 78) [(10, 0)] (by
         intro H' X F hle
         intro hF
         refine TL.gyes rfl rfl rfl ?_
         refine TL.move rfl rfl ?_
         refine TL.nil ?_
         exact TQ.one [] hF (Le.refl _) ⟨rfl, rfl⟩) ?_
        refine ChainV.q (some 79) [(11, 0), (10, 1)] (by
         intro H' X F hle
         intro hF
         refine TL.gyes rfl rfl rfl ?_
         refine TL.not rfl rfl ?_
         refine TL.nil ?_
         exact TQ.one [] hF (Le.refl _) ⟨rfl, rfl⟩) ?_
        refine ChainV.q (some 80) [(10, 2), (12, 0)] (by
         intro H' X F hle
         intro hF
         refine TL.pickF rfl rfl rfl rfl ?_
         refine TL.nil ?_
         exact TQ.one [] hF (Le.refl _) ⟨rfl, rfl⟩) ?_
        refine ChainV.q (some 81) [(13, 0)] (by
         intro H' X F hle
         intro hF
         refine TL.move rfl rfl ?_
         refine TL.nil ?_
         exact TQ.one [] hF (Le.refl _) ⟨rfl, rfl⟩) ?_
        refine ChainV.q (some 82) [(14, 0)] (by
         intro H' X F hle
         intro hF
         refine TL.gyes rfl rfl rfl ?_
         refine TL.move rfl rfl ?_
         refine TL.nil ?_
         exact TQ.one [] hF (Le.refl _) ⟨rfl, rfl⟩) ?_
        refine ChainV.q (some 83) [(14, 1)] (by
         intro H' X F hle
         intro hF
         refine TL.gyes rfl rfl rfl ?_
         refine TL.move rfl rfl ?_
         refine TL.nil ?_
         exact TQ.one [] hF (Le.refl _) ⟨rfl, rfl⟩) ?_
        refine ChainV.q (some 84) [(15, 1), (16, 0), (14, 2)] (by
         intro H' X F hle
         intro hF
         refine TL.gyes rfl rfl rfl ?_
         refine TL.indexAddr (i) rfl rfl rfl (by omega) rfl ?_
         refine TL.nil ?_
         exact TQ.one [] hF (Le.refl _) ⟨rfl, rfl⟩) ?_
        refine ChainV.q (some 85) [(17, 0), (14, 3)] (by
         intro H' X F hle
         intro hF
         refine TL.gyes rfl rfl rfl ?_
         refine TL.fieldAddr rfl rfl ?_
         refine TL.nil ?_
         exact TQ.one [] hF (Le.refl _) ⟨rfl, rfl⟩) ?_
        refine ChainV.q (some 86) [(18, 0), (14, 4)] (by
         intro H' X F hle
         have hL := Le.trans hL hle
         have hA := rd.mono hle hA
         have hB := rd.mono hle hB
         have hle0 := Le.trans hle0 hle
         have hp := hAt.mono hle hp
         have hst := RdL.mono hle hst
         have hvx := rd.mono hle hvx
         have hvb := rd.mono hle hvb
         have hve := rd.mono hle hve
         have hvc := rd.mono hle hvc
         have hq := hAt.mono hle hq
         have htt := RdL.mono hle htt
         have hux := rd.mono hle hux
         have hub := rd.mono hle hub
         have hue := rd.mono hle hue
         have huc := rd.mono hle huc
         intro hF
         refine TL.gyes rfl rfl rfl ?_
         refine TL.load_imm rfl (hp.1) rfl ?_
         refine TL.nil ?_
         exact TQ.one [] hF (Le.refl _) ⟨rfl, rfl⟩) ?_
        refine ChainV.q (some 87) [(14, 5)] (by
         intro H' X F hle
         intro hF
         refine TL.gyes rfl rfl rfl ?_
         refine TL.move rfl rfl ?_
         refine TL.nil ?_
         exact TQ.one [] hF (Le.refl _) ⟨rfl, rfl⟩) ?_
        refine ChainV.q (some 88) [(14, 6)] (by
         intro H' X F hle
         intro hF
         refine TL.gyes rfl rfl rfl ?_
         refine TL.move rfl rfl ?_
         refine TL.nil ?_
         exact TQ.one [] hF (Le.refl _) ⟨rfl, rfl⟩) ?_
        refine ChainV.q (some 89) [(20, 1), (21, 0), (14, 7)] (by
         intro H' X F hle
         intro hF
         refine TL.gyes rfl rfl rfl ?_
         refine TL.indexAddr (i) rfl rfl rfl (by omega) rfl ?_
         refine TL.nil ?_
         exact TQ.one [] hF (Le.refl _) ⟨rfl, rfl⟩) ?_
        refine ChainV.q (some 90) [(22, 0), (14, 8)] (by
         intro H' X F hle
         intro hF
         refine TL.gyes rfl rfl rfl ?_
         refine TL.fieldAddr rfl rfl ?_
         refine TL.nil ?_
         exact TQ.one [] hF (Le.refl _) ⟨rfl, rfl⟩) ?_
        refine ChainV.q (some 91) [(23, 0), (14, 9)] (by
         intro H' X F hle
         have hL := Le.trans hL hle
         have hA := rd.mono hle hA
         have hB := rd.mono hle hB
         have hle0 := Le.trans hle0 hle
         have hp := hAt.mono hle hp
         have hst := RdL.mono hle hst
         have hvx := rd.mono hle hvx
         have hvb := rd.mono hle hvb
         have hve := rd.mono hle hve
         have hvc := rd.mono hle hvc
         have hq := hAt.mono hle hq
         have htt := RdL.mono hle htt
         have hux := rd.mono hle hux
         have hub := rd.mono hle hub
         have hue := rd.mono hle hue
         have huc := rd.mono hle huc
         intro hF
         refine TL.gyes rfl rfl rfl ?_
         refine TL.load_imm rfl (hq.1) rfl ?_
         refine TL.nil ?_
         exact TQ.one [] hF (Le.refl _) ⟨rfl, rfl⟩) ?_
        refine ChainV.q (some 92) [(19, 5), (24, 0), (14, 10)] (by
         intro H' X F hle
         have hL := Le.trans hL hle
         have hA := rd.mono hle hA
         have hB := rd.mono hle hB
         have hle0 := Le.trans hle0 hle
         have hp := hAt.mono hle hp
         have hst := RdL.mono hle hst
         have hvx := rd.mono hle hvx
         have hvb := rd.mono hle hvb
         have hve := rd.mono hle hve
         have hvc := rd.mono hle hvc
         have hq := hAt.mono hle hq
         have htt := RdL.mono hle htt
         have hux := rd.mono hle hux
         have hub := rd.mono hle hub
         have hue := rd.mono hle hue
         have huc := rd.mono hle huc
         intro hF
         refine TL.gyes rfl rfl rfl ?_
         refine TL.neq rfl rfl rfl ?_
         rw [decide_eq_false (show ¬ (sk ≠ sk) by simp)]
         refine TL.nil ?_
         exact TQ.one [] hF (Le.refl _) ⟨rfl, rfl⟩) ?_
        refine ChainV.q (some 93) [(14, 11), (25, 0)] (by
         intro H' X F hle
         intro hF
         refine TL.pickF rfl rfl rfl rfl ?_
         refine TL.nil ?_
         exact TQ.one [] hF (Le.refl _) ⟨rfl, rfl⟩) ?_
        refine ChainV.q (some 94) [(26, 0)] (by
         intro H' X F hle
         intro hF
         refine TL.move rfl rfl ?_
         refine TL.nil ?_
         exact TQ.one [] hF (Le.refl _) ⟨rfl, rfl⟩) ?_
        refine ChainV.q (some 95) [(27, 0)] (by
         intro H' X F hle
         intro hF
         refine TL.gyes rfl rfl rfl ?_
         refine TL.move rfl rfl ?_
         refine TL.nil ?_
         exact TQ.one [] hF (Le.refl _) ⟨rfl, rfl⟩) ?_
        refine ChainV.q (some 96) [(27, 1)] (by
         intro H' X F hle
         intro hF
         refine TL.gyes rfl rfl rfl ?_
         refine TL.move rfl rfl ?_
         refine TL.nil ?_
         exact TQ.one [] hF (Le.refl _) ⟨rfl, rfl⟩) ?_
        refine ChainV.q (some 97) [(28, 1), (29, 0), (27, 2)] (by
         intro H' X F hle
         intro hF
         refine TL.gyes rfl rfl rfl ?_
         refine TL.indexAddr (i) rfl rfl rfl (by omega) rfl ?_
         refine TL.nil ?_
         exact TQ.one [] hF (Le.refl _) ⟨rfl, rfl⟩) ?_
        refine ChainV.q (some 98) [(30, 0), (27, 3)] (by
         intro H' X F hle
         intro hF
         refine TL.gyes rfl rfl rfl ?_
         refine TL.fieldAddr rfl rfl ?_
         refine TL.nil ?_
         exact TQ.one [] hF (Le.refl _) ⟨rfl, rfl⟩) ?_
        refine ChainV.q (some 99) [(31, 0), (27, 4)] (by
         intro H' X F hle
         have hL := Le.trans hL hle
         have hA := rd.mono hle hA
         have hB := rd.mono hle hB
         have hle0 := Le.trans hle0 hle
         have hp := hAt.mono hle hp
         have hst := RdL.mono hle hst
         have hvx := rd.mono hle hvx
         have hvb := rd.mono hle hvb
         have hve := rd.mono hle hve
         have hvc := rd.mono hle hvc
         have hq := hAt.mono hle hq
         have htt := RdL.mono hle htt
         have hux := rd.mono hle hux
         have hub := rd.mono hle hub
         have hue := rd.mono hle hue
         have huc := rd.mono hle huc
         intro hF
         refine TL.gyes rfl rfl rfl ?_
         refine TL.load_imm rfl (hp.2.1) rfl ?_
         refine TL.nil ?_
         exact TQ.one [] hF (Le.refl _) ⟨rfl, rfl⟩) ?_
        refine ChainV.q (some 100) [(27, 5)] (by
         intro H' X F hle
         intro hF
         refine TL.gyes rfl rfl rfl ?_
         refine TL.move rfl rfl ?_
         refine TL.nil ?_
         exact TQ.one [] hF (Le.refl _) ⟨rfl, rfl⟩) ?_
        refine ChainV.q (some 101) [(27, 6)] (by
         intro H' X F hle
         intro hF
         refine TL.gyes rfl rfl rfl ?_
         refine TL.move rfl rfl ?_
         refine TL.nil ?_
         exact TQ.one [] hF (Le.refl _) ⟨rfl, rfl⟩) ?_
        refine ChainV.q (some 102) [(33, 1), (34, 0), (27, 7)] (by
         intro H' X F hle
         intro hF
         refine TL.gyes rfl rfl rfl ?_
         refine TL.indexAddr (i) rfl rfl rfl (by omega) rfl ?_
         refine TL.nil ?_
         exact TQ.one [] hF (Le.refl _) ⟨rfl, rfl⟩) ?_
        refine ChainV.q (some 103) [(35, 0), (27, 8)] (by
         intro H' X F hle
         intro hF
         refine TL.gyes rfl rfl rfl ?_
         refine TL.fieldAddr rfl rfl ?_
         refine TL.nil ?_
         exact TQ.one [] hF (Le.refl _) ⟨rfl, rfl⟩) ?_
        refine ChainV.q (some 104) [(36, 0), (27, 9)] (by
         intro H' X F hle
         have hL := Le.trans hL hle
         have hA := rd.mono hle hA
         have hB := rd.mono hle hB
         have hle0 := Le.trans hle0 hle
         have hp := hAt.mono hle hp
         have hst := RdL.mono hle hst
         have hvx := rd.mono hle hvx
         have hvb := rd.mono hle hvb
         have hve := rd.mono hle hve
         have hvc := rd.mono hle hvc
         have hq := hAt.mono hle hq
         have htt := RdL.mono hle htt
         have hux := rd.mono hle hux
         have hub := rd.mono hle hub
         have hue := rd.mono hle hue
         have huc := rd.mono hle huc
         intro hF
         refine TL.gyes rfl rfl rfl ?_
         refine TL.load_imm rfl (hq.2.1) rfl ?_
         refine TL.nil ?_
         exact TQ.one [] hF (Le.refl _) ⟨rfl, rfl⟩) ?_
        refine ChainV.q (some 105) [(32, 5), (37, 0), (27, 10)] (by
         intro H' X F hle
         have hL := Le.trans hL hle
         have hA := rd.mono hle hA
         have hB := rd.mono hle hB
         have hle0 := Le.trans hle0 hle
         have hp := hAt.mono hle hp
         have hst := RdL.mono hle hst
         have hvx := rd.mono hle hvx
         have hvb := rd.mono hle hvb
         have hve := rd.mono hle hve
         have hvc := rd.mono hle hvc
         have hq := hAt.mono hle hq
         have htt := RdL.mono hle htt
         have hux := rd.mono hle hux
         have hub := rd.mono hle hub
         have hue := rd.mono hle hue
         have huc := rd.mono hle huc
         intro hF
         refine TL.gyes rfl rfl rfl ?_
         refine TL.neqS rfl rfl rfl ?_
         rw [decide_eq_false (show ¬ (snm ≠ snm) by simp)]
         refine TL.nil ?_
         exact TQ.one [] hF (Le.refl _) ⟨rfl, rfl⟩) ?_
        refine ChainV.q (some 106) [(27, 11), (38, 0)] (by
         intro H' X F hle
         intro hF
         refine TL.pickF rfl rfl rfl rfl ?_
         refine TL.nil ?_
         exact TQ.one [] hF (Le.refl _) ⟨rfl, rfl⟩) ?_
        refine ChainV.q (some 107) [(39, 0)] (by
         intro H' X F hle
         intro hF
         refine TL.move rfl rfl ?_
         refine TL.nil ?_
         exact TQ.one [] hF (Le.refl _) ⟨rfl, rfl⟩) ?_
        refine ChainV.q (some 108) [(40, 0)] (by
         intro H' X F hle
         intro hF
         refine TL.gyes rfl rfl rfl ?_
         refine TL.move rfl rfl ?_
         refine TL.nil ?_
         exact TQ.one [] hF (Le.refl _) ⟨rfl, rfl⟩) ?_
        refine ChainV.q (some 109) [(40, 1)] (by
         intro H' X F hle
         intro hF
         refine TL.gyes rfl rfl rfl ?_
         refine TL.move rfl rfl ?_
         refine TL.nil ?_
         exact TQ.one [] hF (Le.refl _) ⟨rfl, rfl⟩) ?_
        refine ChainV.q (some 110) [(41, 1), (42, 0), (40, 2)] (by
         intro H' X F hle
         intro hF
         refine TL.gyes rfl rfl rfl ?_
         refine TL.indexAddr (i) rfl rfl rfl (by omega) rfl ?_
         refine TL.nil ?_
         exact TQ.one [] hF (Le.refl _) ⟨rfl, rfl⟩) ?_
        refine ChainV.q (some 111) [(43, 0), (40, 3)] (by
         intro H' X F hle
         intro hF
         refine TL.gyes rfl rfl rfl ?_
         refine TL.fieldAddr rfl rfl ?_
         refine TL.nil ?_
         exact TQ.one [] hF (Le.refl _) ⟨rfl, rfl⟩) ?_
        refine ChainV.q (some 112) [(44, 0), (40, 4)] (by
         intro H' X F hle
         have hL := Le.trans hL hle
         have hA := rd.mono hle hA
         have hB := rd.mono hle hB
         have hle0 := Le.trans hle0 hle
         have hp := hAt.mono hle hp
         have hst := RdL.mono hle hst
         have hvx := rd.mono hle hvx
         have hvb := rd.mono hle hvb
         have hve := rd.mono hle hve
         have hvc := rd.mono hle hvc
         have hq := hAt.mono hle hq
         have htt := RdL.mono hle htt
         have hux := rd.mono hle hux
         have hub := rd.mono hle hub
         have hue := rd.mono hle hue
         have huc := rd.mono hle huc
         intro hF
         refine TL.gyes rfl rfl rfl ?_
         refine TL.load_imm rfl (hp.2.2.2.2.2.2.1) rfl ?_
         refine TL.nil ?_
         exact TQ.one [] hF (Le.refl _) ⟨rfl, rfl⟩) ?_
        refine ChainV.q (some 113) [(40, 5)] (by
         intro H' X F hle
         intro hF
         refine TL.gyes rfl rfl rfl ?_
         refine TL.move rfl rfl ?_
         refine TL.nil ?_
         exact TQ.one [] hF (Le.refl _) ⟨rfl, rfl⟩) ?_
        refine ChainV.q (some 114) [(40, 6)] (by
         intro H' X F hle
         intro hF
         refine TL.gyes rfl rfl rfl ?_
         refine TL.move rfl rfl ?_
         refine TL.nil ?_
         exact TQ.one [] hF (Le.refl _) ⟨rfl, rfl⟩) ?_
        refine ChainV.q (some 115) [(46, 1), (47, 0), (40, 7)] (by
         intro H' X F hle
         intro hF
         refine TL.gyes rfl rfl rfl ?_
         refine TL.indexAddr (i) rfl rfl rfl (by omega) rfl ?_
         refine TL.nil ?_
         exact TQ.one [] hF (Le.refl _) ⟨rfl, rfl⟩) ?_
        refine ChainV.q (some 116) [(48, 0), (40, 8)] (by
         intro H' X F hle
         intro hF
         refine TL.gyes rfl rfl rfl ?_
         refine TL.fieldAddr rfl rfl ?_
         refine TL.nil ?_
         exact TQ.one [] hF (Le.refl _) ⟨rfl, rfl⟩) ?_
        refine ChainV.q (some 117) [(49, 0), (40, 9)] (by
         intro H' X F hle
         have hL := Le.trans hL hle
         have hA := rd.mono hle hA
         have hB := rd.mono hle hB
         have hle0 := Le.trans hle0 hle
         have hp := hAt.mono hle hp
         have hst := RdL.mono hle hst
         have hvx := rd.mono hle hvx
         have hvb := rd.mono hle hvb
         have hve := rd.mono hle hve
         have hvc := rd.mono hle hvc
         have hq := hAt.mono hle hq
         have htt := RdL.mono hle htt
         have hux := rd.mono hle hux
         have hub := rd.mono hle hub
         have hue := rd.mono hle hue
         have huc := rd.mono hle huc
         intro hF
         refine TL.gyes rfl rfl rfl ?_
         refine TL.load_imm rfl (hq.2.2.2.2.2.2.1) rfl ?_
         refine TL.nil ?_
         exact TQ.one [] hF (Le.refl _) ⟨rfl, rfl⟩) ?_
        refine ChainV.q (some 118) [(45, 5), (50, 0), (40, 10)] (by
         intro H' X F hle
         have hL := Le.trans hL hle
         have hA := rd.mono hle hA
         have hB := rd.mono hle hB
         have hle0 := Le.trans hle0 hle
         have hp := hAt.mono hle hp
         have hst := RdL.mono hle hst
         have hvx := rd.mono hle hvx
         have hvb := rd.mono hle hvb
         have hve := rd.mono hle hve
         have hvc := rd.mono hle hvc
         have hq := hAt.mono hle hq
         have htt := RdL.mono hle htt
         have hux := rd.mono hle hux
         have hub := rd.mono hle hub
         have hue := rd.mono hle hue
         have huc := rd.mono hle huc
         intro hF
         refine TL.gyes rfl rfl rfl ?_
         refine TL.neq rfl rfl rfl ?_
         rw [decide_eq_false (show ¬ (sn ≠ sn) by simp)]
         refine TL.nil ?_
         exact TQ.one [] hF (Le.refl _) ⟨rfl, rfl⟩) ?_
        refine ChainV.q (some 119) [(40, 11), (51, 0)] (by
         intro H' X F hle
         intro hF
         refine TL.pickF rfl rfl rfl rfl ?_
         refine TL.nil ?_
         exact TQ.one [] hF (Le.refl _) ⟨rfl, rfl⟩) ?_
        refine ChainV.q (some 120) [(52, 0)] (by
         intro H' X F hle
         intro hF
         refine TL.move rfl rfl ?_
         refine TL.nil ?_
         exact TQ.one [] hF (Le.refl _) ⟨rfl, rfl⟩) ?_
        refine ChainV.q (some 121) [(53, 0)] (by
         intro H' X F hle
         intro hF
         refine TL.gyes rfl rfl rfl ?_
         refine TL.move rfl rfl ?_
         refine TL.nil ?_
         exact TQ.one [] hF (Le.refl _) ⟨rfl, rfl⟩) ?_
        refine ChainV.q (some 122) [(53, 1)] (by
         intro H' X F hle
         intro hF
         refine TL.gyes rfl rfl rfl ?_
         refine TL.move rfl rfl ?_
         refine TL.nil ?_
         exact TQ.one [] hF (Le.refl _) ⟨rfl, rfl⟩) ?_
        refine ChainV.q (some 123) [(54, 1), (55, 0), (53, 2)] (by
         intro H' X F hle
         intro hF
         refine TL.gyes rfl rfl rfl ?_
         refine TL.indexAddr (i) rfl rfl rfl (by omega) rfl ?_
         refine TL.nil ?_
         exact TQ.one [] hF (Le.refl _) ⟨rfl, rfl⟩) ?_
        refine ChainV.q (some 124) [(56, 0), (53, 3)] (by
         intro H' X F hle
         intro hF
         refine TL.gyes rfl rfl rfl ?_
         refine TL.fieldAddr rfl rfl ?_
         refine TL.nil ?_
         exact TQ.one [] hF (Le.refl _) ⟨rfl, rfl⟩) ?_
        refine ChainV.q (some 125) [(57, 0), (53, 4)] (by
         intro H' X F hle
         have hL := Le.trans hL hle
         have hA := rd.mono hle hA
         have hB := rd.mono hle hB
         have hle0 := Le.trans hle0 hle
         have hp := hAt.mono hle hp
         have hst := RdL.mono hle hst
         have hvx := rd.mono hle hvx
         have hvb := rd.mono hle hvb
         have hve := rd.mono hle hve
         have hvc := rd.mono hle hvc
         have hq := hAt.mono hle hq
         have htt := RdL.mono hle htt
         have hux := rd.mono hle hux
         have hub := rd.mono hle hub
         have hue := rd.mono hle hue
         have huc := rd.mono hle huc
         intro hF
         refine TL.gyes rfl rfl rfl ?_
         refine TL.load_imm rfl (hp.2.2.2.2.2.2.2.2.2.2.1) rfl ?_
         refine TL.nil ?_
         exact TQ.one [] hF (Le.refl _) ⟨rfl, rfl⟩) ?_
        refine ChainV.q (some 126) [(58, 0), (53, 5)] (by
         intro H' X F hle
         have hL := Le.trans hL hle
         have hA := rd.mono hle hA
         have hB := rd.mono hle hB
         have hle0 := Le.trans hle0 hle
         have hp := hAt.mono hle hp
         have hst := RdL.mono hle hst
         have hvx := rd.mono hle hvx
         have hvb := rd.mono hle hvb
         have hve := rd.mono hle hve
         have hvc := rd.mono hle hvc
         have hq := hAt.mono hle hq
         have htt := RdL.mono hle htt
         have hux := rd.mono hle hux
         have hub := rd.mono hle hub
         have hue := rd.mono hle hue
         have huc := rd.mono hle huc
         intro hF
         refine TL.gyes rfl rfl rfl ?_
         refine TL.len_slice rfl rfl ?_
         refine TL.nil ?_
         exact TQ.one [] hF (Le.refl _) ⟨rfl, rfl⟩) ?_
        refine ChainV.q (some 127) [(53, 6)] (by
         intro H' X F hle
         intro hF
         refine TL.gyes rfl rfl rfl ?_
         refine TL.move rfl rfl ?_
         refine TL.nil ?_
         exact TQ.one [] hF (Le.refl _) ⟨rfl, rfl⟩) ?_
        refine ChainV.q (some 128) [(53, 7)] (by
         intro H' X F hle
         intro hF
         refine TL.gyes rfl rfl rfl ?_
         refine TL.move rfl rfl ?_
         refine TL.nil ?_
         exact TQ.one [] hF (Le.refl _) ⟨rfl, rfl⟩) ?_
        refine ChainV.q (some 129) [(60, 1), (61, 0), (53, 8)] (by
         intro H' X F hle
         intro hF
         refine TL.gyes rfl rfl rfl ?_
         refine TL.indexAddr (i) rfl rfl rfl (by omega) rfl ?_
         refine TL.nil ?_
         exact TQ.one [] hF (Le.refl _) ⟨rfl, rfl⟩) ?_
        refine ChainV.q (some 130) [(62, 0), (53, 9)] (by
         intro H' X F hle
         intro hF
         refine TL.gyes rfl rfl rfl ?_
         refine TL.fieldAddr rfl rfl ?_
         refine TL.nil ?_
         exact TQ.one [] hF (Le.refl _) ⟨rfl, rfl⟩) ?_
        refine ChainV.q (some 131) [(63, 0), (53, 10)] (by
         intro H' X F hle
         have hL := Le.trans hL hle
         have hA := rd.mono hle hA
         have hB := rd.mono hle hB
         have hle0 := Le.trans hle0 hle
         have hp := hAt.mono hle hp
         have hst := RdL.mono hle hst
         have hvx := rd.mono hle hvx
         have hvb := rd.mono hle hvb
         have hve := rd.mono hle hve
         have hvc := rd.mono hle hvc
         have hq := hAt.mono hle hq
         have htt := RdL.mono hle htt
         have hux := rd.mono hle hux
         have hub := rd.mono hle hub
         have hue := rd.mono hle hue
         have huc := rd.mono hle huc
         intro hF
         refine TL.gyes rfl rfl rfl ?_
         refine TL.load_imm rfl (hq.2.2.2.2.2.2.2.2.2.2.1) rfl ?_
         refine TL.nil ?_
         exact TQ.one [] hF (Le.refl _) ⟨rfl, rfl⟩) ?_
        refine ChainV.q (some 132) [(64, 0), (53, 11)] (by
         intro H' X F hle
         have hL := Le.trans hL hle
         have hA := rd.mono hle hA
         have hB := rd.mono hle hB
         have hle0 := Le.trans hle0 hle
         have hp := hAt.mono hle hp
         have hst := RdL.mono hle hst
         have hvx := rd.mono hle hvx
         have hvb := rd.mono hle hvb
         have hve := rd.mono hle hve
         have hvc := rd.mono hle hvc
         have hq := hAt.mono hle hq
         have htt := RdL.mono hle htt
         have hux := rd.mono hle hux
         have hub := rd.mono hle hub
         have hue := rd.mono hle hue
         have huc := rd.mono hle huc
         intro hF
         refine TL.gyes rfl rfl rfl ?_
         refine TL.len_slice rfl rfl ?_
         refine TL.nil ?_
         exact TQ.one [] hF (Le.refl _) ⟨rfl, rfl⟩) ?_
        refine ⟨by kernel_rfl, .refl _, ?_⟩
        ·
         intro H5 hle
         have hL := Le.trans hL hle
         have hA := rd.mono hle hA
         have hB := rd.mono hle hB
         have hle0 := Le.trans hle0 hle
         have hp := hAt.mono hle hp
         have hst := RdL.mono hle hst
         have hvx := rd.mono hle hvx
         have hvb := rd.mono hle hvb
         have hve := rd.mono hle hve
         have hvc := rd.mono hle hvc
         have hq := hAt.mono hle hq
         have htt := RdL.mono hle htt
         have hux := rd.mono hle hux
         have hub := rd.mono hle hub
         have hue := rd.mono hle hue
         have huc := rd.mono hle huc
         refine TL.toOwn (own' := own) rfl ?_
         refine TL.wk (env' := [(0, _), (1, _), (5, _), (120, _), (126, _), (132, _)]) ⟨rfl, rfl, rfl, rfl, rfl, rfl, trivial⟩ ?_
         refine TL.gyes rfl rfl rfl ?_
         refine TL.neq rfl rfl rfl ?_
         rw [decide_eq_false (show ¬ (((scs.length : Nat) : Int) ≠ ((scs.length : Nat) : Int)) by simp)]
         refine TL.pickF rfl rfl rfl rfl ?_
         refine TL.nil ?_
         refine TQ.then_n ?_
         refine TC.cond_f rfl ?_
         refine TC.skip ?_
         refine TQ.then_n ?_
         refine TC.seq ?_
         refine TC.region ?_
         refine TL.assign rfl rfl ?_
         refine TL.nil ?_
         refine TQ.then_n ?_
         refine TC.block ?_
         refine TC.loop (fun z env' own' H' => ∃ q : Nat, z = scs.length - q ∧ q ≤ scs.length ∧ env' = [(0, .slice (some ⟨b1, o1, none⟩) l.length c), (1, .slice (some ⟨b2, o2, none⟩) l.length c'), (5, .int .i64 (i : Int)), (10, .int .i64 (q : Int))] ∧ own' = own ∧ Le H5 H') scs.length [(0, _), (1, _), (5, _), (10, _)] ⟨rfl, rfl, rfl, rfl, trivial⟩ ⟨0, by omega, by omega, rfl, rfl, Le.refl _⟩ ?_
         rintro z _ own H13 ⟨q, rfl, hqq, rfl, rfl, hle13⟩
         have hL := Le.trans hL hle13
         have hA := rd.mono hle13 hA
         have hB := rd.mono hle13 hB
         have hle0 := Le.trans hle0 hle13
         have hp := hAt.mono hle13 hp
         have hst := RdL.mono hle13 hst
         have hvx := rd.mono hle13 hvx
         have hvb := rd.mono hle13 hvb
         have hve := rd.mono hle13 hve
         have hvc := rd.mono hle13 hvc
         have hq := hAt.mono hle13 hq
         have htt := RdL.mono hle13 htt
         have hux := rd.mono hle13 hux
         have hub := rd.mono hle13 hub
         have hue := rd.mono hle13 hue
         have huc := rd.mono hle13 huc
         refine TC.seq ?_
         refine TC.seq ?_
         refine TC.region ?_
         refine TL.move rfl rfl ?_
         refine TL.move rfl rfl ?_
         refine TL.move rfl rfl ?_
         refine TL.indexAddr (i) rfl rfl rfl (by omega) rfl ?_
         refine TL.fieldAddr rfl rfl ?_
         refine TL.load_imm rfl (hp.2.2.2.2.2.2.2.2.2.2.1) rfl ?_
         refine TL.len_slice rfl rfl ?_
         refine TL.lssB rfl rfl rfl (fun hlt2 => ?_) (fun hlt2 => ?_)
         ·
          obtain ⟨y, hy⟩ : ∃ y, scs[q]? = some y := ⟨_, List.getElem?_eq_getElem (by omega)⟩
          have hys := Sm.csize_mem (List.mem_of_getElem? hy)
          obtain ⟨b3, o3, v3, rfl, hp3, hv3⟩ := css_at hvc hy
          obtain ⟨b4, o4, v4, rfl, hp4, hv4⟩ := css_at huc hy
          refine TL.nil ?_
          refine TQ.then_n ?_
          refine TC.cond_t rfl ?_
          refine TC.skip ?_
          refine TQ.then_n ?_
          refine TC.seq ?_
          refine TC.block ?_
          refine TC.seq ?_
          refine TC.drawQV 16  [(0, _), (1, _), (5, _), (10, _)] follows_mixed ⟨rfl, rfl, rfl, rfl, trivial⟩ ?_
          refine ChainV.q (some 145) [] (by
           intro H' X F hle
           intro hF
           refine TL.move rfl rfl ?_
           refine TL.nil ?_
           exact TQ.one [] hF (Le.refl _) ⟨rfl, rfl⟩) ?_
          refine ChainV.q (some 146) [] (by
           intro H' X F hle
           intro hF
           refine TL.move rfl rfl ?_
           refine TL.nil ?_
           exact TQ.one [] hF (Le.refl _) ⟨rfl, rfl⟩) ?_
          refine ChainV.q (some 147) [(0, 1), (1, 0)] (by
           intro H' X F hle
           intro hF
           refine TL.indexAddr (i) rfl rfl rfl (by omega) rfl ?_
           refine TL.nil ?_
           exact TQ.one [] hF (Le.refl _) ⟨rfl, rfl⟩) ?_
          refine ChainV.q (some 148) [(2, 0)] (by
           intro H' X F hle
           intro hF
           refine TL.fieldAddr rfl rfl ?_
           refine TL.nil ?_
           exact TQ.one [] hF (Le.refl _) ⟨rfl, rfl⟩) ?_
          refine ChainV.q (some 149) [(3, 0)] (by
           intro H' X F hle
           have hL := Le.trans hL hle
           have hA := rd.mono hle hA
           have hB := rd.mono hle hB
           have hle0 := Le.trans hle0 hle
           have hp := hAt.mono hle hp
           have hst := RdL.mono hle hst
           have hvx := rd.mono hle hvx
           have hvb := rd.mono hle hvb
           have hve := rd.mono hle hve
           have hvc := rd.mono hle hvc
           have hq := hAt.mono hle hq
           have htt := RdL.mono hle htt
           have hux := rd.mono hle hux
           have hub := rd.mono hle hub
           have hue := rd.mono hle hue
           have huc := rd.mono hle huc
           have hle13 := Le.trans hle13 hle
           have hp3 := cel_le hle hp3
           have hv3 := rd.mono hle hv3
           have hp4 := cel_le hle hp4
           have hv4 := rd.mono hle hv4
           intro hF
           refine TL.load_imm rfl (hp.2.2.2.2.2.2.2.2.2.2.1) rfl ?_
           refine TL.nil ?_
           exact TQ.one [] hF (Le.refl _) ⟨rfl, rfl⟩) ?_
          refine ChainV.q (some 150) [] (by
           intro H' X F hle
           intro hF
           refine TL.move rfl rfl ?_
           refine TL.nil ?_
           exact TQ.one [] hF (Le.refl _) ⟨rfl, rfl⟩) ?_
          refine ChainV.q (some 151) [(4, 1), (5, 0)] (by
           intro H' X F hle
           intro hF
           refine TL.indexAddr (q) rfl rfl rfl (by omega) rfl ?_
           refine TL.nil ?_
           exact TQ.one [] hF (Le.refl _) ⟨rfl, rfl⟩) ?_
          refine ChainV.q (some 152) [(6, 0)] (by
           intro H' X F hle
           have hL := Le.trans hL hle
           have hA := rd.mono hle hA
           have hB := rd.mono hle hB
           have hle0 := Le.trans hle0 hle
           have hp := hAt.mono hle hp
           have hst := RdL.mono hle hst
           have hvx := rd.mono hle hvx
           have hvb := rd.mono hle hvb
           have hve := rd.mono hle hve
           have hvc := rd.mono hle hvc
           have hq := hAt.mono hle hq
           have htt := RdL.mono hle htt
           have hux := rd.mono hle hux
           have hub := rd.mono hle hub
           have hue := rd.mono hle hue
           have huc := rd.mono hle huc
           have hle13 := Le.trans hle13 hle
           have hp3 := cel_le hle hp3
           have hv3 := rd.mono hle hv3
           have hp4 := cel_le hle hp4
           have hv4 := rd.mono hle hv4
           intro hF
           refine TL.load_imm rfl (hp3) rfl ?_
           refine TL.nil ?_
           exact TQ.one [] hF (Le.refl _) ⟨rfl, rfl⟩) ?_
          refine ChainV.q (some 153) [] (by
           intro H' X F hle
           intro hF
           refine TL.move rfl rfl ?_
           refine TL.nil ?_
           exact TQ.one [] hF (Le.refl _) ⟨rfl, rfl⟩) ?_
          refine ChainV.q (some 154) [] (by
           intro H' X F hle
           intro hF
           refine TL.move rfl rfl ?_
           refine TL.nil ?_
           exact TQ.one [] hF (Le.refl _) ⟨rfl, rfl⟩) ?_
          refine ChainV.q (some 155) [(8, 1), (9, 0)] (by
           intro H' X F hle
           intro hF
           refine TL.indexAddr (i) rfl rfl rfl (by omega) rfl ?_
           refine TL.nil ?_
           exact TQ.one [] hF (Le.refl _) ⟨rfl, rfl⟩) ?_
          refine ChainV.q (some 156) [(10, 0)] (by
           intro H' X F hle
           intro hF
           refine TL.fieldAddr rfl rfl ?_
           refine TL.nil ?_
           exact TQ.one [] hF (Le.refl _) ⟨rfl, rfl⟩) ?_
          refine ChainV.q (some 157) [(11, 0)] (by
           intro H' X F hle
           have hL := Le.trans hL hle
           have hA := rd.mono hle hA
           have hB := rd.mono hle hB
           have hle0 := Le.trans hle0 hle
           have hp := hAt.mono hle hp
           have hst := RdL.mono hle hst
           have hvx := rd.mono hle hvx
           have hvb := rd.mono hle hvb
           have hve := rd.mono hle hve
           have hvc := rd.mono hle hvc
           have hq := hAt.mono hle hq
           have htt := RdL.mono hle htt
           have hux := rd.mono hle hux
           have hub := rd.mono hle hub
           have hue := rd.mono hle hue
           have huc := rd.mono hle huc
           have hle13 := Le.trans hle13 hle
           have hp3 := cel_le hle hp3
           have hv3 := rd.mono hle hv3
           have hp4 := cel_le hle hp4
           have hv4 := rd.mono hle hv4
           intro hF
           refine TL.load_imm rfl (hq.2.2.2.2.2.2.2.2.2.2.1) rfl ?_
           refine TL.nil ?_
           exact TQ.one [] hF (Le.refl _) ⟨rfl, rfl⟩) ?_
          refine ChainV.q (some 158) [] (by
           intro H' X F hle
           intro hF
           refine TL.move rfl rfl ?_
           refine TL.nil ?_
           exact TQ.one [] hF (Le.refl _) ⟨rfl, rfl⟩) ?_
          refine ChainV.q (some 159) [(12, 1), (13, 0)] (by
           intro H' X F hle
           intro hF
           refine TL.indexAddr (q) rfl rfl rfl (by omega) rfl ?_
           refine TL.nil ?_
           exact TQ.one [] hF (Le.refl _) ⟨rfl, rfl⟩) ?_
          refine ChainV.q (some 160) [(14, 0)] (by
           intro H' X F hle
           have hL := Le.trans hL hle
           have hA := rd.mono hle hA
           have hB := rd.mono hle hB
           have hle0 := Le.trans hle0 hle
           have hp := hAt.mono hle hp
           have hst := RdL.mono hle hst
           have hvx := rd.mono hle hvx
           have hvb := rd.mono hle hvb
           have hve := rd.mono hle hve
           have hvc := rd.mono hle hvc
           have hq := hAt.mono hle hq
           have htt := RdL.mono hle htt
           have hux := rd.mono hle hux
           have hub := rd.mono hle hub
           have hue := rd.mono hle hue
           have huc := rd.mono hle huc
           have hle13 := Le.trans hle13 hle
           have hp3 := cel_le hle hp3
           have hv3 := rd.mono hle hv3
           have hp4 := cel_le hle hp4
           have hv4 := rd.mono hle hv4
           intro hF
           refine TL.load_imm rfl (hp4) rfl ?_
           refine TL.nil ?_
           exact TQ.one [] hF (Le.refl _) ⟨rfl, rfl⟩) ?_
          refine ⟨by kernel_rfl, .refl _, ?_⟩
          ·
           intro H6 hle
           have hL := Le.trans hL hle
           have hA := rd.mono hle hA
           have hB := rd.mono hle hB
           have hle0 := Le.trans hle0 hle
           have hp := hAt.mono hle hp
           have hst := RdL.mono hle hst
           have hvx := rd.mono hle hvx
           have hvb := rd.mono hle hvb
           have hve := rd.mono hle hve
           have hvc := rd.mono hle hvc
           have hq := hAt.mono hle hq
           have htt := RdL.mono hle htt
           have hux := rd.mono hle hux
           have hub := rd.mono hle hub
           have hue := rd.mono hle hue
           have huc := rd.mono hle huc
           have hle13 := Le.trans hle13 hle
           have hp3 := cel_le hle hp3
           have hv3 := rd.mono hle hv3
           have hp4 := cel_le hle hp4
           have hv4 := rd.mono hle hv4
           refine TL.toOwn (own' := own) rfl ?_
           refine TL.wk (env' := [(0, _), (1, _), (5, _), (10, _), (152, _), (160, _)]) ⟨rfl, rfl, rfl, rfl, rfl, rfl, trivial⟩ ?_
           refine TL.call (ih (k - 1) (by omega) y (by omega) hv3 hv4) ⟨rfl, rfl, trivial⟩ rfl ?_
           rintro _ own H161 ⟨rfl, rfl, hle161⟩
           have hL := Le.trans hL hle161
           have hA := rd.mono hle161 hA
           have hB := rd.mono hle161 hB
           have hle0 := Le.trans hle0 hle161
           have hp := hAt.mono hle161 hp
           have hst := RdL.mono hle161 hst
           have hvx := rd.mono hle161 hvx
           have hvb := rd.mono hle161 hvb
           have hve := rd.mono hle161 hve
           have hvc := rd.mono hle161 hvc
           have hq := hAt.mono hle161 hq
           have htt := RdL.mono hle161 htt
           have hux := rd.mono hle161 hux
           have hub := rd.mono hle161 hub
           have hue := rd.mono hle161 hue
           have huc := rd.mono hle161 huc
           have hle13 := Le.trans hle13 hle161
           have hp3 := cel_le hle161 hp3
           have hv3 := rd.mono hle161 hv3
           have hp4 := cel_le hle161 hp4
           have hv4 := rd.mono hle161 hv4
           refine TL.assign rfl rfl ?_
           refine TL.nil ?_
           refine TQ.then_n ?_
           refine TC.seq ?_
           refine TC.region ?_
           refine TL.move rfl rfl ?_
           refine TL.not rfl rfl ?_
           refine TL.nil ?_
           refine TQ.then_n ?_
           refine TC.cond_f rfl ?_
           refine TC.skip ?_
           refine TQ.in_n ?_
           refine TQ.then_n ?_
           refine TC.region ?_
           refine TL.move rfl rfl ?_
           refine TL.add rfl rfl rfl ⟨by omega, by omega⟩ ?_
           refine TL.assign rfl rfl ?_
           refine TL.nil ?_
           refine TQ.next (scs.length - (q + 1)) [(0, _), (1, _), (5, _), (10, _)] (by omega) ⟨rfl, rfl, rfl, rfl, trivial⟩ ⟨q + 1, rfl, by omega, by simp, rfl, hle13⟩
         ·
          refine TL.nil ?_
          refine TQ.then_n ?_
          refine TC.cond_f rfl ?_
          refine TC.exit ?_
          refine TQ.then_e ?_
          refine TQ.then_e ?_
          refine TQ.in_e ?_
          refine TQ.in_n ?_
          refine TQ.then_n ?_
          refine TC.region ?_
          refine TL.move rfl rfl ?_
          refine TL.add rfl rfl rfl ⟨by omega, by omega⟩ ?_
          refine TL.assign rfl rfl ?_
          refine TL.nil ?_
          refine TQ.next (l.length - (i + 1)) [(0, _), (1, _), (5, _)] (by omega) ⟨rfl, rfl, rfl, trivial⟩ ⟨i + 1, rfl, by omega, by simp, rfl, hle0⟩
   ·
    refine TL.nil ?_
    refine TQ.then_n ?_
    refine TC.cond_f rfl ?_
    refine TC.exit ?_
    refine TQ.then_e ?_
    refine TQ.then_e ?_
    refine TQ.in_e ?_
    refine TQ.then_n ?_
    refine TC.seq ?_
    refine TC.region ?_
    refine TL.assign rfl rfl ?_
    refine TL.nil ?_
    refine TQ.then_n ?_
    refine TC.ret ?_
    refine TQ.ret1 0 rfl rfl ?_
    exact ⟨rfl, rfl, hL⟩

end Go.Proofs.Ytapmmfabdmhdnaa.K
