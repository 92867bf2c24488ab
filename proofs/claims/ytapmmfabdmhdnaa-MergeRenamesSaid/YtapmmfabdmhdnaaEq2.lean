/-
  Equality of the reference at equal functions.
-/
import Derived.Test.YtapmmfabdmhdnaaEq
set_option linter.unusedVariables false
set_option linter.unusedSimpArgs false
set_option maxHeartbeats 4000000
namespace Go.Proofs.Ytapmmfabdmhdnaa.K
open Go Go.RowKit Go.Proofs

theorem same_func {f : Fu} {w0 : World} {H : Hp} {own : List Seg} {xs ys : List Value} (ha : RdL H f.d xs) (hb : RdL H f.d ys) :
    Fn Try.prog 67 [.agg xs.toArray, .agg ys.toArray] w0 H own (fun r own' H' => r = .bool true ∧ own' = own ∧ Le H H') := by
  obtain ⟨vp, t0, t1, t2, t3, vb, rfl, hvp, hst, hvb⟩ := fu_cells ha
  obtain ⟨up, s0, s1, s2, s3, ub, rfl, hup, htt, hub⟩ := fu_cells hb
  refine Fn.enter Try.func67 rfl Try.ntmps67 rfl ?_
  have hL := Le.refl H
  refine TC.seq ?_
  refine TC.region ?_
  refine TL.box (c := #[_, _, _, _, _, _, _, _, _, _]) rfl rfl rfl ?_; intro g2
  refine TL.box (c := #[_, _, _, _, _, _, _, _, _, _]) rfl rfl rfl ?_; intro g3
  refine TL.assign rfl rfl ?_
  refine TL.nil ?_
  refine TQ.then_n ?_
  refine TC.seq ?_
  refine TC.region ?_
  refine TL.fieldAddr rfl rfl ?_
  refine TL.load_own 1 0 rfl rfl rfl rfl rfl ?_
  refine TL.fieldAddr rfl rfl ?_
  refine TL.load_own 0 0 rfl rfl rfl rfl rfl ?_
  refine TL.call (same_fields hvp hup) ⟨rfl, rfl, trivial⟩ rfl ?_
  rintro _ _ H12 ⟨rfl, rfl, hle12⟩
  have hL := Le.trans hL hle12
  have hvp := rd.mono hle12 hvp
  have hst := RdL.mono hle12 hst
  have hvb := rd.mono hle12 hvb
  have hup := rd.mono hle12 hup
  have htt := RdL.mono hle12 htt
  have hub := rd.mono hle12 hub
  refine TL.assign rfl rfl ?_
  refine TL.nil ?_
  refine TQ.then_n ?_
  refine TC.seq ?_
  refine TC.region ?_
  refine TL.fieldAddr rfl rfl ?_
  refine TL.load_ownA 1 0 [_, _, _, _] rfl rfl rfl ⟨rfl, rfl, rfl, rfl, trivial⟩ rfl rfl ?_
  refine TL.fieldAddr rfl rfl ?_
  refine TL.load_ownA 0 0 [_, _, _, _] rfl rfl rfl ⟨rfl, rfl, rfl, rfl, trivial⟩ rfl rfl ?_
  refine TL.call (same_type _ f.res (Nat.le_refl _) hst htt) ⟨rfl, rfl, trivial⟩ rfl ?_
  rintro _ _ H17 ⟨rfl, rfl, hle17⟩
  have hL := Le.trans hL hle17
  have hvp := rd.mono hle17 hvp
  have hst := RdL.mono hle17 hst
  have hvb := rd.mono hle17 hvb
  have hup := rd.mono hle17 hup
  have htt := RdL.mono hle17 htt
  have hub := rd.mono hle17 hub
  refine TL.assign rfl rfl ?_
  refine TL.nil ?_
  refine TQ.then_n ?_
  refine TC.seq ?_
  refine TC.region ?_
  refine TL.fieldAddr rfl rfl ?_
  refine TL.load_own 1 0 rfl rfl rfl rfl rfl ?_
  refine TL.fieldAddr rfl rfl ?_
  refine TL.load_own 0 0 rfl rfl rfl rfl rfl ?_
  refine TL.call (same_stmts _ f.body (Nat.le_refl _) hvb hub) ⟨rfl, rfl, trivial⟩ rfl ?_
  rintro _ _ H22 ⟨rfl, rfl, hle22⟩
  have hL := Le.trans hL hle22
  have hvp := rd.mono hle22 hvp
  have hst := RdL.mono hle22 hst
  have hvb := rd.mono hle22 hvb
  have hup := rd.mono hle22 hup
  have htt := RdL.mono hle22 htt
  have hub := rd.mono hle22 hub
  refine TL.assign rfl rfl ?_
  refine TL.nil ?_
  refine TQ.then_n ?_
  refine TC.seq ?_
  refine TC.region ?_
  refine TL.move rfl rfl ?_
  refine TL.move rfl rfl ?_
  refine TL.gyes rfl rfl rfl ?_
  refine TL.move rfl rfl ?_
  refine TL.pickT rfl rfl rfl rfl ?_
  refine TL.move rfl rfl ?_
  refine TL.gyes rfl rfl rfl ?_
  refine TL.move rfl rfl ?_
  refine TL.pickT rfl rfl rfl rfl ?_
  refine TL.move rfl rfl ?_
  refine TL.gyes rfl rfl rfl ?_
  refine TL.fieldAddr rfl rfl ?_
  refine TL.gyes rfl rfl rfl ?_
  refine TL.load_own 1 0 rfl rfl rfl rfl rfl ?_
  refine TL.gyes rfl rfl rfl ?_
  refine TL.fieldAddr rfl rfl ?_
  refine TL.gyes rfl rfl rfl ?_
  refine TL.load_own 0 0 rfl rfl rfl rfl rfl ?_
  refine TL.gyes rfl rfl rfl ?_
  refine TL.eqlSB rfl rfl rfl (fun hq35 => ?_) (fun hq35 => ?_)
  ·
   refine TL.pickT rfl rfl rfl rfl ?_
   refine TL.move rfl rfl ?_
   refine TL.gyes rfl rfl rfl ?_
   refine TL.fieldAddr rfl rfl ?_
   refine TL.gyes rfl rfl rfl ?_
   refine TL.load_own 1 0 rfl rfl rfl rfl rfl ?_
   refine TL.gyes rfl rfl rfl ?_
   refine TL.fieldAddr rfl rfl ?_
   refine TL.gyes rfl rfl rfl ?_
   refine TL.load_own 0 0 rfl rfl rfl rfl rfl ?_
   refine TL.gyes rfl rfl rfl ?_
   refine TL.eqlBool rfl rfl rfl ?_
   rw [show (f.fl == f.fl) = true by simp]
   refine TL.pickT rfl rfl rfl rfl ?_
   refine TL.move rfl rfl ?_
   refine TL.gyes rfl rfl rfl ?_
   refine TL.fieldAddr rfl rfl ?_
   refine TL.gyes rfl rfl rfl ?_
   refine TL.load_ownA 1 0 [_, _] rfl rfl rfl ⟨rfl, rfl, trivial⟩ rfl rfl ?_
   refine TL.gyes rfl rfl rfl ?_
   refine TL.fieldAddr rfl rfl ?_
   refine TL.gyes rfl rfl rfl ?_
   refine TL.load_ownA 0 0 [_, _] rfl rfl rfl ⟨rfl, rfl, trivial⟩ rfl rfl ?_
   refine TL.gyes rfl rfl rfl ?_
   refine TL.eqlSt rfl rfl (by kernel_rfl) (place_eq _ _) rfl ?_
   refine TL.pickT rfl rfl rfl rfl ?_
   refine TL.assign rfl rfl ?_
   refine TL.nil ?_
   refine TQ.then_n ?_
   refine TC.ret ?_
   refine TQ.ret1 2 rfl rfl ?_
   exact ⟨rfl, rfl, hL⟩
  ·
   exact absurd rfl hq35 -- dead
theorem mk_One {f : Fu} {w0 : World} {H : Hp} {own : List Seg} {xs : List Value} (ha : RdL H f.d xs) :
    Fn Try.prog 40 [.agg xs.toArray] w0 H own (fun r own' H' => ∃ v, r = .agg #[.slice none 0 0, .slice none 0 0, v] ∧ rd H' (.s 10 f.d) v ∧ own' = own ∧ Le H H') := by
  have ha0 := ha
  obtain ⟨vp, t0, t1, t2, t3, vb, rfl, hvp, hst, hvb⟩ := fu_cells ha
  replace ha := ha0
  refine Fn.enter Try.func40 rfl Try.ntmps40 rfl ?_
  have hL := Le.refl H
  refine TC.seq ?_
  refine TC.region ?_
  refine TL.box (c := #[_, _, _, _, _, _, _, _, _, _]) rfl rfl rfl ?_; intro g1
  refine TL.new rfl ?_; intro g2
  refine TL.nil ?_
  refine TQ.then_n ?_
  refine TC.seq ?_
  refine TC.region ?_
  refine TL.load_ownA 1 0 [_, _, _, _, _, _, _, _, _, _] rfl rfl rfl ⟨rfl, rfl, rfl, rfl, rfl, rfl, rfl, rfl, rfl, rfl, trivial⟩ rfl rfl ?_
  refine TL.litF (r := [_, _, _, _, _, _, _, _, _, _]) [(0, [_, _, _, _, _, _, _, _, _, _])] ⟨rfl, ⟨_, rfl, rfl⟩, trivial⟩ rfl rfl rfl rfl ?_; intro g4
  refine TL.struct [(2, [_])] ⟨rfl, ⟨_, rfl, rfl⟩, trivial⟩ rfl rfl ?_
  refine TL.storeA 1 0 (c' := #[_, _, _]) (own' := _ :: [(_, .cells #[_, _, _] _ _)] :: _) rfl rfl rfl rfl rfl ⟨rfl, rfl, rfl, trivial⟩ (by simp) rfl rfl rfl ?_
  refine TL.nil ?_
  refine TQ.then_n ?_
  refine TC.ret ?_
  refine TQ.freeze (fun H1 hle hz_g4 => ?_)
  have hL := Le.trans hL hle
  have ha := RdL.mono hle ha
  refine TQ.retC 0 0 2 [_, _, _] rfl rfl rfl rfl ⟨rfl, rfl, rfl, trivial⟩ rfl rfl ?_
  exact ⟨_, rfl, rd.ofRow (Row.lit _ 10 1 _ _ rfl (by omega)) hz_g4 ha (Le.refl _), rfl, hL⟩
theorem one_at {H : Hp} {f : Fu} {v : Value} (h : rd H (.s 10 f.d) v) : ∃ b o c vs, v = .slice (some ⟨b, o, none⟩) 1 c ∧ hAt H b o vs ∧ RdL H f.d vs ∧ vs.length = 10 := by
  have hl : f.d.length = 10 := by simp [Fu.d, Ty4.d_len]
  obtain ⟨A, n, c, rfl, h1, h2, h3⟩ := h.s_len
  have hn : n = 1 := by omega
  subst hn
  obtain ⟨_, b, o, rfl, hr⟩ := h.s_at (by omega)
  obtain ⟨vs, h4, h5⟩ := rds.cellsE hr
  exact ⟨b, o, c, vs, rfl, h4, h5, by rw [← h5.len, hl]⟩
theorem equal_same {f : Fu} {w0 : World} {H : Hp} {own : List Seg} {va vb : Value} (ha : rd H (.s 10 f.d) va) (hb : rd H (.s 10 f.d) vb) :
    Fn Try.prog 39 [.agg #[.slice none 0 0, .slice none 0 0, va], .agg #[.slice none 0 0, .slice none 0 0, vb]] w0 H own (fun r own' H' => r = .bool true ∧ own' = own ∧ Le H H') := by
  obtain ⟨b1, o1, c1, xs, rfl, hp, hpr, hxl⟩ := one_at ha
  obtain ⟨b2, o2, c2, ys, rfl, hq, hqr, hyl⟩ := one_at hb
  refine Fn.enter Try.func39 rfl Try.ntmps39 rfl ?_
  have hL := Le.refl H
  refine TC.seq ?_
  refine TC.region ?_
  refine TL.box (c := #[_, _, _]) rfl rfl rfl ?_; intro g2
  refine TL.box (c := #[_, _, _]) rfl rfl rfl ?_; intro g3
  refine TL.assign rfl rfl ?_
  refine TL.nil ?_
  refine TQ.then_n ?_
  refine TC.seq ?_
  refine TC.seq ?_
  refine TC.region ?_
  refine TL.fieldAddr rfl rfl ?_
  refine TL.load_own 1 0 rfl rfl rfl rfl rfl ?_
  refine TL.len_slice rfl rfl ?_
  refine TL.fieldAddr rfl rfl ?_
  refine TL.load_own 0 0 rfl rfl rfl rfl rfl ?_
  refine TL.len_slice rfl rfl ?_
  refine TL.neqB rfl rfl rfl (fun hq21 => ?_) (fun hq21 => ?_)
  ·
   exact absurd rfl hq21 -- dead
  ·
   refine TL.move rfl rfl ?_
   refine TL.gyes rfl rfl rfl ?_
   refine TL.fieldAddr rfl rfl ?_
   refine TL.gyes rfl rfl rfl ?_
   refine TL.load_own 1 0 rfl rfl rfl rfl rfl ?_
   refine TL.gyes rfl rfl rfl ?_
   refine TL.len_slice rfl rfl ?_
   refine TL.gyes rfl rfl rfl ?_
   refine TL.fieldAddr rfl rfl ?_
   refine TL.gyes rfl rfl rfl ?_
   refine TL.load_own 0 0 rfl rfl rfl rfl rfl ?_
   refine TL.gyes rfl rfl rfl ?_
   refine TL.len_slice rfl rfl ?_
   refine TL.gyes rfl rfl rfl ?_
   refine TL.neqB rfl rfl rfl (fun hq29 => ?_) (fun hq29 => ?_)
   ·
    exact absurd rfl hq29 -- dead
   ·
    refine TL.pickF rfl rfl rfl rfl ?_
    refine TL.move rfl rfl ?_
    refine TL.gyes rfl rfl rfl ?_
    refine TL.fieldAddr rfl rfl ?_
    refine TL.gyes rfl rfl rfl ?_
    refine TL.load_own 1 0 rfl rfl rfl rfl rfl ?_
    refine TL.gyes rfl rfl rfl ?_
    refine TL.len_slice rfl rfl ?_
    refine TL.gyes rfl rfl rfl ?_
    refine TL.fieldAddr rfl rfl ?_
    refine TL.gyes rfl rfl rfl ?_
    refine TL.load_own 0 0 rfl rfl rfl rfl rfl ?_
    refine TL.gyes rfl rfl rfl ?_
    refine TL.len_slice rfl rfl ?_
    refine TL.gyes rfl rfl rfl ?_
    refine TL.neqB rfl rfl rfl (fun hq38 => ?_) (fun hq38 => ?_)
    ·
     exact absurd rfl hq38 -- dead
    ·
     refine TL.pickF rfl rfl rfl rfl ?_
     refine TL.nil ?_
     refine TQ.then_n ?_
     refine TC.cond_f rfl ?_
     refine TC.skip ?_
     refine TQ.then_n ?_
     refine TC.seq ?_
     refine TC.seq ?_
     refine TC.region ?_
     refine TL.assign rfl rfl ?_
     refine TL.nil ?_
     refine TQ.then_n ?_
     refine TC.block ?_
     refine TC.loop (fun z env' own' H' => env' = [(2, .pointer (some ⟨g2, 0, none⟩)), (3, .pointer (some ⟨g3, 0, none⟩)), (5, .int .i64 0)] ∧ own' = [(g3, .cells #[.slice none 0 0, .slice none 0 0, .slice (some ⟨b2, o2, none⟩) 1 c2] 96 (0, 0))] :: [(g2, .cells #[.slice none 0 0, .slice none 0 0, .slice (some ⟨b1, o1, none⟩) 1 c1] 96 (0, 0))] :: own ∧ Le H H') 0 [(2, _), (3, _), (5, _)] ⟨rfl, rfl, rfl, trivial⟩ ⟨rfl, rfl, Le.refl _⟩ ?_
     rintro z _ _ H4 ⟨rfl, rfl, hle4⟩
     have hL := Le.trans hL hle4
     have hp := hAt.mono hle4 hp
     have hpr := RdL.mono hle4 hpr
     have hq := hAt.mono hle4 hq
     have hqr := RdL.mono hle4 hqr
     refine TC.seq ?_
     refine TC.seq ?_
     refine TC.region ?_
     refine TL.move rfl rfl ?_
     refine TL.fieldAddr rfl rfl ?_
     refine TL.load_own 1 0 rfl rfl rfl rfl rfl ?_
     refine TL.len_slice rfl rfl ?_
     refine TL.lssB rfl rfl rfl (fun hd44 => ?_) (fun hd44 => ?_)
     ·
      exact absurd hd44 (by decide) -- dead
     ·
      refine TL.nil ?_
      refine TQ.then_n ?_
      refine TC.cond_f rfl ?_
      refine TC.exit ?_
      refine TQ.then_e ?_
      refine TQ.then_e ?_
      refine TQ.in_e ?_
      refine TQ.then_n ?_
      refine TC.seq ?_
      refine TC.seq ?_
      refine TC.region ?_
      refine TL.assign rfl rfl ?_
      refine TL.nil ?_
      refine TQ.then_n ?_
      refine TC.block ?_
      refine TC.loop (fun z env' own' H' => env' = [(2, .pointer (some ⟨g2, 0, none⟩)), (3, .pointer (some ⟨g3, 0, none⟩)), (9, .int .i64 0)] ∧ own' = [(g3, .cells #[.slice none 0 0, .slice none 0 0, .slice (some ⟨b2, o2, none⟩) 1 c2] 96 (0, 0))] :: [(g2, .cells #[.slice none 0 0, .slice none 0 0, .slice (some ⟨b1, o1, none⟩) 1 c1] 96 (0, 0))] :: own ∧ Le H4 H') 0 [(2, _), (3, _), (9, _)] ⟨rfl, rfl, rfl, trivial⟩ ⟨rfl, rfl, Le.refl _⟩ ?_
      rintro z _ _ H12 ⟨rfl, rfl, hle12⟩
      have hL := Le.trans hL hle12
      have hp := hAt.mono hle12 hp
      have hpr := RdL.mono hle12 hpr
      have hq := hAt.mono hle12 hq
      have hqr := RdL.mono hle12 hqr
      have hle4 := Le.trans hle4 hle12
      refine TC.seq ?_
      refine TC.seq ?_
      refine TC.region ?_
      refine TL.move rfl rfl ?_
      refine TL.fieldAddr rfl rfl ?_
      refine TL.load_own 1 0 rfl rfl rfl rfl rfl ?_
      refine TL.len_slice rfl rfl ?_
      refine TL.lssB rfl rfl rfl (fun hd82 => ?_) (fun hd82 => ?_)
      ·
       exact absurd hd82 (by decide) -- dead
      ·
       refine TL.nil ?_
       refine TQ.then_n ?_
       refine TC.cond_f rfl ?_
       refine TC.exit ?_
       refine TQ.then_e ?_
       refine TQ.then_e ?_
       refine TQ.in_e ?_
       refine TQ.then_n ?_
       refine TC.seq ?_
       refine TC.seq ?_
       refine TC.region ?_
       refine TL.assign rfl rfl ?_
       refine TL.nil ?_
       refine TQ.then_n ?_
       refine TC.block ?_
       refine TC.loop (fun z env' own' H' => ∃ i : Nat, z = 1 - i ∧ i ≤ 1 ∧ env' = [(2, .pointer (some ⟨g2, 0, none⟩)), (3, .pointer (some ⟨g3, 0, none⟩)), (13, .int .i64 (i : Int))] ∧ own' = [(g3, .cells #[.slice none 0 0, .slice none 0 0, .slice (some ⟨b2, o2, none⟩) 1 c2] 96 (0, 0))] :: [(g2, .cells #[.slice none 0 0, .slice none 0 0, .slice (some ⟨b1, o1, none⟩) 1 c1] 96 (0, 0))] :: own ∧ Le H12 H') 1 [(2, _), (3, _), (13, _)] ⟨rfl, rfl, rfl, trivial⟩ ⟨0, by omega, by omega, rfl, rfl, Le.refl _⟩ ?_
       rintro z _ _ H20 ⟨i, rfl, hi, rfl, rfl, hle20⟩
       have hL := Le.trans hL hle20
       have hp := hAt.mono hle20 hp
       have hpr := RdL.mono hle20 hpr
       have hq := hAt.mono hle20 hq
       have hqr := RdL.mono hle20 hqr
       have hle4 := Le.trans hle4 hle20
       have hle12 := Le.trans hle12 hle20
       refine TC.seq ?_
       refine TC.seq ?_
       refine TC.region ?_
       refine TL.move rfl rfl ?_
       refine TL.fieldAddr rfl rfl ?_
       refine TL.load_own 1 0 rfl rfl rfl rfl rfl ?_
       refine TL.len_slice rfl rfl ?_
       refine TL.lssB rfl rfl rfl (fun hlt => ?_) (fun hlt => ?_)
       ·
        obtain rfl : i = 0 := by omega
        refine TL.nil ?_
        refine TQ.then_n ?_
        refine TC.cond_t rfl ?_
        refine TC.skip ?_
        refine TQ.then_n ?_
        refine TC.seq ?_
        refine TC.block ?_
        refine TC.seq ?_
        refine TC.drawQV 10  [(2, _), (3, _), (13, _)] follows_mixed ⟨rfl, rfl, rfl, trivial⟩ ?_
        refine ChainV.q (some 137) [] (by
         intro H' X F hle
         intro hF
         refine TL.fieldAddr rfl rfl ?_
         refine TL.nil ?_
         exact TQ.one [] hF (Le.refl _) ⟨rfl, rfl⟩) ?_
        refine ChainV.q (some 138) [(0, 0)] (by
         intro H' X F hle
         have hL := Le.trans hL hle
         have hp := hAt.mono hle hp
         have hpr := RdL.mono hle hpr
         have hq := hAt.mono hle hq
         have hqr := RdL.mono hle hqr
         have hle4 := Le.trans hle4 hle
         have hle12 := Le.trans hle12 hle
         have hle20 := Le.trans hle20 hle
         intro hF
         refine TL.load_own 1 0 rfl rfl rfl rfl rfl ?_
         refine TL.nil ?_
         exact TQ.one [] hF (Le.refl _) ⟨rfl, rfl⟩) ?_
        refine ChainV.q (some 139) [] (by
         intro H' X F hle
         intro hF
         refine TL.move rfl rfl ?_
         refine TL.nil ?_
         exact TQ.one [] hF (Le.refl _) ⟨rfl, rfl⟩) ?_
        refine ChainV.q (some 140) [(1, 1), (2, 0)] (by
         intro H' X F hle
         intro hF
         refine TL.indexAddr (0) rfl rfl rfl (by omega) rfl ?_
         refine TL.nil ?_
         exact TQ.one [] hF (Le.refl _) ⟨rfl, rfl⟩) ?_
        refine ChainV.q (some 141) [(3, 0)] (by
         intro H' X F hle
         have hL := Le.trans hL hle
         have hp := hAt.mono hle hp
         have hpr := RdL.mono hle hpr
         have hq := hAt.mono hle hq
         have hqr := RdL.mono hle hqr
         have hle4 := Le.trans hle4 hle
         have hle12 := Le.trans hle12 hle
         have hle20 := Le.trans hle20 hle
         intro hF
         refine TL.load_immA rfl (vs := xs) (by rw [Nat.zero_mul, Nat.add_zero]; exact hp) hxl rfl ?_
         refine TL.nil ?_
         exact TQ.one [] hF (Le.refl _) ⟨rfl, rfl⟩) ?_
        refine ChainV.q (some 142) [] (by
         intro H' X F hle
         intro hF
         refine TL.fieldAddr rfl rfl ?_
         refine TL.nil ?_
         exact TQ.one [] hF (Le.refl _) ⟨rfl, rfl⟩) ?_
        refine ChainV.q (some 143) [(5, 0)] (by
         intro H' X F hle
         have hL := Le.trans hL hle
         have hp := hAt.mono hle hp
         have hpr := RdL.mono hle hpr
         have hq := hAt.mono hle hq
         have hqr := RdL.mono hle hqr
         have hle4 := Le.trans hle4 hle
         have hle12 := Le.trans hle12 hle
         have hle20 := Le.trans hle20 hle
         intro hF
         refine TL.load_own 0 0 rfl rfl rfl rfl rfl ?_
         refine TL.nil ?_
         exact TQ.one [] hF (Le.refl _) ⟨rfl, rfl⟩) ?_
        refine ChainV.q (some 144) [] (by
         intro H' X F hle
         intro hF
         refine TL.move rfl rfl ?_
         refine TL.nil ?_
         exact TQ.one [] hF (Le.refl _) ⟨rfl, rfl⟩) ?_
        refine ChainV.q (some 145) [(6, 1), (7, 0)] (by
         intro H' X F hle
         intro hF
         refine TL.indexAddr (0) rfl rfl rfl (by omega) rfl ?_
         refine TL.nil ?_
         exact TQ.one [] hF (Le.refl _) ⟨rfl, rfl⟩) ?_
        refine ChainV.q (some 146) [(8, 0)] (by
         intro H' X F hle
         have hL := Le.trans hL hle
         have hp := hAt.mono hle hp
         have hpr := RdL.mono hle hpr
         have hq := hAt.mono hle hq
         have hqr := RdL.mono hle hqr
         have hle4 := Le.trans hle4 hle
         have hle12 := Le.trans hle12 hle
         have hle20 := Le.trans hle20 hle
         intro hF
         refine TL.load_immA rfl (vs := ys) (by rw [Nat.zero_mul, Nat.add_zero]; exact hq) hyl rfl ?_
         refine TL.nil ?_
         exact TQ.one [] hF (Le.refl _) ⟨rfl, rfl⟩) ?_
        refine ⟨by kernel_rfl, .refl _, ?_⟩
        ·
         intro H1 hle
         have hL := Le.trans hL hle
         have hp := hAt.mono hle hp
         have hpr := RdL.mono hle hpr
         have hq := hAt.mono hle hq
         have hqr := RdL.mono hle hqr
         have hle4 := Le.trans hle4 hle
         have hle12 := Le.trans hle12 hle
         have hle20 := Le.trans hle20 hle
         refine TL.toOwn (own' := _ :: _ :: own) rfl ?_
         refine TL.wk (env' := [(2, _), (3, _), (13, _), (141, _), (146, _)]) ⟨rfl, rfl, rfl, rfl, rfl, trivial⟩ ?_
         refine TL.call (same_func hpr hqr) ⟨rfl, rfl, trivial⟩ rfl ?_
         rintro _ _ H147 ⟨rfl, rfl, hle147⟩
         have hL := Le.trans hL hle147
         have hp := hAt.mono hle147 hp
         have hpr := RdL.mono hle147 hpr
         have hq := hAt.mono hle147 hq
         have hqr := RdL.mono hle147 hqr
         have hle4 := Le.trans hle4 hle147
         have hle12 := Le.trans hle12 hle147
         have hle20 := Le.trans hle20 hle147
         refine TL.assign rfl rfl ?_
         refine TL.nil ?_
         refine TQ.then_n ?_
         refine TC.seq ?_
         refine TC.region ?_
         refine TL.move rfl rfl ?_
         refine TL.not rfl rfl ?_
         refine TL.nil ?_
         refine TQ.then_n ?_
         refine TC.cond_f rfl ?_
         refine TC.skip ?_
         refine TQ.in_n ?_
         refine TQ.then_n ?_
         refine TC.region ?_
         refine TL.move rfl rfl ?_
         refine TL.add rfl rfl rfl ⟨by omega, by omega⟩ ?_
         refine TL.assign rfl rfl ?_
         refine TL.nil ?_
         refine TQ.next (1 - (0 + 1)) [(2, _), (3, _), (13, _)] (by omega) ⟨rfl, rfl, rfl, trivial⟩ ⟨0 + 1, rfl, by omega, by simp, rfl, hle20⟩
       ·
        refine TL.nil ?_
        refine TQ.then_n ?_
        refine TC.cond_f rfl ?_
        refine TC.exit ?_
        refine TQ.then_e ?_
        refine TQ.then_e ?_
        refine TQ.in_e ?_
        refine TQ.then_n ?_
        refine TC.seq ?_
        refine TC.region ?_
        refine TL.assign rfl rfl ?_
        refine TL.nil ?_
        refine TQ.then_n ?_
        refine TC.ret ?_
        refine TQ.ret1 2 rfl rfl ?_
        exact ⟨rfl, rfl, hL⟩
theorem law_equal {f : Fu} {w0 : World} {H : Hp} {own : List Seg} {xs ys : List Value} (ha : RdL H f.d xs) (hb : RdL H f.d ys) :
    Fn Try.prog 24 [.agg xs.toArray, .agg ys.toArray] w0 H own (fun r own' H' => r = .bool true ∧ own' = own ∧ Le H H') := by
  have ha0 := ha
  have hb0 := hb
  obtain ⟨vp, t0, t1, t2, t3, vb, rfl, hvp, hst, hvb⟩ := fu_cells ha
  obtain ⟨up, s0, s1, s2, s3, ub, rfl, hup, htt, hub⟩ := fu_cells hb
  replace ha := ha0
  replace hb := hb0
  refine Fn.enter Try.func24 rfl Try.ntmps24 rfl ?_
  have hL := Le.refl H
  refine TC.seq ?_
  refine TC.region ?_
  refine TL.box (c := #[_, _, _, _, _, _, _, _, _, _]) rfl rfl rfl ?_; intro g2
  refine TL.box (c := #[_, _, _, _, _, _, _, _, _, _]) rfl rfl rfl ?_; intro g3
  refine TL.assign rfl rfl ?_
  refine TL.nil ?_
  refine TQ.then_n ?_
  refine TC.seq ?_
  refine TC.drawQV 3  [(0, _), (1, _), (2, _), (3, _), (4, _)] follows_mixed ⟨rfl, rfl, rfl, rfl, rfl, trivial⟩ ?_
  refine ChainV.q (some 5) [] (by
   intro H' X F hle
   have hL := Le.trans hL hle
   have ha := RdL.mono hle ha
   have hb := RdL.mono hle hb
   intro hF
   refine TL.load_ownA 1 0 [_, _, _, _, _, _, _, _, _, _] rfl rfl rfl ⟨rfl, rfl, rfl, rfl, rfl, rfl, rfl, rfl, rfl, rfl, trivial⟩ rfl rfl ?_
   refine TL.nil ?_
   exact TQ.one [] hF (Le.refl _) ⟨rfl, rfl⟩) ?_
  refine ChainV.r (some 6) [(0, 0)] ([]) (fun _ => fun u s H => ∃ v, u = .agg #[.slice none 0 0, .slice none 0 0, v] ∧ rd H (.s 10 f.d) v ∧ s = []) (by
   intro H' X F hle
   have hL := Le.trans hL hle
   have ha := RdL.mono hle ha
   have hb := RdL.mono hle hb
   intro hF
   refine TL.call (mk_One ha) ⟨rfl, trivial⟩ rfl ?_
   rintro _ _ H6 ⟨v6, rfl, hr6, rfl, hle6⟩
   refine TL.nil ?_
   exact TQ.one [] hF hle6 ⟨_, rfl, hr6, rfl⟩) ?_
  refine ChainV.q (some 7) [] (by
   intro H' X F hle
   have hL := Le.trans hL hle
   have ha := RdL.mono hle ha
   have hb := RdL.mono hle hb
   intro hF
   refine TL.load_ownA 0 0 [_, _, _, _, _, _, _, _, _, _] rfl rfl rfl ⟨rfl, rfl, rfl, rfl, rfl, rfl, rfl, rfl, rfl, rfl, trivial⟩ rfl rfl ?_
   refine TL.nil ?_
   exact TQ.one [] hF (Le.refl _) ⟨rfl, rfl⟩) ?_
  refine ⟨by kernel_rfl, .refl _, ?_⟩
  ·
   intro H1 hle
   rintro _ _ H6 hle6 ⟨v6, rfl, hr6, rfl⟩
   replace hr6 := rd.mono hle6 hr6
   have hL := Le.trans hL hle
   have ha := RdL.mono hle ha
   have hb := RdL.mono hle hb
   refine TL.toOwn (own' := _ :: _ :: own) rfl ?_
   refine TL.wk (env' := [(0, _), (1, _), (4, _), (6, _), (7, _)]) ⟨rfl, rfl, rfl, rfl, rfl, trivial⟩ ?_
   refine TL.call (mk_One hb) ⟨rfl, trivial⟩ rfl ?_
   rintro _ _ H8 ⟨v8, rfl, hr8, rfl, hle8⟩
   have hL := Le.trans hL hle8
   have ha := RdL.mono hle8 ha
   have hb := RdL.mono hle8 hb
   have hr6 := rd.mono hle8 hr6
   refine TL.call (equal_same hr6 hr8) ⟨rfl, rfl, trivial⟩ rfl ?_
   rintro _ _ H9 ⟨rfl, rfl, hle9⟩
   have hL := Le.trans hL hle9
   have ha := RdL.mono hle9 ha
   have hb := RdL.mono hle9 hb
   have hr6 := rd.mono hle9 hr6
   have hr8 := rd.mono hle9 hr8
   refine TL.assign rfl rfl ?_
   refine TL.nil ?_
   refine TQ.then_n ?_
   refine TC.ret ?_
   refine TQ.ret1 2 rfl rfl ?_
   exact ⟨rfl, rfl, hL⟩

end Go.Proofs.Ytapmmfabdmhdnaa.K
