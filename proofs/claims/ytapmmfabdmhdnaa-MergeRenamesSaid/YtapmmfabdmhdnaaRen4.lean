/-
  The reference's renamer: name, collect.
-/
import Derived.Test.YtapmmfabdmhdnaaRen3
set_option linter.unusedVariables false
set_option linter.unusedSimpArgs false
set_option maxHeartbeats 4000000
namespace Go.Proofs.Ytapmmfabdmhdnaa.K
open Go Go.RowKit Go.Proofs

/-- The reference's renamer: a block with three lists. -/
def RmS (H : Hp) (gr : Nat) (fr to lo : List ByteArray) : Prop :=
  ∃ vf vt vl, hAt H gr 0 [vf, vt, vl] ∧ rd H (.s 1 (strsD fr)) vf ∧ rd H (.s 1 (strsD to)) vt ∧ rd H (.s 1 (strsD lo)) vl
theorem RmS.mono {H H' : Hp} (hl : Le H H') {gr : Nat} {fr to lo : List ByteArray} (h : RmS H gr fr to lo) : RmS H' gr fr to lo := by
  obtain ⟨vf, vt, vl, h1, h2, h3, h4⟩ := h
  exact ⟨vf, vt, vl, h1.mono hl, h2.mono hl, h3.mono hl, h4.mono hl⟩
theorem zip_end {fr to : List ByteArray} {i : Nat} (h : fr.length ≤ i ∨ to.length ≤ i) : (fr.zip to).drop i = [] := by
  apply List.drop_of_length_le
  rw [List.length_zip]; omega
theorem ref_name {fr to lo : List ByteArray} {s : ByteArray} {w0 : World} {H : Hp} {own : List Seg} {gr : Nat} (hN : RmS H gr fr to lo) :
    Fn Try.prog 46 [.pointer (some ⟨gr, 0, none⟩), .string s] w0 H own (fun r own' H' => r = .string (toT (fr.zip to) s) ∧ own' = own ∧ Le H H') := by
  obtain ⟨vf, vt, vl, hr, hvf, hvt, hvl⟩ := hN
  obtain ⟨A1, c1, rfl, hc11, hc12⟩ := names_len hvf
  obtain ⟨A2, c2, rfl, hc21, hc22⟩ := names_len hvt
  refine Fn.enter Try.func46 rfl Try.ntmps46 rfl ?_
  have hL := Le.refl H
  refine TC.seq ?_
  refine TC.region ?_
  refine TL.assign rfl rfl ?_
  refine TL.nil ?_
  refine TQ.then_n ?_
  refine TC.seq ?_
  refine TC.seq ?_
  refine TC.region ?_
  refine TL.assign rfl rfl ?_
  refine TL.nil ?_
  refine TQ.then_n ?_
  refine TC.block ?_
  refine TC.loop (fun zz env' own' H' => ∃ i : Nat, zz = fr.length - i ∧ i ≤ fr.length ∧ toT ((fr.zip to).drop i) s = toT (fr.zip to) s ∧ env' = [(0, .pointer (some ⟨gr, 0, none⟩)), (1, .string s), (5, .int .i64 (i : Int))] ∧ own' = own ∧ Le H H') fr.length [(0, _), (1, _), (5, _)] ⟨rfl, rfl, rfl, trivial⟩ ⟨0, by omega, by omega, by simp, rfl, rfl, Le.refl _⟩ ?_
  rintro zz _ own H1 ⟨i, rfl, hi, hz, rfl, rfl, hle0⟩
  have hL := Le.trans hL hle0
  have hr := hAt.mono hle0 hr
  have hvf := rd.mono hle0 hvf
  have hvt := rd.mono hle0 hvt
  refine TC.seq ?_
  refine TC.seq ?_
  refine TC.region ?_
  refine TL.move rfl rfl ?_
  refine TL.move rfl rfl ?_
  refine TL.nilCheck rfl rfl ?_
  refine TL.fieldAddr rfl rfl ?_
  refine TL.load_imm rfl (hr.1) rfl ?_
  refine TL.len_slice rfl rfl ?_
  refine TL.lssB rfl rfl rfl (fun h12 => ?_) (fun h12 => ?_)
  ·
   refine TL.move rfl rfl ?_
   refine TL.gyes rfl rfl rfl ?_
   refine TL.move rfl rfl ?_
   refine TL.gyes rfl rfl rfl ?_
   refine TL.move rfl rfl ?_
   refine TL.gyes rfl rfl rfl ?_
   refine TL.nilCheck rfl rfl ?_
   refine TL.gyes rfl rfl rfl ?_
   refine TL.fieldAddr rfl rfl ?_
   refine TL.gyes rfl rfl rfl ?_
   refine TL.load_imm rfl (hr.2.1) rfl ?_
   refine TL.gyes rfl rfl rfl ?_
   refine TL.len_slice rfl rfl ?_
   refine TL.gyes rfl rfl rfl ?_
   refine TL.lssB rfl rfl rfl (fun h20 => ?_) (fun h20 => ?_)
   ·
    obtain ⟨a, ha⟩ : ∃ a, fr[i]? = some a := ⟨_, List.getElem?_eq_getElem (by omega)⟩
    obtain ⟨b, hb⟩ : ∃ b, to[i]? = some b := ⟨_, List.getElem?_eq_getElem (by omega)⟩
    obtain ⟨b1, o1, rfl, hp1⟩ := names_at hvf ha
    obtain ⟨b2, o2, rfl, hp2⟩ := names_at hvt hb
    refine TL.pickT rfl rfl rfl rfl ?_
    refine TL.nil ?_
    refine TQ.then_n ?_
    refine TC.cond_t rfl ?_
    refine TC.skip ?_
    refine TQ.then_n ?_
    refine TC.seq ?_
    refine TC.block ?_
    refine TC.seq ?_
    refine TC.region ?_
    refine TL.move rfl rfl ?_
    refine TL.nilCheck rfl rfl ?_
    refine TL.fieldAddr rfl rfl ?_
    refine TL.load_imm rfl (hr.1) rfl ?_
    refine TL.move rfl rfl ?_
    refine TL.indexAddr (i) rfl rfl rfl (by omega) rfl ?_
    refine TL.load_imm rfl (hp1) rfl ?_
    refine TL.move rfl rfl ?_
    refine TL.eqlSB rfl rfl rfl (fun hne => ?_) (fun hne => ?_)
    ·
     subst hne
     have hE : toT (fr.zip to) a = b := by rw [← hz, zip_drop ha hb]; simp [toT, lookT]
     refine TL.nil ?_
     refine TQ.then_n ?_
     refine TC.cond_t rfl ?_
     refine TC.seq ?_
     refine TC.region ?_
     refine TL.move rfl rfl ?_
     refine TL.nilCheck rfl rfl ?_
     refine TL.fieldAddr rfl rfl ?_
     refine TL.load_imm rfl (hr.2.1) rfl ?_
     refine TL.move rfl rfl ?_
     refine TL.indexAddr (i) rfl rfl rfl (by omega) rfl ?_
     refine TL.load_imm rfl (hp2) rfl ?_
     refine TL.assign rfl rfl ?_
     refine TL.nil ?_
     refine TQ.then_n ?_
     refine TC.ret ?_
     refine TQ.in_r ?_
     refine TQ.then_r ?_
     refine TQ.then_r ?_
     refine TQ.in_r ?_
     refine TQ.then_r ?_
     refine TQ.ret1 0 rfl rfl ?_
     exact ⟨by rw [hE], rfl, hL⟩
    ·
     refine TL.nil ?_
     refine TQ.then_n ?_
     refine TC.cond_f rfl ?_
     refine TC.skip ?_
     refine TQ.in_n ?_
     refine TQ.then_n ?_
     refine TC.region ?_
     refine TL.move rfl rfl ?_
     refine TL.add rfl rfl rfl ⟨by omega, by omega⟩ ?_
     refine TL.assign rfl rfl ?_
     refine TL.nil ?_
     refine TQ.next (fr.length - (i + 1)) [(0, _), (1, _), (5, _)] (by omega) ⟨rfl, rfl, rfl, trivial⟩ ⟨i + 1, rfl, by omega, ?_, by simp, rfl, hle0⟩
     rw [← hz, zip_drop ha hb]
     simp [toT, lookT, Ne.symm hne]
   ·
    have hE : toT (fr.zip to) s = s := by rw [← hz, zip_end (.inr (by omega))]; rfl
    refine TL.pickT rfl rfl rfl rfl ?_
    refine TL.nil ?_
    refine TQ.then_n ?_
    refine TC.cond_f rfl ?_
    refine TC.exit ?_
    refine TQ.then_e ?_
    refine TQ.then_e ?_
    refine TQ.in_e ?_
    refine TQ.then_n ?_
    refine TC.seq ?_
    refine TC.region ?_
    refine TL.move rfl rfl ?_
    refine TL.assign rfl rfl ?_
    refine TL.nil ?_
    refine TQ.then_n ?_
    refine TC.ret ?_
    refine TQ.ret1 0 rfl rfl ?_
    exact ⟨by rw [hE], rfl, hL⟩
  ·
   have hE : toT (fr.zip to) s = s := by rw [← hz, zip_end (.inl (by omega))]; rfl
   refine TL.move rfl rfl ?_
   refine TL.gno rfl rfl rfl rfl ?_
   refine TL.gno rfl rfl rfl rfl ?_
   refine TL.gno rfl rfl rfl rfl ?_
   refine TL.gno rfl rfl rfl rfl ?_
   refine TL.gno rfl rfl rfl rfl ?_
   refine TL.gno rfl rfl rfl rfl ?_
   refine TL.gno rfl rfl rfl rfl ?_
   refine TL.pickF rfl rfl rfl rfl ?_
   refine TL.nil ?_
   refine TQ.then_n ?_
   refine TC.cond_f rfl ?_
   refine TC.exit ?_
   refine TQ.then_e ?_
   refine TQ.then_e ?_
   refine TQ.in_e ?_
   refine TQ.then_n ?_
   refine TC.seq ?_
   refine TC.region ?_
   refine TL.move rfl rfl ?_
   refine TL.assign rfl rfl ?_
   refine TL.nil ?_
   refine TQ.then_n ?_
   refine TC.ret ?_
   refine TQ.ret1 0 rfl rfl ?_
   exact ⟨by rw [hE], rfl, hL⟩
theorem ref_collect (k : Nat) : ∀ (l : List Sm), Sm.sizes l ≤ k → ∀ {n0 : Nat} {xs : List Value} {w0 : World} {H : Hp} {own : List Seg} {gr : Nat} {vf vt u v : Value} {seg : Seg}, n0 + Sm.sizes l ≤ 2000000 → Row 9 1 u n0 xs seg → rd H (.s 11 (Sm.ds l)) v →
    Fn Try.prog 45 [.pointer (some ⟨gr, 0, none⟩), v] w0 H ([(gr, .cells #[vf, vt, u] 110 (0, 0))] :: seg :: own)
      (fun r own' H' => ∃ u' n' seg', r = .tuple #[] ∧ own' = [(gr, .cells #[vf, vt, u'] 110 (0, 0))] :: seg' :: own ∧ Row 9 1 u' n' (xs ++ (decSs l).map Value.string) seg' ∧ n' ≤ n0 + Sm.sizes l ∧ Le H H') := by
  induction k using Nat.strongRecOn with
  | _ k ih =>
  intro l hk n0 xs w0 H own gr vf vt u v seg hn0 hrow hA
  obtain ⟨A, c, rfl, hc1, hc2⟩ := sms_len hA
  refine Fn.enter Try.func45 rfl Try.ntmps45 rfl ?_
  have hL := Le.refl H
  refine TC.seq ?_
  refine TC.region ?_
  refine TL.assign rfl rfl ?_
  refine TL.nil ?_
  refine TQ.then_n ?_
  refine TC.block ?_
  refine TC.loop (fun zz env' own' H' => ∃ (i : Nat) (u : Value) (n1 : Nat) (seg : Seg), zz = l.length - i ∧ i ≤ l.length ∧ Row 9 1 u n1 (xs ++ (decSs (l.take i)).map Value.string) seg ∧ n1 ≤ n0 + Sm.sizes (l.take i) ∧ env' = [(0, .pointer (some ⟨gr, 0, none⟩)), (1, .slice A l.length c), (4, .int .i64 (i : Int))] ∧ own' = [(gr, .cells #[vf, vt, u] 110 (0, 0))] :: seg :: own ∧ Le H H') l.length [(0, _), (1, _), (4, _)] ⟨rfl, rfl, rfl, trivial⟩ ⟨0, _, n0, _, by omega, by omega, by simpa [decSs] using hrow, by omega, rfl, rfl, Le.refl _⟩ ?_
  clear hrow
  rintro zz _ _ H1 ⟨i, u, n1, seg, rfl, hi, hrow, hn1, rfl, rfl, hle0⟩
  have hL := Le.trans hL hle0
  have hA := rd.mono hle0 hA
  refine TC.seq ?_
  refine TC.seq ?_
  refine TC.region ?_
  refine TL.move rfl rfl ?_
  refine TL.move rfl rfl ?_
  refine TL.len_slice rfl rfl ?_
  refine TL.lssB rfl rfl rfl (fun hlt => ?_) (fun hlt => ?_)
  ·
   obtain ⟨x, hx⟩ : ∃ x, l[i]? = some x := ⟨_, List.getElem?_eq_getElem (by omega)⟩
   have hxs := Sm.size_mem (List.mem_of_getElem? hx)
   have htk := Sm.sizes_take hx
   have htl := Sm.sizes_take_le l (i + 1)
   obtain ⟨sk, snm, st, sn, sxs, sb, sel, scs⟩ := x
   simp only [Sm.size] at hxs htk
   obtain ⟨b1, o1, t0, t1, t2, t3, vx, vb, ve, vc, rfl, hp, hst, hvx, hvb, hve, hvc⟩ := sms_at hA hx
   obtain ⟨Ac, cc, rfl, hcc1, hcc2⟩ := css_len hvc
   refine TL.nil ?_
   refine TQ.then_n ?_
   refine TC.cond_t rfl ?_
   refine TC.skip ?_
   refine TQ.then_n ?_
   refine TC.seq ?_
   refine TC.block ?_
   refine TC.cut (fun env' own' H' => ∃ u n1 seg, env' = [(0, .pointer (some ⟨gr, 0, none⟩)), (1, .slice (some ⟨b1, o1, none⟩) l.length c), (4, .int .i64 (i : Int))] ∧ own' = [(gr, .cells #[vf, vt, u] 110 (0, 0))] :: seg :: own ∧ Row 9 1 u n1 (xs ++ (decSs (l.take i)).map Value.string ++ (if sk = 1 then [snm] else []).map Value.string) seg ∧ n1 ≤ n0 + Sm.sizes (l.take i) + 1 ∧ Le H1 H') ?_ ?_
   ·
    have hcut := Le.refl H1
    refine TC.seq ?_
    refine TC.region ?_
    refine TL.move rfl rfl ?_
    refine TL.move rfl rfl ?_
    refine TL.indexAddr (i) rfl rfl rfl (by omega) rfl ?_
    refine TL.fieldAddr rfl rfl ?_
    refine TL.load_imm rfl (hp.1) rfl ?_
    refine TL.eqlB rfl rfl rfl (fun hk1 => ?_) (fun hk1 => ?_)
    ·
     refine TL.nil ?_
     refine TQ.then_n ?_
     refine TC.cond_t rfl ?_
     refine TC.sel 2 [1, 0] rfl (fun o ho => ?_)
     simp only [K.sel, List.map_cons, List.map_nil, List.getD_cons_zero, List.getD_cons_succ, List.drop_succ_cons, List.drop_zero, List.cons_append, List.nil_append, List.set_cons_zero, List.set_cons_succ] at ho; subst ho
     refine TC.drawCV 12  [(0, _), (1, _), (4, _)] follows_mixed ⟨rfl, rfl, rfl, trivial⟩ ?_
     refine ChainV.q (some 18) [] (by
      intro H' X F hle
      intro hF
      refine TL.move rfl rfl ?_
      refine TL.nil ?_
      exact TQ.one [] hF (Le.refl _) ⟨rfl, rfl⟩) ?_
     refine ChainV.q (some 19) [] (by
      intro H' X F hle
      intro hF
      refine TL.move rfl rfl ?_
      refine TL.nil ?_
      exact TQ.one [] hF (Le.refl _) ⟨rfl, rfl⟩) ?_
     refine ChainV.q (some 20) [(1, 0)] (by
      intro H' X F hle
      intro hF
      refine TL.nilCheck rfl rfl ?_
      refine TL.nil ?_
      exact TQ.one [] hF (Le.refl _) ⟨rfl, rfl⟩) ?_
     refine ChainV.q (some 21) [(2, 0)] (by
      intro H' X F hle
      intro hF
      refine TL.fieldAddr rfl rfl ?_
      refine TL.nil ?_
      exact TQ.one [] hF (Le.refl _) ⟨rfl, rfl⟩) ?_
     refine ChainV.q (some 22) [(3, 0)] (by
      intro H' X F hle
      have hL := Le.trans hL hle
      have hA := rd.mono hle hA
      have hle0 := Le.trans hle0 hle
      have hp := hAt.mono hle hp
      have hvb := rd.mono hle hvb
      have hve := rd.mono hle hve
      have hvc := rd.mono hle hvc
      have hcut := Le.trans hcut hle
      intro hF
      refine TL.load_own 0 0 rfl rfl rfl rfl rfl ?_
      refine TL.nil ?_
      exact TQ.one [] hF (Le.refl _) ⟨rfl, rfl⟩) ?_
     refine ChainV.q (some 23) [] (by
      intro H' X F hle
      intro hF
      refine TL.move rfl rfl ?_
      refine TL.nil ?_
      exact TQ.one [] hF (Le.refl _) ⟨rfl, rfl⟩) ?_
     refine ChainV.q (some 24) [] (by
      intro H' X F hle
      intro hF
      refine TL.move rfl rfl ?_
      refine TL.nil ?_
      exact TQ.one [] hF (Le.refl _) ⟨rfl, rfl⟩) ?_
     refine ChainV.q (some 25) [(5, 1), (6, 0)] (by
      intro H' X F hle
      intro hF
      refine TL.indexAddr (i) rfl rfl rfl (by omega) rfl ?_
      refine TL.nil ?_
      exact TQ.one [] hF (Le.refl _) ⟨rfl, rfl⟩) ?_
     refine ChainV.q (some 26) [(7, 0)] (by
      intro H' X F hle
      intro hF
      refine TL.fieldAddr rfl rfl ?_
      refine TL.nil ?_
      exact TQ.one [] hF (Le.refl _) ⟨rfl, rfl⟩) ?_
     refine ChainV.q (some 27) [(8, 0)] (by
      intro H' X F hle
      have hL := Le.trans hL hle
      have hA := rd.mono hle hA
      have hle0 := Le.trans hle0 hle
      have hp := hAt.mono hle hp
      have hvb := rd.mono hle hvb
      have hve := rd.mono hle hve
      have hvc := rd.mono hle hvc
      have hcut := Le.trans hcut hle
      intro hF
      refine TL.load_imm rfl (hp.2.1) rfl ?_
      refine TL.nil ?_
      exact TQ.one [] hF (Le.refl _) ⟨rfl, rfl⟩) ?_
     refine ChainV.r (some 28) [(9, 0)] ([]) (fun _ => fun r s H => rd H (.s 1 (strsD [snm])) r ∧ s = []) (by
      intro H' X F hle
      have hL := Le.trans hL hle
      have hA := rd.mono hle hA
      have hle0 := Le.trans hle0 hle
      have hp := hAt.mono hle hp
      have hvb := rd.mono hle hvb
      have hve := rd.mono hle hve
      have hvc := rd.mono hle hvc
      have hcut := Le.trans hcut hle
      intro hF
      refine TL.litF (r := [_]) [(0, [_])] ⟨rfl, ⟨_, rfl, rfl⟩, trivial⟩ rfl rfl rfl rfl ?_; intro g28
      refine TL.nil ?_
      refine TQ.freeze (fun H3 hle3 hz => ?_)
      exact TQ.one [] hF hle3 ⟨rd.ofRow (Row.lit 9 1 1 _ _ rfl (by omega)) hz (RdL.vals [.string snm]) (Le.refl _), rfl⟩) ?_
     refine ChainV.r (some 29) [(4, 6), (10, 0)] ([seg]) (fun _ => fun r s H => ∃ sg, s = [sg] ∧ Row 9 1 r (n1 + 1) (xs ++ (decSs (l.take i)).map Value.string ++ [.string snm]) sg) (by
      intro H' X F hle
      have hL := Le.trans hL hle
      have hA := rd.mono hle hA
      have hle0 := Le.trans hle0 hle
      have hp := hAt.mono hle hp
      have hvb := rd.mono hle hvb
      have hve := rd.mono hle hve
      have hvc := rd.mono hle hvc
      have hcut := Le.trans hcut hle
      intro _
      rintro _ _ Hr hler ⟨hs, rfl⟩
      intro hF
      replace hs := hs.mono hler
      obtain ⟨A9, c9, rfl, _, _⟩ := names_len hs
      refine TL.append 0 rfl rfl rfl hrow (vals_src (l := [.string snm]) hs (by simp [Value.oneCell'])) (by simp only [List.length_cons, List.length_nil]; omega) (by simp only [List.length_cons, List.length_nil]; omega) rfl ?_
      intro v' seg' hrow'
      refine TL.nil ?_
      exact TQ.one [_] hF (Le.refl _) ⟨_, rfl, hrow'⟩) ?_
     refine ⟨by kernel_rfl, .refl _, ?_⟩
     ·
      intro H1 hle
      rintro _ _ Hr hler ⟨hs, rfl⟩
      rintro v29 _ Hr hler ⟨seg29, rfl, hrow29⟩
      have hL := Le.trans hL hle
      have hA := rd.mono hle hA
      have hle0 := Le.trans hle0 hle
      have hp := hAt.mono hle hp
      have hvb := rd.mono hle hvb
      have hve := rd.mono hle hve
      have hvc := rd.mono hle hvc
      have hcut := Le.trans hcut hle
      refine TL.toOwn (own' := _ :: _ :: own) rfl ?_
      refine TL.wk (env' := [(0, _), (1, _), (4, _), (18, _), (29, _)]) ⟨rfl, rfl, rfl, rfl, rfl, trivial⟩ ?_
      refine TL.nilCheck rfl rfl ?_
      refine TL.fieldAddr rfl rfl ?_
      refine TL.store1 1 0 (c' := #[_, _, _]) (own' := _ :: [(_, .cells #[_, _, _] _ _)] :: _) rfl rfl rfl rfl hrow29.one (by simp) rfl rfl rfl ?_
      refine TL.nil ?_
      refine TQ.sel 2 [1, 0] rfl (fun o ho => ?_)
      simp only [K.sel, List.map_cons, List.map_nil, List.getD_cons_zero, List.getD_cons_succ, List.drop_succ_cons, List.drop_zero, List.cons_append, List.nil_append, List.set_cons_zero, List.set_cons_succ] at ho; subst ho
      first
        | exact TQ.mid [(0, _), (1, _), (4, _)] ⟨rfl, rfl, rfl, trivial⟩ ⟨_, _, _, rfl, rfl, by rw [if_pos hk1]; exact hrow29, by omega, hcut⟩
        | exact TQ.mid [(0, _), (1, _), (4, _)] ⟨rfl, rfl, rfl, trivial⟩ ⟨_, _, _, rfl, rfl, by rw [if_neg hk1]; simpa using hrow, by omega, hcut⟩
    ·
     refine TL.nil ?_
     refine TQ.then_n ?_
     refine TC.cond_f rfl ?_
     refine TC.skip ?_
     refine TQ.toOwn (own' := _ :: _ :: own) rfl ?_
     first
       | exact TQ.mid [(0, _), (1, _), (4, _)] ⟨rfl, rfl, rfl, trivial⟩ ⟨_, _, _, rfl, rfl, by rw [if_pos hk1]; exact hrow29, by omega, hcut⟩
       | exact TQ.mid [(0, _), (1, _), (4, _)] ⟨rfl, rfl, rfl, trivial⟩ ⟨_, _, _, rfl, rfl, by rw [if_neg hk1]; simpa using hrow, by omega, hcut⟩
   clear hrow
   rintro _ _ H3 ⟨u, n3, seg, rfl, rfl, hrow, hn3, hle3⟩
   have hL := Le.trans hL hle3
   have hA := rd.mono hle3 hA
   have hle0 := Le.trans hle0 hle3
   have hp := hAt.mono hle3 hp
   have hvb := rd.mono hle3 hvb
   have hve := rd.mono hle3 hve
   have hvc := rd.mono hle3 hvc
   refine TC.seq ?_
   refine TC.region ?_
   refine TL.move rfl rfl ?_
   refine TL.move rfl rfl ?_
   refine TL.move rfl rfl ?_
   refine TL.indexAddr (i) rfl rfl rfl (by omega) rfl ?_
   refine TL.fieldAddr rfl rfl ?_
   refine TL.load_imm rfl (hp.2.2.2.2.2.2.2.2.1) rfl ?_
   refine TL.call (ih (k - 1) (by omega) sb (by omega) (by omega) hrow hvb) ⟨rfl, rfl, trivial⟩ rfl ?_
   clear hrow
   rintro _ _ H38 ⟨u, n38, seg, rfl, rfl, hrow, hn38, hle38⟩
   have hL := Le.trans hL hle38
   have hA := rd.mono hle38 hA
   have hle0 := Le.trans hle0 hle38
   have hp := hAt.mono hle38 hp
   have hvb := rd.mono hle38 hvb
   have hve := rd.mono hle38 hve
   have hvc := rd.mono hle38 hvc
   refine TL.nil ?_
   refine TQ.then_n ?_
   refine TC.seq ?_
   refine TC.region ?_
   refine TL.move rfl rfl ?_
   refine TL.move rfl rfl ?_
   refine TL.move rfl rfl ?_
   refine TL.indexAddr (i) rfl rfl rfl (by omega) rfl ?_
   refine TL.fieldAddr rfl rfl ?_
   refine TL.load_imm rfl (hp.2.2.2.2.2.2.2.2.2.1) rfl ?_
   refine TL.call (ih (k - 1) (by omega) sel (by omega) (by omega) hrow hve) ⟨rfl, rfl, trivial⟩ rfl ?_
   clear hrow
   rintro _ _ H45 ⟨u, n45, seg, rfl, rfl, hrow, hn45, hle45⟩
   have hL := Le.trans hL hle45
   have hA := rd.mono hle45 hA
   have hle0 := Le.trans hle0 hle45
   have hp := hAt.mono hle45 hp
   have hvb := rd.mono hle45 hvb
   have hve := rd.mono hle45 hve
   have hvc := rd.mono hle45 hvc
   refine TL.nil ?_
   refine TQ.then_n ?_
   refine TC.seq ?_
   refine TC.region ?_
   refine TL.assign rfl rfl ?_
   refine TL.nil ?_
   refine TQ.then_n ?_
   refine TC.block ?_
   refine TC.loop (fun zz env' own' H' => ∃ (q : Nat) (u : Value) (n8 : Nat) (seg : Seg), zz = scs.length - q ∧ q ≤ scs.length ∧ Row 9 1 u n8 (xs ++ (decSs (l.take i)).map Value.string ++ (if sk = 1 then [snm] else []).map Value.string ++ (decSs sb).map Value.string ++ (decSs sel).map Value.string ++ (decCs (scs.take q)).map Value.string) seg ∧ n8 ≤ n45 + Sm.csizes (scs.take q) ∧ env' = [(0, .pointer (some ⟨gr, 0, none⟩)), (1, .slice (some ⟨b1, o1, none⟩) l.length c), (4, .int .i64 (i : Int)), (5, .int .i64 (q : Int))] ∧ own' = [(gr, .cells #[vf, vt, u] 110 (0, 0))] :: seg :: own ∧ Le H45 H') scs.length [(0, _), (1, _), (4, _), (5, _)] ⟨rfl, rfl, rfl, rfl, trivial⟩ ⟨0, _, _, _, by omega, by omega, by simpa only [decCs, List.take_zero, List.map_nil, List.append_nil] using hrow, by omega, rfl, rfl, Le.refl _⟩ ?_
   clear hrow
   rintro zz _ _ H8 ⟨q, u, n8, seg, rfl, hq, hrow, hn8, rfl, rfl, hle8⟩
   have hL := Le.trans hL hle8
   have hA := rd.mono hle8 hA
   have hle0 := Le.trans hle0 hle8
   have hp := hAt.mono hle8 hp
   have hvb := rd.mono hle8 hvb
   have hve := rd.mono hle8 hve
   have hvc := rd.mono hle8 hvc
   refine TC.seq ?_
   refine TC.seq ?_
   refine TC.region ?_
   refine TL.move rfl rfl ?_
   refine TL.move rfl rfl ?_
   refine TL.move rfl rfl ?_
   refine TL.indexAddr (i) rfl rfl rfl (by omega) rfl ?_
   refine TL.fieldAddr rfl rfl ?_
   refine TL.load_imm rfl (hp.2.2.2.2.2.2.2.2.2.2.1) rfl ?_
   refine TL.len_slice rfl rfl ?_
   refine TL.lssB rfl rfl rfl (fun hlt2 => ?_) (fun hlt2 => ?_)
   ·
    obtain ⟨y, hy⟩ : ∃ y, scs[q]? = some y := ⟨_, List.getElem?_eq_getElem (by omega)⟩
    have hys := Sm.csize_mem (List.mem_of_getElem? hy)
    have hytk := Sm.csizes_take hy
    have hytl := Sm.csizes_take_le scs (q + 1)
    obtain ⟨b2, o2, v2, rfl, hp2, hv2⟩ := css_at hvc hy
    refine TL.nil ?_
    refine TQ.then_n ?_
    refine TC.cond_t rfl ?_
    refine TC.skip ?_
    refine TQ.then_n ?_
    refine TC.seq ?_
    refine TC.block ?_
    refine TC.region ?_
    refine TL.move rfl rfl ?_
    refine TL.move rfl rfl ?_
    refine TL.move rfl rfl ?_
    refine TL.indexAddr (i) rfl rfl rfl (by omega) rfl ?_
    refine TL.fieldAddr rfl rfl ?_
    refine TL.load_imm rfl (hp.2.2.2.2.2.2.2.2.2.2.1) rfl ?_
    refine TL.move rfl rfl ?_
    refine TL.indexAddr (q) rfl rfl rfl (by omega) rfl ?_
    refine TL.load_imm rfl (hp2) rfl ?_
    refine TL.call (ih (k - 1) (by omega) y (by omega) (by omega) hrow hv2) ⟨rfl, rfl, trivial⟩ rfl ?_
    clear hrow
    rintro _ _ H65 ⟨u, n65, seg, rfl, rfl, hrow, hn65, hle65⟩
    have hL := Le.trans hL hle65
    have hA := rd.mono hle65 hA
    have hle0 := Le.trans hle0 hle65
    have hp := hAt.mono hle65 hp
    have hvb := rd.mono hle65 hvb
    have hve := rd.mono hle65 hve
    have hvc := rd.mono hle65 hvc
    have hle8 := Le.trans hle8 hle65
    have hp2 := cel_le hle65 hp2
    have hv2 := rd.mono hle65 hv2
    refine TL.nil ?_
    refine TQ.in_n ?_
    refine TQ.then_n ?_
    refine TC.region ?_
    refine TL.move rfl rfl ?_
    refine TL.add rfl rfl rfl ⟨by omega, by omega⟩ ?_
    refine TL.assign rfl rfl ?_
    refine TL.nil ?_
    refine TQ.toOwn (own' := _ :: _ :: own) rfl ?_
    refine TQ.next (scs.length - (q + 1)) [(0, _), (1, _), (4, _), (5, _)] (by omega) ⟨rfl, rfl, rfl, rfl, trivial⟩ ⟨q + 1, u, n65, seg, rfl, by omega, ?_, by omega, by simp, rfl, hle8⟩
    rw [decCs_take hy]
    simpa only [List.map_append, List.append_assoc] using hrow
   ·
    have hqq : q = scs.length := by omega
    subst hqq
    rw [List.take_length] at hrow hn8
    refine TL.nil ?_
    refine TQ.then_n ?_
    refine TC.cond_f rfl ?_
    refine TC.exit ?_
    refine TQ.then_e ?_
    refine TQ.then_e ?_
    refine TQ.in_e ?_
    refine TQ.in_n ?_
    refine TQ.then_n ?_
    refine TC.region ?_
    refine TL.move rfl rfl ?_
    refine TL.add rfl rfl rfl ⟨by omega, by omega⟩ ?_
    refine TL.assign rfl rfl ?_
    refine TL.nil ?_
    refine TQ.toOwn (own' := _ :: _ :: own) rfl ?_
    refine TQ.next (l.length - (i + 1)) [(0, _), (1, _), (4, _)] (by omega) ⟨rfl, rfl, rfl, trivial⟩ ⟨i + 1, u, n8, seg, rfl, by omega, ?_, by omega, by simp, rfl, hle0⟩
    rw [decSs_take hx]
    simpa only [decS, List.map_append, List.append_assoc] using hrow
  ·
   refine TL.nil ?_
   refine TQ.then_n ?_
   refine TC.cond_f rfl ?_
   refine TC.exit ?_
   refine TQ.then_e ?_
   refine TQ.then_e ?_
   refine TQ.in_e ?_
   refine TQ.end0 0 rfl ?_
   have hii : i = l.length := by omega
   subst hii
   rw [List.take_length] at hrow hn1
   exact ⟨_, _, _, rfl, rfl, hrow, hn1, hL⟩

end Go.Proofs.Ytapmmfabdmhdnaa.K
