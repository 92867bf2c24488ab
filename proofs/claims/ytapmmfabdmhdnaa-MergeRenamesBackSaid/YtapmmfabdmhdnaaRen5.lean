/-
  The reference's renamer: expr, exprs, stmts.
-/
import Derived.Test.YtapmmfabdmhdnaaRen4
set_option linter.unusedVariables false
set_option linter.unusedSimpArgs false
set_option maxHeartbeats 4000000
namespace Go.Proofs.Ytapmmfabdmhdnaa.K
open Go Go.RowKit Go.Proofs

/-- What expr does at small expressions; what exprs does. -/
def ExprOk (fr to lo : List ByteArray) (k : Nat) : Prop := ∀ (e : Ex), e.size ≤ k → ∀ {w0 : World} {H : Hp} {own : List Seg} {gr : Nat} {cs : List Value}, RmS H gr fr to lo → RdL H e.d cs →
    Fn Try.prog 91 [.pointer (some ⟨gr, 0, none⟩), .agg cs.toArray] w0 H own (fun r own' H' => ∃ c0 c1 c2 c3, r = .agg #[c0, c1, c2, c3] ∧ RdL H' (renE (toT (fr.zip to)) (addL (fun _ => false) lo) e).d [c0, c1, c2, c3] ∧ own' = own ∧ Le H H')
def ExprsOk (fr to lo : List ByteArray) (k : Nat) : Prop := ∀ (l : List Ex), Ex.sizes l ≤ k → ∀ {w0 : World} {H : Hp} {own : List Seg} {gr : Nat} {v : Value}, RmS H gr fr to lo → rd H (.s 4 (Ex.ds l)) v →
    Fn Try.prog 69 [.pointer (some ⟨gr, 0, none⟩), v] w0 H own (fun r own' H' => rd H' (.s 4 (Ex.ds (renEs (toT (fr.zip to)) (addL (fun _ => false) lo) l))) r ∧ own' = own ∧ Le H H')
theorem any_take {lo : List ByteArray} {i : Nat} {a s : ByteArray} (h : lo[i]? = some a) : addL (fun _ => false) (lo.take (i + 1)) s = (addL (fun _ => false) (lo.take i) s || decide (a = s)) := by
  rw [List.take_add_one, h]
  simp only [addL, Option.toList_some, List.any_append, List.any_cons, List.any_nil, Bool.or_false, Bool.false_or]
  congr 1
  exact decide_eq_decide.2 ⟨Eq.symm, Eq.symm⟩
theorem ref_expr {fr to lo : List ByteArray} {k : Nat} (hE : ExprsOk fr to lo k) : ExprOk fr to lo (k + 1) := by
  rintro ⟨sk, snm, sn, sks⟩ hk w0 H own gr cs hN hd
  simp only [Ex.size] at hk
  obtain ⟨c0, c1, c2, vk, rfl⟩ : ∃ c0 c1 c2 c3, cs = [c0, c1, c2, c3] := by
    have := hd.len
    rw [Ex.d_len] at this
    match cs, this with
    | [c0, c1, c2, c3], _ => exact ⟨_, _, _, _, rfl⟩
  obtain ⟨rfl, rfl, rfl, hvk⟩ := ex_cells hd
  have hN0 := hN
  obtain ⟨vf, vt, vl, hr, hvf, hvt, hvl⟩ := hN
  replace hN := hN0
  clear hN0
  obtain ⟨A3, c3, rfl, hc31, hc32⟩ := names_len hvl
  refine Fn.enter Try.func91 rfl Try.ntmps91 rfl ?_
  have hL := Le.refl H
  refine TC.seq ?_
  refine TC.region ?_
  refine TL.box (c := #[_, _, _, _]) rfl rfl rfl ?_; intro g3
  refine TL.new rfl ?_; intro g4
  refine TL.nil ?_
  refine TQ.then_n ?_
  refine TC.seq ?_
  refine TC.region ?_
  refine TL.assign rfl rfl ?_
  refine TL.nil ?_
  refine TQ.then_n ?_
  refine TC.seq ?_
  refine TC.seq ?_
  refine TC.region ?_
  refine TL.assign rfl rfl ?_
  refine TL.nil ?_
  refine TQ.then_n ?_
  refine TC.block ?_
  refine TC.loop (fun zz env' own' H' => ∃ (i : Nat) (bl : Bool), zz = lo.length - i ∧ i ≤ lo.length ∧ bl = addL (fun _ => false) (lo.take i) snm ∧ env' = [(0, .pointer (some ⟨gr, 0, none⟩)), (3, .pointer (some ⟨g3, 0, none⟩)), (4, .pointer (some ⟨g4, 0, none⟩)), (5, .bool bl), (6, .int .i64 (i : Int))] ∧ own' = [(g4, .cells #[.int .i64 0, .string ⟨#[]⟩, .int .u16 0, .slice none 0 0] 58 (0, 0))] :: [(g3, .cells #[.int .i64 sk, .string snm, .int .u16 sn, vk] 58 (0, 0))] :: own ∧ Le H H') lo.length [(0, _), (3, _), (4, _), (5, _), (6, _)] ⟨rfl, rfl, rfl, rfl, rfl, trivial⟩ ⟨0, _, by omega, by omega, by simp [addL], rfl, rfl, Le.refl _⟩ ?_
  rintro zz _ _ H1 ⟨i, bl, rfl, hi, hbl, rfl, rfl, hle0⟩
  have hL := Le.trans hL hle0
  have hN := RmS.mono hle0 hN
  have hr := hAt.mono hle0 hr
  have hvl := rd.mono hle0 hvl
  have hvk := rd.mono hle0 hvk
  refine TC.seq ?_
  refine TC.seq ?_
  refine TC.region ?_
  refine TL.move rfl rfl ?_
  refine TL.move rfl rfl ?_
  refine TL.nilCheck rfl rfl ?_
  refine TL.fieldAddr rfl rfl ?_
  refine TL.load_imm rfl (hr.2.2.1) rfl ?_
  refine TL.len_slice rfl rfl ?_
  refine TL.lssB rfl rfl rfl (fun hlt => ?_) (fun hlt => ?_)
  ·
   obtain ⟨a, ha⟩ : ∃ a, lo[i]? = some a := ⟨_, List.getElem?_eq_getElem (by omega)⟩
   obtain ⟨b1, o1, rfl, hp1⟩ := names_at hvl ha
   refine TL.nil ?_
   refine TQ.then_n ?_
   refine TC.cond_t rfl ?_
   refine TC.skip ?_
   refine TQ.then_n ?_
   refine TC.seq ?_
   refine TC.block ?_
   cases bl
   ·
    refine TC.drawQV 11  [(0, _), (3, _), (4, _), (5, _), (6, _)] follows_mixed ⟨rfl, rfl, rfl, rfl, rfl, trivial⟩ ?_
    refine ChainV.q (some 16) [] (by
     intro H' X F hle
     intro hF
     refine TL.move rfl rfl ?_
     refine TL.nil ?_
     exact TQ.one [] hF (Le.refl _) ⟨rfl, rfl⟩) ?_
    refine ChainV.q (some 17) [(0, 0)] (by
     intro H' X F hle
     intro hF
     refine TL.move rfl rfl ?_
     refine TL.nil ?_
     exact TQ.one [] hF (Le.refl _) ⟨rfl, rfl⟩) ?_
    refine ChainV.q (some 18) [(1, 0)] (by
     intro H' X F hle
     intro hF
     refine TL.gyes rfl rfl rfl ?_
     refine TL.move rfl rfl ?_
     refine TL.nil ?_
     exact TQ.one [] hF (Le.refl _) ⟨rfl, rfl⟩) ?_
    refine ChainV.q (some 19) [(2, 0), (1, 1)] (by
     intro H' X F hle
     intro hF
     refine TL.gyes rfl rfl rfl ?_
     refine TL.nilCheck rfl rfl ?_
     refine TL.nil ?_
     exact TQ.one [] hF (Le.refl _) ⟨rfl, rfl⟩) ?_
    refine ChainV.q (some 20) [(3, 0), (1, 2)] (by
     intro H' X F hle
     intro hF
     refine TL.gyes rfl rfl rfl ?_
     refine TL.fieldAddr rfl rfl ?_
     refine TL.nil ?_
     exact TQ.one [] hF (Le.refl _) ⟨rfl, rfl⟩) ?_
    refine ChainV.q (some 21) [(4, 0), (1, 3)] (by
     intro H' X F hle
     have hL := Le.trans hL hle
     have hN := RmS.mono hle hN
     have hr := hAt.mono hle hr
     have hvl := rd.mono hle hvl
     have hvk := rd.mono hle hvk
     have hle0 := Le.trans hle0 hle
     have hp1 := cel_le hle hp1
     intro hF
     refine TL.gyes rfl rfl rfl ?_
     refine TL.load_imm rfl (hr.2.2.1) rfl ?_
     refine TL.nil ?_
     exact TQ.one [] hF (Le.refl _) ⟨rfl, rfl⟩) ?_
    refine ChainV.q (some 22) [(1, 4)] (by
     intro H' X F hle
     intro hF
     refine TL.gyes rfl rfl rfl ?_
     refine TL.move rfl rfl ?_
     refine TL.nil ?_
     exact TQ.one [] hF (Le.refl _) ⟨rfl, rfl⟩) ?_
    refine ChainV.q (some 23) [(5, 1), (6, 0), (1, 5)] (by
     intro H' X F hle
     intro hF
     refine TL.gyes rfl rfl rfl ?_
     refine TL.indexAddr (i) rfl rfl rfl (by omega) rfl ?_
     refine TL.nil ?_
     exact TQ.one [] hF (Le.refl _) ⟨rfl, rfl⟩) ?_
    refine ChainV.q (some 24) [(7, 0), (1, 6)] (by
     intro H' X F hle
     have hL := Le.trans hL hle
     have hN := RmS.mono hle hN
     have hr := hAt.mono hle hr
     have hvl := rd.mono hle hvl
     have hvk := rd.mono hle hvk
     have hle0 := Le.trans hle0 hle
     have hp1 := cel_le hle hp1
     intro hF
     refine TL.gyes rfl rfl rfl ?_
     refine TL.load_imm rfl (hp1) rfl ?_
     refine TL.nil ?_
     exact TQ.one [] hF (Le.refl _) ⟨rfl, rfl⟩) ?_
    refine ChainV.q (some 25) [(1, 7)] (by
     intro H' X F hle
     intro hF
     refine TL.gyes rfl rfl rfl ?_
     refine TL.fieldAddr rfl rfl ?_
     refine TL.nil ?_
     exact TQ.one [] hF (Le.refl _) ⟨rfl, rfl⟩) ?_
    refine ChainV.q (some 26) [(9, 0), (1, 8)] (by
     intro H' X F hle
     have hL := Le.trans hL hle
     have hN := RmS.mono hle hN
     have hr := hAt.mono hle hr
     have hvl := rd.mono hle hvl
     have hvk := rd.mono hle hvk
     have hle0 := Le.trans hle0 hle
     have hp1 := cel_le hle hp1
     intro hF
     refine TL.gyes rfl rfl rfl ?_
     refine TL.load_own 1 0 rfl rfl rfl rfl rfl ?_
     refine TL.nil ?_
     exact TQ.one [] hF (Le.refl _) ⟨rfl, rfl⟩) ?_
    refine ⟨by kernel_rfl, .refl _, ?_⟩
    ·
     intro H1 hle
     have hL := Le.trans hL hle
     have hN := RmS.mono hle hN
     have hr := hAt.mono hle hr
     have hvl := rd.mono hle hvl
     have hvk := rd.mono hle hvk
     have hle0 := Le.trans hle0 hle
     have hp1 := cel_le hle hp1
     refine TL.toOwn (own' := _ :: _ :: own) rfl ?_
     refine TL.wk (env' := [(0, _), (3, _), (4, _), (5, _), (6, _), (17, _), (24, _), (26, _)]) ⟨rfl, rfl, rfl, rfl, rfl, rfl, rfl, rfl, trivial⟩ ?_
     refine TL.gyes rfl rfl rfl ?_
     refine TL.eqlSB rfl rfl rfl (fun hq => ?_) (fun hq => ?_)
     ·
      refine TL.pickF rfl rfl rfl rfl ?_
      refine TL.assign rfl rfl ?_
      refine TL.nil ?_
      refine TQ.in_n ?_
      refine TQ.then_n ?_
      refine TC.region ?_
      refine TL.move rfl rfl ?_
      refine TL.add rfl rfl rfl ⟨by omega, by omega⟩ ?_
      refine TL.assign rfl rfl ?_
      refine TL.nil ?_
      refine TQ.toOwn (own' := _ :: _ :: own) rfl ?_
      refine TQ.next (lo.length - (i + 1)) [(0, _), (3, _), (4, _), (5, _), (6, _)] (by omega) ⟨rfl, rfl, rfl, rfl, rfl, trivial⟩ ⟨i + 1, addL (fun _ => false) (lo.take (i + 1)) snm, rfl, by omega, rfl, ?_, rfl, hle0⟩
      rw [any_take ha, ← hbl]
      first
        | (simp [hq]; done)
        | simp
     ·
      refine TL.pickF rfl rfl rfl rfl ?_
      refine TL.assign rfl rfl ?_
      refine TL.nil ?_
      refine TQ.in_n ?_
      refine TQ.then_n ?_
      refine TC.region ?_
      refine TL.move rfl rfl ?_
      refine TL.add rfl rfl rfl ⟨by omega, by omega⟩ ?_
      refine TL.assign rfl rfl ?_
      refine TL.nil ?_
      refine TQ.toOwn (own' := _ :: _ :: own) rfl ?_
      refine TQ.next (lo.length - (i + 1)) [(0, _), (3, _), (4, _), (5, _), (6, _)] (by omega) ⟨rfl, rfl, rfl, rfl, rfl, trivial⟩ ⟨i + 1, addL (fun _ => false) (lo.take (i + 1)) snm, rfl, by omega, rfl, ?_, rfl, hle0⟩
      rw [any_take ha, ← hbl]
      first
        | (simp [hq]; done)
        | simp
   ·
    refine TC.drawQV 11  [(0, _), (3, _), (4, _), (5, _), (6, _)] follows_mixed ⟨rfl, rfl, rfl, rfl, rfl, trivial⟩ ?_
    refine ChainV.q (some 16) [] (by
     intro H' X F hle
     intro hF
     refine TL.move rfl rfl ?_
     refine TL.nil ?_
     exact TQ.one [] hF (Le.refl _) ⟨rfl, rfl⟩) ?_
    refine ChainV.q (some 17) [(0, 0)] (by
     intro H' X F hle
     intro hF
     refine TL.move rfl rfl ?_
     refine TL.nil ?_
     exact TQ.one [] hF (Le.refl _) ⟨rfl, rfl⟩) ?_
    refine ChainV.q (some 18) [(1, 0)] (by
     intro H' X F hle
     intro hF
     refine TL.gno rfl rfl rfl rfl ?_
     refine TL.nil ?_
     exact TQ.one [] hF (Le.refl _) ⟨rfl, rfl⟩) ?_
    refine ChainV.q (some 19) [(2, 0), (1, 1)] (by
     intro H' X F hle
     intro hF
     refine TL.gno rfl rfl rfl rfl ?_
     refine TL.nil ?_
     exact TQ.one [] hF (Le.refl _) ⟨rfl, rfl⟩) ?_
    refine ChainV.q (some 20) [(3, 0), (1, 2)] (by
     intro H' X F hle
     intro hF
     refine TL.gno rfl rfl rfl rfl ?_
     refine TL.nil ?_
     exact TQ.one [] hF (Le.refl _) ⟨rfl, rfl⟩) ?_
    refine ChainV.q (some 21) [(4, 0), (1, 3)] (by
     intro H' X F hle
     intro hF
     refine TL.gno rfl rfl rfl rfl ?_
     refine TL.nil ?_
     exact TQ.one [] hF (Le.refl _) ⟨rfl, rfl⟩) ?_
    refine ChainV.q (some 22) [(1, 4)] (by
     intro H' X F hle
     intro hF
     refine TL.gno rfl rfl rfl rfl ?_
     refine TL.nil ?_
     exact TQ.one [] hF (Le.refl _) ⟨rfl, rfl⟩) ?_
    refine ChainV.q (some 23) [(5, 1), (6, 0), (1, 5)] (by
     intro H' X F hle
     intro hF
     refine TL.gno rfl rfl rfl rfl ?_
     refine TL.nil ?_
     exact TQ.one [] hF (Le.refl _) ⟨rfl, rfl⟩) ?_
    refine ChainV.q (some 24) [(7, 0), (1, 6)] (by
     intro H' X F hle
     intro hF
     refine TL.gno rfl rfl rfl rfl ?_
     refine TL.nil ?_
     exact TQ.one [] hF (Le.refl _) ⟨rfl, rfl⟩) ?_
    refine ChainV.q (some 25) [(1, 7)] (by
     intro H' X F hle
     intro hF
     refine TL.gno rfl rfl rfl rfl ?_
     refine TL.nil ?_
     exact TQ.one [] hF (Le.refl _) ⟨rfl, rfl⟩) ?_
    refine ChainV.q (some 26) [(9, 0), (1, 8)] (by
     intro H' X F hle
     intro hF
     refine TL.gno rfl rfl rfl rfl ?_
     refine TL.nil ?_
     exact TQ.one [] hF (Le.refl _) ⟨rfl, rfl⟩) ?_
    refine ⟨by kernel_rfl, .refl _, ?_⟩
    ·
     intro H2 hle
     have hL := Le.trans hL hle
     have hN := RmS.mono hle hN
     have hr := hAt.mono hle hr
     have hvl := rd.mono hle hvl
     have hvk := rd.mono hle hvk
     have hle0 := Le.trans hle0 hle
     have hp1 := cel_le hle hp1
     refine TL.toOwn (own' := _ :: _ :: own) rfl ?_
     refine TL.wk (env' := [(0, _), (3, _), (4, _), (5, _), (6, _), (17, _), (24, _), (26, _)]) ⟨rfl, rfl, rfl, rfl, rfl, rfl, rfl, rfl, trivial⟩ ?_
     refine TL.gno rfl rfl rfl rfl ?_
     refine TL.pickT rfl rfl rfl rfl ?_
     refine TL.assign rfl rfl ?_
     refine TL.nil ?_
     refine TQ.in_n ?_
     refine TQ.then_n ?_
     refine TC.region ?_
     refine TL.move rfl rfl ?_
     refine TL.add rfl rfl rfl ⟨by omega, by omega⟩ ?_
     refine TL.assign rfl rfl ?_
     refine TL.nil ?_
     refine TQ.toOwn (own' := _ :: _ :: own) rfl ?_
     refine TQ.next (lo.length - (i + 1)) [(0, _), (3, _), (4, _), (5, _), (6, _)] (by omega) ⟨rfl, rfl, rfl, rfl, rfl, trivial⟩ ⟨i + 1, addL (fun _ => false) (lo.take (i + 1)) snm, rfl, by omega, rfl, ?_, rfl, hle0⟩
     rw [any_take ha, ← hbl]
     first
       | (simp [hq]; done)
       | simp
  ·
   have hii : i = lo.length := by omega
   subst hii
   rw [List.take_length] at hbl
   refine TL.nil ?_
   refine TQ.then_n ?_
   refine TC.cond_f rfl ?_
   refine TC.exit ?_
   refine TQ.then_e ?_
   refine TQ.then_e ?_
   refine TQ.in_e ?_
   refine TQ.then_n ?_
   refine TC.cut (fun env' own' H' => ∃ nm2, nm2 = (if sk = 14 ∨ (sk = 2 ∧ addL (fun _ => false) lo snm = false) then toT (fr.zip to) snm else snm) ∧ env' = [(0, .pointer (some ⟨gr, 0, none⟩)), (3, .pointer (some ⟨g3, 0, none⟩)), (4, .pointer (some ⟨g4, 0, none⟩))] ∧ own' = [(g4, .cells #[.int .i64 0, .string ⟨#[]⟩, .int .u16 0, .slice none 0 0] 58 (0, 0))] :: [(g3, .cells #[.int .i64 sk, .string nm2, .int .u16 sn, vk] 58 (0, 0))] :: own ∧ Le H1 H') ?_ ?_
   ·
    have hcut := Le.refl H1
    refine TC.seq ?_
    refine TC.region ?_
    refine TL.fieldAddr rfl rfl ?_
    refine TL.load_own 1 0 rfl rfl rfl rfl rfl ?_
    refine TL.eqlB rfl rfl rfl (fun hk1 => ?_) (fun hk1 => ?_)
    ·
     refine TL.move rfl rfl ?_
     refine TL.gno rfl rfl rfl rfl ?_
     refine TL.gno rfl rfl rfl rfl ?_
     refine TL.gno rfl rfl rfl rfl ?_
     refine TL.gno rfl rfl rfl rfl ?_
     refine TL.gund rfl rfl rfl ?_
     refine TL.gund rfl rfl rfl ?_
     refine TL.gno rfl rfl rfl rfl ?_
     refine TL.pickT rfl rfl rfl rfl ?_
     refine TL.nil ?_
     refine TQ.then_n ?_
     refine TC.cond_t rfl ?_
     refine TC.region ?_
     refine TL.move rfl rfl ?_
     refine TL.fieldAddr rfl rfl ?_
     refine TL.load_own 1 0 rfl rfl rfl rfl rfl ?_
     refine TL.call (ref_name hN) ⟨rfl, rfl, trivial⟩ rfl ?_
     rintro _ _ H44 ⟨rfl, rfl, hle44⟩
     have hL := Le.trans hL hle44
     have hN := RmS.mono hle44 hN
     have hr := hAt.mono hle44 hr
     have hvl := rd.mono hle44 hvl
     have hvk := rd.mono hle44 hvk
     have hle0 := Le.trans hle0 hle44
     have hcut := Le.trans hcut hle44
     refine TL.fieldAddr rfl rfl ?_
     refine TL.store1 1 0 (c' := #[_, _, _, _]) (own' := _ :: [(_, .cells #[_, _, _, _] _ _)] :: _) rfl rfl rfl rfl rfl (by simp) rfl rfl rfl ?_
     refine TL.nil ?_
     refine TQ.toOwn (own' := _ :: _ :: own) rfl ?_
     refine TQ.mid [(0, _), (3, _), (4, _)] ⟨rfl, rfl, rfl, trivial⟩ ⟨_, ?_, rfl, rfl, hcut⟩
     rw [if_pos (Or.inl hk1)]
    ·
     refine TL.move rfl rfl ?_
     refine TL.gyes rfl rfl rfl ?_
     refine TL.fieldAddr rfl rfl ?_
     refine TL.gyes rfl rfl rfl ?_
     refine TL.load_own 1 0 rfl rfl rfl rfl rfl ?_
     refine TL.gyes rfl rfl rfl ?_
     refine TL.eqlB rfl rfl rfl (fun hk2 => ?_) (fun hk2 => ?_)
     ·
      refine TL.gyes rfl rfl rfl ?_
      refine TL.move rfl rfl ?_
      refine TL.gyes rfl rfl rfl ?_
      refine TL.move rfl rfl ?_
      refine TL.gyes rfl rfl rfl ?_
      refine TL.not rfl rfl ?_
      refine TL.gyes rfl rfl rfl ?_
      refine TL.pickT rfl rfl rfl rfl ?_
      refine TL.pickF rfl rfl rfl rfl ?_
      refine TL.nil ?_
      refine TQ.then_n ?_
      refine TC.cond rfl (fun hc => ?_) (fun hc => ?_)
      ·
       refine TC.region ?_
       refine TL.move rfl rfl ?_
       refine TL.fieldAddr rfl rfl ?_
       refine TL.load_own 1 0 rfl rfl rfl rfl rfl ?_
       refine TL.call (ref_name hN) ⟨rfl, rfl, trivial⟩ rfl ?_
       rintro _ _ H44 ⟨rfl, rfl, hle44⟩
       have hL := Le.trans hL hle44
       have hN := RmS.mono hle44 hN
       have hr := hAt.mono hle44 hr
       have hvl := rd.mono hle44 hvl
       have hvk := rd.mono hle44 hvk
       have hle0 := Le.trans hle0 hle44
       have hcut := Le.trans hcut hle44
       refine TL.fieldAddr rfl rfl ?_
       refine TL.store1 1 0 (c' := #[_, _, _, _]) (own' := _ :: [(_, .cells #[_, _, _, _] _ _)] :: _) rfl rfl rfl rfl rfl (by simp) rfl rfl rfl ?_
       refine TL.nil ?_
       refine TQ.toOwn (own' := _ :: _ :: own) rfl ?_
       refine TQ.mid [(0, _), (3, _), (4, _)] ⟨rfl, rfl, rfl, trivial⟩ ⟨_, ?_, rfl, rfl, hcut⟩
       rw [if_pos (Or.inr ⟨hk2, by rw [← hbl]; simpa using hc⟩)]
      ·
       refine TC.skip ?_
       refine TQ.toOwn (own' := _ :: _ :: own) rfl ?_
       refine TQ.mid [(0, _), (3, _), (4, _)] ⟨rfl, rfl, rfl, trivial⟩ ⟨_, ?_, rfl, rfl, hcut⟩
       rw [if_neg (by rintro (h | ⟨_, h⟩); exact hk1 h; rw [← hbl] at h; simp [h] at hc)]
     ·
      refine TL.gyes rfl rfl rfl ?_
      refine TL.move rfl rfl ?_
      refine TL.gno rfl rfl rfl rfl ?_
      refine TL.gno rfl rfl rfl rfl ?_
      refine TL.gyes rfl rfl rfl ?_
      refine TL.pickF rfl rfl rfl rfl ?_
      refine TL.pickF rfl rfl rfl rfl ?_
      refine TL.nil ?_
      refine TQ.then_n ?_
      refine TC.cond_f rfl ?_
      refine TC.skip ?_
      refine TQ.toOwn (own' := _ :: _ :: own) rfl ?_
      refine TQ.mid [(0, _), (3, _), (4, _)] ⟨rfl, rfl, rfl, trivial⟩ ⟨_, ?_, rfl, rfl, hcut⟩
      rw [if_neg (fun h => h.elim hk1 (fun h => hk2 h.1))]
   rintro _ _ H5 ⟨nm2, hnm2, rfl, rfl, hle5⟩
   have hL := Le.trans hL hle5
   have hN := RmS.mono hle5 hN
   have hr := hAt.mono hle5 hr
   have hvl := rd.mono hle5 hvl
   have hvk := rd.mono hle5 hvk
   have hle0 := Le.trans hle0 hle5
   refine TC.seq ?_
   refine TC.region ?_
   refine TL.move rfl rfl ?_
   refine TL.fieldAddr rfl rfl ?_
   refine TL.load_own 1 0 rfl rfl rfl rfl rfl ?_
   refine TL.call (hE sks (by omega) hN hvk) ⟨rfl, rfl, trivial⟩ rfl ?_
   rintro r49 _ H49 ⟨hr49, rfl, hle49⟩
   have hL := Le.trans hL hle49
   have hN := RmS.mono hle49 hN
   have hr := hAt.mono hle49 hr
   have hvl := rd.mono hle49 hvl
   have hvk := rd.mono hle49 hvk
   have hle0 := Le.trans hle0 hle49
   refine TL.fieldAddr rfl rfl ?_
   refine TL.store1 1 0 (c' := #[_, _, _, _]) (own' := _ :: [(_, .cells #[_, _, _, _] _ _)] :: _) rfl rfl rfl rfl hr49.one (by simp) rfl rfl rfl ?_
   refine TL.nil ?_
   refine TQ.then_n ?_
   refine TC.seq ?_
   refine TC.region ?_
   refine TL.load_ownA 1 0 [_, _, _, _] rfl rfl rfl ⟨rfl, rfl, rfl, rfl, trivial⟩ rfl rfl ?_
   refine TL.storeA 0 0 (c' := #[_, _, _, _]) (own' := [(_, .cells #[_, _, _, _] _ _)] :: _) rfl rfl rfl rfl rfl ⟨rfl, rfl, rfl, hr49.one, trivial⟩ (by simp) rfl rfl rfl ?_
   refine TL.nil ?_
   refine TQ.then_n ?_
   refine TC.ret ?_
   refine TQ.retC 0 0 2 [_, _, _, _] rfl rfl rfl rfl ⟨rfl, rfl, rfl, rfl, trivial⟩ rfl rfl ?_
   refine ⟨_, _, _, _, rfl, ?_, rfl, hL⟩
   rw [renE, ← hnm2]
   exact ex_mk hr49
theorem ref_exprs {fr to lo : List ByteArray} {k : Nat} (hk9 : k ≤ 1000000) (hE : ExprOk fr to lo k) : ExprsOk fr to lo k := by
  intro l hk w0 H own gr v hN hA
  have hlen := Ex.len_le l
  obtain ⟨A, c, rfl, hc1, hc2⟩ := exs_len hA
  obtain ⟨to', hto'⟩ : ∃ to', to' = toT (fr.zip to) := ⟨_, rfl⟩
  obtain ⟨lo', hlo'⟩ : ∃ lo', lo' = addL (fun _ => false) lo := ⟨_, rfl⟩
  rw [← hto', ← hlo']
  refine Fn.enter Try.func69 rfl Try.ntmps69 rfl ?_
  have hL := Le.refl H
  refine TC.seq ?_
  refine TC.region ?_
  refine TL.assign rfl rfl ?_
  refine TL.nil ?_
  refine TQ.then_n ?_
  refine TC.seq ?_
  refine TC.region ?_
  refine TL.assign rfl rfl ?_
  refine TL.nil ?_
  refine TQ.then_n ?_
  refine TC.seq ?_
  refine TC.seq ?_
  refine TC.nilseg ?_
  refine TC.region ?_
  refine TL.assign rfl rfl ?_
  refine TL.nil ?_
  refine TQ.then_n ?_
  refine TC.block ?_
  refine TC.loop (fun z env' own' H' => ∃ (i : Nat) (u : Value) (xs : List Value) (seg : Seg), z = l.length - i ∧ i ≤ l.length ∧ Row 58 4 u i xs seg ∧ RdL H' (Ex.ds (renEs to' lo' (l.take i))) xs ∧ env' = [(0, .pointer (some ⟨gr, 0, none⟩)), (1, .slice A l.length c), (5, u), (6, .int .i64 (i : Int))] ∧ own' = seg :: own ∧ Le H H') l.length [(0, _), (1, _), (5, _), (6, _)] ⟨rfl, rfl, rfl, rfl, trivial⟩ ⟨0, _, [], [], by omega, by omega, Row.nil 58 4, by simp [renEs, Ex.ds, RdL], rfl, rfl, Le.refl _⟩ ?_
  rintro z _ _ H1 ⟨i, u, xs, seg, rfl, hi, hrow, hxs, rfl, rfl, hle0⟩
  have hL := Le.trans hL hle0
  have hN := RmS.mono hle0 hN
  have hA := rd.mono hle0 hA
  refine TC.seq ?_
  refine TC.seq ?_
  refine TC.region ?_
  refine TL.move rfl rfl ?_
  refine TL.move rfl rfl ?_
  refine TL.len_slice rfl rfl ?_
  refine TL.lssB rfl rfl rfl (fun hlt => ?_) (fun hlt => ?_)
  ·
   obtain ⟨x, hx⟩ : ∃ x, l[i]? = some x := ⟨_, List.getElem?_eq_getElem (by omega)⟩
   have hxs' := Ex.size_mem (List.mem_of_getElem? hx)
   obtain ⟨sk, snm, sn, sks⟩ := x
   obtain ⟨b1, o1, vk, rfl, hp, hvk⟩ := exs_at hA hx
   refine TL.nil ?_
   refine TQ.then_n ?_
   refine TC.cond_t rfl ?_
   refine TC.skip ?_
   refine TQ.then_n ?_
   refine TC.seq ?_
   refine TC.block ?_
   refine TC.region ?_
   refine TL.move rfl rfl ?_
   refine TL.move rfl rfl ?_
   refine TL.move rfl rfl ?_
   refine TL.move rfl rfl ?_
   refine TL.indexAddr (i) rfl rfl rfl (by omega) rfl ?_
   refine TL.load_immA rfl (hp) rfl rfl ?_
   refine TL.call (hE _ (by omega) hN (ex_mk hvk)) ⟨rfl, rfl, trivial⟩ rfl ?_
   rintro _ _ H19 ⟨d0, d1, d2, d3, rfl, hd19, rfl, hle19⟩
   rw [← hto', ← hlo'] at hd19
   have hL := Le.trans hL hle19
   have hN := RmS.mono hle19 hN
   have hA := rd.mono hle19 hA
   have hle0 := Le.trans hle0 hle19
   have hxs := RdL.mono hle19 hxs
   have hp := hAt.mono hle19 hp
   have hvk := rd.mono hle19 hvk
   refine TL.litF (r := [_, _, _, _]) [(0, [_, _, _, _])] ⟨rfl, ⟨_, rfl, rfl⟩, trivial⟩ rfl rfl rfl rfl ?_; intro g20
   refine TL.append 1 rfl rfl rfl hrow (Src.ofOwn 0 0 rfl rfl rfl (Ones.all (ex_ones hd19)) ⟨rfl, rfl, rfl, rfl, trivial⟩) (by omega) (by omega) rfl ?_
   intro v' seg' hrow'
   refine TL.assign rfl rfl ?_
   refine TL.nil ?_
   refine TQ.in_n ?_
   refine TQ.then_n ?_
   refine TC.region ?_
   refine TL.move rfl rfl ?_
   refine TL.add rfl rfl rfl ⟨by omega, by omega⟩ ?_
   refine TL.assign rfl rfl ?_
   refine TL.nil ?_
   refine TQ.sel 2 [1] rfl (fun o ho => ?_)
   simp only [K.sel, List.map_cons, List.map_nil, List.getD_cons_zero, List.getD_cons_succ, List.drop_succ_cons, List.drop_zero, List.cons_append, List.nil_append, List.set_cons_zero, List.set_cons_succ] at ho; subst ho
   refine TQ.next (l.length - (i + 1)) [(0, _), (1, _), (5, _), (6, _)] (by omega) ⟨rfl, rfl, rfl, rfl, trivial⟩ ⟨i + 1, v', _, seg', rfl, by omega, hrow', ?_, by simp, rfl, hle0⟩
   rw [List.take_add_one, hx, renEs_map, List.map_append, ← renEs_map]
   exact exs_snoc hxs hd19
  ·
   refine TL.nil ?_
   refine TQ.then_n ?_
   refine TC.cond_f rfl ?_
   refine TC.exit ?_
   refine TQ.then_e ?_
   refine TQ.then_e ?_
   refine TQ.in_e ?_
   refine TQ.then_n ?_
   refine TC.seq ?_
   refine TC.region ?_
   refine TL.move rfl rfl ?_
   refine TL.assign rfl rfl ?_
   refine TL.nil ?_
   refine TQ.then_n ?_
   refine TC.ret ?_
   refine TQ.freeze (fun H1 hle hz_row => ?_)
   have hL := Le.trans hL hle
   have hN := RmS.mono hle hN
   have hA := rd.mono hle hA
   have hle0 := Le.trans hle0 hle
   have hxs := RdL.mono hle hxs
   refine TQ.ret1 0 rfl rfl ?_
   rw [List.take_of_length_le (by omega)] at hxs
   exact ⟨rd.ofRow hrow hz_row hxs (Le.refl _), rfl, hL⟩
theorem ref_exprs_all {fr to lo : List ByteArray} : ∀ k, k ≤ 1000000 → ExprsOk fr to lo k
  | 0, h => ref_exprs h (fun e he => by have := e.size_pos; omega)
  | k + 1, h => ref_exprs h (ref_expr (ref_exprs_all k (by omega)))
theorem ref_exprs_to {fr to lo : List ByteArray} {to' : ByteArray → ByteArray} (hto' : to' = toT (fr.zip to)) {lo' : ByteArray → Bool} (hlo' : lo' = addL (fun _ => false) lo) {k : Nat} (hk : k ≤ 1000000) (l : List Ex) (hl : Ex.sizes l ≤ k) {w0 : World} {H : Hp} {own : List Seg} {gr : Nat} {v : Value}
    (hN : RmS H gr fr to lo) (hA : rd H (.s 4 (Ex.ds l)) v) : Fn Try.prog 69 [.pointer (some ⟨gr, 0, none⟩), v] w0 H own (fun r own' H' => rd H' (.s 4 (Ex.ds (renEs to' lo' l))) r ∧ own' = own ∧ Le H H') := by
  subst hto' hlo'
  exact ref_exprs_all k hk l hl hN hA
theorem ref_stmts {fr to lo : List ByteArray} {to' : ByteArray → ByteArray} (hto' : to' = toT (fr.zip to)) {lo' : ByteArray → Bool} (hlo' : lo' = addL (fun _ => false) lo) (k : Nat) : ∀ (l : List Sm), Sm.sizes l ≤ k → k ≤ 1000000 → ∀ {w0 : World} {H : Hp} {own : List Seg} {gr : Nat} {v : Value}, RmS H gr fr to lo → rd H (.s 11 (Sm.ds l)) v →
    Fn Try.prog 47 [.pointer (some ⟨gr, 0, none⟩), v] w0 H own (fun r own' H' => rd H' (.s 11 (Sm.ds (renSs to' lo' l))) r ∧ own' = own ∧ Le H H') := by
  induction k using Nat.strongRecOn with
  | _ k ih =>
  intro l hk hlim w0 H own gr v hN hA
  have hlen := Sm.len_le l
  obtain ⟨A, c, rfl, hc1, hc2⟩ := sms_len hA
  refine Fn.enter Try.func47 rfl Try.ntmps47 rfl ?_
  have hL := Le.refl H
  refine TC.seq ?_
  refine TC.region ?_
  refine TL.assign rfl rfl ?_
  refine TL.nil ?_
  refine TQ.then_n ?_
  refine TC.seq ?_
  refine TC.region ?_
  refine TL.assign rfl rfl ?_
  refine TL.nil ?_
  refine TQ.then_n ?_
  refine TC.seq ?_
  refine TC.seq ?_
  refine TC.nilseg ?_
  refine TC.region ?_
  refine TL.assign rfl rfl ?_
  refine TL.nil ?_
  refine TQ.then_n ?_
  refine TC.block ?_
  refine TC.loop (fun z env' own' H' => ∃ (i : Nat) (u : Value) (xs : List Value) (seg : Seg), z = l.length - i ∧ i ≤ l.length ∧ Row 61 11 u i xs seg ∧ RdL H' (Sm.ds (renSs to' lo' (l.take i))) xs ∧ env' = [(0, .pointer (some ⟨gr, 0, none⟩)), (1, .slice A l.length c), (5, u), (6, .int .i64 (i : Int))] ∧ own' = seg :: own ∧ Le H H') l.length [(0, _), (1, _), (5, _), (6, _)] ⟨rfl, rfl, rfl, rfl, trivial⟩ ⟨0, _, [], [], by omega, by omega, Row.nil 61 11, by simp [renSs, Sm.ds, RdL], rfl, rfl, Le.refl _⟩ ?_
  rintro z _ _ H1 ⟨i, u, xs, seg, rfl, hi, hrow, hxs, rfl, rfl, hle0⟩
  have hL := Le.trans hL hle0
  have hN := RmS.mono hle0 hN
  have hA := rd.mono hle0 hA
  refine TC.seq ?_
  refine TC.seq ?_
  refine TC.region ?_
  refine TL.move rfl rfl ?_
  refine TL.move rfl rfl ?_
  refine TL.len_slice rfl rfl ?_
  refine TL.lssB rfl rfl rfl (fun hlt => ?_) (fun hlt => ?_)
  ·
   obtain ⟨x, hx⟩ : ∃ x, l[i]? = some x := ⟨_, List.getElem?_eq_getElem (by omega)⟩
   have hxs' := Sm.size_mem (List.mem_of_getElem? hx)
   obtain ⟨sk, snm, st, sn, sxs, sb, sel, scs⟩ := x
   simp only [Sm.size] at hxs'
   obtain ⟨b1, o1, t0, t1, t2, t3, vx, vb, ve, vc, rfl, hp, hst, hvx, hvb, hve, hvc⟩ := sms_at hA hx
   have hcl := Sm.clen_le scs
   obtain ⟨Ac, cc, rfl, hcc1, hcc2⟩ := css_len hvc
   refine TL.nil ?_
   refine TQ.then_n ?_
   refine TC.cond_t rfl ?_
   refine TC.skip ?_
   refine TQ.then_n ?_
   refine TC.seq ?_
   refine TC.block ?_
   refine TC.seq ?_
   refine TC.region ?_
   refine TL.move rfl rfl ?_
   refine TL.move rfl rfl ?_
   refine TL.indexAddr (i) rfl rfl rfl (by omega) rfl ?_
   refine TL.load_immA rfl (hp) rfl rfl ?_
   refine TL.new rfl ?_; intro g7
   refine TL.storeA 0 0 (c' := #[_, _, _, _, _, _, _, _, _, _, _]) (own' := [(_, .cells #[_, _, _, _, _, _, _, _, _, _, _] _ _)] :: _) rfl rfl rfl rfl rfl (sm_ones hst hvx hvb hve hvc) (by simp [putC]) (putC_all rfl) rfl rfl ?_
   refine TL.nil ?_
   refine TQ.then_n ?_
   refine TC.seq ?_
   refine TC.region ?_
   refine TL.move rfl rfl ?_
   refine TL.fieldAddr rfl rfl ?_
   refine TL.load_own 0 0 rfl rfl rfl rfl rfl ?_
   refine TL.call (ref_exprs_to hto' hlo' (by omega) sxs (Nat.le_refl _) hN hvx) ⟨rfl, rfl, trivial⟩ rfl ?_
   rintro r23 _ H23 ⟨hr23, rfl, hle23⟩
   have hL := Le.trans hL hle23
   have hN := RmS.mono hle23 hN
   have hA := rd.mono hle23 hA
   have hle0 := Le.trans hle0 hle23
   have hxs := RdL.mono hle23 hxs
   have hp := hAt.mono hle23 hp
   have hst := RdL.mono hle23 hst
   have hvx := rd.mono hle23 hvx
   have hvb := rd.mono hle23 hvb
   have hve := rd.mono hle23 hve
   have hvc := rd.mono hle23 hvc
   refine TL.fieldAddr rfl rfl ?_
   refine TL.store1 0 0 (c' := #[_, _, _, _, _, _, _, _, _, _, _]) (own' := [(_, .cells #[_, _, _, _, _, _, _, _, _, _, _] _ _)] :: _) rfl rfl rfl rfl hr23.one (by simp) rfl rfl rfl ?_
   refine TL.nil ?_
   refine TQ.then_n ?_
   refine TC.seq ?_
   refine TC.region ?_
   refine TL.move rfl rfl ?_
   refine TL.fieldAddr rfl rfl ?_
   refine TL.load_own 0 0 rfl rfl rfl rfl rfl ?_
   refine TL.call (ih (k - 1) (by omega) sb (by omega) (by omega) hN hvb) ⟨rfl, rfl, trivial⟩ rfl ?_
   rintro r28 _ H28 ⟨hr28, rfl, hle28⟩
   have hL := Le.trans hL hle28
   have hN := RmS.mono hle28 hN
   have hA := rd.mono hle28 hA
   have hle0 := Le.trans hle0 hle28
   have hxs := RdL.mono hle28 hxs
   have hp := hAt.mono hle28 hp
   have hst := RdL.mono hle28 hst
   have hvx := rd.mono hle28 hvx
   have hvb := rd.mono hle28 hvb
   have hve := rd.mono hle28 hve
   have hvc := rd.mono hle28 hvc
   have hr23 := rd.mono hle28 hr23
   refine TL.fieldAddr rfl rfl ?_
   refine TL.store1 0 0 (c' := #[_, _, _, _, _, _, _, _, _, _, _]) (own' := [(_, .cells #[_, _, _, _, _, _, _, _, _, _, _] _ _)] :: _) rfl rfl rfl rfl hr28.one (by simp) rfl rfl rfl ?_
   refine TL.nil ?_
   refine TQ.then_n ?_
   refine TC.seq ?_
   refine TC.region ?_
   refine TL.move rfl rfl ?_
   refine TL.fieldAddr rfl rfl ?_
   refine TL.load_own 0 0 rfl rfl rfl rfl rfl ?_
   refine TL.call (ih (k - 1) (by omega) sel (by omega) (by omega) hN hve) ⟨rfl, rfl, trivial⟩ rfl ?_
   rintro r33 _ H33 ⟨hr33, rfl, hle33⟩
   have hL := Le.trans hL hle33
   have hN := RmS.mono hle33 hN
   have hA := rd.mono hle33 hA
   have hle0 := Le.trans hle0 hle33
   have hxs := RdL.mono hle33 hxs
   have hp := hAt.mono hle33 hp
   have hst := RdL.mono hle33 hst
   have hvx := rd.mono hle33 hvx
   have hvb := rd.mono hle33 hvb
   have hve := rd.mono hle33 hve
   have hvc := rd.mono hle33 hvc
   have hr23 := rd.mono hle33 hr23
   have hr28 := rd.mono hle33 hr28
   refine TL.fieldAddr rfl rfl ?_
   refine TL.store1 0 0 (c' := #[_, _, _, _, _, _, _, _, _, _, _]) (own' := [(_, .cells #[_, _, _, _, _, _, _, _, _, _, _] _ _)] :: _) rfl rfl rfl rfl hr33.one (by simp) rfl rfl rfl ?_
   refine TL.nil ?_
   refine TQ.then_n ?_
   refine TC.seq ?_
   refine TC.region ?_
   refine TL.assign rfl rfl ?_
   refine TL.nil ?_
   refine TQ.then_n ?_
   refine TC.seq ?_
   refine TC.seq ?_
   refine TC.nilseg ?_
   refine TC.region ?_
   refine TL.assign rfl rfl ?_
   refine TL.nil ?_
   refine TQ.then_n ?_
   refine TC.block ?_
   refine TC.loop (fun z env' own' H' => ∃ (q : Nat) (uc : Value) (cxs : List Value) (cseg : Seg), z = scs.length - q ∧ q ≤ scs.length ∧ Row 49 1 uc q cxs cseg ∧ RdL H' (Sm.cd (renCs to' lo' (scs.take q))) cxs ∧ env' = [(0, .pointer (some ⟨gr, 0, none⟩)), (1, .slice (some ⟨b1, o1, none⟩) l.length c), (5, u), (6, .int .i64 (i : Int)), (7, .pointer (some ⟨g7, 0, none⟩)), (8, uc), (9, .int .i64 (q : Int))] ∧ own' = cseg :: [(g7, .cells #[.int .i64 sk, .string snm, t0, t1, t2, t3, .int .u16 sn, r23, r28, r33, .slice Ac scs.length cc] 61 (0, 0))] :: seg :: own ∧ Le H33 H') scs.length [(0, _), (1, _), (5, _), (6, _), (7, _), (8, _), (9, _)] ⟨rfl, rfl, rfl, rfl, rfl, rfl, rfl, trivial⟩ ⟨0, _, [], [], by omega, by omega, Row.nil 49 1, by simp [renCs, Sm.cd, RdL], rfl, rfl, Le.refl _⟩ ?_
   rintro z _ _ H9 ⟨q, uc, cxs, cseg, rfl, hq, hcrow, hcxs, rfl, rfl, hle9⟩
   have hL := Le.trans hL hle9
   have hN := RmS.mono hle9 hN
   have hA := rd.mono hle9 hA
   have hle0 := Le.trans hle0 hle9
   have hxs := RdL.mono hle9 hxs
   have hp := hAt.mono hle9 hp
   have hst := RdL.mono hle9 hst
   have hvx := rd.mono hle9 hvx
   have hvb := rd.mono hle9 hvb
   have hve := rd.mono hle9 hve
   have hvc := rd.mono hle9 hvc
   have hr23 := rd.mono hle9 hr23
   have hr28 := rd.mono hle9 hr28
   have hr33 := rd.mono hle9 hr33
   refine TC.seq ?_
   refine TC.seq ?_
   refine TC.region ?_
   refine TL.move rfl rfl ?_
   refine TL.fieldAddr rfl rfl ?_
   refine TL.load_own 1 0 rfl rfl rfl rfl rfl ?_
   refine TL.len_slice rfl rfl ?_
   refine TL.lssB rfl rfl rfl (fun hlt2 => ?_) (fun hlt2 => ?_)
   ·
    obtain ⟨y, hy⟩ : ∃ y, scs[q]? = some y := ⟨_, List.getElem?_eq_getElem (by omega)⟩
    have hys := Sm.csize_mem (List.mem_of_getElem? hy)
    obtain ⟨b2, o2, v2, rfl, hp2, hv2⟩ := css_at hvc hy
    refine TL.nil ?_
    refine TQ.then_n ?_
    refine TC.cond_t rfl ?_
    refine TC.skip ?_
    refine TQ.then_n ?_
    refine TC.seq ?_
    refine TC.block ?_
    refine TC.region ?_
    refine TL.move rfl rfl ?_
    refine TL.move rfl rfl ?_
    refine TL.fieldAddr rfl rfl ?_
    refine TL.load_own 1 0 rfl rfl rfl rfl rfl ?_
    refine TL.move rfl rfl ?_
    refine TL.indexAddr (q) rfl rfl rfl (by omega) rfl ?_
    refine TL.load_imm rfl (hp2) rfl ?_
    refine TL.call (ih (k - 1) (by omega) y (by omega) (by omega) hN hv2) ⟨rfl, rfl, trivial⟩ rfl ?_
    rintro r49 _ H49 ⟨hr49, rfl, hle49⟩
    have hL := Le.trans hL hle49
    have hN := RmS.mono hle49 hN
    have hA := rd.mono hle49 hA
    have hle0 := Le.trans hle0 hle49
    have hxs := RdL.mono hle49 hxs
    have hp := hAt.mono hle49 hp
    have hst := RdL.mono hle49 hst
    have hvx := rd.mono hle49 hvx
    have hvb := rd.mono hle49 hvb
    have hve := rd.mono hle49 hve
    have hvc := rd.mono hle49 hvc
    have hr23 := rd.mono hle49 hr23
    have hr28 := rd.mono hle49 hr28
    have hr33 := rd.mono hle49 hr33
    have hle9 := Le.trans hle9 hle49
    have hcxs := RdL.mono hle49 hcxs
    have hp2 := cel_le hle49 hp2
    have hv2 := rd.mono hle49 hv2
    refine TL.litF (r := [_]) [(0, [_])] ⟨rfl, ⟨_, rfl, one_cells hr49.one⟩, trivial⟩ rfl rfl rfl rfl ?_; intro g50
    refine TL.append 1 rfl rfl rfl hcrow (Src.ofOwn 0 0 rfl rfl rfl (Ones.all (show Ones [r49] from ⟨hr49.one, trivial⟩)) ⟨rfl, trivial⟩) (by omega) (by omega) rfl ?_
    intro v51 seg51 hcrow'
    refine TL.assign rfl rfl ?_
    refine TL.nil ?_
    refine TQ.in_n ?_
    refine TQ.then_n ?_
    refine TC.region ?_
    refine TL.move rfl rfl ?_
    refine TL.add rfl rfl rfl ⟨by omega, by omega⟩ ?_
    refine TL.assign rfl rfl ?_
    refine TL.nil ?_
    refine TQ.sel 4 [1, 2, 3] rfl (fun o ho => ?_)
    simp only [K.sel, List.map_cons, List.map_nil, List.getD_cons_zero, List.getD_cons_succ, List.drop_succ_cons, List.drop_zero, List.cons_append, List.nil_append, List.set_cons_zero, List.set_cons_succ] at ho; subst ho
    refine TQ.next (scs.length - (q + 1)) [(0, _), (1, _), (5, _), (6, _), (7, _), (8, _), (9, _)] (by omega) ⟨rfl, rfl, rfl, rfl, rfl, rfl, rfl, trivial⟩ ⟨q + 1, v51, _, seg51, rfl, by omega, hcrow', ?_, by simp, rfl, hle9⟩
    rw [List.take_add_one, hy, renCs_map, List.map_append, ← renCs_map]
    exact css_snoc hcxs hr49
   ·
    have hqq : q = scs.length := by omega
    subst hqq
    rw [List.take_length] at hcxs
    refine TL.nil ?_
    refine TQ.then_n ?_
    refine TC.cond_f rfl ?_
    refine TC.exit ?_
    refine TQ.then_e ?_
    refine TQ.then_e ?_
    refine TQ.in_e ?_
    refine TQ.then_n ?_
    refine TC.seq ?_
    refine TC.freeze (fun H1 hle hz_crow => ?_)
    have hL := Le.trans hL hle
    have hN := RmS.mono hle hN
    have hA := rd.mono hle hA
    have hle0 := Le.trans hle0 hle
    have hxs := RdL.mono hle hxs
    have hp := hAt.mono hle hp
    have hst := RdL.mono hle hst
    have hvx := rd.mono hle hvx
    have hvb := rd.mono hle hvb
    have hve := rd.mono hle hve
    have hvc := rd.mono hle hvc
    have hr23 := rd.mono hle hr23
    have hr28 := rd.mono hle hr28
    have hr33 := rd.mono hle hr33
    have hle9 := Le.trans hle9 hle
    have hcxs := RdL.mono hle hcxs
    have hvc2 : rd H1 (.s 1 (Sm.cd (renCs to' lo' scs))) uc := rd.ofRow hcrow hz_crow hcxs (Le.refl _)
    refine TC.region ?_
    refine TL.move rfl rfl ?_
    refine TL.fieldAddr rfl rfl ?_
    refine TL.store1 0 0 (c' := #[_, _, _, _, _, _, _, _, _, _, _]) (own' := [(_, .cells #[_, _, _, _, _, _, _, _, _, _, _] _ _)] :: _) rfl rfl rfl rfl hvc2.one (by simp) rfl rfl rfl ?_
    refine TL.nil ?_
    refine TQ.then_n ?_
    refine TC.region ?_
    refine TL.move rfl rfl ?_
    refine TL.load_ownA 0 0 [_, _, _, _, _, _, _, _, _, _, _] rfl rfl rfl ⟨rfl, rfl, rfl, rfl, rfl, rfl, rfl, rfl, rfl, rfl, rfl, trivial⟩ rfl rfl ?_
    refine TL.litF (r := [_, _, _, _, _, _, _, _, _, _, _]) [(0, [_, _, _, _, _, _, _, _, _, _, _])] ⟨rfl, ⟨_, rfl, rfl⟩, trivial⟩ rfl rfl rfl rfl ?_; intro g56
    refine TL.append 2 rfl rfl rfl hrow (Src.ofOwn 0 0 rfl rfl rfl (Ones.all (sm_ones hst hr23 hr28 hr33 hvc2)) ⟨rfl, rfl, rfl, rfl, rfl, rfl, rfl, rfl, rfl, rfl, rfl, trivial⟩) (by omega) (by omega) rfl ?_
    intro v' seg' hrow'
    refine TL.assign rfl rfl ?_
    refine TL.nil ?_
    refine TQ.in_n ?_
    refine TQ.then_n ?_
    refine TC.region ?_
    refine TL.move rfl rfl ?_
    refine TL.add rfl rfl rfl ⟨by omega, by omega⟩ ?_
    refine TL.assign rfl rfl ?_
    refine TL.nil ?_
    refine TQ.sel 3 [2] rfl (fun o ho => ?_)
    simp only [K.sel, List.map_cons, List.map_nil, List.getD_cons_zero, List.getD_cons_succ, List.drop_succ_cons, List.drop_zero, List.cons_append, List.nil_append, List.set_cons_zero, List.set_cons_succ] at ho; subst ho
    refine TQ.next (l.length - (i + 1)) [(0, _), (1, _), (5, _), (6, _)] (by omega) ⟨rfl, rfl, rfl, rfl, trivial⟩ ⟨i + 1, v', _, seg', rfl, by omega, hrow', ?_, by simp, rfl, hle0⟩
    rw [List.take_add_one, hx, renSs_map, List.map_append, ← renSs_map]
    refine sms_snoc hxs ?_
    rw [renS]
    exact sm_of hst hr23 hr28 hr33 hvc2
  ·
   refine TL.nil ?_
   refine TQ.then_n ?_
   refine TC.cond_f rfl ?_
   refine TC.exit ?_
   refine TQ.then_e ?_
   refine TQ.then_e ?_
   refine TQ.in_e ?_
   refine TQ.then_n ?_
   refine TC.seq ?_
   refine TC.region ?_
   refine TL.move rfl rfl ?_
   refine TL.assign rfl rfl ?_
   refine TL.nil ?_
   refine TQ.then_n ?_
   refine TC.ret ?_
   refine TQ.freeze (fun H2 hle hz_row => ?_)
   have hL := Le.trans hL hle
   have hN := RmS.mono hle hN
   have hA := rd.mono hle hA
   have hle0 := Le.trans hle0 hle
   have hxs := RdL.mono hle hxs
   refine TQ.ret1 0 rfl rfl ?_
   rw [List.take_of_length_le (by omega)] at hxs
   exact ⟨rd.ofRow hrow hz_row hxs (Le.refl _), rfl, hL⟩

end Go.Proofs.Ytapmmfabdmhdnaa.K
