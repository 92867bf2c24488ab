/-
  Part 5 of 5 of the proof that seven laws of chapter 25 return true and leave their arguments as they were. No condition beyond the given statement.
-/
import Derived.ProofKit
import Derived.Deep.Slices
import Derived.OpenShut
import Derived.WideKeyArr2
import Derived.Test.YteeamfkhkbfilaaGreatPkA4
set_option linter.unusedVariables false
set_option linter.unusedSimpArgs false
set_option linter.defProp false
set_option maxHeartbeats 4000000
set_option maxRecDepth 100000
namespace Go.Proofs.YteeamfkhkbfilaaGreat.K
open Go Go.RowKit Go.Proofs

theorem proj_Commit1 {z : RS} (hzo : z.Ok) (hn : z.n ≤ 10000000) {l : List Fact} (hl : ∀ g ∈ l, FOk g) {w0 : World} {H : Hp} {own : List Seg} {gp : Nat} {fm uv lv : Value} {sm su : Seg} {xu : List Value} (hm : PSm H gp z fm uv sm su xu) {v : Value} (hA : rd H (.s 4 (factsD l)) v) (hw : wrongC l = 0) :
    Fn Tryz.prog 23 [.pointer (some ⟨gp, 0, none⟩), v] w0 H ([(gp, .cells #[fm, .int .i64 (z.n : Int), uv, lv] 37 (0, 0))] :: sm :: su :: own)
      (fun r own' H' => ∃ fm' uv' sm' su' xu', r = .tuple #[.string (recC (z.n + 1 : Nat) l), .int .i64 0] ∧ own' = [(gp, .cells #[fm', .int .i64 ((z.commit l).n : Int), uv', lv] 37 (0, 0))] :: sm' :: su' :: own ∧ PSm H' gp (z.commit l) fm' uv' sm' su' xu' ∧ Le H H') := by
  have h := proj_Commit (w0 := w0) (own := own) (lv := lv) hzo hn hl hm hA
  rw [rCom_good hw] at h
  exact h
theorem proj_Commit0 {z : RS} (hzo : z.Ok) (hn : z.n ≤ 10000000) {l : List Fact} (hl : ∀ g ∈ l, FOk g) {w0 : World} {H : Hp} {own : List Seg} {gp : Nat} {fm uv lv : Value} {sm su : Seg} {xu : List Value} (hm : PSm H gp z fm uv sm su xu) {v : Value} (hA : rd H (.s 4 (factsD l)) v) (hw : wrongC l ≠ 0) :
    Fn Tryz.prog 23 [.pointer (some ⟨gp, 0, none⟩), v] w0 H ([(gp, .cells #[fm, .int .i64 (z.n : Int), uv, lv] 37 (0, 0))] :: sm :: su :: own)
      (fun r own' H' => ∃ fm' uv' sm' su' xu', r = .tuple #[.string eS, .int .i64 (wrongC l)] ∧ own' = [(gp, .cells #[fm', .int .i64 (z.n : Int), uv', lv] 37 (0, 0))] :: sm' :: su' :: own ∧ PSm H' gp z fm' uv' sm' su' xu' ∧ Le H H') := by
  have h := proj_Commit (w0 := w0) (own := own) (lv := lv) hzo hn hl hm hA
  rw [rCom_bad hw] at h
  exact h
theorem proj_Undo1 {z : RS} (hzo : z.Ok) (hn : z.n ≤ 10000000) {w0 : World} {H : Hp} {own : List Seg} {gp : Nat} {fm uv lv : Value} {sm su : Seg} {xu : List Value} (hm : PSm H gp z fm uv sm su xu) {p : List Fact × List Fact} (hp : z.stk.getLast? = some p) :
    Fn Tryz.prog 30 [.pointer (some ⟨gp, 0, none⟩)] w0 H ([(gp, .cells #[fm, .int .i64 (z.n : Int), uv, lv] 37 (0, 0))] :: sm :: su :: own)
      (fun r own' H' => ∃ fm' uv' sm' su' xu', r = .tuple #[.string (recU (z.n + 1 : Nat)), .int .i64 0] ∧ own' = [(gp, .cells #[fm', .int .i64 ((z.undo p.1 p.2).n : Int), uv', lv] 37 (0, 0))] :: sm' :: su' :: own ∧ PSm H' gp (z.undo p.1 p.2) fm' uv' sm' su' xu' ∧ Le H H') := by
  have h := proj_Undo (w0 := w0) (own := own) (lv := lv) hzo hn hm
  rw [rUnd_s hp] at h
  exact h
theorem proj_Undo0 {z : RS} (hzo : z.Ok) (hn : z.n ≤ 10000000) {w0 : World} {H : Hp} {own : List Seg} {gp : Nat} {fm uv lv : Value} {sm su : Seg} {xu : List Value} (hm : PSm H gp z fm uv sm su xu) (hp : z.stk.getLast? = none) :
    Fn Tryz.prog 30 [.pointer (some ⟨gp, 0, none⟩)] w0 H ([(gp, .cells #[fm, .int .i64 (z.n : Int), uv, lv] 37 (0, 0))] :: sm :: su :: own)
      (fun r own' H' => ∃ fm' uv' sm' su' xu', r = .tuple #[.string eS, .int .i64 101] ∧ own' = [(gp, .cells #[fm', .int .i64 (z.n : Int), uv', lv] 37 (0, 0))] :: sm' :: su' :: own ∧ PSm H' gp z fm' uv' sm' su' xu' ∧ Le H H') := by
  have h := proj_Undo (w0 := w0) (own := own) (lv := lv) hzo hn hm
  rw [rUnd_n hp] at h
  exact h
theorem proj_apply {z : RS} (hzo : z.Ok) (hn : z.n ≤ 10000000) {e : Ent} (he : e.pay.size ≤ 100000000) {w0 : World} {H : Hp} {own : List Seg} {gp : Nat} {fm uv lv : Value} {sm su : Seg} {xu : List Value} (hm : PSm H gp z fm uv sm su xu) :
    Fn Tryz.prog 34 [.pointer (some ⟨gp, 0, none⟩), entV e] w0 H ([(gp, .cells #[fm, .int .i64 (z.n : Int), uv, lv] 37 (0, 0))] :: sm :: su :: own)
      (fun r own' H' => ∃ fm' uv' sm' su' xu', r = .bool (applyE z e).isSome ∧ own' = [(gp, .cells #[fm', .int .i64 (((applyE z e).getD z).n : Int), uv', lv] 37 (0, 0))] :: sm' :: su' :: own ∧ PSm H' gp ((applyE z e).getD z) fm' uv' sm' su' xu' ∧ Le H H') := by
  obtain ⟨b, num, pl⟩ := e
  have hbl := b.toNat_lt; refine Fn.enter Tryz.func34 rfl Tryz.ntmps34 rfl ?_; have hL := Le.refl H; refine TC.seq ?_; refine TC.region ?_
  refine TL.box (c := #[_, _, _]) rfl rfl rfl ?_; intro g3; refine TL.assign rfl rfl ?_; refine TL.nil ?_; refine TQ.then_n ?_; refine TC.seq ?_; refine TC.seq ?_
  by_cases hnm : num ≠ (z.n : Int) + 1
  ·
   refine TC.drawQV 7  [(0, _), (1, _), (3, _), (4, _)] follows_mixed ⟨rfl, rfl, rfl, rfl, trivial⟩ ?_; refine ChainV.q (some 11) [] (fun _ _ _ _ hF => TL.fieldAddr rfl rfl (TL.one hF)) ?_
   refine ChainV.q (some 12) [(0, 0)] (by
    intro H' X F hle; have hL := Le.trans hL hle; intro hF; refine TL.load_own 0 0 rfl rfl rfl rfl rfl ?_
    exact TL.one hF) ?_
   refine ChainV.q (some 13) [] (fun _ _ _ _ hF => TL.move rfl rfl (TL.one hF)) ?_; refine ChainV.q (some 14) [(2, 0)] (fun _ _ _ _ hF => TL.nilCheck rfl rfl (TL.one hF)) ?_; refine ChainV.q (some 15) [(3, 0)] (fun _ _ _ _ hF => TL.fieldAddr rfl rfl (TL.one hF)) ?_
   refine ChainV.q (some 16) [(4, 0)] (by
    intro H' X F hle; have hL := Le.trans hL hle; intro hF; refine TL.load_own 1 0 rfl rfl rfl rfl rfl ?_
    exact TL.one hF) ?_
   refine ChainV.q (some 17) [(5, 0)] (fun _ _ _ _ hF => TL.add rfl rfl rfl ⟨by omega, by omega⟩ (TL.one hF)) ?_
   refine ⟨by kernel_rfl, .refl _, ?_⟩
   ·
    intro H1 hle; have hL := Le.trans hL hle; have hm := PSm.mono hle hm; refine TL.toOwn (own' := _ :: _ :: _ :: _ :: own) rfl ?_; refine TL.wk (env' := [(0, _), (1, _), (3, _), (4, _), (12, _), (17, _)]) ⟨rfl, rfl, rfl, rfl, rfl, rfl, trivial⟩ ?_; refine TL.neq rfl rfl rfl ?_
    rw [decide_eq_true hnm]
    refine TL.nil ?_; refine TQ.then_n ?_; refine TC.cond_t rfl ?_; refine TC.seq ?_; refine TC.region ?_; refine TL.assign rfl rfl ?_; refine TL.nil ?_; refine TQ.then_n ?_; refine TC.ret ?_; refine TQ.then_r ?_
    refine TQ.sel 4 [1, 2, 3] rfl (fun o ho => ?_)
    simp only [K.sel, List.map_cons, List.map_nil, List.getD_cons_zero, List.getD_cons_succ, List.drop_succ_cons, List.drop_zero, List.cons_append, List.nil_append, List.set_cons_zero, List.set_cons_succ] at ho; subst ho
    refine TQ.ret1 0 rfl rfl ?_
    first
      | (rw [apply_num hnm]; exact ⟨_, _, _, _, _, rfl, rfl, hm, hL⟩)
      | (rw [apply_C0 hnm hC hpn]; exact ⟨_, _, _, _, _, rfl, rfl, hm, hL⟩)
      | (rw [apply_C1 hnm hC hps hw0]; exact ⟨_, _, _, _, _, rfl, rfl, hm2, hL⟩)
      | (rw [apply_C2 hnm hC hps hw0]; exact ⟨_, _, _, _, _, rfl, rfl, hm2, hL⟩)
      | (rw [apply_U0 hnm hU (fun h => hU0 (size_nil h))]; exact ⟨_, _, _, _, _, rfl, rfl, hm, hL⟩)
      | (rw [apply_U1 hnm hU (show pl.size = 0 by rw [hU0]; rfl) hgl]; exact ⟨_, _, _, _, _, rfl, rfl, hm2, hL⟩)
      | (rw [apply_U2 hnm hU (show pl.size = 0 by rw [hU0]; rfl) hgl]; exact ⟨_, _, _, _, _, rfl, rfl, hm2, hL⟩)
      | (rw [apply_X hnm hC hU]; exact ⟨_, _, _, _, _, rfl, rfl, hm, hL⟩)
  ·
   refine TC.drawQV 7  [(0, _), (1, _), (3, _), (4, _)] follows_mixed ⟨rfl, rfl, rfl, rfl, trivial⟩ ?_; refine ChainV.q (some 11) [] (fun _ _ _ _ hF => TL.fieldAddr rfl rfl (TL.one hF)) ?_
   refine ChainV.q (some 12) [(0, 0)] (by
    intro H' X F hle; have hL := Le.trans hL hle; intro hF; refine TL.load_own 0 0 rfl rfl rfl rfl rfl ?_
    exact TL.one hF) ?_
   refine ChainV.q (some 13) [] (fun _ _ _ _ hF => TL.move rfl rfl (TL.one hF)) ?_; refine ChainV.q (some 14) [(2, 0)] (fun _ _ _ _ hF => TL.nilCheck rfl rfl (TL.one hF)) ?_; refine ChainV.q (some 15) [(3, 0)] (fun _ _ _ _ hF => TL.fieldAddr rfl rfl (TL.one hF)) ?_
   refine ChainV.q (some 16) [(4, 0)] (by
    intro H' X F hle; have hL := Le.trans hL hle; intro hF; refine TL.load_own 1 0 rfl rfl rfl rfl rfl ?_
    exact TL.one hF) ?_
   refine ChainV.q (some 17) [(5, 0)] (fun _ _ _ _ hF => TL.add rfl rfl rfl ⟨by omega, by omega⟩ (TL.one hF)) ?_
   refine ⟨by kernel_rfl, .refl _, ?_⟩
   ·
    intro H2 hle; have hL := Le.trans hL hle; have hm := PSm.mono hle hm; refine TL.toOwn (own' := _ :: _ :: _ :: _ :: own) rfl ?_; refine TL.wk (env' := [(0, _), (1, _), (3, _), (4, _), (12, _), (17, _)]) ⟨rfl, rfl, rfl, rfl, rfl, rfl, trivial⟩ ?_; refine TL.neq rfl rfl rfl ?_
    rw [decide_eq_false hnm]
    refine TL.nil ?_; refine TQ.then_n ?_; refine TC.cond_f rfl ?_; refine TC.skip ?_; refine TQ.then_n ?_; refine TC.seq ?_; refine TC.seq ?_; refine TC.region ?_; refine TL.fieldAddr rfl rfl ?_; refine TL.load_own 0 0 rfl rfl rfl rfl rfl ?_; refine TL.nil ?_; refine TQ.then_n ?_; refine TC.block ?_; refine TC.seq ?_; refine TC.region ?_
    refine TL.eqlB rfl rfl rfl (fun hC => ?_) (fun hC => ?_)
    ·
     replace hC : b = 67 := (kind_eq (n := 67) (by decide)).1 hC
     refine TL.assign rfl rfl ?_; refine TL.nil ?_; refine TQ.then_n ?_; refine TC.cond_t rfl ?_; refine TC.seq ?_; refine TC.region ?_; refine TL.fieldAddr rfl rfl ?_; refine TL.load_own 0 0 rfl rfl rfl rfl rfl ?_; refine TL.call (proj_parse (by omega)) ⟨rfl, trivial⟩ rfl ?_
     rintro r26 _ H26 ⟨rfl, hle26, hr26⟩
     rcases pparse_cases hr26 with ⟨hpn, rfl⟩ | ⟨l, v26, hps, hw0, rfl, hA⟩ | ⟨l, v26, hps, hw0, rfl, hA⟩
     ·
      have hL := Le.trans hL hle26; have hm := PSm.mono hle26 hm; have hK := 0; refine TL.move rfl rfl ?_; refine TL.extract rfl rfl rfl ?_; refine TL.extract rfl rfl rfl ?_; refine TL.assign rfl rfl ?_; refine TL.assign rfl rfl ?_; refine TL.nil ?_; refine TQ.then_n ?_; refine TC.seq ?_; refine TC.seq ?_; refine TC.region ?_; refine TL.move rfl rfl ?_; refine TL.not rfl rfl ?_; refine TL.nil ?_; refine TQ.then_n ?_; refine TC.cond_t rfl ?_; refine TC.seq ?_; refine TC.region ?_; refine TL.assign rfl rfl ?_; refine TL.nil ?_; refine TQ.then_n ?_; refine TC.ret ?_; refine TQ.then_r ?_; refine TQ.in_r ?_; refine TQ.then_r ?_
      refine TQ.sel 4 [1, 2, 3] rfl (fun o ho => ?_)
      simp only [K.sel, List.map_cons, List.map_nil, List.getD_cons_zero, List.getD_cons_succ, List.drop_succ_cons, List.drop_zero, List.cons_append, List.nil_append, List.set_cons_zero, List.set_cons_succ] at ho; subst ho
      refine TQ.ret1 0 rfl rfl ?_
      first
        | (rw [apply_num hnm]; exact ⟨_, _, _, _, _, rfl, rfl, hm, hL⟩)
        | (rw [apply_C0 hnm hC hpn]; exact ⟨_, _, _, _, _, rfl, rfl, hm, hL⟩)
        | (rw [apply_C1 hnm hC hps hw0]; exact ⟨_, _, _, _, _, rfl, rfl, hm2, hL⟩)
        | (rw [apply_C2 hnm hC hps hw0]; exact ⟨_, _, _, _, _, rfl, rfl, hm2, hL⟩)
        | (rw [apply_U0 hnm hU (fun h => hU0 (size_nil h))]; exact ⟨_, _, _, _, _, rfl, rfl, hm, hL⟩)
        | (rw [apply_U1 hnm hU (show pl.size = 0 by rw [hU0]; rfl) hgl]; exact ⟨_, _, _, _, _, rfl, rfl, hm2, hL⟩)
        | (rw [apply_U2 hnm hU (show pl.size = 0 by rw [hU0]; rfl) hgl]; exact ⟨_, _, _, _, _, rfl, rfl, hm2, hL⟩)
        | (rw [apply_X hnm hC hU]; exact ⟨_, _, _, _, _, rfl, rfl, hm, hL⟩)
     ·
      have hL := Le.trans hL hle26; have hm := PSm.mono hle26 hm; have hK := 1; refine TL.move rfl rfl ?_; refine TL.extract rfl rfl rfl ?_; refine TL.extract rfl rfl rfl ?_; refine TL.assign rfl rfl ?_; refine TL.assign rfl rfl ?_; refine TL.nil ?_; refine TQ.then_n ?_; refine TC.seq ?_; refine TC.seq ?_; refine TC.region ?_; refine TL.move rfl rfl ?_; refine TL.not rfl rfl ?_; refine TL.nil ?_; refine TQ.then_n ?_; refine TC.cond_f rfl ?_; refine TC.skip ?_; refine TQ.nsr ?_; refine TL.move rfl rfl ?_; refine TL.move rfl rfl ?_
      refine TL.sel 4 [1, 2, 3, 0] rfl (fun o ho => ?_)
      simp only [K.sel, List.map_cons, List.map_nil, List.getD_cons_zero, List.getD_cons_succ, List.drop_succ_cons, List.drop_zero, List.cons_append, List.nil_append, List.set_cons_zero, List.set_cons_succ] at ho; subst ho
      refine TL.call (proj_Commit1 hzo hn (pAll_fok _ (Nat.le_refl _) hps).1 hm hA hw0) ⟨rfl, rfl, trivial⟩ rfl ?_
      rintro _ _ H34 ⟨fm2, uv2, sm2, su2, xu2, rfl, rfl, hm2, hle34⟩
      have hL := Le.trans hL hle34; have hm := PSm.mono hle34 hm; refine TL.move rfl rfl ?_; refine TL.extract rfl rfl rfl ?_; refine TL.extract rfl rfl rfl ?_; refine TL.assign rfl rfl ?_; refine TL.assign rfl rfl ?_; refine TL.nsr ?_; refine TL.move rfl rfl ?_; refine TL.eql rfl rfl rfl ?_
      rw [decide_eq_true rfl]
      refine TL.assign rfl rfl ?_; refine TL.nil ?_; refine TQ.then_n ?_; refine TC.ret ?_; refine TQ.in_r ?_; refine TQ.then_r ?_
      refine TQ.sel 4 [0, 1, 2] rfl (fun o ho => ?_)
      simp only [K.sel, List.map_cons, List.map_nil, List.getD_cons_zero, List.getD_cons_succ, List.drop_succ_cons, List.drop_zero, List.cons_append, List.nil_append, List.set_cons_zero, List.set_cons_succ] at ho; subst ho
      refine TQ.ret1 0 rfl rfl ?_
      first
        | (rw [apply_num hnm]; exact ⟨_, _, _, _, _, rfl, rfl, hm, hL⟩)
        | (rw [apply_C0 hnm hC hpn]; exact ⟨_, _, _, _, _, rfl, rfl, hm, hL⟩)
        | (rw [apply_C1 hnm hC hps hw0]; exact ⟨_, _, _, _, _, rfl, rfl, hm2, hL⟩)
        | (rw [apply_C2 hnm hC hps hw0]; exact ⟨_, _, _, _, _, rfl, rfl, hm2, hL⟩)
        | (rw [apply_U0 hnm hU (fun h => hU0 (size_nil h))]; exact ⟨_, _, _, _, _, rfl, rfl, hm, hL⟩)
        | (rw [apply_U1 hnm hU (show pl.size = 0 by rw [hU0]; rfl) hgl]; exact ⟨_, _, _, _, _, rfl, rfl, hm2, hL⟩)
        | (rw [apply_U2 hnm hU (show pl.size = 0 by rw [hU0]; rfl) hgl]; exact ⟨_, _, _, _, _, rfl, rfl, hm2, hL⟩)
        | (rw [apply_X hnm hC hU]; exact ⟨_, _, _, _, _, rfl, rfl, hm, hL⟩)
     ·
      have hL := Le.trans hL hle26; have hm := PSm.mono hle26 hm; have hK := 2; refine TL.move rfl rfl ?_; refine TL.extract rfl rfl rfl ?_; refine TL.extract rfl rfl rfl ?_; refine TL.assign rfl rfl ?_; refine TL.assign rfl rfl ?_; refine TL.nil ?_; refine TQ.then_n ?_; refine TC.seq ?_; refine TC.seq ?_; refine TC.region ?_; refine TL.move rfl rfl ?_; refine TL.not rfl rfl ?_; refine TL.nil ?_; refine TQ.then_n ?_; refine TC.cond_f rfl ?_; refine TC.skip ?_; refine TQ.nsr ?_; refine TL.move rfl rfl ?_; refine TL.move rfl rfl ?_
      refine TL.sel 4 [1, 2, 3, 0] rfl (fun o ho => ?_)
      simp only [K.sel, List.map_cons, List.map_nil, List.getD_cons_zero, List.getD_cons_succ, List.drop_succ_cons, List.drop_zero, List.cons_append, List.nil_append, List.set_cons_zero, List.set_cons_succ] at ho; subst ho
      refine TL.call (proj_Commit0 hzo hn (pAll_fok _ (Nat.le_refl _) hps).1 hm hA hw0) ⟨rfl, rfl, trivial⟩ rfl ?_
      rintro _ _ H34 ⟨fm2, uv2, sm2, su2, xu2, rfl, rfl, hm2, hle34⟩
      have hL := Le.trans hL hle34; have hm := PSm.mono hle34 hm; refine TL.move rfl rfl ?_; refine TL.extract rfl rfl rfl ?_; refine TL.extract rfl rfl rfl ?_; refine TL.assign rfl rfl ?_; refine TL.assign rfl rfl ?_; refine TL.nsr ?_; refine TL.move rfl rfl ?_; refine TL.eql rfl rfl rfl ?_
      rw [decide_eq_false hw0]
      refine TL.assign rfl rfl ?_; refine TL.nil ?_; refine TQ.then_n ?_; refine TC.ret ?_; refine TQ.in_r ?_; refine TQ.then_r ?_
      refine TQ.sel 4 [0, 1, 2] rfl (fun o ho => ?_)
      simp only [K.sel, List.map_cons, List.map_nil, List.getD_cons_zero, List.getD_cons_succ, List.drop_succ_cons, List.drop_zero, List.cons_append, List.nil_append, List.set_cons_zero, List.set_cons_succ] at ho; subst ho
      refine TQ.ret1 0 rfl rfl ?_
      first
        | (rw [apply_num hnm]; exact ⟨_, _, _, _, _, rfl, rfl, hm, hL⟩)
        | (rw [apply_C0 hnm hC hpn]; exact ⟨_, _, _, _, _, rfl, rfl, hm, hL⟩)
        | (rw [apply_C1 hnm hC hps hw0]; exact ⟨_, _, _, _, _, rfl, rfl, hm2, hL⟩)
        | (rw [apply_C2 hnm hC hps hw0]; exact ⟨_, _, _, _, _, rfl, rfl, hm2, hL⟩)
        | (rw [apply_U0 hnm hU (fun h => hU0 (size_nil h))]; exact ⟨_, _, _, _, _, rfl, rfl, hm, hL⟩)
        | (rw [apply_U1 hnm hU (show pl.size = 0 by rw [hU0]; rfl) hgl]; exact ⟨_, _, _, _, _, rfl, rfl, hm2, hL⟩)
        | (rw [apply_U2 hnm hU (show pl.size = 0 by rw [hU0]; rfl) hgl]; exact ⟨_, _, _, _, _, rfl, rfl, hm2, hL⟩)
        | (rw [apply_X hnm hC hU]; exact ⟨_, _, _, _, _, rfl, rfl, hm, hL⟩)
    ·
     replace hC : b ≠ 67 := fun h => hC ((kind_eq (n := 67) (by decide)).2 h)
     refine TL.assign rfl rfl ?_; refine TL.nil ?_; refine TQ.then_n ?_; refine TC.cond_f rfl ?_; refine TC.seq ?_; refine TC.region ?_
     refine TL.eqlB rfl rfl rfl (fun hU => ?_) (fun hU => ?_)
     ·
      replace hU : b = 85 := (kind_eq (n := 85) (by decide)).1 hU
      refine TL.assign rfl rfl ?_; refine TL.nil ?_; refine TQ.then_n ?_; refine TC.cond_t rfl ?_; refine TC.seq ?_; refine TC.seq ?_; refine TC.region ?_; refine TL.fieldAddr rfl rfl ?_; refine TL.load_own 0 0 rfl rfl rfl rfl rfl ?_
      refine TL.neqSB rfl rfl rfl (fun hU0 => ?_) (fun hU0 => ?_)
      ·
       refine TL.nil ?_; refine TQ.then_n ?_; refine TC.cond_t rfl ?_; refine TC.seq ?_; refine TC.region ?_; refine TL.assign rfl rfl ?_; refine TL.nil ?_; refine TQ.then_n ?_; refine TC.ret ?_; refine TQ.then_r ?_; refine TQ.in_r ?_; refine TQ.then_r ?_
       refine TQ.sel 4 [1, 2, 3] rfl (fun o ho => ?_)
       simp only [K.sel, List.map_cons, List.map_nil, List.getD_cons_zero, List.getD_cons_succ, List.drop_succ_cons, List.drop_zero, List.cons_append, List.nil_append, List.set_cons_zero, List.set_cons_succ] at ho; subst ho
       refine TQ.ret1 0 rfl rfl ?_
       first
         | (rw [apply_num hnm]; exact ⟨_, _, _, _, _, rfl, rfl, hm, hL⟩)
         | (rw [apply_C0 hnm hC hpn]; exact ⟨_, _, _, _, _, rfl, rfl, hm, hL⟩)
         | (rw [apply_C1 hnm hC hps hw0]; exact ⟨_, _, _, _, _, rfl, rfl, hm2, hL⟩)
         | (rw [apply_C2 hnm hC hps hw0]; exact ⟨_, _, _, _, _, rfl, rfl, hm2, hL⟩)
         | (rw [apply_U0 hnm hU (fun h => hU0 (size_nil h))]; exact ⟨_, _, _, _, _, rfl, rfl, hm, hL⟩)
         | (rw [apply_U1 hnm hU (show pl.size = 0 by rw [hU0]; rfl) hgl]; exact ⟨_, _, _, _, _, rfl, rfl, hm2, hL⟩)
         | (rw [apply_U2 hnm hU (show pl.size = 0 by rw [hU0]; rfl) hgl]; exact ⟨_, _, _, _, _, rfl, rfl, hm2, hL⟩)
         | (rw [apply_X hnm hC hU]; exact ⟨_, _, _, _, _, rfl, rfl, hm, hL⟩)
      ·
       replace hU0 : pl = ⟨#[]⟩ := hU0
       refine TL.nil ?_; refine TQ.then_n ?_; refine TC.cond_f rfl ?_; refine TC.skip ?_; refine TQ.then_n ?_; refine TC.seq ?_
       rcases hgl : z.stk.getLast? with _ | p
       ·
        refine TC.region ?_; refine TL.move rfl rfl ?_
        refine TL.sel 4 [1, 2, 3, 0] rfl (fun o ho => ?_)
        simp only [K.sel, List.map_cons, List.map_nil, List.getD_cons_zero, List.getD_cons_succ, List.drop_succ_cons, List.drop_zero, List.cons_append, List.nil_append, List.set_cons_zero, List.set_cons_succ] at ho; subst ho
        refine TL.call (proj_Undo0 hzo hn hm hgl) ⟨rfl, trivial⟩ rfl ?_
        rintro _ _ H46 ⟨fm2, uv2, sm2, su2, xu2, rfl, rfl, hm2, hle46⟩
        have hL := Le.trans hL hle46; have hm := PSm.mono hle46 hm; refine TL.move rfl rfl ?_; refine TL.extract rfl rfl rfl ?_; refine TL.extract rfl rfl rfl ?_; refine TL.assign rfl rfl ?_; refine TL.assign rfl rfl ?_; refine TL.nsr ?_; refine TL.move rfl rfl ?_; refine TL.eql rfl rfl rfl ?_
        rw [decide_eq_false (by decide)]
        refine TL.assign rfl rfl ?_; refine TL.nil ?_; refine TQ.then_n ?_; refine TC.ret ?_; refine TQ.in_r ?_; refine TQ.then_r ?_
        refine TQ.sel 4 [0, 1, 2] rfl (fun o ho => ?_)
        simp only [K.sel, List.map_cons, List.map_nil, List.getD_cons_zero, List.getD_cons_succ, List.drop_succ_cons, List.drop_zero, List.cons_append, List.nil_append, List.set_cons_zero, List.set_cons_succ] at ho; subst ho
        refine TQ.ret1 0 rfl rfl ?_
        first
          | (rw [apply_num hnm]; exact ⟨_, _, _, _, _, rfl, rfl, hm, hL⟩)
          | (rw [apply_C0 hnm hC hpn]; exact ⟨_, _, _, _, _, rfl, rfl, hm, hL⟩)
          | (rw [apply_C1 hnm hC hps hw0]; exact ⟨_, _, _, _, _, rfl, rfl, hm2, hL⟩)
          | (rw [apply_C2 hnm hC hps hw0]; exact ⟨_, _, _, _, _, rfl, rfl, hm2, hL⟩)
          | (rw [apply_U0 hnm hU (fun h => hU0 (size_nil h))]; exact ⟨_, _, _, _, _, rfl, rfl, hm, hL⟩)
          | (rw [apply_U1 hnm hU (show pl.size = 0 by rw [hU0]; rfl) hgl]; exact ⟨_, _, _, _, _, rfl, rfl, hm2, hL⟩)
          | (rw [apply_U2 hnm hU (show pl.size = 0 by rw [hU0]; rfl) hgl]; exact ⟨_, _, _, _, _, rfl, rfl, hm2, hL⟩)
          | (rw [apply_X hnm hC hU]; exact ⟨_, _, _, _, _, rfl, rfl, hm, hL⟩)
       ·
        refine TC.region ?_; refine TL.move rfl rfl ?_
        refine TL.sel 4 [1, 2, 3, 0] rfl (fun o ho => ?_)
        simp only [K.sel, List.map_cons, List.map_nil, List.getD_cons_zero, List.getD_cons_succ, List.drop_succ_cons, List.drop_zero, List.cons_append, List.nil_append, List.set_cons_zero, List.set_cons_succ] at ho; subst ho
        refine TL.call (proj_Undo1 hzo hn hm hgl) ⟨rfl, trivial⟩ rfl ?_
        rintro _ _ H46 ⟨fm2, uv2, sm2, su2, xu2, rfl, rfl, hm2, hle46⟩
        have hL := Le.trans hL hle46; have hm := PSm.mono hle46 hm; refine TL.move rfl rfl ?_; refine TL.extract rfl rfl rfl ?_; refine TL.extract rfl rfl rfl ?_; refine TL.assign rfl rfl ?_; refine TL.assign rfl rfl ?_; refine TL.nsr ?_; refine TL.move rfl rfl ?_; refine TL.eql rfl rfl rfl ?_
        rw [decide_eq_true (by decide)]
        refine TL.assign rfl rfl ?_; refine TL.nil ?_; refine TQ.then_n ?_; refine TC.ret ?_; refine TQ.in_r ?_; refine TQ.then_r ?_
        refine TQ.sel 4 [0, 1, 2] rfl (fun o ho => ?_)
        simp only [K.sel, List.map_cons, List.map_nil, List.getD_cons_zero, List.getD_cons_succ, List.drop_succ_cons, List.drop_zero, List.cons_append, List.nil_append, List.set_cons_zero, List.set_cons_succ] at ho; subst ho
        refine TQ.ret1 0 rfl rfl ?_
        first
          | (rw [apply_num hnm]; exact ⟨_, _, _, _, _, rfl, rfl, hm, hL⟩)
          | (rw [apply_C0 hnm hC hpn]; exact ⟨_, _, _, _, _, rfl, rfl, hm, hL⟩)
          | (rw [apply_C1 hnm hC hps hw0]; exact ⟨_, _, _, _, _, rfl, rfl, hm2, hL⟩)
          | (rw [apply_C2 hnm hC hps hw0]; exact ⟨_, _, _, _, _, rfl, rfl, hm2, hL⟩)
          | (rw [apply_U0 hnm hU (fun h => hU0 (size_nil h))]; exact ⟨_, _, _, _, _, rfl, rfl, hm, hL⟩)
          | (rw [apply_U1 hnm hU (show pl.size = 0 by rw [hU0]; rfl) hgl]; exact ⟨_, _, _, _, _, rfl, rfl, hm2, hL⟩)
          | (rw [apply_U2 hnm hU (show pl.size = 0 by rw [hU0]; rfl) hgl]; exact ⟨_, _, _, _, _, rfl, rfl, hm2, hL⟩)
          | (rw [apply_X hnm hC hU]; exact ⟨_, _, _, _, _, rfl, rfl, hm, hL⟩)
     ·
      replace hU : b ≠ 85 := fun h => hU ((kind_eq (n := 85) (by decide)).2 h)
      refine TL.assign rfl rfl ?_; refine TL.nil ?_; refine TQ.then_n ?_; refine TC.cond_f rfl ?_; refine TC.skip ?_; refine TQ.in_n ?_; refine TQ.nsr ?_; refine TL.assign rfl rfl ?_; refine TL.nil ?_; refine TQ.then_n ?_; refine TC.ret ?_
      refine TQ.sel 4 [1, 2, 3] rfl (fun o ho => ?_)
      simp only [K.sel, List.map_cons, List.map_nil, List.getD_cons_zero, List.getD_cons_succ, List.drop_succ_cons, List.drop_zero, List.cons_append, List.nil_append, List.set_cons_zero, List.set_cons_succ] at ho; subst ho
      refine TQ.ret1 0 rfl rfl ?_
      first
        | (rw [apply_num hnm]; exact ⟨_, _, _, _, _, rfl, rfl, hm, hL⟩)
        | (rw [apply_C0 hnm hC hpn]; exact ⟨_, _, _, _, _, rfl, rfl, hm, hL⟩)
        | (rw [apply_C1 hnm hC hps hw0]; exact ⟨_, _, _, _, _, rfl, rfl, hm2, hL⟩)
        | (rw [apply_C2 hnm hC hps hw0]; exact ⟨_, _, _, _, _, rfl, rfl, hm2, hL⟩)
        | (rw [apply_U0 hnm hU (fun h => hU0 (size_nil h))]; exact ⟨_, _, _, _, _, rfl, rfl, hm, hL⟩)
        | (rw [apply_U1 hnm hU (show pl.size = 0 by rw [hU0]; rfl) hgl]; exact ⟨_, _, _, _, _, rfl, rfl, hm2, hL⟩)
        | (rw [apply_U2 hnm hU (show pl.size = 0 by rw [hU0]; rfl) hgl]; exact ⟨_, _, _, _, _, rfl, rfl, hm2, hL⟩)
        | (rw [apply_X hnm hC hU]; exact ⟨_, _, _, _, _, rfl, rfl, hm, hL⟩)


end Go.Proofs.YteeamfkhkbfilaaGreat.K

namespace Go.Proofs.YteeamfkhkbfilaaGreat.K
open Go Go.RowKit Go.Proofs

/-- The post of such a region, told of frames without the mark. -/
def PostD (ds : List Deferred) (Q : Exit → Act → World → Prop) : Exit → Act → World → Prop := fun e a w => e = .normal ∧ a.defers = [] ∧ Q .normal (dsA ds a) w
def plainOp (o : Oper) : Bool := match o.op with | .load _ _ => true | .assign _ => true | .move _ => true | _ => false
section
variable {ds : List Deferred} {P : Program} {w0 : World} {N : Nat} {Q : Exit → Act → World → Prop} {env : Env} {own : List Seg} {H : Hp} {l : List Oper} {ops : Array Oper}
theorem put_defers (a : Act) (d : Option Tmp) (v : Value) : (a.put d v).defers = a.defers := by cases d <;> rfl
theorem plain_value {o : Oper} (hp : plainOp o = true) (ev : Operand → Value) (w : World) : ∀ nx w', (execOp ev o).run P w = .ok nx w' → ∃ v, nx = .value v := by
  intro nx w' h
  unfold plainOp at hp
  split at hp
  · rename_i t x ho
    simp only [execOp, ho, Sem.run_bind] at h
    cases hr : (Instr.loadAt t (ev x)).run P w with
    | ok v w2 => simp [hr, Result.andThen] at h; exact ⟨v, h.1.symm⟩
    | halt a b => simp [hr, Result.andThen] at h
  · rename_i x ho
    simp [execOp, ho] at h
    exact ⟨_, h.1.symm⟩
  · rename_i x ho
    simp [execOp, ho] at h
    exact ⟨_, h.1.symm⟩
  · cases hp
theorem wpOp_ds {i : Nat} {a : Act} {w : World} {K K' : Act → World → Prop} (hpl : ∀ o, ops[i]? = some o → plainOp o = true) (ha : a.defers = []) (hK : ∀ a w, a.defers = [] → K a w → K' (dsA ds a) w) (h : wpOp P ops (PostD ds Q) i K a w) : wpOpIn (Fr none) 1 P ops Q i K' (dsA ds a) w := by
  unfold wpOp at h
  unfold wpOpIn
  split
  · rename_i ho
    simp only [ho] at h
    exact hK _ _ ha h
  · rename_i o ho
    simp only [ho] at h
    have hp := hpl o ho
    have hnd : ∀ c, o.op ≠ .defer c := fun c hc => by
      unfold plainOp at hp
      rw [hc] at hp
      cases hp
    have hy : yielded ops (dsA ds a).tmps = yielded ops a.tmps := rfl
    rw [hy]
    split
    · rename_i hw
      simp only [hw, if_true] at h
      refine ⟨fun f _ => Fr.fn none f, ?_⟩
      rw [Fr.rnd, Oper.semAt_eq _ _ _ hnd, dsA_eval]
      rcases h with h | ⟨_, _, _, h⟩
      · unfold Oper.wp at h
        cases hr : (execOp a.eval o).run P w with
        | ok nx w' =>
          obtain ⟨v, rfl⟩ := plain_value hp _ _ _ _ hr
          rw [hr] at h
          rw [Oper.uponIn_value, dsA_put]
          exact hK _ _ (by rw [put_defers]; exact ha) h
        | halt h' w' =>
          rw [hr] at h
          cases h' with
          | panic v => exact nomatch h.1
          | _ => exact h.elim
      · exact nomatch h.1
    · rename_i hw
      simp only [hw] at h
      refine ⟨fun f _ => Fr.fn none f, ?_⟩
      rw [dsA_put]
      exact hK _ _ (by rw [put_defers]; exact ha) h
theorem wpAnyIn_ds (hpl : ∀ (i : Nat) o, ops[i]? = some o → plainOp o = true) : ∀ (f : Nat) (listed : Array Bool) (a : Act) (w : World), a.defers = [] → wpAny P .any ops (PostD ds Q) f listed a w → wpAnyIn (Fr none) 1 P .any ops Q f listed (dsA ds a) w
  | 0, _, _, _, _, h => ⟨h.1, h.2.2.2⟩
  | f + 1, _, _, _, ha, h => ⟨fun h0 => (h.1 h0).2.2, fun i hi => wpOp_ds (hpl i) ha (fun a w ha h => wpAnyIn_ds hpl f _ a w ha h) (h.2 i hi)⟩
theorem TCX.drawQX {id : Nat} (n : Nat) (env' : Env) (hm : P.follows .mixedOrders = true) (henv : SubL env' env) (hpl : (l.all plainOp) = true) (h : ChainV false P w0 N (PostD ds Q) l env' own own H n [] l) : TCX none ds P w0 N Q (.region id l.toArray true) env own H := fun a w ha hw => by
  refine wpIn_region_any hm (wpAnyIn_ds (fun i o ho => ?_) _ _ _ _ ha.defers (DrawA.of (x := false) (fun h => nomatch h) n own env' hm henv h a w ha hw))
  exact List.all_eq_true.1 hpl o (List.mem_of_getElem? (by simpa using ho))
theorem TQX.goD (h : TQX ds w0 N Q .normal env own H) : TQ w0 N (PostD ds Q) .normal env own H := fun a w ha hw => ⟨rfl, ha.defers, h a w ha hw⟩
end
end Go.Proofs.YteeamfkhkbfilaaGreat.K

namespace Go.Proofs.YteeamfkhkbfilaaGreat.K
open Go Go.RowKit Go.Proofs

/-- All records of a list are carried out. -/
inductive Runs : RS → Nat → List (Ent × Nat) → RS → Nat → Prop
  | nil (z : RS) (a : Nat) : Runs z a [] z a
  | snoc {z z1 z2 : RS} {a a1 : Nat} {pre : List (Ent × Nat)} {x : Ent × Nat} : Runs z a pre z1 a1 → applyE z1 x.1 = some z2 → Runs z a (pre ++ [x]) z2 x.2
theorem Runs.run {z z1 : RS} {a a1 : Nat} {pre : List (Ent × Nat)} (h : Runs z a pre z1 a1) : ∀ r, runL z a (pre ++ r) = runL z1 a1 r := by
  induction h with
  | nil => intro r; rfl
  | snoc h1 h2 ih =>
    intro r
    rw [List.append_assoc, ih, List.singleton_append]
    exact runL_some h2
def endOf (a : Nat) (pre : List (Ent × Nat)) : Nat := (pre.getLast?.map (·.2)).getD a
theorem Runs.end_ {z z1 : RS} {a a1 : Nat} {pre : List (Ent × Nat)} (h : Runs z a pre z1 a1) : a1 = endOf a pre := by
  cases h with
  | nil => rfl
  | snoc h1 h2 => simp [endOf]
theorem recs_app {s : ByteArray} : ∀ (pre : List (Ent × Nat)) {a : Nat} {r : List (Ent × Nat)}, recs s a = pre ++ r → recs s (endOf a pre) = r
  | [], a, r, h => by simpa [endOf] using h
  | x :: p, a, r, h => by
    cases hr : rec? (from_ s a) with
    | none => rw [recs_none hr] at h; cases h
    | some e =>
      rw [recs_some hr] at h
      simp only [List.cons_append, List.cons.injEq] at h
      have h2 := recs_app p h.2
      have : endOf a (x :: p) = endOf (a + (11 + e.pay.size)) p := by
        cases p with
        | nil => rw [← h.1]; rfl
        | cons y t =>
          unfold endOf
          rw [List.getLast?_cons_cons, List.getLast?_cons]; rfl
      rw [this]; exact h2
theorem recs_head {s : ByteArray} {a : Nat} {x : Ent × Nat} {r : List (Ent × Nat)} (h : recs s a = x :: r) (ha : a ≤ s.size) : rec? (from_ s a) = some x.1 ∧ x.2 = a + (11 + x.1.pay.size) ∧ x.2 ≤ s.size ∧ x.1.pay.size ≤ s.size := by
  cases hr : rec? (from_ s a) with
  | none => rw [recs_none hr] at h; cases h
  | some e =>
    rw [recs_some hr] at h
    simp only [List.cons.injEq] at h
    obtain ⟨rfl, _⟩ := h
    have h1 := (rec_size hr).1
    rw [ext_size _ _ _ (Nat.le_refl _)] at h1
    exact ⟨rfl, rfl, by show a + (11 + e.pay.size) ≤ _; omega, by show e.pay.size ≤ _; omega⟩
theorem open_run {s : ByteArray} {z : RS} {a : Nat} {pre r : List (Ent × Nat)} (h : Runs RS.init 0 pre z a) (hs : recs s 0 = pre ++ r) : openP s = runL z a r := by
  unfold openP; rw [hs, h.run]
theorem proj_Open {s : ByteArray} (hs : s.size ≤ 100000000) {w0 : World} {H : Hp} {own : List Seg} :
    Fn Tryz.prog 13 [.string s] w0 H own (fun r own' H' => ∃ gp fm uv sm su xu, r = .tuple #[.pointer (some ⟨gp, 0, none⟩), .int .i64 ((openP s).2 : Int)] ∧ own' = [(gp, .cells #[fm, .int .i64 ((openP s).1.n : Int), uv, .slice none 0 0] 37 (0, 0))] :: sm :: su :: own ∧ PSm H' gp (openP s).1 fm uv sm su xu ∧ Le H H') := by
  refine Fn.enterX Tryz.func13 rfl Tryz.ntmps13 rfl ?_
  refine TCX.seq ?_; refine TCX.region ?_
  refine TLX.step rfl (TL.assign rfl rfl (TL.nil (TQX.go ?_)))
  refine TLX.step rfl (TL.assign rfl rfl (TL.nil (TQX.go ?_)))
  refine TLX.nil ?_; refine TQX.then_n ?_
  refine TCX.seq ?_; refine TCX.region ?_
  refine TLX.step rfl (TL.struct [] trivial rfl rfl (TL.nil (TQX.go ?_)))
  refine TLX.step rfl (TL.box (c := #[_, _, _, _]) rfl rfl rfl (fun g9 => TL.nil (TQX.go ?_)))
  refine TLX.step rfl (TL.new rfl (fun g4 => TL.nil (TQX.go ?_)))
  refine TLX.step rfl (TL.new rfl (fun g5 => TL.nil (TQX.go ?_)))
  refine TLX.step rfl (TL.store1 1 0 (c' := #[_]) (own' := _ :: [(_, .cells #[_] _ _)] :: _) rfl rfl rfl rfl rfl (by simp) rfl rfl rfl (TL.nil (TQX.go ?_)))
  refine TLX.step rfl (TL.store1 0 0 (c' := #[_]) (own' := [(_, .cells #[_] _ _)] :: _) rfl rfl rfl rfl rfl (by simp) rfl rfl rfl (TL.nil (TQX.go ?_)))
  refine TLX.nil ?_; refine TQX.then_n ?_
  refine TCX.seq ?_; refine TCX.seq ?_; refine TCX.region ?_
  refine TLX.step rfl (TL.move rfl rfl (TL.nil (TQX.go ?_)))
  refine TLX.step rfl (TL.call proj_records ⟨rfl, trivial⟩ rfl ?_)
  rintro _ _ H11 ⟨g, rfl, rfl, hle11⟩
  refine TL.freeze (fun H2 hle12 hz2 => ?_)
  have hle2 := hle11.trans hle12
  refine TL.nil (TQX.go ?_)
  refine TLX.nil ?_; refine TQX.then_n ?_
  refine TCX.block ?_
  refine TCX.flat (own' := [(g5, .cells #[.int .i64 0] 3 (0, 0))] :: [(g4, .cells #[.pointer (some ⟨g9, 0, none⟩)] 32 (0, 0))] :: [(g9, .cells #[.map none, .int .i64 0, .slice none 0 0, .slice none 0 0] 37 (0, 0))] :: [] :: [] :: own) (.refl _) ?_
  refine TCX.rangeFunc rfl (recs_iter hs (cel_one hz2)) (fun _ => rfl) rfl
    (fun pre own1 H1 => ∃ z a fm uv sm su xu, Runs RS.init 0 pre z a ∧ z.Ok ∧ z.n * 11 ≤ a ∧ a ≤ s.size ∧ PSm H1 g9 z fm uv sm su xu ∧ own1 = [(g5, .cells #[.int .i64 ((a : Nat) : Int)] 3 (0, 0))] :: [(g4, .cells #[.pointer (some ⟨g9, 0, none⟩)] 32 (0, 0))] :: [(g9, .cells #[fm, .int .i64 ((z.n : Nat) : Int), uv, .slice none 0 0] 37 (0, 0))] :: sm :: su :: own)
    (fun c pre own1 H1 => c = .exit 0 ∧ ∃ fm uv sm su xu, PSm H1 g9 (openP s).1 fm uv sm su xu ∧ own1 = [(g5, .cells #[.int .i64 (((openP s).2 : Nat) : Int)] 3 (0, 0))] :: [(g4, .cells #[.pointer (some ⟨g9, 0, none⟩)] 32 (0, 0))] :: [(g9, .cells #[fm, .int .i64 (((openP s).1.n : Nat) : Int), uv, .slice none 0 0] 37 (0, 0))] :: sm :: su :: own) ?_ ?_ ?_ ?_
  · exact ⟨RS.init, 0, _, _, [], [], [], .nil _ _, RS.init_ok, Nat.zero_le _, Nat.zero_le _, ⟨PMap.nil _, Row.nil _ 1, trivial⟩, rfl⟩
  · rintro l D fn tmps mine pre x own1 H1 QB Kb hle1 ⟨z, a, fm, uv, sm, su, xu, hruns, hzo, hzn, ha, hm, rfl⟩ ⟨r, hsp⟩ hRE hbody
    have hsp2 : recs s 0 = pre ++ x :: r := by rw [hsp, List.append_assoc]; rfl
    have hrec : recs s a = x :: r := by have := recs_app pre hsp2; rwa [← hruns.end_] at this
    obtain ⟨hx1, hx2, hx3, hx4⟩ := recs_head hrec ha
    have hop := open_run hruns hsp2
    refine TCX.seq ?_; refine TCX.region ?_
    refine TLX.step rfl (TL.new rfl (fun g6 => TL.nil (TQX.go ?_)))
    refine TLX.step rfl (TL.storeA 0 0 (c' := #[_, _, _]) (own' := [(_, .cells #[_, _, _] _ _)] :: _) rfl rfl rfl rfl rfl ⟨rfl, rfl, rfl, trivial⟩ (Nat.le_refl 3) rfl rfl rfl (TL.nil (TQX.go ?_)))
    refine TLX.nil ?_; refine TQX.then_n ?_
    refine TCX.region ?_
    refine TLX.step rfl (TL.assign rfl rfl (TL.nil (TQX.go ?_)))
    refine TLX.nil ?_
    refine TQX.flat swap_flat ?_
    refine hbody _ _ _ ?_
    refine TCX.block ?_; refine TCX.seq ?_; refine TCX.seq ?_; refine TCX.region ?_
    refine TLX.step rfl (TL.load_own 3 0 rfl rfl rfl rfl rfl (TL.nil (TQX.go ?_)))
    refine TLX.step rfl (TL.load_ownA 1 0 [_, _, _] rfl rfl rfl ⟨rfl, rfl, rfl, trivial⟩ rfl rfl (TL.nil (TQX.go ?_)))
    refine TLX.step rfl ?_
    refine TL.sel 7 [4, 5, 6, 0, 1, 2, 3] rfl (fun o ho => ?_)
    simp only [K.sel, List.map_cons, List.map_nil, List.getD_cons_zero, List.getD_cons_succ, List.drop_succ_cons, List.drop_zero, List.cons_append, List.nil_append, List.set_cons_zero, List.set_cons_succ] at ho; subst ho
    refine TL.call (proj_apply hzo (by omega) (e := x.1) (by omega) hm) ⟨rfl, rfl, trivial⟩ rfl ?_
    rintro _ _ H16 ⟨fm2, uv2, sm2, su2, xu2, rfl, rfl, hm2, hle16⟩
    refine TL.nil (TQX.go ?_)
    refine TLX.step rfl (TL.not rfl rfl (TL.nil (TQX.go ?_)))
    refine TLX.nil ?_; refine TQX.then_n ?_
    generalize happ : applyE z x.1 = oa at hm2 ⊢
    cases oa with
    | none =>
      refine TCX.cond_t rfl ?_
      refine TCX.exit ?_
      refine TQX.then_e ?_
      refine TQX.in_o rfl ?_
      refine TQX.ofQ ?_
      refine TQ.sel 7 [3, 5, 6, 0, 1, 2] rfl (fun o ho => ?_)
      simp only [K.sel, List.map_cons, List.map_nil, List.getD_cons_zero, List.getD_cons_succ, List.drop_succ_cons, List.drop_zero, List.cons_append, List.nil_append, List.set_cons_zero, List.set_cons_succ] at ho; subst ho
      intro a w ha hw
      rw [runL_none happ] at hop
      exact hRE.e a w (_ :: _ :: _ :: _ :: _ :: own) _ 0 ⟨hle16, rfl, _, _, _, _, _, by rw [hop]; exact hm2, by rw [hop]; rfl⟩ hw
    | some z2 =>
      have hok := applyE_ok hzo (by omega) (fun l hl => (pAll_fok _ (Nat.le_refl _) hl).1) happ
      refine TCX.cond_f rfl ?_
      refine TCX.skip ?_
      refine TQX.then_n ?_
      refine TCX.region ?_
      refine TLX.step rfl (TL.move rfl rfl (TL.nil (TQX.go ?_)))
      refine TLX.step rfl (TL.store1 5 0 (c' := #[_]) (own' := _ :: _ :: _ :: _ :: _ :: [(_, .cells #[_] _ _)] :: _) rfl rfl rfl rfl rfl (by simp) rfl rfl rfl (TL.nil (TQX.go ?_)))
      refine TLX.nil ?_
      refine TQX.in_n ?_
      refine TQX.ofQ ?_
      refine TQ.sel 7 [3, 5, 6, 0, 1, 2] rfl (fun o ho => ?_)
      simp only [K.sel, List.map_cons, List.map_nil, List.getD_cons_zero, List.getD_cons_succ, List.drop_succ_cons, List.drop_zero, List.cons_append, List.nil_append, List.set_cons_zero, List.set_cons_succ] at ho; subst ho
      intro a w ha hw
      exact hRE.n a w (_ :: _ :: _ :: _ :: _ :: own) _ ⟨hle16, z2, x.2, _, _, _, _, _, hruns.snoc happ, hok.1, by have := hok.2; omega, hx3, hm2, rfl⟩ hw
  · rintro l D r xs own1 H1 hle1 rfl ⟨z, a, fm, uv, sm, su, xu, hruns, hzo, hzn, ha, hm, rfl⟩
    have hop : openP s = (z, a) := by have := open_run (s := s) (r := []) hruns (by simp); rw [this]; rfl
    rw [hop]
    refine TQX.in_n ?_
    refine TQX.then_n ?_
    refine TCX.seq ?_
    refine TCX.drawQX 4 [(4, _), (5, _)] follows_mixed ⟨rfl, rfl, trivial⟩ rfl ?_
    refine ChainV.q (some 19) [] (by
      intro H' X F hle
      intro hF
      refine TL.load_own 2 0 rfl rfl rfl rfl rfl ?_
      refine TL.nil ?_
      exact TQ.one [] hF (Le.refl _) ⟨rfl, rfl⟩) ?_
    refine ChainV.q (some 20) [] (by
      intro H' X F hle
      intro hF
      refine TL.load_own 1 0 rfl rfl rfl rfl rfl ?_
      refine TL.nil ?_
      exact TQ.one [] hF (Le.refl _) ⟨rfl, rfl⟩) ?_
    refine ChainV.q (some 2) [(0, 1)] (by
      intro H' X F hle
      intro hF
      refine TL.assign rfl rfl ?_
      refine TL.nil ?_
      exact TQ.one [] hF (Le.refl _) ⟨rfl, rfl⟩) ?_
    refine ChainV.q (some 3) [(1, 1)] (by
      intro H' X F hle
      intro hF
      refine TL.assign rfl rfl ?_
      refine TL.nil ?_
      exact TQ.one [] hF (Le.refl _) ⟨rfl, rfl⟩) ?_
    refine ⟨by kernel_rfl, .refl _, ?_⟩
    intro H9 hle9
    refine TL.toOwn (own' := loopSeg l D r :: [(g5, .cells #[.int .i64 ((a : Nat) : Int)] 3 (0, 0))] :: [(g4, .cells #[.pointer (some ⟨g9, 0, none⟩)] 32 (0, 0))] :: [(g9, .cells #[fm, .int .i64 ((z.n : Nat) : Int), uv, .slice none 0 0] 37 (0, 0))] :: sm :: su :: own) rfl ?_
    refine TL.nil ?_
    refine TQX.goD ?_
    refine TQX.then_n ?_
    refine TCX.ret ?_
    refine TQX.ret2 2 rfl rfl rfl rfl ?_
    exact ⟨g9, _, _, _, _, _, rfl, rfl, hm.mono hle9, (hle2.trans hle1).trans hle9⟩
  · rintro l D r c pre own1 H1 hle1 _ ⟨rfl, fm, uv, sm, su, xu, hm, rfl⟩
    refine TCX.exit ?_
    refine TQX.in_e ?_
    refine TQX.then_n ?_
    refine TCX.seq ?_
    refine TCX.drawQX 4 [(4, _), (5, _)] follows_mixed ⟨rfl, rfl, trivial⟩ rfl ?_
    refine ChainV.q (some 19) [] (by
      intro H' X F hle
      intro hF
      refine TL.load_own 2 0 rfl rfl rfl rfl rfl ?_
      refine TL.nil ?_
      exact TQ.one [] hF (Le.refl _) ⟨rfl, rfl⟩) ?_
    refine ChainV.q (some 20) [] (by
      intro H' X F hle
      intro hF
      refine TL.load_own 1 0 rfl rfl rfl rfl rfl ?_
      refine TL.nil ?_
      exact TQ.one [] hF (Le.refl _) ⟨rfl, rfl⟩) ?_
    refine ChainV.q (some 2) [(0, 1)] (by
      intro H' X F hle
      intro hF
      refine TL.assign rfl rfl ?_
      refine TL.nil ?_
      exact TQ.one [] hF (Le.refl _) ⟨rfl, rfl⟩) ?_
    refine ChainV.q (some 3) [(1, 1)] (by
      intro H' X F hle
      intro hF
      refine TL.assign rfl rfl ?_
      refine TL.nil ?_
      exact TQ.one [] hF (Le.refl _) ⟨rfl, rfl⟩) ?_
    refine ⟨by kernel_rfl, .refl _, ?_⟩
    intro H9 hle9
    refine TL.toOwn (own' := loopSeg l D r :: [(g5, .cells #[.int .i64 (((openP s).2 : Nat) : Int)] 3 (0, 0))] :: [(g4, .cells #[.pointer (some ⟨g9, 0, none⟩)] 32 (0, 0))] :: [(g9, .cells #[fm, .int .i64 (((openP s).1.n : Nat) : Int), uv, .slice none 0 0] 37 (0, 0))] :: sm :: su :: own) rfl ?_
    refine TL.nil ?_
    refine TQX.goD ?_
    refine TQX.then_n ?_
    refine TCX.ret ?_
    refine TQX.ret2 2 rfl rfl rfl rfl ?_
    exact ⟨g9, _, _, _, _, _, rfl, rfl, hm.mono hle9, (hle2.trans hle1).trans hle9⟩
end Go.Proofs.YteeamfkhkbfilaaGreat.K

namespace Go.Proofs.YteeamfkhkbfilaaGreat.K
open Go Go.RowKit Go.Proofs

theorem b8_nat (n : Int) : ((b8 n).toNat : Int) = n % 256 := by rw [← b8_wrap, wrap_u8]
theorem app_list (a b : ByteArray) : (a ++ b).data.toList = a.data.toList ++ b.data.toList := by
  rw [ByteArray.data_append, Array.toList_append]
theorem ba_ext {a b : ByteArray} (h : a.data.toList = b.data.toList) : a = b := ByteArray.ext (Array.toList_inj.1 h)
theorem put16_list (n : Int) : (put16 n).data.toList = [b8 n, b8 (n / 256)] := rfl
theorem num4_list (n : Int) : (num4 n).data.toList = [b8 (n % 65536), b8 (n % 65536 / 256), b8 (n / 65536 % 65536), b8 (n / 65536 % 65536 / 256)] := by
  unfold num4
  rw [app_list, put16_list, put16_list]; rfl
theorem get16_two {a b : UInt8} {r : List UInt8} : get16 (a :: b :: r) = (a.toNat : Int) + 256 * (b.toNat : Int) := rfl
theorem get_put16 {n : Int} (h : U16 n) (r : List UInt8) : get16 ((put16 n).data.toList ++ r) = n := by
  rw [put16_list]
  show get16 (b8 n :: b8 (n / 256) :: r) = n
  obtain ⟨h1, h2⟩ := h
  rw [get16_two, b8_nat, b8_nat]; omega
theorem get_num4 {n : Int} (h : 0 ≤ n ∧ n ≤ 4294967295) (r : List UInt8) : get32 (b8 (n % 65536) :: b8 (n % 65536 / 256) :: b8 (n / 65536 % 65536) :: b8 (n / 65536 % 65536 / 256) :: r) = n := by
  unfold get32
  rw [get16_two, show (b8 (n % 65536) :: b8 (n % 65536 / 256) :: b8 (n / 65536 % 65536) :: b8 (n / 65536 % 65536 / 256) :: r).drop 2 = b8 (n / 65536 % 65536) :: b8 (n / 65536 % 65536 / 256) :: r from rfl, get16_two]
  simp only [b8_nat]
  omega
/-- The bytes of a record, but for its sum. -/
def headL (k : UInt8) (n : Int) (p : ByteArray) : List UInt8 :=
  k :: b8 (n % 65536) :: b8 (n % 65536 / 256) :: b8 (n / 65536 % 65536) :: b8 (n / 65536 % 65536 / 256) ::
  b8 ((p.size : Int) % 65536) :: b8 ((p.size : Int) % 65536 / 256) :: b8 ((p.size : Int) / 65536 % 65536) :: b8 ((p.size : Int) / 65536 % 65536 / 256) :: p.data.toList
theorem headL_len (k : UInt8) (n : Int) (p : ByteArray) : (headL k n p).length = 9 + p.size := by
  unfold headL
  simp only [List.length_cons]
  rw [size_list]; omega
theorem recS_list (k : UInt8) (n : Int) (p : ByteArray) : (recS ⟨#[k]⟩ n p).data.toList = headL k n p ++ (put16 (crc (headL k n p))).data.toList := by
  have e : ((⟨#[k]⟩ : ByteArray) ++ num4 n ++ num4 p.size ++ p).data.toList = headL k n p := by
    rw [app_list, app_list, app_list, num4_list, num4_list]; rfl
  unfold recS
  rw [app_list, e]
theorem recS_size (k : UInt8) (n : Int) (p : ByteArray) : (recS ⟨#[k]⟩ n p).size = 11 + p.size := by
  rw [← size_list, recS_list, List.length_append, headL_len]
  show _ + 2 = _; omega
theorem rec_recS {k : UInt8} {n : Int} {p : ByteArray} (hn : 0 ≤ n ∧ n ≤ 4294967295) (hp : p.size ≤ 4294967295) (rest : ByteArray) : rec? (recS ⟨#[k]⟩ n p ++ rest) = some ⟨k, n, p⟩ := by
  have hsz : (recS ⟨#[k]⟩ n p ++ rest).size = 11 + p.size + rest.size := by rw [ByteArray.size_append, recS_size]
  have hl : (recS ⟨#[k]⟩ n p ++ rest).data.toList = headL k n p ++ ((put16 (crc (headL k n p))).data.toList ++ rest.data.toList) := by
    rw [app_list, recS_list, List.append_assoc]
  have hrl : rlen (recS ⟨#[k]⟩ n p ++ rest) = (p.size : Int) := by
    unfold rlen
    rw [hl]
    exact get_num4 ⟨by omega, by omega⟩ _
  have hh := headL_len k n p
  have h9 : (recS ⟨#[k]⟩ n p ++ rest).data.toList.drop (9 + p.size) = (put16 (crc (headL k n p))).data.toList ++ rest.data.toList := by
    rw [hl, ← hh, List.drop_left]
  have h9t : (recS ⟨#[k]⟩ n p ++ rest).data.toList.take (9 + p.size) = headL k n p := by
    rw [hl, ← hh, List.take_left]
  have hpay : (recS ⟨#[k]⟩ n p ++ rest).extract 9 (9 + p.size) = p := by
    refine ba_ext ?_
    rw [ext_list, h9t]; rfl
  have h1 := rec_ok (r := recS ⟨#[k]⟩ n p ++ rest) (by omega) (by rw [hrl]; omega) (m := p.size) hrl
    (by rw [h9, h9t, get_put16 (n := crc _) (u16_crc _ _ ⟨by decide, by decide⟩)]; simp) (b := k) (t := (headL k n p ++ ((put16 (crc (headL k n p))).data.toList ++ rest.data.toList)).tail) (by rw [hl]; rfl)
  rw [h1, hpay]
  congr 2
  rw [hl]
  exact get_num4 hn _
/-- A record that is cut short is none. -/
theorem rec_cut {k : UInt8} {n : Int} {p : ByteArray} (hp : p.size ≤ 4294967295) {j : Nat} (hj : j < 11 + p.size) : rec? ((recS ⟨#[k]⟩ n p).extract 0 j) = none := by
  have hs := recS_size k n p
  have hsz : ((recS ⟨#[k]⟩ n p).extract 0 j).size = j := by rw [ext_size _ _ _ (by omega)]; omega
  by_cases h11 : j < 11
  · exact rec_short (by omega)
  · refine rec_long (by omega) ?_
    have : rlen ((recS ⟨#[k]⟩ n p).extract 0 j) = (p.size : Int) := by
      unfold rlen
      rw [to_list, recS_list]
      obtain ⟨j', rfl⟩ : ∃ j', j = j' + 9 := ⟨j - 9, by omega⟩
      unfold headL
      simp only [List.cons_append, List.take_succ_cons, List.drop_succ_cons, List.drop_zero]
      exact get_num4 ⟨by omega, by omega⟩ _
    rw [this]; omega
/-! payloads -/
theorem payS_cons (f : Fact) (l : List Fact) : payS (f :: l) = payF f ++ payS l := by
  have gen : ∀ (l : List Fact) (s : ByteArray), l.foldl (fun s f => s ++ payF f) s = s ++ l.foldl (fun s f => s ++ payF f) eS := by
    intro l
    induction l with
    | nil => intro s; simp [eS]; exact (ba_ext (by rw [app_list]; simp)).symm
    | cons g r ih =>
      intro s
      rw [List.foldl_cons, List.foldl_cons, ih, ih (eS ++ payF g)]
      refine ba_ext ?_
      simp only [app_list]
      simp
  unfold payS
  rw [List.foldl_cons, gen]
  refine ba_ext ?_
  simp only [app_list]
  simp
theorem pstep_pay {f : Fact} (h : factR f = true) (ha : U16 f.addr) (rest : ByteArray) : pstep (payF f ++ rest) = some (f, rest) := by
  have ht := factR_text h
  have hl : (payF f ++ rest).data.toList = b8 f.kind :: b8 f.bank :: b8 f.addr :: b8 (f.addr / 256) :: b8 f.text.size :: (f.text.data.toList ++ rest.data.toList) := by
    unfold payF
    rw [app_list, app_list]; rfl
  have hsz : (payF f ++ rest).size = 5 + f.text.size + rest.size := by rw [ByteArray.size_append, payF_size]
  have hb : (b8 (f.text.size : Int)).toNat = f.text.size := by have := b8_nat (f.text.size : Int); omega
  unfold factR at h
  simp only [Bool.and_eq_true, decide_eq_true_eq] at h
  obtain ⟨⟨⟨⟨⟨h1, h2⟩, h3⟩, h4⟩, h5⟩, h6⟩ := h
  rw [pstep_of hl, if_neg (by rw [hsz, hb]; omega), hb]
  have htxt : (payF f ++ rest).extract 5 (5 + f.text.size) = f.text := by
    refine ba_ext ?_
    rw [ext_list, hl]
    rw [show 5 + f.text.size = f.text.size + 5 by omega]
    simp only [List.take_succ_cons, List.drop_succ_cons, List.drop_zero]
    rw [← size_list, List.take_left]
  have hrest : (payF f ++ rest).extract (5 + f.text.size) (payF f ++ rest).size = rest := by
    refine ba_ext ?_
    rw [from_list, hl]
    rw [show 5 + f.text.size = f.text.size + 5 by omega]
    simp only [List.drop_succ_cons]
    rw [← size_list, List.drop_left]
  rw [htxt, hrest]
  obtain ⟨k, b, a, t⟩ := f
  simp only at h1 h2 h3 h4 ha ⊢
  obtain ⟨ha1, ha2⟩ := ha
  congr 2
  congr 1
  · rw [b8_nat]; omega
  · rw [b8_nat]; split <;> omega
  · rw [b8_nat, b8_nat]; omega
theorem pAll_pay : ∀ {l : List Fact}, (∀ f ∈ l, factR f = true ∧ U16 f.addr) → pAll (payS l) = some l
  | [], _ => pAll_nil rfl
  | f :: r, h => by
    have h1 := h f (by simp)
    have hsz : (payS (f :: r)).size ≠ 0 := by rw [payS_cons, ByteArray.size_append, payF_size]; omega
    have hp : pstep (payS (f :: r)) = some (f, payS r) := by rw [payS_cons]; exact pstep_pay h1.1 h1.2 _
    rw [pAll_some hsz hp, pAll_pay (l := r) (fun g hg => h g (by simp [hg]))]; rfl
/-! plays -/
/-- An action: an undo, or a commit. -/
structure ActP where
  un : Bool
  qs : List Quad
def stepA (z : RS) (a : ActP) : ByteArray × Int × RS := if a.un then rUnd z else rCom z (listA a.qs)
theorem stepA_ok {z : RS} (h : z.Ok) (hn : z.n ≤ 10000000) (a : ActP) : (stepA z a).2.2.Ok ∧ (stepA z a).2.2.n ≤ z.n + 1 := by
  unfold stepA
  split
  · exact rUnd_ok h hn
  · exact rCom_ok h hn (listA_ok a.qs).1
theorem stepA_cases {z : RS} (h : z.Ok) (hn : z.n ≤ 10000000) (a : ActP) : ((stepA z a).1 = eS ∧ (stepA z a).2.1 ≠ 0 ∧ (stepA z a).2.2 = z) ∨
    ∃ k p, (stepA z a).1 = recS ⟨#[k]⟩ ((z.n : Int) + 1) p ∧ p.size ≤ 205000 ∧ (stepA z a).2.1 = 0 ∧ applyE z ⟨k, (z.n : Int) + 1, p⟩ = some (stepA z a).2.2 := by
  unfold stepA
  split
  · unfold rUnd
    cases hg : z.stk.getLast? with
    | none => exact .inl ⟨rfl, by show (101 : Int) ≠ 0; decide, rfl⟩
    | some p =>
      refine .inr ⟨85, eS, ?_, Nat.zero_le _, rfl, apply_U2 (by simp) rfl rfl hg⟩
      show recU _ = _
      unfold recU
      simp
  · by_cases hw : wrongC (listA a.qs) = 0
    · rw [rCom_good hw]
      refine .inr ⟨67, payS (listA a.qs), ?_, payS_small hw, rfl, ?_⟩
      · show recC _ _ = _
        unfold recC
        simp
      · refine apply_C2 (by simp) rfl (pAll_pay fun f hf => ?_) hw
        obtain ⟨_, _, h3, _⟩ := wrong_zero hw
        exact ⟨List.all_eq_true.1 h3 f hf, ((listA_ok a.qs).1 f hf).addr⟩
    · rw [rCom_bad hw]; exact .inl ⟨rfl, hw, rfl⟩
/-- What was played: the state, the log, the lengths after each record. -/
structure Pl where
  z : RS
  s : ByteArray
  ls : List Nat
def plStep (q : Pl) (a : ActP) : Pl := ⟨(stepA q.z a).2.2, q.s ++ (stepA q.z a).1, if (stepA q.z a).2.1 = 0 then q.ls ++ [(q.s ++ (stepA q.z a).1).size] else q.ls⟩
def plays (z : RS) (l : List ActP) : Pl := l.foldl plStep ⟨z, eS, [0]⟩
def play (z : RS) (l : List ActP) : Pl := plays z (l.take 20)
theorem plays_snoc (z : RS) (l : List ActP) (a : ActP) : plays z (l ++ [a]) = plStep (plays z l) a := by simp [plays]
theorem plays_take {z : RS} {l : List ActP} {i : Nat} {a : ActP} (h : l[i]? = some a) : plays z (l.take (i + 1)) = plStep (plays z (l.take i)) a := by rw [take_succ h, plays_snoc]
/-- The last of the lengths that is not above k. -/
def wantF (ls : List Nat) (k : Nat) : Nat := ls.foldl (fun w x => if x ≤ k then x else w) 0
theorem wantF_snoc (ls : List Nat) (x k : Nat) : wantF (ls ++ [x]) k = if x ≤ k then x else wantF ls k := by simp [wantF]
theorem wantF_take {ls : List Nat} {i x k : Nat} (h : ls[i]? = some x) : wantF (ls.take (i + 1)) k = if x ≤ k then x else wantF (ls.take i) k := by rw [take_succ h, wantF_snoc]
theorem from_app (s r : ByteArray) : from_ (s ++ r) s.size = r := by
  refine ba_ext ?_
  show ((s ++ r).extract s.size (s ++ r).size).data.toList = _
  rw [from_list, app_list, ← size_list, List.drop_left]
theorem ba_assoc (a b c : ByteArray) : a ++ b ++ c = a ++ (b ++ c) := ba_ext (by simp only [app_list, List.append_assoc])
theorem ba_nil (a : ByteArray) : a ++ eS = a := ba_ext (by rw [app_list]; simp)
theorem ext_all (s : ByteArray) : s.extract 0 s.size = s := ba_ext (by rw [to_list, ← size_list, List.take_length])
theorem ext_in {s r : ByteArray} {k : Nat} (h : k ≤ s.size) : (s ++ r).extract 0 k = s.extract 0 k := by
  refine ba_ext ?_
  rw [to_list, to_list, app_list, List.take_append_of_le_length (by rw [size_list]; exact h)]
theorem ext_out {s r : ByteArray} {k : Nat} (h : s.size ≤ k) : (s ++ r).extract 0 k = s ++ r.extract 0 (k - s.size) := by
  refine ba_ext ?_
  rw [to_list, app_list, app_list, to_list, List.take_append, List.take_of_length_le (by rw [size_list]; exact h), size_list]
/-- What holds of a play from nothing. -/
structure PlOk (i : Nat) (q : Pl) : Prop where
  ok : q.z.Ok
  n : q.z.n ≤ i
  size : q.s.size ≤ 205011 * i
  run : ∀ rest, runL RS.init 0 (recs (q.s ++ rest) 0) = runL q.z q.s.size (recs (q.s ++ rest) q.s.size)
  last : ∀ k, q.s.size ≤ k → wantF q.ls k = q.s.size
  cut : ∀ k, k ≤ q.s.size → ∃ zw, runL RS.init 0 (recs (q.s.extract 0 k) 0) = (zw, wantF q.ls k) ∧ runL RS.init 0 (recs (q.s.extract 0 (wantF q.ls k)) 0) = (zw, wantF q.ls k) ∧ wantF q.ls k ≤ k ∧ zw.Ok ∧ zw.n ≤ i
  lens : q.ls.length ≤ i + 1 ∧ ∀ x ∈ q.ls, x ≤ q.s.size
theorem run_none {z : RS} {s rest : ByteArray} (h : rec? rest = none) : runL z s.size (recs (s ++ rest) s.size) = (z, s.size) := by
  rw [recs_none (by rw [from_app]; exact h)]; rfl
theorem rec_nil : rec? eS = none := rec_short (by decide)
theorem PlOk.open_ {i : Nat} {q : Pl} (h : PlOk i q) : openP q.s = (q.z, q.s.size) := by
  have := h.run eS
  rw [run_none rec_nil, ba_nil] at this
  exact this
theorem PlOk.init : PlOk 0 ⟨RS.init, eS, [0]⟩ := by
  refine ⟨RS.init_ok, Nat.le_refl _, Nat.le_refl _, fun rest => rfl, fun k _ => by show (if 0 ≤ k then 0 else 0) = 0; simp, fun k hk => ?_, by simp, by simp⟩
  have h0 : k = 0 := Nat.le_zero.1 hk
  subst h0
  have e : wantF [0] 0 = 0 := by simp [wantF]
  rw [e]
  have e2 : runL RS.init 0 (recs ((eS : ByteArray).extract 0 0) 0) = (RS.init, 0) := by
    rw [show (eS : ByteArray).extract 0 0 = eS from rfl, recs_none (rec_short (by decide))]; rfl
  exact ⟨_, e2, e2, Nat.le_refl _, RS.init_ok, Nat.le_refl _⟩
theorem PlOk.step {i : Nat} {q : Pl} (h : PlOk i q) (hi : i ≤ 1000000) (a : ActP) : PlOk (i + 1) (plStep q a) := by
  have hn := h.n
  have hok := stepA_ok h.ok (by omega) a
  rcases stepA_cases h.ok (by omega) a with ⟨h1, h2, h3⟩ | ⟨k, p, h1, hp, h2, h3⟩
  · have e : plStep q a = q := by
      unfold plStep
      rw [h1, h3, ba_nil, if_neg h2]
    rw [e]
    exact ⟨h.ok, by omega, by have := h.size; omega, h.run, h.last, fun k hk => by obtain ⟨zw, h1, h2, h3, h4, h5⟩ := h.cut k hk; exact ⟨zw, h1, h2, h3, h4, by omega⟩, ⟨by have := h.lens.1; omega, h.lens.2⟩⟩
  · have e : plStep q a = ⟨(stepA q.z a).2.2, q.s ++ recS ⟨#[k]⟩ ((q.z.n : Int) + 1) p, q.ls ++ [(q.s ++ recS ⟨#[k]⟩ ((q.z.n : Int) + 1) p).size]⟩ := by
      unfold plStep
      rw [h1, if_pos h2]
    rw [e]
    generalize hR : recS ⟨#[k]⟩ ((q.z.n : Int) + 1) p = R
    have hRs : R.size = 11 + p.size := by rw [← hR]; exact recS_size _ _ _
    have hsz : (q.s ++ R).size = q.s.size + (11 + p.size) := by rw [ByteArray.size_append, hRs]
    have hrun : ∀ rest, runL RS.init 0 (recs (q.s ++ R ++ rest) 0) = runL (stepA q.z a).2.2 (q.s ++ R).size (recs (q.s ++ R ++ rest) (q.s ++ R).size) := fun rest => by
      rw [ba_assoc, h.run (R ++ rest), recs_some (e := ⟨k, (q.z.n : Int) + 1, p⟩) (by rw [from_app, ← hR]; exact rec_recS ⟨by omega, by omega⟩ (by omega) rest), runL_some h3, hsz]
    have hopen : runL RS.init 0 (recs (q.s ++ R) 0) = ((stepA q.z a).2.2, (q.s ++ R).size) := by
      have := hrun eS
      rw [run_none rec_nil, ba_nil] at this
      exact this
    refine ⟨hok.1, by show (stepA q.z a).2.2.n ≤ i + 1; have := hok.2; omega, by show (q.s ++ R).size ≤ _; have := h.size; omega, hrun, fun j hj => ?_, fun j hj => ?_, ?_⟩
    · show wantF (q.ls ++ [(q.s ++ R).size]) j = (q.s ++ R).size
      have hj' : (q.s ++ R).size ≤ j := hj
      rw [wantF_snoc, if_pos hj']
    · show ∃ zw, runL RS.init 0 (recs ((q.s ++ R).extract 0 j) 0) = (zw, wantF (q.ls ++ [(q.s ++ R).size]) j) ∧ runL RS.init 0 (recs ((q.s ++ R).extract 0 (wantF (q.ls ++ [(q.s ++ R).size]) j)) 0) = (zw, wantF (q.ls ++ [(q.s ++ R).size]) j) ∧ wantF (q.ls ++ [(q.s ++ R).size]) j ≤ j ∧ zw.Ok ∧ zw.n ≤ i + 1
      have hj' : j ≤ (q.s ++ R).size := hj
      rw [wantF_snoc]
      by_cases hje : (q.s ++ R).size ≤ j
      · rw [if_pos hje]
        have : j = (q.s ++ R).size := by omega
        subst this
        rw [ext_all]
        exact ⟨_, hopen, hopen, Nat.le_refl _, hok.1, by have := hok.2; omega⟩
      · rw [if_neg hje]
        by_cases hjs : q.s.size ≤ j
        · rw [h.last j hjs, ext_out hjs]
          have e1 : (q.s ++ R).extract 0 q.s.size = q.s := by rw [ext_in (Nat.le_refl _), ext_all]
          rw [e1]
          refine ⟨q.z, ?_, ?_, hjs, h.ok, by omega⟩
          · rw [h.run, run_none]
            rw [← hR]
            exact rec_cut (by omega) (by omega)
          · exact h.open_
        · obtain ⟨zw, h4, h5, h6, h7, h8⟩ := h.cut j (by omega)
          rw [ext_in (by omega), ext_in (by omega)]
          exact ⟨zw, h4, h5, h6, h7, by omega⟩
    · refine ⟨by show (q.ls ++ [_]).length ≤ _; have := h.lens.1; simp; omega, fun x hx => ?_⟩
      show x ≤ (q.s ++ R).size
      rcases List.mem_append.1 hx with hx | hx
      · have := h.lens.2 x hx; omega
      · simp at hx; omega
theorem plays_ok : ∀ (n : Nat) {l : List ActP}, l.length = n → n ≤ 1000000 → PlOk n (plays RS.init l)
  | 0, l, h, _ => by
    have : l = [] := List.length_eq_zero_iff.1 h
    subst this; exact PlOk.init
  | n + 1, l, h, hn => by
    rcases List.eq_nil_or_concat l with rfl | ⟨m, a, rfl⟩
    · cases h
    · simp at h
      rw [List.concat_eq_append, plays_snoc]
      exact (plays_ok n (l := m) h (by omega)).step (by omega) a
theorem play_ok (l : List ActP) : PlOk 20 (play RS.init l) := by
  have h := plays_ok _ (l := l.take 20) rfl (by rw [List.length_take]; omega)
  have hl : (l.take 20).length ≤ 20 := by rw [List.length_take]; omega
  show PlOk 20 (plays RS.init (l.take 20))
  obtain ⟨h1, h2, h3, h4, h5, h6, h7⟩ := h
  exact ⟨h1, by omega, by omega, h4, h5, fun k hk => by obtain ⟨zw, a, b, c, d, e⟩ := h6 k hk; exact ⟨zw, a, b, c, d, by omega⟩, ⟨by omega, h7.2⟩⟩
/-- A play from any state. -/
theorem plays_any : ∀ (n : Nat) {z : RS} {l : List ActP}, z.Ok → l.length = n → z.n + n ≤ 1000000 → (plays z l).z.Ok ∧ (plays z l).z.n ≤ z.n + n ∧ (plays z l).s.size ≤ 205011 * n
  | 0, z, l, hz, h, _ => by
    have : l = [] := List.length_eq_zero_iff.1 h
    subst this; exact ⟨hz, Nat.le_refl _, Nat.zero_le _⟩
  | n + 1, z, l, hz, h, hn => by
    rcases List.eq_nil_or_concat l with rfl | ⟨m, a, rfl⟩
    · cases h
    · simp at h
      rw [List.concat_eq_append, plays_snoc]
      obtain ⟨h1, h2, h3⟩ := plays_any n (z := z) (l := m) hz h (by omega)
      have h4 := stepA_ok h1 (by omega) a
      refine ⟨h4.1, by show (stepA (plays z m).z a).2.2.n ≤ _; have := h4.2; omega, ?_⟩
      show ((plays z m).s ++ (stepA (plays z m).z a).1).size ≤ _
      rw [ByteArray.size_append]
      rcases stepA_cases h1 (by omega) a with ⟨e1, _, _⟩ | ⟨k, p, e1, hp, _, _⟩
      · rw [e1]; show _ + 0 ≤ _; omega
      · rw [e1, recS_size]; omega
end Go.Proofs.YteeamfkhkbfilaaGreat.K

namespace Go.Proofs.YteeamfkhkbfilaaGreat.K
open Go Go.RowKit Go.Proofs

theorem openP_nil : openP eS = (RS.init, 0) := by
  unfold openP
  rw [recs_none (show rec? (from_ eS 0) = none from rec_short (by decide))]
  rfl
def fGo : Fact := ⟨1, 0, 32, ⟨#[103, 111]⟩⟩
def fNo : Fact := ⟨1, 0, 32, eS⟩
def fIf : Fact := ⟨1, 0, 0, ⟨#[105, 102]⟩⟩
theorem fok_of {f : Fact} (h1 : I64 f.kind) (h2 : I64 f.bank) (h3 : U16 f.addr) (h4 : f.text.size ≤ 1000000) : ∀ g ∈ [f], FOk g := by
  intro g hg
  simp only [List.mem_singleton] at hg
  subst hg
  exact ⟨h1, h2, h3, h4⟩
theorem fGo_ok : ∀ g ∈ [fGo], FOk g := fok_of ⟨by decide, by decide⟩ ⟨by decide, by decide⟩ ⟨by decide, by decide⟩ (by decide)
theorem fNo_ok : ∀ g ∈ [fNo], FOk g := fok_of ⟨by decide, by decide⟩ ⟨by decide, by decide⟩ ⟨by decide, by decide⟩ (by decide)
theorem fIf_ok : ∀ g ∈ [fIf], FOk g := fok_of ⟨by decide, by decide⟩ ⟨by decide, by decide⟩ ⟨by decide, by decide⟩ (by decide)
theorem wr_one {f : Fact} (h : factR f = true) : wrongC [f] = 0 := wrong_ok (by simp) (by simp) (by simp [h]) (by simp)
theorem wGo : wrongC [fGo] = 0 := wr_one (by decide +kernel)
theorem wNo : wrongC [fNo] = 0 := wr_one (by decide +kernel)
theorem wIf : wrongC [fIf] = 1 := wrong_bad (x := fIf) (by simp) (by simp) (by decide +kernel)
def q1 : RS := RS.init.commit [fGo]
def q2 : RS := q1.commit [fNo]
def q3 : RS := q2.undo [fGo] [fNo]
def q4 : RS := q3.undo [] [fGo]
theorem q1_ok : q1.Ok := RS.init_ok.commit (by decide) ⟨fGo_ok, wGo⟩
theorem q1_facts : q1.facts = [fGo] := by decide +kernel
theorem q2_ok : q2.Ok := q1_ok.commit (by decide) ⟨fNo_ok, wNo⟩
theorem q2_last : q2.stk.getLast? = some ([fGo], [fNo]) := by
  show (q1.stk ++ [(q1.facts, [fNo])]).getLast? = _
  rw [List.getLast?_concat, q1_facts]
theorem q3_ok : q3.Ok := q2_ok.undo (by decide) (p := ([fGo], [fNo])) (List.mem_of_getLast? q2_last)
theorem q3_stk : q3.stk = [([], [fGo])] := by
  show (([] ++ [(RS.init.facts, [fGo])]) ++ [(q1.facts, [fNo])]).dropLast = _
  rfl
theorem q3_last : q3.stk.getLast? = some ([], [fGo]) := by rw [q3_stk]; rfl
theorem q3_facts : q3.facts = [fGo] := by decide +kernel
theorem q4_ok : q4.Ok := q3_ok.undo (by decide) (p := ([], [fGo])) (List.mem_of_getLast? q3_last)
theorem q4_last : q4.stk.getLast? = none := by
  show (q3.stk.dropLast).getLast? = none
  rw [q3_stk]; rfl
theorem recGo_size : (recC (1 : Int) [fGo]).size = 18 := by
  unfold recC
  rw [recS_size]
  rfl
theorem recGo_mid : (recC (1 : Int) [fGo]).extract 9 16 = ⟨#[1, 0, 32, 0, 2, 103, 111]⟩ := by
  refine ba_ext ?_
  unfold recC
  rw [ext_list, recS_list, List.take_append_of_le_length (by rw [headL_len]; decide)]
  rfl
theorem look_q3 : look q3.facts (1, 0, 32) = some ⟨#[103, 111]⟩ := by rw [q3_facts]; rfl
end Go.Proofs.YteeamfkhkbfilaaGreat.K

namespace Go.Proofs.YteeamfkhkbfilaaGreat.K
open Go Go.RowKit Go.Proofs

theorem law_sanity {w0 : World} {H : Hp} {own : List Seg} : Fn Tryz.prog 11 [] w0 H own (fun r own' H' => r = .bool true ∧ own' = own ∧ Le H H') := by
  refine Fn.enter Tryz.func11 rfl Tryz.ntmps11 rfl ?_; have hL := Le.refl H; refine TC.seq ?_; refine TC.region ?_; refine TL.assign rfl rfl ?_; refine TL.nsr ?_; refine TL.call (proj_Open (s := eS) (by decide)) ⟨rfl, trivial⟩ rfl ?_
  rintro _ _ H19 ⟨gp, fm0, uv0, sm0, su0, xu0, rfl, rfl, hm0, hle19⟩
  rw [openP_nil] at hm0 ⊢
  have hL := Le.trans hL hle19; refine TL.move rfl rfl ?_; refine TL.extract rfl rfl rfl ?_; refine TL.extract rfl rfl rfl ?_; refine TL.assign rfl rfl ?_; refine TL.assign rfl rfl ?_; refine TL.nil ?_; refine TQ.then_n ?_; refine TC.seq ?_; refine TC.seq ?_; refine TC.region ?_; refine TL.move rfl rfl ?_; refine TL.eqlP rfl rfl rfl ?_; refine TL.move rfl rfl ?_; refine TL.gyes rfl rfl rfl ?_; refine TL.move rfl rfl ?_; refine TL.gyes rfl rfl rfl ?_; refine TL.neq rfl rfl rfl ?_
  rw [decide_eq_false (by decide)]
  refine TL.pickF rfl rfl rfl rfl ?_; refine TL.nil ?_; refine TQ.then_n ?_; refine TC.cond_f rfl ?_; refine TC.skip ?_; refine TQ.nsr ?_; refine TL.struct [(1, [_])] ⟨rfl, ⟨_, rfl, rfl⟩, trivial⟩ rfl rfl ?_
  refine TL.new rfl ?_; intro g3; refine TL.storeA 0 0 (c' := #[_, _]) (own' := [(_, .cells #[_, _] _ _)] :: _) rfl rfl rfl rfl rfl ⟨rfl, rfl, trivial⟩ (by simp) rfl rfl rfl ?_; refine TL.nsr ?_; refine TL.move rfl rfl ?_; refine TL.load_ownA 0 0 [_, _] rfl rfl rfl ⟨rfl, rfl, trivial⟩ rfl rfl ?_; refine TL.struct [(0, [_]), (1, [_, _]), (2, [_])] ⟨rfl, ⟨_, rfl, rfl⟩, rfl, ⟨_, rfl, rfl⟩, rfl, ⟨_, rfl, rfl⟩, trivial⟩ rfl rfl ?_
  refine TL.litF (r := [_, _, _, _]) [(0, [_, _, _, _])] ⟨rfl, ⟨_, rfl, rfl⟩, trivial⟩ rfl rfl rfl rfl ?_; intro g33
  refine TL.freeze (fun H1 hle hz_g33 => ?_)
  have hL := Le.trans hL hle; have hm0 := PSm.mono hle hm0
  have hA33 : rd H1 (.s 4 (factsD [fGo])) _ := facts_row (l := [fGo]) (Row.lit 60 4 1 _ _ rfl (by omega)) hz_g33 (Le.refl _)
  refine TL.sel 4 [1, 2, 3, 0] rfl (fun o ho => ?_)
  simp only [K.sel, List.map_cons, List.map_nil, List.getD_cons_zero, List.getD_cons_succ, List.drop_succ_cons, List.drop_zero, List.cons_append, List.nil_append, List.set_cons_zero, List.set_cons_succ] at ho; subst ho
  refine TL.call (proj_Commit1 (z := RS.init) (l := [fGo]) RS.init_ok (by decide) fGo_ok hm0 hA33 wGo) ⟨rfl, rfl, trivial⟩ rfl ?_
  rintro _ _ H34 ⟨fm34, uv34, sm34, su34, xu34, rfl, rfl, hm1, hle34⟩
  have hL := Le.trans hL hle34; refine TL.move rfl rfl ?_; refine TL.extract rfl rfl rfl ?_; refine TL.extract rfl rfl rfl ?_; refine TL.assign rfl rfl ?_; refine TL.assign rfl rfl ?_; refine TL.nil ?_; refine TQ.then_n ?_; refine TC.seq ?_; refine TC.seq ?_; refine TC.region ?_; refine TL.move rfl rfl ?_; refine TL.len_string rfl rfl ?_; refine TL.neq rfl rfl rfl ?_
  rw [decide_eq_false (show ¬ (((recC ((RS.init.n + 1 : Nat) : Int) [fGo]).size : Nat) : Int) ≠ 18 by rw [show ((RS.init.n + 1 : Nat) : Int) = 1 from rfl, recGo_size]; decide)]
  refine TL.move rfl rfl ?_; refine TL.gyes rfl rfl rfl ?_; refine TL.move rfl rfl ?_; refine TL.gyes rfl rfl rfl ?_; refine TL.sliceS (li := some 9) (ri := some 16) 9 16 rfl ⟨_, _, rfl, rfl⟩ ⟨_, _, rfl, rfl⟩ rfl rfl (by omega) (by rw [show ((RS.init.n + 1 : Nat) : Int) = 1 from rfl, recGo_size]; omega) rfl ?_
  rw [show (recC ((RS.init.n + 1 : Nat) : Int) [fGo]).extract 9 16 = ⟨#[1, 0, 32, 0, 2, 103, 111]⟩ from recGo_mid]
  refine TL.gyes rfl rfl rfl ?_; refine TL.neqS rfl rfl rfl ?_
  rw [decide_eq_false (by decide)]
  refine TL.pickF rfl rfl rfl rfl ?_; refine TL.move rfl rfl ?_; refine TL.gyes rfl rfl rfl ?_; refine TL.move rfl rfl ?_; refine TL.gyes rfl rfl rfl ?_; refine TL.neq rfl rfl rfl ?_
  rw [decide_eq_false (by decide)]
  refine TL.pickF rfl rfl rfl rfl ?_; refine TL.move rfl rfl ?_; refine TL.gyes rfl rfl rfl ?_; refine TL.move rfl rfl ?_; refine TL.gyes rfl rfl rfl ?_; refine TL.call (proj_Facts (l := q1.facts) (m := 1000 * q1.n) q1_ok.now (by decide) hm1.m) ⟨rfl, trivial⟩ rfl ?_
  rintro r51 _ H51 ⟨seg51, hrow51, rfl, hle51⟩
  rw [show q1.facts.length = 1 by rw [q1_facts]; rfl] at hrow51
  obtain ⟨A51, c51, rfl, hc51, hc52⟩ := hrow51.sl
  have hL := Le.trans hL hle51; have hm1 := PSm.mono hle51 hm1; refine TL.gyes rfl rfl rfl ?_; refine TL.len_slice rfl rfl ?_; refine TL.gyes rfl rfl rfl ?_; refine TL.neq rfl rfl rfl ?_
  rw [decide_eq_false (by decide)]
  refine TL.pickF rfl rfl rfl rfl ?_; refine TL.nil ?_; refine TQ.then_n ?_; refine TC.cond_f rfl ?_; refine TC.skip ?_; refine TQ.nsr ?_; refine TL.move rfl rfl ?_; refine TL.load_ownA 4 0 [_, _] rfl rfl rfl ⟨rfl, rfl, trivial⟩ rfl rfl ?_; refine TL.struct [(0, [_]), (1, [_, _])] ⟨rfl, ⟨_, rfl, rfl⟩, rfl, ⟨_, rfl, rfl⟩, trivial⟩ rfl rfl ?_
  refine TL.litF (r := [_, _, _, _]) [(0, [_, _, _, _])] ⟨rfl, ⟨_, rfl, rfl⟩, trivial⟩ rfl rfl rfl rfl ?_; intro g59
  refine TL.freeze (fun H2 hle hz_g59 => ?_)
  have hL := Le.trans hL hle; have hm1 := PSm.mono hle hm1
  have hA59 : rd H2 (.s 4 (factsD [fNo])) _ := facts_row (l := [fNo]) (Row.lit 60 4 1 _ _ rfl (by omega)) hz_g59 (Le.refl _)
  refine TL.sel 5 [1, 2, 3, 0, 4] rfl (fun o ho => ?_)
  simp only [K.sel, List.map_cons, List.map_nil, List.getD_cons_zero, List.getD_cons_succ, List.drop_succ_cons, List.drop_zero, List.cons_append, List.nil_append, List.set_cons_zero, List.set_cons_succ] at ho; subst ho
  refine TL.call (proj_Commit1 (z := q1) (l := [fNo]) q1_ok (by decide) fNo_ok hm1 hA59 wNo) ⟨rfl, rfl, trivial⟩ rfl ?_
  rintro _ _ H60 ⟨fm60, uv60, sm60, su60, xu60, rfl, rfl, hm2, hle60⟩
  have hL := Le.trans hL hle60; refine TL.move rfl rfl ?_; refine TL.extract rfl rfl rfl ?_; refine TL.extract rfl rfl rfl ?_; refine TL.assign rfl rfl ?_; refine TL.assign rfl rfl ?_; refine TL.nsr ?_; refine TL.move rfl rfl ?_; refine TL.call (proj_Undo1 (z := q2) q2_ok (by decide) hm2 q2_last) ⟨rfl, trivial⟩ rfl ?_
  rintro _ _ H65 ⟨fm65, uv65, sm65, su65, xu65, rfl, rfl, hm3, hle65⟩
  have hL := Le.trans hL hle65; refine TL.move rfl rfl ?_; refine TL.extract rfl rfl rfl ?_; refine TL.extract rfl rfl rfl ?_; refine TL.assign rfl rfl ?_; refine TL.assign rfl rfl ?_; refine TL.nsr ?_; refine TL.move rfl rfl ?_; refine TL.load_ownA 4 0 [_, _] rfl rfl rfl ⟨rfl, rfl, trivial⟩ rfl rfl ?_; refine TL.call (proj_Get (l := q3.facts) (m := 1000 * q3.n) (k := 1) (ba := 0) (ad := 32) ⟨by decide, by decide⟩ ⟨by decide, by decide⟩ ⟨by decide, by decide⟩ hm3.m) ⟨rfl, rfl, rfl, trivial⟩ rfl ?_
  rintro _ _ H71 ⟨rfl, rfl, hle71⟩
  rw [look_q3]
  have hL := Le.trans hL hle71; have hm3 := PSm.mono hle71 hm3; refine TL.move rfl rfl ?_; refine TL.extract rfl rfl rfl ?_; refine TL.extract rfl rfl rfl ?_; refine TL.assign rfl rfl ?_; refine TL.assign rfl rfl ?_; refine TL.nsr ?_; refine TL.move rfl rfl ?_; refine TL.call (proj_Undo1 (z := q3) q3_ok (by decide) hm3 q3_last) ⟨rfl, trivial⟩ rfl ?_
  rintro _ _ H76 ⟨fm76, uv76, sm76, su76, xu76, rfl, rfl, hm4, hle76⟩
  have hL := Le.trans hL hle76; refine TL.move rfl rfl ?_; refine TL.extract rfl rfl rfl ?_; refine TL.extract rfl rfl rfl ?_; refine TL.assign rfl rfl ?_; refine TL.assign rfl rfl ?_; refine TL.nsr ?_; refine TL.move rfl rfl ?_; refine TL.call (proj_Undo0 (z := q4) q4_ok (by decide) hm4 q4_last) ⟨rfl, trivial⟩ rfl ?_
  rintro _ _ H81 ⟨fm81, uv81, sm81, su81, xu81, rfl, rfl, hm5, hle81⟩
  have hL := Le.trans hL hle81; refine TL.move rfl rfl ?_; refine TL.extract rfl rfl rfl ?_; refine TL.extract rfl rfl rfl ?_; refine TL.assign rfl rfl ?_; refine TL.assign rfl rfl ?_; refine TL.nsr ?_; refine TL.move rfl rfl ?_; refine TL.struct [(0, [_]), (2, [_])] ⟨rfl, ⟨_, rfl, rfl⟩, rfl, ⟨_, rfl, rfl⟩, trivial⟩ rfl rfl ?_
  refine TL.litF (r := [_, _, _, _]) [(0, [_, _, _, _])] ⟨rfl, ⟨_, rfl, rfl⟩, trivial⟩ rfl rfl rfl rfl ?_; intro g87
  refine TL.freeze (fun H3 hle hz_g87 => ?_)
  have hL := Le.trans hL hle; have hm5 := PSm.mono hle hm5
  have hA87 : rd H3 (.s 4 (factsD [fIf])) _ := facts_row (l := [fIf]) (Row.lit 60 4 1 _ _ rfl (by omega)) hz_g87 (Le.refl _)
  refine TL.call (proj_Commit0 (z := q4) (l := [fIf]) q4_ok (by decide) fIf_ok hm5 hA87 (by rw [wIf]; decide)) ⟨rfl, rfl, trivial⟩ rfl ?_
  rintro _ _ H88 ⟨fm88, uv88, sm88, su88, xu88, rfl, rfl, hm6, hle88⟩
  have hL := Le.trans hL hle88; refine TL.move rfl rfl ?_; refine TL.extract rfl rfl rfl ?_; refine TL.extract rfl rfl rfl ?_; refine TL.assign rfl rfl ?_; refine TL.assign rfl rfl ?_; refine TL.nsr ?_; refine TL.move rfl rfl ?_; refine TL.eql rfl rfl rfl ?_
  rw [decide_eq_true (by decide)]
  refine TL.move rfl rfl ?_; refine TL.gyes rfl rfl rfl ?_; refine TL.move rfl rfl ?_; refine TL.gyes rfl rfl rfl ?_; refine TL.eql rfl rfl rfl ?_
  rw [decide_eq_true (by decide)]
  refine TL.pickT rfl rfl rfl rfl ?_; refine TL.move rfl rfl ?_; refine TL.gyes rfl rfl rfl ?_; refine TL.move rfl rfl ?_; refine TL.gyes rfl rfl rfl ?_; refine TL.eqlS rfl rfl rfl ?_
  rw [decide_eq_true (by decide)]
  refine TL.pickT rfl rfl rfl rfl ?_; refine TL.move rfl rfl ?_; refine TL.gyes rfl rfl rfl ?_; refine TL.move rfl rfl ?_; refine TL.pickT rfl rfl rfl rfl ?_; refine TL.move rfl rfl ?_; refine TL.gyes rfl rfl rfl ?_; refine TL.move rfl rfl ?_; refine TL.gyes rfl rfl rfl ?_; refine TL.eql rfl rfl rfl ?_
  rw [decide_eq_true (by decide)]
  refine TL.pickT rfl rfl rfl rfl ?_; refine TL.move rfl rfl ?_; refine TL.gyes rfl rfl rfl ?_; refine TL.move rfl rfl ?_; refine TL.gyes rfl rfl rfl ?_; refine TL.eql rfl rfl rfl ?_
  rw [decide_eq_true (by decide)]
  refine TL.pickT rfl rfl rfl rfl ?_; refine TL.move rfl rfl ?_; refine TL.gyes rfl rfl rfl ?_; refine TL.move rfl rfl ?_; refine TL.gyes rfl rfl rfl ?_; refine TL.eql rfl rfl rfl ?_
  rw [decide_eq_true (wIf)]
  refine TL.pickT rfl rfl rfl rfl ?_; refine TL.assign rfl rfl ?_; refine TL.nil ?_; refine TQ.then_n ?_; refine TC.ret ?_; refine TQ.ret1 5 rfl rfl ?_
  exact ⟨rfl, rfl, hL⟩


end Go.Proofs.YteeamfkhkbfilaaGreat.K

namespace Go.Proofs.YteeamfkhkbfilaaGreat.K
open Go Go.RowKit Go.Proofs

theorem TQ.ret3 {P : Program} {w0 : World} {N : Nat} {env : Env} {own : List Seg} {H : Hp} {fn : Func} {φ : Value → List Seg → Hp → Prop} (k : Nat) {t u s : Tmp} {v x y : Value} (hr : fn.results = #[.tmp t, .tmp u, .tmp s]) (hv : lk env t = some v) (hx : lk env u = some x) (hy : lk env s = some y)
    (h : φ (.tuple #[v, x, y]) (own.drop k) H) : TQ w0 N (bodyPost P fn (Ret w0 φ)) .ret env own H :=
  fun a w ha hw => bodyPost_ret (v := .tuple #[v, x, y]) (by
    have h1 := ha.slots t v hv
    have h2 := ha.slots u x hx
    have h3 := ha.slots s y hy
    simp [results, hr, Array.getD_eq_getD_getElem?, h1, h2, h3]) ha.defers ⟨.tuple #[v, x, y], own.drop k, H, rfl, h, hw.drop k⟩
def ActP.d (a : ActP) : List D := [.c (.bool a.un), .s 4 (quadsD a.qs)]
abbrev actsD (l : List ActP) : List D := l.flatMap ActP.d
theorem ActP.d_len (a : ActP) : a.d.length = 2 := rfl
theorem acts_len {H : Hp} {l : List ActP} {v : Value} (h : rd H (.s 2 (actsD l)) v) : ∃ A c, v = .slice A l.length c ∧ l.length ≤ c ∧ c ≤ 9223372036854775807 := elems_len (by omega) ActP.d_len h
theorem acts_at {H : Hp} {l : List ActP} {A : Option Addr} {n c : Nat} (h : rd H (.s 2 (actsD l)) (.slice A n c)) {i : Nat} {a : ActP} (hi : l[i]? = some a) : ∃ b o u, A = some ⟨b, o, none⟩ ∧ hAt H b (o + i * 2) [.bool a.un, u] ∧ rd H (.s 4 (quadsD a.qs)) u := by
  obtain ⟨b, o, cells, rfl, h1, h2, _⟩ := elems_at (by omega) ActP.d_len h hi
  match cells, h2 with
  | [c0, c1], ⟨h3, h4, _⟩ =>
    simp only [rd] at h3
    subst h3
    exact ⟨b, o, c1, rfl, h1, h4⟩
def AOk (l : List ActP) : Prop := ∀ a ∈ l, ∀ q ∈ a.qs, QOk q
abbrev lensV (l : List Nat) : List Value := l.map fun (n : Nat) => Value.int .i64 (n : Int)
abbrev lensD (l : List Nat) : List D := (lensV l).map D.c
theorem plays_lens : ∀ (n : Nat) {z : RS} {l : List ActP}, l.length = n → (plays z l).ls.length ≤ n + 1
  | 0, z, l, h => by
    have : l = [] := List.length_eq_zero_iff.1 h
    subst this; exact Nat.le_refl _
  | n + 1, z, l, h => by
    rcases List.eq_nil_or_concat l with rfl | ⟨m, a, rfl⟩
    · cases h
    · simp at h
      rw [List.concat_eq_append, plays_snoc]
      have := plays_lens n (z := z) (l := m) h
      unfold plStep
      simp only
      split
      · rw [List.length_append]; simp; omega
      · omega
theorem plays_at {z : RS} {l : List ActP} {i : Nat} (hz : z.Ok) (hn : z.n ≤ 1000) (hi : i ≤ l.length) (hi2 : i ≤ 20) : (plays z (l.take i)).z.Ok ∧ (plays z (l.take i)).z.n ≤ z.n + i ∧ (plays z (l.take i)).s.size ≤ 205011 * i ∧ (plays z (l.take i)).ls.length ≤ i + 1 := by
  have hl : (l.take i).length = i := by rw [List.length_take]; omega
  obtain ⟨h1, h2, h3⟩ := plays_any i hz hl (by omega)
  exact ⟨h1, h2, h3, plays_lens i hl⟩
theorem play_all {z : RS} {l : List ActP} {i : Nat} (h : i = l.length ∨ i = 20) (h2 : i ≤ 20) (h3 : i ≤ l.length) : plays z (l.take i) = play z l := by
  unfold play
  rcases h with rfl | rfl
  · rw [List.take_of_length_le (Nat.le_refl _), List.take_of_length_le h2]
  · rfl
theorem stepU {z : RS} {a : ActP} (h : a.un = true) : stepA z a = rUnd z := by unfold stepA; rw [if_pos h]
theorem stepC {z : RS} {a : ActP} (h : a.un = false) : stepA z a = rCom z (listA a.qs) := by unfold stepA; rw [if_neg (by simp [h])]
theorem stepA_size {z : RS} (h : z.Ok) (hn : z.n ≤ 10000000) (a : ActP) : (stepA z a).1.size ≤ 205011 := by
  rcases stepA_cases h hn a with ⟨e1, _, _⟩ | ⟨k, p, e1, hp, _, _⟩
  · rw [e1]; exact Nat.zero_le _
  · rw [e1, recS_size]; omega
theorem plStep_z (q : Pl) (a : ActP) : (plStep q a).z = (stepA q.z a).2.2 := rfl
theorem plStep_s (q : Pl) (a : ActP) : (plStep q a).s = q.s ++ (stepA q.z a).1 := rfl
theorem plStep_l1 {q : Pl} {a : ActP} (h : (stepA q.z a).2.1 = 0) : (plStep q a).ls = q.ls ++ [(q.s ++ (stepA q.z a).1).size] := by unfold plStep; simp only; rw [if_pos h]
theorem plStep_l0 {q : Pl} {a : ActP} (h : ¬ (stepA q.z a).2.1 = 0) : (plStep q a).ls = q.ls := by unfold plStep; simp only; rw [if_neg h]
theorem lens_row {H H' : Hp} {u : Value} {l : List Nat} {seg : Seg} (h : Row 3 1 u l.length (lensV l) seg) (hz : ∀ p ∈ seg, H p.1 = some p.2) (hl : Le H H') : rd H' (.s 1 (lensD l)) u := (rd.ofRow h hz (RdL.vals _) (Le.refl _)).mono hl
end Go.Proofs.YteeamfkhkbfilaaGreat.K

namespace Go.Proofs.YteeamfkhkbfilaaGreat.K
open Go Go.RowKit Go.Proofs

theorem law_played {acts : List ActP} (hq : AOk acts) {z : RS} (hz : z.Ok) (hn : z.n ≤ 1000) {w0 : World} {H : Hp} {own : List Seg} {gp gs : Nat} {fm uv lv : Value} {sm su : Seg} {xu : List Value} (hm : PSm H gp z fm uv sm su xu) {fv bv cv : Value} {sb sc : Seg} {xb xc : List Value} (hr : RSm H z fv bv cv sb sc xb xc) {v : Value} (hA : rd H (.s 2 (actsD acts)) v) :
    Fn Tryz.prog 12 [.pointer (some ⟨gp, 0, none⟩), .pointer (some ⟨gs, 0, none⟩), v] w0 H ([(gp, .cells #[fm, .int .i64 (z.n : Int), uv, lv] 37 (0, 0))] :: sm :: su :: [(gs, .cells #[fv, .int .i64 (z.n : Int), bv, cv] 28 (0, 0))] :: sb :: sc :: own)
      (fun r own' H' => ∃ ll fm' uv' sm' su' xu' fv' bv' cv' sb' sc' xb' xc', r = .tuple #[.string (play z acts).s, ll, .bool true] ∧ rd H' (.s 1 (lensD (play z acts).ls)) ll ∧ own' = [(gp, .cells #[fm', .int .i64 ((play z acts).z.n : Int), uv', lv] 37 (0, 0))] :: sm' :: su' :: [(gs, .cells #[fv', .int .i64 ((play z acts).z.n : Int), bv', cv'] 28 (0, 0))] :: sb' :: sc' :: own ∧ PSm H' gp (play z acts).z fm' uv' sm' su' xu' ∧ RSm H' (play z acts).z fv' bv' cv' sb' sc' xb' xc' ∧ Le H H') := by
  obtain ⟨A, c, rfl, hc1, hc2⟩ := acts_len hA
  refine Fn.enter Tryz.func12 rfl Tryz.ntmps12 rfl ?_; have hL := Le.refl H; refine TC.seq ?_; refine TC.region ?_; refine TL.assign rfl rfl ?_; refine TL.assign rfl rfl ?_; refine TL.assign rfl rfl ?_; refine TL.nsr ?_; refine TL.assign rfl rfl ?_; refine TL.nsr ?_
  refine TL.litF (r := [_]) [(0, [_])] ⟨rfl, ⟨_, rfl, rfl⟩, trivial⟩ rfl rfl rfl rfl ?_; intro g16; refine TL.assign rfl rfl ?_; refine TL.nil ?_; refine TQ.then_n ?_; refine TC.seq ?_; refine TC.seq ?_
  refine TC.sel 7 [1, 2, 3, 4, 5, 6, 0] rfl (fun o ho => ?_)
  simp only [K.sel, List.map_cons, List.map_nil, List.getD_cons_zero, List.getD_cons_succ, List.drop_succ_cons, List.drop_zero, List.cons_append, List.nil_append, List.set_cons_zero, List.set_cons_succ] at ho; subst ho
  refine TC.region ?_; refine TL.assign rfl rfl ?_; refine TL.nil ?_; refine TQ.then_n ?_; refine TC.block ?_
  refine TC.loop (fun n env' own' H' => ∃ i fm uv sm su xu fv bv cv sb sc xb xc ll row, n = acts.length - i ∧ i ≤ acts.length ∧ i ≤ 20 ∧ PSm H' gp (plays z (acts.take i)).z fm uv sm su xu ∧ RSm H' (plays z (acts.take i)).z fv bv cv sb sc xb xc ∧ Row 3 1 ll (plays z (acts.take i)).ls.length (lensV (plays z (acts.take i)).ls) row ∧ env' = [(0, .pointer (some ⟨gp, 0, none⟩)), (1, .pointer (some ⟨gs, 0, none⟩)), (2, .slice A acts.length c), (9, .string (plays z (acts.take i)).s), (10, ll), (11, .int .i64 (i : Int))] ∧ own' = [(gp, .cells #[fm, .int .i64 ((plays z (acts.take i)).z.n : Int), uv, lv] 37 (0, 0))] :: sm :: su :: [(gs, .cells #[fv, .int .i64 ((plays z (acts.take i)).z.n : Int), bv, cv] 28 (0, 0))] :: sb :: sc :: row :: own ∧ Le H H') acts.length [(0, _), (1, _), (2, _), (9, _), (10, _), (11, _)] ⟨rfl, rfl, rfl, rfl, rfl, rfl, trivial⟩ ⟨0, _, _, _, _, _, _, _, _, _, _, _, _, _, _, by omega, by omega, by omega, hm, hr, Row.lit 3 1 1 _ _ rfl (by omega), rfl, rfl, Le.refl _⟩ ?_
  rintro n _ _ H1 ⟨i, fm, uv, sm, su, xu, fv, bv, cv, sb, sc, xb, xc, ll, row, rfl, hi1, hi20, hm, hr, hrow, rfl, rfl, hle0⟩
  obtain ⟨hqo, hqn, hqs, hql⟩ := plays_at hz hn hi1 hi20
  obtain ⟨q, hqq⟩ : ∃ q, q = (plays z (acts.take i)) := ⟨_, rfl⟩
  rw [← hqq] at hm hr hrow hqo hqn hqs hql ⊢
  have hL := Le.trans hL hle0; have hA := rd.mono hle0 hA; refine TC.seq ?_; refine TC.seq ?_; refine TC.region ?_; refine TL.move rfl rfl ?_; refine TL.move rfl rfl ?_; refine TL.len_slice rfl rfl ?_
  refine TL.lssB rfl rfl rfl (fun hlt => ?_) (fun hlt => ?_)
  ·
   obtain ⟨a, hx⟩ : ∃ a, acts[i]? = some a := ⟨_, List.getElem?_eq_getElem (by omega)⟩
   have hq1 := hq a (List.mem_of_getElem? hx)
   obtain ⟨b1, o1, u1, rfl, hpx, hqr⟩ := acts_at hA hx
   have hss := stepA_size hqo (by omega) a
   refine TL.move rfl rfl ?_; refine TL.gyes rfl rfl rfl ?_; refine TL.move rfl rfl ?_; refine TL.gyes rfl rfl rfl ?_
   refine TL.lssB rfl rfl rfl (fun hlt2 => ?_) (fun hlt2 => ?_)
   ·
    refine TL.pickT rfl rfl rfl rfl ?_; refine TL.nil ?_; refine TQ.then_n ?_; refine TC.cond_t rfl ?_; refine TC.skip ?_; refine TQ.then_n ?_; refine TC.seq ?_; refine TC.block ?_; refine TC.seq ?_; refine TC.region ?_; refine TL.assign rfl rfl ?_; refine TL.nsr ?_; refine TL.assign rfl rfl ?_; refine TL.nsr ?_; refine TL.assign rfl rfl ?_; refine TL.nsr ?_; refine TL.assign rfl rfl ?_; refine TL.nil ?_; refine TQ.then_n ?_; refine TC.seq ?_; refine TC.seq ?_; refine TC.region ?_; refine TL.move rfl rfl ?_; refine TL.move rfl rfl ?_; refine TL.indexAddr (i) rfl rfl rfl (by omega) rfl ?_; refine TL.fieldAddr rfl rfl ?_; refine TL.load_imm rfl (hpx.1) rfl ?_; refine TL.nil ?_; refine TQ.then_n ?_
    refine TC.cond rfl (fun hun => ?_) (fun hun => ?_)
    ·
     refine TC.seq ?_; refine TC.region ?_; refine TL.move rfl rfl ?_; refine TL.call (proj_Undo hqo (by omega) hm) ⟨rfl, trivial⟩ rfl ?_
     rintro _ _ H34 ⟨fm2, uv2, sm2, su2, xu2, rfl, rfl, hm2, hle34⟩
     rw [← stepU hun] at hm2 ⊢
     have hL := Le.trans hL hle34; have hle0 := Le.trans hle0 hle34; have hr := RSm.mono hle34 hr; refine TL.move rfl rfl ?_; refine TL.extract rfl rfl rfl ?_; refine TL.extract rfl rfl rfl ?_; refine TL.assign rfl rfl ?_; refine TL.assign rfl rfl ?_; refine TL.nil ?_; refine TQ.then_n ?_; refine TC.region ?_; refine TL.move rfl rfl ?_
     refine TL.sel 7 [3, 4, 5, 0, 1, 2, 6] rfl (fun o ho => ?_)
     simp only [K.sel, List.map_cons, List.map_nil, List.getD_cons_zero, List.getD_cons_succ, List.drop_succ_cons, List.drop_zero, List.cons_append, List.nil_append, List.set_cons_zero, List.set_cons_succ] at ho; subst ho
     refine TL.call (ref_Undo hqo (by omega) hr) ⟨rfl, trivial⟩ rfl ?_
     rintro _ _ H39 ⟨fv2, bv2, cv2, sb2, sc2, xb2, xc2, rfl, rfl, hr2, hle39⟩
     rw [← stepU hun] at hr2 ⊢
     have hL := Le.trans hL hle39; have hle0 := Le.trans hle0 hle39; have hm2 := PSm.mono hle39 hm2; refine TL.move rfl rfl ?_; refine TL.extract rfl rfl rfl ?_; refine TL.extract rfl rfl rfl ?_; refine TL.assign rfl rfl ?_; refine TL.assign rfl rfl ?_; refine TL.nil ?_; refine TQ.then_n ?_; refine TC.seq ?_; refine TC.seq ?_; refine TC.region ?_; refine TL.move rfl rfl ?_; refine TL.move rfl rfl ?_; refine TL.neqS rfl rfl rfl ?_
     rw [decide_eq_false (fun h => h rfl)]
     refine TL.move rfl rfl ?_; refine TL.gyes rfl rfl rfl ?_; refine TL.move rfl rfl ?_; refine TL.gyes rfl rfl rfl ?_; refine TL.move rfl rfl ?_; refine TL.gyes rfl rfl rfl ?_; refine TL.neq rfl rfl rfl ?_
     rw [decide_eq_false (fun h => h rfl)]
     refine TL.pickF rfl rfl rfl rfl ?_; refine TL.nil ?_; refine TQ.then_n ?_; refine TC.cond_f rfl ?_; refine TC.skip ?_; refine TQ.nsr ?_; refine TL.move rfl rfl ?_; refine TL.move rfl rfl ?_; refine TL.addS rfl rfl rfl (by omega) ?_; refine TL.assign rfl rfl ?_; refine TL.nsr ?_; refine TL.move rfl rfl ?_
     refine TL.eqlB rfl rfl rfl (fun he => ?_) (fun he => ?_)
     ·
      refine TL.nil ?_; refine TQ.then_n ?_; refine TC.cond_t rfl ?_; refine TC.region ?_; refine TL.move rfl rfl ?_; refine TL.move rfl rfl ?_; refine TL.len_string rfl rfl ?_
      refine TL.litF (r := [_]) [(0, [_])] ⟨rfl, ⟨_, rfl, rfl⟩, trivial⟩ rfl rfl rfl rfl ?_; intro g78; refine TL.append 7 rfl rfl rfl hrow (Src.ofOwn 0 0 rfl rfl rfl (Ones.all (show Ones [_] from ⟨by rfl, trivial⟩)) ⟨rfl, trivial⟩) (by omega) (by omega) rfl ?_; intro v79 row79 hrow2; refine TL.assign rfl rfl ?_; refine TL.nil ?_; refine TQ.in_n ?_; refine TQ.then_n ?_; refine TC.region ?_; refine TL.move rfl rfl ?_; refine TL.add rfl rfl rfl ⟨by omega, by omega⟩ ?_; refine TL.assign rfl rfl ?_; refine TL.nil ?_
      refine TQ.sel 8 [4, 5, 6, 1, 2, 3, 7] rfl (fun o ho => ?_)
      simp only [K.sel, List.map_cons, List.map_nil, List.getD_cons_zero, List.getD_cons_succ, List.drop_succ_cons, List.drop_zero, List.cons_append, List.nil_append, List.set_cons_zero, List.set_cons_succ] at ho; subst ho
      have hpl : plays z (acts.take (i + 1)) = plStep q a := by rw [plays_take hx, ← hqq]
      refine TQ.next (acts.length - (i + 1)) [(0, _), (1, _), (2, _), (9, _), (10, _), (11, _)] (by omega) ⟨rfl, rfl, rfl, rfl, rfl, rfl, trivial⟩ ⟨i + 1, _, _, _, _, _, _, _, _, _, _, _, _, _, _, rfl, by omega, by omega, by rw [hpl, plStep_z]; exact hm2, by rw [hpl, plStep_z]; exact hr2, ?_, by rw [hpl, plStep_s]; rfl, by rw [hpl, plStep_z], hle0⟩
      rw [hpl]
      first
        | (rw [plStep_l1 he, List.length_append, lensV, List.map_append]; exact hrow2)
        | (rw [plStep_l0 he]; exact hrow)
     ·
      refine TL.nil ?_; refine TQ.then_n ?_; refine TC.cond_f rfl ?_; refine TC.skip ?_; refine TQ.in_n ?_; refine TQ.then_n ?_; refine TC.region ?_; refine TL.move rfl rfl ?_; refine TL.add rfl rfl rfl ⟨by omega, by omega⟩ ?_; refine TL.assign rfl rfl ?_; refine TL.nil ?_
      refine TQ.sel 7 [3, 4, 5, 0, 1, 2, 6] rfl (fun o ho => ?_)
      simp only [K.sel, List.map_cons, List.map_nil, List.getD_cons_zero, List.getD_cons_succ, List.drop_succ_cons, List.drop_zero, List.cons_append, List.nil_append, List.set_cons_zero, List.set_cons_succ] at ho; subst ho
      have hpl : plays z (acts.take (i + 1)) = plStep q a := by rw [plays_take hx, ← hqq]
      refine TQ.next (acts.length - (i + 1)) [(0, _), (1, _), (2, _), (9, _), (10, _), (11, _)] (by omega) ⟨rfl, rfl, rfl, rfl, rfl, rfl, trivial⟩ ⟨i + 1, _, _, _, _, _, _, _, _, _, _, _, _, _, _, rfl, by omega, by omega, by rw [hpl, plStep_z]; exact hm2, by rw [hpl, plStep_z]; exact hr2, ?_, by rw [hpl, plStep_s]; rfl, by rw [hpl, plStep_z], hle0⟩
      rw [hpl]
      first
        | (rw [plStep_l1 he, List.length_append, lensV, List.map_append]; exact hrow2)
        | (rw [plStep_l0 he]; exact hrow)
    ·
     refine TC.seq ?_; refine TC.region ?_; refine TL.move rfl rfl ?_; refine TL.move rfl rfl ?_; refine TL.move rfl rfl ?_; refine TL.indexAddr (i) rfl rfl rfl (by omega) rfl ?_; refine TL.load_immA rfl (hpx) rfl rfl ?_; refine TL.call (ref_List hq1 hqr) ⟨rfl, trivial⟩ rfl ?_
     rintro v48 _ H48 ⟨hA48, rfl, hle48⟩
     have hL := Le.trans hL hle48; have hle0 := Le.trans hle0 hle48; have hm := PSm.mono hle48 hm; have hr := RSm.mono hle48 hr; have hpx := hAt.mono hle48 hpx; have hqr := rd.mono hle48 hqr; refine TL.call (proj_Commit hqo (by omega) (listA_ok a.qs).1 hm hA48) ⟨rfl, rfl, trivial⟩ rfl ?_
     rintro _ _ H49 ⟨fm2, uv2, sm2, su2, xu2, rfl, rfl, hm2, hle49⟩
     rw [← stepC hun] at hm2 ⊢
     have hL := Le.trans hL hle49; have hle0 := Le.trans hle0 hle49; have hr := RSm.mono hle49 hr; have hpx := hAt.mono hle49 hpx; have hqr := rd.mono hle49 hqr; refine TL.move rfl rfl ?_; refine TL.extract rfl rfl rfl ?_; refine TL.extract rfl rfl rfl ?_; refine TL.assign rfl rfl ?_; refine TL.assign rfl rfl ?_; refine TL.nil ?_; refine TQ.then_n ?_; refine TC.region ?_; refine TL.move rfl rfl ?_; refine TL.move rfl rfl ?_; refine TL.move rfl rfl ?_; refine TL.indexAddr (i) rfl rfl rfl (by omega) rfl ?_; refine TL.load_immA rfl (hpx) rfl rfl ?_; refine TL.call (ref_List hq1 hqr) ⟨rfl, trivial⟩ rfl ?_
     rintro v58 _ H58 ⟨hA58, rfl, hle58⟩
     have hL := Le.trans hL hle58; have hle0 := Le.trans hle0 hle58; have hr := RSm.mono hle58 hr; have hm2 := PSm.mono hle58 hm2
     refine TL.sel 7 [3, 4, 5, 0, 1, 2, 6] rfl (fun o ho => ?_)
     simp only [K.sel, List.map_cons, List.map_nil, List.getD_cons_zero, List.getD_cons_succ, List.drop_succ_cons, List.drop_zero, List.cons_append, List.nil_append, List.set_cons_zero, List.set_cons_succ] at ho; subst ho
     refine TL.call (ref_Commit hqo (by omega) (listA_ok a.qs).1 hr hA58) ⟨rfl, rfl, trivial⟩ rfl ?_
     rintro _ _ H59 ⟨fv2, bv2, cv2, sb2, sc2, xb2, xc2, rfl, rfl, hr2, hle59⟩
     rw [← stepC hun] at hr2 ⊢
     have hL := Le.trans hL hle59; have hle0 := Le.trans hle0 hle59; have hm2 := PSm.mono hle59 hm2; refine TL.move rfl rfl ?_; refine TL.extract rfl rfl rfl ?_; refine TL.extract rfl rfl rfl ?_; refine TL.assign rfl rfl ?_; refine TL.assign rfl rfl ?_; refine TL.nil ?_; refine TQ.then_n ?_; refine TC.seq ?_; refine TC.seq ?_; refine TC.region ?_; refine TL.move rfl rfl ?_; refine TL.move rfl rfl ?_; refine TL.neqS rfl rfl rfl ?_
     rw [decide_eq_false (fun h => h rfl)]
     refine TL.move rfl rfl ?_; refine TL.gyes rfl rfl rfl ?_; refine TL.move rfl rfl ?_; refine TL.gyes rfl rfl rfl ?_; refine TL.move rfl rfl ?_; refine TL.gyes rfl rfl rfl ?_; refine TL.neq rfl rfl rfl ?_
     rw [decide_eq_false (fun h => h rfl)]
     refine TL.pickF rfl rfl rfl rfl ?_; refine TL.nil ?_; refine TQ.then_n ?_; refine TC.cond_f rfl ?_; refine TC.skip ?_; refine TQ.nsr ?_; refine TL.move rfl rfl ?_; refine TL.move rfl rfl ?_; refine TL.addS rfl rfl rfl (by omega) ?_; refine TL.assign rfl rfl ?_; refine TL.nsr ?_; refine TL.move rfl rfl ?_
     refine TL.eqlB rfl rfl rfl (fun he => ?_) (fun he => ?_)
     ·
      refine TL.nil ?_; refine TQ.then_n ?_; refine TC.cond_t rfl ?_; refine TC.region ?_; refine TL.move rfl rfl ?_; refine TL.move rfl rfl ?_; refine TL.len_string rfl rfl ?_
      refine TL.litF (r := [_]) [(0, [_])] ⟨rfl, ⟨_, rfl, rfl⟩, trivial⟩ rfl rfl rfl rfl ?_; intro g78; refine TL.append 7 rfl rfl rfl hrow (Src.ofOwn 0 0 rfl rfl rfl (Ones.all (show Ones [_] from ⟨by rfl, trivial⟩)) ⟨rfl, trivial⟩) (by omega) (by omega) rfl ?_; intro v79 row79 hrow2; refine TL.assign rfl rfl ?_; refine TL.nil ?_; refine TQ.in_n ?_; refine TQ.then_n ?_; refine TC.region ?_; refine TL.move rfl rfl ?_; refine TL.add rfl rfl rfl ⟨by omega, by omega⟩ ?_; refine TL.assign rfl rfl ?_; refine TL.nil ?_
      refine TQ.sel 8 [4, 5, 6, 1, 2, 3, 7] rfl (fun o ho => ?_)
      simp only [K.sel, List.map_cons, List.map_nil, List.getD_cons_zero, List.getD_cons_succ, List.drop_succ_cons, List.drop_zero, List.cons_append, List.nil_append, List.set_cons_zero, List.set_cons_succ] at ho; subst ho
      have hpl : plays z (acts.take (i + 1)) = plStep q a := by rw [plays_take hx, ← hqq]
      refine TQ.next (acts.length - (i + 1)) [(0, _), (1, _), (2, _), (9, _), (10, _), (11, _)] (by omega) ⟨rfl, rfl, rfl, rfl, rfl, rfl, trivial⟩ ⟨i + 1, _, _, _, _, _, _, _, _, _, _, _, _, _, _, rfl, by omega, by omega, by rw [hpl, plStep_z]; exact hm2, by rw [hpl, plStep_z]; exact hr2, ?_, by rw [hpl, plStep_s]; rfl, by rw [hpl, plStep_z], hle0⟩
      rw [hpl]
      first
        | (rw [plStep_l1 he, List.length_append, lensV, List.map_append]; exact hrow2)
        | (rw [plStep_l0 he]; exact hrow)
     ·
      refine TL.nil ?_; refine TQ.then_n ?_; refine TC.cond_f rfl ?_; refine TC.skip ?_; refine TQ.in_n ?_; refine TQ.then_n ?_; refine TC.region ?_; refine TL.move rfl rfl ?_; refine TL.add rfl rfl rfl ⟨by omega, by omega⟩ ?_; refine TL.assign rfl rfl ?_; refine TL.nil ?_
      refine TQ.sel 7 [3, 4, 5, 0, 1, 2, 6] rfl (fun o ho => ?_)
      simp only [K.sel, List.map_cons, List.map_nil, List.getD_cons_zero, List.getD_cons_succ, List.drop_succ_cons, List.drop_zero, List.cons_append, List.nil_append, List.set_cons_zero, List.set_cons_succ] at ho; subst ho
      have hpl : plays z (acts.take (i + 1)) = plStep q a := by rw [plays_take hx, ← hqq]
      refine TQ.next (acts.length - (i + 1)) [(0, _), (1, _), (2, _), (9, _), (10, _), (11, _)] (by omega) ⟨rfl, rfl, rfl, rfl, rfl, rfl, trivial⟩ ⟨i + 1, _, _, _, _, _, _, _, _, _, _, _, _, _, _, rfl, by omega, by omega, by rw [hpl, plStep_z]; exact hm2, by rw [hpl, plStep_z]; exact hr2, ?_, by rw [hpl, plStep_s]; rfl, by rw [hpl, plStep_z], hle0⟩
      rw [hpl]
      first
        | (rw [plStep_l1 he, List.length_append, lensV, List.map_append]; exact hrow2)
        | (rw [plStep_l0 he]; exact hrow)
   ·
    refine TL.pickT rfl rfl rfl rfl ?_; refine TL.nil ?_; refine TQ.then_n ?_; refine TC.cond_f rfl ?_; refine TC.exit ?_; refine TQ.then_e ?_; refine TQ.then_e ?_; refine TQ.in_e ?_; refine TQ.then_n ?_; refine TC.seq ?_; refine TC.toOwn (own' := _ :: _ :: _ :: _ :: _ :: _ :: _ :: own) rfl ?_; refine TC.drawQV 10  [(0, _), (1, _), (2, _), (9, _), (10, _), (11, _)] follows_mixed ⟨rfl, rfl, rfl, rfl, rfl, rfl, trivial⟩ ?_; refine ChainV.q (some 80) [] (fun _ _ _ _ hF => TL.move rfl rfl (TL.one hF)) ?_; refine ChainV.q (some 81) [] (fun _ _ _ _ hF => TL.move rfl rfl (TL.one hF)) ?_; refine ChainV.q (some 82) [] (fun _ _ _ _ hF => TL.move rfl rfl (TL.one hF)) ?_
    refine ChainV.r (some 83) [(2, 0)] ([]) (fun _ => fun r s H => rd H (.s 4 (factsD q.z.facts)) r ∧ s = []) (by
     intro H' X F hle; have hL := Le.trans hL hle; have hm := PSm.mono hle hm; intro hF; refine TL.call (proj_Facts (l := q.z.facts) (m := 1000 * q.z.n) hqo.now (by omega) hm.m) ⟨rfl, trivial⟩ rfl ?_
     rintro r83 _ H83 ⟨seg83, hrow83, rfl, hle83⟩
     refine TL.nil ?_
     refine TQ.freeze (fun H9 hle9 hz => ?_)
     exact TQ.one [] hF (hle83.trans hle9) ⟨facts_row hrow83 hz (Le.refl _), rfl⟩) ?_
    refine ChainV.q (some 84) [] (fun _ _ _ _ hF => TL.move rfl rfl (TL.one hF)) ?_; refine ChainV.q (some 85) [(4, 0)] (fun _ _ _ _ hF => TL.nilCheck rfl rfl (TL.one hF)) ?_; refine ChainV.q (some 86) [(5, 0)] (fun _ _ _ _ hF => TL.fieldAddr rfl rfl (TL.one hF)) ?_
    refine ChainV.q (some 87) [(6, 0)] (by
     intro H' X F hle; have hL := Le.trans hL hle; intro hF; refine TL.load_own 3 0 rfl rfl rfl rfl rfl ?_
     exact TL.one hF) ?_
    refine ChainV.q (some 88) [(3, 4), (7, 0)] (by
     intro H' X F hle; have hL := Le.trans hL hle; have hr := RSm.mono hle hr; intro _
     rintro r83 _ Hi83 hle83 ⟨hr83, rfl⟩
     replace hr83 := rd.mono hle83 hr83
     intro hF; refine TL.call (ref_SameFacts hqo.now.fok hqo.now.fok hr83 hr.f) ⟨rfl, rfl, trivial⟩ rfl ?_
     rintro _ _ H88 ⟨rfl, rfl, hle88⟩
     rw [decide_eq_true rfl]
     have hL := Le.trans hL hle88; refine TL.nil ?_
     exact TQ.one [] hF hle88 ⟨rfl, rfl⟩) ?_
    refine ChainV.q (some 6) [(0, 8)] (fun _ _ _ _ hF => TL.assign rfl rfl (TL.one hF)) ?_
    refine ⟨by kernel_rfl, .refl _, ?_⟩
    ·
     intro H2 hle
     rintro r83 _ Hi83 hle83 ⟨hr83, rfl⟩
     have hL := Le.trans hL hle; have hm := PSm.mono hle hm; have hr := RSm.mono hle hr; refine TL.toOwn (own' := _ :: _ :: _ :: _ :: _ :: _ :: _ :: own) rfl ?_; refine TL.wk (env' := [(0, _), (1, _), (2, _), (9, _), (10, _), (11, _), (81, _), (88, _), (6, _)]) ⟨rfl, rfl, rfl, rfl, rfl, rfl, rfl, rfl, rfl, trivial⟩ ?_; refine TL.assign rfl rfl ?_; refine TL.assign rfl rfl ?_; refine TL.nil ?_; refine TQ.then_n ?_; refine TC.ret ?_
     refine TQ.sel 7 [6, 0, 1, 2, 3, 4, 5] rfl (fun o ho => ?_)
     simp only [K.sel, List.map_cons, List.map_nil, List.getD_cons_zero, List.getD_cons_succ, List.drop_succ_cons, List.drop_zero, List.cons_append, List.nil_append, List.set_cons_zero, List.set_cons_succ] at ho; subst ho
     refine TQ.freeze (fun H3 hle hz_row => ?_)
     have hL := Le.trans hL hle; have hm := PSm.mono hle hm; have hr := RSm.mono hle hr; refine TQ.toOwn (own' := _ :: _ :: _ :: _ :: _ :: _ :: own) rfl ?_; refine TQ.ret3 0 rfl rfl rfl rfl ?_
     have hal : q = play z acts := by rw [hqq]; exact play_all (by omega) hi20 hi1
     rw [hal] at hm hr hrow ⊢
     exact ⟨_, _, _, _, _, _, _, _, _, _, _, _, _, rfl, lens_row hrow hz_row (Le.refl _), rfl, hm, hr, hL⟩
  ·
   refine TL.move rfl rfl ?_; refine TL.gno rfl rfl rfl rfl ?_; refine TL.gno rfl rfl rfl rfl ?_; refine TL.pickF rfl rfl rfl rfl ?_; refine TL.nil ?_; refine TQ.then_n ?_; refine TC.cond_f rfl ?_; refine TC.exit ?_; refine TQ.then_e ?_; refine TQ.then_e ?_; refine TQ.in_e ?_; refine TQ.then_n ?_; refine TC.seq ?_; refine TC.toOwn (own' := _ :: _ :: _ :: _ :: _ :: _ :: _ :: own) rfl ?_; refine TC.drawQV 10  [(0, _), (1, _), (2, _), (9, _), (10, _), (11, _)] follows_mixed ⟨rfl, rfl, rfl, rfl, rfl, rfl, trivial⟩ ?_; refine ChainV.q (some 80) [] (fun _ _ _ _ hF => TL.move rfl rfl (TL.one hF)) ?_; refine ChainV.q (some 81) [] (fun _ _ _ _ hF => TL.move rfl rfl (TL.one hF)) ?_; refine ChainV.q (some 82) [] (fun _ _ _ _ hF => TL.move rfl rfl (TL.one hF)) ?_
   refine ChainV.r (some 83) [(2, 0)] ([]) (fun _ => fun r s H => rd H (.s 4 (factsD q.z.facts)) r ∧ s = []) (by
    intro H' X F hle; have hL := Le.trans hL hle; have hm := PSm.mono hle hm; intro hF; refine TL.call (proj_Facts (l := q.z.facts) (m := 1000 * q.z.n) hqo.now (by omega) hm.m) ⟨rfl, trivial⟩ rfl ?_
    rintro r83 _ H83 ⟨seg83, hrow83, rfl, hle83⟩
    refine TL.nil ?_
    refine TQ.freeze (fun H9 hle9 hz => ?_)
    exact TQ.one [] hF (hle83.trans hle9) ⟨facts_row hrow83 hz (Le.refl _), rfl⟩) ?_
   refine ChainV.q (some 84) [] (fun _ _ _ _ hF => TL.move rfl rfl (TL.one hF)) ?_; refine ChainV.q (some 85) [(4, 0)] (fun _ _ _ _ hF => TL.nilCheck rfl rfl (TL.one hF)) ?_; refine ChainV.q (some 86) [(5, 0)] (fun _ _ _ _ hF => TL.fieldAddr rfl rfl (TL.one hF)) ?_
   refine ChainV.q (some 87) [(6, 0)] (by
    intro H' X F hle; have hL := Le.trans hL hle; intro hF; refine TL.load_own 3 0 rfl rfl rfl rfl rfl ?_
    exact TL.one hF) ?_
   refine ChainV.q (some 88) [(3, 4), (7, 0)] (by
    intro H' X F hle; have hL := Le.trans hL hle; have hr := RSm.mono hle hr; intro _
    rintro r83 _ Hi83 hle83 ⟨hr83, rfl⟩
    replace hr83 := rd.mono hle83 hr83
    intro hF; refine TL.call (ref_SameFacts hqo.now.fok hqo.now.fok hr83 hr.f) ⟨rfl, rfl, trivial⟩ rfl ?_
    rintro _ _ H88 ⟨rfl, rfl, hle88⟩
    rw [decide_eq_true rfl]
    have hL := Le.trans hL hle88; refine TL.nil ?_
    exact TQ.one [] hF hle88 ⟨rfl, rfl⟩) ?_
   refine ChainV.q (some 6) [(0, 8)] (fun _ _ _ _ hF => TL.assign rfl rfl (TL.one hF)) ?_
   refine ⟨by kernel_rfl, .refl _, ?_⟩
   ·
    intro H4 hle
    rintro r83 _ Hi83 hle83 ⟨hr83, rfl⟩
    have hL := Le.trans hL hle; have hm := PSm.mono hle hm; have hr := RSm.mono hle hr; refine TL.toOwn (own' := _ :: _ :: _ :: _ :: _ :: _ :: _ :: own) rfl ?_; refine TL.wk (env' := [(0, _), (1, _), (2, _), (9, _), (10, _), (11, _), (81, _), (88, _), (6, _)]) ⟨rfl, rfl, rfl, rfl, rfl, rfl, rfl, rfl, rfl, trivial⟩ ?_; refine TL.assign rfl rfl ?_; refine TL.assign rfl rfl ?_; refine TL.nil ?_; refine TQ.then_n ?_; refine TC.ret ?_
    refine TQ.sel 7 [6, 0, 1, 2, 3, 4, 5] rfl (fun o ho => ?_)
    simp only [K.sel, List.map_cons, List.map_nil, List.getD_cons_zero, List.getD_cons_succ, List.drop_succ_cons, List.drop_zero, List.cons_append, List.nil_append, List.set_cons_zero, List.set_cons_succ] at ho; subst ho
    refine TQ.freeze (fun H5 hle hz_row => ?_)
    have hL := Le.trans hL hle; have hm := PSm.mono hle hm; have hr := RSm.mono hle hr; refine TQ.toOwn (own' := _ :: _ :: _ :: _ :: _ :: _ :: own) rfl ?_; refine TQ.ret3 0 rfl rfl rfl rfl ?_
    have hal : q = play z acts := by rw [hqq]; exact play_all (by omega) hi20 hi1
    rw [hal] at hm hr hrow ⊢
    exact ⟨_, _, _, _, _, _, _, _, _, _, _, _, _, rfl, lens_row hrow hz_row (Le.refl _), rfl, hm, hr, hL⟩


end Go.Proofs.YteeamfkhkbfilaaGreat.K

namespace Go.Proofs.YteeamfkhkbfilaaGreat.K
open Go Go.RowKit Go.Proofs

theorem law_projectplays {acts : List ActP} (hq : AOk acts) {w0 : World} {H : Hp} {own : List Seg} {v : Value} (hA : rd H (.s 2 (actsD acts)) v) :
    Fn Tryz.prog 3 [v] w0 H own (fun r own' H' => r = .bool true ∧ own' = own ∧ Le H H') := by
  refine Fn.enter Tryz.func3 rfl Tryz.ntmps3 rfl ?_; have hL := Le.refl H; refine TC.seq ?_; refine TC.region ?_; refine TL.assign rfl rfl ?_; refine TL.nsr ?_; refine TL.call (law_sanity) trivial rfl ?_
  rintro _ own H8 ⟨rfl, rfl, hle8⟩
  have hL := Le.trans hL hle8; have hA := rd.mono hle8 hA; refine TL.assign rfl rfl ?_; refine TL.nsr ?_; refine TL.struct [] trivial rfl rfl ?_
  refine TL.box (c := #[_, _, _, _]) rfl rfl rfl ?_; intro g10; refine TL.assign rfl rfl ?_; refine TL.nil ?_; refine TQ.then_n ?_; refine TC.seq ?_; refine TC.nilseg ?_; refine TC.nilseg ?_; refine TC.nilseg ?_; refine TC.nilseg ?_; refine TC.region ?_; refine TL.struct [] trivial rfl rfl ?_
  refine TL.box (c := #[_, _, _, _]) rfl rfl rfl ?_; intro g13; refine TL.move rfl rfl ?_; refine TL.move rfl rfl ?_
  have hm0 : PSm H8 g13 RS.init (.map none) (.slice none 0 0) [] [] [] := ⟨PMap.nil _, Row.nil _ 1, trivial⟩
  have hr0 : RSm H8 RS.init (.slice none 0 0) (.slice none 0 0) (.slice none 0 0) [] [] [] [] := ⟨rd.nil _ 4, Row.nil _ 1, Row.nil _ 1, trivial, trivial⟩
  refine TL.sel 6 [0, 4, 3, 5, 2, 1] rfl (fun o ho => ?_)
  simp only [K.sel, List.map_cons, List.map_nil, List.getD_cons_zero, List.getD_cons_succ, List.drop_succ_cons, List.drop_zero, List.cons_append, List.nil_append, List.set_cons_zero, List.set_cons_succ] at ho; subst ho
  refine TL.call (law_played hq RS.init_ok (by decide) hm0 hr0 hA) ⟨rfl, rfl, rfl, trivial⟩ rfl ?_
  rintro _ _ H16 ⟨ll16, fm16, uv16, sm16, su16, xu16, fv16, bv16, cv16, sb16, sc16, xb16, xc16, rfl, hll16, rfl, hm16, hr16, hle16⟩
  have hL := Le.trans hL hle16; refine TL.move rfl rfl ?_; refine TL.extract rfl rfl rfl ?_; refine TL.extract rfl rfl rfl ?_; refine TL.extract rfl rfl rfl ?_; refine TL.assign rfl rfl ?_; refine TL.assign rfl rfl ?_; refine TL.assign rfl rfl ?_; refine TL.nsr ?_; refine TL.move rfl rfl ?_; refine TL.move rfl rfl ?_; refine TL.gyes rfl rfl rfl ?_; refine TL.move rfl rfl ?_; refine TL.pickT rfl rfl rfl rfl ?_; refine TL.assign rfl rfl ?_; refine TL.nil ?_; refine TQ.then_n ?_; refine TC.ret ?_; refine TQ.ret1 6 rfl rfl ?_
  exact ⟨rfl, rfl, hL⟩
theorem law_projectopens {acts more : List ActP} (hq : AOk acts) (hq2 : AOk more) {w0 : World} {H : Hp} {own : List Seg} {v v2 : Value} (hA : rd H (.s 2 (actsD acts)) v) (hB : rd H (.s 2 (actsD more)) v2) :
    Fn Tryz.prog 4 [v, v2] w0 H own (fun r own' H' => r = .bool true ∧ own' = own ∧ Le H H') := by
  refine Fn.enter Tryz.func4 rfl Tryz.ntmps4 rfl ?_; have hL := Le.refl H; refine TC.seq ?_; refine TC.region ?_; refine TL.assign rfl rfl ?_; refine TL.nsr ?_; refine TL.call (law_sanity) trivial rfl ?_
  rintro _ own H16 ⟨rfl, rfl, hle16⟩
  have hL := Le.trans hL hle16; have hA := rd.mono hle16 hA; have hB := rd.mono hle16 hB; refine TL.assign rfl rfl ?_; refine TL.nsr ?_; refine TL.struct [] trivial rfl rfl ?_
  refine TL.box (c := #[_, _, _, _]) rfl rfl rfl ?_; intro g18; refine TL.assign rfl rfl ?_; refine TL.nil ?_; refine TQ.then_n ?_; refine TC.seq ?_; refine TC.nilseg ?_; refine TC.nilseg ?_; refine TC.nilseg ?_; refine TC.nilseg ?_; refine TC.region ?_; refine TL.struct [] trivial rfl rfl ?_
  refine TL.box (c := #[_, _, _, _]) rfl rfl rfl ?_; intro g21; refine TL.move rfl rfl ?_; refine TL.move rfl rfl ?_
  have hm0 : PSm H16 g21 RS.init (.map none) (.slice none 0 0) [] [] [] := ⟨PMap.nil _, Row.nil _ 1, trivial⟩
  have hr0 : RSm H16 RS.init (.slice none 0 0) (.slice none 0 0) (.slice none 0 0) [] [] [] [] := ⟨rd.nil _ 4, Row.nil _ 1, Row.nil _ 1, trivial, trivial⟩
  refine TL.sel 6 [0, 4, 3, 5, 2, 1] rfl (fun o ho => ?_)
  simp only [K.sel, List.map_cons, List.map_nil, List.getD_cons_zero, List.getD_cons_succ, List.drop_succ_cons, List.drop_zero, List.cons_append, List.nil_append, List.set_cons_zero, List.set_cons_succ] at ho; subst ho
  refine TL.call (law_played hq RS.init_ok (by decide) hm0 hr0 hA) ⟨rfl, rfl, rfl, trivial⟩ rfl ?_
  rintro _ _ H24 ⟨ll24, fm24, uv24, sm24, su24, xu24, fv24, bv24, cv24, sb24, sc24, xb24, xc24, rfl, hll24, rfl, hm24, hr24, hle24⟩
  obtain ⟨q, hqq⟩ : ∃ q, q = play RS.init acts := ⟨_, rfl⟩
  have hok : PlOk 20 q := hqq ▸ play_ok acts
  have hqn := hok.n; have hqz := hok.size; have hqo := hok.ok
  rw [← hqq] at hll24 hm24 hr24 ⊢
  have hL := Le.trans hL hle24; have hB := rd.mono hle24 hB; refine TL.move rfl rfl ?_; refine TL.extract rfl rfl rfl ?_; refine TL.extract rfl rfl rfl ?_; refine TL.extract rfl rfl rfl ?_; refine TL.assign rfl rfl ?_; refine TL.assign rfl rfl ?_; refine TL.assign rfl rfl ?_; refine TL.nil ?_; refine TQ.then_n ?_; refine TC.seq ?_; refine TC.seq ?_; refine TC.region ?_; refine TL.move rfl rfl ?_; refine TL.not rfl rfl ?_; refine TL.nil ?_; refine TQ.then_n ?_; refine TC.cond_f rfl ?_; refine TC.skip ?_; refine TQ.nsr ?_; refine TL.move rfl rfl ?_; refine TL.call (proj_Open (s := q.s) (by omega)) ⟨rfl, trivial⟩ rfl ?_
  rintro _ _ H32 ⟨gpX, fmX, uvX, smX, suX, xuX, rfl, rfl, hmX, hle32⟩
  rw [hok.open_] at hmX ⊢
  have hL := Le.trans hL hle32; have hB := rd.mono hle32 hB; have hr24 := RSm.mono hle32 hr24; refine TL.move rfl rfl ?_; refine TL.extract rfl rfl rfl ?_; refine TL.extract rfl rfl rfl ?_; refine TL.assign rfl rfl ?_; refine TL.assign rfl rfl ?_; refine TL.nil ?_; refine TQ.then_n ?_; refine TC.seq ?_; refine TC.seq ?_; refine TC.region ?_; refine TL.move rfl rfl ?_; refine TL.eqlP rfl rfl rfl ?_; refine TL.move rfl rfl ?_; refine TL.gyes rfl rfl rfl ?_; refine TL.move rfl rfl ?_; refine TL.gyes rfl rfl rfl ?_; refine TL.move rfl rfl ?_; refine TL.gyes rfl rfl rfl ?_; refine TL.len_string rfl rfl ?_; refine TL.gyes rfl rfl rfl ?_; refine TL.neq rfl rfl rfl ?_
  rw [decide_eq_false (fun h => h rfl)]
  refine TL.pickF rfl rfl rfl rfl ?_; refine TL.nil ?_; refine TQ.then_n ?_; refine TC.cond_f rfl ?_; refine TC.skip ?_; refine TQ.then_n ?_; refine TC.seq ?_
  refine TC.sel 9 [0, 1, 2, 6, 7, 8] rfl (fun o ho => ?_)
  simp only [K.sel, List.map_cons, List.map_nil, List.getD_cons_zero, List.getD_cons_succ, List.drop_succ_cons, List.drop_zero, List.cons_append, List.nil_append, List.set_cons_zero, List.set_cons_succ] at ho; subst ho
  refine TC.drawQV 6  [(0, _), (1, _), (4, _), (5, _), (6, _), (7, _), (9, _), (10, _), (11, _)] follows_mixed ⟨rfl, rfl, rfl, rfl, rfl, rfl, rfl, rfl, rfl, trivial⟩ ?_; refine ChainV.q (some 43) [] (fun _ _ _ _ hF => TL.move rfl rfl (TL.one hF)) ?_
  refine ChainV.r (some 44) [(0, 0)] ([]) (fun _ => fun r sg H => rd H (.s 4 (factsD q.z.facts)) r ∧ sg = []) (by
   intro H' X F hle; have hL := Le.trans hL hle; have hmX := PSm.mono hle hmX; intro hF; refine TL.call (proj_Facts (l := q.z.facts) (m := 1000 * q.z.n) hqo.now (by omega) hmX.m) ⟨rfl, trivial⟩ rfl ?_
   rintro r44 _ H44 ⟨seg44, hrow44, rfl, hle44⟩
   refine TL.nil ?_
   refine TQ.freeze (fun H9 hle9 hz => ?_)
   exact TQ.one [] hF (hle44.trans hle9) ⟨facts_row hrow44 hz (Le.refl _), rfl⟩) ?_
  refine ChainV.q (some 45) [] (fun _ _ _ _ hF => TL.move rfl rfl (TL.one hF)) ?_; refine ChainV.q (some 46) [(2, 0)] (fun _ _ _ _ hF => TL.nilCheck rfl rfl (TL.one hF)) ?_; refine ChainV.q (some 47) [(3, 0)] (fun _ _ _ _ hF => TL.fieldAddr rfl rfl (TL.one hF)) ?_
  refine ChainV.q (some 48) [(4, 0)] (by
   intro H' X F hle; have hL := Le.trans hL hle; intro hF; refine TL.load_own 3 0 rfl rfl rfl rfl rfl ?_
   exact TL.one hF) ?_
  refine ⟨by kernel_rfl, .refl _, ?_⟩
  ·
   intro H1 hle
   rintro r44 _ Hi44 hle44 ⟨hr44, rfl⟩
   replace hr44 := rd.mono hle44 hr44
   have hL := Le.trans hL hle; have hB := rd.mono hle hB; have hr24 := RSm.mono hle hr24; have hmX := PSm.mono hle hmX; refine TL.toOwn (own' := _ :: _ :: _ :: _ :: _ :: _ :: own) rfl ?_; refine TL.wk (env' := [(0, _), (1, _), (4, _), (5, _), (6, _), (7, _), (9, _), (10, _), (11, _), (44, _), (48, _)]) ⟨rfl, rfl, rfl, rfl, rfl, rfl, rfl, rfl, rfl, rfl, rfl, trivial⟩ ?_; refine TL.call (ref_SameFacts hqo.now.fok hqo.now.fok hr44 hr24.f) ⟨rfl, rfl, trivial⟩ rfl ?_
   rintro _ own H49 ⟨rfl, rfl, hle49⟩
   rw [decide_eq_true rfl]
   have hL := Le.trans hL hle49; have hB := rd.mono hle49 hB; have hr24 := RSm.mono hle49 hr24; have hmX := PSm.mono hle49 hmX; refine TL.assign rfl rfl ?_; refine TL.nsr ?_; refine TL.move rfl rfl ?_; refine TL.move rfl rfl ?_; refine TL.move rfl rfl ?_; refine TL.call (law_played hq2 hqo (by omega) hmX hr24 hB) ⟨rfl, rfl, rfl, trivial⟩ rfl ?_
   rintro _ _ H54 ⟨ll54, fm54, uv54, sm54, su54, xu54, fv54, bv54, cv54, sb54, sc54, xb54, xc54, rfl, hll54, rfl, hm54, hr54, hle54⟩
   have hL := Le.trans hL hle54; refine TL.move rfl rfl ?_; refine TL.extract rfl rfl rfl ?_; refine TL.extract rfl rfl rfl ?_; refine TL.extract rfl rfl rfl ?_; refine TL.assign rfl rfl ?_; refine TL.assign rfl rfl ?_; refine TL.assign rfl rfl ?_; refine TL.nsr ?_; refine TL.move rfl rfl ?_; refine TL.move rfl rfl ?_; refine TL.gyes rfl rfl rfl ?_; refine TL.move rfl rfl ?_; refine TL.pickT rfl rfl rfl rfl ?_; refine TL.move rfl rfl ?_; refine TL.gyes rfl rfl rfl ?_; refine TL.move rfl rfl ?_; refine TL.pickT rfl rfl rfl rfl ?_; refine TL.assign rfl rfl ?_; refine TL.nil ?_; refine TQ.then_n ?_; refine TC.ret ?_; refine TQ.ret1 6 rfl rfl ?_
   exact ⟨rfl, rfl, hL⟩
theorem law_projectcuts {acts more : List ActP} {n : Int} (hn : I64 n) (hq : AOk acts) (hq2 : AOk more) {w0 : World} {H : Hp} {own : List Seg} {v v2 : Value} (hA : rd H (.s 2 (actsD acts)) v) (hB : rd H (.s 2 (actsD more)) v2) :
    Fn Tryz.prog 5 [v, .int .i64 n, v2] w0 H own (fun r own' H' => r = .bool true ∧ own' = own ∧ Le H H') := by
  refine Fn.enter Tryz.func5 rfl Tryz.ntmps5 rfl ?_; have hL := Le.refl H; refine TC.seq ?_; refine TC.region ?_; refine TL.assign rfl rfl ?_; refine TL.nsr ?_; refine TL.call (law_sanity) trivial rfl ?_
  rintro _ own H23 ⟨rfl, rfl, hle23⟩
  have hL := Le.trans hL hle23; have hA := rd.mono hle23 hA; have hB := rd.mono hle23 hB; refine TL.assign rfl rfl ?_; refine TL.nsr ?_; refine TL.struct [] trivial rfl rfl ?_
  refine TL.box (c := #[_, _, _, _]) rfl rfl rfl ?_; intro g25; refine TL.assign rfl rfl ?_; refine TL.nil ?_; refine TQ.then_n ?_; refine TC.seq ?_; refine TC.nilseg ?_; refine TC.nilseg ?_; refine TC.nilseg ?_; refine TC.nilseg ?_; refine TC.region ?_; refine TL.struct [] trivial rfl rfl ?_
  refine TL.box (c := #[_, _, _, _]) rfl rfl rfl ?_; intro g28; refine TL.move rfl rfl ?_; refine TL.move rfl rfl ?_
  have hm0 : PSm H23 g28 RS.init (.map none) (.slice none 0 0) [] [] [] := ⟨PMap.nil _, Row.nil _ 1, trivial⟩
  have hr0 : RSm H23 RS.init (.slice none 0 0) (.slice none 0 0) (.slice none 0 0) [] [] [] [] := ⟨rd.nil _ 4, Row.nil _ 1, Row.nil _ 1, trivial, trivial⟩
  refine TL.sel 6 [0, 4, 3, 5, 2, 1] rfl (fun o ho => ?_)
  simp only [K.sel, List.map_cons, List.map_nil, List.getD_cons_zero, List.getD_cons_succ, List.drop_succ_cons, List.drop_zero, List.cons_append, List.nil_append, List.set_cons_zero, List.set_cons_succ] at ho; subst ho
  refine TL.call (law_played hq RS.init_ok (by decide) hm0 hr0 hA) ⟨rfl, rfl, rfl, trivial⟩ rfl ?_
  rintro _ _ H31 ⟨ll31, fm31, uv31, sm31, su31, xu31, fv31, bv31, cv31, sb31, sc31, xb31, xc31, rfl, hll31, rfl, hm31, hr31, hle31⟩
  obtain ⟨q, hqq⟩ : ∃ q, q = play RS.init acts := ⟨_, rfl⟩
  have hok : PlOk 20 q := hqq ▸ play_ok acts
  have hqn := hok.n; have hqz := hok.size; have hqo := hok.ok
  rw [← hqq] at hll31 hm31 hr31 ⊢
  obtain ⟨k, hk⟩ : ∃ k : Nat, (k : Int) = n % ((q.s.size : Int) + 1) := ⟨(n % ((q.s.size : Int) + 1)).toNat, by have := Int.emod_nonneg n (show ((q.s.size : Int) + 1) ≠ 0 by omega); omega⟩
  have hkl : k ≤ q.s.size := by have := Int.emod_lt_of_pos n (show 0 < ((q.s.size : Int) + 1) by omega); omega
  obtain ⟨zw, hcut1, hcut2, hwk, hzw, hzn⟩ := hok.cut k hkl
  obtain ⟨All, cll, rfl, hcl1, hcl2⟩ := vals_len hll31
  rw [List.length_map] at hcl1 ⊢
  have hqls := hok.lens.1; have hL := Le.trans hL hle31; have hB := rd.mono hle31 hB; refine TL.move rfl rfl ?_; refine TL.extract rfl rfl rfl ?_; refine TL.extract rfl rfl rfl ?_; refine TL.extract rfl rfl rfl ?_; refine TL.assign rfl rfl ?_; refine TL.assign rfl rfl ?_; refine TL.assign rfl rfl ?_; refine TL.nil ?_; refine TQ.then_n ?_; refine TC.seq ?_; refine TC.seq ?_; refine TC.region ?_; refine TL.move rfl rfl ?_; refine TL.not rfl rfl ?_; refine TL.nil ?_; refine TQ.then_n ?_; refine TC.cond_f rfl ?_; refine TC.skip ?_; refine TQ.nsr ?_; refine TL.move rfl rfl ?_; refine TL.move rfl rfl ?_; refine TL.len_string rfl rfl ?_; refine TL.add rfl rfl rfl ⟨by omega, by omega⟩ ?_; refine TL.call (ref_Mod hn (by omega) (by omega)) ⟨rfl, rfl, trivial⟩ rfl ?_
  rintro _ own H41 ⟨rfl, rfl, hle41⟩
  rw [← hk]
  have hL := Le.trans hL hle41; have hB := rd.mono hle41 hB; have hll31 := rd.mono hle41 hll31; refine TL.assign rfl rfl ?_; refine TL.nsr ?_; refine TL.assign rfl rfl ?_; refine TL.nil ?_; refine TQ.then_n ?_; refine TC.seq ?_; refine TC.seq ?_; refine TC.region ?_; refine TL.assign rfl rfl ?_; refine TL.nil ?_; refine TQ.then_n ?_; refine TC.block ?_
  refine TC.loop (fun n' env' own' H' => ∃ i, n' = q.ls.length - i ∧ i ≤ q.ls.length ∧ env' = [(2, v2), (7, .bool true), (8, .pointer (some ⟨g25, 0, none⟩)), (9, .string q.s), (10, .slice All q.ls.length cll), (12, .int .i64 (k : Int)), (13, .int .i64 ((wantF (q.ls.take i) k : Nat) : Int)), (14, .int .i64 (i : Int))] ∧ own' = [(g28, .cells #[fm31, .int .i64 (q.z.n : Int), uv31, .slice none 0 0] 37 (0, 0))] :: sm31 :: su31 :: [(g25, .cells #[fv31, .int .i64 (q.z.n : Int), bv31, cv31] 28 (0, 0))] :: sb31 :: sc31 :: own ∧ Le H41 H') q.ls.length [(2, _), (7, _), (8, _), (9, _), (10, _), (12, _), (13, _), (14, _)] ⟨rfl, rfl, rfl, rfl, rfl, rfl, rfl, rfl, trivial⟩ ⟨0, by omega, by omega, rfl, rfl, Le.refl _⟩ ?_
  rintro n' _ _ H1 ⟨i, rfl, hi1, rfl, rfl, hle0⟩
  have hL := Le.trans hL hle0; have hB := rd.mono hle0 hB; have hll31 := rd.mono hle0 hll31; refine TC.seq ?_; refine TC.seq ?_; refine TC.region ?_; refine TL.move rfl rfl ?_; refine TL.move rfl rfl ?_; refine TL.len_slice rfl rfl ?_
  refine TL.lssB rfl rfl rfl (fun hlt => ?_) (fun hlt => ?_)
  ·
   obtain ⟨x, hx⟩ : ∃ x, q.ls[i]? = some x := ⟨_, List.getElem?_eq_getElem (by omega)⟩
   obtain ⟨b1, o1, rfl, hpx⟩ := vals_at hll31 (i := i) (u := .int .i64 (x : Int)) (by rw [List.getElem?_map, hx]; rfl)
   refine TL.nil ?_; refine TQ.then_n ?_; refine TC.cond_t rfl ?_; refine TC.skip ?_; refine TQ.then_n ?_; refine TC.seq ?_; refine TC.block ?_; refine TC.seq ?_; refine TC.region ?_; refine TL.move rfl rfl ?_; refine TL.move rfl rfl ?_; refine TL.indexAddr (i) rfl rfl rfl (by omega) rfl ?_; refine TL.load_imm rfl (hpx) rfl ?_; refine TL.move rfl rfl ?_
   refine TL.leqB rfl rfl rfl (fun hle => ?_) (fun hle => ?_)
   ·
    refine TL.nil ?_; refine TQ.then_n ?_; refine TC.cond_t rfl ?_; refine TC.region ?_; refine TL.move rfl rfl ?_; refine TL.move rfl rfl ?_; refine TL.indexAddr (i) rfl rfl rfl (by omega) rfl ?_; refine TL.load_imm rfl (hpx) rfl ?_; refine TL.assign rfl rfl ?_; refine TL.nil ?_; refine TQ.in_n ?_; refine TQ.then_n ?_; refine TC.region ?_; refine TL.move rfl rfl ?_; refine TL.add rfl rfl rfl ⟨by omega, by omega⟩ ?_; refine TL.assign rfl rfl ?_; refine TL.nil ?_; refine TQ.toOwn (own' := _ :: _ :: _ :: _ :: _ :: _ :: own) rfl ?_
    first
      | refine TQ.next (q.ls.length - (i + 1)) [(2, _), (7, _), (8, _), (9, _), (10, _), (12, _), (13, _), (14, _)] (by omega) ⟨rfl, rfl, rfl, rfl, rfl, rfl, rfl, rfl, trivial⟩ ⟨i + 1, rfl, by omega, by rw [wantF_take hx, if_pos (show x ≤ k by omega)]; rfl, rfl, hle0⟩
      | refine TQ.next (q.ls.length - (i + 1)) [(2, _), (7, _), (8, _), (9, _), (10, _), (12, _), (13, _), (14, _)] (by omega) ⟨rfl, rfl, rfl, rfl, rfl, rfl, rfl, rfl, trivial⟩ ⟨i + 1, rfl, by omega, by rw [wantF_take hx, if_neg (show ¬ x ≤ k by omega)]; rfl, rfl, hle0⟩
   ·
    refine TL.nil ?_; refine TQ.then_n ?_; refine TC.cond_f rfl ?_; refine TC.skip ?_; refine TQ.in_n ?_; refine TQ.then_n ?_; refine TC.region ?_; refine TL.move rfl rfl ?_; refine TL.add rfl rfl rfl ⟨by omega, by omega⟩ ?_; refine TL.assign rfl rfl ?_; refine TL.nil ?_; refine TQ.toOwn (own' := _ :: _ :: _ :: _ :: _ :: _ :: own) rfl ?_
    first
      | refine TQ.next (q.ls.length - (i + 1)) [(2, _), (7, _), (8, _), (9, _), (10, _), (12, _), (13, _), (14, _)] (by omega) ⟨rfl, rfl, rfl, rfl, rfl, rfl, rfl, rfl, trivial⟩ ⟨i + 1, rfl, by omega, by rw [wantF_take hx, if_pos (show x ≤ k by omega)]; rfl, rfl, hle0⟩
      | refine TQ.next (q.ls.length - (i + 1)) [(2, _), (7, _), (8, _), (9, _), (10, _), (12, _), (13, _), (14, _)] (by omega) ⟨rfl, rfl, rfl, rfl, rfl, rfl, rfl, rfl, trivial⟩ ⟨i + 1, rfl, by omega, by rw [wantF_take hx, if_neg (show ¬ x ≤ k by omega)]; rfl, rfl, hle0⟩
  ·
   refine TL.nil ?_; refine TQ.then_n ?_; refine TC.cond_f rfl ?_; refine TC.exit ?_; refine TQ.then_e ?_; refine TQ.then_e ?_; refine TQ.in_e ?_; refine TQ.then_n ?_; refine TC.seq ?_
   obtain rfl : i = q.ls.length := by omega
   rw [List.take_length]
   refine TC.region ?_; refine TL.move rfl rfl ?_; refine TL.move rfl rfl ?_; refine TL.sliceS (li := none) (ri := some (k : Int)) 0 k rfl rfl ⟨_, _, rfl, rfl⟩ rfl rfl (by omega) (by omega) rfl ?_; refine TL.call (proj_Open (s := q.s.extract 0 k) (by rw [ext_size _ _ _ hkl]; omega)) ⟨rfl, trivial⟩ rfl ?_
   rintro _ _ H62 ⟨gpX, fmX, uvX, smX, suX, xuX, rfl, rfl, hmX, hle62⟩
   rw [show openP (q.s.extract 0 k) = (zw, wantF q.ls k) from hcut1] at hmX ⊢
   have hL := Le.trans hL hle62; have hB := rd.mono hle62 hB; refine TL.move rfl rfl ?_; refine TL.extract rfl rfl rfl ?_; refine TL.extract rfl rfl rfl ?_; refine TL.assign rfl rfl ?_; refine TL.assign rfl rfl ?_; refine TL.nsr ?_; refine TL.move rfl rfl ?_; refine TL.move rfl rfl ?_; refine TL.sliceS (li := none) (ri := some ((wantF q.ls k : Nat) : Int)) 0 (wantF q.ls k) rfl rfl ⟨_, _, rfl, rfl⟩ rfl rfl (by omega) (by omega) rfl ?_; refine TL.call (ref_Open (s := q.s.extract 0 (wantF q.ls k)) (by rw [ext_size _ _ _ (by omega)]; omega)) ⟨rfl, trivial⟩ rfl ?_
   rintro _ _ H69 ⟨gsX, fvX, bvX, cvX, sbX, scX, xbX, xcX, rfl, rfl, hrX, hle69⟩
   rw [show openP (q.s.extract 0 (wantF q.ls k)) = (zw, wantF q.ls k) from hcut2] at hrX ⊢
   have hL := Le.trans hL hle69; have hB := rd.mono hle69 hB; have hmX := PSm.mono hle69 hmX; refine TL.move rfl rfl ?_; refine TL.extract rfl rfl rfl ?_; refine TL.extract rfl rfl rfl ?_; refine TL.assign rfl rfl ?_; refine TL.assign rfl rfl ?_; refine TL.nil ?_; refine TQ.then_n ?_; refine TC.seq ?_; refine TC.seq ?_; refine TC.region ?_; refine TL.move rfl rfl ?_; refine TL.eqlP rfl rfl rfl ?_; refine TL.move rfl rfl ?_; refine TL.gyes rfl rfl rfl ?_; refine TL.move rfl rfl ?_; refine TL.gyes rfl rfl rfl ?_; refine TL.move rfl rfl ?_; refine TL.gyes rfl rfl rfl ?_; refine TL.neq rfl rfl rfl ?_
   rw [decide_eq_false (fun h => h rfl)]
   refine TL.pickF rfl rfl rfl rfl ?_; refine TL.nil ?_; refine TQ.then_n ?_; refine TC.cond_f rfl ?_; refine TC.skip ?_; refine TQ.then_n ?_; refine TC.seq ?_
   refine TC.sel 12 [3, 4, 5, 0, 1, 2] rfl (fun o ho => ?_)
   simp only [K.sel, List.map_cons, List.map_nil, List.getD_cons_zero, List.getD_cons_succ, List.drop_succ_cons, List.drop_zero, List.cons_append, List.nil_append, List.set_cons_zero, List.set_cons_succ] at ho; subst ho
   refine TC.drawQV 6  [(2, _), (7, _), (8, _), (9, _), (10, _), (12, _), (13, _), (14, _), (15, _), (16, _), (17, _)] follows_mixed ⟨rfl, rfl, rfl, rfl, rfl, rfl, rfl, rfl, rfl, rfl, rfl, trivial⟩ ?_; refine ChainV.q (some 79) [] (fun _ _ _ _ hF => TL.move rfl rfl (TL.one hF)) ?_
   refine ChainV.r (some 80) [(0, 0)] ([]) (fun _ => fun r sg H => rd H (.s 4 (factsD zw.facts)) r ∧ sg = []) (by
    intro H' X F hle; have hL := Le.trans hL hle; have hmX := PSm.mono hle hmX; intro hF; refine TL.call (proj_Facts (l := zw.facts) (m := 1000 * zw.n) hzw.now (by omega) hmX.m) ⟨rfl, trivial⟩ rfl ?_
    rintro r80 _ H80 ⟨seg80, hrow80, rfl, hle80⟩
    refine TL.nil ?_
    refine TQ.freeze (fun H9 hle9 hz => ?_)
    exact TQ.one [] hF (hle80.trans hle9) ⟨facts_row hrow80 hz (Le.refl _), rfl⟩) ?_
   refine ChainV.q (some 81) [] (fun _ _ _ _ hF => TL.move rfl rfl (TL.one hF)) ?_; refine ChainV.q (some 82) [(2, 0)] (fun _ _ _ _ hF => TL.nilCheck rfl rfl (TL.one hF)) ?_; refine ChainV.q (some 83) [(3, 0)] (fun _ _ _ _ hF => TL.fieldAddr rfl rfl (TL.one hF)) ?_
   refine ChainV.q (some 84) [(4, 0)] (by
    intro H' X F hle; have hL := Le.trans hL hle; intro hF; refine TL.load_own 3 0 rfl rfl rfl rfl rfl ?_
    exact TL.one hF) ?_
   refine ⟨by kernel_rfl, .refl _, ?_⟩
   ·
    intro H1 hle
    rintro r80 _ Hi80 hle80 ⟨hr80, rfl⟩
    replace hr80 := rd.mono hle80 hr80
    have hL := Le.trans hL hle; have hB := rd.mono hle hB; have hmX := PSm.mono hle hmX; have hrX := RSm.mono hle hrX; refine TL.toOwn (own' := _ :: _ :: _ :: _ :: _ :: _ :: own) rfl ?_; refine TL.wk (env' := [(2, _), (7, _), (8, _), (9, _), (10, _), (12, _), (13, _), (14, _), (15, _), (16, _), (17, _), (80, _), (84, _)]) ⟨rfl, rfl, rfl, rfl, rfl, rfl, rfl, rfl, rfl, rfl, rfl, rfl, rfl, trivial⟩ ?_; refine TL.call (ref_SameFacts hzw.now.fok hzw.now.fok hr80 hrX.f) ⟨rfl, rfl, trivial⟩ rfl ?_
    rintro _ own H85 ⟨rfl, rfl, hle85⟩
    rw [decide_eq_true rfl]
    have hL := Le.trans hL hle85; have hB := rd.mono hle85 hB; have hmX := PSm.mono hle85 hmX; have hrX := RSm.mono hle85 hrX; refine TL.assign rfl rfl ?_; refine TL.nsr ?_; refine TL.move rfl rfl ?_; refine TL.move rfl rfl ?_; refine TL.move rfl rfl ?_; refine TL.call (law_played hq2 hzw (by omega) hmX hrX hB) ⟨rfl, rfl, rfl, trivial⟩ rfl ?_
    rintro _ _ H90 ⟨ll90, fm90, uv90, sm90, su90, xu90, fv90, bv90, cv90, sb90, sc90, xb90, xc90, rfl, hll90, rfl, hm90, hr90, hle90⟩
    have hL := Le.trans hL hle90; refine TL.move rfl rfl ?_; refine TL.extract rfl rfl rfl ?_; refine TL.extract rfl rfl rfl ?_; refine TL.extract rfl rfl rfl ?_; refine TL.assign rfl rfl ?_; refine TL.assign rfl rfl ?_; refine TL.assign rfl rfl ?_; refine TL.nsr ?_; refine TL.move rfl rfl ?_; refine TL.move rfl rfl ?_; refine TL.gyes rfl rfl rfl ?_; refine TL.move rfl rfl ?_; refine TL.pickT rfl rfl rfl rfl ?_; refine TL.move rfl rfl ?_; refine TL.gyes rfl rfl rfl ?_; refine TL.move rfl rfl ?_; refine TL.pickT rfl rfl rfl rfl ?_; refine TL.assign rfl rfl ?_; refine TL.nil ?_; refine TQ.then_n ?_; refine TC.ret ?_; refine TQ.ret1 6 rfl rfl ?_
    exact ⟨rfl, rfl, hL⟩


end Go.Proofs.YteeamfkhkbfilaaGreat.K

namespace Go.Proofs.YteeamfkhkbfilaaGreat.K
open Go Go.RowKit Go.Proofs

section
variable {P : Program} {w0 : World} {N : Nat} {Q : Exit → Act → World → Prop} {env : Env} {own : List Seg} {H : Hp} {ops : Array Oper} {rest : List Oper}
variable {d : Option Tmp} {ty : TypeId} {pos : String} {af : Array Edge}
theorem TL.convSB2 {s t e : TypeId} {x : Operand} {str : ByteArray} (hx : ev env x = some (.string str)) [hs : Und P s .string] [ht : Und P t (.slice e)] [he : Und P e (.int .u8)] (hd : okD N d = true)
    (h : ∀ g cap cur, cAt cur 0 (str.data.toList.map byteV) → str.size ≤ cur.size → TL P w0 N Q ops rest (putE d (.slice (some ⟨g, 0, none⟩) str.size cap) env) ([(g, .cells cur e (cur.size, cur.size + 1))] :: own) H) :
    TL P w0 N Q ops ({ dst := d, op := .convert s t x, type := ty, pos := pos, after := af, guard := none } :: rest) env own H := by
  refine TL.valE (φ := fun v own' H' => ∃ g cap cur, v = .slice (some ⟨g, 0, none⟩) str.size cap ∧ own' = [(g, .cells cur e (cur.size, cur.size + 1))] :: own ∧ H' = H ∧ cAt cur 0 (str.data.toList.map byteV) ∧ str.size ≤ cur.size) rfl hd
    (fun a w ha hw => ⟨_, _, _, w.drew.alloc (.cells (bytesRow str (grownCap w str.size 0 e)) e ((bytesRow str (grownCap w str.size 0 e)).size, (bytesRow str (grownCap w str.size 0 e)).size + 1)), ?_, ⟨w.heap.size, grownCap w str.size 0 e, bytesRow str (grownCap w str.size 0 e), rfl, rfl, rfl, cAt_of fun j u hu => ?_, ?_⟩, hw.drew.new _⟩) ?_
  · have := run_bytes_of_string (P := P) w s t e str hs.eq ht.eq he.eq
    simp only [execOp, ha.ev hx, Sem.run_bind, this, Result.andThen_ok]
    rfl
  · rw [List.getElem?_map] at hu
    cases hb : str.data.toList[j]? with
    | none => rw [hb] at hu; cases hu
    | some b =>
      rw [hb] at hu
      cases hu
      obtain ⟨hlt, rfl⟩ := List.getElem?_eq_some_iff.1 hb
      have hlt' : j < str.data.size := by simpa using hlt
      rw [Nat.zero_add, bytesRow_at str _ j hlt']
      simp [byteV]
  · unfold bytesRow
    rw [Array.size_append, Array.size_map]
    have : str.data.size = str.size := rfl
    omega
  · rintro v own' H' ⟨g, cap, cur, rfl, rfl, rfl, hc, hz⟩
    exact h g cap cur hc hz
/-- A store into a block whose frozen part lies behind. -/
theorem TL.storeF (i j : Nat) {t : TypeId} {x y : Operand} {g o : Nat} {seg : Seg} {c : Array Value} {e : TypeId} {fz : Nat × Nat} {v : Value} (hx : ev env x = some (.pointer (some ⟨g, o, none⟩))) (hy : ev env y = some v) (hi : own[i]? = some seg) (hj : seg[j]? = some (g, .cells c e fz)) (hfz : o < fz.1)
    [ht : Ty P t false 1] (h1 : v.oneCell' = true) (hf : o < c.size) {c' : Array Value} {own' : List Seg} (hc : c.setIfInBounds o v = c') (ho : own.set i (seg.set j (g, .cells c' e fz)) = own') (hd : okD N d = true) (h : TL P w0 N Q ops rest (putE d undef env) own' H) :
    TL P w0 N Q ops ({ dst := d, op := .store t x y, type := ty, pos := pos, after := af, guard := none } :: rest) env own H :=
  TL.skp rfl hd (fun a w ha hw => ⟨w.setRow g c', by
    have hb := hw.own_blk hi hj
    have hcell : w.cell? ⟨g, o, none⟩ = some c[o] := by simp [World.cell?, hb, hf]
    have hfro : w.frozen? ⟨g, o, none⟩ = false := by
      obtain ⟨lo, hi⟩ := fz
      simp only [World.frozen?, hb]
      rw [decide_eq_false (show ¬ lo ≤ o by simp only at hfz; omega)]; rfl
    have hst : (Go.store ((⟨g, o, none⟩ : Addr).add 0) v).run P w = .ok () (w.setRow g (c.setIfInBounds o v)) := by
      rw [add_off, run_store P w _ v _ h1]
      simp only [Nat.add_zero, hcell, hfro, setCell_eq_setRow w g o c e fz v hb]
      rfl
    have hr : (storeCells ⟨g, o, none⟩ [v] 0).run P w = .ok () (w.setRow g c') := by
      simp only [storeCells, Sem.run_bind, hst, Result.andThen_ok, hc]
      rfl
    simp [execOp, Instr.storeAt, Instr.sureAddr, storeVar, ha.ev hx, ha.ev hy, ht.size, one_cells h1, hr], by rw [← ho]; exact hw.setRow hi hj⟩) h
end
theorem cAt_set {c : Array Value} {l : List UInt8} {k : Nat} {b : UInt8} (h : cAt c 0 (l.map byteV)) (hk : k < l.length) (hc : l.length ≤ c.size) : cAt (c.setIfInBounds k (byteV b)) 0 ((l.set k b).map byteV) := by
  refine cAt_of fun j u hu => ?_
  rw [Nat.zero_add, Array.getElem?_setIfInBounds]
  rw [List.getElem?_map, List.getElem?_set] at hu
  by_cases hkj : k = j
  · subst hkj
    rw [if_pos rfl, if_pos hk] at hu
    rw [if_pos rfl, if_pos (by omega)]
    exact hu
  · rw [if_neg hkj] at hu
    rw [if_neg hkj]
    have := h.get j u (by rw [List.getElem?_map]; exact hu)
    rwa [Nat.zero_add] at this
theorem xor_byte (x y : Int) : Value.int .u8 (xorI .u8 x y) = byteV (b8 (BitVec.ofInt 8 x ^^^ BitVec.ofInt 8 y).toNat) := by
  rw [b8_val]; rfl
theorem toNat_sub {n m : Int} (hm : 0 < m) : ∃ k : Nat, (k : Int) = n % m ∧ (k : Int) < m := ⟨(n % m).toNat, by have := Int.emod_nonneg n (show m ≠ 0 by omega); omega, by have := Int.emod_nonneg n (show m ≠ 0 by omega); have := Int.emod_lt_of_pos n hm; omega⟩
theorem strs_at {H : Hp} {l : List ByteArray} {A : Option Addr} {n c : Nat} (h : rd H (.s 1 ((l.map Value.string).map D.c)) (.slice A n c)) {i : Nat} {s : ByteArray} (hi : l[i]? = some s) : ∃ b o, A = some ⟨b, o, none⟩ ∧ cel H b (o + i * 1) = some (.string s) :=
  vals_at h (by rw [List.getElem?_map, hi]; rfl)
end Go.Proofs.YteeamfkhkbfilaaGreat.K

namespace Go.Proofs.YteeamfkhkbfilaaGreat.K
open Go Go.RowKit Go.Proofs

theorem law_projectreads {acts : List ActP} {n0 n1 n2 : Int} {tail : ByteArray} (hq : AOk acts) (hn0 : I64 n0) (hn1 : I64 n1) (hn2 : I64 n2) {w0 : World} {H : Hp} {own : List Seg} {v : Value} (hA : rd H (.s 2 (actsD acts)) v) :
    Fn Tryz.prog 6 [v, .agg #[.int .i64 n0, .int .i64 n1, .int .i64 n2], .string tail] w0 H own (fun r own' H' => r = .bool true ∧ own' = own ∧ Le H H') := by
  obtain ⟨m, hm⟩ : ∃ m : Nat, m = min tail.size 60 := ⟨_, rfl⟩
  have hmt : (tail.extract 0 m).size = m := by rw [ext_size _ _ _ (by omega)]; omega
  refine Fn.enter Tryz.func6 rfl Tryz.ntmps6 rfl ?_; have hL := Le.refl H; refine TC.seq ?_; refine TC.region ?_
  refine TL.box (c := #[_, _, _]) rfl rfl rfl ?_; intro g4; refine TL.assign rfl rfl ?_; refine TL.nsr ?_; refine TL.call (law_sanity) trivial rfl ?_
  rintro _ own H19 ⟨rfl, rfl, hle19⟩
  have hL := Le.trans hL hle19; have hA := rd.mono hle19 hA; refine TL.assign rfl rfl ?_; refine TL.nil ?_; refine TQ.then_n ?_; refine TC.seq ?_; refine TC.nilseg ?_; refine TC.nilseg ?_; refine TC.nilseg ?_; refine TC.nilseg ?_; refine TC.region ?_; refine TL.struct [] trivial rfl rfl ?_
  refine TL.box (c := #[_, _, _, _]) rfl rfl rfl ?_; intro g22; refine TL.struct [] trivial rfl rfl ?_
  refine TL.box (c := #[_, _, _, _]) rfl rfl rfl ?_; intro g24; refine TL.move rfl rfl ?_
  have hm0 : PSm H19 g22 RS.init (.map none) (.slice none 0 0) [] [] [] := ⟨PMap.nil _, Row.nil _ 1, trivial⟩
  have hr0 : RSm H19 RS.init (.slice none 0 0) (.slice none 0 0) (.slice none 0 0) [] [] [] [] := ⟨rd.nil _ 4, Row.nil _ 1, Row.nil _ 1, trivial, trivial⟩
  refine TL.sel 7 [1, 5, 4, 0, 3, 2, 6] rfl (fun o ho => ?_)
  simp only [K.sel, List.map_cons, List.map_nil, List.getD_cons_zero, List.getD_cons_succ, List.drop_succ_cons, List.drop_zero, List.cons_append, List.nil_append, List.set_cons_zero, List.set_cons_succ] at ho; subst ho
  refine TL.call (law_played hq RS.init_ok (by decide) hm0 hr0 hA) ⟨rfl, rfl, rfl, trivial⟩ rfl ?_
  rintro _ _ H26 ⟨ll26, fm26, uv26, sm26, su26, xu26, fv26, bv26, cv26, sb26, sc26, xb26, xc26, rfl, hll26, rfl, hm26, hr26, hle26⟩
  obtain ⟨q, hqq⟩ : ∃ q, q = play RS.init acts := ⟨_, rfl⟩
  have hok : PlOk 20 q := hqq ▸ play_ok acts
  have hqn := hok.n; have hqz := hok.size; have hqo := hok.ok
  rw [← hqq] at hll26 hm26 hr26 ⊢
  have hL := Le.trans hL hle26; refine TL.move rfl rfl ?_; refine TL.extract rfl rfl rfl ?_; refine TL.extract rfl rfl rfl ?_; refine TL.extract rfl rfl rfl ?_; refine TL.assign rfl rfl ?_; refine TL.assign rfl rfl ?_; refine TL.assign rfl rfl ?_; refine TL.nil ?_; refine TQ.then_n ?_; refine TC.seq ?_; refine TC.seq ?_; refine TC.region ?_; refine TL.move rfl rfl ?_; refine TL.not rfl rfl ?_; refine TL.nil ?_; refine TQ.then_n ?_; refine TC.cond_f rfl ?_; refine TC.skip ?_; refine TQ.nsr ?_; refine TL.move rfl rfl ?_; refine TL.move rfl rfl ?_; refine TL.move rfl rfl ?_; refine TL.len_string rfl rfl ?_; refine TL.min2 rfl rfl rfl ?_
  rw [show min (tail.size : Int) 60 = ((m : Nat) : Int) by omega]
  refine TL.sliceS (li := none) (ri := some (m : Int)) 0 m rfl rfl ⟨_, _, rfl, rfl⟩ rfl rfl (by omega) (by omega) rfl ?_; refine TL.addS rfl rfl rfl (by omega) ?_
  obtain ⟨str, hstr⟩ : ∃ str, str = q.s ++ tail.extract 0 m := ⟨_, rfl⟩
  have hstz : str.size = q.s.size + m := by rw [hstr, ByteArray.size_append, hmt]
  have hstl : str.data.toList.length = str.size := rfl
  rw [← hstr]
  refine TL.convSB2 rfl rfl ?_; intro g39 cap39 cur39 hc39 hz39; refine TL.assign rfl rfl ?_; refine TL.nil ?_; refine TQ.then_n ?_
  refine TC.cut (fun env' own' H' => ∃ (l : List UInt8) (cur : Array Value) (fz : Nat × Nat), l.length = str.size ∧ cAt cur 0 (l.map byteV) ∧ env' = [(2, .string tail), (4, .pointer (some ⟨g4, 0, none⟩)), (7, .bool true), (8, .string q.s), (11, .slice (some ⟨g39, 0, none⟩) str.size cap39)] ∧ own' = [(g39, .cells cur 5 fz)] :: [(g4, .cells #[.int .i64 n0, .int .i64 n1, .int .i64 n2] 48 (0, 0))] :: own ∧ Le H26 H') ?_ ?_
  ·
   have hcut := Le.refl H26; refine TC.seq ?_
   refine TC.sel 8 [0, 7] rfl (fun o ho => ?_)
   simp only [K.sel, List.map_cons, List.map_nil, List.getD_cons_zero, List.getD_cons_succ, List.drop_succ_cons, List.drop_zero, List.cons_append, List.nil_append, List.set_cons_zero, List.set_cons_succ] at ho; subst ho
   refine TC.region ?_; refine TL.move rfl rfl ?_; refine TL.len_slice rfl rfl ?_
   refine TL.gtrB rfl rfl rfl (fun hpos => ?_) (fun hpos => ?_)
   ·
    obtain ⟨k1, hk1, hk1l⟩ := toNat_sub (n := n0) (m := (str.size : Int)) (by omega)
    obtain ⟨b1, hb1⟩ : ∃ b, str.data.toList[k1]? = some b := ⟨_, List.getElem?_eq_getElem (by omega)⟩
    have hb2 := hc39.get k1 (byteV b1) (by rw [List.getElem?_map, hb1]; rfl)
    refine TL.nil ?_; refine TQ.then_n ?_; refine TC.cond_t rfl ?_; refine TC.seq ?_; refine TC.region ?_; refine TL.indexArr (0) rfl rfl rfl (by omega) rfl ?_; refine TL.load_own 1 0 rfl rfl rfl rfl rfl ?_; refine TL.move rfl rfl ?_; refine TL.len_slice rfl rfl ?_; refine TL.call (ref_Mod hn0 (by omega) (by omega)) ⟨rfl, rfl, trivial⟩ rfl ?_
    rintro _ own H47 ⟨rfl, rfl, hle47⟩
    rw [← hk1]
    have hL := Le.trans hL hle47; have hcut := Le.trans hcut hle47; refine TL.assign rfl rfl ?_; refine TL.nil ?_; refine TQ.then_n ?_; refine TC.drawQV 10  [(0, _), (1, _), (2, _), (4, _), (6, _), (7, _), (8, _), (10, _), (11, _), (12, _)] follows_mixed ⟨rfl, rfl, rfl, rfl, rfl, rfl, rfl, rfl, rfl, rfl, trivial⟩ ?_; refine ChainV.q (some 48) [] (fun _ _ _ _ hF => TL.move rfl rfl (TL.one hF)) ?_; refine ChainV.q (some 49) [] (fun _ _ _ _ hF => TL.move rfl rfl (TL.one hF)) ?_; refine ChainV.q (some 50) [] (fun _ _ _ _ hF => TL.move rfl rfl (TL.one hF)) ?_; refine ChainV.q (some 51) [] (fun _ _ _ _ hF => TL.move rfl rfl (TL.one hF)) ?_; refine ChainV.q (some 52) [(2, 1), (3, 0)] (fun _ _ _ _ hF => TL.indexAddr (k1) rfl rfl rfl (by omega) rfl (TL.one hF)) ?_
    refine ChainV.q (some 53) [(4, 0)] (by
     intro H' X F hle; have hL := Le.trans hL hle; intro hF; refine TL.load_own 0 0 rfl rfl rfl (by rw [lget_arr, Nat.zero_add, Nat.mul_one]; rw [Nat.zero_add] at hb2; exact hb2) rfl ?_
     exact TL.one hF) ?_
    refine ChainV.q (some 54) [] (by
     intro H' X F hle; intro hF; refine TL.indexArr (1) rfl rfl rfl (by omega) rfl ?_
     exact TL.one hF) ?_
    refine ChainV.q (some 55) [(6, 0)] (by
     intro H' X F hle; have hL := Le.trans hL hle; intro hF; refine TL.load_own 1 0 rfl rfl rfl rfl rfl ?_
     exact TL.one hF) ?_
    refine ChainV.q (some 56) [(7, 0)] (by
     intro H' X F hle; have hL := Le.trans hL hle; intro hF; refine TL.convI rfl rfl ?_
     exact TL.one hF) ?_
    refine ChainV.q (some 57) [(5, 3), (8, 0)] (by
     intro H' X F hle; have hL := Le.trans hL hle; intro hF; refine TL.xorW rfl rfl rfl ?_
     rw [xor_byte]
     exact TL.one hF) ?_
    refine ⟨by kernel_rfl, .refl _, ?_⟩
    ·
     intro H1 hle; have hL := Le.trans hL hle; have hcut := Le.trans hcut hle; refine TL.toOwn (own' := _ :: _ :: own) rfl ?_; refine TL.wk (env' := [(0, _), (1, _), (2, _), (4, _), (6, _), (7, _), (8, _), (10, _), (11, _), (48, _), (49, _), (57, _)]) ⟨rfl, rfl, rfl, rfl, rfl, rfl, rfl, rfl, rfl, rfl, rfl, rfl, trivial⟩ ?_; refine TL.indexAddr (k1) rfl rfl rfl (by omega) rfl ?_
     have hll2 : (str.data.toList.set k1 (b8 (BitVec.ofInt 8 (b1.toNat : Int) ^^^ BitVec.ofInt 8 (IntKind.u8.wrap n1)).toNat)).length = str.size := by rw [List.length_set]; exact hstl
     have hcl2 := cAt_set (b := b8 (BitVec.ofInt 8 (b1.toNat : Int) ^^^ BitVec.ofInt 8 (IntKind.u8.wrap n1)).toNat) hc39 (show k1 < str.data.toList.length by omega) (by omega)
     refine TL.storeF 0 0 rfl rfl rfl rfl (by show 0 + k1 * 1 < cur39.size; omega) rfl (by omega) (c' := cur39.setIfInBounds k1 (byteV (b8 (BitVec.ofInt 8 (b1.toNat : Int) ^^^ BitVec.ofInt 8 (IntKind.u8.wrap n1)).toNat))) (by rw [Nat.zero_add, Nat.mul_one]) rfl rfl ?_
     refine TL.nil ?_; refine TQ.toOwn (own' := _ :: _ :: own) rfl ?_
     first
       | exact TQ.mid [(2, _), (4, _), (7, _), (8, _), (11, _)] ⟨rfl, rfl, rfl, rfl, rfl, trivial⟩ ⟨_, _, _, hll2, hcl2, rfl, rfl, hcut⟩
       | exact TQ.mid [(2, _), (4, _), (7, _), (8, _), (11, _)] ⟨rfl, rfl, rfl, rfl, rfl, trivial⟩ ⟨_, _, _, hstl, hc39, rfl, rfl, hcut⟩
   ·
    refine TL.nil ?_; refine TQ.then_n ?_; refine TC.cond_f rfl ?_; refine TC.skip ?_; refine TQ.toOwn (own' := _ :: _ :: own) rfl ?_
    first
      | exact TQ.mid [(2, _), (4, _), (7, _), (8, _), (11, _)] ⟨rfl, rfl, rfl, rfl, rfl, trivial⟩ ⟨_, _, _, hll2, hcl2, rfl, rfl, hcut⟩
      | exact TQ.mid [(2, _), (4, _), (7, _), (8, _), (11, _)] ⟨rfl, rfl, rfl, rfl, rfl, trivial⟩ ⟨_, _, _, hstl, hc39, rfl, rfl, hcut⟩
  rintro _ _ H6 ⟨l, cur, fz, hll, hcl, rfl, rfl, hle6⟩
  have hL := Le.trans hL hle6; refine TC.seq ?_
  obtain ⟨k2, hk2, hk2l⟩ := toNat_sub (n := n2) (m := (q.s.size : Int) + 1) (by omega)
  refine TC.drawQV 25  [(2, _), (4, _), (7, _), (8, _), (11, _)] follows_mixed ⟨rfl, rfl, rfl, rfl, rfl, trivial⟩ ?_; refine ChainV.q (some 59) [] (fun _ _ _ _ hF => TL.move rfl rfl (TL.one hF)) ?_
  refine ChainV.q (some 60) [(0, 0)] (by
   intro H' X F hle; have hL := Le.trans hL hle; intro hF; refine TL.convBS 0 0 l rfl rfl rfl hll hcl rfl ?_
   exact TL.one hF) ?_
  refine ChainV.q (some 61) [] (fun _ _ _ _ hF => TL.move rfl rfl (TL.one hF)) ?_; refine ChainV.q (some 62) [] (fun _ _ _ _ hF => TL.move rfl rfl (TL.one hF)) ?_; refine ChainV.q (some 63) [] (fun _ _ _ _ hF => TL.move rfl rfl (TL.one hF)) ?_
  refine ChainV.q (some 64) [(4, 0)] (by
   intro H' X F hle; have hL := Le.trans hL hle; intro hF; refine TL.len_string rfl rfl ?_
   exact TL.one hF) ?_
  refine ChainV.q (some 65) [(5, 0)] (by
   intro H' X F hle; have hL := Le.trans hL hle; intro hF; refine TL.min2 rfl rfl rfl ?_
   rw [show min (tail.size : Int) 60 = ((m : Nat) : Int) by omega]
   exact TL.one hF) ?_
  refine ChainV.q (some 66) [(3, 3), (6, 0)] (by
   intro H' X F hle; have hL := Le.trans hL hle; intro hF; refine TL.sliceS (li := none) (ri := some (m : Int)) 0 m rfl rfl ⟨_, _, rfl, rfl⟩ rfl rfl (by omega) (by omega) rfl ?_
   exact TL.one hF) ?_
  refine ChainV.q (some 67) [(2, 5), (7, 0)] (by
   intro H' X F hle; have hL := Le.trans hL hle; intro hF; refine TL.addS rfl rfl rfl (by omega) ?_
   exact TL.one hF) ?_
  refine ChainV.q (some 68) [] (fun _ _ _ _ hF => TL.move rfl rfl (TL.one hF)) ?_; refine ChainV.q (some 69) [] (fun _ _ _ _ hF => TL.move rfl rfl (TL.one hF)) ?_
  refine ChainV.q (some 70) [(10, 0)] (by
   intro H' X F hle; have hL := Le.trans hL hle; intro hF; refine TL.len_string rfl rfl ?_
   exact TL.one hF) ?_
  refine ChainV.q (some 71) [(11, 0)] (by
   intro H' X F hle; have hL := Le.trans hL hle; intro hF; refine TL.min2 rfl rfl rfl ?_
   rw [show min (tail.size : Int) 60 = ((m : Nat) : Int) by omega]
   exact TL.one hF) ?_
  refine ChainV.q (some 72) [(9, 3), (12, 0)] (by
   intro H' X F hle; have hL := Le.trans hL hle; intro hF; refine TL.sliceS (li := none) (ri := some (m : Int)) 0 m rfl rfl ⟨_, _, rfl, rfl⟩ rfl rfl (by omega) (by omega) rfl ?_
   exact TL.one hF) ?_
  refine ChainV.q (some 73) [] (fun _ _ _ _ hF => TL.move rfl rfl (TL.one hF)) ?_; refine ChainV.q (some 74) [] (fun _ _ _ _ hF => TL.move rfl rfl (TL.one hF)) ?_
  refine ChainV.q (some 75) [(14, 1), (15, 0)] (by
   intro H' X F hle; have hL := Le.trans hL hle; intro hF; refine TL.addS rfl rfl rfl (by omega) ?_
   exact TL.one hF) ?_
  refine ChainV.q (some 76) [] (fun _ _ _ _ hF => TL.move rfl rfl (TL.one hF)) ?_
  refine ChainV.q (some 77) [] (by
   intro H' X F hle; intro hF; refine TL.indexArr (2) rfl rfl rfl (by omega) rfl ?_
   exact TL.one hF) ?_
  refine ChainV.q (some 78) [(18, 0)] (by
   intro H' X F hle; have hL := Le.trans hL hle; intro hF; refine TL.load_own 1 0 rfl rfl rfl rfl rfl ?_
   exact TL.one hF) ?_
  refine ChainV.q (some 79) [] (fun _ _ _ _ hF => TL.move rfl rfl (TL.one hF)) ?_
  refine ChainV.q (some 80) [(20, 0)] (by
   intro H' X F hle; have hL := Le.trans hL hle; intro hF; refine TL.len_string rfl rfl ?_
   exact TL.one hF) ?_
  refine ChainV.q (some 81) [(21, 0)] (fun _ _ _ _ hF => TL.add rfl rfl rfl ⟨by omega, by omega⟩ (TL.one hF)) ?_
  refine ChainV.q (some 82) [(19, 3), (22, 0)] (by
   intro H' X F hle; have hL := Le.trans hL hle; intro hF; refine TL.call (ref_Mod hn2 (by omega) (by omega)) ⟨rfl, rfl, trivial⟩ rfl ?_
   rintro _ own H82 ⟨rfl, rfl, hle82⟩
   rw [← hk2]
   have hL := Le.trans hL hle82; refine TL.nil ?_
   exact TQ.one [] hF hle82 ⟨rfl, rfl⟩) ?_
  refine ChainV.q (some 83) [(17, 6), (23, 0)] (by
   intro H' X F hle; have hL := Le.trans hL hle; intro hF; refine TL.sliceS (li := some (k2 : Int)) (ri := none) k2 q.s.size rfl ⟨_, _, rfl, rfl⟩ rfl rfl rfl (by omega) (Nat.le_refl _) rfl ?_
   exact TL.one hF) ?_
  refine ⟨by kernel_rfl, .refl _, ?_⟩
  ·
   intro H2 hle; have hL := Le.trans hL hle; refine TL.toOwn (own' := _ :: _ :: own) rfl ?_; refine TL.wk (env' := [(2, _), (4, _), (7, _), (8, _), (11, _), (60, _), (67, _), (72, _), (75, _), (83, _)]) ⟨rfl, rfl, rfl, rfl, rfl, rfl, rfl, rfl, rfl, rfl, trivial⟩ ?_
   refine TL.litF (r := [_, _, _, _, _]) [(0, [_]), (1, [_]), (2, [_]), (3, [_]), (4, [_])] ⟨rfl, ⟨_, rfl, rfl⟩, rfl, ⟨_, rfl, rfl⟩, rfl, ⟨_, rfl, rfl⟩, rfl, ⟨_, rfl, rfl⟩, rfl, ⟨_, rfl, rfl⟩, trivial⟩ rfl rfl rfl rfl ?_; intro g84; refine TL.assign rfl rfl ?_; refine TL.nil ?_; refine TQ.then_n ?_; refine TC.seq ?_; refine TC.seq ?_
   refine TC.sel 3 [0] rfl (fun o ho => ?_)
   simp only [K.sel, List.map_cons, List.map_nil, List.getD_cons_zero, List.getD_cons_succ, List.drop_succ_cons, List.drop_zero, List.cons_append, List.nil_append, List.set_cons_zero, List.set_cons_succ] at ho; subst ho
   refine TC.freeze (fun H3 hle hz_g84 => ?_)
   have hL := Le.trans hL hle
   obtain ⟨ss, hss⟩ : ∃ ss : List ByteArray, ss = [⟨l.toArray⟩, q.s ++ tail.extract 0 m, tail.extract 0 m, q.s ++ q.s, q.s.extract k2 q.s.size] := ⟨_, rfl⟩
   have hrd : rd H3 (.s 1 ((ss.map Value.string).map D.c)) (.slice (some ⟨g84, 0, none⟩) 5 5) := by rw [hss]; exact rd.ofRow (Row.lit 9 1 5 _ _ rfl (by omega)) hz_g84 (RdL.vals _) (Le.refl _)
   have hsl : ss.length = 5 := by rw [hss]; rfl
   have hsz : ∀ s ∈ ss, s.size ≤ 100000000 := by
     intro s hs
     rw [hss] at hs
     simp only [List.mem_cons, List.mem_nil_iff, or_false] at hs
     rcases hs with rfl | rfl | rfl | rfl | rfl
     · show l.length ≤ _; omega
     · rw [ByteArray.size_append, hmt]; omega
     · omega
     · rw [ByteArray.size_append]; omega
     · rw [ext_size _ _ _ (Nat.le_refl _)]; omega
   refine TC.region ?_; refine TL.assign rfl rfl ?_; refine TL.nil ?_; refine TQ.then_n ?_; refine TC.block ?_; refine TC.loop (fun n' env' own' H' => ∃ i, n' = 5 - i ∧ i ≤ 5 ∧ env' = [(7, .bool true), (13, .slice (some ⟨g84, 0, none⟩) 5 5), (14, .int .i64 (i : Int))] ∧ own' = own ∧ Le H3 H') 5 [(7, _), (13, _), (14, _)] ⟨rfl, rfl, rfl, trivial⟩ ⟨0, by omega, by omega, rfl, rfl, Le.refl _⟩ ?_
   rintro n' _ own H1 ⟨i, rfl, hi1, rfl, rfl, hle0⟩
   have hL := Le.trans hL hle0; have hrd := rd.mono hle0 hrd; refine TC.seq ?_; refine TC.seq ?_; refine TC.region ?_; refine TL.move rfl rfl ?_; refine TL.move rfl rfl ?_; refine TL.len_slice rfl rfl ?_
   refine TL.lssB rfl rfl rfl (fun hlt => ?_) (fun hlt => ?_)
   ·
    obtain ⟨s, hs⟩ : ∃ s, ss[i]? = some s := ⟨_, List.getElem?_eq_getElem (by omega)⟩
    have hs1 := hsz s (List.mem_of_getElem? hs)
    obtain ⟨b5, o5, e5, hcs⟩ := strs_at hrd hs
    obtain ⟨hoo, hon, hol⟩ := openP_ok hs1
    refine TL.nil ?_; refine TQ.then_n ?_; refine TC.cond_t rfl ?_; refine TC.skip ?_; refine TQ.then_n ?_; refine TC.seq ?_; refine TC.block ?_; refine TC.seq ?_; refine TC.region ?_; refine TL.move rfl rfl ?_; refine TL.move rfl rfl ?_; refine TL.indexAddr (i) rfl rfl rfl (by omega) rfl ?_; refine TL.load_imm rfl (by cases e5; exact hcs) rfl ?_
    refine TL.call (proj_Open (s := s) hs1) ⟨rfl, trivial⟩ rfl ?_
    rintro _ _ H96 ⟨gpX, fmX, uvX, smX, suX, xuX, rfl, rfl, hmX, hle96⟩
    have hL := Le.trans hL hle96; have hle0 := Le.trans hle0 hle96; have hcs := cel_le hle96 hcs; refine TL.move rfl rfl ?_; refine TL.extract rfl rfl rfl ?_; refine TL.extract rfl rfl rfl ?_; refine TL.assign rfl rfl ?_; refine TL.assign rfl rfl ?_; refine TL.nsr ?_; refine TL.move rfl rfl ?_; refine TL.move rfl rfl ?_; refine TL.indexAddr (i) rfl rfl rfl (by omega) rfl ?_; refine TL.load_imm rfl (by cases e5; exact hcs) rfl ?_
    refine TL.call (ref_Open (s := s) hs1) ⟨rfl, trivial⟩ rfl ?_
    rintro _ _ H104 ⟨gsX, fvX, bvX, cvX, sbX, scX, xbX, xcX, rfl, rfl, hrX, hle104⟩
    have hL := Le.trans hL hle104; have hle0 := Le.trans hle0 hle104; have hmX := PSm.mono hle104 hmX; refine TL.move rfl rfl ?_; refine TL.extract rfl rfl rfl ?_; refine TL.extract rfl rfl rfl ?_; refine TL.assign rfl rfl ?_; refine TL.assign rfl rfl ?_; refine TL.nil ?_; refine TQ.then_n ?_; refine TC.seq ?_
    refine TC.sel 6 [3, 4, 5, 0, 1, 2] rfl (fun o ho => ?_)
    simp only [K.sel, List.map_cons, List.map_nil, List.getD_cons_zero, List.getD_cons_succ, List.drop_succ_cons, List.drop_zero, List.cons_append, List.nil_append, List.set_cons_zero, List.set_cons_succ] at ho; subst ho
    refine TC.drawQV 14  [(7, _), (13, _), (14, _), (15, _), (16, _), (17, _), (18, _)] follows_mixed ⟨rfl, rfl, rfl, rfl, rfl, rfl, rfl, trivial⟩ ?_; refine ChainV.q (some 107) [] (fun _ _ _ _ hF => TL.move rfl rfl (TL.one hF)) ?_
    refine ChainV.q (some 108) [(0, 0)] (by
     intro H' X F hle; have hL := Le.trans hL hle; intro hF; refine TL.eqlP rfl rfl rfl ?_
     exact TL.one hF) ?_
    refine ChainV.q (some 109) [(1, 0)] (fun _ _ _ _ hF => TL.move rfl rfl (TL.one hF)) ?_
    refine ChainV.q (some 110) [(2, 0)] (by
     intro H' X F hle; intro hF; refine TL.gyes rfl rfl rfl ?_; refine TL.move rfl rfl ?_
     exact TL.one hF) ?_
    refine ChainV.q (some 111) [(2, 1)] (by
     intro H' X F hle; intro hF; refine TL.gyes rfl rfl rfl ?_; refine TL.move rfl rfl ?_
     exact TL.one hF) ?_
    refine ChainV.q (some 112) [(3, 1), (4, 0), (2, 2)] (by
     intro H' X F hle; have hL := Le.trans hL hle; intro hF; refine TL.gyes rfl rfl rfl ?_; refine TL.neq rfl rfl rfl ?_
     rw [decide_eq_false (fun h => h rfl)]
     exact TL.one hF) ?_
    refine ChainV.q (some 113) [(2, 3), (5, 0)] (fun _ _ _ _ hF => TL.pickF rfl rfl rfl rfl (TL.one hF)) ?_; refine ChainV.q (some 114) [(6, 0)] (fun _ _ _ _ hF => TL.move rfl rfl (TL.one hF)) ?_
    refine ChainV.q (some 115) [(7, 0)] (by
     intro H' X F hle; intro hF; refine TL.gyes rfl rfl rfl ?_; refine TL.move rfl rfl ?_
     exact TL.one hF) ?_
    refine ChainV.r (some 116) [(8, 0), (7, 1)] ([]) (fun _ => fun r sg H => rd H (.s 4 (factsD (openP s).1.facts)) r ∧ sg = []) (by
     intro H' X F hle; have hL := Le.trans hL hle; have hmX := PSm.mono hle hmX; intro hF; refine TL.gyes rfl rfl rfl ?_; refine TL.call (proj_Facts (l := (openP s).1.facts) (m := 1000 * (openP s).1.n) hoo.now (by omega) hmX.m) ⟨rfl, trivial⟩ rfl ?_
     rintro r116 _ H116 ⟨seg116, hrow116, rfl, hle116⟩
     refine TL.nil ?_
     refine TQ.freeze (fun H9 hle9 hz => ?_)
     exact TQ.one [] hF (hle116.trans hle9) ⟨facts_row hrow116 hz (Le.refl _), rfl⟩) ?_
    refine ChainV.q (some 117) [(7, 2)] (by
     intro H' X F hle; intro hF; refine TL.gyes rfl rfl rfl ?_; refine TL.move rfl rfl ?_
     exact TL.one hF) ?_
    refine ChainV.q (some 118) [(10, 0), (7, 3)] (by
     intro H' X F hle; intro hF; refine TL.gyes rfl rfl rfl ?_; refine TL.nilCheck rfl rfl ?_
     exact TL.one hF) ?_
    refine ChainV.q (some 119) [(11, 0), (7, 4)] (by
     intro H' X F hle; intro hF; refine TL.gyes rfl rfl rfl ?_; refine TL.fieldAddr rfl rfl ?_
     exact TL.one hF) ?_
    refine ChainV.q (some 120) [(12, 0), (7, 5)] (by
     intro H' X F hle; have hL := Le.trans hL hle; intro hF; refine TL.gyes rfl rfl rfl ?_; refine TL.load_own 3 0 rfl rfl rfl rfl rfl ?_
     exact TL.one hF) ?_
    refine ⟨by kernel_rfl, .refl _, ?_⟩
    ·
     intro H4 hle
     rintro r116 _ Hi116 hle116 ⟨hr116, rfl⟩
     replace hr116 := rd.mono hle116 hr116
     have hL := Le.trans hL hle; have hle0 := Le.trans hle0 hle; have hrX := RSm.mono hle hrX; refine TL.toOwn (own' := _ :: _ :: _ :: _ :: _ :: _ :: own) rfl ?_; refine TL.wk (env' := [(7, _), (13, _), (14, _), (114, _), (116, _), (120, _)]) ⟨rfl, rfl, rfl, rfl, rfl, rfl, trivial⟩ ?_; refine TL.gyes rfl rfl rfl ?_; refine TL.call (ref_SameFacts hoo.now.fok hoo.now.fok hr116 hrX.f) ⟨rfl, rfl, trivial⟩ rfl ?_
     rintro _ own H121 ⟨rfl, rfl, hle121⟩
     rw [decide_eq_true rfl]
     have hL := Le.trans hL hle121; have hle0 := Le.trans hle0 hle121; refine TL.gyes rfl rfl rfl ?_; refine TL.not rfl rfl ?_; refine TL.pickF rfl rfl rfl rfl ?_; refine TL.nil ?_; refine TQ.then_n ?_; refine TC.cond_f rfl ?_; refine TC.skip ?_; refine TQ.in_n ?_; refine TQ.then_n ?_; refine TC.region ?_; refine TL.move rfl rfl ?_; refine TL.add rfl rfl rfl ⟨by omega, by omega⟩ ?_; refine TL.assign rfl rfl ?_; refine TL.nil ?_
     refine TQ.sel 6 [] rfl (fun o ho => ?_)
     simp only [K.sel, List.map_cons, List.map_nil, List.getD_cons_zero, List.getD_cons_succ, List.drop_succ_cons, List.drop_zero, List.cons_append, List.nil_append, List.set_cons_zero, List.set_cons_succ] at ho; subst ho
     refine TQ.next (5 - (i + 1)) [(7, _), (13, _), (14, _)] (by omega) ⟨rfl, rfl, rfl, trivial⟩ ⟨i + 1, rfl, by omega, rfl, rfl, hle0⟩
   ·
    refine TL.nil ?_; refine TQ.then_n ?_; refine TC.cond_f rfl ?_; refine TC.exit ?_; refine TQ.then_e ?_; refine TQ.then_e ?_; refine TQ.in_e ?_; refine TQ.nsr ?_; refine TL.move rfl rfl ?_; refine TL.assign rfl rfl ?_; refine TL.nil ?_; refine TQ.then_n ?_; refine TC.ret ?_; refine TQ.ret1 0 rfl rfl ?_
    exact ⟨rfl, rfl, hL⟩


end Go.Proofs.YteeamfkhkbfilaaGreat.K

namespace Go.Proofs.YteeamfkhkbfilaaGreat.K
open Go Go.RowKit Go.Proofs

section
variable {P : Program} {w0 : World} {N : Nat} {Q : Exit → Act → World → Prop} {env : Env} {own : List Seg} {H : Hp} {ops : Array Oper} {rest : List Oper}
variable {d : Option Tmp} {ty : TypeId} {pos : String} {af : Array Edge}
theorem TL.neqP {x y : Operand} {tx t' e : TypeId} {p : Option Addr} [hu : Und P tx (.pointer e)] (hx : ev env x = some (.pointer p)) (hy : ev env y = some (.pointer none)) (hd : okD N d = true)
    (h : TL P w0 N Q ops rest (putE d (.bool (!p.isNone)) env) own H) :
    TL P w0 N Q ops ({ dst := d, op := .binOp .neq tx x y t', type := ty, pos := pos, after := af, guard := none } :: rest) env own H :=
  TL.val0 hd (fun a ha w => by
    have hp : P.underlying tx = some (.pointer (P.pointee tx)) := by simp only [Program.pointee, hu.eq]
    have := run_equal_pointer_nil (P := P) w tx p hp
    simp only [execOp, eqGuard, binOp, ha.ev hx, ha.ev hy]
    simp [this]) h
end
theorem rCom_size (z : RS) (l : List Fact) : (rCom z l).1.size ≤ 205011 := by
  unfold rCom
  split
  · rename_i hw
    show (recS _ _ _).size ≤ _
    rw [recS_size]
    have := payS_small hw
    omega
  · exact Nat.zero_le _
/-- No fact of kind nine. -/
def KOk (z : RS) : Prop := (∀ f ∈ z.facts, f.kind ≠ 9) ∧ ∀ p ∈ z.stk, ∀ f ∈ p.2, f.kind ≠ 9
theorem factR_kind {f : Fact} (h : factR f = true) : f.kind ≠ 9 := by
  unfold factR at h
  simp only [Bool.and_eq_true, decide_eq_true_eq] at h
  have := h.1.1.1.1.2
  omega
theorem KOk.com {z : RS} (h : KOk z) (l : List Fact) : KOk (rCom z l).2.2 := by
  unfold rCom
  split
  · rename_i hw
    have hk : ∀ f ∈ l, f.kind ≠ 9 := fun f hf => factR_kind (List.all_eq_true.1 (wrong_zero hw).2.2.1 f hf)
    refine ⟨fun f hf => ?_, fun p hp f hf => ?_⟩
    · rcases fold_mem (ps := l) hf with h1 | h1
      · exact hk f h1
      · exact h.1 f h1
    · rcases List.mem_append.1 hp with hp | hp
      · exact h.2 p hp f hf
      · simp at hp; subst hp; exact hk f hf
  · exact h
theorem KOk.und {z : RS} (h : KOk z) : KOk (rUnd z).2.2 := by
  unfold rUnd
  split
  · exact h
  · rename_i p hp
    have hm := List.mem_of_getLast? hp
    refine ⟨fun f hf => ?_, fun q hq f hf => h.2 q (List.dropLast_subset _ hq) f hf⟩
    rcases fold_mem (ps := p.2.map (was p.1)) hf with h1 | h1
    · obtain ⟨g, hg, rfl⟩ := List.mem_map.1 h1
      exact h.2 p hm g hg
    · exact h.1 f h1
theorem plays_kinds : ∀ (n : Nat) {z : RS} {l : List ActP}, KOk z → l.length = n → KOk (plays z l).z
  | 0, z, l, hz, h => by
    have : l = [] := List.length_eq_zero_iff.1 h
    subst this; exact hz
  | n + 1, z, l, hz, h => by
    rcases List.eq_nil_or_concat l with rfl | ⟨m, a, rfl⟩
    · cases h
    · simp at h
      rw [List.concat_eq_append, plays_snoc, plStep_z]
      have := plays_kinds n (z := z) (l := m) hz h
      unfold stepA
      split
      · exact this.und
      · exact this.com _
theorem play_kinds (l : List ActP) : KOk (play RS.init l).z := plays_kinds _ ⟨fun _ h => (nomatch h), fun _ h => (nomatch h)⟩ rfl
theorem look_nine {z : RS} (h : KOk z) (b a : Int) : look z.facts (9, b, a) = none := look_none fun f hf he => h.1 f hf (by have := congrArg Prod.fst he; exact this)
/-- The facts from a place on stand in the row. -/
def TailR (l : List Fact) (i : Nat) (A : Option Addr) (seg : Seg) : Prop := i < l.length → ∃ g cur, A = some ⟨g, 0, none⟩ ∧ seg = [(g, .cells cur 60 (0, 0))] ∧ l.length * 4 ≤ cur.size ∧ ∀ j x, i ≤ j → l[j]? = some x → cAt cur (0 + j * 4) x.v
theorem TailR.of {A : Option Addr} {c : Nat} {l : List Fact} {seg : Seg} (h : Row 60 4 (.slice A l.length c) l.length (factsV l) seg) : TailR l 0 A seg := by
  intro hl
  obtain ⟨x0, hx0⟩ : ∃ x, l[0]? = some x := ⟨_, List.getElem?_eq_getElem hl⟩
  obtain ⟨g, cur, rfl, rfl, _⟩ := h.factAt hx0
  refine ⟨g, cur, rfl, rfl, ?_, fun j x _ hx => ?_⟩
  · rcases h.2 with ⟨_, h2, _⟩ | ⟨g', cap, cur', e1, e2, h1, h2, h3, h4⟩
    · omega
    · simp only [List.cons.injEq, Prod.mk.injEq, Obj.cells.injEq, and_true] at e2
      obtain ⟨_, rfl⟩ := e2
      rw [h3]
      exact Nat.mul_le_mul_right 4 h1
  · obtain ⟨g', cur', e1, e2, h1⟩ := h.factAt hx
    simp only [List.cons.injEq, Prod.mk.injEq, Obj.cells.injEq, and_true] at e2
    obtain ⟨_, rfl⟩ := e2
    exact h1
theorem TailR.next {l : List Fact} {i g : Nat} {cur : Array Value} {v : Value} (hz : l.length * 4 ≤ cur.size) (h : ∀ j x, i ≤ j → l[j]? = some x → cAt cur (0 + j * 4) x.v) : TailR l (i + 1) (some ⟨g, 0, none⟩) [(g, .cells (cur.setIfInBounds (0 + i * 4 + 3) v) 60 (0, 0))] := by
  intro _
  refine ⟨g, _, rfl, rfl, by rw [Array.size_setIfInBounds]; exact hz, fun j x hj hx => ?_⟩
  have h1 := h j x (by omega) hx
  refine cAt_of fun k u hu => ?_
  rw [Array.getElem?_setIfInBounds, if_neg (by omega)]
  exact h1.get k u hu
/-- The long list: facts of different places. -/
def longF : Nat → List Fact
  | 0 => []
  | n + 1 => longF n ++ [⟨3, 0, (n : Int) % 65536, ⟨#[121]⟩⟩]
theorem longF_len : ∀ n, (longF n).length = n
  | 0 => rfl
  | n + 1 => by rw [longF, List.length_append, longF_len n]; rfl
theorem longF_ok : ∀ n, ∀ f ∈ longF n, FOk f
  | 0, _, h => nomatch h
  | n + 1, f, h => by
    rcases List.mem_append.1 h with h | h
    · exact longF_ok n f h
    · simp at h
      subst h
      exact ⟨(show I64 (3 : Int) from ⟨by decide, by decide⟩), (show I64 (0 : Int) from ⟨by decide, by decide⟩), ⟨by show 0 ≤ (n : Int) % 65536; omega, by show (n : Int) % 65536 ≤ _; omega⟩, (show 1 ≤ 1000000 by decide)⟩
theorem wrong_two {l : List Fact} : (wrongC l = 2) ↔ 1000 < l.length := by
  constructor
  · intro h
    unfold wrongC at h
    split at h
    · assumption
    · split at h
      · cases h
      · split at h
        · cases h
        · split at h <;> cases h
  · exact wrong_many
theorem rCom_err (z : RS) (l : List Fact) : (rCom z l).2.1 = wrongC l := by
  unfold rCom
  split
  · rename_i h; exact h.symm
  · rfl
theorem wrong_pair (f : Fact) : wrongC [f, f] ≠ 0 := fun h => by
  have := (wrong_zero h).2.2.2
  simp at this
/-- Valid facts before the one that is looked at. -/
def someF : Nat → List Fact
  | 0 => []
  | n + 1 => someF n ++ [⟨1 + (n : Int) % 4, 7, 0, ⟨#[120]⟩⟩]
theorem someF_len : ∀ n, (someF n).length = n
  | 0 => rfl
  | n + 1 => by rw [someF, List.length_append, someF_len n]; rfl
theorem someF_ok : ∀ n, ∀ f ∈ someF n, FOk f
  | 0, _, h => nomatch h
  | n + 1, f, h => by
    rcases List.mem_append.1 h with h | h
    · exact someF_ok n f h
    · simp at h
      subst h
      exact ⟨⟨by show _ ≤ 1 + (n : Int) % 4; omega, by show 1 + (n : Int) % 4 ≤ _; omega⟩, (show I64 (7 : Int) from ⟨by decide, by decide⟩), (show U16 (0 : Int) from ⟨by decide, by decide⟩), (show 1 ≤ 1000000 by decide)⟩
theorem rem4 {i : Nat} : ((i : Int)).tmod 4 = (i : Int) % 4 := Int.tmod_eq_emod_of_nonneg (by omega)
end Go.Proofs.YteeamfkhkbfilaaGreat.K

namespace Go.Proofs.YteeamfkhkbfilaaGreat.K
open Go Go.RowKit Go.Proofs

theorem mul_in {n : Int} : I64 (n % 4 * n.tmod 5) := by
  have h1 := Int.tmod_lt_of_pos n (show (0 : Int) < 5 by omega)
  have h2 := Int.lt_tmod_of_pos n (show (0 : Int) < 5 by omega)
  have h3 := Int.emod_lt_of_pos n (show (0 : Int) < 4 by omega)
  have h4 := Int.emod_nonneg n (show (4 : Int) ≠ 0 by omega)
  have : n % 4 = 0 ∨ n % 4 = 1 ∨ n % 4 = 2 ∨ n % 4 = 3 := by omega
  rcases this with e | e | e | e <;> rw [e] <;> exact ⟨by omega, by omega⟩
theorem add_in {n : Int} {m : Nat} (hm : m ≤ 80) : I64 ((m : Int) + n % 4 * n.tmod 5) := by
  have h1 := Int.tmod_lt_of_pos n (show (0 : Int) < 5 by omega)
  have h2 := Int.lt_tmod_of_pos n (show (0 : Int) < 5 by omega)
  have : n % 4 = 0 ∨ n % 4 = 1 ∨ n % 4 = 2 ∨ n % 4 = 3 := by omega
  rcases this with e | e | e | e <;> rw [e] <;> exact ⟨by omega, by omega⟩
theorem law_sum {s : ByteArray} (hs : s.size ≤ 1000000000) {w0 : World} {H : Hp} {own : List Seg} : Fn Tryz.prog 19 [.string s] w0 H own (fun r own' H' => r = .string (put16 (crc s.data.toList)) ∧ own' = own ∧ Le H H') := by
  refine Fn.enter Tryz.func19 rfl Tryz.ntmps19 rfl ?_; have hL := Le.refl H; refine TC.seq ?_; refine TC.region ?_; refine TL.assign rfl rfl ?_; refine TL.nsr ?_; refine TL.move rfl rfl ?_; refine TL.call (ref_Sum hs) ⟨rfl, trivial⟩ rfl ?_
  rintro _ own H4 ⟨rfl, rfl, hle4⟩
  have hL := Le.trans hL hle4; refine TL.call (ref_Put (crc_acc _)) ⟨rfl, trivial⟩ rfl ?_
  rintro _ own H5 ⟨rfl, rfl, hle5⟩
  have hL := Le.trans hL hle5; refine TL.assign rfl rfl ?_; refine TL.nil ?_; refine TQ.then_n ?_; refine TC.ret ?_; refine TQ.ret1 0 rfl rfl ?_
  exact ⟨rfl, rfl, hL⟩
theorem law_projectforms {b : Int} {n0 n1 : Int} {pay : ByteArray} (hb : 0 ≤ b ∧ b ≤ 255) (hn0 : I64 n0) (hn1 : I64 n1) {w0 : World} {H : Hp} {own : List Seg}  :
    Fn Tryz.prog 7 [.int .u8 b, .agg #[.int .i64 n0, .int .i64 n1], .string pay] w0 H own (fun r own' H' => r = .bool true ∧ own' = own ∧ Le H H') := by
  obtain ⟨m, hm⟩ : ∃ m : Nat, m = min pay.size 80 := ⟨_, rfl⟩
  have hmt : (pay.extract 0 m).size = m := by rw [ext_size _ _ _ (by omega)]; omega
  have hfx : ∀ g ∈ [(⟨3, 0, 0, ⟨#[120]⟩⟩ : Fact)], FOk g := fok_of ⟨by decide, by decide⟩ ⟨by decide, by decide⟩ ⟨by decide, by decide⟩ (by decide)
  obtain ⟨hn01, hn02⟩ := hn0
  obtain ⟨hn11, hn12⟩ := hn1
  refine Fn.enter Tryz.func7 rfl Tryz.ntmps7 rfl ?_; have hL := Le.refl H; refine TC.seq ?_; refine TC.region ?_
  refine TL.box (c := #[_, _]) rfl rfl rfl ?_; intro g4; refine TL.assign rfl rfl ?_; refine TL.nsr ?_; refine TL.call (law_sanity) trivial rfl ?_
  rintro _ own H18 ⟨rfl, rfl, hle18⟩
  have hL := Le.trans hL hle18; refine TL.assign rfl rfl ?_; refine TL.nsr ?_; refine TL.move rfl rfl ?_; refine TL.move rfl rfl ?_; refine TL.len_string rfl rfl ?_; refine TL.min2 rfl rfl rfl ?_
  rw [show min (pay.size : Int) 80 = ((m : Nat) : Int) by omega]
  refine TL.sliceS (li := none) (ri := some (m : Int)) 0 m rfl rfl ⟨_, _, rfl, rfl⟩ rfl rfl (by omega) (by omega) rfl ?_; refine TL.assign rfl rfl ?_; refine TL.nil ?_; refine TQ.then_n ?_; refine TC.seq ?_; refine TC.nilseg ?_; refine TC.nilseg ?_; refine TC.region ?_; refine TL.struct [] trivial rfl rfl ?_
  refine TL.box (c := #[_, _, _, _]) rfl rfl rfl ?_; intro g26; refine TL.struct [(0, [_]), (2, [_])] ⟨rfl, ⟨_, rfl, rfl⟩, rfl, ⟨_, rfl, rfl⟩, trivial⟩ rfl rfl ?_
  refine TL.litF (r := [_, _, _, _]) [(0, [_, _, _, _])] ⟨rfl, ⟨_, rfl, rfl⟩, trivial⟩ rfl rfl rfl rfl ?_; intro g28
  refine TL.freeze (fun H1 hle hz_g28 => ?_)
  have hL := Le.trans hL hle
  have hfl : rd H1 (.s 4 (factsD [⟨3, 0, 0, ⟨#[120]⟩⟩])) _ := facts_row (l := [⟨3, 0, 0, ⟨#[120]⟩⟩]) (Row.lit 60 4 1 _ _ rfl (by omega)) hz_g28 (Le.refl _)
  have hr0 : RSm H1 RS.init (.slice none 0 0) (.slice none 0 0) (.slice none 0 0) [] [] [] [] := ⟨rd.nil _ 4, Row.nil _ 1, Row.nil _ 1, trivial, trivial⟩
  refine TL.sel 4 [0, 2, 1, 3] rfl (fun o ho => ?_)
  simp only [K.sel, List.map_cons, List.map_nil, List.getD_cons_zero, List.getD_cons_succ, List.drop_succ_cons, List.drop_zero, List.cons_append, List.nil_append, List.set_cons_zero, List.set_cons_succ] at ho; subst ho
  refine TL.call (ref_Commit RS.init_ok (by decide) hfx hr0 hfl) ⟨rfl, rfl, trivial⟩ rfl ?_
  rintro _ _ H29 ⟨fv29, bv29, cv29, sb29, sc29, xb29, xc29, rfl, rfl, hr29, hle29⟩
  obtain ⟨s1, hs1⟩ : ∃ s1, s1 = (rCom RS.init [(⟨3, 0, 0, ⟨#[120]⟩⟩ : Fact)]).1 := ⟨_, rfl⟩
  have hs1z : s1.size ≤ 205011 := by rw [hs1]; exact rCom_size _ _
  rw [← hs1]
  have hL := Le.trans hL hle29; refine TL.move rfl rfl ?_; refine TL.extract rfl rfl rfl ?_; refine TL.extract rfl rfl rfl ?_; refine TL.assign rfl rfl ?_; refine TL.assign rfl rfl ?_; refine TL.nil ?_; refine TQ.then_n ?_; refine TC.seq ?_
  refine TC.sel 4 [3] rfl (fun o ho => ?_)
  simp only [K.sel, List.map_cons, List.map_nil, List.getD_cons_zero, List.getD_cons_succ, List.drop_succ_cons, List.drop_zero, List.cons_append, List.nil_append, List.set_cons_zero, List.set_cons_succ] at ho; subst ho
  refine TC.drawQV 19  [(0, _), (1, _), (2, _), (4, _), (6, _), (7, _), (8, _), (9, _)] follows_mixed ⟨rfl, rfl, rfl, rfl, rfl, rfl, rfl, rfl, trivial⟩ ?_; refine ChainV.q (some 32) [] (fun _ _ _ _ hF => TL.move rfl rfl (TL.one hF)) ?_
  refine ChainV.q (some 33) [] (by
   intro H' X F hle; intro hF; refine TL.indexArr (0) rfl rfl rfl (by omega) rfl ?_
   exact TL.one hF) ?_
  refine ChainV.q (some 34) [(1, 0)] (by
   intro H' X F hle; have hL := Le.trans hL hle; intro hF; refine TL.load_own 0 0 rfl rfl rfl rfl rfl ?_
   exact TL.one hF) ?_
  refine ChainV.q (some 35) [(2, 0)] (by
   intro H' X F hle; have hL := Le.trans hL hle; intro hF; refine TL.convI rfl rfl ?_
   exact TL.one hF) ?_
  refine ChainV.q (some 36) [] (by
   intro H' X F hle; intro hF; refine TL.indexArr (0) rfl rfl rfl (by omega) rfl ?_
   exact TL.one hF) ?_
  refine ChainV.q (some 37) [(4, 0)] (by
   intro H' X F hle; have hL := Le.trans hL hle; intro hF; refine TL.load_own 0 0 rfl rfl rfl rfl rfl ?_
   exact TL.one hF) ?_
  refine ChainV.q (some 38) [(5, 0)] (by
   intro H' X F hle; intro hF; refine TL.quo rfl rfl rfl (by omega) ?_
   exact TL.one hF) ?_
  refine ChainV.q (some 39) [(6, 0)] (by
   intro H' X F hle; have hL := Le.trans hL hle; intro hF; refine TL.convI rfl rfl ?_
   exact TL.one hF) ?_
  refine ChainV.q (some 40) [] (fun _ _ _ _ hF => TL.move rfl rfl (TL.one hF)) ?_
  refine ChainV.q (some 41) [(8, 0)] (by
   intro H' X F hle; have hL := Le.trans hL hle; intro hF; refine TL.len_string rfl rfl ?_
   rw [hmt]
   exact TL.one hF) ?_
  refine ChainV.q (some 42) [] (by
   intro H' X F hle; intro hF; refine TL.indexArr (1) rfl rfl rfl (by omega) rfl ?_
   exact TL.one hF) ?_
  refine ChainV.q (some 43) [(10, 0)] (by
   intro H' X F hle; have hL := Le.trans hL hle; intro hF; refine TL.load_own 0 0 rfl rfl rfl rfl rfl ?_
   exact TL.one hF) ?_
  refine ChainV.q (some 44) [(11, 0)] (by
   intro H' X F hle; have hL := Le.trans hL hle; intro hF; refine TL.call (ref_Mod ⟨hn11, hn12⟩ (by omega) (by omega)) ⟨rfl, rfl, trivial⟩ rfl ?_
   rintro _ own H44 ⟨rfl, rfl, hle44⟩
   have hL := Le.trans hL hle44; refine TL.nil ?_
   exact TQ.one [] hF hle44 ⟨rfl, rfl⟩) ?_
  refine ChainV.q (some 45) [] (by
   intro H' X F hle; intro hF; refine TL.indexArr (1) rfl rfl rfl (by omega) rfl ?_
   exact TL.one hF) ?_
  refine ChainV.q (some 46) [(13, 0)] (by
   intro H' X F hle; have hL := Le.trans hL hle; intro hF; refine TL.load_own 0 0 rfl rfl rfl rfl rfl ?_
   exact TL.one hF) ?_
  refine ChainV.q (some 47) [(14, 0)] (by
   intro H' X F hle; intro hF; refine TL.rem rfl rfl rfl (by omega) ?_
   exact TL.one hF) ?_
  refine ChainV.q (some 48) [(12, 3), (15, 0)] (by
   intro H' X F hle; have hL := Le.trans hL hle; intro hF; refine TL.mul rfl rfl rfl (mul_in (n := n1)) ?_
   exact TL.one hF) ?_
  refine ChainV.q (some 49) [(9, 7), (16, 0)] (by
   intro H' X F hle; have hL := Le.trans hL hle; intro hF; refine TL.add rfl rfl rfl (add_in (n := n1) (by omega)) ?_
   exact TL.one hF) ?_
  refine ChainV.q (some 50) [(17, 0)] (by
   intro H' X F hle; have hL := Le.trans hL hle; intro hF; refine TL.convI rfl rfl ?_
   exact TL.one hF) ?_
  refine ⟨by kernel_rfl, .refl _, ?_⟩
  ·
   intro H2 hle; have hL := Le.trans hL hle; refine TL.toOwn (own' := _ :: own) rfl ?_; refine TL.wk (env' := [(1, _), (2, _), (6, _), (7, _), (8, _), (9, _), (32, _), (35, _), (39, _), (50, _)]) ⟨rfl, rfl, rfl, rfl, rfl, rfl, rfl, rfl, rfl, rfl, trivial⟩ ?_
   refine TL.litF (r := [_, _, _, _, _, _, _, _, _]) [(0, [_]), (1, [_]), (2, [_]), (3, [_]), (4, [_]), (5, [_]), (6, [_]), (7, [_]), (8, [_])] ⟨rfl, ⟨_, rfl, rfl⟩, rfl, ⟨_, rfl, rfl⟩, rfl, ⟨_, rfl, rfl⟩, rfl, ⟨_, rfl, rfl⟩, rfl, ⟨_, rfl, rfl⟩, rfl, ⟨_, rfl, rfl⟩, rfl, ⟨_, rfl, rfl⟩, rfl, ⟨_, rfl, rfl⟩, rfl, ⟨_, rfl, rfl⟩, trivial⟩ rfl rfl rfl rfl ?_; intro g51; refine TL.assign rfl rfl ?_; refine TL.nsr ?_; refine TL.move rfl rfl ?_; refine TL.convBS 0 0 [b8 b, b8 n0, b8 (IntKind.i64.wrap (n0.tdiv 256)), b8 0, b8 0, b8 ((m : Int) + n1 % 4 * n1.tmod 5), b8 0, b8 0, b8 0] rfl rfl rfl rfl ⟨congrArg some (show _ = byteV (b8 b) by rw [b8_val, wrap_u8, Int.emod_eq_of_lt hb.1 (by omega)]), congrArg some (b8_val n0).symm, congrArg some (b8_val (IntKind.i64.wrap (n0.tdiv 256))).symm, rfl, rfl, congrArg some (b8_val ((m : Int) + n1 % 4 * n1.tmod 5)).symm, rfl, rfl, rfl, trivial⟩ rfl ?_
   obtain ⟨hd, hhd⟩ : ∃ hd : ByteArray, hd = ⟨([b8 b, b8 n0, b8 (IntKind.i64.wrap (n0.tdiv 256)), b8 0, b8 0, b8 ((m : Int) + n1 % 4 * n1.tmod 5), b8 0, b8 0, b8 0] : List UInt8).toArray⟩ := ⟨_, rfl⟩
   have hhz : hd.size = 9 := by rw [hhd]; rfl
   rw [← hhd]
   refine TL.move rfl rfl ?_; refine TL.addS rfl rfl rfl (by omega) ?_; refine TL.assign rfl rfl ?_; refine TL.nsr ?_; refine TL.move rfl rfl ?_; refine TL.move rfl rfl ?_; refine TL.addS rfl rfl rfl (by rw [ByteArray.size_append]; omega) ?_
   refine TL.move rfl rfl ?_; refine TL.call (law_sum (by rw [ByteArray.size_append]; omega)) ⟨rfl, trivial⟩ rfl ?_
   rintro _ own H60 ⟨rfl, rfl, hle60⟩
   have hL := Le.trans hL hle60; refine TL.addS rfl rfl rfl (by rw [ByteArray.size_append, ByteArray.size_append, put16_size]; omega) ?_
   refine TL.assign rfl rfl ?_; refine TL.nil ?_; refine TQ.then_n ?_; refine TC.seq ?_
   obtain ⟨s, hs⟩ : ∃ s, s = s1 ++ (hd ++ pay.extract 0 m) ++ put16 (crc (hd ++ pay.extract 0 m).data.toList) := ⟨_, rfl⟩
   have hsz : s.size ≤ 100000000 := by rw [hs, ByteArray.size_append, ByteArray.size_append, ByteArray.size_append, put16_size]; omega
   rw [← hs]
   obtain ⟨hoo, hon, hol⟩ := openP_ok hsz
   refine TC.region ?_; refine TL.move rfl rfl ?_; refine TL.call (proj_Open (s := s) hsz) ⟨rfl, trivial⟩ rfl ?_
   rintro _ _ H64 ⟨gpX, fmX, uvX, smX, suX, xuX, rfl, rfl, hmX, hle64⟩
   have hL := Le.trans hL hle64; refine TL.move rfl rfl ?_; refine TL.extract rfl rfl rfl ?_; refine TL.extract rfl rfl rfl ?_; refine TL.assign rfl rfl ?_; refine TL.assign rfl rfl ?_; refine TL.nsr ?_; refine TL.move rfl rfl ?_; refine TL.call (ref_Open (s := s) hsz) ⟨rfl, trivial⟩ rfl ?_
   rintro _ _ H69 ⟨gsX, fvX, bvX, cvX, sbX, scX, xbX, xcX, rfl, rfl, hrX, hle69⟩
   have hL := Le.trans hL hle69; have hmX := PSm.mono hle69 hmX; refine TL.move rfl rfl ?_; refine TL.extract rfl rfl rfl ?_; refine TL.extract rfl rfl rfl ?_; refine TL.assign rfl rfl ?_; refine TL.assign rfl rfl ?_; refine TL.nil ?_; refine TQ.then_n ?_; refine TC.seq ?_
   refine TC.sel 8 [3, 4, 5, 0, 1, 2] rfl (fun o ho => ?_)
   simp only [K.sel, List.map_cons, List.map_nil, List.getD_cons_zero, List.getD_cons_succ, List.drop_succ_cons, List.drop_zero, List.cons_append, List.nil_append, List.set_cons_zero, List.set_cons_succ] at ho; subst ho
   refine TC.drawQV 17  [(1, _), (2, _), (6, _), (7, _), (8, _), (9, _), (11, _), (12, _), (13, _), (14, _), (15, _), (16, _), (17, _)] follows_mixed ⟨rfl, rfl, rfl, rfl, rfl, rfl, rfl, rfl, rfl, rfl, rfl, rfl, rfl, trivial⟩ ?_; refine ChainV.q (some 72) [] (fun _ _ _ _ hF => TL.move rfl rfl (TL.one hF)) ?_; refine ChainV.q (some 73) [(0, 0)] (fun _ _ _ _ hF => TL.move rfl rfl (TL.one hF)) ?_
   refine ChainV.q (some 74) [(1, 0)] (by
    intro H' X F hle; intro hF; refine TL.gyes rfl rfl rfl ?_; refine TL.move rfl rfl ?_
    exact TL.one hF) ?_
   refine ChainV.q (some 75) [(2, 0), (1, 1)] (by
    intro H' X F hle; have hL := Le.trans hL hle; intro hF; refine TL.gyes rfl rfl rfl ?_; refine TL.neqP rfl rfl rfl ?_
    exact TL.one hF) ?_
   refine ChainV.q (some 76) [(1, 2), (3, 0)] (fun _ _ _ _ hF => TL.pickT rfl rfl rfl rfl (TL.one hF)) ?_; refine ChainV.q (some 77) [(4, 0)] (fun _ _ _ _ hF => TL.move rfl rfl (TL.one hF)) ?_
   refine ChainV.q (some 78) [(5, 0)] (by
    intro H' X F hle; intro hF; refine TL.gyes rfl rfl rfl ?_; refine TL.move rfl rfl ?_
    exact TL.one hF) ?_
   refine ChainV.q (some 79) [(5, 1)] (by
    intro H' X F hle; intro hF; refine TL.gyes rfl rfl rfl ?_; refine TL.move rfl rfl ?_
    exact TL.one hF) ?_
   refine ChainV.q (some 80) [(6, 1), (7, 0), (5, 2)] (by
    intro H' X F hle; have hL := Le.trans hL hle; intro hF; refine TL.gyes rfl rfl rfl ?_; refine TL.eql rfl rfl rfl ?_
    rw [decide_eq_true rfl]
    exact TL.one hF) ?_
   refine ChainV.q (some 81) [(5, 3), (8, 0)] (fun _ _ _ _ hF => TL.pickT rfl rfl rfl rfl (TL.one hF)) ?_; refine ChainV.q (some 82) [(9, 0)] (fun _ _ _ _ hF => TL.move rfl rfl (TL.one hF)) ?_
   refine ChainV.q (some 83) [(10, 0)] (by
    intro H' X F hle; intro hF; refine TL.gyes rfl rfl rfl ?_; refine TL.move rfl rfl ?_
    exact TL.one hF) ?_
   refine ChainV.r (some 84) [(11, 0), (10, 1)] ([]) (fun _ => fun r sg H => rd H (.s 4 (factsD (openP s).1.facts)) r ∧ sg = []) (by
    intro H' X F hle; have hL := Le.trans hL hle; have hmX := PSm.mono hle hmX; intro hF; refine TL.gyes rfl rfl rfl ?_; refine TL.call (proj_Facts (l := (openP s).1.facts) (m := 1000 * (openP s).1.n) hoo.now (by omega) hmX.m) ⟨rfl, trivial⟩ rfl ?_
    rintro r84 _ H84 ⟨seg84, hrow84, rfl, hle84⟩
    refine TL.nil ?_
    refine TQ.freeze (fun H9 hle9 hz => ?_)
    exact TQ.one [] hF (hle84.trans hle9) ⟨facts_row hrow84 hz (Le.refl _), rfl⟩) ?_
   refine ChainV.q (some 85) [(10, 2)] (by
    intro H' X F hle; intro hF; refine TL.gyes rfl rfl rfl ?_; refine TL.move rfl rfl ?_
    exact TL.one hF) ?_
   refine ChainV.q (some 86) [(13, 0), (10, 3)] (by
    intro H' X F hle; intro hF; refine TL.gyes rfl rfl rfl ?_; refine TL.nilCheck rfl rfl ?_
    exact TL.one hF) ?_
   refine ChainV.q (some 87) [(14, 0), (10, 4)] (by
    intro H' X F hle; intro hF; refine TL.gyes rfl rfl rfl ?_; refine TL.fieldAddr rfl rfl ?_
    exact TL.one hF) ?_
   refine ChainV.q (some 88) [(15, 0), (10, 5)] (by
    intro H' X F hle; have hL := Le.trans hL hle; intro hF; refine TL.gyes rfl rfl rfl ?_; refine TL.load_own 3 0 rfl rfl rfl rfl rfl ?_
    exact TL.one hF) ?_
   refine ⟨by kernel_rfl, .refl _, ?_⟩
   ·
    intro H3 hle
    rintro r84 _ Hi84 hle84 ⟨hr84, rfl⟩
    replace hr84 := rd.mono hle84 hr84
    have hL := Le.trans hL hle; have hrX := RSm.mono hle hrX; refine TL.toOwn (own' := _ :: _ :: _ :: _ :: _ :: _ :: own) rfl ?_; refine TL.wk (env' := [(1, _), (2, _), (6, _), (8, _), (9, _), (11, _), (12, _), (13, _), (82, _), (84, _), (88, _)]) ⟨rfl, rfl, rfl, rfl, rfl, rfl, rfl, rfl, rfl, rfl, rfl, trivial⟩ ?_; refine TL.gyes rfl rfl rfl ?_; refine TL.call (ref_SameFacts hoo.now.fok hoo.now.fok hr84 hrX.f) ⟨rfl, rfl, trivial⟩ rfl ?_
    rintro _ own H89 ⟨rfl, rfl, hle89⟩
    rw [decide_eq_true rfl]
    have hL := Le.trans hL hle89; refine TL.pickT rfl rfl rfl rfl ?_; refine TL.assign rfl rfl ?_; refine TL.nil ?_; refine TQ.then_n ?_; refine TC.ret ?_; refine TQ.ret1 6 rfl rfl ?_
    exact ⟨rfl, rfl, hL⟩
theorem law_projectfacts {acts : List ActP} {x : Quad} (hq : AOk acts) (hx : QOk x) {w0 : World} {H : Hp} {own : List Seg} {v : Value} (hA : rd H (.s 2 (actsD acts)) v) :
    Fn Tryz.prog 8 [v, .agg #[.int .i64 x.1, .int .i64 x.2.1, .int .i64 x.2.2.1, .int .i64 x.2.2.2]] w0 H own (fun r own' H' => r = .bool true ∧ own' = own ∧ Le H H') := by
  refine Fn.enter Tryz.func8 rfl Tryz.ntmps8 rfl ?_; have hL := Le.refl H; refine TC.seq ?_; refine TC.region ?_
  refine TL.box (c := #[_, _, _, _]) rfl rfl rfl ?_; intro g3; refine TL.assign rfl rfl ?_; refine TL.nsr ?_; refine TL.call (law_sanity) trivial rfl ?_
  rintro _ own H23 ⟨rfl, rfl, hle23⟩
  have hL := Le.trans hL hle23; have hA := rd.mono hle23 hA; refine TL.assign rfl rfl ?_; refine TL.nsr ?_; refine TL.struct [] trivial rfl rfl ?_
  refine TL.box (c := #[_, _, _, _]) rfl rfl rfl ?_; intro g25; refine TL.assign rfl rfl ?_; refine TL.nsr ?_; refine TL.struct [] trivial rfl rfl ?_
  refine TL.box (c := #[_, _, _, _]) rfl rfl rfl ?_; intro g27; refine TL.assign rfl rfl ?_; refine TL.nil ?_; refine TQ.then_n ?_; refine TC.seq ?_; refine TC.nilseg ?_; refine TC.nilseg ?_; refine TC.nilseg ?_; refine TC.nilseg ?_; refine TC.region ?_; refine TL.move rfl rfl ?_; refine TL.move rfl rfl ?_; refine TL.move rfl rfl ?_
  have hm0 : PSm H23 g27 RS.init (.map none) (.slice none 0 0) [] [] [] := ⟨PMap.nil _, Row.nil _ 1, trivial⟩
  have hr0 : RSm H23 RS.init (.slice none 0 0) (.slice none 0 0) (.slice none 0 0) [] [] [] [] := ⟨rd.nil _ 4, Row.nil _ 1, Row.nil _ 1, trivial, trivial⟩
  refine TL.sel 7 [4, 3, 2, 5, 1, 0, 6] rfl (fun o ho => ?_)
  simp only [K.sel, List.map_cons, List.map_nil, List.getD_cons_zero, List.getD_cons_succ, List.drop_succ_cons, List.drop_zero, List.cons_append, List.nil_append, List.set_cons_zero, List.set_cons_succ] at ho; subst ho
  refine TL.call (law_played hq RS.init_ok (by decide) hm0 hr0 hA) ⟨rfl, rfl, rfl, trivial⟩ rfl ?_
  rintro _ _ H32 ⟨ll32, fm32, uv32, sm32, su32, xu32, fv32, bv32, cv32, sb32, sc32, xb32, xc32, rfl, hll32, rfl, hm32, hr32, hle32⟩
  have hkk := play_kinds acts
  obtain ⟨q, hqq⟩ : ∃ q, q = play RS.init acts := ⟨_, rfl⟩
  have hok : PlOk 20 q := hqq ▸ play_ok acts
  have hqn := hok.n; have hqz := hok.size; have hqo := hok.ok
  rw [← hqq] at hll32 hm32 hr32 hkk ⊢
  have hL := Le.trans hL hle32; refine TL.move rfl rfl ?_; refine TL.extract rfl rfl rfl ?_; refine TL.extract rfl rfl rfl ?_; refine TL.extract rfl rfl rfl ?_; refine TL.assign rfl rfl ?_; refine TL.assign rfl rfl ?_; refine TL.assign rfl rfl ?_; refine TL.nil ?_; refine TQ.then_n ?_; refine TC.seq ?_; refine TC.seq ?_; refine TC.region ?_; refine TL.move rfl rfl ?_; refine TL.not rfl rfl ?_; refine TL.nil ?_; refine TQ.then_n ?_; refine TC.cond_f rfl ?_; refine TC.skip ?_; refine TQ.nsr ?_; refine TL.move rfl rfl ?_; refine TL.call (proj_Facts (l := q.z.facts) (m := 1000 * q.z.n) hqo.now (by omega) hm32.m) ⟨rfl, trivial⟩ rfl ?_
  rintro r39 _ H39 ⟨row, hrow, rfl, hle39⟩
  obtain ⟨A, c, rfl, hc1, hc2⟩ := hrow.sl
  have htl := TailR.of hrow; have hlen := hqo.now.len; have hL := Le.trans hL hle39; have hm32 := PSm.mono hle39 hm32; have hr32 := RSm.mono hle39 hr32; refine TL.assign rfl rfl ?_; refine TL.nil ?_; refine TQ.then_n ?_; refine TC.seq ?_; refine TC.seq ?_
  refine TC.sel 8 [1, 2, 3, 4, 5, 6, 0, 7] rfl (fun o ho => ?_)
  simp only [K.sel, List.map_cons, List.map_nil, List.getD_cons_zero, List.getD_cons_succ, List.drop_succ_cons, List.drop_zero, List.cons_append, List.nil_append, List.set_cons_zero, List.set_cons_succ] at ho; subst ho
  refine TC.region ?_; refine TL.assign rfl rfl ?_; refine TL.nil ?_; refine TQ.then_n ?_; refine TC.block ?_
  refine TC.loop (fun n' env' own' H' => ∃ i row, n' = q.z.facts.length - i ∧ i ≤ q.z.facts.length ∧ TailR q.z.facts i A row ∧ env' = [(5, .bool true), (3, .pointer (some ⟨g3, 0, none⟩)), (6, .pointer (some ⟨g25, 0, none⟩)), (7, .pointer (some ⟨g27, 0, none⟩)), (11, .slice A q.z.facts.length c), (12, .int .i64 (i : Int))] ∧ own' = [(g27, .cells #[fm32, .int .i64 (q.z.n : Int), uv32, .slice none 0 0] 37 (0, 0))] :: sm32 :: su32 :: [(g25, .cells #[fv32, .int .i64 (q.z.n : Int), bv32, cv32] 28 (0, 0))] :: sb32 :: sc32 :: row :: [(g3, .cells #[.int .i64 x.1, .int .i64 x.2.1, .int .i64 x.2.2.1, .int .i64 x.2.2.2] 63 (0, 0))] :: own ∧ Le H39 H') q.z.facts.length [(5, _), (3, _), (6, _), (7, _), (11, _), (12, _)] ⟨rfl, rfl, rfl, rfl, rfl, rfl, trivial⟩ ⟨0, _, by omega, by omega, htl, rfl, rfl, Le.refl _⟩ ?_
  rintro n' _ _ H1 ⟨i, row, rfl, hi1, htl, rfl, rfl, hle0⟩
  have hL := Le.trans hL hle0; have hm32 := PSm.mono hle0 hm32; have hr32 := RSm.mono hle0 hr32; refine TC.seq ?_; refine TC.seq ?_; refine TC.region ?_; refine TL.move rfl rfl ?_; refine TL.move rfl rfl ?_; refine TL.len_slice rfl rfl ?_
  refine TL.lssB rfl rfl rfl (fun hlt => ?_) (fun hlt => ?_)
  ·
   obtain ⟨f, hf⟩ : ∃ f, q.z.facts[i]? = some f := ⟨_, List.getElem?_eq_getElem (by omega)⟩
   have hfk := hqo.now.fok f (List.mem_of_getElem? hf)
   have hlk := hqo.now.good.look (List.mem_of_getElem? hf)
   have hne := hqo.now.good.2 f (List.mem_of_getElem? hf)
   obtain ⟨gr, cur, rfl, rfl, hcz, hct⟩ := htl (by omega)
   have hck := hct i f (Nat.le_refl _) hf
   refine TL.nil ?_; refine TQ.then_n ?_; refine TC.cond_t rfl ?_; refine TC.skip ?_; refine TQ.then_n ?_; refine TC.seq ?_; refine TC.block ?_; refine TC.seq ?_; refine TC.drawQV 16  [(5, _), (3, _), (6, _), (7, _), (11, _), (12, _)] follows_mixed ⟨rfl, rfl, rfl, rfl, rfl, rfl, trivial⟩ ?_; refine ChainV.q (some 47) [] (fun _ _ _ _ hF => TL.move rfl rfl (TL.one hF)) ?_; refine ChainV.q (some 48) [] (fun _ _ _ _ hF => TL.move rfl rfl (TL.one hF)) ?_; refine ChainV.q (some 49) [] (fun _ _ _ _ hF => TL.move rfl rfl (TL.one hF)) ?_; refine ChainV.q (some 50) [(1, 1), (2, 0)] (fun _ _ _ _ hF => TL.indexAddr (i) rfl rfl rfl (by omega) rfl (TL.one hF)) ?_; refine ChainV.q (some 51) [(3, 0)] (fun _ _ _ _ hF => TL.fieldAddr rfl rfl (TL.one hF)) ?_
   refine ChainV.q (some 52) [(4, 0)] (by
    intro H' X F hle; have hL := Le.trans hL hle; intro hF; refine TL.load_own 6 0 rfl rfl rfl hck.1 rfl ?_
    exact TL.one hF) ?_
   refine ChainV.q (some 53) [] (fun _ _ _ _ hF => TL.move rfl rfl (TL.one hF)) ?_; refine ChainV.q (some 54) [] (fun _ _ _ _ hF => TL.move rfl rfl (TL.one hF)) ?_; refine ChainV.q (some 55) [(6, 1), (7, 0)] (fun _ _ _ _ hF => TL.indexAddr (i) rfl rfl rfl (by omega) rfl (TL.one hF)) ?_; refine ChainV.q (some 56) [(8, 0)] (fun _ _ _ _ hF => TL.fieldAddr rfl rfl (TL.one hF)) ?_
   refine ChainV.q (some 57) [(9, 0)] (by
    intro H' X F hle; have hL := Le.trans hL hle; intro hF; refine TL.load_ownA 6 0 [_, _] rfl rfl rfl ⟨hck.2.1, hck.2.2.1, trivial⟩ rfl rfl ?_
    exact TL.one hF) ?_
   refine ChainV.q (some 58) [(0, 10), (5, 5), (10, 0)] (by
    intro H' X F hle; have hL := Le.trans hL hle; have hm32 := PSm.mono hle hm32; intro hF; refine TL.call (proj_Get (l := q.z.facts) (m := 1000 * q.z.n) hfk.kind hfk.bank hfk.addr hm32.m) ⟨rfl, rfl, rfl, trivial⟩ rfl ?_
    rintro _ _ H58 ⟨rfl, rfl, hle58⟩
    rw [show (f.kind, f.bank, f.addr) = f.key from rfl, hlk, show (some f.text).getD eS = f.text from rfl, show (some f.text).isSome = true from rfl]
    have hL := Le.trans hL hle58; refine TL.nil ?_
    exact TQ.one [] hF hle58 ⟨rfl, rfl⟩) ?_
   refine ChainV.q (some 46) [(11, 0)] (by
    intro H' X F hle; have hL := Le.trans hL hle; intro hF; refine TL.move rfl rfl ?_
    exact TL.one hF) ?_
   refine ChainV.q (some 59) [(12, 0)] (fun _ _ _ _ hF => TL.extract rfl rfl rfl (TL.one hF)) ?_; refine ChainV.q (some 60) [(12, 1)] (fun _ _ _ _ hF => TL.extract rfl rfl rfl (TL.one hF)) ?_; refine ChainV.q (some 13) [(13, 1)] (fun _ _ _ _ hF => TL.assign rfl rfl (TL.one hF)) ?_
   refine ⟨by kernel_rfl, .refl _, ?_⟩
   ·
    intro H1 hle; have hL := Le.trans hL hle; have hle0 := Le.trans hle0 hle; refine TL.toOwn (own' := _ :: _ :: _ :: _ :: _ :: _ :: _ :: _ :: own) rfl ?_; refine TL.wk (env' := [(5, _), (3, _), (6, _), (7, _), (11, _), (12, _), (60, _), (13, _)]) ⟨rfl, rfl, rfl, rfl, rfl, rfl, rfl, rfl, trivial⟩ ?_; refine TL.assign rfl rfl ?_; refine TL.nil ?_; refine TQ.then_n ?_; refine TC.seq ?_; refine TC.seq ?_; refine TC.region ?_; refine TL.move rfl rfl ?_; refine TL.not rfl rfl ?_; refine TL.move rfl rfl ?_; refine TL.gyes rfl rfl rfl ?_; refine TL.move rfl rfl ?_; refine TL.gyes rfl rfl rfl ?_; refine TL.move rfl rfl ?_; refine TL.gyes rfl rfl rfl ?_; refine TL.move rfl rfl ?_; refine TL.gyes rfl rfl rfl ?_; refine TL.indexAddr (i) rfl rfl rfl (by omega) rfl ?_; refine TL.gyes rfl rfl rfl ?_; refine TL.fieldAddr rfl rfl ?_; refine TL.gyes rfl rfl rfl ?_
    refine TL.load_own 6 0 rfl rfl rfl hck.2.2.2.1 rfl ?_; refine TL.gyes rfl rfl rfl ?_; refine TL.neqS rfl rfl rfl ?_
    rw [decide_eq_false (fun h => h rfl)]
    refine TL.pickF rfl rfl rfl rfl ?_; refine TL.move rfl rfl ?_; refine TL.gyes rfl rfl rfl ?_; refine TL.move rfl rfl ?_; refine TL.gyes rfl rfl rfl ?_; refine TL.eqlS rfl rfl rfl ?_
    rw [decide_eq_false hne]
    refine TL.pickF rfl rfl rfl rfl ?_; refine TL.nil ?_; refine TQ.then_n ?_; refine TC.cond_f rfl ?_; refine TC.skip ?_; refine TQ.then_n ?_; refine TC.region ?_; refine TL.move rfl rfl ?_; refine TL.move rfl rfl ?_; refine TL.indexAddr (i) rfl rfl rfl (by omega) rfl ?_; refine TL.fieldAddr rfl rfl ?_; refine TL.store1 6 0 (c' := _) (own' := _ :: _ :: _ :: _ :: _ :: _ :: _ :: _) rfl rfl rfl rfl rfl (by omega) rfl rfl rfl ?_; refine TL.nil ?_; refine TQ.in_n ?_; refine TQ.then_n ?_; refine TC.region ?_; refine TL.move rfl rfl ?_; refine TL.add rfl rfl rfl ⟨by omega, by omega⟩ ?_; refine TL.assign rfl rfl ?_; refine TL.nil ?_; refine TQ.toOwn (own' := _ :: _ :: _ :: _ :: _ :: _ :: _ :: _ :: own) rfl ?_
    refine TQ.next (q.z.facts.length - (i + 1)) [(5, _), (3, _), (6, _), (7, _), (11, _), (12, _)] (by omega) ⟨rfl, rfl, rfl, rfl, rfl, rfl, trivial⟩ ⟨i + 1, _, rfl, by omega, TailR.next hcz hct, rfl, rfl, hle0⟩
  ·
   refine TL.nil ?_; refine TQ.then_n ?_; refine TC.cond_f rfl ?_; refine TC.exit ?_; refine TQ.then_e ?_; refine TQ.then_e ?_; refine TQ.in_e ?_; refine TQ.nsr ?_; refine TL.load_ownA 7 0 [_, _, _, _] rfl rfl rfl ⟨rfl, rfl, rfl, rfl, trivial⟩ rfl rfl ?_; refine TL.call (ref_Made hx) ⟨rfl, trivial⟩ rfl ?_
   rintro _ own H81 ⟨rfl, rfl, hle81⟩
   have hmo := made_ok x; have hL := Le.trans hL hle81; have hm32 := PSm.mono hle81 hm32; have hr32 := RSm.mono hle81 hr32
   refine TL.new rfl ?_; intro g15; refine TL.storeA 0 0 (c' := #[_, _, _, _]) (own' := [(_, .cells #[_, _, _, _] _ _)] :: _) rfl rfl rfl rfl rfl ⟨rfl, rfl, rfl, rfl, trivial⟩ (by simp) rfl rfl rfl ?_; refine TL.nsr ?_; refine TL.move rfl rfl ?_; refine TL.fieldAddr rfl rfl ?_; refine TL.load_own 0 0 rfl rfl rfl rfl rfl ?_; refine TL.fieldAddr rfl rfl ?_; refine TL.load_ownA 0 0 [_, _] rfl rfl rfl ⟨rfl, rfl, trivial⟩ rfl rfl ?_
   refine TL.sel 9 [1, 2, 3, 0, 4, 5, 6, 7, 8] rfl (fun o ho => ?_)
   simp only [K.sel, List.map_cons, List.map_nil, List.getD_cons_zero, List.getD_cons_succ, List.drop_succ_cons, List.drop_zero, List.cons_append, List.nil_append, List.set_cons_zero, List.set_cons_succ] at ho; subst ho
   refine TL.call (proj_Get (l := q.z.facts) (m := 1000 * q.z.n) hmo.kind hmo.bank hmo.addr hm32.m) ⟨rfl, rfl, rfl, trivial⟩ rfl ?_
   rintro _ _ H88 ⟨rfl, rfl, hle88⟩
   have hL := Le.trans hL hle88; have hm32 := PSm.mono hle88 hm32; have hr32 := RSm.mono hle88 hr32; refine TL.move rfl rfl ?_; refine TL.extract rfl rfl rfl ?_; refine TL.extract rfl rfl rfl ?_; refine TL.assign rfl rfl ?_; refine TL.assign rfl rfl ?_; refine TL.nsr ?_; refine TL.move rfl rfl ?_; refine TL.fieldAddr rfl rfl ?_; refine TL.load_own 3 0 rfl rfl rfl rfl rfl ?_; refine TL.fieldAddr rfl rfl ?_; refine TL.load_ownA 3 0 [_, _] rfl rfl rfl ⟨rfl, rfl, trivial⟩ rfl rfl ?_
   refine TL.sel 9 [4, 0, 1, 2, 3, 5, 6, 7, 8] rfl (fun o ho => ?_)
   simp only [K.sel, List.map_cons, List.map_nil, List.getD_cons_zero, List.getD_cons_succ, List.drop_succ_cons, List.drop_zero, List.cons_append, List.nil_append, List.set_cons_zero, List.set_cons_succ] at ho; subst ho
   refine TL.call (rst_Get hqo.now hmo.kind hmo.bank hmo.addr hr32.f) ⟨rfl, rfl, rfl, trivial⟩ rfl ?_
   rintro _ _ H97 ⟨rfl, rfl, hle97⟩
   have hL := Le.trans hL hle97; have hm32 := PSm.mono hle97 hm32; have hr32 := RSm.mono hle97 hr32; refine TL.move rfl rfl ?_; refine TL.extract rfl rfl rfl ?_; refine TL.extract rfl rfl rfl ?_; refine TL.assign rfl rfl ?_; refine TL.assign rfl rfl ?_; refine TL.nsr ?_; refine TL.move rfl rfl ?_; refine TL.fieldAddr rfl rfl ?_; refine TL.load_ownA 4 0 [_, _] rfl rfl rfl ⟨rfl, rfl, trivial⟩ rfl rfl ?_
   refine TL.sel 9 [1, 2, 3, 0, 4, 5, 6, 7, 8] rfl (fun o ho => ?_)
   simp only [K.sel, List.map_cons, List.map_nil, List.getD_cons_zero, List.getD_cons_succ, List.drop_succ_cons, List.drop_zero, List.cons_append, List.nil_append, List.set_cons_zero, List.set_cons_succ] at ho; subst ho
   refine TL.call (proj_Get (l := q.z.facts) (m := 1000 * q.z.n) (k := 9) ⟨by decide, by decide⟩ hmo.bank hmo.addr hm32.m) ⟨rfl, rfl, rfl, trivial⟩ rfl ?_
   rintro _ _ H104 ⟨rfl, rfl, hle104⟩
   rw [look_nine hkk]
   have hL := Le.trans hL hle104; have hm32 := PSm.mono hle104 hm32; have hr32 := RSm.mono hle104 hr32; refine TL.move rfl rfl ?_; refine TL.extract rfl rfl rfl ?_; refine TL.extract rfl rfl rfl ?_; refine TL.assign rfl rfl ?_; refine TL.assign rfl rfl ?_; refine TL.nil ?_; refine TQ.then_n ?_; refine TC.seq ?_
   refine TC.sel 9 [0, 1, 2, 3, 5, 6] rfl (fun o ho => ?_)
   simp only [K.sel, List.map_cons, List.map_nil, List.getD_cons_zero, List.getD_cons_succ, List.drop_succ_cons, List.drop_zero, List.cons_append, List.nil_append, List.set_cons_zero, List.set_cons_succ] at ho; subst ho
   refine TC.drawQV 6  [(5, _), (3, _), (6, _), (7, _), (11, _), (12, _), (15, _), (16, _), (17, _), (18, _), (19, _), (20, _), (21, _)] follows_mixed ⟨rfl, rfl, rfl, rfl, rfl, rfl, rfl, rfl, rfl, rfl, rfl, rfl, rfl, trivial⟩ ?_; refine ChainV.q (some 107) [] (fun _ _ _ _ hF => TL.move rfl rfl (TL.one hF)) ?_
   refine ChainV.r (some 108) [(0, 0)] ([]) (fun _ => fun r sg H => rd H (.s 4 (factsD q.z.facts)) r ∧ sg = []) (by
    intro H' X F hle; have hL := Le.trans hL hle; have hm32 := PSm.mono hle hm32; intro hF; refine TL.call (proj_Facts (l := q.z.facts) (m := 1000 * q.z.n) hqo.now (by omega) hm32.m) ⟨rfl, trivial⟩ rfl ?_
    rintro r108 _ H108 ⟨seg108, hrow108, rfl, hle108⟩
    refine TL.nil ?_
    refine TQ.freeze (fun H9 hle9 hz => ?_)
    exact TQ.one [] hF (hle108.trans hle9) ⟨facts_row hrow108 hz (Le.refl _), rfl⟩) ?_
   refine ChainV.q (some 109) [] (fun _ _ _ _ hF => TL.move rfl rfl (TL.one hF)) ?_; refine ChainV.q (some 110) [(2, 0)] (fun _ _ _ _ hF => TL.nilCheck rfl rfl (TL.one hF)) ?_; refine ChainV.q (some 111) [(3, 0)] (fun _ _ _ _ hF => TL.fieldAddr rfl rfl (TL.one hF)) ?_
   refine ChainV.q (some 112) [(4, 0)] (by
    intro H' X F hle; have hL := Le.trans hL hle; intro hF; refine TL.load_own 3 0 rfl rfl rfl rfl rfl ?_
    exact TL.one hF) ?_
   refine ⟨by kernel_rfl, .refl _, ?_⟩
   ·
    intro H2 hle
    rintro r108 _ Hi108 hle108 ⟨hr108, rfl⟩
    replace hr108 := rd.mono hle108 hr108
    have hL := Le.trans hL hle; have hr32 := RSm.mono hle hr32; refine TL.toOwn (own' := _ :: _ :: _ :: _ :: _ :: _ :: own) rfl ?_; refine TL.wk (env' := [(5, _), (3, _), (6, _), (7, _), (11, _), (12, _), (15, _), (16, _), (17, _), (18, _), (19, _), (20, _), (21, _), (108, _), (112, _)]) ⟨rfl, rfl, rfl, rfl, rfl, rfl, rfl, rfl, rfl, rfl, rfl, rfl, rfl, rfl, rfl, trivial⟩ ?_; refine TL.call (ref_SameFacts hqo.now.fok hqo.now.fok hr108 hr32.f) ⟨rfl, rfl, trivial⟩ rfl ?_
    rintro _ own H113 ⟨rfl, rfl, hle113⟩
    rw [decide_eq_true rfl]
    have hL := Le.trans hL hle113; refine TL.assign rfl rfl ?_; refine TL.nsr ?_; refine TL.move rfl rfl ?_; refine TL.move rfl rfl ?_; refine TL.gyes rfl rfl rfl ?_; refine TL.move rfl rfl ?_; refine TL.gyes rfl rfl rfl ?_; refine TL.move rfl rfl ?_; refine TL.gyes rfl rfl rfl ?_; refine TL.eqlS rfl rfl rfl ?_
    rw [decide_eq_true rfl]
    refine TL.pickT rfl rfl rfl rfl ?_; refine TL.move rfl rfl ?_; refine TL.gyes rfl rfl rfl ?_; refine TL.move rfl rfl ?_; refine TL.gyes rfl rfl rfl ?_; refine TL.move rfl rfl ?_; refine TL.gyes rfl rfl rfl ?_; refine TL.eqlBb rfl rfl rfl ?_
    rw [show ((look q.z.facts ((made x).kind, (made x).bank, (made x).addr)).isSome == (look q.z.facts ((made x).kind, (made x).bank, (made x).addr)).isSome) = true by simp]
    refine TL.pickT rfl rfl rfl rfl ?_; refine TL.move rfl rfl ?_; refine TL.gyes rfl rfl rfl ?_; refine TL.move rfl rfl ?_; refine TL.gyes rfl rfl rfl ?_; refine TL.eqlS rfl rfl rfl ?_
    rw [decide_eq_true (by rfl)]
    refine TL.pickT rfl rfl rfl rfl ?_; refine TL.move rfl rfl ?_; refine TL.gyes rfl rfl rfl ?_; refine TL.move rfl rfl ?_; refine TL.gyes rfl rfl rfl ?_; refine TL.not rfl rfl ?_; refine TL.pickT rfl rfl rfl rfl ?_; refine TL.move rfl rfl ?_; refine TL.gyes rfl rfl rfl ?_; refine TL.move rfl rfl ?_; refine TL.pickT rfl rfl rfl rfl ?_; refine TL.assign rfl rfl ?_; refine TL.nil ?_; refine TQ.then_n ?_; refine TC.ret ?_; refine TQ.ret1 6 rfl rfl ?_
    exact ⟨rfl, rfl, hL⟩


end Go.Proofs.YteeamfkhkbfilaaGreat.K

namespace Go.Proofs.YteeamfkhkbfilaaGreat.K
open Go Go.RowKit Go.Proofs

theorem law_projectwrong {n0 n1 n2 many : Int} {text : ByteArray} (hn0 : I64 n0) (hn1 : I64 n1) (hn2 : I64 n2) (hmany : I64 many) {w0 : World} {H : Hp} {own : List Seg}  :
    Fn Tryz.prog 9 [.agg #[.int .i64 n0, .int .i64 n1, .int .i64 n2], .string text, .int .i64 many] w0 H own (fun r own' H' => r = .bool true ∧ own' = own ∧ Le H H') := by
  obtain ⟨m, hm⟩ : ∃ m : Nat, m = min text.size 210 := ⟨_, rfl⟩
  have hmt : (text.extract 0 m).size = m := by rw [ext_size _ _ _ (by omega)]; omega
  obtain ⟨f, hf⟩ : ∃ f : Fact, f = ⟨n0, n1, n2 % 65536, text.extract 0 m⟩ := ⟨_, rfl⟩
  have hfok : FOk f := by rw [hf]; exact ⟨hn0, hn1, ⟨by show 0 ≤ n2 % 65536; omega, by show n2 % 65536 ≤ _; omega⟩, by show (text.extract 0 m).size ≤ _; omega⟩
  obtain ⟨k, hk, hkl⟩ := toNat_sub (n := many) (m := 5) (by omega)
  obtain ⟨k2, hk2, hk2l⟩ := toNat_sub (n := many) (m := 4) (by omega)
  have hLok : ∀ g ∈ someF k ++ [f], FOk g := fun g hg => by
    rcases List.mem_append.1 hg with h | h
    · exact someF_ok k g h
    · simp at h; subst h; exact hfok
  have h2ok : ∀ g ∈ [f, f], FOk g := fun g hg => by
    simp at hg; subst hg; exact hfok
  obtain ⟨z1, hz1⟩ : ∃ z, z = (rCom RS.init (someF k ++ [f])).2.2 := ⟨_, rfl⟩
  obtain ⟨hz1o, hz1n⟩ := rCom_ok RS.init_ok (by decide) hLok
  rw [← hz1] at hz1o hz1n
  have hz1n' : z1.n ≤ 1 := hz1n
  obtain ⟨z2, hz2⟩ : ∃ z, z = (rCom z1 (longF (999 + k2))).2.2 := ⟨_, rfl⟩
  obtain ⟨hz2o, hz2n⟩ := rCom_ok hz1o (by omega) (longF_ok (999 + k2))
  rw [← hz2] at hz2o hz2n
  obtain ⟨z3, hz3⟩ : ∃ z, z = (rCom z2 []).2.2 := ⟨_, rfl⟩
  obtain ⟨hz3o, hz3n⟩ := rCom_ok hz2o (by omega) (l := []) (fun g h => nomatch h)
  rw [← hz3] at hz3o hz3n
  have hx2 : (decide ((rCom z1 (longF (999 + k2))).2.1 = 2) == decide (1000 < ((999 + k2 : Nat) : Int))) = true := by
    rw [beq_iff_eq, decide_eq_decide, rCom_err, wrong_two, longF_len]; omega
  refine Fn.enter Tryz.func9 rfl Tryz.ntmps9 rfl ?_; have hL := Le.refl H; refine TC.seq ?_; refine TC.region ?_
  refine TL.box (c := #[_, _, _]) rfl rfl rfl ?_; intro g3; refine TL.assign rfl rfl ?_; refine TL.nsr ?_; refine TL.call (law_sanity) trivial rfl ?_
  rintro _ own H26 ⟨rfl, rfl, hle26⟩
  have hL := Le.trans hL hle26; refine TL.assign rfl rfl ?_; refine TL.nil ?_; refine TQ.then_n ?_; refine TC.seq ?_; refine TC.drawQV 15  [(0, _), (1, _), (2, _), (3, _), (6, _), (7, _)] follows_mixed ⟨rfl, rfl, rfl, rfl, rfl, rfl, trivial⟩ ?_
  refine ChainV.q (some 27) [] (by
   intro H' X F hle; intro hF; refine TL.indexArr (0) rfl rfl rfl (by omega) rfl ?_
   exact TL.one hF) ?_
  refine ChainV.q (some 28) [(0, 0)] (by
   intro H' X F hle; have hL := Le.trans hL hle; intro hF; refine TL.load_own 0 0 rfl rfl rfl rfl rfl ?_
   exact TL.one hF) ?_
  refine ChainV.q (some 29) [] (by
   intro H' X F hle; intro hF; refine TL.indexArr (1) rfl rfl rfl (by omega) rfl ?_
   exact TL.one hF) ?_
  refine ChainV.q (some 30) [(2, 0)] (by
   intro H' X F hle; have hL := Le.trans hL hle; intro hF; refine TL.load_own 0 0 rfl rfl rfl rfl rfl ?_
   exact TL.one hF) ?_
  refine ChainV.q (some 31) [] (by
   intro H' X F hle; intro hF; refine TL.indexArr (2) rfl rfl rfl (by omega) rfl ?_
   exact TL.one hF) ?_
  refine ChainV.q (some 32) [(4, 0)] (by
   intro H' X F hle; have hL := Le.trans hL hle; intro hF; refine TL.load_own 0 0 rfl rfl rfl rfl rfl ?_
   exact TL.one hF) ?_
  refine ChainV.q (some 33) [(5, 0)] (by
   intro H' X F hle; have hL := Le.trans hL hle; intro hF; refine TL.convI rfl rfl ?_
   rw [wrap_u16]
   exact TL.one hF) ?_
  refine ChainV.q (some 34) [(3, 3), (6, 0)] (by
   intro H' X F hle; have hL := Le.trans hL hle; intro hF; refine TL.struct [(0, [_]), (1, [_])] ⟨rfl, ⟨_, rfl, rfl⟩, rfl, ⟨_, rfl, rfl⟩, trivial⟩ rfl rfl ?_
   exact TL.one hF) ?_
  refine ChainV.q (some 35) [] (fun _ _ _ _ hF => TL.move rfl rfl (TL.one hF)) ?_; refine ChainV.q (some 36) [] (fun _ _ _ _ hF => TL.move rfl rfl (TL.one hF)) ?_
  refine ChainV.q (some 37) [(9, 0)] (by
   intro H' X F hle; have hL := Le.trans hL hle; intro hF; refine TL.len_string rfl rfl ?_
   exact TL.one hF) ?_
  refine ChainV.q (some 38) [(10, 0)] (by
   intro H' X F hle; have hL := Le.trans hL hle; intro hF; refine TL.min2 rfl rfl rfl ?_
   rw [show min (text.size : Int) 210 = ((m : Nat) : Int) by omega]
   exact TL.one hF) ?_
  refine ChainV.q (some 39) [(8, 3), (11, 0)] (by
   intro H' X F hle; have hL := Le.trans hL hle; intro hF; refine TL.sliceS (li := none) (ri := some (m : Int)) 0 m rfl rfl ⟨_, _, rfl, rfl⟩ rfl rfl (by omega) (by omega) rfl ?_
   exact TL.one hF) ?_
  refine ChainV.q (some 40) [(1, 11), (7, 5), (12, 0)] (by
   intro H' X F hle; have hL := Le.trans hL hle; intro hF; refine TL.struct [(0, [_]), (1, [_, _]), (2, [_])] ⟨rfl, ⟨_, rfl, rfl⟩, rfl, ⟨_, rfl, rfl⟩, rfl, ⟨_, rfl, rfl⟩, trivial⟩ rfl rfl ?_
   exact TL.one hF) ?_
  refine ChainV.r (some 8) [] ([]) (fun _ => fun r s H => ∃ g, r = .pointer (some ⟨g, 0, none⟩) ∧ s = [[(g, .cells #[.int .i64 0, .int .i64 0, .int .u16 0, .string ⟨#[]⟩] 60 (0, 0))]]) (by
   intro H' X F hle; have hL := Le.trans hL hle; intro hF
   refine TL.new rfl ?_; intro g8; refine TL.nil ?_
   exact TQ.one [_] hF (Le.refl _) ⟨_, rfl, rfl⟩) ?_
  refine ⟨by kernel_rfl, .refl _, ?_⟩
  ·
   intro H1 hle
   rintro _ _ Hr hler ⟨g8, rfl, rfl⟩
   have hL := Le.trans hL hle; refine TL.toOwn (own' := _ :: _ :: own) rfl ?_; refine TL.wk (env' := [(0, _), (2, _), (6, _), (7, _), (40, _), (8, _)]) ⟨rfl, rfl, rfl, rfl, rfl, rfl, trivial⟩ ?_; refine TL.storeA 0 0 (c' := #[_, _, _, _]) (own' := [(_, .cells #[_, _, _, _] _ _)] :: _) rfl rfl rfl rfl rfl ⟨rfl, rfl, rfl, rfl, trivial⟩ (by simp [putC]) rfl rfl rfl ?_; refine TL.nsr ?_; refine TL.assign rfl rfl ?_; refine TL.nil ?_; refine TQ.then_n ?_; refine TC.seq ?_; refine TC.seq ?_
   refine TC.sel 2 [0] rfl (fun o ho => ?_)
   simp only [K.sel, List.map_cons, List.map_nil, List.getD_cons_zero, List.getD_cons_succ, List.drop_succ_cons, List.drop_zero, List.cons_append, List.nil_append, List.set_cons_zero, List.set_cons_succ] at ho; subst ho
   refine TC.nilseg ?_; refine TC.region ?_; refine TL.assign rfl rfl ?_; refine TL.nil ?_; refine TQ.then_n ?_; refine TC.block ?_; refine TC.loop (fun n' env' own' H' => ∃ i v row, n' = k - i ∧ i ≤ k ∧ Row 60 4 v i (factsV (someF i)) row ∧ env' = [(2, .int .i64 many), (7, .bool true), (8, .pointer (some ⟨g8, 0, none⟩)), (9, v), (10, .int .i64 (i : Int))] ∧ own' = row :: [(g8, .cells #[.int .i64 n0, .int .i64 n1, .int .u16 (n2 % 65536), .string (text.extract 0 m)] 60 (0, 0))] :: own ∧ Le H1 H') k [(2, _), (7, _), (8, _), (9, _), (10, _)] ⟨rfl, rfl, rfl, rfl, rfl, trivial⟩ ⟨0, _, [], by omega, by omega, Row.nil _ 4, rfl, rfl, Le.refl _⟩ ?_
   rintro n' _ _ H1 ⟨i, v, row, rfl, hi1, hrow, rfl, rfl, hle0⟩
   have hL := Le.trans hL hle0; refine TC.seq ?_; refine TC.seq ?_; refine TC.region ?_; refine TL.move rfl rfl ?_; refine TL.move rfl rfl ?_; refine TL.call (ref_Mod hmany (by omega) (by omega)) ⟨rfl, rfl, trivial⟩ rfl ?_
   rintro _ own H43 ⟨rfl, rfl, hle43⟩
   rw [← hk]
   have hL := Le.trans hL hle43; have hle0 := Le.trans hle0 hle43
   refine TL.lssB rfl rfl rfl (fun hlt => ?_) (fun hlt => ?_)
   ·
    refine TL.nil ?_; refine TQ.then_n ?_; refine TC.cond_t rfl ?_; refine TC.skip ?_; refine TQ.then_n ?_; refine TC.seq ?_; refine TC.block ?_; refine TC.region ?_; refine TL.move rfl rfl ?_; refine TL.move rfl rfl ?_; refine TL.rem rfl rfl rfl (by omega) ?_
    rw [rem4]
    refine TL.add rfl rfl rfl ⟨by omega, by omega⟩ ?_; refine TL.struct [(0, [_])] ⟨rfl, ⟨_, rfl, rfl⟩, trivial⟩ rfl rfl ?_; refine TL.struct [(0, [_]), (1, [_, _]), (2, [_])] ⟨rfl, ⟨_, rfl, rfl⟩, rfl, ⟨_, rfl, rfl⟩, rfl, ⟨_, rfl, rfl⟩, trivial⟩ rfl rfl ?_
    refine TL.litF (r := [_, _, _, _]) [(0, [_, _, _, _])] ⟨rfl, ⟨_, rfl, rfl⟩, trivial⟩ rfl rfl rfl rfl ?_; intro g53; refine TL.append 1 rfl rfl rfl hrow (Src.ofOwn 0 0 rfl rfl rfl (Ones.all (show Ones [_, _, _, _] from ⟨by rfl, by rfl, by rfl, by rfl, trivial⟩)) ⟨rfl, rfl, rfl, rfl, trivial⟩) (by omega) (by omega) rfl ?_; intro v1 seg1 hrow1
    have hrow2 : Row 60 4 v1 (i + 1) (factsV (someF (i + 1))) seg1 := by rw [someF, factsV_snoc]; exact hrow1
    refine TL.assign rfl rfl ?_; refine TL.nil ?_; refine TQ.in_n ?_; refine TQ.then_n ?_; refine TC.region ?_; refine TL.move rfl rfl ?_; refine TL.add rfl rfl rfl ⟨by omega, by omega⟩ ?_; refine TL.assign rfl rfl ?_; refine TL.nil ?_
    refine TQ.sel 3 [1, 2] rfl (fun o ho => ?_)
    simp only [K.sel, List.map_cons, List.map_nil, List.getD_cons_zero, List.getD_cons_succ, List.drop_succ_cons, List.drop_zero, List.cons_append, List.nil_append, List.set_cons_zero, List.set_cons_succ] at ho; subst ho
    refine TQ.next (k - (i + 1)) [(2, _), (7, _), (8, _), (9, _), (10, _)] (by omega) ⟨rfl, rfl, rfl, rfl, rfl, trivial⟩ ⟨i + 1, _, _, rfl, by omega, hrow2, rfl, rfl, hle0⟩
   ·
    refine TL.nil ?_; refine TQ.then_n ?_; refine TC.cond_f rfl ?_; refine TC.exit ?_; refine TQ.then_e ?_; refine TQ.then_e ?_; refine TQ.in_e ?_; refine TQ.nsr ?_; refine TL.move rfl rfl ?_; refine TL.load_ownA 1 0 [_, _, _, _] rfl rfl rfl ⟨rfl, rfl, rfl, rfl, trivial⟩ rfl rfl ?_
    refine TL.litF (r := [_, _, _, _]) [(0, [_, _, _, _])] ⟨rfl, ⟨_, rfl, rfl⟩, trivial⟩ rfl rfl rfl rfl ?_; intro g57; refine TL.append 1 rfl rfl rfl hrow (Src.ofOwn 0 0 rfl rfl rfl (Ones.all (show Ones [_, _, _, _] from ⟨by rfl, by rfl, by rfl, by rfl, trivial⟩)) ⟨rfl, rfl, rfl, rfl, trivial⟩) (by omega) (by omega) rfl ?_; intro v3 seg3 hrow3
    obtain rfl : i = k := by omega
    have hrow4 : Row 60 4 v3 (someF i ++ [f]).length (factsV (someF i ++ [f])) seg3 := by rw [List.length_append, someF_len, factsV_snoc, hf]; exact hrow3
    refine TL.assign rfl rfl ?_; refine TL.nil ?_; refine TQ.then_n ?_; refine TC.seq ?_
    refine TC.sel 3 [1, 2] rfl (fun o ho => ?_)
    simp only [K.sel, List.map_cons, List.map_nil, List.getD_cons_zero, List.getD_cons_succ, List.drop_succ_cons, List.drop_zero, List.cons_append, List.nil_append, List.set_cons_zero, List.set_cons_succ] at ho; subst ho
    refine TC.freeze (fun H2 hle hz_row => ?_)
    have hL := Le.trans hL hle
    have hAL := facts_row hrow4 hz_row (Le.refl _)
    refine TC.region ?_; refine TL.struct [] trivial rfl rfl ?_
    refine TL.box (c := #[_, _, _, _]) rfl rfl rfl ?_; intro g60; refine TL.assign rfl rfl ?_; refine TL.nsr ?_; refine TL.struct [] trivial rfl rfl ?_
    refine TL.box (c := #[_, _, _, _]) rfl rfl rfl ?_; intro g62; refine TL.assign rfl rfl ?_; refine TL.nil ?_; refine TQ.then_n ?_; refine TC.seq ?_; refine TC.nilseg ?_; refine TC.nilseg ?_; refine TC.nilseg ?_; refine TC.nilseg ?_; refine TC.region ?_; refine TL.move rfl rfl ?_; refine TL.move rfl rfl ?_
    have hm0 : PSm H2 g62 RS.init (.map none) (.slice none 0 0) [] [] [] := ⟨PMap.nil _, Row.nil _ 1, trivial⟩
    have hr0 : RSm H2 RS.init (.slice none 0 0) (.slice none 0 0) (.slice none 0 0) [] [] [] [] := ⟨rd.nil _ 4, Row.nil _ 1, Row.nil _ 1, trivial, trivial⟩
    refine TL.sel 7 [4, 3, 2, 0, 1, 5, 6] rfl (fun o ho => ?_)
    simp only [K.sel, List.map_cons, List.map_nil, List.getD_cons_zero, List.getD_cons_succ, List.drop_succ_cons, List.drop_zero, List.cons_append, List.nil_append, List.set_cons_zero, List.set_cons_succ] at ho; subst ho
    refine TL.call (proj_Commit RS.init_ok (by decide) hLok hm0 hAL) ⟨rfl, rfl, trivial⟩ rfl ?_
    rintro _ _ H66 ⟨fm66, uv66, sm66, su66, xu66, rfl, rfl, hm66, hle66⟩
    rw [← hz1] at hm66 ⊢
    have hL := Le.trans hL hle66; have hz_row := hz.mono hle66 hz_row; have hAL := rd.mono hle66 hAL; have hr0 := RSm.mono hle66 hr0; refine TL.move rfl rfl ?_; refine TL.extract rfl rfl rfl ?_; refine TL.extract rfl rfl rfl ?_; refine TL.assign rfl rfl ?_; refine TL.assign rfl rfl ?_; refine TL.nsr ?_; refine TL.move rfl rfl ?_; refine TL.move rfl rfl ?_
    refine TL.sel 7 [5, 4, 3, 0, 1, 2, 6] rfl (fun o ho => ?_)
    simp only [K.sel, List.map_cons, List.map_nil, List.getD_cons_zero, List.getD_cons_succ, List.drop_succ_cons, List.drop_zero, List.cons_append, List.nil_append, List.set_cons_zero, List.set_cons_succ] at ho; subst ho
    refine TL.call (ref_Commit RS.init_ok (by decide) hLok hr0 hAL) ⟨rfl, rfl, trivial⟩ rfl ?_
    rintro _ _ H72 ⟨fv72, bv72, cv72, sb72, sc72, xb72, xc72, rfl, rfl, hr72, hle72⟩
    rw [← hz1] at hr72 ⊢
    have hL := Le.trans hL hle72; have hz_row := hz.mono hle72 hz_row; have hm66 := PSm.mono hle72 hm66; refine TL.move rfl rfl ?_; refine TL.extract rfl rfl rfl ?_; refine TL.extract rfl rfl rfl ?_; refine TL.assign rfl rfl ?_; refine TL.assign rfl rfl ?_; refine TL.nil ?_; refine TQ.then_n ?_; refine TC.seq ?_
    refine TC.sel 7 [3, 4, 5, 0, 1, 2, 6] rfl (fun o ho => ?_)
    simp only [K.sel, List.map_cons, List.map_nil, List.getD_cons_zero, List.getD_cons_succ, List.drop_succ_cons, List.drop_zero, List.cons_append, List.nil_append, List.set_cons_zero, List.set_cons_succ] at ho; subst ho
    refine TC.drawQV 6  [(2, _), (7, _), (8, _), (9, _), (10, _), (11, _), (12, _), (13, _), (14, _), (15, _), (16, _)] follows_mixed ⟨rfl, rfl, rfl, rfl, rfl, rfl, rfl, rfl, rfl, rfl, rfl, trivial⟩ ?_; refine ChainV.q (some 75) [] (fun _ _ _ _ hF => TL.move rfl rfl (TL.one hF)) ?_
    refine ChainV.r (some 76) [(0, 0)] ([]) (fun _ => fun r sg H => rd H (.s 4 (factsD z1.facts)) r ∧ sg = []) (by
     intro H' X F hle; have hL := Le.trans hL hle; have hm66 := PSm.mono hle hm66; intro hF; refine TL.call (proj_Facts (l := z1.facts) (m := 1000 * z1.n) hz1o.now (by omega) hm66.m) ⟨rfl, trivial⟩ rfl ?_
     rintro r76 _ H76 ⟨seg76, hrow76, rfl, hle76⟩
     refine TL.nil ?_
     refine TQ.freeze (fun H9 hle9 hz => ?_)
     exact TQ.one [] hF (hle76.trans hle9) ⟨facts_row hrow76 hz (Le.refl _), rfl⟩) ?_
    refine ChainV.q (some 77) [] (fun _ _ _ _ hF => TL.move rfl rfl (TL.one hF)) ?_; refine ChainV.q (some 78) [(2, 0)] (fun _ _ _ _ hF => TL.nilCheck rfl rfl (TL.one hF)) ?_; refine ChainV.q (some 79) [(3, 0)] (fun _ _ _ _ hF => TL.fieldAddr rfl rfl (TL.one hF)) ?_
    refine ChainV.q (some 80) [(4, 0)] (by
     intro H' X F hle; have hL := Le.trans hL hle; intro hF; refine TL.load_own 3 0 rfl rfl rfl rfl rfl ?_
     exact TL.one hF) ?_
    refine ⟨by kernel_rfl, .refl _, ?_⟩
    ·
     intro H3 hle
     rintro r76 _ Hi76 hle76 ⟨hr76, rfl⟩
     replace hr76 := rd.mono hle76 hr76
     have hL := Le.trans hL hle; have hz_row := hz.mono hle hz_row; have hm66 := PSm.mono hle hm66; have hr72 := RSm.mono hle hr72; refine TL.toOwn (own' := _ :: _ :: _ :: _ :: _ :: _ :: _ :: own) rfl ?_; refine TL.wk (env' := [(2, _), (7, _), (8, _), (9, _), (10, _), (11, _), (12, _), (13, _), (14, _), (15, _), (16, _), (76, _), (80, _)]) ⟨rfl, rfl, rfl, rfl, rfl, rfl, rfl, rfl, rfl, rfl, rfl, rfl, rfl, trivial⟩ ?_; refine TL.call (ref_SameFacts hz1o.now.fok hz1o.now.fok hr76 hr72.f) ⟨rfl, rfl, trivial⟩ rfl ?_
     rintro _ own H81 ⟨rfl, rfl, hle81⟩
     rw [decide_eq_true rfl]
     have hL := Le.trans hL hle81; have hz_row := hz.mono hle81 hz_row; have hm66 := PSm.mono hle81 hm66; refine TL.assign rfl rfl ?_; refine TL.nsr ?_; refine TL.assign rfl rfl ?_; refine TL.nil ?_; refine TQ.then_n ?_; refine TC.seq ?_; refine TC.seq ?_
     refine TC.sel 7 [0, 1, 2, 6] rfl (fun o ho => ?_)
     simp only [K.sel, List.map_cons, List.map_nil, List.getD_cons_zero, List.getD_cons_succ, List.drop_succ_cons, List.drop_zero, List.cons_append, List.nil_append, List.set_cons_zero, List.set_cons_succ] at ho; subst ho
     refine TC.nilseg ?_; refine TC.region ?_; refine TL.assign rfl rfl ?_; refine TL.nil ?_; refine TQ.then_n ?_; refine TC.block ?_
     refine TC.loop (fun n' env' own' H' => ∃ j v row, n' = 999 + k2 - j ∧ j ≤ 999 + k2 ∧ Row 60 4 v j (factsV (longF j)) row ∧ env' = [(2, .int .i64 many), (7, .bool true), (8, .pointer (some ⟨g8, 0, none⟩)), (12, .pointer (some ⟨g62, 0, none⟩)), (13, .string (rCom RS.init (someF i ++ [f])).1), (14, .int .i64 (rCom RS.init (someF i ++ [f])).2.1), (15, .string (rCom RS.init (someF i ++ [f])).1), (16, .int .i64 (rCom RS.init (someF i ++ [f])).2.1), (17, .bool true), (18, v), (19, .int .i64 (j : Int))] ∧ own' = row :: [(g62, .cells #[fm66, .int .i64 (z1.n : Int), uv66, .slice none 0 0] 37 (0, 0))] :: sm66 :: su66 :: [(g8, .cells #[.int .i64 n0, .int .i64 n1, .int .u16 (n2 % 65536), .string (text.extract 0 m)] 60 (0, 0))] :: own ∧ Le H81 H') (999 + k2) [(2, _), (7, _), (8, _), (12, _), (13, _), (14, _), (15, _), (16, _), (17, _), (18, _), (19, _)] ⟨rfl, rfl, rfl, rfl, rfl, rfl, rfl, rfl, rfl, rfl, rfl, trivial⟩ ⟨0, _, [], by omega, by omega, Row.nil _ 4, rfl, rfl, Le.refl _⟩ ?_
     rintro n' _ _ H5 ⟨j, v, row, rfl, hj1, hrow, rfl, rfl, hle9⟩
     have hL := Le.trans hL hle9; have hm66 := PSm.mono hle9 hm66; refine TC.seq ?_; refine TC.seq ?_; refine TC.region ?_; refine TL.move rfl rfl ?_; refine TL.move rfl rfl ?_; refine TL.call (ref_Mod hmany (by omega) (by omega)) ⟨rfl, rfl, trivial⟩ rfl ?_
     rintro _ own H84 ⟨rfl, rfl, hle84⟩
     rw [← hk2]
     have hL := Le.trans hL hle84; have hm66 := PSm.mono hle84 hm66; have hle9 := Le.trans hle9 hle84; refine TL.add rfl rfl rfl ⟨by omega, by omega⟩ ?_
     refine TL.lssB rfl rfl rfl (fun hlt => ?_) (fun hlt => ?_)
     ·
      refine TL.nil ?_; refine TQ.then_n ?_; refine TC.cond_t rfl ?_; refine TC.skip ?_; refine TQ.then_n ?_; refine TC.seq ?_; refine TC.block ?_; refine TC.region ?_; refine TL.move rfl rfl ?_; refine TL.move rfl rfl ?_; refine TL.convI rfl rfl ?_
      rw [wrap_u16]
      refine TL.struct [(1, [_])] ⟨rfl, ⟨_, rfl, rfl⟩, trivial⟩ rfl rfl ?_; refine TL.struct [(0, [_]), (1, [_, _]), (2, [_])] ⟨rfl, ⟨_, rfl, rfl⟩, rfl, ⟨_, rfl, rfl⟩, rfl, ⟨_, rfl, rfl⟩, trivial⟩ rfl rfl ?_
      refine TL.litF (r := [_, _, _, _]) [(0, [_, _, _, _])] ⟨rfl, ⟨_, rfl, rfl⟩, trivial⟩ rfl rfl rfl rfl ?_; intro g94; refine TL.append 1 rfl rfl rfl hrow (Src.ofOwn 0 0 rfl rfl rfl (Ones.all (show Ones [_, _, _, _] from ⟨by rfl, by rfl, by rfl, by rfl, trivial⟩)) ⟨rfl, rfl, rfl, rfl, trivial⟩) (by omega) (by omega) rfl ?_; intro v1 seg1 hrow1
      have hrow2 : Row 60 4 v1 (j + 1) (factsV (longF (j + 1))) seg1 := by rw [longF, factsV_snoc]; exact hrow1
      refine TL.assign rfl rfl ?_; refine TL.nil ?_; refine TQ.in_n ?_; refine TQ.then_n ?_; refine TC.region ?_; refine TL.move rfl rfl ?_; refine TL.add rfl rfl rfl ⟨by omega, by omega⟩ ?_; refine TL.assign rfl rfl ?_; refine TL.nil ?_
      refine TQ.sel 6 [1, 2, 3, 4, 5] rfl (fun o ho => ?_)
      simp only [K.sel, List.map_cons, List.map_nil, List.getD_cons_zero, List.getD_cons_succ, List.drop_succ_cons, List.drop_zero, List.cons_append, List.nil_append, List.set_cons_zero, List.set_cons_succ] at ho; subst ho
      refine TQ.next (999 + k2 - (j + 1)) [(2, _), (7, _), (8, _), (12, _), (13, _), (14, _), (15, _), (16, _), (17, _), (18, _), (19, _)] (by omega) ⟨rfl, rfl, rfl, rfl, rfl, rfl, rfl, rfl, rfl, rfl, rfl, trivial⟩ ⟨j + 1, _, _, rfl, by omega, hrow2, rfl, rfl, hle9⟩
     ·
      refine TL.nil ?_; refine TQ.then_n ?_; refine TC.cond_f rfl ?_; refine TC.exit ?_; refine TQ.then_e ?_; refine TQ.then_e ?_; refine TQ.in_e ?_; refine TQ.then_n ?_; refine TC.seq ?_; refine TC.toOwn (own' := _ :: _ :: _ :: _ :: _ :: own) rfl ?_
      refine TC.freeze (fun H4 hle hz_row => ?_)
      have hL := Le.trans hL hle; have hm66 := PSm.mono hle hm66
      obtain rfl : j = 999 + k2 := by omega
      obtain ⟨Ag, cg, rfl, hcg1, hcg2⟩ := hrow.sl
      have hAG : rd H4 (.s 4 (factsD (longF (999 + k2)))) _ := facts_row (by rw [longF_len]; exact hrow) hz_row (Le.refl _)
      refine TC.region ?_; refine TL.move rfl rfl ?_; refine TL.move rfl rfl ?_; refine TL.call (proj_Commit hz1o (by omega) (longF_ok (999 + k2)) hm66 hAG) ⟨rfl, rfl, trivial⟩ rfl ?_
      rintro _ _ H99 ⟨fm99, uv99, sm99, su99, xu99, rfl, rfl, hm99, hle99⟩
      rw [← hz2] at hm99 ⊢
      have hL := Le.trans hL hle99; refine TL.move rfl rfl ?_; refine TL.extract rfl rfl rfl ?_; refine TL.extract rfl rfl rfl ?_; refine TL.assign rfl rfl ?_; refine TL.assign rfl rfl ?_; refine TL.nsr ?_; refine TL.move rfl rfl ?_; refine TL.call (proj_Commit hz2o (by omega) (l := []) (fun g h => nomatch h) hm99 (rd.nil _ 4)) ⟨rfl, rfl, trivial⟩ rfl ?_
      rintro _ _ H104 ⟨fm104, uv104, sm104, su104, xu104, rfl, rfl, hm104, hle104⟩
      rw [← hz3] at hm104 ⊢
      have hL := Le.trans hL hle104; refine TL.move rfl rfl ?_; refine TL.extract rfl rfl rfl ?_; refine TL.extract rfl rfl rfl ?_; refine TL.assign rfl rfl ?_; refine TL.assign rfl rfl ?_; refine TL.nsr ?_; refine TL.move rfl rfl ?_; refine TL.load_ownA 3 0 [_, _, _, _] rfl rfl rfl ⟨rfl, rfl, rfl, rfl, trivial⟩ rfl rfl ?_
      refine TL.litF (r := [_, _, _, _]) [(0, [_, _, _, _])] ⟨rfl, ⟨_, rfl, rfl⟩, trivial⟩ rfl rfl rfl rfl ?_; intro g110; refine TL.load_ownA 4 0 [_, _, _, _] rfl rfl rfl ⟨rfl, rfl, rfl, rfl, trivial⟩ rfl rfl ?_
      refine TL.litF (r := [_, _, _, _]) [(0, [_, _, _, _])] ⟨rfl, ⟨_, rfl, rfl⟩, trivial⟩ rfl rfl rfl rfl ?_; intro g112; refine TL.append 1 rfl rfl rfl (Row.lit 60 4 1 _ _ rfl (by omega)) (Src.ofOwn 0 0 rfl rfl rfl (Ones.all (show Ones [_, _, _, _] from ⟨by rfl, by rfl, by rfl, by rfl, trivial⟩)) ⟨rfl, rfl, rfl, rfl, trivial⟩) (by omega) (by omega) rfl ?_; intro v113 seg113 hrow113
      refine TL.sel 6 [1, 0, 2, 3, 4, 5] rfl (fun o ho => ?_)
      simp only [K.sel, List.map_cons, List.map_nil, List.getD_cons_zero, List.getD_cons_succ, List.drop_succ_cons, List.drop_zero, List.cons_append, List.nil_append, List.set_cons_zero, List.set_cons_succ] at ho; subst ho
      refine TL.freeze (fun H5 hle hz_g110 => ?_)
      have hL := Le.trans hL hle; have hm104 := PSm.mono hle hm104
      have hAF : rd H5 (.s 4 (factsD [f, f])) v113 := facts_row (l := [f, f]) (by rw [hf]; exact hrow113) hz_g110 (Le.refl _)
      refine TL.sel 5 [1, 2, 3, 0, 4] rfl (fun o ho => ?_)
      simp only [K.sel, List.map_cons, List.map_nil, List.getD_cons_zero, List.getD_cons_succ, List.drop_succ_cons, List.drop_zero, List.cons_append, List.nil_append, List.set_cons_zero, List.set_cons_succ] at ho; subst ho
      refine TL.call (proj_Commit hz3o (by omega) h2ok hm104 hAF) ⟨rfl, rfl, trivial⟩ rfl ?_
      rintro _ _ H114 ⟨fm114, uv114, sm114, su114, xu114, rfl, rfl, hm114, hle114⟩
      have hL := Le.trans hL hle114; refine TL.move rfl rfl ?_; refine TL.extract rfl rfl rfl ?_; refine TL.extract rfl rfl rfl ?_; refine TL.assign rfl rfl ?_; refine TL.assign rfl rfl ?_; refine TL.nsr ?_; refine TL.move rfl rfl ?_; refine TL.move rfl rfl ?_; refine TL.gyes rfl rfl rfl ?_; refine TL.move rfl rfl ?_; refine TL.gyes rfl rfl rfl ?_; refine TL.move rfl rfl ?_; refine TL.gyes rfl rfl rfl ?_; refine TL.eqlS rfl rfl rfl ?_
      rw [decide_eq_true (rfl)]
      refine TL.pickT rfl rfl rfl rfl ?_; refine TL.move rfl rfl ?_; refine TL.gyes rfl rfl rfl ?_; refine TL.move rfl rfl ?_; refine TL.gyes rfl rfl rfl ?_; refine TL.move rfl rfl ?_; refine TL.gyes rfl rfl rfl ?_; refine TL.eql rfl rfl rfl ?_
      rw [decide_eq_true (rfl)]
      refine TL.pickT rfl rfl rfl rfl ?_; refine TL.move rfl rfl ?_; refine TL.gyes rfl rfl rfl ?_; refine TL.move rfl rfl ?_; refine TL.pickT rfl rfl rfl rfl ?_; refine TL.move rfl rfl ?_; refine TL.gyes rfl rfl rfl ?_; refine TL.move rfl rfl ?_; refine TL.gyes rfl rfl rfl ?_; refine TL.eql rfl rfl rfl ?_; refine TL.gyes rfl rfl rfl ?_; refine TL.move rfl rfl ?_; refine TL.gyes rfl rfl rfl ?_; refine TL.len_slice rfl rfl ?_; refine TL.gyes rfl rfl rfl ?_; refine TL.gtr rfl rfl rfl ?_; refine TL.gyes rfl rfl rfl ?_; refine TL.eqlBb rfl rfl rfl ?_
      rw [hx2]
      refine TL.pickT rfl rfl rfl rfl ?_; refine TL.move rfl rfl ?_; refine TL.gyes rfl rfl rfl ?_; refine TL.move rfl rfl ?_; refine TL.gyes rfl rfl rfl ?_; refine TL.eql rfl rfl rfl ?_
      rw [decide_eq_true (by rw [rCom_err]; rfl)]
      refine TL.pickT rfl rfl rfl rfl ?_; refine TL.move rfl rfl ?_; refine TL.gyes rfl rfl rfl ?_; refine TL.move rfl rfl ?_; refine TL.gyes rfl rfl rfl ?_; refine TL.neq rfl rfl rfl ?_
      rw [decide_eq_true (by rw [rCom_err]; exact wrong_pair f)]
      refine TL.pickT rfl rfl rfl rfl ?_; refine TL.assign rfl rfl ?_; refine TL.nil ?_; refine TQ.then_n ?_; refine TC.ret ?_; refine TQ.ret1 5 rfl rfl ?_
      exact ⟨rfl, rfl, hL⟩


end Go.Proofs.YteeamfkhkbfilaaGreat.K

namespace Go.Proofs.YteeamfkhkbfilaaGreat.K
open Go Go.RowKit Go.ChangeShapes Go.WideShapes Go.Deep

abbrev InK (k : IntKind) (n : Int) : Prop := k.min ≤ n ∧ n ≤ k.max
theorem lit_in {k : IntKind} {n : Int} (h : (Lit.int k n).wf = true) : InK k n := by
  unfold Lit.wf at h
  simp only [Bool.and_eq_true, decide_eq_true_eq] at h
  exact h
theorem inK_i64 {n : Int} (h : InK .i64 n) : -9223372036854775808 ≤ n ∧ n ≤ 9223372036854775807 := by
  have e1 : IntKind.i64.min = -9223372036854775808 := by decide
  have e2 : IntKind.i64.max = 9223372036854775807 := by decide
  obtain ⟨h1, h2⟩ := h
  rw [e1] at h1; rw [e2] at h2
  exact ⟨h1, h2⟩

def allH (W : World) : Hp := fun b => W.heap[b]?
theorem St.all (W : World) : St W (allH W) [] W := ⟨rfl, ⟨rfl, Nat.le_refl _⟩, rfl, fun _ _ h => h, by simp, by simp, by simp⟩

theorem spot_none {W : World} {a : Addr} {v : Value} (h : W.cell? a = some v) : a = ⟨a.block, a.off, none⟩ := by
  obtain ⟨b, o, s⟩ := a
  cases s with
  | none => rfl
  | some s =>
    unfold World.cell? at h
    split at h <;> simp at h
theorem cel_of {W : World} {b o : Nat} {v : Value} (h : W.cell? ⟨b, o, none⟩ = some v) : cel (allH W) b o = some v := by
  unfold World.cell? at h
  unfold cel allH
  split at h
  · rename_i hb
    rw [hb]
    simpa using h
  · cases h
theorem add_zero' (a : Addr) : a.add 0 = a := by unfold Addr.add; simp
section
variable {P : Program} {H : Type} {enc : TypeId × Value → H} {W : World}

theorem args_stay (hl : laidOutB P = true) {W' : World} (hb : ∀ k, k < W.heap.size → W'.heap[k]? = W.heap[k]?) {sp : Nat → Bool} : ∀ {ts : List TypeId} {vs : List Value} {ds : List (DataW H)} {ps : List MemPlace},
    (ts.all fun t => P.readableRec t && decide (t < P.types.size)) = true → DataW.TrodAll enc P W 0 (fun _ => true) true ts vs ds ps → (∀ x ∈ ps, x.block < W.heap.size) → (∀ x ∈ ps, sp x.block = true) → DataW.TrodAll enc P W' 0 sp true ts vs ds ps
  | [], [], [], _, _, h, _, _ => h
  | t :: ts, v :: vs, d :: ds, _, hts, h, hlt, hsp => by
    obtain ⟨p, q, h1, h2, rfl⟩ := h
    simp only [List.all_cons, Bool.and_eq_true, decide_eq_true_eq] at hts
    refine ⟨p, q, WideElems.Trod_stays hl hts.1.1 hts.1.2 h1 (fun x hx => ?_) (fun x hx => hsp x (List.mem_append_left _ hx)), args_stay hl hb hts.2 h2 (fun x hx => hlt x (List.mem_append_right _ hx)) (fun x hx => hsp x (List.mem_append_right _ hx)), rfl⟩
    have hx' := hlt x (List.mem_append_left _ hx)
    cases x with
    | cell b o => exact World.cell?_of_block (w := W) (hb b hx')
    | map b => exact hb b hx'

/-- The post of a law that answers true and leaves the blocks as they were. -/
theorem law_post {f : Func} {s : ChangeSpec} {apart fresh handsOn again : Bool} {W' : World} {args : Array Value} {ds gs : List (DataW H)} {before : List MemPlace} {bt : TypeId} (hl : laidOutB P = true)
    (hW : DataW.Whole enc P f.params.toList s.vars apart W args.toList ds gs before) (hvs : s.vars = []) (hfn : s.fn H (ds ++ gs) = { results := [.lit (.bool true)], args := ds }) (hrt : f.resultTypes = #[bt]) (hbt : P.underlying bt = some .bool)
    (hts : (f.params.toList.all fun t => P.readableRec t && decide (t < P.types.size)) = true)
    (hos : W'.os = W.os) (hout : W'.output = W.output) (hb : ∀ k, k < W.heap.size → W'.heap[k]? = W.heap[k]?) : s.post enc P f apart fresh handsOn again W args (.bool true) W' := by
  have hlt := hW.lt
  have hW0 := hW
  obtain ⟨p, q, hA, hV, rfl, hfz, hnd⟩ := hW
  have hq : q = [] := by
    rw [hvs] at hV
    obtain ⟨_, rfl⟩ := trodVars_none hV
    rfl
  subst hq
  have hg : gs = [] := by
    rw [hvs] at hV
    obtain ⟨rfl, _⟩ := trodVars_none hV
    rfl
  subst hg
  simp only [List.append_nil] at hlt hfz hnd hW0
  have hres : ∀ (b : Nat) (sp : Nat → Bool) (hd : Bool), DataW.TrodAll enc P W' b sp hd f.resultTypes.toList ((Value.bool true).resultList f.resultTypes.size) (s.fn H (ds ++ [])).results [] := by
    intro b sp hd
    rw [hfn, hrt]
    exact trodAll_mk1 (shut_bool hbt true)
  have hargs : ∀ sp : Nat → Bool, (∀ x ∈ p, sp x.block = true) → DataW.TrodAll enc P W' 0 sp true f.params.toList args.toList (s.fn H (ds ++ [])).args p := by
    intro sp hsp
    rw [hfn]
    exact args_stay hl hb hts hA hlt hsp
  have hvars : ∀ sp : Nat → Bool, DataW.TrodVars enc P W' sp s.vars (s.fn H (ds ++ [])).vars [] := by
    intro sp
    rw [hfn, hvs]
    rfl
  have hok : ∀ (j : Nat) (t : TypeId) (r : Value), f.resultTypes[j]? = some t → ((Value.bool true).resultList f.resultTypes.size)[j]? = some r → Value.okWide P W' .any 0 t r := by
    rw [hrt]
    intro j t r hj hr
    match j, hj, hr with
    | 0, hj, hr =>
      simp [Value.resultList] at hj hr
      subst hj; subst hr
      simp [Value.okWide, hbt, Cell.okWide, Cell.ok]
    | j + 1, hj, hr => simp at hj
  have hk : W.keptBut W' (fun x => x ∈ p ∧ (x ∈ ([] : List MemPlace) ∨ x ∈ p ∨ x ∈ ([] : List MemPlace))) := by
    refine ⟨hos, hout, fun i hi => ?_⟩
    rw [hb i hi]
    split <;> simp_all
  have hfz' : W'.noneFrozen p := by
    intro b off hp
    have := hfz b off hp
    rw [← this]
    exact World.frozen?_of_block (w := W) (hb b (hlt _ hp))
  refine ⟨ds, [], p, [], p, [], by simpa using hW0, hres _ _ _, hargs _ (fun x hx => by simpa using hlt x hx), hvars _, hk, fun _ => ⟨hok, _, _, ([] ++ p) ++ [], ⟨[] ++ p, [], trodAll_append (hargs _ (fun _ _ => rfl)) (hres _ _ _), hvars _, rfl, by simpa using hfz', fun ha => by simpa using hnd ha⟩, fun x hx _ => by simpa using hx⟩⟩
end
section
end
end Go.Proofs.YteeamfkhkbfilaaGreat.K

namespace Go.Proofs.YteeamfkhkbfilaaGreat.K
open Go Go.RowKit Go.Proofs Go.ChangeShapes Go.WideShapes Go.Deep

theorem hAt_app {H : Hp} {b : Nat} : ∀ {cs vs : List Value} {o : Nat}, hAt H b o cs → hAt H b (o + cs.length) vs → hAt H b o (cs ++ vs)
  | [], vs, o, _, h => by simpa using h
  | c :: r, vs, o, h, h2 => ⟨h.1, hAt_app h.2 (by simpa [Nat.add_assoc, Nat.add_comm 1] using h2)⟩
theorem rds_flat {α : Type} {H : Hp} {b sz : Nat} {dx : α → List D} (hd : ∀ q, (dx q).length = sz) : ∀ (l : List α) (o : Nat), (∀ j q, l[j]? = some q → ∃ cs, hAt H b (o + j * sz) cs ∧ RdL H (dx q) cs) → rds H b o (l.flatMap dx)
  | [], o, _ => rds.ofCells (vs := []) trivial trivial
  | q :: r, o, h => by
    obtain ⟨cs, h1, h2⟩ := h 0 q rfl
    rw [Nat.zero_mul, Nat.add_zero] at h1
    have hl : cs.length = sz := by rw [← h2.len, hd]
    have ih := rds_flat hd r (o + sz) fun j q hj => by
      obtain ⟨cs, h3, h4⟩ := h (j + 1) q (by simpa using hj)
      exact ⟨cs, by rw [Nat.add_assoc, show sz + j * sz = (j + 1) * sz by rw [Nat.succ_mul]; omega]; exact h3, h4⟩
    obtain ⟨vs, h5, h6⟩ := ih.cells
    rw [List.flatMap_cons]
    exact rds.ofCells (hAt_app h1 (by rw [hl]; exact h5)) (RdL.append h2 h6)
theorem hAt_of {H : Hp} {b : Nat} : ∀ {cs : List Value} {o : Nat}, (∀ i v, cs[i]? = some v → cel H b (o + i) = some v) → hAt H b o cs
  | [], _, _ => trivial
  | c :: r, o, h => ⟨by simpa using h 0 c rfl, hAt_of fun i v hi => by have := h (i + 1) v (by simpa using hi); rwa [show o + 1 + i = o + (i + 1) by omega]⟩
section
variable {P : Program} {H : Type} {enc : TypeId × Value → H} {W : World}
/-- A slice of elements of several cells. -/
instance : Inhabited ActP := ⟨⟨false, []⟩⟩
theorem open_elems {α : Type} [Inhabited α] {t e : TypeId} {sz : Nat} {dx : α → List D} {Ok : α → Prop} (ht : P.underlying t = some (.slice e)) (hc : P.cellsOf e = sz) (hsz : 0 < sz) (hd : ∀ q, (dx q).length = sz)
    (hel : ∀ n cs x, cs.length = sz → DataW.trod enc P W 0 (fun _ => true) true n e cs = some x → ∃ q, Ok q ∧ RdL (allH W) (dx q) cs)
    {fuel : Nat} {v : Value} {x : DataW H × List MemPlace} (h : DataW.trod enc P W 0 (fun _ => true) true fuel t [v] = some x) : ∃ l : List α, (∀ q ∈ l, Ok q) ∧ rd (allH W) (.s sz (l.flatMap dx)) v := by
  rcases open_slice ht h with ⟨hcs, _⟩ | ⟨a, len, cap, m, n, D', Pl, hcs, _, hl, hm, hmm, _, hcell⟩
  · simp only [List.cons.injEq, and_true] at hcs
    subst hcs
    exact ⟨[], by simp, rd.nil _ _⟩
  · simp only [List.cons.injEq, and_true] at hcs
    subst hcs
    simp only [if_true] at hmm
    subst hmm
    have one : ∀ j, j < len → ∃ q, Ok q ∧ ∃ cs, RdL (allH W) (dx q) cs ∧ ∀ i v, cs[i]? = some v → W.cell? (a.add (j * sz + i)) = some v := by
      intro j hj
      obtain ⟨cs', h1, h2⟩ := hcell j (by omega)
      rw [hc] at h1
      obtain ⟨_, hlen, hget⟩ := World.cells?_some h1
      obtain ⟨q, hq, hr⟩ := hel _ _ _ hlen h2
      refine ⟨q, hq, cs', hr, fun i v hv => ?_⟩
      have := hget i (by have := (List.getElem?_eq_some_iff.1 hv).1; omega)
      rw [add_add, hv] at this
      exact this
    obtain ⟨f, hF⟩ := choose_lt one
    refine ⟨(List.range len).map f, fun q hq => ?_, ?_⟩
    · obtain ⟨j, hj, rfl⟩ := List.mem_map.1 hq
      exact (hF j (List.mem_range.1 hj)).1
    · simp only [rd]
      refine ⟨_, _, _, rfl, ?_, hl, by simpa [maxLen] using hm, ?_⟩
      · have gen : ∀ l : List α, (l.flatMap dx).length = l.length * sz := by
          intro l
          induction l with
          | nil => simp
          | cons q r ih => rw [List.flatMap_cons, List.length_append, ih, hd, List.length_cons, Nat.succ_mul]; omega
        rw [gen, List.length_map, List.length_range]
      · by_cases h0 : len = 0
        · exact .inl h0
        · obtain ⟨_, cs, hr, hg⟩ := hF 0 (by omega)
          have hl2 : cs.length = sz := by rw [← hr.len, hd]
          have e := hg 0 cs[0] (by rw [List.getElem?_eq_getElem (by omega)])
          rw [Nat.zero_mul, Nat.zero_add, add_zero'] at e
          have ea := spot_none e
          refine .inr ⟨a.block, a.off, by rw [← ea], rds_flat hd _ _ fun j q hj => ?_⟩
          rw [List.getElem?_map] at hj
          obtain ⟨j', hj', rfl⟩ := Option.map_eq_some_iff.1 hj
          obtain ⟨hlt, rfl⟩ := List.getElem?_eq_some_iff.1 hj'
          rw [List.getElem_range]
          rw [List.length_range] at hlt
          obtain ⟨_, cs, hr, hg⟩ := hF j hlt
          refine ⟨cs, hAt_of fun i v hv => ?_, hr⟩
          have := hg i v hv
          rw [ea, add_off] at this
          rw [Nat.add_assoc]
          exact cel_of this
/-- The cells of an array of ints. -/
theorem open_arrI {t e : TypeId} {n : Nat} (ht : P.underlying t = some (.array n e)) (he : P.underlying e = some (.int .i64)) (hc : P.cellsOf t = n) (hc1 : P.cellsOf e = 1) {fuel : Nat} {cs : List Value} {x : DataW H × List MemPlace} (hl : cs.length = n)
    (h : DataW.trod enc P W 0 (fun _ => true) true fuel t cs = some x) : ∃ l : List Int, l.length = n ∧ (∀ y ∈ l, I64 y) ∧ cs = l.map (Value.int .i64) := by
  obtain ⟨xs, mm, _, _, _, hxs, hel⟩ := DataW.trod_array ht h
  have one : ∀ i, i < n → ∃ y : Int, I64 y ∧ cs[i]? = some (.int .i64 y) := by
    intro i hi
    have e1 := hel i (by omega)
    rw [List.getElem?_eq_getElem (by omega), hc1, Nat.mul_one] at e1
    obtain ⟨y, g, _, w⟩ := DataW.trod_int he e1
    refine ⟨y, inK_i64 (lit_in w), ?_⟩
    have h2 := congrArg (fun l => l[0]?) g
    simp only [List.getElem?_cons_zero] at h2
    rw [List.getElem?_take, if_pos (by omega), List.getElem?_drop] at h2
    simpa using h2
  obtain ⟨f, hF⟩ := choose_lt one
  refine ⟨(List.range n).map f, by simp, fun y hy => ?_, ?_⟩
  · obtain ⟨i, hi, rfl⟩ := List.mem_map.1 hy
    exact (hF i (List.mem_range.1 hi)).1
  · refine List.ext_getElem? fun i => ?_
    by_cases hi : i < n
    · rw [(hF i hi).2]
      simp [hi]
    · rw [List.getElem?_eq_none (by omega), List.getElem?_eq_none (by simp; omega)]
theorem open_arrV {t e : TypeId} {n : Nat} (ht : P.underlying t = some (.array n e)) (he : P.underlying e = some (.int .i64)) (hc : P.cellsOf t = n) (hc1 : P.cellsOf e = 1) {r : Reach} {b0 : Nat} {v : Value} {d : DataW H} {ps : List MemPlace} (hval : Value.okWide P W r b0 t v)
    (h : DataW.Trod enc P W 0 (fun _ => true) true t v d ps) : ∃ l : List Int, l.length = n ∧ (∀ y ∈ l, I64 y) ∧ v = .agg (l.map (Value.int .i64)).toArray := by
  simp only [Value.okWide, ht] at hval
  obtain ⟨cs, rfl, h2, _⟩ := hval
  rw [hc] at h2
  obtain ⟨fuel, hf⟩ := h
  obtain ⟨l, h3, h4, h5⟩ := open_arrI ht he hc hc1 (cs := cs.toList) (by simpa using h2) hf
  exact ⟨l, h3, h4, by rw [← h5]⟩
end
section
variable {H : Type} {enc : TypeId × Value → H} {W : World}
theorem open_quad {n : Nat} {cs : List Value} {x : DataW H × List MemPlace} (hl : cs.length = 4) (h : DataW.trod enc Tryz.prog W 0 (fun _ => true) true n 63 cs = some x) : ∃ q, QOk q ∧ RdL (allH W) (quadD q) cs := by
  obtain ⟨l, h1, h2, rfl⟩ := open_arrI Tryz.underlying63 Tryz.underlying3 (by kernel_rfl) (by kernel_rfl) hl h
  match l, h1, h2 with
  | [a, b, c, d], _, h2 => exact ⟨(a, b, c, d), ⟨h2 a (by simp), h2 b (by simp), h2 c (by simp), h2 d (by simp)⟩, by simp [rd], by simp [rd], by simp [rd], by simp [rd], trivial⟩
theorem open_act {n : Nat} {cs : List Value} {x : DataW H × List MemPlace} (hl : cs.length = 2) (h : DataW.trod enc Tryz.prog W 0 (fun _ => true) true n 85 cs = some x) : ∃ a : ActP, (∀ q ∈ a.qs, QOk q) ∧ RdL (allH W) a.d cs := by
  obtain ⟨y0, y1, m, _, _, h0, h1⟩ := trod_struct2 Tryz.underlying85 h
  match cs, hl with
  | [c0, c1], _ =>
    rw [show Tryz.prog.cellsOf _ = 1 by kernel_rfl] at h0 h1
    obtain ⟨b, g, _⟩ := DataW.trod_bool Tryz.underlying4 h0
    simp at g
    subst g
    obtain ⟨l, hq, hr⟩ := open_elems (dx := quadD) (Ok := QOk) Tryz.underlying83 (sz := 4) (by kernel_rfl) (by omega) quadD_len (fun n cs x hl h => open_quad hl h) (v := c1) (by simpa using h1)
    exact ⟨⟨b, l⟩, hq, by simp [rd], hr, trivial⟩
theorem open_acts {v : Value} {d : DataW H} {ps : List MemPlace} {r : Reach} {b0 : Nat} (hval : Value.okWide Tryz.prog W r b0 22 v) (h : DataW.Trod enc Tryz.prog W 0 (fun _ => true) true 22 v d ps) : ∃ l : List ActP, AOk l ∧ rd (allH W) (.s 2 (actsD l)) v := by
  obtain ⟨a, n, c, rfl⟩ := WideShapes.okWide_slice Tryz.underlying22 hval
  obtain ⟨fuel, hf⟩ := h
  exact open_elems (dx := ActP.d) (Ok := fun a => ∀ q ∈ a.qs, QOk q) Tryz.underlying22 (sz := 2) (by kernel_rfl) (by omega) ActP.d_len (fun n cs x hl h => open_act hl h) hf
theorem open_two {v : Value} {d : DataW H} {ps : List MemPlace} {r : Reach} {b0 : Nat} (hval : Value.okWide Tryz.prog W r b0 52 v) (h : DataW.Trod enc Tryz.prog W 0 (fun _ => true) true 52 v d ps) : ∃ a b : Int, I64 a ∧ I64 b ∧ v = .agg #[.int .i64 a, .int .i64 b] := by
  obtain ⟨l, h1, h2, rfl⟩ := open_arrV Tryz.underlying52 Tryz.underlying3 (by kernel_rfl) (by kernel_rfl) hval h
  match l, h1, h2 with
  | [a, b], _, h2 => exact ⟨a, b, h2 a (by simp), h2 b (by simp), rfl⟩
theorem open_three {v : Value} {d : DataW H} {ps : List MemPlace} {r : Reach} {b0 : Nat} (hval : Value.okWide Tryz.prog W r b0 48 v) (h : DataW.Trod enc Tryz.prog W 0 (fun _ => true) true 48 v d ps) : ∃ a b c : Int, I64 a ∧ I64 b ∧ I64 c ∧ v = .agg #[.int .i64 a, .int .i64 b, .int .i64 c] := by
  obtain ⟨l, h1, h2, rfl⟩ := open_arrV Tryz.underlying48 Tryz.underlying3 (by kernel_rfl) (by kernel_rfl) hval h
  match l, h1, h2 with
  | [a, b, c], _, h2 => exact ⟨a, b, c, h2 a (by simp), h2 b (by simp), h2 c (by simp), rfl⟩
theorem open_four {v : Value} {d : DataW H} {ps : List MemPlace} {r : Reach} {b0 : Nat} (hval : Value.okWide Tryz.prog W r b0 63 v) (h : DataW.Trod enc Tryz.prog W 0 (fun _ => true) true 63 v d ps) : ∃ q : Quad, QOk q ∧ v = .agg #[.int .i64 q.1, .int .i64 q.2.1, .int .i64 q.2.2.1, .int .i64 q.2.2.2] := by
  obtain ⟨l, h1, h2, rfl⟩ := open_arrV Tryz.underlying63 Tryz.underlying3 (by kernel_rfl) (by kernel_rfl) hval h
  match l, h1, h2 with
  | [a, b, c, d], _, h2 => exact ⟨(a, b, c, d), ⟨h2 a (by simp), h2 b (by simp), h2 c (by simp), h2 d (by simp)⟩, rfl⟩
theorem open_i64 {v : Value} {d : DataW H} {ps : List MemPlace} {r : Reach} {b0 : Nat} (hval : Value.okWide Tryz.prog W r b0 3 v) (h : DataW.Trod enc Tryz.prog W 0 (fun _ => true) true 3 v d ps) : ∃ a : Int, I64 a ∧ v = .int .i64 a := by
  obtain ⟨l, rfl, _, _, k⟩ := ChangeShapes.open_int Tryz.underlying3 hval h
  exact ⟨l, inK_i64 (lit_in k), rfl⟩
theorem open_u8 {v : Value} {d : DataW H} {ps : List MemPlace} {r : Reach} {b0 : Nat} (hval : Value.okWide Tryz.prog W r b0 5 v) (h : DataW.Trod enc Tryz.prog W 0 (fun _ => true) true 5 v d ps) : ∃ a : Int, (0 ≤ a ∧ a ≤ 255) ∧ v = .int .u8 a := by
  obtain ⟨l, rfl, _, _, k⟩ := ChangeShapes.open_int Tryz.underlying5 hval h
  have h1 := lit_in k
  have e1 : IntKind.u8.min = 0 := by decide
  have e2 : IntKind.u8.max = 255 := by decide
  obtain ⟨h1, h2⟩ := h1
  rw [e1] at h1; rw [e2] at h2
  exact ⟨l, ⟨h1, h2⟩, rfl⟩
theorem open_str {v : Value} {d : DataW H} {ps : List MemPlace} {r : Reach} {b0 : Nat} (hval : Value.okWide Tryz.prog W r b0 9 v) (h : DataW.Trod enc Tryz.prog W 0 (fun _ => true) true 9 v d ps) : ∃ s : ByteArray, v = .string s := by
  obtain ⟨s, h1, _⟩ := ChangeMaps.open_string Tryz.underlying9 hval h
  exact ⟨s, h1⟩
end
end Go.Proofs.YteeamfkhkbfilaaGreat.K


