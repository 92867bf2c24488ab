/-
  merge.align.
-/
import Derived.Test.YtapmmfabdmhdnaaWPairs
set_option linter.unusedVariables false
set_option linter.unusedSimpArgs false
set_option maxHeartbeats 4000000
namespace Go.Proofs.Ytapmmfabdmhdnaa.K
open Go Go.RowKit Go.Proofs

theorem merge_gap {x : List Tr} {F : List Fate} {I : List (List Tr)} {i j n m nF nI : Nat} (hFn : nF = F.length) (hIn : nI = I.length) (hin : i ≤ n) (hnF : n ≤ F.length) (hjm : j ≤ m) (hmx : m ≤ x.length) (hiI : i < I.length) (hF : F.length ≤ 8192) (hIl : I.length ≤ 8193) (hxl : x.length ≤ 8192)
    (hk : ∀ k, i ≤ k → k < F.length → F[k]? = some .kept) {w0 : World} {H : Hp} {own : List Seg} {gi gs gj gx gk gn : Nat} {xv : Value} {fv iv : List Value} (hX : rd H (.s 2 (Tr.ds x)) xv) (hf : RdL H (Fate.ds F) fv) (hi : RdL H (insD I) iv) :
    Fn Try.prog 76 [.int .i64 (n : Int), .int .i64 (m : Int), .pointer (some ⟨gi, 0, none⟩), .pointer (some ⟨gs, 0, none⟩), .pointer (some ⟨gj, 0, none⟩), .pointer (some ⟨gx, 0, none⟩)] w0 H ([(gi, .cells #[.int .i64 (i : Int)] 3 (0, 0))] :: [(gs, .cells #[.slice (some ⟨gk, 0, none⟩) nF nF, .slice (some ⟨gn, 0, none⟩) nI nI] 122 (0, 0))] :: [(gj, .cells #[.int .i64 (j : Int)] 3 (0, 0))] :: [(gx, .cells #[xv] 25 (0, 0))] :: [(gk, .cells fv.toArray 129 (0, 0))] :: [(gn, .cells iv.toArray 25 (0, 0))] :: own)
      (fun r own' H' => ∃ fv' iv', r = .tuple #[] ∧ own' = [(gi, .cells #[.int .i64 (i : Int)] 3 (0, 0))] :: [(gs, .cells #[.slice (some ⟨gk, 0, none⟩) nF nF, .slice (some ⟨gn, 0, none⟩) nI nI] 122 (0, 0))] :: [(gj, .cells #[.int .i64 (j : Int)] 3 (0, 0))] :: [(gx, .cells #[xv] 25 (0, 0))] :: [(gk, .cells fv'.toArray 129 (0, 0))] :: [(gn, .cells iv'.toArray 25 (0, 0))] :: own ∧ RdL H' (Fate.ds (gapK x i j n m (n - i) F)) fv' ∧ RdL H' (insD (gapI x i j n m I)) iv' ∧ Le H H') := by
  subst hFn
  subst hIn
  obtain ⟨A, cx, rfl, ha1, ha2⟩ := trs_len hX
  refine Fn.enter Try.func76 rfl Try.ntmps76 rfl ?_
  have hL := Le.refl H
  refine TC.seq ?_
  refine TC.seq ?_
  refine TC.region ?_
  refine TL.load_own 0 0 rfl rfl rfl rfl rfl ?_
  refine TL.assign rfl rfl ?_
  refine TL.nil ?_
  refine TQ.then_n ?_
  refine TC.block ?_
  refine TC.loop (fun z env' own' H' => ∃ (c : Nat) (fv2 : List Value), z = (n - i) - c ∧ c ≤ n - i ∧ RdL H' (Fate.ds (gapK x i j n m c F)) fv2 ∧ env' = [(0, .int .i64 (n : Int)), (1, .int .i64 (m : Int)), (2, .pointer (some ⟨gi, 0, none⟩)), (3, .pointer (some ⟨gs, 0, none⟩)), (4, .pointer (some ⟨gj, 0, none⟩)), (5, .pointer (some ⟨gx, 0, none⟩)), (8, .int .i64 ((i + c : Nat) : Int))] ∧ own' = [(gi, .cells #[.int .i64 (i : Int)] 3 (0, 0))] :: [(gs, .cells #[.slice (some ⟨gk, 0, none⟩) F.length F.length, .slice (some ⟨gn, 0, none⟩) I.length I.length] 122 (0, 0))] :: [(gj, .cells #[.int .i64 (j : Int)] 3 (0, 0))] :: [(gx, .cells #[.slice A x.length cx] 25 (0, 0))] :: [(gk, .cells fv2.toArray 129 (0, 0))] :: [(gn, .cells iv.toArray 25 (0, 0))] :: own ∧ Le H H') (n - i) [(0, _), (1, _), (2, _), (3, _), (4, _), (5, _), (8, _)] ⟨rfl, rfl, rfl, rfl, rfl, rfl, rfl, trivial⟩ ⟨0, fv, rfl, by omega, hf, rfl, rfl, Le.refl _⟩ ?_
  rintro z _ _ H1 ⟨c, fv2, rfl, hc1, hf2, rfl, rfl, hle0⟩
  have hL := Le.trans hL hle0
  have hX := rd.mono hle0 hX
  have hf := RdL.mono hle0 hf
  have hi := RdL.mono hle0 hi
  have hfl := hf2.len
  rw [Fate.ds_len, gapK_len] at hfl
  refine TC.seq ?_
  refine TC.seq ?_
  refine TC.region ?_
  refine TL.move rfl rfl ?_
  refine TL.move rfl rfl ?_
  refine TL.lssB rfl rfl rfl (fun hlt => ?_) (fun hlt => ?_)
  ·
   have hget : (gapK x i j n m c F)[i + c]? = some .kept := by rw [gapK_get _ _ _ _ _ _ _ _ (by omega)]; exact hk _ (by omega) (by omega)
   refine TL.nil ?_
   refine TQ.then_n ?_
   refine TC.cond_t rfl ?_
   refine TC.skip ?_
   refine TQ.then_n ?_
   refine TC.seq ?_
   refine TC.block ?_
   refine TC.seq ?_
   refine TC.region ?_
   refine TL.fieldAddr rfl rfl ?_
   refine TL.load_own 1 0 rfl rfl rfl rfl rfl ?_
   refine TL.move rfl rfl ?_
   refine TL.indexAddr (i + c) rfl rfl rfl (by omega) rfl ?_
   refine TL.fieldAddr rfl rfl ?_
   refine TL.store1 4 0 (c' := (fv2.set ((i + c) * 3) (.int .i64 2)).toArray) (own' := _ :: _ :: _ :: _ :: [(_, .cells (fv2.set ((i + c) * 3) (.int .i64 2)).toArray _ _)] :: _) rfl rfl rfl rfl rfl (by simp; omega) (set_toArr _ _ (by omega)) rfl rfl ?_
   refine TL.nil ?_
   refine TQ.then_n ?_
   refine TC.seq ?_
   refine TC.region ?_
   refine TL.move rfl rfl ?_
   refine TL.load_own 0 0 rfl rfl rfl rfl rfl ?_
   refine TL.sub rfl rfl rfl ⟨by omega, by omega⟩ ?_
   refine TL.move rfl rfl ?_
   refine TL.load_own 2 0 rfl rfl rfl rfl rfl ?_
   refine TL.sub rfl rfl rfl ⟨by omega, by omega⟩ ?_
   refine TL.eqlB rfl rfl rfl (fun heq => ?_) (fun heq => ?_)
   ·
    obtain ⟨t, ht⟩ : ∃ t, x[j + c]? = some t := ⟨_, List.getElem?_eq_getElem (by omega)⟩
    obtain ⟨b1, o1, p0, p1, rfl, hp, hpr⟩ := trs_at hX ht
    refine TL.nil ?_
    refine TQ.then_n ?_
    refine TC.cond_t rfl ?_
    refine TC.drawQV 12  [(0, _), (1, _), (2, _), (3, _), (4, _), (5, _), (8, _)] follows_mixed ⟨rfl, rfl, rfl, rfl, rfl, rfl, rfl, trivial⟩ ?_
    refine ChainV.q (some 27) [] (by
     intro H' X F hle
     intro hF
     refine TL.fieldAddr rfl rfl ?_
     refine TL.nil ?_
     exact TQ.one [] hF (Le.refl _) ⟨rfl, rfl⟩) ?_
    refine ChainV.q (some 28) [(0, 0)] (by
     intro H' X F hle
     have hL := Le.trans hL hle
     have hX := rd.mono hle hX
     have hf := RdL.mono hle hf
     have hi := RdL.mono hle hi
     have hle0 := Le.trans hle0 hle
     have hf2 := RdL.mono hle hf2
     have hp := hAt.mono hle hp
     have hpr := RdL.mono hle hpr
     intro hF
     refine TL.load_own 1 0 rfl rfl rfl rfl rfl ?_
     refine TL.nil ?_
     exact TQ.one [] hF (Le.refl _) ⟨rfl, rfl⟩) ?_
    refine ChainV.q (some 29) [] (by
     intro H' X F hle
     intro hF
     refine TL.move rfl rfl ?_
     refine TL.nil ?_
     exact TQ.one [] hF (Le.refl _) ⟨rfl, rfl⟩) ?_
    refine ChainV.q (some 30) [] (by
     intro H' X F hle
     have hL := Le.trans hL hle
     have hX := rd.mono hle hX
     have hf := RdL.mono hle hf
     have hi := RdL.mono hle hi
     have hle0 := Le.trans hle0 hle
     have hf2 := RdL.mono hle hf2
     have hp := hAt.mono hle hp
     have hpr := RdL.mono hle hpr
     intro hF
     refine TL.load_own 3 0 rfl rfl rfl rfl rfl ?_
     refine TL.nil ?_
     exact TQ.one [] hF (Le.refl _) ⟨rfl, rfl⟩) ?_
    refine ChainV.q (some 31) [] (by
     intro H' X F hle
     have hL := Le.trans hL hle
     have hX := rd.mono hle hX
     have hf := RdL.mono hle hf
     have hi := RdL.mono hle hi
     have hle0 := Le.trans hle0 hle
     have hf2 := RdL.mono hle hf2
     have hp := hAt.mono hle hp
     have hpr := RdL.mono hle hpr
     intro hF
     refine TL.load_own 2 0 rfl rfl rfl rfl rfl ?_
     refine TL.nil ?_
     exact TQ.one [] hF (Le.refl _) ⟨rfl, rfl⟩) ?_
    refine ChainV.q (some 32) [] (by
     intro H' X F hle
     intro hF
     refine TL.move rfl rfl ?_
     refine TL.nil ?_
     exact TQ.one [] hF (Le.refl _) ⟨rfl, rfl⟩) ?_
    refine ChainV.q (some 33) [(4, 1), (5, 0)] (by
     intro H' X F hle
     intro hF
     refine TL.add rfl rfl rfl ⟨by omega, by omega⟩ ?_
     refine TL.nil ?_
     exact TQ.one [] hF (Le.refl _) ⟨rfl, rfl⟩) ?_
    refine ChainV.q (some 34) [] (by
     intro H' X F hle
     have hL := Le.trans hL hle
     have hX := rd.mono hle hX
     have hf := RdL.mono hle hf
     have hi := RdL.mono hle hi
     have hle0 := Le.trans hle0 hle
     have hf2 := RdL.mono hle hf2
     have hp := hAt.mono hle hp
     have hpr := RdL.mono hle hpr
     intro hF
     refine TL.load_own 0 0 rfl rfl rfl rfl rfl ?_
     refine TL.nil ?_
     exact TQ.one [] hF (Le.refl _) ⟨rfl, rfl⟩) ?_
    refine ChainV.q (some 35) [(6, 1), (7, 0)] (by
     intro H' X F hle
     intro hF
     refine TL.sub rfl rfl rfl ⟨by omega, by omega⟩ ?_
     refine TL.nil ?_
     exact TQ.one [] hF (Le.refl _) ⟨rfl, rfl⟩) ?_
    refine ChainV.q (some 36) [(3, 5), (8, 0)] (by
     intro H' X F hle
     intro hF
     refine TL.indexAddr (j + c) rfl rfl (by omega) (by omega) rfl ?_
     refine TL.nil ?_
     exact TQ.one [] hF (Le.refl _) ⟨rfl, rfl⟩) ?_
    refine ChainV.q (some 37) [(9, 0)] (by
     intro H' X F hle
     have hL := Le.trans hL hle
     have hX := rd.mono hle hX
     have hf := RdL.mono hle hf
     have hi := RdL.mono hle hi
     have hle0 := Le.trans hle0 hle
     have hf2 := RdL.mono hle hf2
     have hp := hAt.mono hle hp
     have hpr := RdL.mono hle hpr
     intro hF
     refine TL.load_immA rfl (hp) rfl rfl ?_
     refine TL.nil ?_
     exact TQ.one [] hF (Le.refl _) ⟨rfl, rfl⟩) ?_
    refine ChainV.q (some 38) [(10, 0)] (by
     intro H' X F hle
     have hL := Le.trans hL hle
     have hX := rd.mono hle hX
     have hf := RdL.mono hle hf
     have hi := RdL.mono hle hi
     have hle0 := Le.trans hle0 hle
     have hf2 := RdL.mono hle hf2
     have hp := hAt.mono hle hp
     have hpr := RdL.mono hle hpr
     intro hF
     refine TL.struct [(0, [_]), (1, [_, _])] ⟨rfl, ⟨_, rfl, rfl⟩, rfl, ⟨_, rfl, rfl⟩, trivial⟩ rfl rfl ?_
     refine TL.nil ?_
     exact TQ.one [] hF (Le.refl _) ⟨rfl, rfl⟩) ?_
    refine ⟨by kernel_rfl, .refl _, ?_⟩
    ·
     intro H1 hle
     have hL := Le.trans hL hle
     have hX := rd.mono hle hX
     have hf := RdL.mono hle hf
     have hi := RdL.mono hle hi
     have hle0 := Le.trans hle0 hle
     have hf2 := RdL.mono hle hf2
     have hp := hAt.mono hle hp
     have hpr := RdL.mono hle hpr
     refine TL.toOwn (own' := _ :: _ :: _ :: _ :: _ :: _ :: own) rfl ?_
     refine TL.wk (env' := [(0, _), (1, _), (2, _), (3, _), (4, _), (5, _), (8, _), (28, _), (29, _), (38, _)]) ⟨rfl, rfl, rfl, rfl, rfl, rfl, rfl, rfl, rfl, rfl, trivial⟩ ?_
     refine TL.indexAddr (i + c) rfl rfl rfl (by omega) rfl ?_
     refine TL.storeA 4 0 (vs := [.int .i64 1, p0, p1]) (c' := ((((fv2.set ((i + c) * 3) (.int .i64 2)).set ((i + c) * 3) (.int .i64 1)).set ((i + c) * 3 + 1) p0).set ((i + c) * 3 + 2) p1).toArray) (own' := _ :: _ :: _ :: _ :: [(_, .cells ((((fv2.set ((i + c) * 3) (.int .i64 2)).set ((i + c) * 3) (.int .i64 1)).set ((i + c) * 3 + 1) p0).set ((i + c) * 3 + 2) p1).toArray _ _)] :: _) rfl rfl rfl rfl rfl ⟨rfl, tr_ones hpr⟩ (by simp; omega) (set3_toArr _ _ _ _ (by omega)) rfl rfl ?_
     refine TL.nil ?_
     refine TQ.in_n ?_
     refine TQ.then_n ?_
     refine TC.region ?_
     refine TL.move rfl rfl ?_
     refine TL.add rfl rfl rfl ⟨by omega, by omega⟩ ?_
     refine TL.assign rfl rfl ?_
     refine TL.nil ?_
     first
       | refine TQ.next ((n - i) - (c + 1)) [(0, _), (1, _), (2, _), (3, _), (4, _), (5, _), (8, _)] (by omega) ⟨rfl, rfl, rfl, rfl, rfl, rfl, rfl, trivial⟩ ⟨c + 1, _, rfl, by omega, ?_, by simp; omega, rfl, hle0⟩
         rw [gapK_eq (by omega) ht, ← List.set_set (a := Fate.del)]
         exact fate_set3 (fate_set1 hf2 hget) hpr
       | refine TQ.next ((n - i) - (c + 1)) [(0, _), (1, _), (2, _), (3, _), (4, _), (5, _), (8, _)] (by omega) ⟨rfl, rfl, rfl, rfl, rfl, rfl, rfl, trivial⟩ ⟨c + 1, _, rfl, by omega, ?_, by simp; omega, rfl, hle0⟩
         rw [gapK_ne (by omega)]
         exact fate_set1 hf2 hget
   ·
    refine TL.nil ?_
    refine TQ.then_n ?_
    refine TC.cond_f rfl ?_
    refine TC.skip ?_
    refine TQ.in_n ?_
    refine TQ.then_n ?_
    refine TC.region ?_
    refine TL.move rfl rfl ?_
    refine TL.add rfl rfl rfl ⟨by omega, by omega⟩ ?_
    refine TL.assign rfl rfl ?_
    refine TL.nil ?_
    first
      | refine TQ.next ((n - i) - (c + 1)) [(0, _), (1, _), (2, _), (3, _), (4, _), (5, _), (8, _)] (by omega) ⟨rfl, rfl, rfl, rfl, rfl, rfl, rfl, trivial⟩ ⟨c + 1, _, rfl, by omega, ?_, by simp; omega, rfl, hle0⟩
        rw [gapK_eq (by omega) ht, ← List.set_set (a := Fate.del)]
        exact fate_set3 (fate_set1 hf2 hget) hpr
      | refine TQ.next ((n - i) - (c + 1)) [(0, _), (1, _), (2, _), (3, _), (4, _), (5, _), (8, _)] (by omega) ⟨rfl, rfl, rfl, rfl, rfl, rfl, rfl, trivial⟩ ⟨c + 1, _, rfl, by omega, ?_, by simp; omega, rfl, hle0⟩
        rw [gapK_ne (by omega)]
        exact fate_set1 hf2 hget
  ·
   refine TL.nil ?_
   refine TQ.then_n ?_
   refine TC.cond_f rfl ?_
   refine TC.exit ?_
   refine TQ.then_e ?_
   refine TQ.then_e ?_
   refine TQ.in_e ?_
   refine TQ.then_n ?_
   refine TC.seq ?_
   have hcn : c = n - i := by omega
   subst hcn
   have hil := hi.len
   simp only [insD, List.length_map] at hil
   refine TC.region ?_
   refine TL.move rfl rfl ?_
   refine TL.load_own 0 0 rfl rfl rfl rfl rfl ?_
   refine TL.sub rfl rfl rfl ⟨by omega, by omega⟩ ?_
   refine TL.move rfl rfl ?_
   refine TL.load_own 2 0 rfl rfl rfl rfl rfl ?_
   refine TL.sub rfl rfl rfl ⟨by omega, by omega⟩ ?_
   refine TL.neqB rfl rfl rfl (fun hne => ?_) (fun hne => ?_)
   ·
    refine TL.nil ?_
    refine TQ.then_n ?_
    refine TC.cond_t rfl ?_
    refine TC.drawQV 7  [(0, _), (1, _), (2, _), (3, _), (4, _), (5, _), (8, _)] follows_mixed ⟨rfl, rfl, rfl, rfl, rfl, rfl, rfl, trivial⟩ ?_
    refine ChainV.q (some 47) [] (by
     intro H' X F hle
     intro hF
     refine TL.fieldAddr rfl rfl ?_
     refine TL.nil ?_
     exact TQ.one [] hF (Le.refl _) ⟨rfl, rfl⟩) ?_
    refine ChainV.q (some 48) [(0, 0)] (by
     intro H' X F hle
     have hL := Le.trans hL hle
     have hX := rd.mono hle hX
     have hf := RdL.mono hle hf
     have hi := RdL.mono hle hi
     have hle0 := Le.trans hle0 hle
     have hf2 := RdL.mono hle hf2
     intro hF
     refine TL.load_own 1 0 rfl rfl rfl rfl rfl ?_
     refine TL.nil ?_
     exact TQ.one [] hF (Le.refl _) ⟨rfl, rfl⟩) ?_
    refine ChainV.q (some 49) [] (by
     intro H' X F hle
     have hL := Le.trans hL hle
     have hX := rd.mono hle hX
     have hf := RdL.mono hle hf
     have hi := RdL.mono hle hi
     have hle0 := Le.trans hle0 hle
     have hf2 := RdL.mono hle hf2
     intro hF
     refine TL.load_own 0 0 rfl rfl rfl rfl rfl ?_
     refine TL.nil ?_
     exact TQ.one [] hF (Le.refl _) ⟨rfl, rfl⟩) ?_
    refine ChainV.q (some 50) [] (by
     intro H' X F hle
     have hL := Le.trans hL hle
     have hX := rd.mono hle hX
     have hf := RdL.mono hle hf
     have hi := RdL.mono hle hi
     have hle0 := Le.trans hle0 hle
     have hf2 := RdL.mono hle hf2
     intro hF
     refine TL.load_own 3 0 rfl rfl rfl rfl rfl ?_
     refine TL.nil ?_
     exact TQ.one [] hF (Le.refl _) ⟨rfl, rfl⟩) ?_
    refine ChainV.q (some 51) [] (by
     intro H' X F hle
     have hL := Le.trans hL hle
     have hX := rd.mono hle hX
     have hf := RdL.mono hle hf
     have hi := RdL.mono hle hi
     have hle0 := Le.trans hle0 hle
     have hf2 := RdL.mono hle hf2
     intro hF
     refine TL.load_own 2 0 rfl rfl rfl rfl rfl ?_
     refine TL.nil ?_
     exact TQ.one [] hF (Le.refl _) ⟨rfl, rfl⟩) ?_
    refine ChainV.q (some 52) [] (by
     intro H' X F hle
     intro hF
     refine TL.move rfl rfl ?_
     refine TL.nil ?_
     exact TQ.one [] hF (Le.refl _) ⟨rfl, rfl⟩) ?_
    refine ChainV.q (some 53) [(3, 2), (4, 1), (5, 0)] (by
     intro H' X F hle
     have hL := Le.trans hL hle
     have hX := rd.mono hle hX
     have hf := RdL.mono hle hf
     have hi := RdL.mono hle hi
     have hle0 := Le.trans hle0 hle
     have hf2 := RdL.mono hle hf2
     intro hF
     refine TL.slice (j) (m) rfl ⟨_, _, rfl, rfl⟩ ⟨_, _, rfl, rfl⟩ rfl rfl (by omega) (by omega) rfl ?_
     refine TL.nil ?_
     exact TQ.one [] hF (Le.refl _) ⟨rfl, rfl⟩) ?_
    refine ⟨by kernel_rfl, .refl _, ?_⟩
    ·
     intro H2 hle
     have hL := Le.trans hL hle
     have hX := rd.mono hle hX
     have hf := RdL.mono hle hf
     have hi := RdL.mono hle hi
     have hle0 := Le.trans hle0 hle
     have hf2 := RdL.mono hle hf2
     refine TL.toOwn (own' := _ :: _ :: _ :: _ :: _ :: _ :: own) rfl ?_
     refine TL.wk (env' := [(0, _), (1, _), (2, _), (3, _), (4, _), (5, _), (8, _), (48, _), (49, _), (53, _)]) ⟨rfl, rfl, rfl, rfl, rfl, rfl, rfl, rfl, rfl, rfl, trivial⟩ ?_
     refine TL.indexAddr (i) rfl rfl rfl (by omega) rfl ?_
     refine TL.store1 5 0 (c' := (iv.set i _).toArray) (own' := _ :: _ :: _ :: _ :: _ :: [(_, .cells (iv.set i _).toArray _ _)] :: _) rfl rfl rfl rfl rfl (by simp; omega) (set_toArr _ _ (by omega)) rfl rfl ?_
     refine TL.nil ?_
     refine TQ.end0 0 rfl ?_
     first
       | refine ⟨_, _, rfl, rfl, hf2, ?_, hL⟩
         unfold gapI
         rw [if_neg (by omega)]
         exact ins_set hi (trs_cut hX hjm hmx)
       | refine ⟨_, _, rfl, rfl, hf2, ?_, hL⟩
         unfold gapI
         rw [if_pos (by omega)]
         exact hi
   ·
    refine TL.nil ?_
    refine TQ.then_n ?_
    refine TC.cond_f rfl ?_
    refine TC.skip ?_
    refine TQ.end0 0 rfl ?_
    first
      | refine ⟨_, _, rfl, rfl, hf2, ?_, hL⟩
        unfold gapI
        rw [if_neg (by omega)]
        exact ins_set hi (trs_cut hX hjm hmx)
      | refine ⟨_, _, rfl, rfl, hf2, ?_, hL⟩
        unfold gapI
        rw [if_pos (by omega)]
        exact hi
theorem merge_align {b x : List Tr} (hbl : b.length ≤ 8192) (hxl : x.length ≤ 8192) {w0 : World} {H : Hp} {own : List Seg} {bv xv : Value} (hB : rd H (.s 2 (Tr.ds b)) bv) (hX : rd H (.s 2 (Tr.ds x)) xv) :
    Fn Try.prog 55 [bv, xv] w0 H own (fun v own' H' => ∃ c0 c1, v = .agg #[c0, c1] ∧ RdL H' (alignP b x).d [c0, c1] ∧ own' = own ∧ Le H H') := by
  obtain ⟨A, ca, rfl, ha1, ha2⟩ := trs_len hB
  obtain ⟨B, cb, rfl, hb1, hb2⟩ := trs_len hX
  refine Fn.enter Try.func55 rfl Try.ntmps55 rfl ?_
  have hL := Le.refl H
  refine TC.seq ?_
  refine TC.region ?_
  refine TL.box (c := #[_]) rfl rfl rfl ?_; intro g3
  refine TL.new rfl ?_; intro g4
  refine TL.nil ?_
  refine TQ.then_n ?_
  refine TC.seq ?_
  refine TC.drawQV 9  [(0, _), (1, _), (3, _), (4, _)] follows_mixed ⟨rfl, rfl, rfl, rfl, trivial⟩ ?_
  refine ChainV.q (some 11) [] (by
   intro H' X F hle
   intro hF
   refine TL.move rfl rfl ?_
   refine TL.nil ?_
   exact TQ.one [] hF (Le.refl _) ⟨rfl, rfl⟩) ?_
  refine ChainV.q (some 12) [(0, 0)] (by
   intro H' X F hle
   have hL := Le.trans hL hle
   have hB := rd.mono hle hB
   have hX := rd.mono hle hX
   intro hF
   refine TL.len_slice rfl rfl ?_
   refine TL.nil ?_
   exact TQ.one [] hF (Le.refl _) ⟨rfl, rfl⟩) ?_
  refine ChainV.r (some 13) [(1, 0)] ([]) (fun _ => fun u s H => ∃ gk fv, u = .slice (some ⟨gk, 0, none⟩) b.length b.length ∧ s = [[(gk, .cells (List.toArray fv) 129 (0, 0))]] ∧ RdL H (Fate.ds (List.replicate b.length .kept)) fv) (by
   intro H' X F hle
   have hL := Le.trans hL hle
   have hB := rd.mono hle hB
   have hX := rd.mono hle hX
   intro hF
   refine TL.makeSlice (b.length) rfl rfl rfl (by omega) (by omega) rfl ?_; intro g13
   refine TL.nil ?_
   exact TQ.one [_] hF (Le.refl _) ⟨_, _, rfl, by rw [made_fates rfl], fates_kept _ _⟩) ?_
  refine ChainV.q (some 14) [] (by
   intro H' X F hle
   intro hF
   refine TL.move rfl rfl ?_
   refine TL.nil ?_
   exact TQ.one [] hF (Le.refl _) ⟨rfl, rfl⟩) ?_
  refine ChainV.q (some 15) [(3, 0)] (by
   intro H' X F hle
   have hL := Le.trans hL hle
   have hB := rd.mono hle hB
   have hX := rd.mono hle hX
   intro hF
   refine TL.len_slice rfl rfl ?_
   refine TL.nil ?_
   exact TQ.one [] hF (Le.refl _) ⟨rfl, rfl⟩) ?_
  refine ChainV.q (some 16) [(4, 0)] (by
   intro H' X F hle
   intro hF
   refine TL.add rfl rfl rfl ⟨by omega, by omega⟩ ?_
   refine TL.nil ?_
   exact TQ.one [] hF (Le.refl _) ⟨rfl, rfl⟩) ?_
  refine ChainV.r (some 17) [(5, 0)] ([]) (fun _ => fun u s H => ∃ gn, u = .slice (some ⟨gn, 0, none⟩) (b.length + 1) (b.length + 1) ∧ s = [[(gn, .cells (List.replicate (b.length + 1) (Value.slice none 0 0)).toArray 25 (0, 0))]]) (by
   intro H' X F hle
   have hL := Le.trans hL hle
   have hB := rd.mono hle hB
   have hX := rd.mono hle hX
   intro hF
   refine TL.makeSlice (b.length + 1) rfl rfl (by omega) (by omega) (by omega) rfl ?_; intro g17
   refine TL.nil ?_
   exact TQ.one [_] hF (Le.refl _) ⟨_, rfl, by rw [made_ins rfl]⟩) ?_
  refine ChainV.r (some 18) [(2, 4), (6, 0)] ([]) (fun vs u s H => u = .agg #[nthV vs 0, nthV vs 1] ∧ s = []) (by
   intro H' X F hle
   have hL := Le.trans hL hle
   have hB := rd.mono hle hB
   have hX := rd.mono hle hX
   intro _
   rintro _ _ Hk hlek ⟨gk, fv, rfl, rfl, hfv⟩
   replace hfv := RdL.mono hlek hfv
   intro _
   rintro _ _ Hn hlen ⟨gn, rfl, rfl⟩
   intro hF
   refine TL.struct [(0, [_]), (1, [_])] ⟨rfl, ⟨_, rfl, rfl⟩, rfl, ⟨_, rfl, rfl⟩, trivial⟩ rfl rfl ?_
   refine TL.nil ?_
   exact TQ.one [] hF (Le.refl _) ⟨rfl, rfl⟩) ?_
  refine ChainV.r (some 5) [] ([]) (fun _ => fun u s H => ∃ g5, u = .pointer (some ⟨g5, 0, none⟩) ∧ s = [[(g5, .cells #[.slice none 0 0, .slice none 0 0] 122 (0, 0))]]) (by
   intro H' X F hle
   have hL := Le.trans hL hle
   have hB := rd.mono hle hB
   have hX := rd.mono hle hX
   intro hF
   refine TL.new rfl ?_; intro g5
   refine TL.nil ?_
   exact TQ.one [_] hF (Le.refl _) ⟨_, rfl, rfl⟩) ?_
  refine ⟨by kernel_rfl, .refl _, ?_⟩
  ·
   intro H1 hle
   rintro _ _ Hk hlek ⟨gk, fv, rfl, rfl, hfv⟩
   replace hfv := RdL.mono hlek hfv
   rintro _ _ Hn hlen ⟨gn, rfl, rfl⟩
   rintro _ _ Ha hlea ⟨rfl, rfl⟩
   rintro _ _ Hp hlep ⟨g5, rfl, rfl⟩
   have hL := Le.trans hL hle
   have hB := rd.mono hle hB
   have hX := rd.mono hle hX
   refine TL.toOwn (own' := _ :: _ :: _ :: _ :: _ :: own) rfl ?_
   refine TL.wk (env' := [(0, _), (1, _), (3, _), (4, _), (18, _), (5, _)]) ⟨rfl, rfl, rfl, rfl, rfl, rfl, trivial⟩ ?_
   refine TL.storeA 0 0 (c' := #[_, _]) (own' := [(_, .cells #[_, _] _ _)] :: _) rfl rfl rfl rfl rfl ⟨rfl, rfl, trivial⟩ (by simp) rfl rfl rfl ?_
   refine TL.nil ?_
   refine TQ.then_n ?_
   refine TC.seq ?_
   refine TC.region ?_
   refine TL.new rfl ?_; intro g6
   refine TL.new rfl ?_; intro g7
   refine TL.store1 1 0 (c' := #[_]) (own' := _ :: [(_, .cells #[_] _ _)] :: _) rfl rfl rfl rfl rfl (by simp) rfl rfl rfl ?_
   refine TL.store1 0 0 (c' := #[_]) (own' := [(_, .cells #[_] _ _)] :: _) rfl rfl rfl rfl rfl (by simp) rfl rfl rfl ?_
   refine TL.nil ?_
   refine TQ.then_n ?_
   refine TC.seq ?_
   refine TC.region ?_
   refine TL.makeFunc (vs := []) (us := [_, _, _, _]) trivial ⟨rfl, rfl, rfl, rfl, trivial⟩ rfl ?_
   refine TL.assign rfl rfl ?_
   refine TL.nil ?_
   refine TQ.then_n ?_
   refine TC.seq ?_
   refine TC.seq ?_
   refine TC.sel 7 [1, 2, 0, 6, 4, 3, 5] rfl (fun o ho => ?_)
   simp only [K.sel, List.map_cons, List.map_nil, List.getD_cons_zero, List.getD_cons_succ, List.drop_succ_cons, List.drop_zero, List.cons_append, List.nil_append, List.set_cons_zero, List.set_cons_succ] at ho; subst ho
   refine TC.region ?_
   refine TL.move rfl rfl ?_
   refine TL.load_own 3 0 rfl rfl rfl rfl rfl ?_
   refine TL.call (merge_pairs hbl hxl hB hX) ⟨rfl, rfl, trivial⟩ rfl ?_
   rintro v22 _ H2 ⟨hps, rfl, hle2⟩
   have hL := Le.trans hL hle2
   have hB := rd.mono hle2 hB
   have hX := rd.mono hle2 hX
   have hfv := RdL.mono hle2 hfv
   obtain ⟨Ap, cp, rfl⟩ := pairs_len hps
   refine TL.len_slice rfl rfl ?_
   refine TL.move rfl rfl ?_
   refine TL.nil ?_
   refine TQ.then_n ?_
   refine TC.block ?_
   have hplen := pairsP_len b x
   refine TC.loop (fun z env' own' H' => ∃ (k i j : Nat) (F : List Fate) (I : List (List Tr)) (fv iv : List Value), z = (pairsP b x).length - k ∧ k ≤ (pairsP b x).length ∧ alignGo x ((pairsP b x).drop k) i j ⟨F, I⟩ = alignP b x ∧ F.length = b.length ∧ I.length = b.length + 1 ∧
     (∀ q, i ≤ q → q < F.length → F[q]? = some .kept) ∧ Ord b.length x.length ((pairsP b x).drop k) i j ∧ RdL H' (Fate.ds F) fv ∧ RdL H' (insD I) iv ∧ env' = [(4, .pointer (some ⟨g4, 0, none⟩)), (5, .pointer (some ⟨g5, 0, none⟩)), (6, .pointer (some ⟨g6, 0, none⟩)), (7, .pointer (some ⟨g7, 0, none⟩)), (8, .func (.func 76) #[] #[.pointer (some ⟨g6, 0, none⟩), .pointer (some ⟨g5, 0, none⟩), .pointer (some ⟨g7, 0, none⟩), .pointer (some ⟨g3, 0, none⟩)]), (22, .slice Ap (pairsP b x).length cp), (23, .int .i64 ((pairsP b x).length : Int)), (24, .int .i64 (k : Int))] ∧ own' = [(g6, .cells #[.int .i64 (i : Int)] 3 (0, 0))] :: [(g5, .cells #[.slice (some ⟨gk, 0, none⟩) b.length b.length, .slice (some ⟨gn, 0, none⟩) (b.length + 1) (b.length + 1)] 122 (0, 0))] :: [(g7, .cells #[.int .i64 (j : Int)] 3 (0, 0))] :: [(g3, .cells #[.slice B x.length cb] 25 (0, 0))] :: [(gk, .cells fv.toArray 129 (0, 0))] :: [(gn, .cells iv.toArray 25 (0, 0))] :: [(g4, .cells #[.slice none 0 0, .slice none 0 0] 122 (0, 0))] :: own ∧ Le H2 H') (pairsP b x).length [(4, _), (5, _), (6, _), (7, _), (8, _), (22, _), (23, _), (24, _)] ⟨rfl, rfl, rfl, rfl, rfl, rfl, rfl, rfl, trivial⟩
     ⟨0, 0, 0, _, _, fv, _, rfl, by omega, rfl, by simp, by simp, fun q _ hq => by simp at hq; simp [hq], pairsP_ord b x, hfv, ins_none _ _, rfl, rfl, Le.refl _⟩ ?_
   rintro z _ _ H1 ⟨k, i, j, F, I, fv, iv, rfl, hk1, hal, hFl, hIl, hkept, hord, hf, hi, rfl, rfl, hle0⟩
   have hL := Le.trans hL hle0
   have hB := rd.mono hle0 hB
   have hX := rd.mono hle0 hX
   have hfv := RdL.mono hle0 hfv
   have hps := rd.mono hle0 hps
   refine TC.seq ?_
   refine TC.region ?_
   refine TL.lssB rfl rfl rfl (fun hlt => ?_) (fun hlt => ?_)
   ·
    obtain ⟨⟨n, m⟩, hget⟩ : ∃ p, (pairsP b x)[k]? = some p := ⟨_, List.getElem?_eq_getElem (by omega)⟩
    obtain ⟨b1, o1, rfl, hp⟩ := pairs_at hps hget
    rw [drop_cons hget] at hal hord
    obtain ⟨hn1, hm1, hn2, hm2, hord'⟩ := hord
    refine TL.nil ?_
    refine TQ.then_n ?_
    refine TC.seq ?_
    refine TC.cond_t rfl ?_
    refine TC.skip ?_
    refine TQ.then_n ?_
    refine TC.seq ?_
    refine TC.block ?_
    refine TC.seq ?_
    refine TC.region ?_
    refine TL.indexAddr (k) rfl rfl rfl (by omega) rfl ?_
    refine TL.load_immA rfl (hp) rfl rfl ?_
    refine TL.new rfl ?_; intro g10
    refine TL.storeA 0 0 (c' := #[_, _]) (own' := [(_, .cells #[_, _] _ _)] :: _) rfl rfl rfl rfl rfl ⟨rfl, rfl, trivial⟩ (by simp) rfl rfl rfl ?_
    refine TL.nil ?_
    refine TQ.then_n ?_
    refine TC.seq ?_
    refine TC.region ?_
    refine TL.move rfl rfl ?_
    refine TL.indexArr (0) rfl rfl (by omega) (by omega) rfl ?_
    refine TL.load_own 0 0 rfl rfl rfl rfl rfl ?_
    refine TL.indexArr (1) rfl rfl (by omega) (by omega) rfl ?_
    refine TL.load_own 0 0 rfl rfl rfl rfl rfl ?_
    refine TL.sel 8 [1, 2, 3, 4, 5, 6, 0, 7] rfl (fun o ho => ?_)
    simp only [K.sel, List.map_cons, List.map_nil, List.getD_cons_zero, List.getD_cons_succ, List.drop_succ_cons, List.drop_zero, List.cons_append, List.nil_append, List.set_cons_zero, List.set_cons_succ] at ho; subst ho
    refine TL.callV (vs := [_, _]) rfl (merge_gap (x := x) (i := i) (j := j) hFl.symm hIl.symm hn1 (by omega) hm1 hm2 (by omega) (by omega) (by omega) (by omega) hkept hX hf hi) ⟨rfl, rfl, trivial⟩ rfl rfl ?_
    rintro _ _ H3 ⟨fv2, iv2, rfl, rfl, hf2, hi2, hle3⟩
    have hL := Le.trans hL hle3
    have hB := rd.mono hle3 hB
    have hX := rd.mono hle3 hX
    have hfv := RdL.mono hle3 hfv
    have hps := rd.mono hle3 hps
    have hle0 := Le.trans hle0 hle3
    have hf := RdL.mono hle3 hf
    have hi := RdL.mono hle3 hi
    have hp := hAt.mono hle3 hp
    refine TL.nil ?_
    refine TQ.then_n ?_
    refine TC.drawCV 7  [(4, _), (5, _), (6, _), (7, _), (8, _), (22, _), (23, _), (24, _), (10, _)] follows_mixed ⟨rfl, rfl, rfl, rfl, rfl, rfl, rfl, rfl, rfl, trivial⟩ ?_
    refine ChainV.q (some 34) [] (by
     intro H' X F hle
     intro hF
     refine TL.indexArr (0) rfl rfl (by omega) (by omega) rfl ?_
     refine TL.nil ?_
     exact TQ.one [] hF (Le.refl _) ⟨rfl, rfl⟩) ?_
    refine ChainV.q (some 35) [(0, 0)] (by
     intro H' X F hle
     have hL := Le.trans hL hle
     have hB := rd.mono hle hB
     have hX := rd.mono hle hX
     have hfv := RdL.mono hle hfv
     have hps := rd.mono hle hps
     have hle0 := Le.trans hle0 hle
     have hf := RdL.mono hle hf
     have hi := RdL.mono hle hi
     have hp := hAt.mono hle hp
     have hf2 := RdL.mono hle hf2
     have hi2 := RdL.mono hle hi2
     intro hF
     refine TL.load_own 5 0 rfl rfl rfl rfl rfl ?_
     refine TL.nil ?_
     exact TQ.one [] hF (Le.refl _) ⟨rfl, rfl⟩) ?_
    refine ChainV.q (some 36) [(1, 0)] (by
     intro H' X F hle
     intro hF
     refine TL.add rfl rfl rfl ⟨by omega, by omega⟩ ?_
     refine TL.nil ?_
     exact TQ.one [] hF (Le.refl _) ⟨rfl, rfl⟩) ?_
    refine ChainV.q (some 37) [] (by
     intro H' X F hle
     intro hF
     refine TL.indexArr (1) rfl rfl (by omega) (by omega) rfl ?_
     refine TL.nil ?_
     exact TQ.one [] hF (Le.refl _) ⟨rfl, rfl⟩) ?_
    refine ChainV.q (some 38) [(3, 0)] (by
     intro H' X F hle
     have hL := Le.trans hL hle
     have hB := rd.mono hle hB
     have hX := rd.mono hle hX
     have hfv := RdL.mono hle hfv
     have hps := rd.mono hle hps
     have hle0 := Le.trans hle0 hle
     have hf := RdL.mono hle hf
     have hi := RdL.mono hle hi
     have hp := hAt.mono hle hp
     have hf2 := RdL.mono hle hf2
     have hi2 := RdL.mono hle hi2
     intro hF
     refine TL.load_own 5 0 rfl rfl rfl rfl rfl ?_
     refine TL.nil ?_
     exact TQ.one [] hF (Le.refl _) ⟨rfl, rfl⟩) ?_
    refine ChainV.q (some 39) [(4, 0)] (by
     intro H' X F hle
     intro hF
     refine TL.add rfl rfl rfl ⟨by omega, by omega⟩ ?_
     refine TL.nil ?_
     exact TQ.one [] hF (Le.refl _) ⟨rfl, rfl⟩) ?_
    refine ChainV.r none [(2, 3)] ([[(g6, .cells #[.int .i64 (i : Int)] 3 (0, 0))]]) (fun _ => fun u s H => s = [[(g6, .cells #[.int .i64 ((n : Int) + 1)] 3 (0, 0))]]) (by
     intro H' X F hle
     have hL := Le.trans hL hle
     have hB := rd.mono hle hB
     have hX := rd.mono hle hX
     have hfv := RdL.mono hle hfv
     have hps := rd.mono hle hps
     have hle0 := Le.trans hle0 hle
     have hf := RdL.mono hle hf
     have hi := RdL.mono hle hi
     have hp := hAt.mono hle hp
     have hf2 := RdL.mono hle hf2
     have hi2 := RdL.mono hle hi2
     intro hF
     refine TL.store1 0 0 (c' := #[_]) (own' := [(_, .cells #[_] _ _)] :: _) rfl rfl rfl rfl rfl (by simp) rfl rfl rfl ?_
     refine TL.nil ?_
     exact TQ.one [_] hF (Le.refl _) rfl) ?_
    refine ⟨by kernel_rfl, .refl _, ?_⟩
    ·
     intro H2 hle
     rintro _ _ Hs hles rfl
     have hL := Le.trans hL hle
     have hB := rd.mono hle hB
     have hX := rd.mono hle hX
     have hfv := RdL.mono hle hfv
     have hps := rd.mono hle hps
     have hle0 := Le.trans hle0 hle
     have hf := RdL.mono hle hf
     have hi := RdL.mono hle hi
     have hp := hAt.mono hle hp
     have hf2 := RdL.mono hle hf2
     have hi2 := RdL.mono hle hi2
     refine TL.toOwn (own' := _ :: _ :: _ :: _ :: _ :: _ :: _ :: _ :: own) rfl ?_
     refine TL.wk (env' := [(4, _), (5, _), (6, _), (7, _), (8, _), (22, _), (23, _), (24, _), (10, _), (39, _)]) ⟨rfl, rfl, rfl, rfl, rfl, rfl, rfl, rfl, rfl, rfl, trivial⟩ ?_
     refine TL.store1 2 0 (c' := #[_]) (own' := _ :: _ :: [(_, .cells #[_] _ _)] :: _) rfl rfl rfl rfl rfl (by simp) rfl rfl rfl ?_
     refine TL.nil ?_
     refine TQ.in_n ?_
     refine TQ.then_n ?_
     refine TC.region ?_
     refine TL.add rfl rfl rfl ⟨by omega, by omega⟩ ?_
     refine TL.move rfl rfl ?_
     refine TL.nil ?_
     refine TQ.sel 8 [0, 1, 2, 3, 4, 5, 7] rfl (fun o ho => ?_)
     simp only [K.sel, List.map_cons, List.map_nil, List.getD_cons_zero, List.getD_cons_succ, List.drop_succ_cons, List.drop_zero, List.cons_append, List.nil_append, List.set_cons_zero, List.set_cons_succ] at ho; subst ho
     refine TQ.next ((pairsP b x).length - (k + 1)) [(4, _), (5, _), (6, _), (7, _), (8, _), (22, _), (23, _), (24, _)] (by omega) ⟨rfl, rfl, rfl, rfl, rfl, rfl, rfl, rfl, trivial⟩ ⟨k + 1, n + 1, m + 1, _, _, fv2, iv2, rfl, by omega, hal, by rw [gapK_len]; exact hFl, by rw [gapI_len]; exact hIl, fun q h1 h2 => ?_, hord', hf2, hi2, by simp, by simp, hle0⟩
     rw [gapK_len] at h2
     rw [gapK_get x i j n m (n - i) F q (by omega)]
     exact hkept q (by omega) h2
   ·
    refine TL.nil ?_
    refine TQ.then_n ?_
    refine TC.seq ?_
    refine TC.cond_f rfl ?_
    refine TC.exit ?_
    refine TQ.then_e ?_
    refine TQ.then_e ?_
    refine TQ.in_e ?_
    refine TQ.then_n ?_
    refine TC.seq ?_
    have hkn : k = (pairsP b x).length := by omega
    rw [hkn, List.drop_length] at hal
    have hl1 := hf.len
    have hl2 := hi.len
    rw [Fate.ds_len] at hl1
    simp only [insD, List.length_map] at hl2
    refine TC.region ?_
    refine TL.load_ownA 1 0 [_, _] rfl rfl rfl ⟨rfl, rfl, trivial⟩ rfl rfl ?_
    refine TL.storeA 6 0 (c' := #[_, _]) (own' := _ :: _ :: _ :: _ :: _ :: _ :: [(_, .cells #[_, _] _ _)] :: _) rfl rfl rfl rfl rfl ⟨rfl, rfl, trivial⟩ (by simp) rfl rfl rfl ?_
    refine TL.nil ?_
    refine TQ.then_n ?_
    refine TC.ret ?_
    refine TQ.sel 7 [4, 0, 1, 2, 3, 5, 6] rfl (fun o ho => ?_)
    simp only [K.sel, List.map_cons, List.map_nil, List.getD_cons_zero, List.getD_cons_succ, List.drop_succ_cons, List.drop_zero, List.cons_append, List.nil_append, List.set_cons_zero, List.set_cons_succ] at ho; subst ho
    refine TQ.freeze (fun H3 hle hz_gk => ?_)
    have hL := Le.trans hL hle
    have hB := rd.mono hle hB
    have hX := rd.mono hle hX
    have hfv := RdL.mono hle hfv
    have hps := rd.mono hle hps
    have hle0 := Le.trans hle0 hle
    have hf := RdL.mono hle hf
    have hi := RdL.mono hle hi
    refine TQ.sel 6 [4, 0, 1, 2, 3, 5] rfl (fun o ho => ?_)
    simp only [K.sel, List.map_cons, List.map_nil, List.getD_cons_zero, List.getD_cons_succ, List.drop_succ_cons, List.drop_zero, List.cons_append, List.nil_append, List.set_cons_zero, List.set_cons_succ] at ho; subst ho
    refine TQ.freeze (fun H4 hle hz_gn => ?_)
    have hL := Le.trans hL hle
    have hB := rd.mono hle hB
    have hX := rd.mono hle hX
    have hfv := RdL.mono hle hfv
    have hps := rd.mono hle hps
    have hle0 := Le.trans hle0 hle
    have hf := RdL.mono hle hf
    have hi := RdL.mono hle hi
    have hz_gk := hz.mono hle hz_gk
    refine TQ.retC 4 0 5 [_, _] rfl rfl rfl rfl ⟨rfl, rfl, trivial⟩ rfl rfl ?_
    refine ⟨_, _, rfl, ?_, rfl, hL⟩
    rw [← hal]
    exact ⟨rd.ofRow (Row.lit 129 3 b.length gk fv.toArray (by simp; omega) (by omega)) hz_gk hf (Le.refl _), rd.ofRow (Row.lit 25 1 (b.length + 1) gn iv.toArray (by simp; omega) (by omega)) hz_gn hi (Le.refl _), trivial⟩

end Go.Proofs.Ytapmmfabdmhdnaa.K
