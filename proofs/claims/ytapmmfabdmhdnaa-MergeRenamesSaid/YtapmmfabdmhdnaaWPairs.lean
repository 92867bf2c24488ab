/-
  merge.pairs.
-/
import Derived.Test.YtapmmfabdmhdnaaDSame
set_option linter.unusedVariables false
set_option linter.unusedSimpArgs false
set_option maxHeartbeats 4000000
namespace Go.Proofs.Ytapmmfabdmhdnaa.K
open Go Go.RowKit Go.Proofs

theorem merge_pairs {b x : List Tr} (hbl : b.length ≤ 8192) (hxl : x.length ≤ 8192) {w0 : World} {H : Hp} {own : List Seg} {bv xv : Value} (hB : rd H (.s 2 (Tr.ds b)) bv) (hX : rd H (.s 2 (Tr.ds x)) xv) :
    Fn Try.prog 77 [bv, xv] w0 H own (fun v own' H' => rd H' (pairsD (pairsP b x)) v ∧ own' = own ∧ Le H H') := by
  obtain ⟨A, ca, rfl, ha1, ha2⟩ := trs_len hB
  obtain ⟨B, cb, rfl, hb1, hb2⟩ := trs_len hX
  refine Fn.enter Try.func77 rfl Try.ntmps77 rfl ?_
  have hL := Le.refl H
  refine TC.seq ?_
  refine TC.region ?_
  refine TL.assign rfl rfl ?_
  refine TL.nil ?_
  refine TQ.then_n ?_
  refine TC.seq ?_
  refine TC.region ?_
  refine TL.move rfl rfl ?_
  refine TL.len_slice rfl rfl ?_
  refine TL.add rfl rfl rfl ⟨by omega, by omega⟩ ?_
  refine TL.makeSlice (b.length + 1) rfl rfl (by omega) (by omega) (by omega) rfl ?_; intro g15
  refine TL.assign rfl rfl ?_
  refine TL.nil ?_
  refine TQ.then_n ?_
  refine TC.seq ?_
  refine TC.seq ?_
  refine TC.nilseg ?_
  refine TC.region ?_
  refine TL.move rfl rfl ?_
  refine TL.len_slice rfl rfl ?_
  refine TL.move rfl rfl ?_
  refine TL.nil ?_
  refine TQ.then_n ?_
  refine TC.block ?_
  refine TC.loop (fun n env' own' H' => ∃ gs : List Nat, n = b.length + 1 - gs.length ∧ gs.length ≤ b.length + 1 ∧ env' = [(0, .slice A b.length ca), (1, .slice B x.length cb), (5, .slice (some ⟨g15, 0, none⟩) (b.length + 1) (b.length + 1)), (17, .int .i64 ((b.length + 1 : Nat) : Int)), (18, .int .i64 (gs.length : Int))] ∧ own' = rowsFrom x.length (fun _ _ => 0) 0 gs :: [(g15, .cells (outL x.length gs ++ List.replicate (b.length + 1 - gs.length) (Value.slice none 0 0)).toArray 22 (0, 0))] :: own ∧ Le H H') (b.length + 1) [(0, _), (1, _), (5, _), (17, _), (18, _)] ⟨rfl, rfl, rfl, rfl, rfl, trivial⟩ ⟨[], by simp, by simp, rfl, by rw [made_out rfl]; rfl, Le.refl _⟩ ?_
  rintro n _ _ H1 ⟨gs, rfl, hk1, rfl, rfl, hle0⟩
  have hL := Le.trans hL hle0
  have hB := rd.mono hle0 hB
  have hX := rd.mono hle0 hX
  refine TC.seq ?_
  refine TC.region ?_
  refine TL.lssB rfl rfl rfl (fun hlt => ?_) (fun hlt => ?_)
  ·
   refine TL.nil ?_
   refine TQ.then_n ?_
   refine TC.seq ?_
   refine TC.cond_t rfl ?_
   refine TC.skip ?_
   refine TQ.then_n ?_
   refine TC.seq ?_
   refine TC.block ?_
   refine TC.seq ?_
   refine TC.region ?_
   refine TL.move rfl rfl ?_
   refine TL.assign rfl rfl ?_
   refine TL.nil ?_
   refine TQ.then_n ?_
   refine TC.region ?_
   refine TL.move rfl rfl ?_
   refine TL.move rfl rfl ?_
   refine TL.move rfl rfl ?_
   refine TL.len_slice rfl rfl ?_
   refine TL.add rfl rfl rfl ⟨by omega, by omega⟩ ?_
   refine TL.makeSlice (x.length + 1) rfl rfl (by omega) (by omega) (by omega) rfl ?_; intro g26
   refine TL.indexAddr (gs.length) rfl rfl rfl (by omega) rfl ?_
   refine TL.store1 2 0 (c' := _) (own' := _ :: _ :: _ :: _) rfl rfl rfl rfl rfl (by simp [outL]; omega) rfl rfl rfl ?_
   refine TL.nil ?_
   refine TQ.in_n ?_
   refine TQ.then_n ?_
   refine TC.region ?_
   refine TL.add rfl rfl rfl ⟨by omega, by omega⟩ ?_
   refine TL.move rfl rfl ?_
   refine TL.nil ?_
   refine TQ.flat join_perm ?_
   refine TQ.next (b.length + 1 - (gs.length + 1)) [(0, _), (1, _), (5, _), (17, _), (18, _)] (by omega) ⟨rfl, rfl, rfl, rfl, rfl, trivial⟩ ⟨gs ++ [g26], by simp, by simp; omega, by simp, ?_, hle0⟩
   rw [made_row rfl, out_snoc (by omega), rows_snoc]
   simp [Nat.sub_sub]
  ·
   refine TL.nil ?_
   refine TQ.then_n ?_
   refine TC.seq ?_
   refine TC.cond_f rfl ?_
   refine TC.exit ?_
   refine TQ.then_e ?_
   refine TQ.then_e ?_
   refine TQ.in_e ?_
   refine TQ.then_n ?_
   refine TC.seq ?_
   refine TC.seq ?_
   have hgs : gs.length = b.length + 1 := by omega
   refine TC.toOwn (own' := rowsFrom x.length (fun _ _ => 0) 0 gs :: [(g15, .cells (outL x.length gs).toArray 22 (0, 0))] :: own) (by rw [hgs]; simp) ?_
   refine TC.region ?_
   refine TL.move rfl rfl ?_
   refine TL.len_slice rfl rfl ?_
   refine TL.sub rfl rfl rfl ⟨by omega, by omega⟩ ?_
   refine TL.assign rfl rfl ?_
   refine TL.nil ?_
   refine TQ.then_n ?_
   refine TC.block ?_
   refine TC.loop (fun n env' own' H' => ∃ (k : Nat) (T : Nat → Nat → Int), k = n ∧ k ≤ b.length ∧ OkT b x T k (x.length + 1) ∧ (∀ i j, i + 1 ≤ k → T i j = 0) ∧ env' = [(0, .slice A b.length ca), (1, .slice B x.length cb), (5, .slice (some ⟨g15, 0, none⟩) (b.length + 1) (b.length + 1)), (7, .int .i64 ((k : Int) - 1))] ∧ own' = rowsFrom x.length T 0 gs :: [(g15, .cells (outL x.length gs).toArray 22 (0, 0))] :: own ∧ Le H1 H') b.length [(0, _), (1, _), (5, _), (7, _)] ⟨rfl, rfl, rfl, rfl, trivial⟩ ⟨b.length, fun _ _ => 0, rfl, Nat.le_refl _, OkT.init b x, fun _ _ _ => rfl, rfl, rfl, Le.refl _⟩ ?_
   rintro n _ _ H2 ⟨k, T, rfl, hk2, hok, hz, rfl, rfl, hle1⟩
   have hL := Le.trans hL hle1
   have hB := rd.mono hle1 hB
   have hX := rd.mono hle1 hX
   have hle0 := Le.trans hle0 hle1
   refine TC.seq ?_
   refine TC.seq ?_
   refine TC.region ?_
   refine TL.move rfl rfl ?_
   refine TL.geqB rfl rfl rfl (fun hk => ?_) (fun hk => ?_)
   ·
    refine TL.nil ?_
    refine TQ.then_n ?_
    refine TC.cond_t rfl ?_
    refine TC.skip ?_
    refine TQ.then_n ?_
    refine TC.seq ?_
    refine TC.block ?_
    refine TC.seq ?_
    refine TC.region ?_
    refine TL.move rfl rfl ?_
    refine TL.len_slice rfl rfl ?_
    refine TL.sub rfl rfl rfl ⟨by omega, by omega⟩ ?_
    refine TL.assign rfl rfl ?_
    refine TL.nil ?_
    refine TQ.then_n ?_
    refine TC.block ?_
    refine TC.loop (fun n env' own' H' => ∃ (q : Nat) (T2 : Nat → Nat → Int), q = n ∧ q ≤ x.length ∧ OkT b x T2 k q ∧ (∀ i j, i + 1 < k → T2 i j = 0) ∧ env' = [(0, .slice A b.length ca), (1, .slice B x.length cb), (5, .slice (some ⟨g15, 0, none⟩) (b.length + 1) (b.length + 1)), (7, .int .i64 ((k : Int) - 1)), (8, .int .i64 ((q : Int) - 1))] ∧ own' = rowsFrom x.length T2 0 gs :: [(g15, .cells (outL x.length gs).toArray 22 (0, 0))] :: own ∧ Le H2 H') x.length [(0, _), (1, _), (5, _), (7, _), (8, _)] ⟨rfl, rfl, rfl, rfl, rfl, trivial⟩ ⟨x.length, T, rfl, Nat.le_refl _, hok.enter hz, fun i j h => hz i j (by omega), rfl, rfl, Le.refl _⟩ ?_
    rintro n _ _ H3 ⟨q, T2, rfl, hq2, hok2, hz2, rfl, rfl, hle2⟩
    have hL := Le.trans hL hle2
    have hB := rd.mono hle2 hB
    have hX := rd.mono hle2 hX
    have hle0 := Le.trans hle0 hle2
    have hle1 := Le.trans hle1 hle2
    refine TC.seq ?_
    refine TC.seq ?_
    refine TC.region ?_
    refine TL.move rfl rfl ?_
    refine TL.geqB rfl rfl rfl (fun hq => ?_) (fun hq => ?_)
    ·
     obtain ⟨i, rfl⟩ : ∃ i, k = i + 1 := ⟨k - 1, by omega⟩
     obtain ⟨j, rfl⟩ : ∃ j, q = j + 1 := ⟨q - 1, by omega⟩
     obtain ⟨s, hs⟩ : ∃ s, b[i]? = some s := ⟨_, List.getElem?_eq_getElem (by omega)⟩
     obtain ⟨t, ht⟩ : ∃ t, x[j]? = some t := ⟨_, List.getElem?_eq_getElem (by omega)⟩
     obtain ⟨g0, hg0⟩ : ∃ g, gs[i]? = some g := ⟨_, List.getElem?_eq_getElem (by omega)⟩
     obtain ⟨g1, hg1⟩ : ∃ g, gs[i + 1]? = some g := ⟨_, List.getElem?_eq_getElem (by omega)⟩
     obtain ⟨b1, o1, p0, p1, rfl, hp, hpr⟩ := trs_at hB hs
     obtain ⟨b2, o2, q0, q1, rfl, hq', hqr⟩ := trs_at hX ht
     have e0 := hok2 (i + 1) (j + 1) (by omega) (by omega) (.inl (by omega))
     have e2 := lcs_le (b.drop (i + 1)) (x.drop (j + 1))
     simp only [List.length_drop] at e2
     refine TL.nil ?_
     refine TQ.then_n ?_
     refine TC.cond_t rfl ?_
     refine TC.skip ?_
     refine TQ.then_n ?_
     refine TC.seq ?_
     refine TC.block ?_
     refine TC.seq ?_
     refine TC.drawQV 22  [(0, _), (1, _), (5, _), (7, _), (8, _)] follows_mixed ⟨rfl, rfl, rfl, rfl, rfl, trivial⟩ ?_
     refine ChainV.q (some 43) [] (by
      intro H' X F hle
      intro hF
      refine TL.move rfl rfl ?_
      refine TL.nil ?_
      exact TQ.one [] hF (Le.refl _) ⟨rfl, rfl⟩) ?_
     refine ChainV.q (some 44) [] (by
      intro H' X F hle
      intro hF
      refine TL.move rfl rfl ?_
      refine TL.nil ?_
      exact TQ.one [] hF (Le.refl _) ⟨rfl, rfl⟩) ?_
     refine ChainV.q (some 45) [(0, 1), (1, 0)] (by
      intro H' X F hle
      intro hF
      refine TL.indexAddr (i) rfl rfl (by omega) (by omega) rfl ?_
      refine TL.nil ?_
      exact TQ.one [] hF (Le.refl _) ⟨rfl, rfl⟩) ?_
     refine ChainV.q (some 46) [(2, 0)] (by
      intro H' X F hle
      have hL := Le.trans hL hle
      have hB := rd.mono hle hB
      have hX := rd.mono hle hX
      have hle0 := Le.trans hle0 hle
      have hle1 := Le.trans hle1 hle
      have hle2 := Le.trans hle2 hle
      have hp := hAt.mono hle hp
      have hpr := RdL.mono hle hpr
      have hq' := hAt.mono hle hq'
      have hqr := RdL.mono hle hqr
      intro hF
      refine TL.load_own 1 0 rfl rfl rfl (outL_get0 hg0) rfl ?_
      refine TL.nil ?_
      exact TQ.one [] hF (Le.refl _) ⟨rfl, rfl⟩) ?_
     refine ChainV.q (some 47) [] (by
      intro H' X F hle
      intro hF
      refine TL.move rfl rfl ?_
      refine TL.nil ?_
      exact TQ.one [] hF (Le.refl _) ⟨rfl, rfl⟩) ?_
     refine ChainV.q (some 48) [] (by
      intro H' X F hle
      intro hF
      refine TL.move rfl rfl ?_
      refine TL.nil ?_
      exact TQ.one [] hF (Le.refl _) ⟨rfl, rfl⟩) ?_
     refine ChainV.q (some 49) [] (by
      intro H' X F hle
      intro hF
      refine TL.move rfl rfl ?_
      refine TL.nil ?_
      exact TQ.one [] hF (Le.refl _) ⟨rfl, rfl⟩) ?_
     refine ChainV.q (some 50) [(6, 0)] (by
      intro H' X F hle
      intro hF
      refine TL.add rfl rfl rfl ⟨by omega, by omega⟩ ?_
      refine TL.nil ?_
      exact TQ.one [] hF (Le.refl _) ⟨rfl, rfl⟩) ?_
     refine ChainV.q (some 51) [(5, 2), (7, 0)] (by
      intro H' X F hle
      intro hF
      refine TL.indexAddr (i + 1) rfl rfl (by omega) (by omega) rfl ?_
      refine TL.nil ?_
      exact TQ.one [] hF (Le.refl _) ⟨rfl, rfl⟩) ?_
     refine ChainV.q (some 52) [(8, 0)] (by
      intro H' X F hle
      have hL := Le.trans hL hle
      have hB := rd.mono hle hB
      have hX := rd.mono hle hX
      have hle0 := Le.trans hle0 hle
      have hle1 := Le.trans hle1 hle
      have hle2 := Le.trans hle2 hle
      have hp := hAt.mono hle hp
      have hpr := RdL.mono hle hpr
      have hq' := hAt.mono hle hq'
      have hqr := RdL.mono hle hqr
      intro hF
      refine TL.load_own 1 0 rfl rfl rfl (outL_get0 hg1) rfl ?_
      refine TL.nil ?_
      exact TQ.one [] hF (Le.refl _) ⟨rfl, rfl⟩) ?_
     refine ChainV.q (some 53) [] (by
      intro H' X F hle
      intro hF
      refine TL.move rfl rfl ?_
      refine TL.nil ?_
      exact TQ.one [] hF (Le.refl _) ⟨rfl, rfl⟩) ?_
     refine ChainV.q (some 54) [(9, 1), (10, 0)] (by
      intro H' X F hle
      intro hF
      refine TL.indexAddr (j) rfl rfl (by omega) (by omega) rfl ?_
      refine TL.nil ?_
      exact TQ.one [] hF (Le.refl _) ⟨rfl, rfl⟩) ?_
     refine ChainV.q (some 55) [(11, 0)] (by
      intro H' X F hle
      have hL := Le.trans hL hle
      have hB := rd.mono hle hB
      have hX := rd.mono hle hX
      have hle0 := Le.trans hle0 hle
      have hle1 := Le.trans hle1 hle
      have hle2 := Le.trans hle2 hle
      have hp := hAt.mono hle hp
      have hpr := RdL.mono hle hpr
      have hq' := hAt.mono hle hq'
      have hqr := RdL.mono hle hqr
      intro hF
      refine TL.load_own 0 (i + 1) rfl rfl (rows_get0 hg1) (rowC_get (by omega)) rfl ?_
      refine TL.nil ?_
      exact TQ.one [] hF (Le.refl _) ⟨rfl, rfl⟩) ?_
     refine ChainV.q (some 56) [] (by
      intro H' X F hle
      intro hF
      refine TL.move rfl rfl ?_
      refine TL.nil ?_
      exact TQ.one [] hF (Le.refl _) ⟨rfl, rfl⟩) ?_
     refine ChainV.q (some 57) [] (by
      intro H' X F hle
      intro hF
      refine TL.move rfl rfl ?_
      refine TL.nil ?_
      exact TQ.one [] hF (Le.refl _) ⟨rfl, rfl⟩) ?_
     refine ChainV.q (some 58) [(13, 1), (14, 0)] (by
      intro H' X F hle
      intro hF
      refine TL.indexAddr (i) rfl rfl (by omega) (by omega) rfl ?_
      refine TL.nil ?_
      exact TQ.one [] hF (Le.refl _) ⟨rfl, rfl⟩) ?_
     refine ChainV.q (some 59) [(15, 0)] (by
      intro H' X F hle
      have hL := Le.trans hL hle
      have hB := rd.mono hle hB
      have hX := rd.mono hle hX
      have hle0 := Le.trans hle0 hle
      have hle1 := Le.trans hle1 hle
      have hle2 := Le.trans hle2 hle
      have hp := hAt.mono hle hp
      have hpr := RdL.mono hle hpr
      have hq' := hAt.mono hle hq'
      have hqr := RdL.mono hle hqr
      intro hF
      refine TL.load_own 1 0 rfl rfl rfl (outL_get0 hg0) rfl ?_
      refine TL.nil ?_
      exact TQ.one [] hF (Le.refl _) ⟨rfl, rfl⟩) ?_
     refine ChainV.q (some 60) [] (by
      intro H' X F hle
      intro hF
      refine TL.move rfl rfl ?_
      refine TL.nil ?_
      exact TQ.one [] hF (Le.refl _) ⟨rfl, rfl⟩) ?_
     refine ChainV.q (some 61) [(17, 0)] (by
      intro H' X F hle
      intro hF
      refine TL.add rfl rfl rfl ⟨by omega, by omega⟩ ?_
      refine TL.nil ?_
      exact TQ.one [] hF (Le.refl _) ⟨rfl, rfl⟩) ?_
     refine ChainV.q (some 62) [(16, 2), (18, 0)] (by
      intro H' X F hle
      intro hF
      refine TL.indexAddr (j + 1) rfl rfl (by omega) (by omega) rfl ?_
      refine TL.nil ?_
      exact TQ.one [] hF (Le.refl _) ⟨rfl, rfl⟩) ?_
     refine ChainV.q (some 63) [(19, 0)] (by
      intro H' X F hle
      have hL := Le.trans hL hle
      have hB := rd.mono hle hB
      have hX := rd.mono hle hX
      have hle0 := Le.trans hle0 hle
      have hle1 := Le.trans hle1 hle
      have hle2 := Le.trans hle2 hle
      have hp := hAt.mono hle hp
      have hpr := RdL.mono hle hpr
      have hq' := hAt.mono hle hq'
      have hqr := RdL.mono hle hqr
      intro hF
      refine TL.load_own 0 i rfl rfl (rows_get0 hg0) (rowC_get (by omega)) rfl ?_
      refine TL.nil ?_
      exact TQ.one [] hF (Le.refl _) ⟨rfl, rfl⟩) ?_
     refine ChainV.q (some 64) [(12, 8), (20, 0)] (by
      intro H' X F hle
      have hL := Le.trans hL hle
      have hB := rd.mono hle hB
      have hX := rd.mono hle hX
      have hle0 := Le.trans hle0 hle
      have hle1 := Le.trans hle1 hle
      have hle2 := Le.trans hle2 hle
      have hp := hAt.mono hle hp
      have hpr := RdL.mono hle hpr
      have hq' := hAt.mono hle hq'
      have hqr := RdL.mono hle hqr
      intro hF
      refine TL.max2 rfl rfl rfl ?_
      refine TL.nil ?_
      exact TQ.one [] hF (Le.refl _) ⟨rfl, rfl⟩) ?_
     refine ⟨by kernel_rfl, .refl _, ?_⟩
     ·
      intro H1 hle
      have hL := Le.trans hL hle
      have hB := rd.mono hle hB
      have hX := rd.mono hle hX
      have hle0 := Le.trans hle0 hle
      have hle1 := Le.trans hle1 hle
      have hle2 := Le.trans hle2 hle
      have hp := hAt.mono hle hp
      have hpr := RdL.mono hle hpr
      have hq' := hAt.mono hle hq'
      have hqr := RdL.mono hle hqr
      refine TL.toOwn (own' := _ :: _ :: own) rfl ?_
      refine TL.wk (env' := [(0, _), (1, _), (5, _), (7, _), (8, _), (46, _), (47, _), (64, _)]) ⟨rfl, rfl, rfl, rfl, rfl, rfl, rfl, rfl, trivial⟩ ?_
      refine TL.indexAddr (j) rfl rfl (by omega) (by omega) rfl ?_
      refine TL.store1 0 i (c' := _) (own' := rowsFrom x.length (upd T2 i j (max (T2 (i + 1) j) (T2 i (j + 1)))) 0 gs :: _) rfl rfl rfl (rows_get0 hg0) rfl (by rw [rowC_size]; omega) rfl (congrArg (fun s => s :: _) (rows_set0 (by omega) hg0)) rfl ?_
      refine TL.nil ?_
      refine TQ.then_n ?_
      refine TC.seq ?_
      refine TC.drawQV 8  [(0, _), (1, _), (5, _), (7, _), (8, _)] follows_mixed ⟨rfl, rfl, rfl, rfl, rfl, trivial⟩ ?_
      refine ChainV.q (some 66) [] (by
       intro H' X F hle
       intro hF
       refine TL.move rfl rfl ?_
       refine TL.nil ?_
       exact TQ.one [] hF (Le.refl _) ⟨rfl, rfl⟩) ?_
      refine ChainV.q (some 67) [] (by
       intro H' X F hle
       intro hF
       refine TL.move rfl rfl ?_
       refine TL.nil ?_
       exact TQ.one [] hF (Le.refl _) ⟨rfl, rfl⟩) ?_
      refine ChainV.q (some 68) [(0, 1), (1, 0)] (by
       intro H' X F hle
       intro hF
       refine TL.indexAddr (i) rfl rfl (by omega) (by omega) rfl ?_
       refine TL.nil ?_
       exact TQ.one [] hF (Le.refl _) ⟨rfl, rfl⟩) ?_
      refine ChainV.q (some 69) [(2, 0)] (by
       intro H' X F hle
       have hL := Le.trans hL hle
       have hB := rd.mono hle hB
       have hX := rd.mono hle hX
       have hle0 := Le.trans hle0 hle
       have hle1 := Le.trans hle1 hle
       have hle2 := Le.trans hle2 hle
       have hp := hAt.mono hle hp
       have hpr := RdL.mono hle hpr
       have hq' := hAt.mono hle hq'
       have hqr := RdL.mono hle hqr
       intro hF
       refine TL.load_immA rfl (hp) rfl rfl ?_
       refine TL.nil ?_
       exact TQ.one [] hF (Le.refl _) ⟨rfl, rfl⟩) ?_
      refine ChainV.q (some 70) [] (by
       intro H' X F hle
       intro hF
       refine TL.move rfl rfl ?_
       refine TL.nil ?_
       exact TQ.one [] hF (Le.refl _) ⟨rfl, rfl⟩) ?_
      refine ChainV.q (some 71) [] (by
       intro H' X F hle
       intro hF
       refine TL.move rfl rfl ?_
       refine TL.nil ?_
       exact TQ.one [] hF (Le.refl _) ⟨rfl, rfl⟩) ?_
      refine ChainV.q (some 72) [(4, 1), (5, 0)] (by
       intro H' X F hle
       intro hF
       refine TL.indexAddr (j) rfl rfl (by omega) (by omega) rfl ?_
       refine TL.nil ?_
       exact TQ.one [] hF (Le.refl _) ⟨rfl, rfl⟩) ?_
      refine ChainV.q (some 73) [(6, 0)] (by
       intro H' X F hle
       have hL := Le.trans hL hle
       have hB := rd.mono hle hB
       have hX := rd.mono hle hX
       have hle0 := Le.trans hle0 hle
       have hle1 := Le.trans hle1 hle
       have hle2 := Le.trans hle2 hle
       have hp := hAt.mono hle hp
       have hpr := RdL.mono hle hpr
       have hq' := hAt.mono hle hq'
       have hqr := RdL.mono hle hqr
       intro hF
       refine TL.load_immA rfl (hq') rfl rfl ?_
       refine TL.nil ?_
       exact TQ.one [] hF (Le.refl _) ⟨rfl, rfl⟩) ?_
      refine ⟨by kernel_rfl, .refl _, ?_⟩
      ·
       intro H2 hle
       have hL := Le.trans hL hle
       have hB := rd.mono hle hB
       have hX := rd.mono hle hX
       have hle0 := Le.trans hle0 hle
       have hle1 := Le.trans hle1 hle
       have hle2 := Le.trans hle2 hle
       have hp := hAt.mono hle hp
       have hpr := RdL.mono hle hpr
       have hq' := hAt.mono hle hq'
       have hqr := RdL.mono hle hqr
       refine TL.toOwn (own' := _ :: _ :: own) rfl ?_
       refine TL.wk (env' := [(0, _), (1, _), (5, _), (7, _), (8, _), (69, _), (73, _)]) ⟨rfl, rfl, rfl, rfl, rfl, rfl, rfl, trivial⟩ ?_
       refine TL.call (dsame s t hpr hqr) ⟨rfl, rfl, trivial⟩ rfl ?_
       rintro _ _ H4 ⟨rfl, rfl, hle4⟩
       have hL := Le.trans hL hle4
       have hB := rd.mono hle4 hB
       have hX := rd.mono hle4 hX
       have hle0 := Le.trans hle0 hle4
       have hle1 := Le.trans hle1 hle4
       have hle2 := Le.trans hle2 hle4
       have hp := hAt.mono hle4 hp
       have hpr := RdL.mono hle4 hpr
       have hq' := hAt.mono hle4 hq'
       have hqr := RdL.mono hle4 hqr
       refine TL.nil ?_
       refine TQ.then_n ?_
       refine TC.cond rfl (fun hsame => ?_) (fun hsame => ?_)
       ·
        replace hsame : s = t := (Tr.eqb_iff s t).1 (by simpa using hsame)
        have e1 : upd T2 i j (max (T2 (i + 1) j) (T2 i (j + 1))) (i + 1) (j + 1) = T2 (i + 1) (j + 1) := upd_ne _ _ (by omega)
        refine TC.drawQV 15  [(0, _), (1, _), (5, _), (7, _), (8, _)] follows_mixed ⟨rfl, rfl, rfl, rfl, rfl, trivial⟩ ?_
        refine ChainV.q (some 75) [] (by
         intro H' X F hle
         intro hF
         refine TL.move rfl rfl ?_
         refine TL.nil ?_
         exact TQ.one [] hF (Le.refl _) ⟨rfl, rfl⟩) ?_
        refine ChainV.q (some 76) [] (by
         intro H' X F hle
         intro hF
         refine TL.move rfl rfl ?_
         refine TL.nil ?_
         exact TQ.one [] hF (Le.refl _) ⟨rfl, rfl⟩) ?_
        refine ChainV.q (some 77) [(0, 1), (1, 0)] (by
         intro H' X F hle
         intro hF
         refine TL.indexAddr (i) rfl rfl (by omega) (by omega) rfl ?_
         refine TL.nil ?_
         exact TQ.one [] hF (Le.refl _) ⟨rfl, rfl⟩) ?_
        refine ChainV.q (some 78) [(2, 0)] (by
         intro H' X F hle
         have hL := Le.trans hL hle
         have hB := rd.mono hle hB
         have hX := rd.mono hle hX
         have hle0 := Le.trans hle0 hle
         have hle1 := Le.trans hle1 hle
         have hle2 := Le.trans hle2 hle
         have hp := hAt.mono hle hp
         have hpr := RdL.mono hle hpr
         have hq' := hAt.mono hle hq'
         have hqr := RdL.mono hle hqr
         intro hF
         refine TL.load_own 1 0 rfl rfl rfl (outL_get0 hg0) rfl ?_
         refine TL.nil ?_
         exact TQ.one [] hF (Le.refl _) ⟨rfl, rfl⟩) ?_
        refine ChainV.q (some 79) [] (by
         intro H' X F hle
         intro hF
         refine TL.move rfl rfl ?_
         refine TL.nil ?_
         exact TQ.one [] hF (Le.refl _) ⟨rfl, rfl⟩) ?_
        refine ChainV.q (some 80) [] (by
         intro H' X F hle
         intro hF
         refine TL.move rfl rfl ?_
         refine TL.nil ?_
         exact TQ.one [] hF (Le.refl _) ⟨rfl, rfl⟩) ?_
        refine ChainV.q (some 81) [] (by
         intro H' X F hle
         intro hF
         refine TL.move rfl rfl ?_
         refine TL.nil ?_
         exact TQ.one [] hF (Le.refl _) ⟨rfl, rfl⟩) ?_
        refine ChainV.q (some 82) [(6, 0)] (by
         intro H' X F hle
         intro hF
         refine TL.add rfl rfl rfl ⟨by omega, by omega⟩ ?_
         refine TL.nil ?_
         exact TQ.one [] hF (Le.refl _) ⟨rfl, rfl⟩) ?_
        refine ChainV.q (some 83) [(5, 2), (7, 0)] (by
         intro H' X F hle
         intro hF
         refine TL.indexAddr (i + 1) rfl rfl (by omega) (by omega) rfl ?_
         refine TL.nil ?_
         exact TQ.one [] hF (Le.refl _) ⟨rfl, rfl⟩) ?_
        refine ChainV.q (some 84) [(8, 0)] (by
         intro H' X F hle
         have hL := Le.trans hL hle
         have hB := rd.mono hle hB
         have hX := rd.mono hle hX
         have hle0 := Le.trans hle0 hle
         have hle1 := Le.trans hle1 hle
         have hle2 := Le.trans hle2 hle
         have hp := hAt.mono hle hp
         have hpr := RdL.mono hle hpr
         have hq' := hAt.mono hle hq'
         have hqr := RdL.mono hle hqr
         intro hF
         refine TL.load_own 1 0 rfl rfl rfl (outL_get0 hg1) rfl ?_
         refine TL.nil ?_
         exact TQ.one [] hF (Le.refl _) ⟨rfl, rfl⟩) ?_
        refine ChainV.q (some 85) [] (by
         intro H' X F hle
         intro hF
         refine TL.move rfl rfl ?_
         refine TL.nil ?_
         exact TQ.one [] hF (Le.refl _) ⟨rfl, rfl⟩) ?_
        refine ChainV.q (some 86) [(10, 0)] (by
         intro H' X F hle
         intro hF
         refine TL.add rfl rfl rfl ⟨by omega, by omega⟩ ?_
         refine TL.nil ?_
         exact TQ.one [] hF (Le.refl _) ⟨rfl, rfl⟩) ?_
        refine ChainV.q (some 87) [(9, 2), (11, 0)] (by
         intro H' X F hle
         intro hF
         refine TL.indexAddr (j + 1) rfl rfl (by omega) (by omega) rfl ?_
         refine TL.nil ?_
         exact TQ.one [] hF (Le.refl _) ⟨rfl, rfl⟩) ?_
        refine ChainV.q (some 88) [(12, 0)] (by
         intro H' X F hle
         have hL := Le.trans hL hle
         have hB := rd.mono hle hB
         have hX := rd.mono hle hX
         have hle0 := Le.trans hle0 hle
         have hle1 := Le.trans hle1 hle
         have hle2 := Le.trans hle2 hle
         have hp := hAt.mono hle hp
         have hpr := RdL.mono hle hpr
         have hq' := hAt.mono hle hq'
         have hqr := RdL.mono hle hqr
         intro hF
         refine TL.load_own 0 (i + 1) rfl rfl (rows_get0 hg1) (rowC_get (by omega)) rfl ?_
         refine TL.nil ?_
         exact TQ.one [] hF (Le.refl _) ⟨rfl, rfl⟩) ?_
        refine ChainV.q (some 89) [(13, 0)] (by
         intro H' X F hle
         intro hF
         refine TL.add rfl rfl rfl ⟨by omega, by omega⟩ ?_
         refine TL.nil ?_
         exact TQ.one [] hF (Le.refl _) ⟨rfl, rfl⟩) ?_
        refine ⟨by kernel_rfl, .refl _, ?_⟩
        ·
         intro H4 hle
         have hL := Le.trans hL hle
         have hB := rd.mono hle hB
         have hX := rd.mono hle hX
         have hle0 := Le.trans hle0 hle
         have hle1 := Le.trans hle1 hle
         have hle2 := Le.trans hle2 hle
         have hp := hAt.mono hle hp
         have hpr := RdL.mono hle hpr
         have hq' := hAt.mono hle hq'
         have hqr := RdL.mono hle hqr
         refine TL.toOwn (own' := _ :: _ :: own) rfl ?_
         refine TL.wk (env' := [(0, _), (1, _), (5, _), (7, _), (8, _), (78, _), (79, _), (89, _)]) ⟨rfl, rfl, rfl, rfl, rfl, rfl, rfl, rfl, trivial⟩ ?_
         refine TL.indexAddr (j) rfl rfl (by omega) (by omega) rfl ?_
         refine TL.store1 0 i (c' := _) (own' := rowsFrom x.length (upd (upd T2 i j (max (T2 (i + 1) j) (T2 i (j + 1)))) i j (upd T2 i j (max (T2 (i + 1) j) (T2 i (j + 1))) (i + 1) (j + 1) + 1)) 0 gs :: _) rfl rfl rfl (rows_get0 hg0) rfl (by rw [rowC_size]; omega) rfl (congrArg (fun s => s :: _) (rows_set0 (by omega) hg0)) rfl ?_
         refine TL.nil ?_
         refine TQ.in_n ?_
         refine TQ.then_n ?_
         refine TC.region ?_
         refine TL.move rfl rfl ?_
         refine TL.sub rfl rfl rfl ⟨by omega, by omega⟩ ?_
         refine TL.assign rfl rfl ?_
         refine TL.nil ?_
         first
           | refine TQ.next j [(0, _), (1, _), (5, _), (7, _), (8, _)] (by omega) ⟨rfl, rfl, rfl, rfl, rfl, trivial⟩ ⟨j, upd T2 i j (T2 (i + 1) (j + 1) + 1), rfl, by omega, hok2.step hs ht (by rw [if_pos hsame]), fun i' j' h => by rw [upd_ne _ _ (by omega)]; exact hz2 i' j' h, by rw [show (((j + 1 : Nat) : Int) - 1 - 1) = (j : Int) - 1 by omega], by rw [upd_upd, e1], hle2⟩
           | refine TQ.next j [(0, _), (1, _), (5, _), (7, _), (8, _)] (by omega) ⟨rfl, rfl, rfl, rfl, rfl, trivial⟩ ⟨j, upd T2 i j (max (T2 (i + 1) j) (T2 i (j + 1))), rfl, by omega, hok2.step hs ht (by rw [if_neg hsame]), fun i' j' h => by rw [upd_ne _ _ (by omega)]; exact hz2 i' j' h, by rw [show (((j + 1 : Nat) : Int) - 1 - 1) = (j : Int) - 1 by omega], rfl, hle2⟩
       ·
        replace hsame : s ≠ t := fun h => by rw [Tr.eqb_eq] at hsame; simp [h] at hsame
        refine TC.skip ?_
        refine TQ.in_n ?_
        refine TQ.then_n ?_
        refine TC.region ?_
        refine TL.move rfl rfl ?_
        refine TL.sub rfl rfl rfl ⟨by omega, by omega⟩ ?_
        refine TL.assign rfl rfl ?_
        refine TL.nil ?_
        first
          | refine TQ.next j [(0, _), (1, _), (5, _), (7, _), (8, _)] (by omega) ⟨rfl, rfl, rfl, rfl, rfl, trivial⟩ ⟨j, upd T2 i j (T2 (i + 1) (j + 1) + 1), rfl, by omega, hok2.step hs ht (by rw [if_pos hsame]), fun i' j' h => by rw [upd_ne _ _ (by omega)]; exact hz2 i' j' h, by rw [show (((j + 1 : Nat) : Int) - 1 - 1) = (j : Int) - 1 by omega], by rw [upd_upd, e1], hle2⟩
          | refine TQ.next j [(0, _), (1, _), (5, _), (7, _), (8, _)] (by omega) ⟨rfl, rfl, rfl, rfl, rfl, trivial⟩ ⟨j, upd T2 i j (max (T2 (i + 1) j) (T2 i (j + 1))), rfl, by omega, hok2.step hs ht (by rw [if_neg hsame]), fun i' j' h => by rw [upd_ne _ _ (by omega)]; exact hz2 i' j' h, by rw [show (((j + 1 : Nat) : Int) - 1 - 1) = (j : Int) - 1 by omega], rfl, hle2⟩
    ·
     refine TL.nil ?_
     refine TQ.then_n ?_
     refine TC.cond_f rfl ?_
     refine TC.exit ?_
     refine TQ.then_e ?_
     refine TQ.then_e ?_
     refine TQ.in_e ?_
     refine TQ.in_n ?_
     refine TQ.then_n ?_
     have hq0 : q = 0 := by omega
     subst hq0
     refine TC.region ?_
     refine TL.move rfl rfl ?_
     refine TL.sub rfl rfl rfl ⟨by omega, by omega⟩ ?_
     refine TL.assign rfl rfl ?_
     refine TL.nil ?_
     refine TQ.next (k - 1) [(0, _), (1, _), (5, _), (7, _)] (by omega) ⟨rfl, rfl, rfl, rfl, trivial⟩ ⟨k - 1, T2, rfl, by omega, hok2.leave (by omega), fun i j h => hz2 i j (by omega), by rw [show ((k - 1 : Nat) : Int) - 1 = (k : Int) - 1 - 1 by omega], rfl, hle1⟩
   ·
    refine TL.nil ?_
    refine TQ.then_n ?_
    refine TC.cond_f rfl ?_
    refine TC.exit ?_
    refine TQ.then_e ?_
    refine TQ.then_e ?_
    refine TQ.in_e ?_
    refine TQ.then_n ?_
    refine TC.seq ?_
    have hk0 : k = 0 := by omega
    subst hk0
    refine TC.region ?_
    refine TL.assign rfl rfl ?_
    refine TL.nil ?_
    refine TQ.then_n ?_
    refine TC.seq ?_
    refine TC.seq ?_
    refine TC.nilseg ?_
    refine TC.region ?_
    refine TL.assign rfl rfl ?_
    refine TL.assign rfl rfl ?_
    refine TL.nil ?_
    refine TQ.then_n ?_
    refine TC.block ?_
    refine TC.loop (fun n env' own' H' => ∃ (i j : Nat) (u : Value) (out : List (Nat × Nat)) (seg : Seg), n = (b.length - i) + (x.length - j) ∧ i ≤ b.length ∧ j ≤ x.length ∧ Row 154 2 u out.length (pairsV out) seg ∧ PwAt b x out i j ∧ env' = [(0, .slice A b.length ca), (1, .slice B x.length cb), (5, .slice (some ⟨g15, 0, none⟩) (b.length + 1) (b.length + 1)), (9, u), (10, .int .i64 (i : Int)), (11, .int .i64 (j : Int))] ∧ own' = seg :: rowsFrom x.length T 0 gs :: [(g15, .cells (outL x.length gs).toArray 22 (0, 0))] :: own ∧ Le H2 H') (b.length + x.length) [(0, _), (1, _), (5, _), (9, _), (10, _), (11, _)] ⟨rfl, rfl, rfl, rfl, rfl, rfl, trivial⟩ ⟨0, 0, _, [], [], by omega, by omega, by omega, Row.nil 154 2, PwAt.init b x, rfl, rfl, Le.refl _⟩ ?_
    rintro n _ _ H5 ⟨i, j, u, out, seg, rfl, hi1, hj1, hrow, hpw, rfl, rfl, hle5⟩
    have hol := hpw.len
    have hL := Le.trans hL hle5
    have hB := rd.mono hle5 hB
    have hX := rd.mono hle5 hX
    have hle0 := Le.trans hle0 hle5
    have hle1 := Le.trans hle1 hle5
    refine TC.seq ?_
    refine TC.seq ?_
    refine TC.region ?_
    refine TL.move rfl rfl ?_
    refine TL.move rfl rfl ?_
    refine TL.len_slice rfl rfl ?_
    refine TL.lssB rfl rfl rfl (fun hi => ?_) (fun hi => ?_)
    ·
     refine TL.move rfl rfl ?_
     refine TL.gyes rfl rfl rfl ?_
     refine TL.move rfl rfl ?_
     refine TL.gyes rfl rfl rfl ?_
     refine TL.move rfl rfl ?_
     refine TL.gyes rfl rfl rfl ?_
     refine TL.len_slice rfl rfl ?_
     refine TL.gyes rfl rfl rfl ?_
     refine TL.lssB rfl rfl rfl (fun hj => ?_) (fun hj => ?_)
     ·
      obtain ⟨s, hs⟩ : ∃ s, b[i]? = some s := ⟨_, List.getElem?_eq_getElem (by omega)⟩
      obtain ⟨t, ht⟩ : ∃ t, x[j]? = some t := ⟨_, List.getElem?_eq_getElem (by omega)⟩
      obtain ⟨g0, hg0⟩ : ∃ g, gs[i]? = some g := ⟨_, List.getElem?_eq_getElem (by omega)⟩
      obtain ⟨g1, hg1⟩ : ∃ g, gs[i + 1]? = some g := ⟨_, List.getElem?_eq_getElem (by omega)⟩
      obtain ⟨b1, o1, p0, p1, rfl, hp, hpr⟩ := trs_at hB hs
      obtain ⟨b2, o2, q0, q1, rfl, hq', hqr⟩ := trs_at hX ht
      have e0 := hok (i + 1) j (by omega) (by omega) (.inl (by omega))
      have e1 := hok i (j + 1) (by omega) (by omega) (.inl (by omega))
      refine TL.pickT rfl rfl rfl rfl ?_
      refine TL.nil ?_
      refine TQ.then_n ?_
      refine TC.cond_t rfl ?_
      refine TC.skip ?_
      refine TQ.then_n ?_
      refine TC.block ?_
      refine TC.block ?_
      refine TC.seq ?_
      refine TC.drawQV 8  [(0, _), (1, _), (5, _), (9, _), (10, _), (11, _)] follows_mixed ⟨rfl, rfl, rfl, rfl, rfl, rfl, trivial⟩ ?_
      refine ChainV.q (some 104) [] (by
       intro H' X F hle
       intro hF
       refine TL.move rfl rfl ?_
       refine TL.nil ?_
       exact TQ.one [] hF (Le.refl _) ⟨rfl, rfl⟩) ?_
      refine ChainV.q (some 105) [] (by
       intro H' X F hle
       intro hF
       refine TL.move rfl rfl ?_
       refine TL.nil ?_
       exact TQ.one [] hF (Le.refl _) ⟨rfl, rfl⟩) ?_
      refine ChainV.q (some 106) [(0, 1), (1, 0)] (by
       intro H' X F hle
       intro hF
       refine TL.indexAddr (i) rfl rfl rfl (by omega) rfl ?_
       refine TL.nil ?_
       exact TQ.one [] hF (Le.refl _) ⟨rfl, rfl⟩) ?_
      refine ChainV.q (some 107) [(2, 0)] (by
       intro H' X F hle
       have hL := Le.trans hL hle
       have hB := rd.mono hle hB
       have hX := rd.mono hle hX
       have hle0 := Le.trans hle0 hle
       have hle1 := Le.trans hle1 hle
       have hle5 := Le.trans hle5 hle
       have hp := hAt.mono hle hp
       have hpr := RdL.mono hle hpr
       have hq' := hAt.mono hle hq'
       have hqr := RdL.mono hle hqr
       intro hF
       refine TL.load_immA rfl (hp) rfl rfl ?_
       refine TL.nil ?_
       exact TQ.one [] hF (Le.refl _) ⟨rfl, rfl⟩) ?_
      refine ChainV.q (some 108) [] (by
       intro H' X F hle
       intro hF
       refine TL.move rfl rfl ?_
       refine TL.nil ?_
       exact TQ.one [] hF (Le.refl _) ⟨rfl, rfl⟩) ?_
      refine ChainV.q (some 109) [] (by
       intro H' X F hle
       intro hF
       refine TL.move rfl rfl ?_
       refine TL.nil ?_
       exact TQ.one [] hF (Le.refl _) ⟨rfl, rfl⟩) ?_
      refine ChainV.q (some 110) [(4, 1), (5, 0)] (by
       intro H' X F hle
       intro hF
       refine TL.indexAddr (j) rfl rfl rfl (by omega) rfl ?_
       refine TL.nil ?_
       exact TQ.one [] hF (Le.refl _) ⟨rfl, rfl⟩) ?_
      refine ChainV.q (some 111) [(6, 0)] (by
       intro H' X F hle
       have hL := Le.trans hL hle
       have hB := rd.mono hle hB
       have hX := rd.mono hle hX
       have hle0 := Le.trans hle0 hle
       have hle1 := Le.trans hle1 hle
       have hle5 := Le.trans hle5 hle
       have hp := hAt.mono hle hp
       have hpr := RdL.mono hle hpr
       have hq' := hAt.mono hle hq'
       have hqr := RdL.mono hle hqr
       intro hF
       refine TL.load_immA rfl (hq') rfl rfl ?_
       refine TL.nil ?_
       exact TQ.one [] hF (Le.refl _) ⟨rfl, rfl⟩) ?_
      refine ⟨by kernel_rfl, .refl _, ?_⟩
      ·
       intro H5 hle
       have hL := Le.trans hL hle
       have hB := rd.mono hle hB
       have hX := rd.mono hle hX
       have hle0 := Le.trans hle0 hle
       have hle1 := Le.trans hle1 hle
       have hle5 := Le.trans hle5 hle
       have hp := hAt.mono hle hp
       have hpr := RdL.mono hle hpr
       have hq' := hAt.mono hle hq'
       have hqr := RdL.mono hle hqr
       refine TL.toOwn (own' := _ :: _ :: _ :: own) rfl ?_
       refine TL.wk (env' := [(0, _), (1, _), (5, _), (9, _), (10, _), (11, _), (107, _), (111, _)]) ⟨rfl, rfl, rfl, rfl, rfl, rfl, rfl, rfl, trivial⟩ ?_
       refine TL.call (dsame s t hpr hqr) ⟨rfl, rfl, trivial⟩ rfl ?_
       rintro _ _ H6 ⟨rfl, rfl, hle6⟩
       have hL := Le.trans hL hle6
       have hB := rd.mono hle6 hB
       have hX := rd.mono hle6 hX
       have hle0 := Le.trans hle0 hle6
       have hle1 := Le.trans hle1 hle6
       have hle5 := Le.trans hle5 hle6
       have hp := hAt.mono hle6 hp
       have hpr := RdL.mono hle6 hpr
       have hq' := hAt.mono hle6 hq'
       have hqr := RdL.mono hle6 hqr
       refine TL.assign rfl rfl ?_
       refine TL.nil ?_
       refine TQ.then_n ?_
       refine TC.cond rfl (fun hsame => ?_) (fun hsame => ?_)
       ·
        replace hsame : s = t := (Tr.eqb_iff s t).1 (by simpa using hsame)
        refine TC.seq ?_
        refine TC.region ?_
        refine TL.move rfl rfl ?_
        refine TL.move rfl rfl ?_
        refine TL.move rfl rfl ?_
        refine TL.array [(0, [_]), (1, [_])] ⟨rfl, ⟨_, rfl, rfl⟩, rfl, ⟨_, rfl, rfl⟩, trivial⟩ rfl rfl ?_
        refine TL.litF (r := [_, _]) [(0, [_, _])] ⟨rfl, ⟨_, rfl, rfl⟩, trivial⟩ rfl rfl rfl rfl ?_; intro g117
        refine TL.append 1 rfl rfl rfl hrow (Src.ofOwn 0 0 rfl rfl rfl (Ones.all (show Ones [_, _] from ⟨by rfl, by rfl, trivial⟩)) ⟨rfl, rfl, trivial⟩) (by omega) (by omega) rfl ?_
        intro v' seg' hrow'
        refine TL.assign rfl rfl ?_
        refine TL.nil ?_
        refine TQ.then_n ?_
        refine TC.region ?_
        refine TL.move rfl rfl ?_
        refine TL.add rfl rfl rfl ⟨by omega, by omega⟩ ?_
        refine TL.move rfl rfl ?_
        refine TL.add rfl rfl rfl ⟨by omega, by omega⟩ ?_
        refine TL.assign rfl rfl ?_
        refine TL.assign rfl rfl ?_
        refine TL.nil ?_
        refine TQ.in_n ?_
        refine TQ.in_n ?_
        refine TQ.sel 4 [1, 2, 3] rfl (fun o ho => ?_)
        simp only [K.sel, List.map_cons, List.map_nil, List.getD_cons_zero, List.getD_cons_succ, List.drop_succ_cons, List.drop_zero, List.cons_append, List.nil_append, List.set_cons_zero, List.set_cons_succ] at ho; subst ho
        have hsu := hpw.succ hs ht
        first
          | refine TQ.next ((b.length - (i + 1)) + (x.length - (j + 1))) [(0, _), (1, _), (5, _), (9, _), (10, _), (11, _)] (by omega) ⟨rfl, rfl, rfl, rfl, rfl, rfl, trivial⟩ ⟨i + 1, j + 1, v', out ++ [(i, j)], seg', rfl, by omega, by omega, by rw [pairsV_snoc]; simpa using hrow', by simpa [hsame] using hsu, by simp, rfl, hle5⟩
          | refine TQ.next ((b.length - (i + 1)) + (x.length - j)) [(0, _), (1, _), (5, _), (9, _), (10, _), (11, _)] (by omega) ⟨rfl, rfl, rfl, rfl, rfl, rfl, trivial⟩ ⟨i + 1, j, u, out, seg, rfl, by omega, by omega, hrow, by simpa only [if_neg hsame, if_pos hle'] using hsu, by simp, rfl, hle5⟩
          | refine TQ.next ((b.length - i) + (x.length - (j + 1))) [(0, _), (1, _), (5, _), (9, _), (10, _), (11, _)] (by omega) ⟨rfl, rfl, rfl, rfl, rfl, rfl, trivial⟩ ⟨i, j + 1, u, out, seg, rfl, by omega, by omega, hrow, by simpa only [if_neg hsame, if_neg hle'] using hsu, by simp, rfl, hle5⟩
       ·
        replace hsame : s ≠ t := fun h => by rw [Tr.eqb_eq] at hsame; simp [h] at hsame
        refine TC.seq ?_
        refine TC.drawQV 16  [(0, _), (1, _), (5, _), (9, _), (10, _), (11, _)] follows_mixed ⟨rfl, rfl, rfl, rfl, rfl, rfl, trivial⟩ ?_
        refine ChainV.q (some 124) [] (by
         intro H' X F hle
         intro hF
         refine TL.move rfl rfl ?_
         refine TL.nil ?_
         exact TQ.one [] hF (Le.refl _) ⟨rfl, rfl⟩) ?_
        refine ChainV.q (some 125) [] (by
         intro H' X F hle
         intro hF
         refine TL.move rfl rfl ?_
         refine TL.nil ?_
         exact TQ.one [] hF (Le.refl _) ⟨rfl, rfl⟩) ?_
        refine ChainV.q (some 126) [(1, 0)] (by
         intro H' X F hle
         intro hF
         refine TL.add rfl rfl rfl ⟨by omega, by omega⟩ ?_
         refine TL.nil ?_
         exact TQ.one [] hF (Le.refl _) ⟨rfl, rfl⟩) ?_
        refine ChainV.q (some 127) [(0, 2), (2, 0)] (by
         intro H' X F hle
         intro hF
         refine TL.indexAddr (i + 1) rfl rfl (by omega) (by omega) rfl ?_
         refine TL.nil ?_
         exact TQ.one [] hF (Le.refl _) ⟨rfl, rfl⟩) ?_
        refine ChainV.q (some 128) [(3, 0)] (by
         intro H' X F hle
         have hL := Le.trans hL hle
         have hB := rd.mono hle hB
         have hX := rd.mono hle hX
         have hle0 := Le.trans hle0 hle
         have hle1 := Le.trans hle1 hle
         have hle5 := Le.trans hle5 hle
         have hp := hAt.mono hle hp
         have hpr := RdL.mono hle hpr
         have hq' := hAt.mono hle hq'
         have hqr := RdL.mono hle hqr
         intro hF
         refine TL.load_own 2 0 rfl rfl rfl (outL_get0 hg1) rfl ?_
         refine TL.nil ?_
         exact TQ.one [] hF (Le.refl _) ⟨rfl, rfl⟩) ?_
        refine ChainV.q (some 129) [] (by
         intro H' X F hle
         intro hF
         refine TL.move rfl rfl ?_
         refine TL.nil ?_
         exact TQ.one [] hF (Le.refl _) ⟨rfl, rfl⟩) ?_
        refine ChainV.q (some 130) [(4, 1), (5, 0)] (by
         intro H' X F hle
         intro hF
         refine TL.indexAddr (j) rfl rfl rfl (by omega) rfl ?_
         refine TL.nil ?_
         exact TQ.one [] hF (Le.refl _) ⟨rfl, rfl⟩) ?_
        refine ChainV.q (some 131) [(6, 0)] (by
         intro H' X F hle
         have hL := Le.trans hL hle
         have hB := rd.mono hle hB
         have hX := rd.mono hle hX
         have hle0 := Le.trans hle0 hle
         have hle1 := Le.trans hle1 hle
         have hle5 := Le.trans hle5 hle
         have hp := hAt.mono hle hp
         have hpr := RdL.mono hle hpr
         have hq' := hAt.mono hle hq'
         have hqr := RdL.mono hle hqr
         intro hF
         refine TL.load_own 1 (i + 1) rfl rfl (rows_get0 hg1) (rowC_get (by omega)) rfl ?_
         refine TL.nil ?_
         exact TQ.one [] hF (Le.refl _) ⟨rfl, rfl⟩) ?_
        refine ChainV.q (some 132) [] (by
         intro H' X F hle
         intro hF
         refine TL.move rfl rfl ?_
         refine TL.nil ?_
         exact TQ.one [] hF (Le.refl _) ⟨rfl, rfl⟩) ?_
        refine ChainV.q (some 133) [] (by
         intro H' X F hle
         intro hF
         refine TL.move rfl rfl ?_
         refine TL.nil ?_
         exact TQ.one [] hF (Le.refl _) ⟨rfl, rfl⟩) ?_
        refine ChainV.q (some 134) [(8, 1), (9, 0)] (by
         intro H' X F hle
         intro hF
         refine TL.indexAddr (i) rfl rfl rfl (by omega) rfl ?_
         refine TL.nil ?_
         exact TQ.one [] hF (Le.refl _) ⟨rfl, rfl⟩) ?_
        refine ChainV.q (some 135) [(10, 0)] (by
         intro H' X F hle
         have hL := Le.trans hL hle
         have hB := rd.mono hle hB
         have hX := rd.mono hle hX
         have hle0 := Le.trans hle0 hle
         have hle1 := Le.trans hle1 hle
         have hle5 := Le.trans hle5 hle
         have hp := hAt.mono hle hp
         have hpr := RdL.mono hle hpr
         have hq' := hAt.mono hle hq'
         have hqr := RdL.mono hle hqr
         intro hF
         refine TL.load_own 2 0 rfl rfl rfl (outL_get0 hg0) rfl ?_
         refine TL.nil ?_
         exact TQ.one [] hF (Le.refl _) ⟨rfl, rfl⟩) ?_
        refine ChainV.q (some 136) [] (by
         intro H' X F hle
         intro hF
         refine TL.move rfl rfl ?_
         refine TL.nil ?_
         exact TQ.one [] hF (Le.refl _) ⟨rfl, rfl⟩) ?_
        refine ChainV.q (some 137) [(12, 0)] (by
         intro H' X F hle
         intro hF
         refine TL.add rfl rfl rfl ⟨by omega, by omega⟩ ?_
         refine TL.nil ?_
         exact TQ.one [] hF (Le.refl _) ⟨rfl, rfl⟩) ?_
        refine ChainV.q (some 138) [(11, 2), (13, 0)] (by
         intro H' X F hle
         intro hF
         refine TL.indexAddr (j + 1) rfl rfl (by omega) (by omega) rfl ?_
         refine TL.nil ?_
         exact TQ.one [] hF (Le.refl _) ⟨rfl, rfl⟩) ?_
        refine ChainV.q (some 139) [(14, 0)] (by
         intro H' X F hle
         have hL := Le.trans hL hle
         have hB := rd.mono hle hB
         have hX := rd.mono hle hX
         have hle0 := Le.trans hle0 hle
         have hle1 := Le.trans hle1 hle
         have hle5 := Le.trans hle5 hle
         have hp := hAt.mono hle hp
         have hpr := RdL.mono hle hpr
         have hq' := hAt.mono hle hq'
         have hqr := RdL.mono hle hqr
         intro hF
         refine TL.load_own 1 i rfl rfl (rows_get0 hg0) (rowC_get (by omega)) rfl ?_
         refine TL.nil ?_
         exact TQ.one [] hF (Le.refl _) ⟨rfl, rfl⟩) ?_
        refine ⟨by kernel_rfl, .refl _, ?_⟩
        ·
         intro H7 hle
         have hL := Le.trans hL hle
         have hB := rd.mono hle hB
         have hX := rd.mono hle hX
         have hle0 := Le.trans hle0 hle
         have hle1 := Le.trans hle1 hle
         have hle5 := Le.trans hle5 hle
         have hp := hAt.mono hle hp
         have hpr := RdL.mono hle hpr
         have hq' := hAt.mono hle hq'
         have hqr := RdL.mono hle hqr
         refine TL.toOwn (own' := _ :: _ :: _ :: own) rfl ?_
         refine TL.wk (env' := [(0, _), (1, _), (5, _), (9, _), (10, _), (11, _), (131, _), (139, _)]) ⟨rfl, rfl, rfl, rfl, rfl, rfl, rfl, rfl, trivial⟩ ?_
         refine TL.geqB rfl rfl rfl (fun hge => ?_) (fun hge => ?_)
         ·
          have hle' : lcs (b.drop i) (x.drop (j + 1)) ≤ lcs (b.drop (i + 1)) (x.drop j) := by omega
          refine TL.assign rfl rfl ?_
          refine TL.nil ?_
          refine TQ.then_n ?_
          refine TC.cond_t rfl ?_
          refine TC.region ?_
          refine TL.move rfl rfl ?_
          refine TL.add rfl rfl rfl ⟨by omega, by omega⟩ ?_
          refine TL.assign rfl rfl ?_
          refine TL.nil ?_
          refine TQ.in_n ?_
          refine TQ.in_n ?_
          refine TQ.toOwn (own' := _ :: _ :: _ :: own) rfl ?_
          have hsu := hpw.succ hs ht
          first
            | refine TQ.next ((b.length - (i + 1)) + (x.length - (j + 1))) [(0, _), (1, _), (5, _), (9, _), (10, _), (11, _)] (by omega) ⟨rfl, rfl, rfl, rfl, rfl, rfl, trivial⟩ ⟨i + 1, j + 1, v', out ++ [(i, j)], seg', rfl, by omega, by omega, by rw [pairsV_snoc]; simpa using hrow', by simpa [hsame] using hsu, by simp, rfl, hle5⟩
            | refine TQ.next ((b.length - (i + 1)) + (x.length - j)) [(0, _), (1, _), (5, _), (9, _), (10, _), (11, _)] (by omega) ⟨rfl, rfl, rfl, rfl, rfl, rfl, trivial⟩ ⟨i + 1, j, u, out, seg, rfl, by omega, by omega, hrow, by simpa only [if_neg hsame, if_pos hle'] using hsu, by simp, rfl, hle5⟩
            | refine TQ.next ((b.length - i) + (x.length - (j + 1))) [(0, _), (1, _), (5, _), (9, _), (10, _), (11, _)] (by omega) ⟨rfl, rfl, rfl, rfl, rfl, rfl, trivial⟩ ⟨i, j + 1, u, out, seg, rfl, by omega, by omega, hrow, by simpa only [if_neg hsame, if_neg hle'] using hsu, by simp, rfl, hle5⟩
         ·
          have hle' : ¬ lcs (b.drop i) (x.drop (j + 1)) ≤ lcs (b.drop (i + 1)) (x.drop j) := by omega
          refine TL.assign rfl rfl ?_
          refine TL.nil ?_
          refine TQ.then_n ?_
          refine TC.cond_f rfl ?_
          refine TC.region ?_
          refine TL.move rfl rfl ?_
          refine TL.add rfl rfl rfl ⟨by omega, by omega⟩ ?_
          refine TL.assign rfl rfl ?_
          refine TL.nil ?_
          refine TQ.in_n ?_
          refine TQ.in_n ?_
          refine TQ.toOwn (own' := _ :: _ :: _ :: own) rfl ?_
          have hsu := hpw.succ hs ht
          first
            | refine TQ.next ((b.length - (i + 1)) + (x.length - (j + 1))) [(0, _), (1, _), (5, _), (9, _), (10, _), (11, _)] (by omega) ⟨rfl, rfl, rfl, rfl, rfl, rfl, trivial⟩ ⟨i + 1, j + 1, v', out ++ [(i, j)], seg', rfl, by omega, by omega, by rw [pairsV_snoc]; simpa using hrow', by simpa [hsame] using hsu, by simp, rfl, hle5⟩
            | refine TQ.next ((b.length - (i + 1)) + (x.length - j)) [(0, _), (1, _), (5, _), (9, _), (10, _), (11, _)] (by omega) ⟨rfl, rfl, rfl, rfl, rfl, rfl, trivial⟩ ⟨i + 1, j, u, out, seg, rfl, by omega, by omega, hrow, by simpa only [if_neg hsame, if_pos hle'] using hsu, by simp, rfl, hle5⟩
            | refine TQ.next ((b.length - i) + (x.length - (j + 1))) [(0, _), (1, _), (5, _), (9, _), (10, _), (11, _)] (by omega) ⟨rfl, rfl, rfl, rfl, rfl, rfl, trivial⟩ ⟨i, j + 1, u, out, seg, rfl, by omega, by omega, hrow, by simpa only [if_neg hsame, if_neg hle'] using hsu, by simp, rfl, hle5⟩
     ·
      refine TL.pickT rfl rfl rfl rfl ?_
      refine TL.nil ?_
      refine TQ.then_n ?_
      refine TC.cond_f rfl ?_
      refine TC.exit ?_
      refine TQ.then_e ?_
      refine TQ.then_e ?_
      refine TQ.in_e ?_
      refine TQ.then_n ?_
      refine TC.seq ?_
      refine TC.region ?_
      refine TL.move rfl rfl ?_
      refine TL.move rfl rfl ?_
      refine TL.len_slice rfl rfl ?_
      refine TL.move rfl rfl ?_
      refine TL.len_slice rfl rfl ?_
      refine TL.array [(0, [_]), (1, [_])] ⟨rfl, ⟨_, rfl, rfl⟩, rfl, ⟨_, rfl, rfl⟩, trivial⟩ rfl rfl ?_
      refine TL.litF (r := [_, _]) [(0, [_, _])] ⟨rfl, ⟨_, rfl, rfl⟩, trivial⟩ rfl rfl rfl rfl ?_; intro g149
      refine TL.append 1 rfl rfl rfl hrow (Src.ofOwn 0 0 rfl rfl rfl (Ones.all (show Ones [_, _] from ⟨by rfl, by rfl, trivial⟩)) ⟨rfl, rfl, trivial⟩) (by omega) (by omega) rfl ?_
      intro v' seg' hrow'
      refine TL.assign rfl rfl ?_
      refine TL.nil ?_
      refine TQ.then_n ?_
      refine TC.ret ?_
      refine TQ.sel 4 [1, 0, 2, 3] rfl (fun o ho => ?_)
      simp only [K.sel, List.map_cons, List.map_nil, List.getD_cons_zero, List.getD_cons_succ, List.drop_succ_cons, List.drop_zero, List.cons_append, List.nil_append, List.set_cons_zero, List.set_cons_succ] at ho; subst ho
      refine TQ.freeze (fun H8 hle hz_outr => ?_)
      have hL := Le.trans hL hle
      have hB := rd.mono hle hB
      have hX := rd.mono hle hX
      have hle0 := Le.trans hle0 hle
      have hle1 := Le.trans hle1 hle
      have hle5 := Le.trans hle5 hle
      refine TQ.ret1 3 rfl rfl ?_
      refine ⟨?_, rfl, hL⟩
      rw [← hpw.done (by omega)]
      refine rd.ofRow hrow' hz_outr ?_ (Le.refl _)
      rw [pairsV_snoc]
      exact RdL.vals (pairsV out ++ _)
    ·
     refine TL.move rfl rfl ?_
     refine TL.gno rfl rfl rfl rfl ?_
     refine TL.gno rfl rfl rfl rfl ?_
     refine TL.gno rfl rfl rfl rfl ?_
     refine TL.gno rfl rfl rfl rfl ?_
     refine TL.pickF rfl rfl rfl rfl ?_
     refine TL.nil ?_
     refine TQ.then_n ?_
     refine TC.cond_f rfl ?_
     refine TC.exit ?_
     refine TQ.then_e ?_
     refine TQ.then_e ?_
     refine TQ.in_e ?_
     refine TQ.then_n ?_
     refine TC.seq ?_
     refine TC.region ?_
     refine TL.move rfl rfl ?_
     refine TL.move rfl rfl ?_
     refine TL.len_slice rfl rfl ?_
     refine TL.move rfl rfl ?_
     refine TL.len_slice rfl rfl ?_
     refine TL.array [(0, [_]), (1, [_])] ⟨rfl, ⟨_, rfl, rfl⟩, rfl, ⟨_, rfl, rfl⟩, trivial⟩ rfl rfl ?_
     refine TL.litF (r := [_, _]) [(0, [_, _])] ⟨rfl, ⟨_, rfl, rfl⟩, trivial⟩ rfl rfl rfl rfl ?_; intro g149
     refine TL.append 1 rfl rfl rfl hrow (Src.ofOwn 0 0 rfl rfl rfl (Ones.all (show Ones [_, _] from ⟨by rfl, by rfl, trivial⟩)) ⟨rfl, rfl, trivial⟩) (by omega) (by omega) rfl ?_
     intro v' seg' hrow'
     refine TL.assign rfl rfl ?_
     refine TL.nil ?_
     refine TQ.then_n ?_
     refine TC.ret ?_
     refine TQ.sel 4 [1, 0, 2, 3] rfl (fun o ho => ?_)
     simp only [K.sel, List.map_cons, List.map_nil, List.getD_cons_zero, List.getD_cons_succ, List.drop_succ_cons, List.drop_zero, List.cons_append, List.nil_append, List.set_cons_zero, List.set_cons_succ] at ho; subst ho
     refine TQ.freeze (fun H9 hle hz_outr => ?_)
     have hL := Le.trans hL hle
     have hB := rd.mono hle hB
     have hX := rd.mono hle hX
     have hle0 := Le.trans hle0 hle
     have hle1 := Le.trans hle1 hle
     have hle5 := Le.trans hle5 hle
     refine TQ.ret1 3 rfl rfl ?_
     refine ⟨?_, rfl, hL⟩
     rw [← hpw.done (by omega)]
     refine rd.ofRow hrow' hz_outr ?_ (Le.refl _)
     rw [pairsV_snoc]
     exact RdL.vals (pairsV out ++ _)

end Go.Proofs.Ytapmmfabdmhdnaa.K
