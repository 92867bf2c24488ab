/-
  The reference: pairs.
-/
import Derived.Test.YtapmmfabdmhdnaaFlat
import Derived.Test.YtapmmfabdmhdnaaSame
set_option linter.unusedVariables false
set_option linter.unusedSimpArgs false
set_option maxHeartbeats 4000000
namespace Go.Proofs.Ytapmmfabdmhdnaa.K
open Go Go.RowKit Go.Proofs

theorem eqb_self0 (t : Tr) : t.eqb t = true := (Tr.eqb_iff t t).2 rfl
theorem ref_pairs {b x : List Tr} (hbl : b.length ≤ 8192) (hxl : x.length ≤ 8192) {w0 : World} {H : Hp} {own : List Seg} {bv xv : Value} (hB : rd H (.s 2 (Tr.ds b)) bv) (hX : rd H (.s 2 (Tr.ds x)) xv) :
    Fn Try.prog 92 [bv, xv] w0 H own (fun v own' H' => rd H' (pairsD (pairsP b x)) v ∧ own' = own ∧ Le H H') := by
  obtain ⟨A, ca, rfl, ha1, ha2⟩ := trs_len hB
  obtain ⟨B, cb, rfl, hb1, hb2⟩ := trs_len hX
  obtain ⟨N, hNe⟩ : ∃ N, N = (b.length + 1) * (x.length + 1) := ⟨_, rfl⟩
  have hNb : N ≤ 67125249 := by rw [hNe]; exact mul_bd (by omega) (by omega)
  have hN : ((b.length : Int) + 1) * ((x.length : Int) + 1) = (N : Int) := by rw [hNe]; simp
  have hrow2 : ∀ i, i < b.length → i * (x.length + 1) + 2 * (x.length + 1) ≤ N := by
    intro i hi
    have h1 : (i + 2) * (x.length + 1) ≤ (b.length + 1) * (x.length + 1) := Nat.mul_le_mul_right _ (by omega)
    rw [Nat.add_mul] at h1
    omega
  refine Fn.enter Try.func92 rfl Try.ntmps92 rfl ?_
  have hL := Le.refl H
  refine TC.seq ?_
  refine TC.region ?_
  refine TL.assign rfl rfl ?_
  refine TL.nil ?_
  refine TQ.then_n ?_
  refine TC.seq ?_
  refine TC.region ?_
  refine TL.move rfl rfl ?_
  refine TL.len_slice rfl rfl ?_
  refine TL.assign rfl rfl ?_
  refine TL.nil ?_
  refine TQ.then_n ?_
  refine TC.seq ?_
  refine TC.region ?_
  refine TL.move rfl rfl ?_
  refine TL.len_slice rfl rfl ?_
  refine TL.assign rfl rfl ?_
  refine TL.nil ?_
  refine TQ.then_n ?_
  refine TC.seq ?_
  refine TC.region ?_
  refine TL.move rfl rfl ?_
  refine TL.add rfl rfl rfl ⟨by omega, by omega⟩ ?_
  refine TL.move rfl rfl ?_
  refine TL.add rfl rfl rfl ⟨by omega, by omega⟩ ?_
  refine TL.mul rfl rfl rfl (by rw [hN]; exact ⟨by omega, by omega⟩) ?_
  rw [hN]
  refine TL.makeSlice (N) rfl rfl rfl (by omega) (by omega) rfl ?_; intro g25
  refine TL.assign rfl rfl ?_
  refine TL.nil ?_
  refine TQ.then_n ?_
  refine TC.seq ?_
  refine TC.toOwn (own' := [(g25, .cells (flatC N (x.length + 1) (boolT fun _ _ => false)) 4 (0, 0))] :: own) (by rw [made_bool rfl]) ?_
  refine TC.region ?_
  refine TL.move rfl rfl ?_
  refine TL.add rfl rfl rfl ⟨by omega, by omega⟩ ?_
  refine TL.move rfl rfl ?_
  refine TL.add rfl rfl rfl ⟨by omega, by omega⟩ ?_
  refine TL.mul rfl rfl rfl (by rw [hN]; exact ⟨by omega, by omega⟩) ?_
  rw [hN]
  refine TL.makeSlice (N) rfl rfl rfl (by omega) (by omega) rfl ?_; intro g31
  refine TL.assign rfl rfl ?_
  refine TL.nil ?_
  refine TQ.then_n ?_
  refine TC.seq ?_
  refine TC.seq ?_
  refine TC.toOwn (own' := [(g31, .cells (flatC N (x.length + 1) (intT fun _ _ => 0)) 3 (0, 0))] :: [(g25, .cells (flatC N (x.length + 1) (boolT fun _ _ => false)) 4 (0, 0))] :: own) (by rw [made_int rfl]) ?_
  refine TC.region ?_
  refine TL.move rfl rfl ?_
  refine TL.sub rfl rfl rfl ⟨by omega, by omega⟩ ?_
  refine TL.assign rfl rfl ?_
  refine TL.nil ?_
  refine TQ.then_n ?_
  refine TC.block ?_
  refine TC.loop (fun n env' own' H' => ∃ (k : Nat) (T : Nat → Nat → Int) (S : Nat → Nat → Bool), k = n ∧ k ≤ b.length ∧ OkT b x T k (x.length + 1) ∧ (∀ i j, i + 1 ≤ k → T i j = 0) ∧ OkS b x S k (x.length + 1) ∧ env' = [(0, .slice A b.length ca), (1, .slice B x.length cb), (5, .int .i64 (b.length : Int)), (6, .int .i64 (x.length : Int)), (7, .slice (some ⟨g25, 0, none⟩) N N), (8, .slice (some ⟨g31, 0, none⟩) N N), (9, .int .i64 ((k : Int) - 1))] ∧ own' = [(g31, .cells (flatC N (x.length + 1) (intT T)) 3 (0, 0))] :: [(g25, .cells (flatC N (x.length + 1) (boolT S)) 4 (0, 0))] :: own ∧ Le H H') b.length [(0, _), (1, _), (5, _), (6, _), (7, _), (8, _), (9, _)] ⟨rfl, rfl, rfl, rfl, rfl, rfl, rfl, trivial⟩ ⟨b.length, fun _ _ => 0, fun _ _ => false, rfl, Nat.le_refl _, OkT.init b x, fun _ _ _ => rfl, OkS.init b x _, rfl, rfl, Le.refl _⟩ ?_
  rintro n _ _ H2 ⟨k, T, S, rfl, hk2, hok, hz, hos, rfl, rfl, hle1⟩
  have hL := Le.trans hL hle1
  have hB := rd.mono hle1 hB
  have hX := rd.mono hle1 hX
  refine TC.seq ?_
  refine TC.seq ?_
  refine TC.region ?_
  refine TL.move rfl rfl ?_
  refine TL.geqB rfl rfl rfl (fun hk => ?_) (fun hk => ?_)
  ·
   refine TL.nil ?_
   refine TQ.then_n ?_
   refine TC.cond_t rfl ?_
   refine TC.skip ?_
   refine TQ.then_n ?_
   refine TC.seq ?_
   refine TC.block ?_
   refine TC.seq ?_
   refine TC.region ?_
   refine TL.move rfl rfl ?_
   refine TL.sub rfl rfl rfl ⟨by omega, by omega⟩ ?_
   refine TL.assign rfl rfl ?_
   refine TL.nil ?_
   refine TQ.then_n ?_
   refine TC.block ?_
   refine TC.loop (fun n env' own' H' => ∃ (q : Nat) (T2 : Nat → Nat → Int) (S2 : Nat → Nat → Bool), q = n ∧ q ≤ x.length ∧ OkT b x T2 k q ∧ (∀ i j, i + 1 < k → T2 i j = 0) ∧ OkS b x S2 k q ∧ env' = [(0, .slice A b.length ca), (1, .slice B x.length cb), (5, .int .i64 (b.length : Int)), (6, .int .i64 (x.length : Int)), (7, .slice (some ⟨g25, 0, none⟩) N N), (8, .slice (some ⟨g31, 0, none⟩) N N), (9, .int .i64 ((k : Int) - 1)), (10, .int .i64 ((q : Int) - 1))] ∧ own' = [(g31, .cells (flatC N (x.length + 1) (intT T2)) 3 (0, 0))] :: [(g25, .cells (flatC N (x.length + 1) (boolT S2)) 4 (0, 0))] :: own ∧ Le H2 H') x.length [(0, _), (1, _), (5, _), (6, _), (7, _), (8, _), (9, _), (10, _)] ⟨rfl, rfl, rfl, rfl, rfl, rfl, rfl, rfl, trivial⟩ ⟨x.length, T, S, rfl, Nat.le_refl _, hok.enter hz, fun i j h => hz i j (by omega), hos.enter, rfl, rfl, Le.refl _⟩ ?_
   rintro n _ _ H3 ⟨q, T2, S2, rfl, hq2, hok2, hz2, hos2, rfl, rfl, hle2⟩
   have hL := Le.trans hL hle2
   have hB := rd.mono hle2 hB
   have hX := rd.mono hle2 hX
   have hle1 := Le.trans hle1 hle2
   refine TC.seq ?_
   refine TC.seq ?_
   refine TC.region ?_
   refine TL.move rfl rfl ?_
   refine TL.geqB rfl rfl rfl (fun hq => ?_) (fun hq => ?_)
   ·
    obtain ⟨i, rfl⟩ : ∃ i, k = i + 1 := ⟨k - 1, by omega⟩
    obtain ⟨j, rfl⟩ : ∃ j, q = j + 1 := ⟨q - 1, by omega⟩
    obtain ⟨s, hs⟩ : ∃ s, b[i]? = some s := ⟨_, List.getElem?_eq_getElem (by omega)⟩
    obtain ⟨t, ht⟩ : ∃ t, x[j]? = some t := ⟨_, List.getElem?_eq_getElem (by omega)⟩
    obtain ⟨p, hpm⟩ : ∃ p, p = i * (x.length + 1) := ⟨_, rfl⟩
    have hp2 := hrow2 i (by omega)
    rw [← hpm] at hp2
    have hat : (((i + 1 : Nat) : Int) - 1) * ((x.length : Int) + 1) = (p : Int) := by
      rw [show ((i + 1 : Nat) : Int) - 1 = (i : Int) by omega, hpm]; simp
    obtain ⟨b1, o1, p0, p1, rfl, hp, hpr⟩ := trs_at hB hs
    obtain ⟨b2, o2, q0, q1, rfl, hq', hqr⟩ := trs_at hX ht
    have e0 := hok2 (i + 1) (j + 1) (by omega) (by omega) (.inl (by omega))
    have e2 := lcs_le (b.drop (i + 1)) (x.drop (j + 1))
    simp only [List.length_drop] at e2
    refine TL.nil ?_
    refine TQ.then_n ?_
    refine TC.cond_t rfl ?_
    refine TC.skip ?_
    refine TQ.then_n ?_
    refine TC.seq ?_
    refine TC.block ?_
    refine TC.seq ?_
    refine TC.region ?_
    refine TL.move rfl rfl ?_
    refine TL.move rfl rfl ?_
    refine TL.add rfl rfl rfl ⟨by omega, by omega⟩ ?_
    refine TL.mul rfl rfl rfl (by rw [hat]; exact ⟨by omega, by omega⟩) ?_
    rw [hat]
    refine TL.move rfl rfl ?_
    refine TL.add rfl rfl rfl ⟨by omega, by omega⟩ ?_
    refine TL.assign rfl rfl ?_
    refine TL.nil ?_
    refine TQ.then_n ?_
    refine TC.seq ?_
    refine TC.drawQV 11  [(0, _), (1, _), (5, _), (6, _), (7, _), (8, _), (9, _), (10, _), (11, _)] follows_mixed ⟨rfl, rfl, rfl, rfl, rfl, rfl, rfl, rfl, rfl, trivial⟩ ?_
    refine ChainV.q (some 50) [] (by
     intro H' X F hle
     have hL := Le.trans hL hle
     have hB := rd.mono hle hB
     have hX := rd.mono hle hX
     have hle1 := Le.trans hle1 hle
     have hle2 := Le.trans hle2 hle
     have hp := hAt.mono hle hp
     have hpr := RdL.mono hle hpr
     have hq' := hAt.mono hle hq'
     have hqr := RdL.mono hle hqr
     intro hF
     refine TL.move rfl rfl ?_
     refine TL.nil ?_
     exact TQ.one [] hF (Le.refl _) ⟨rfl, rfl⟩) ?_
    refine ChainV.q (some 51) [] (by
     intro H' X F hle
     have hL := Le.trans hL hle
     have hB := rd.mono hle hB
     have hX := rd.mono hle hX
     have hle1 := Le.trans hle1 hle
     have hle2 := Le.trans hle2 hle
     have hp := hAt.mono hle hp
     have hpr := RdL.mono hle hpr
     have hq' := hAt.mono hle hq'
     have hqr := RdL.mono hle hqr
     intro hF
     refine TL.move rfl rfl ?_
     refine TL.nil ?_
     exact TQ.one [] hF (Le.refl _) ⟨rfl, rfl⟩) ?_
    refine ChainV.q (some 52) [] (by
     intro H' X F hle
     have hL := Le.trans hL hle
     have hB := rd.mono hle hB
     have hX := rd.mono hle hX
     have hle1 := Le.trans hle1 hle
     have hle2 := Le.trans hle2 hle
     have hp := hAt.mono hle hp
     have hpr := RdL.mono hle hpr
     have hq' := hAt.mono hle hq'
     have hqr := RdL.mono hle hqr
     intro hF
     refine TL.move rfl rfl ?_
     refine TL.nil ?_
     exact TQ.one [] hF (Le.refl _) ⟨rfl, rfl⟩) ?_
    refine ChainV.q (some 53) [] (by
     intro H' X F hle
     have hL := Le.trans hL hle
     have hB := rd.mono hle hB
     have hX := rd.mono hle hX
     have hle1 := Le.trans hle1 hle
     have hle2 := Le.trans hle2 hle
     have hp := hAt.mono hle hp
     have hpr := RdL.mono hle hpr
     have hq' := hAt.mono hle hq'
     have hqr := RdL.mono hle hqr
     intro hF
     refine TL.move rfl rfl ?_
     refine TL.nil ?_
     exact TQ.one [] hF (Le.refl _) ⟨rfl, rfl⟩) ?_
    refine ChainV.q (some 54) [(2, 1), (3, 0)] (by
     intro H' X F hle
     have hL := Le.trans hL hle
     have hB := rd.mono hle hB
     have hX := rd.mono hle hX
     have hle1 := Le.trans hle1 hle
     have hle2 := Le.trans hle2 hle
     have hp := hAt.mono hle hp
     have hpr := RdL.mono hle hpr
     have hq' := hAt.mono hle hq'
     have hqr := RdL.mono hle hqr
     intro hF
     refine TL.indexAddr (i) rfl rfl (by omega) (by omega) rfl ?_
     refine TL.nil ?_
     exact TQ.one [] hF (Le.refl _) ⟨rfl, rfl⟩) ?_
    refine ChainV.q (some 55) [(4, 0)] (by
     intro H' X F hle
     have hL := Le.trans hL hle
     have hB := rd.mono hle hB
     have hX := rd.mono hle hX
     have hle1 := Le.trans hle1 hle
     have hle2 := Le.trans hle2 hle
     have hp := hAt.mono hle hp
     have hpr := RdL.mono hle hpr
     have hq' := hAt.mono hle hq'
     have hqr := RdL.mono hle hqr
     intro hF
     refine TL.load_immA rfl (hp) rfl rfl ?_
     refine TL.nil ?_
     exact TQ.one [] hF (Le.refl _) ⟨rfl, rfl⟩) ?_
    refine ChainV.q (some 56) [] (by
     intro H' X F hle
     have hL := Le.trans hL hle
     have hB := rd.mono hle hB
     have hX := rd.mono hle hX
     have hle1 := Le.trans hle1 hle
     have hle2 := Le.trans hle2 hle
     have hp := hAt.mono hle hp
     have hpr := RdL.mono hle hpr
     have hq' := hAt.mono hle hq'
     have hqr := RdL.mono hle hqr
     intro hF
     refine TL.move rfl rfl ?_
     refine TL.nil ?_
     exact TQ.one [] hF (Le.refl _) ⟨rfl, rfl⟩) ?_
    refine ChainV.q (some 57) [] (by
     intro H' X F hle
     have hL := Le.trans hL hle
     have hB := rd.mono hle hB
     have hX := rd.mono hle hX
     have hle1 := Le.trans hle1 hle
     have hle2 := Le.trans hle2 hle
     have hp := hAt.mono hle hp
     have hpr := RdL.mono hle hpr
     have hq' := hAt.mono hle hq'
     have hqr := RdL.mono hle hqr
     intro hF
     refine TL.move rfl rfl ?_
     refine TL.nil ?_
     exact TQ.one [] hF (Le.refl _) ⟨rfl, rfl⟩) ?_
    refine ChainV.q (some 58) [(6, 1), (7, 0)] (by
     intro H' X F hle
     have hL := Le.trans hL hle
     have hB := rd.mono hle hB
     have hX := rd.mono hle hX
     have hle1 := Le.trans hle1 hle
     have hle2 := Le.trans hle2 hle
     have hp := hAt.mono hle hp
     have hpr := RdL.mono hle hpr
     have hq' := hAt.mono hle hq'
     have hqr := RdL.mono hle hqr
     intro hF
     refine TL.indexAddr (j) rfl rfl (by omega) (by omega) rfl ?_
     refine TL.nil ?_
     exact TQ.one [] hF (Le.refl _) ⟨rfl, rfl⟩) ?_
    refine ChainV.q (some 59) [(8, 0)] (by
     intro H' X F hle
     have hL := Le.trans hL hle
     have hB := rd.mono hle hB
     have hX := rd.mono hle hX
     have hle1 := Le.trans hle1 hle
     have hle2 := Le.trans hle2 hle
     have hp := hAt.mono hle hp
     have hpr := RdL.mono hle hpr
     have hq' := hAt.mono hle hq'
     have hqr := RdL.mono hle hqr
     intro hF
     refine TL.load_immA rfl (hq') rfl rfl ?_
     refine TL.nil ?_
     exact TQ.one [] hF (Le.refl _) ⟨rfl, rfl⟩) ?_
    refine ChainV.q (some 60) [(5, 4), (9, 0)] (by
     intro H' X F hle
     have hL := Le.trans hL hle
     have hB := rd.mono hle hB
     have hX := rd.mono hle hX
     have hle1 := Le.trans hle1 hle
     have hle2 := Le.trans hle2 hle
     have hp := hAt.mono hle hp
     have hpr := RdL.mono hle hpr
     have hq' := hAt.mono hle hq'
     have hqr := RdL.mono hle hqr
     intro hF
     refine TL.call (ref_same _ s t (Nat.le_refl _) hpr hqr) ⟨rfl, rfl, trivial⟩ rfl ?_
     rintro _ _ H4 ⟨rfl, rfl, hle4⟩
     have hL := Le.trans hL hle4
     have hB := rd.mono hle4 hB
     have hX := rd.mono hle4 hX
     have hle1 := Le.trans hle1 hle4
     have hle2 := Le.trans hle2 hle4
     have hp := hAt.mono hle4 hp
     have hpr := RdL.mono hle4 hpr
     have hq' := hAt.mono hle4 hq'
     have hqr := RdL.mono hle4 hqr
     refine TL.nil ?_
     exact TQ.one [] hF hle4 ⟨rfl, rfl⟩) ?_
    refine ⟨by kernel_rfl, .refl _, ?_⟩
    ·
     intro H1 hle
     have hL := Le.trans hL hle
     have hB := rd.mono hle hB
     have hX := rd.mono hle hX
     have hle1 := Le.trans hle1 hle
     have hle2 := Le.trans hle2 hle
     have hp := hAt.mono hle hp
     have hpr := RdL.mono hle hpr
     have hq' := hAt.mono hle hq'
     have hqr := RdL.mono hle hqr
     refine TL.toOwn (own' := _ :: _ :: own) rfl ?_
     refine TL.wk (env' := [(0, _), (1, _), (5, _), (6, _), (7, _), (8, _), (9, _), (10, _), (11, _), (50, _), (51, _), (60, _)]) ⟨rfl, rfl, rfl, rfl, rfl, rfl, rfl, rfl, rfl, rfl, rfl, rfl, trivial⟩ ?_
     refine TL.indexAddr (p + j) rfl rfl (by omega) (by omega) rfl ?_
     refine TL.store1 1 0 (c' := flatC N (x.length + 1) (boolT (updB S2 i j (s.eqb t)))) (own' := _ :: [(_, .cells (flatC N (x.length + 1) (boolT (updB S2 i j (s.eqb t)))) _ _)] :: _) rfl rfl rfl rfl rfl (by rw [flat_size]; omega) (bool_set (by omega) (by omega)) rfl rfl ?_
     refine TL.nil ?_
     refine TQ.then_n ?_
     refine TC.seq ?_
     refine TC.drawQV 15  [(0, _), (1, _), (5, _), (6, _), (7, _), (8, _), (9, _), (10, _), (11, _)] follows_mixed ⟨rfl, rfl, rfl, rfl, rfl, rfl, rfl, rfl, rfl, trivial⟩ ?_
     refine ChainV.q (some 62) [] (by
      intro H' X F hle
      have hL := Le.trans hL hle
      have hB := rd.mono hle hB
      have hX := rd.mono hle hX
      have hle1 := Le.trans hle1 hle
      have hle2 := Le.trans hle2 hle
      have hp := hAt.mono hle hp
      have hpr := RdL.mono hle hpr
      have hq' := hAt.mono hle hq'
      have hqr := RdL.mono hle hqr
      intro hF
      refine TL.move rfl rfl ?_
      refine TL.nil ?_
      exact TQ.one [] hF (Le.refl _) ⟨rfl, rfl⟩) ?_
     refine ChainV.q (some 63) [] (by
      intro H' X F hle
      have hL := Le.trans hL hle
      have hB := rd.mono hle hB
      have hX := rd.mono hle hX
      have hle1 := Le.trans hle1 hle
      have hle2 := Le.trans hle2 hle
      have hp := hAt.mono hle hp
      have hpr := RdL.mono hle hpr
      have hq' := hAt.mono hle hq'
      have hqr := RdL.mono hle hqr
      intro hF
      refine TL.move rfl rfl ?_
      refine TL.nil ?_
      exact TQ.one [] hF (Le.refl _) ⟨rfl, rfl⟩) ?_
     refine ChainV.q (some 64) [] (by
      intro H' X F hle
      have hL := Le.trans hL hle
      have hB := rd.mono hle hB
      have hX := rd.mono hle hX
      have hle1 := Le.trans hle1 hle
      have hle2 := Le.trans hle2 hle
      have hp := hAt.mono hle hp
      have hpr := RdL.mono hle hpr
      have hq' := hAt.mono hle hq'
      have hqr := RdL.mono hle hqr
      intro hF
      refine TL.move rfl rfl ?_
      refine TL.nil ?_
      exact TQ.one [] hF (Le.refl _) ⟨rfl, rfl⟩) ?_
     refine ChainV.q (some 65) [] (by
      intro H' X F hle
      have hL := Le.trans hL hle
      have hB := rd.mono hle hB
      have hX := rd.mono hle hX
      have hle1 := Le.trans hle1 hle
      have hle2 := Le.trans hle2 hle
      have hp := hAt.mono hle hp
      have hpr := RdL.mono hle hpr
      have hq' := hAt.mono hle hq'
      have hqr := RdL.mono hle hqr
      intro hF
      refine TL.move rfl rfl ?_
      refine TL.nil ?_
      exact TQ.one [] hF (Le.refl _) ⟨rfl, rfl⟩) ?_
     refine ChainV.q (some 66) [] (by
      intro H' X F hle
      have hL := Le.trans hL hle
      have hB := rd.mono hle hB
      have hX := rd.mono hle hX
      have hle1 := Le.trans hle1 hle
      have hle2 := Le.trans hle2 hle
      have hp := hAt.mono hle hp
      have hpr := RdL.mono hle hpr
      have hq' := hAt.mono hle hq'
      have hqr := RdL.mono hle hqr
      intro hF
      refine TL.move rfl rfl ?_
      refine TL.nil ?_
      exact TQ.one [] hF (Le.refl _) ⟨rfl, rfl⟩) ?_
     refine ChainV.q (some 67) [(3, 1), (4, 0)] (by
      intro H' X F hle
      have hL := Le.trans hL hle
      have hB := rd.mono hle hB
      have hX := rd.mono hle hX
      have hle1 := Le.trans hle1 hle
      have hle2 := Le.trans hle2 hle
      have hp := hAt.mono hle hp
      have hpr := RdL.mono hle hpr
      have hq' := hAt.mono hle hq'
      have hqr := RdL.mono hle hqr
      intro hF
      refine TL.add rfl rfl rfl ⟨by omega, by omega⟩ ?_
      refine TL.nil ?_
      exact TQ.one [] hF (Le.refl _) ⟨rfl, rfl⟩) ?_
     refine ChainV.q (some 68) [(5, 0)] (by
      intro H' X F hle
      have hL := Le.trans hL hle
      have hB := rd.mono hle hB
      have hX := rd.mono hle hX
      have hle1 := Le.trans hle1 hle
      have hle2 := Le.trans hle2 hle
      have hp := hAt.mono hle hp
      have hpr := RdL.mono hle hpr
      have hq' := hAt.mono hle hq'
      have hqr := RdL.mono hle hqr
      intro hF
      refine TL.add rfl rfl rfl ⟨by omega, by omega⟩ ?_
      refine TL.nil ?_
      exact TQ.one [] hF (Le.refl _) ⟨rfl, rfl⟩) ?_
     refine ChainV.q (some 69) [(2, 4), (6, 0)] (by
      intro H' X F hle
      have hL := Le.trans hL hle
      have hB := rd.mono hle hB
      have hX := rd.mono hle hX
      have hle1 := Le.trans hle1 hle
      have hle2 := Le.trans hle2 hle
      have hp := hAt.mono hle hp
      have hpr := RdL.mono hle hpr
      have hq' := hAt.mono hle hq'
      have hqr := RdL.mono hle hqr
      intro hF
      refine TL.indexAddr (p + j + x.length + 1) rfl rfl (by omega) (by omega) rfl ?_
      refine TL.nil ?_
      exact TQ.one [] hF (Le.refl _) ⟨rfl, rfl⟩) ?_
     refine ChainV.q (some 70) [(7, 0)] (by
      intro H' X F hle
      have hL := Le.trans hL hle
      have hB := rd.mono hle hB
      have hX := rd.mono hle hX
      have hle1 := Le.trans hle1 hle
      have hle2 := Le.trans hle2 hle
      have hp := hAt.mono hle hp
      have hpr := RdL.mono hle hpr
      have hq' := hAt.mono hle hq'
      have hqr := RdL.mono hle hqr
      intro hF
      refine TL.load_own 0 0 rfl rfl rfl (int_get (i := i + 1) (j := j) (by omega) (by rw [Nat.add_mul, Nat.one_mul, ← hpm]; omega) (by omega)) rfl ?_
      refine TL.nil ?_
      exact TQ.one [] hF (Le.refl _) ⟨rfl, rfl⟩) ?_
     refine ChainV.q (some 71) [] (by
      intro H' X F hle
      have hL := Le.trans hL hle
      have hB := rd.mono hle hB
      have hX := rd.mono hle hX
      have hle1 := Le.trans hle1 hle
      have hle2 := Le.trans hle2 hle
      have hp := hAt.mono hle hp
      have hpr := RdL.mono hle hpr
      have hq' := hAt.mono hle hq'
      have hqr := RdL.mono hle hqr
      intro hF
      refine TL.move rfl rfl ?_
      refine TL.nil ?_
      exact TQ.one [] hF (Le.refl _) ⟨rfl, rfl⟩) ?_
     refine ChainV.q (some 72) [] (by
      intro H' X F hle
      have hL := Le.trans hL hle
      have hB := rd.mono hle hB
      have hX := rd.mono hle hX
      have hle1 := Le.trans hle1 hle
      have hle2 := Le.trans hle2 hle
      have hp := hAt.mono hle hp
      have hpr := RdL.mono hle hpr
      have hq' := hAt.mono hle hq'
      have hqr := RdL.mono hle hqr
      intro hF
      refine TL.move rfl rfl ?_
      refine TL.nil ?_
      exact TQ.one [] hF (Le.refl _) ⟨rfl, rfl⟩) ?_
     refine ChainV.q (some 73) [(10, 0)] (by
      intro H' X F hle
      have hL := Le.trans hL hle
      have hB := rd.mono hle hB
      have hX := rd.mono hle hX
      have hle1 := Le.trans hle1 hle
      have hle2 := Le.trans hle2 hle
      have hp := hAt.mono hle hp
      have hpr := RdL.mono hle hpr
      have hq' := hAt.mono hle hq'
      have hqr := RdL.mono hle hqr
      intro hF
      refine TL.add rfl rfl rfl ⟨by omega, by omega⟩ ?_
      refine TL.nil ?_
      exact TQ.one [] hF (Le.refl _) ⟨rfl, rfl⟩) ?_
     refine ChainV.q (some 74) [(9, 2), (11, 0)] (by
      intro H' X F hle
      have hL := Le.trans hL hle
      have hB := rd.mono hle hB
      have hX := rd.mono hle hX
      have hle1 := Le.trans hle1 hle
      have hle2 := Le.trans hle2 hle
      have hp := hAt.mono hle hp
      have hpr := RdL.mono hle hpr
      have hq' := hAt.mono hle hq'
      have hqr := RdL.mono hle hqr
      intro hF
      refine TL.indexAddr (p + j + 1) rfl rfl (by omega) (by omega) rfl ?_
      refine TL.nil ?_
      exact TQ.one [] hF (Le.refl _) ⟨rfl, rfl⟩) ?_
     refine ChainV.q (some 75) [(12, 0)] (by
      intro H' X F hle
      have hL := Le.trans hL hle
      have hB := rd.mono hle hB
      have hX := rd.mono hle hX
      have hle1 := Le.trans hle1 hle
      have hle2 := Le.trans hle2 hle
      have hp := hAt.mono hle hp
      have hpr := RdL.mono hle hpr
      have hq' := hAt.mono hle hq'
      have hqr := RdL.mono hle hqr
      intro hF
      refine TL.load_own 0 0 rfl rfl rfl (int_get (i := i) (j := j + 1) (by omega) (by omega) (by omega)) rfl ?_
      refine TL.nil ?_
      exact TQ.one [] hF (Le.refl _) ⟨rfl, rfl⟩) ?_
     refine ChainV.q (some 76) [(8, 5), (13, 0)] (by
      intro H' X F hle
      have hL := Le.trans hL hle
      have hB := rd.mono hle hB
      have hX := rd.mono hle hX
      have hle1 := Le.trans hle1 hle
      have hle2 := Le.trans hle2 hle
      have hp := hAt.mono hle hp
      have hpr := RdL.mono hle hpr
      have hq' := hAt.mono hle hq'
      have hqr := RdL.mono hle hqr
      intro hF
      refine TL.max2 rfl rfl rfl ?_
      refine TL.nil ?_
      exact TQ.one [] hF (Le.refl _) ⟨rfl, rfl⟩) ?_
     refine ⟨by kernel_rfl, .refl _, ?_⟩
     ·
      intro H2 hle
      have hL := Le.trans hL hle
      have hB := rd.mono hle hB
      have hX := rd.mono hle hX
      have hle1 := Le.trans hle1 hle
      have hle2 := Le.trans hle2 hle
      have hp := hAt.mono hle hp
      have hpr := RdL.mono hle hpr
      have hq' := hAt.mono hle hq'
      have hqr := RdL.mono hle hqr
      refine TL.toOwn (own' := _ :: _ :: own) rfl ?_
      refine TL.wk (env' := [(0, _), (1, _), (5, _), (6, _), (7, _), (8, _), (9, _), (10, _), (11, _), (62, _), (63, _), (76, _)]) ⟨rfl, rfl, rfl, rfl, rfl, rfl, rfl, rfl, rfl, rfl, rfl, rfl, trivial⟩ ?_
      refine TL.indexAddr (p + j) rfl rfl (by omega) (by omega) rfl ?_
      refine TL.store1 0 0 (c' := flatC N (x.length + 1) (intT (upd T2 i j (max (T2 (i + 1) j) (T2 i (j + 1)))))) (own' := [(_, .cells (flatC N (x.length + 1) (intT (upd T2 i j (max (T2 (i + 1) j) (T2 i (j + 1)))))) _ _)] :: _) rfl rfl rfl rfl rfl (by rw [flat_size]; omega) (int_set (by omega) (by omega)) rfl rfl ?_
      refine TL.nil ?_
      refine TQ.then_n ?_
      refine TC.seq ?_
      refine TC.region ?_
      refine TL.move rfl rfl ?_
      refine TL.move rfl rfl ?_
      refine TL.indexAddr (p + j) rfl rfl (by omega) (by omega) rfl ?_
      refine TL.load_own 1 0 rfl rfl rfl (bool_get (i := i) (j := j) (by omega) (by omega) (by omega)) rfl ?_
      refine TL.nil ?_
      refine TQ.then_n ?_
      refine TC.cond rfl (fun hsame => ?_) (fun hsame => ?_)
      ·
       replace hsame : s = t := (Tr.eqb_iff s t).1 (by simpa [updB] using hsame)
       have e1 : upd T2 i j (max (T2 (i + 1) j) (T2 i (j + 1))) (i + 1) (j + 1) = T2 (i + 1) (j + 1) := upd_ne _ _ (by omega)
       refine TC.region ?_
       refine TL.move rfl rfl ?_
       refine TL.move rfl rfl ?_
       refine TL.move rfl rfl ?_
       refine TL.move rfl rfl ?_
       refine TL.move rfl rfl ?_
       refine TL.add rfl rfl rfl ⟨by omega, by omega⟩ ?_
       refine TL.add rfl rfl rfl ⟨by omega, by omega⟩ ?_
       refine TL.indexAddr (p + j + x.length + 2) rfl rfl (by omega) (by omega) rfl ?_
       refine TL.load_own 0 0 rfl rfl rfl (int_get (i := i + 1) (j := j + 1) (by omega) (by rw [Nat.add_mul, Nat.one_mul, ← hpm]; omega) (by omega)) rfl ?_
       refine TL.add rfl rfl rfl ⟨by omega, by omega⟩ ?_
       refine TL.indexAddr (p + j) rfl rfl (by omega) (by omega) rfl ?_
       refine TL.store1 0 0 (c' := flatC N (x.length + 1) (intT (upd (upd T2 i j (max (T2 (i + 1) j) (T2 i (j + 1)))) i j (upd T2 i j (max (T2 (i + 1) j) (T2 i (j + 1))) (i + 1) (j + 1) + 1)))) (own' := [(_, .cells (flatC N (x.length + 1) (intT (upd (upd T2 i j (max (T2 (i + 1) j) (T2 i (j + 1)))) i j (upd T2 i j (max (T2 (i + 1) j) (T2 i (j + 1))) (i + 1) (j + 1) + 1)))) _ _)] :: _) rfl rfl rfl rfl rfl (by rw [flat_size]; omega) (int_set (by omega) (by omega)) rfl rfl ?_
       refine TL.nil ?_
       refine TQ.in_n ?_
       refine TQ.then_n ?_
       refine TC.region ?_
       refine TL.move rfl rfl ?_
       refine TL.sub rfl rfl rfl ⟨by omega, by omega⟩ ?_
       refine TL.assign rfl rfl ?_
       refine TL.nil ?_
       first
         | refine TQ.next j [(0, _), (1, _), (5, _), (6, _), (7, _), (8, _), (9, _), (10, _)] (by omega) ⟨rfl, rfl, rfl, rfl, rfl, rfl, rfl, rfl, trivial⟩ ⟨j, upd T2 i j (T2 (i + 1) (j + 1) + 1), _, rfl, by omega, hok2.step hs ht (by rw [if_pos hsame]), fun i' j' h => by rw [upd_ne _ _ (by omega)]; exact hz2 i' j' h, hos2.step hs ht, by rw [show (((j + 1 : Nat) : Int) - 1 - 1) = (j : Int) - 1 by omega], by rw [upd_upd, e1], hle2⟩
         | refine TQ.next j [(0, _), (1, _), (5, _), (6, _), (7, _), (8, _), (9, _), (10, _)] (by omega) ⟨rfl, rfl, rfl, rfl, rfl, rfl, rfl, rfl, trivial⟩ ⟨j, upd T2 i j (max (T2 (i + 1) j) (T2 i (j + 1))), _, rfl, by omega, hok2.step hs ht (by rw [if_neg hsame]), fun i' j' h => by rw [upd_ne _ _ (by omega)]; exact hz2 i' j' h, hos2.step hs ht, by rw [show (((j + 1 : Nat) : Int) - 1 - 1) = (j : Int) - 1 by omega], rfl, hle2⟩
      ·
       replace hsame : s ≠ t := fun h => by subst h; simp [updB, eqb_self0] at hsame
       refine TC.skip ?_
       refine TQ.in_n ?_
       refine TQ.then_n ?_
       refine TC.region ?_
       refine TL.move rfl rfl ?_
       refine TL.sub rfl rfl rfl ⟨by omega, by omega⟩ ?_
       refine TL.assign rfl rfl ?_
       refine TL.nil ?_
       first
         | refine TQ.next j [(0, _), (1, _), (5, _), (6, _), (7, _), (8, _), (9, _), (10, _)] (by omega) ⟨rfl, rfl, rfl, rfl, rfl, rfl, rfl, rfl, trivial⟩ ⟨j, upd T2 i j (T2 (i + 1) (j + 1) + 1), _, rfl, by omega, hok2.step hs ht (by rw [if_pos hsame]), fun i' j' h => by rw [upd_ne _ _ (by omega)]; exact hz2 i' j' h, hos2.step hs ht, by rw [show (((j + 1 : Nat) : Int) - 1 - 1) = (j : Int) - 1 by omega], by rw [upd_upd, e1], hle2⟩
         | refine TQ.next j [(0, _), (1, _), (5, _), (6, _), (7, _), (8, _), (9, _), (10, _)] (by omega) ⟨rfl, rfl, rfl, rfl, rfl, rfl, rfl, rfl, trivial⟩ ⟨j, upd T2 i j (max (T2 (i + 1) j) (T2 i (j + 1))), _, rfl, by omega, hok2.step hs ht (by rw [if_neg hsame]), fun i' j' h => by rw [upd_ne _ _ (by omega)]; exact hz2 i' j' h, hos2.step hs ht, by rw [show (((j + 1 : Nat) : Int) - 1 - 1) = (j : Int) - 1 by omega], rfl, hle2⟩
   ·
    refine TL.nil ?_
    refine TQ.then_n ?_
    refine TC.cond_f rfl ?_
    refine TC.exit ?_
    refine TQ.then_e ?_
    refine TQ.then_e ?_
    refine TQ.in_e ?_
    refine TQ.in_n ?_
    refine TQ.then_n ?_
    have hq0 : q = 0 := by omega
    subst hq0
    refine TC.region ?_
    refine TL.move rfl rfl ?_
    refine TL.sub rfl rfl rfl ⟨by omega, by omega⟩ ?_
    refine TL.assign rfl rfl ?_
    refine TL.nil ?_
    refine TQ.next (k - 1) [(0, _), (1, _), (5, _), (6, _), (7, _), (8, _), (9, _)] (by omega) ⟨rfl, rfl, rfl, rfl, rfl, rfl, rfl, trivial⟩ ⟨k - 1, T2, S2, rfl, by omega, hok2.leave (by omega), fun i j h => hz2 i j (by omega), hos2.leave (by omega), by rw [show ((k - 1 : Nat) : Int) - 1 = (k : Int) - 1 - 1 by omega], rfl, hle1⟩
  ·
   refine TL.nil ?_
   refine TQ.then_n ?_
   refine TC.cond_f rfl ?_
   refine TC.exit ?_
   refine TQ.then_e ?_
   refine TQ.then_e ?_
   refine TQ.in_e ?_
   refine TQ.then_n ?_
   refine TC.seq ?_
   have hk0 : k = 0 := by omega
   subst hk0
   refine TC.region ?_
   refine TL.assign rfl rfl ?_
   refine TL.nil ?_
   refine TQ.then_n ?_
   refine TC.seq ?_
   refine TC.nilseg ?_
   refine TC.region ?_
   refine TL.assign rfl rfl ?_
   refine TL.nil ?_
   refine TQ.then_n ?_
   refine TC.seq ?_
   refine TC.region ?_
   refine TL.assign rfl rfl ?_
   refine TL.nil ?_
   refine TQ.then_n ?_
   refine TC.seq ?_
   refine TC.block ?_
   refine TC.loop (fun n env' own' H' => ∃ (i j : Nat) (u : Value) (out : List (Nat × Nat)) (seg : Seg), n = (b.length - i) + (x.length - j) ∧ i ≤ b.length ∧ j ≤ x.length ∧ Row 154 2 u out.length (pairsV out) seg ∧ PwAt b x out i j ∧ env' = [(0, .slice A b.length ca), (1, .slice B x.length cb), (5, .int .i64 (b.length : Int)), (6, .int .i64 (x.length : Int)), (7, .slice (some ⟨g25, 0, none⟩) N N), (8, .slice (some ⟨g31, 0, none⟩) N N), (12, u), (13, .int .i64 (i : Int)), (14, .int .i64 (j : Int))] ∧ own' = seg :: [(g31, .cells (flatC N (x.length + 1) (intT T)) 3 (0, 0))] :: [(g25, .cells (flatC N (x.length + 1) (boolT S)) 4 (0, 0))] :: own ∧ Le H2 H') (b.length + x.length) [(0, _), (1, _), (5, _), (6, _), (7, _), (8, _), (12, _), (13, _), (14, _)] ⟨rfl, rfl, rfl, rfl, rfl, rfl, rfl, rfl, rfl, trivial⟩ ⟨0, 0, _, [], [], by omega, by omega, by omega, Row.nil 154 2, PwAt.init b x, rfl, rfl, Le.refl _⟩ ?_
   rintro n _ _ H5 ⟨i, j, u, out, seg, rfl, hi1, hj1, hrow, hpw, rfl, rfl, hle5⟩
   have hol := hpw.len
   have hL := Le.trans hL hle5
   have hB := rd.mono hle5 hB
   have hX := rd.mono hle5 hX
   have hle1 := Le.trans hle1 hle5
   refine TC.seq ?_
   refine TC.seq ?_
   refine TC.region ?_
   refine TL.move rfl rfl ?_
   refine TL.move rfl rfl ?_
   refine TL.lssB rfl rfl rfl (fun hi => ?_) (fun hi => ?_)
   ·
    refine TL.move rfl rfl ?_
    refine TL.gyes rfl rfl rfl ?_
    refine TL.move rfl rfl ?_
    refine TL.gyes rfl rfl rfl ?_
    refine TL.move rfl rfl ?_
    refine TL.gyes rfl rfl rfl ?_
    refine TL.lssB rfl rfl rfl (fun hj => ?_) (fun hj => ?_)
    ·
     obtain ⟨s, hs⟩ : ∃ s, b[i]? = some s := ⟨_, List.getElem?_eq_getElem (by omega)⟩
     obtain ⟨t, ht⟩ : ∃ t, x[j]? = some t := ⟨_, List.getElem?_eq_getElem (by omega)⟩
     obtain ⟨p, hpm⟩ : ∃ p, p = i * (x.length + 1) := ⟨_, rfl⟩
     have hp2 := hrow2 i (by omega)
     rw [← hpm] at hp2
     have hat : (i : Int) * ((x.length : Int) + 1) = (p : Int) := by rw [hpm]; simp
     have e0 := hok (i + 1) j (by omega) (by omega) (.inl (by omega))
     have e1 := hok i (j + 1) (by omega) (by omega) (.inl (by omega))
     have e3 := hos i j s t hs ht (.inl (by omega))
     refine TL.pickT rfl rfl rfl rfl ?_
     refine TL.nil ?_
     refine TQ.then_n ?_
     refine TC.cond_t rfl ?_
     refine TC.skip ?_
     refine TQ.then_n ?_
     refine TC.block ?_
     refine TC.seq ?_
     refine TC.region ?_
     refine TL.move rfl rfl ?_
     refine TL.move rfl rfl ?_
     refine TL.add rfl rfl rfl ⟨by omega, by omega⟩ ?_
     refine TL.mul rfl rfl rfl (by rw [hat]; exact ⟨by omega, by omega⟩) ?_
     rw [hat]
     refine TL.move rfl rfl ?_
     refine TL.add rfl rfl rfl ⟨by omega, by omega⟩ ?_
     refine TL.assign rfl rfl ?_
     refine TL.nil ?_
     refine TQ.then_n ?_
     refine TC.block ?_
     refine TC.seq ?_
     refine TC.region ?_
     refine TL.move rfl rfl ?_
     refine TL.move rfl rfl ?_
     refine TL.indexAddr (p + j) rfl rfl (by omega) (by omega) rfl ?_
     refine TL.load_own 2 0 rfl rfl rfl (bool_get (i := i) (j := j) (by omega) (by omega) (by omega)) rfl ?_
     refine TL.assign rfl rfl ?_
     refine TL.nil ?_
     refine TQ.then_n ?_
     refine TC.cond rfl (fun hsame => ?_) (fun hsame => ?_)
     ·
      replace hsame : s = t := (Tr.eqb_iff s t).1 (by rw [← e3]; exact hsame)
      refine TC.seq ?_
      refine TC.region ?_
      refine TL.move rfl rfl ?_
      refine TL.move rfl rfl ?_
      refine TL.move rfl rfl ?_
      refine TL.array [(0, [_]), (1, [_])] ⟨rfl, ⟨_, rfl, rfl⟩, rfl, ⟨_, rfl, rfl⟩, trivial⟩ rfl rfl ?_
      refine TL.litF (r := [_, _]) [(0, [_, _])] ⟨rfl, ⟨_, rfl, rfl⟩, trivial⟩ rfl rfl rfl rfl ?_; intro g118
      refine TL.append 1 rfl rfl rfl hrow (Src.ofOwn 0 0 rfl rfl rfl (Ones.all (show Ones [_, _] from ⟨by rfl, by rfl, trivial⟩)) ⟨rfl, rfl, trivial⟩) (by omega) (by omega) rfl ?_
      intro v' seg' hrow'
      refine TL.assign rfl rfl ?_
      refine TL.nil ?_
      refine TQ.then_n ?_
      refine TC.seq ?_
      refine TC.region ?_
      refine TL.move rfl rfl ?_
      refine TL.add rfl rfl rfl ⟨by omega, by omega⟩ ?_
      refine TL.assign rfl rfl ?_
      refine TL.nil ?_
      refine TQ.then_n ?_
      refine TC.region ?_
      refine TL.move rfl rfl ?_
      refine TL.add rfl rfl rfl ⟨by omega, by omega⟩ ?_
      refine TL.assign rfl rfl ?_
      refine TL.nil ?_
      refine TQ.in_n ?_
      refine TQ.in_n ?_
      refine TQ.sel 4 [1, 2, 3] rfl (fun o ho => ?_)
      simp only [K.sel, List.map_cons, List.map_nil, List.getD_cons_zero, List.getD_cons_succ, List.drop_succ_cons, List.drop_zero, List.cons_append, List.nil_append, List.set_cons_zero, List.set_cons_succ] at ho; subst ho
      have hsu := hpw.succ hs ht
      first
        | refine TQ.next ((b.length - (i + 1)) + (x.length - (j + 1))) [(0, _), (1, _), (5, _), (6, _), (7, _), (8, _), (12, _), (13, _), (14, _)] (by omega) ⟨rfl, rfl, rfl, rfl, rfl, rfl, rfl, rfl, rfl, trivial⟩ ⟨i + 1, j + 1, v', out ++ [(i, j)], seg', rfl, by omega, by omega, by rw [pairsV_snoc]; simpa using hrow', by simpa [hsame] using hsu, by simp, rfl, hle5⟩
        | refine TQ.next ((b.length - (i + 1)) + (x.length - j)) [(0, _), (1, _), (5, _), (6, _), (7, _), (8, _), (12, _), (13, _), (14, _)] (by omega) ⟨rfl, rfl, rfl, rfl, rfl, rfl, rfl, rfl, rfl, trivial⟩ ⟨i + 1, j, u, out, seg, rfl, by omega, by omega, hrow, by simpa only [if_neg hsame, if_pos hle'] using hsu, by simp, rfl, hle5⟩
        | refine TQ.next ((b.length - i) + (x.length - (j + 1))) [(0, _), (1, _), (5, _), (6, _), (7, _), (8, _), (12, _), (13, _), (14, _)] (by omega) ⟨rfl, rfl, rfl, rfl, rfl, rfl, rfl, rfl, rfl, trivial⟩ ⟨i, j + 1, u, out, seg, rfl, by omega, by omega, hrow, by simpa only [if_neg hsame, if_neg hle'] using hsu, by simp, rfl, hle5⟩
     ·
      replace hsame : s ≠ t := fun h => by rw [e3, h, eqb_self0] at hsame; cases hsame
      refine TC.seq ?_
      refine TC.drawQV 12  [(0, _), (1, _), (5, _), (6, _), (7, _), (8, _), (12, _), (13, _), (14, _), (15, _)] follows_mixed ⟨rfl, rfl, rfl, rfl, rfl, rfl, rfl, rfl, rfl, rfl, trivial⟩ ?_
      refine ChainV.q (some 125) [] (by
       intro H' X F hle
       have hL := Le.trans hL hle
       have hB := rd.mono hle hB
       have hX := rd.mono hle hX
       have hle1 := Le.trans hle1 hle
       have hle5 := Le.trans hle5 hle
       intro hF
       refine TL.move rfl rfl ?_
       refine TL.nil ?_
       exact TQ.one [] hF (Le.refl _) ⟨rfl, rfl⟩) ?_
      refine ChainV.q (some 126) [] (by
       intro H' X F hle
       have hL := Le.trans hL hle
       have hB := rd.mono hle hB
       have hX := rd.mono hle hX
       have hle1 := Le.trans hle1 hle
       have hle5 := Le.trans hle5 hle
       intro hF
       refine TL.move rfl rfl ?_
       refine TL.nil ?_
       exact TQ.one [] hF (Le.refl _) ⟨rfl, rfl⟩) ?_
      refine ChainV.q (some 127) [] (by
       intro H' X F hle
       have hL := Le.trans hL hle
       have hB := rd.mono hle hB
       have hX := rd.mono hle hX
       have hle1 := Le.trans hle1 hle
       have hle5 := Le.trans hle5 hle
       intro hF
       refine TL.move rfl rfl ?_
       refine TL.nil ?_
       exact TQ.one [] hF (Le.refl _) ⟨rfl, rfl⟩) ?_
      refine ChainV.q (some 128) [(1, 1), (2, 0)] (by
       intro H' X F hle
       have hL := Le.trans hL hle
       have hB := rd.mono hle hB
       have hX := rd.mono hle hX
       have hle1 := Le.trans hle1 hle
       have hle5 := Le.trans hle5 hle
       intro hF
       refine TL.add rfl rfl rfl ⟨by omega, by omega⟩ ?_
       refine TL.nil ?_
       exact TQ.one [] hF (Le.refl _) ⟨rfl, rfl⟩) ?_
      refine ChainV.q (some 129) [(3, 0)] (by
       intro H' X F hle
       have hL := Le.trans hL hle
       have hB := rd.mono hle hB
       have hX := rd.mono hle hX
       have hle1 := Le.trans hle1 hle
       have hle5 := Le.trans hle5 hle
       intro hF
       refine TL.add rfl rfl rfl ⟨by omega, by omega⟩ ?_
       refine TL.nil ?_
       exact TQ.one [] hF (Le.refl _) ⟨rfl, rfl⟩) ?_
      refine ChainV.q (some 130) [(0, 4), (4, 0)] (by
       intro H' X F hle
       have hL := Le.trans hL hle
       have hB := rd.mono hle hB
       have hX := rd.mono hle hX
       have hle1 := Le.trans hle1 hle
       have hle5 := Le.trans hle5 hle
       intro hF
       refine TL.indexAddr (p + j + x.length + 1) rfl rfl (by omega) (by omega) rfl ?_
       refine TL.nil ?_
       exact TQ.one [] hF (Le.refl _) ⟨rfl, rfl⟩) ?_
      refine ChainV.q (some 131) [(5, 0)] (by
       intro H' X F hle
       have hL := Le.trans hL hle
       have hB := rd.mono hle hB
       have hX := rd.mono hle hX
       have hle1 := Le.trans hle1 hle
       have hle5 := Le.trans hle5 hle
       intro hF
       refine TL.load_own 1 0 rfl rfl rfl (int_get (i := i + 1) (j := j) (by omega) (by rw [Nat.add_mul, Nat.one_mul, ← hpm]; omega) (by omega)) rfl ?_
       refine TL.nil ?_
       exact TQ.one [] hF (Le.refl _) ⟨rfl, rfl⟩) ?_
      refine ChainV.q (some 132) [] (by
       intro H' X F hle
       have hL := Le.trans hL hle
       have hB := rd.mono hle hB
       have hX := rd.mono hle hX
       have hle1 := Le.trans hle1 hle
       have hle5 := Le.trans hle5 hle
       intro hF
       refine TL.move rfl rfl ?_
       refine TL.nil ?_
       exact TQ.one [] hF (Le.refl _) ⟨rfl, rfl⟩) ?_
      refine ChainV.q (some 133) [] (by
       intro H' X F hle
       have hL := Le.trans hL hle
       have hB := rd.mono hle hB
       have hX := rd.mono hle hX
       have hle1 := Le.trans hle1 hle
       have hle5 := Le.trans hle5 hle
       intro hF
       refine TL.move rfl rfl ?_
       refine TL.nil ?_
       exact TQ.one [] hF (Le.refl _) ⟨rfl, rfl⟩) ?_
      refine ChainV.q (some 134) [(8, 0)] (by
       intro H' X F hle
       have hL := Le.trans hL hle
       have hB := rd.mono hle hB
       have hX := rd.mono hle hX
       have hle1 := Le.trans hle1 hle
       have hle5 := Le.trans hle5 hle
       intro hF
       refine TL.add rfl rfl rfl ⟨by omega, by omega⟩ ?_
       refine TL.nil ?_
       exact TQ.one [] hF (Le.refl _) ⟨rfl, rfl⟩) ?_
      refine ChainV.q (some 135) [(7, 2), (9, 0)] (by
       intro H' X F hle
       have hL := Le.trans hL hle
       have hB := rd.mono hle hB
       have hX := rd.mono hle hX
       have hle1 := Le.trans hle1 hle
       have hle5 := Le.trans hle5 hle
       intro hF
       refine TL.indexAddr (p + j + 1) rfl rfl (by omega) (by omega) rfl ?_
       refine TL.nil ?_
       exact TQ.one [] hF (Le.refl _) ⟨rfl, rfl⟩) ?_
      refine ChainV.q (some 136) [(10, 0)] (by
       intro H' X F hle
       have hL := Le.trans hL hle
       have hB := rd.mono hle hB
       have hX := rd.mono hle hX
       have hle1 := Le.trans hle1 hle
       have hle5 := Le.trans hle5 hle
       intro hF
       refine TL.load_own 1 0 rfl rfl rfl (int_get (i := i) (j := j + 1) (by omega) (by omega) (by omega)) rfl ?_
       refine TL.nil ?_
       exact TQ.one [] hF (Le.refl _) ⟨rfl, rfl⟩) ?_
      refine ⟨by kernel_rfl, .refl _, ?_⟩
      ·
       intro H5 hle
       have hL := Le.trans hL hle
       have hB := rd.mono hle hB
       have hX := rd.mono hle hX
       have hle1 := Le.trans hle1 hle
       have hle5 := Le.trans hle5 hle
       refine TL.toOwn (own' := _ :: _ :: _ :: own) rfl ?_
       refine TL.wk (env' := [(0, _), (1, _), (5, _), (6, _), (7, _), (8, _), (12, _), (13, _), (14, _), (15, _), (131, _), (136, _)]) ⟨rfl, rfl, rfl, rfl, rfl, rfl, rfl, rfl, rfl, rfl, rfl, rfl, trivial⟩ ?_
       refine TL.geqB rfl rfl rfl (fun hge => ?_) (fun hge => ?_)
       ·
        have hle' : lcs (b.drop i) (x.drop (j + 1)) ≤ lcs (b.drop (i + 1)) (x.drop j) := by omega
        refine TL.assign rfl rfl ?_
        refine TL.nil ?_
        refine TQ.then_n ?_
        refine TC.cond_t rfl ?_
        refine TC.region ?_
        refine TL.move rfl rfl ?_
        refine TL.add rfl rfl rfl ⟨by omega, by omega⟩ ?_
        refine TL.assign rfl rfl ?_
        refine TL.nil ?_
        refine TQ.in_n ?_
        refine TQ.in_n ?_
        refine TQ.toOwn (own' := _ :: _ :: _ :: own) rfl ?_
        have hsu := hpw.succ hs ht
        first
          | refine TQ.next ((b.length - (i + 1)) + (x.length - (j + 1))) [(0, _), (1, _), (5, _), (6, _), (7, _), (8, _), (12, _), (13, _), (14, _)] (by omega) ⟨rfl, rfl, rfl, rfl, rfl, rfl, rfl, rfl, rfl, trivial⟩ ⟨i + 1, j + 1, v', out ++ [(i, j)], seg', rfl, by omega, by omega, by rw [pairsV_snoc]; simpa using hrow', by simpa [hsame] using hsu, by simp, rfl, hle5⟩
          | refine TQ.next ((b.length - (i + 1)) + (x.length - j)) [(0, _), (1, _), (5, _), (6, _), (7, _), (8, _), (12, _), (13, _), (14, _)] (by omega) ⟨rfl, rfl, rfl, rfl, rfl, rfl, rfl, rfl, rfl, trivial⟩ ⟨i + 1, j, u, out, seg, rfl, by omega, by omega, hrow, by simpa only [if_neg hsame, if_pos hle'] using hsu, by simp, rfl, hle5⟩
          | refine TQ.next ((b.length - i) + (x.length - (j + 1))) [(0, _), (1, _), (5, _), (6, _), (7, _), (8, _), (12, _), (13, _), (14, _)] (by omega) ⟨rfl, rfl, rfl, rfl, rfl, rfl, rfl, rfl, rfl, trivial⟩ ⟨i, j + 1, u, out, seg, rfl, by omega, by omega, hrow, by simpa only [if_neg hsame, if_neg hle'] using hsu, by simp, rfl, hle5⟩
       ·
        have hle' : ¬ lcs (b.drop i) (x.drop (j + 1)) ≤ lcs (b.drop (i + 1)) (x.drop j) := by omega
        refine TL.assign rfl rfl ?_
        refine TL.nil ?_
        refine TQ.then_n ?_
        refine TC.cond_f rfl ?_
        refine TC.region ?_
        refine TL.move rfl rfl ?_
        refine TL.add rfl rfl rfl ⟨by omega, by omega⟩ ?_
        refine TL.assign rfl rfl ?_
        refine TL.nil ?_
        refine TQ.in_n ?_
        refine TQ.in_n ?_
        refine TQ.toOwn (own' := _ :: _ :: _ :: own) rfl ?_
        have hsu := hpw.succ hs ht
        first
          | refine TQ.next ((b.length - (i + 1)) + (x.length - (j + 1))) [(0, _), (1, _), (5, _), (6, _), (7, _), (8, _), (12, _), (13, _), (14, _)] (by omega) ⟨rfl, rfl, rfl, rfl, rfl, rfl, rfl, rfl, rfl, trivial⟩ ⟨i + 1, j + 1, v', out ++ [(i, j)], seg', rfl, by omega, by omega, by rw [pairsV_snoc]; simpa using hrow', by simpa [hsame] using hsu, by simp, rfl, hle5⟩
          | refine TQ.next ((b.length - (i + 1)) + (x.length - j)) [(0, _), (1, _), (5, _), (6, _), (7, _), (8, _), (12, _), (13, _), (14, _)] (by omega) ⟨rfl, rfl, rfl, rfl, rfl, rfl, rfl, rfl, rfl, trivial⟩ ⟨i + 1, j, u, out, seg, rfl, by omega, by omega, hrow, by simpa only [if_neg hsame, if_pos hle'] using hsu, by simp, rfl, hle5⟩
          | refine TQ.next ((b.length - i) + (x.length - (j + 1))) [(0, _), (1, _), (5, _), (6, _), (7, _), (8, _), (12, _), (13, _), (14, _)] (by omega) ⟨rfl, rfl, rfl, rfl, rfl, rfl, rfl, rfl, rfl, trivial⟩ ⟨i, j + 1, u, out, seg, rfl, by omega, by omega, hrow, by simpa only [if_neg hsame, if_neg hle'] using hsu, by simp, rfl, hle5⟩
    ·
     refine TL.pickT rfl rfl rfl rfl ?_
     refine TL.nil ?_
     refine TQ.then_n ?_
     refine TC.cond_f rfl ?_
     refine TC.exit ?_
     refine TQ.then_e ?_
     refine TQ.then_e ?_
     refine TQ.in_e ?_
     refine TQ.then_n ?_
     refine TC.seq ?_
     refine TC.region ?_
     refine TL.move rfl rfl ?_
     refine TL.move rfl rfl ?_
     refine TL.move rfl rfl ?_
     refine TL.array [(0, [_]), (1, [_])] ⟨rfl, ⟨_, rfl, rfl⟩, rfl, ⟨_, rfl, rfl⟩, trivial⟩ rfl rfl ?_
     refine TL.litF (r := [_, _]) [(0, [_, _])] ⟨rfl, ⟨_, rfl, rfl⟩, trivial⟩ rfl rfl rfl rfl ?_; intro g144
     refine TL.append 1 rfl rfl rfl hrow (Src.ofOwn 0 0 rfl rfl rfl (Ones.all (show Ones [_, _] from ⟨by rfl, by rfl, trivial⟩)) ⟨rfl, rfl, trivial⟩) (by omega) (by omega) rfl ?_
     intro v' seg' hrow'
     refine TL.assign rfl rfl ?_
     refine TL.nil ?_
     refine TQ.then_n ?_
     refine TC.ret ?_
     refine TQ.sel 4 [1, 0, 2, 3] rfl (fun o ho => ?_)
     simp only [K.sel, List.map_cons, List.map_nil, List.getD_cons_zero, List.getD_cons_succ, List.drop_succ_cons, List.drop_zero, List.cons_append, List.nil_append, List.set_cons_zero, List.set_cons_succ] at ho; subst ho
     refine TQ.freeze (fun H6 hle hz_outr => ?_)
     have hL := Le.trans hL hle
     have hB := rd.mono hle hB
     have hX := rd.mono hle hX
     have hle1 := Le.trans hle1 hle
     have hle5 := Le.trans hle5 hle
     refine TQ.ret1 3 rfl rfl ?_
     refine ⟨?_, rfl, hL⟩
     rw [← hpw.done (by omega)]
     refine rd.ofRow hrow' hz_outr ?_ (Le.refl _)
     rw [pairsV_snoc]
     exact RdL.vals (pairsV out ++ _)
   ·
    refine TL.move rfl rfl ?_
    refine TL.gno rfl rfl rfl rfl ?_
    refine TL.gno rfl rfl rfl rfl ?_
    refine TL.gno rfl rfl rfl rfl ?_
    refine TL.pickF rfl rfl rfl rfl ?_
    refine TL.nil ?_
    refine TQ.then_n ?_
    refine TC.cond_f rfl ?_
    refine TC.exit ?_
    refine TQ.then_e ?_
    refine TQ.then_e ?_
    refine TQ.in_e ?_
    refine TQ.then_n ?_
    refine TC.seq ?_
    refine TC.region ?_
    refine TL.move rfl rfl ?_
    refine TL.move rfl rfl ?_
    refine TL.move rfl rfl ?_
    refine TL.array [(0, [_]), (1, [_])] ⟨rfl, ⟨_, rfl, rfl⟩, rfl, ⟨_, rfl, rfl⟩, trivial⟩ rfl rfl ?_
    refine TL.litF (r := [_, _]) [(0, [_, _])] ⟨rfl, ⟨_, rfl, rfl⟩, trivial⟩ rfl rfl rfl rfl ?_; intro g144
    refine TL.append 1 rfl rfl rfl hrow (Src.ofOwn 0 0 rfl rfl rfl (Ones.all (show Ones [_, _] from ⟨by rfl, by rfl, trivial⟩)) ⟨rfl, rfl, trivial⟩) (by omega) (by omega) rfl ?_
    intro v' seg' hrow'
    refine TL.assign rfl rfl ?_
    refine TL.nil ?_
    refine TQ.then_n ?_
    refine TC.ret ?_
    refine TQ.sel 4 [1, 0, 2, 3] rfl (fun o ho => ?_)
    simp only [K.sel, List.map_cons, List.map_nil, List.getD_cons_zero, List.getD_cons_succ, List.drop_succ_cons, List.drop_zero, List.cons_append, List.nil_append, List.set_cons_zero, List.set_cons_succ] at ho; subst ho
    refine TQ.freeze (fun H7 hle hz_outr => ?_)
    have hL := Le.trans hL hle
    have hB := rd.mono hle hB
    have hX := rd.mono hle hX
    have hle1 := Le.trans hle1 hle
    have hle5 := Le.trans hle5 hle
    refine TQ.ret1 3 rfl rfl ?_
    refine ⟨?_, rfl, hL⟩
    rw [← hpw.done (by omega)]
    refine rd.ofRow hrow' hz_outr ?_ (Le.refl _)
    rw [pairsV_snoc]
    exact RdL.vals (pairsV out ++ _)

end Go.Proofs.Ytapmmfabdmhdnaa.K
