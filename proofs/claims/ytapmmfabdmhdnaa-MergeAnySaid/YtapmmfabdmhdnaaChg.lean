/-
  Turned, changed.
-/
import Derived.Test.YtapmmfabdmhdnaaWTurn
import Derived.Test.YtapmmfabdmhdnaaFrame
set_option linter.unusedVariables false
set_option linter.unusedSimpArgs false
set_option maxHeartbeats 4000000
namespace Go.Proofs.Ytapmmfabdmhdnaa.K
open Go Go.RowKit Go.Proofs


theorem ref_Turned {t : Tr} (hs : t.size ≤ 1000) {q : Int × Int × Int} (hq : I64 q.1 ∧ I64 q.2.1 ∧ I64 q.2.2) {w0 : World} {H : Hp} {own : List Seg} {a0 a1 : Value} (ht : RdL H t.d [a0, a1]) :
    Fn Try.prog 30 [.agg #[a0, a1], .agg #[.int .i64 q.1, .int .i64 q.2.1, .int .i64 q.2.2]] w0 H own (fun r own' H' => ∃ c0 c1, r = .agg #[c0, c1] ∧ RdL H' (turnedP t q).d [c0, c1] ∧ own' = own ∧ Le H H') := by
  have hone := tr_ones ht
  have hp := t.size_pos
  obtain ⟨q0, q1, q2⟩ := q
  obtain ⟨i0, i1, i2⟩ := hq
  have hm1 := Int.emod_nonneg q0 (b := (t.size : Int)) (by omega)
  have hm2 := Int.emod_lt_of_pos q0 (b := (t.size : Int)) (by omega)
  have hcast : q0 % (t.size : Int) = ((q0 % (t.size : Int)).toNat : Int) := by omega
  refine Fn.enter Try.func30 rfl Try.ntmps30 rfl ?_
  have hL := Le.refl H
  refine TC.seq ?_
  refine TC.region ?_
  refine TL.box (c := #[_, _]) rfl rfl rfl ?_; intro g2
  refine TL.box (c := #[_, _, _]) rfl rfl rfl ?_; intro g3
  refine TL.new rfl ?_; intro g4
  refine TL.nil ?_
  refine TQ.then_n ?_
  refine TC.seq ?_
  refine TC.drawQV 7  [(0, _), (1, _), (2, _), (3, _), (4, _)] follows_mixed ⟨rfl, rfl, rfl, rfl, rfl, trivial⟩ ?_
  refine ChainV.q (some 5) [] (by
   intro H' X F hle
   have hL := Le.trans hL hle
   have ht := RdL.mono hle ht
   intro hF
   refine TL.load_ownA 2 0 [_, _] rfl rfl rfl ⟨rfl, rfl, trivial⟩ rfl rfl ?_
   refine TL.nil ?_
   exact TQ.one [] hF (Le.refl _) ⟨rfl, rfl⟩) ?_
  refine ChainV.q (some 6) [] (by
   intro H' X F hle
   have hL := Le.trans hL hle
   have ht := RdL.mono hle ht
   intro hF
   refine TL.indexArr (0) rfl rfl rfl (by omega) rfl ?_
   refine TL.nil ?_
   exact TQ.one [] hF (Le.refl _) ⟨rfl, rfl⟩) ?_
  refine ChainV.q (some 7) [(1, 0)] (by
   intro H' X F hle
   have hL := Le.trans hL hle
   have ht := RdL.mono hle ht
   intro hF
   refine TL.load_own 1 0 rfl rfl rfl rfl rfl ?_
   refine TL.nil ?_
   exact TQ.one [] hF (Le.refl _) ⟨rfl, rfl⟩) ?_
  refine ChainV.q (some 8) [] (by
   intro H' X F hle
   have hL := Le.trans hL hle
   have ht := RdL.mono hle ht
   intro hF
   refine TL.load_ownA 2 0 [_, _] rfl rfl rfl ⟨rfl, rfl, trivial⟩ rfl rfl ?_
   refine TL.nil ?_
   exact TQ.one [] hF (Le.refl _) ⟨rfl, rfl⟩) ?_
  refine ChainV.q (some 9) [(3, 0)] (by
   intro H' X F hle
   have hL := Le.trans hL hle
   have ht := RdL.mono hle ht
   intro hF
   refine TL.call (ref_Size _ _ (Nat.le_refl _) (by omega) ht) ⟨rfl, trivial⟩ rfl ?_
   rintro _ _ H2 ⟨rfl, rfl, hle2⟩
   refine TL.nil ?_
   exact TQ.one [] hF hle2 ⟨rfl, rfl⟩) ?_
  refine ChainV.q (some 10) [(2, 2), (4, 0)] (by
   intro H' X F hle
   have hL := Le.trans hL hle
   have ht := RdL.mono hle ht
   intro hF
   refine TL.call (ref_Mod i0 (by omega) (by omega)) ⟨rfl, rfl, trivial⟩ rfl ?_
   rintro _ _ H2 ⟨rfl, rfl, hle2⟩
   refine TL.nil ?_
   exact TQ.one [] hF hle2 ⟨rfl, rfl⟩) ?_
  refine ChainV.q (some 11) [] (by
   intro H' X F hle
   have hL := Le.trans hL hle
   have ht := RdL.mono hle ht
   intro hF
   refine TL.load_ownA 1 0 [_, _, _] rfl rfl rfl ⟨rfl, rfl, rfl, trivial⟩ rfl rfl ?_
   refine TL.nil ?_
   exact TQ.one [] hF (Le.refl _) ⟨rfl, rfl⟩) ?_
  refine ⟨by kernel_rfl, .refl _, ?_⟩
  ·
   intro H1 hle
   have hL := Le.trans hL hle
   have ht := RdL.mono hle ht
   refine TL.toOwn (own' := _ :: _ :: _ :: own) rfl ?_
   refine TL.wk (env' := [(0, _), (1, _), (4, _), (5, _), (10, _), (11, _)]) ⟨rfl, rfl, rfl, rfl, rfl, rfl, trivial⟩ ?_
   refine TL.call (ref_turn i1 i2 _ _ (Nat.le_refl _) (by omega) hcast (by omega) ht) ⟨rfl, rfl, rfl, trivial⟩ rfl ?_
   rintro _ _ H3 ⟨c0, c1, rfl, hr, rfl, hle3⟩
   have hL := Le.trans hL hle3
   have ht := RdL.mono hle3 ht
   refine TL.storeA 0 0 (vs := [c0, c1]) (c' := #[_, _]) (own' := [(_, .cells #[_, _] _ _)] :: _) rfl rfl rfl rfl rfl (tr_ones hr) (by simp) rfl rfl rfl ?_
   refine TL.nil ?_
   refine TQ.then_n ?_
   refine TC.ret ?_
   refine TQ.retC 0 0 3 [_, _] rfl rfl rfl rfl ⟨rfl, rfl, trivial⟩ rfl rfl ?_
   exact ⟨_, _, rfl, hr, rfl, hL⟩
theorem trips_len {H : Hp} {l : List (Int × Int × Int)} {v : Value} (h : rd H (.s 3 (trips l)) v) : ∃ A c, v = .slice A l.length c ∧ l.length ≤ c ∧ c ≤ 9223372036854775807 := by
  obtain ⟨A, n, c, rfl, h1, h2, h3⟩ := h.s_len
  have e : (trips l).length = l.length * 3 := by simp [trips, tripV_len]
  have : n = l.length := by omega
  subst this
  exact ⟨A, c, rfl, h2, h3⟩
theorem trips_at {H : Hp} {l : List (Int × Int × Int)} {A : Option Addr} {n c : Nat} (h : rd H (.s 3 (trips l)) (.slice A n c)) {i : Nat} {q : Int × Int × Int} (hi : l[i]? = some q) :
    ∃ b o, A = some ⟨b, o, none⟩ ∧ hAt H b (o + i * 3) [.int .i64 q.1, .int .i64 q.2.1, .int .i64 q.2.2] := by
  have hlt : i < l.length := (List.getElem?_eq_some_iff.1 hi).1
  have hn : n = l.length := by
    obtain ⟨A', c', e, _⟩ := trips_len h
    injection e
  subst hn
  obtain ⟨_, b, o, rfl, hr⟩ := h.s_at (by omega)
  obtain ⟨g0, g1, g2⟩ := tripV_get l i q hi
  obtain ⟨u0, h0, r0⟩ := hr.get (i * 3) (.c (.int .i64 q.1)) (by simp only [trips, List.getElem?_map, g0]; rfl)
  obtain ⟨u1, h1, r1⟩ := hr.get (i * 3 + 1) (.c (.int .i64 q.2.1)) (by simp only [trips, List.getElem?_map, g1]; rfl)
  obtain ⟨u2, h2, r2⟩ := hr.get (i * 3 + 2) (.c (.int .i64 q.2.2)) (by simp only [trips, List.getElem?_map, g2]; rfl)
  simp only [rd] at r0 r1 r2
  subst r0; subst r1; subst r2
  exact ⟨b, o, rfl, h0, by rw [← h1]; congr 1, by rw [← h2]; congr 1, trivial⟩
theorem take_fold (t : Tr) (q : List (Int × Int × Int)) {k : Nat} {x : Int × Int × Int} (hx : q[k]? = some x) : (q.take (k + 1)).foldl turnedP t = turnedP ((q.take k).foldl turnedP t) x := by
  rw [List.take_add_one, hx]; simp
theorem law_changed {t : Tr} (hs : t.size ≤ 900) {q : List (Int × Int × Int)} (hq : ∀ x ∈ q, I64 x.1 ∧ I64 x.2.1 ∧ I64 x.2.2) {w0 : World} {H : Hp} {own : List Seg} {a0 a1 v : Value} (ht : RdL H t.d [a0, a1]) (hA : rd H (.s 3 (trips q)) v) :
    Fn Try.prog 16 [.agg #[a0, a1], v] w0 H own (fun r own' H' => ∃ c0 c1, r = .agg #[c0, c1] ∧ RdL H' (changedP t q).d [c0, c1] ∧ own' = own ∧ Le H H') := by
  obtain ⟨A, c, rfl, hc1, hc2⟩ := trips_len hA
  have hone := tr_ones ht
  refine Fn.enter Try.func16 rfl Try.ntmps16 rfl ?_
  have hL := Le.refl H
  refine TC.seq ?_
  refine TC.region ?_
  refine TL.box (c := #[_, _]) rfl rfl rfl ?_; intro g2
  refine TL.new rfl ?_; intro g4
  refine TL.nil ?_
  refine TQ.then_n ?_
  refine TC.seq ?_
  refine TC.seq ?_
  refine TC.region ?_
  refine TL.assign rfl rfl ?_
  refine TL.nil ?_
  refine TQ.then_n ?_
  refine TC.block ?_
  refine TC.loop (fun n env' own' H' => ∃ (k : Nat) (b0 b1 : Value), n = q.length - k ∧ k ≤ q.length ∧ k ≤ 6 ∧ RdL H' ((q.take k).foldl turnedP t).d [b0, b1] ∧ env' = [(1, .slice A q.length c), (2, .pointer (some ⟨g2, 0, none⟩)), (4, .pointer (some ⟨g4, 0, none⟩)), (5, .int .i64 (k : Int))] ∧ own' = [(g4, .cells #[.string ⟨#[]⟩, .slice none 0 0] 27 (0, 0))] :: [(g2, .cells #[b0, b1] 27 (0, 0))] :: own ∧ Le H H') q.length [(1, _), (2, _), (4, _), (5, _)] ⟨rfl, rfl, rfl, rfl, trivial⟩ ⟨0, a0, a1, by omega, by omega, by omega, by simpa using ht, rfl, rfl, Le.refl _⟩ ?_
  rintro n _ _ H1 ⟨k, b0, b1, rfl, hk1, hk6, hr, rfl, rfl, hle0⟩
  have hL := Le.trans hL hle0
  have ht := RdL.mono hle0 ht
  have hA := rd.mono hle0 hA
  have hsz := fold_size (q.take k) t
  have hlen : (q.take k).length ≤ k := by simp; omega
  have hone2 := tr_ones hr
  refine TC.seq ?_
  refine TC.seq ?_
  refine TC.region ?_
  refine TL.move rfl rfl ?_
  refine TL.move rfl rfl ?_
  refine TL.len_slice rfl rfl ?_
  refine TL.lssB rfl rfl rfl (fun ha => ?_) (fun ha => ?_)
  ·
   refine TL.move rfl rfl ?_
   refine TL.gyes rfl rfl rfl ?_
   refine TL.move rfl rfl ?_
   refine TL.gyes rfl rfl rfl ?_
   refine TL.lssB rfl rfl rfl (fun hb => ?_) (fun hb => ?_)
   ·
    obtain ⟨x, hx⟩ : ∃ x, q[k]? = some x := ⟨_, List.getElem?_eq_getElem (by omega)⟩
    have hx2 := hq x (List.mem_of_getElem? hx)
    obtain ⟨b3, o3, rfl, hp⟩ := trips_at hA hx
    refine TL.pickT rfl rfl rfl rfl ?_
    refine TL.nil ?_
    refine TQ.then_n ?_
    refine TC.cond_t rfl ?_
    refine TC.skip ?_
    refine TQ.then_n ?_
    refine TC.seq ?_
    refine TC.block ?_
    refine TC.drawQV 5  [(1, _), (2, _), (4, _), (5, _)] follows_mixed ⟨rfl, rfl, rfl, rfl, trivial⟩ ?_
    refine ChainV.q (some 16) [] (by
     intro H' X F hle
     have hL := Le.trans hL hle
     have ht := RdL.mono hle ht
     have hA := rd.mono hle hA
     have hle0 := Le.trans hle0 hle
     have hr := RdL.mono hle hr
     have hp := hAt.mono hle hp
     intro hF
     refine TL.load_ownA 1 0 [_, _] rfl rfl rfl ⟨rfl, rfl, trivial⟩ rfl rfl ?_
     refine TL.nil ?_
     exact TQ.one [] hF (Le.refl _) ⟨rfl, rfl⟩) ?_
    refine ChainV.q (some 17) [] (by
     intro H' X F hle
     have hL := Le.trans hL hle
     have ht := RdL.mono hle ht
     have hA := rd.mono hle hA
     have hle0 := Le.trans hle0 hle
     have hr := RdL.mono hle hr
     have hp := hAt.mono hle hp
     intro hF
     refine TL.move rfl rfl ?_
     refine TL.nil ?_
     exact TQ.one [] hF (Le.refl _) ⟨rfl, rfl⟩) ?_
    refine ChainV.q (some 18) [] (by
     intro H' X F hle
     have hL := Le.trans hL hle
     have ht := RdL.mono hle ht
     have hA := rd.mono hle hA
     have hle0 := Le.trans hle0 hle
     have hr := RdL.mono hle hr
     have hp := hAt.mono hle hp
     intro hF
     refine TL.move rfl rfl ?_
     refine TL.nil ?_
     exact TQ.one [] hF (Le.refl _) ⟨rfl, rfl⟩) ?_
    refine ChainV.q (some 19) [(1, 1), (2, 0)] (by
     intro H' X F hle
     have hL := Le.trans hL hle
     have ht := RdL.mono hle ht
     have hA := rd.mono hle hA
     have hle0 := Le.trans hle0 hle
     have hr := RdL.mono hle hr
     have hp := hAt.mono hle hp
     intro hF
     refine TL.indexAddr (k) rfl rfl rfl (by omega) rfl ?_
     refine TL.nil ?_
     exact TQ.one [] hF (Le.refl _) ⟨rfl, rfl⟩) ?_
    refine ChainV.q (some 20) [(3, 0)] (by
     intro H' X F hle
     have hL := Le.trans hL hle
     have ht := RdL.mono hle ht
     have hA := rd.mono hle hA
     have hle0 := Le.trans hle0 hle
     have hr := RdL.mono hle hr
     have hp := hAt.mono hle hp
     intro hF
     refine TL.load_immA rfl (hp) rfl rfl ?_
     refine TL.nil ?_
     exact TQ.one [] hF (Le.refl _) ⟨rfl, rfl⟩) ?_
    refine ⟨by kernel_rfl, .refl _, ?_⟩
    ·
     intro H1 hle
     have hL := Le.trans hL hle
     have ht := RdL.mono hle ht
     have hA := rd.mono hle hA
     have hle0 := Le.trans hle0 hle
     have hr := RdL.mono hle hr
     have hp := hAt.mono hle hp
     refine TL.toOwn (own' := _ :: _ :: own) rfl ?_
     refine TL.wk (env' := [(1, _), (2, _), (4, _), (5, _), (16, _), (20, _)]) ⟨rfl, rfl, rfl, rfl, rfl, rfl, trivial⟩ ?_
     refine TL.call (ref_Turned (by omega) hx2 hr) ⟨rfl, rfl, trivial⟩ rfl ?_
     rintro _ _ H3 ⟨c0, c1, rfl, hr2, rfl, hle3⟩
     have hL := Le.trans hL hle3
     have ht := RdL.mono hle3 ht
     have hA := rd.mono hle3 hA
     have hle0 := Le.trans hle0 hle3
     have hr := RdL.mono hle3 hr
     have hp := hAt.mono hle3 hp
     refine TL.storeA 1 0 (vs := [c0, c1]) (c' := #[_, _]) (own' := _ :: [(_, .cells #[_, _] _ _)] :: _) rfl rfl rfl rfl rfl (tr_ones hr2) (by simp) rfl rfl rfl ?_
     refine TL.nil ?_
     refine TQ.in_n ?_
     refine TQ.then_n ?_
     refine TC.region ?_
     refine TL.move rfl rfl ?_
     refine TL.add rfl rfl rfl ⟨by omega, by omega⟩ ?_
     refine TL.assign rfl rfl ?_
     refine TL.nil ?_
     refine TQ.next (q.length - (k + 1)) [(1, _), (2, _), (4, _), (5, _)] (by omega) ⟨rfl, rfl, rfl, rfl, trivial⟩ ⟨k + 1, c0, c1, rfl, by omega, by omega, ?_, by simp, rfl, hle0⟩
     rw [take_fold t q hx]
     exact hr2
   ·
    refine TL.pickT rfl rfl rfl rfl ?_
    refine TL.nil ?_
    refine TQ.then_n ?_
    refine TC.cond_f rfl ?_
    refine TC.exit ?_
    refine TQ.then_e ?_
    refine TQ.then_e ?_
    refine TQ.in_e ?_
    refine TQ.then_n ?_
    refine TC.seq ?_
    refine TC.region ?_
    refine TL.load_ownA 1 0 [_, _] rfl rfl rfl ⟨rfl, rfl, trivial⟩ rfl rfl ?_
    refine TL.storeA 0 0 (vs := [b0, b1]) (c' := #[_, _]) (own' := [(_, .cells #[_, _] _ _)] :: _) rfl rfl rfl rfl rfl hone2 (by simp) rfl rfl rfl ?_
    refine TL.nil ?_
    refine TQ.then_n ?_
    refine TC.ret ?_
    refine TQ.retC 0 0 2 [_, _] rfl rfl rfl rfl ⟨rfl, rfl, trivial⟩ rfl rfl ?_
    refine ⟨_, _, rfl, ?_, rfl, hL⟩
    have e : q.take 6 = q.take k := by
      by_cases h : k = 6
      · rw [h]
      · rw [List.take_of_length_le (show q.length ≤ k by omega), List.take_of_length_le (show q.length ≤ 6 by omega)]
    unfold changedP
    rw [e]
    exact hr
  ·
   refine TL.move rfl rfl ?_
   refine TL.gno rfl rfl rfl rfl ?_
   refine TL.gno rfl rfl rfl rfl ?_
   refine TL.pickF rfl rfl rfl rfl ?_
   refine TL.nil ?_
   refine TQ.then_n ?_
   refine TC.cond_f rfl ?_
   refine TC.exit ?_
   refine TQ.then_e ?_
   refine TQ.then_e ?_
   refine TQ.in_e ?_
   refine TQ.then_n ?_
   refine TC.seq ?_
   refine TC.region ?_
   refine TL.load_ownA 1 0 [_, _] rfl rfl rfl ⟨rfl, rfl, trivial⟩ rfl rfl ?_
   refine TL.storeA 0 0 (vs := [b0, b1]) (c' := #[_, _]) (own' := [(_, .cells #[_, _] _ _)] :: _) rfl rfl rfl rfl rfl hone2 (by simp) rfl rfl rfl ?_
   refine TL.nil ?_
   refine TQ.then_n ?_
   refine TC.ret ?_
   refine TQ.retC 0 0 2 [_, _] rfl rfl rfl rfl ⟨rfl, rfl, trivial⟩ rfl rfl ?_
   refine ⟨_, _, rfl, ?_, rfl, hL⟩
   have e : q.take 6 = q.take k := by
     by_cases h : k = 6
     · rw [h]
     · rw [List.take_of_length_le (show q.length ≤ k by omega), List.take_of_length_le (show q.length ≤ 6 by omega)]
   unfold changedP
   rw [e]
   exact hr

end Go.Proofs.Ytapmmfabdmhdnaa.K
