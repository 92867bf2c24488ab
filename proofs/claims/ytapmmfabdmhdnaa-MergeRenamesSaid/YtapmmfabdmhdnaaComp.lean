/-
  slices.Equal.
-/
import Derived.Test.YtapmmfabdmhdnaaMerge
import Derived.Test.YtapmmfabdmhdnaaTypes
import Derived.Test.YtapmmfabdmhdnaaBase
set_option linter.unusedVariables false
set_option linter.unusedSimpArgs false
set_option maxHeartbeats 4000000
namespace Go.Proofs.Ytapmmfabdmhdnaa.K
open Go Go.RowKit Go.Proofs

theorem path_at {H : Hp} {p : Path} {A : Option Addr} {n c : Nat} (h : rd H (pD p) (.slice A n c)) {i a : Nat} (hi : p[i]? = some a) : ∃ b o, A = some ⟨b, o, none⟩ ∧ cel H b (o + i * 1) = some (.int .i64 (a : Int)) :=
  vals_at (l := pV p) h (by simp [pV, hi])
theorem path_len {H : Hp} {p : Path} {v : Value} (h : rd H (pD p) v) : ∃ A c, v = .slice A p.length c ∧ p.length ≤ c ∧ c ≤ 9223372036854775807 := by
  have := vals_len (l := pV p) h
  rwa [pV_len] at this
theorem slices_equal {p q : Path} {w0 : World} {H : Hp} {own : List Seg} {va vb : Value} (hA : rd H (pD p) va) (hB : rd H (pD q) vb) :
    Fn Try.prog 36 [va, vb] w0 H own (fun v own' H' => v = .bool (decide (p = q)) ∧ own' = own ∧ Le H H') := by
  obtain ⟨A, c, rfl, hc1, hc2⟩ := path_len hA
  obtain ⟨B, c', rfl, hc1', hc2'⟩ := path_len hB
  refine Fn.enter Try.func36 rfl Try.ntmps36 rfl ?_
  have hL := Le.refl H
  refine TC.seq ?_
  refine TC.region ?_
  refine TL.assign rfl rfl ?_
  refine TL.nil ?_
  refine TQ.then_n ?_
  refine TC.seq ?_
  refine TC.seq ?_
  refine TC.region ?_
  refine TL.move rfl rfl ?_
  refine TL.len_slice rfl rfl ?_
  refine TL.move rfl rfl ?_
  refine TL.len_slice rfl rfl ?_
  refine TL.neqB rfl rfl rfl (fun hn => ?_) (fun hn => ?_)
  ·
   refine TL.nil ?_
   refine TQ.then_n ?_
   refine TC.cond_t rfl ?_
   refine TC.seq ?_
   refine TC.region ?_
   refine TL.assign rfl rfl ?_
   refine TL.nil ?_
   refine TQ.then_n ?_
   refine TC.ret ?_
   refine TQ.then_r ?_
   refine TQ.ret1 0 rfl rfl ?_
   first
     | exact ⟨by rw [decide_eq_false (fun h => hn (by rw [h]))], rfl, hL⟩
     | exact ⟨by rw [decide_eq_false (fun h => by subst h; rw [hx] at hy; injection hy with hy; omega)], rfl, hL⟩
     | exact ⟨by rw [decide_eq_true (by rw [List.take_of_length_le (by omega), List.take_of_length_le (by omega)] at hk2; exact hk2)], rfl, hL⟩
  ·
   refine TL.nil ?_
   refine TQ.then_n ?_
   refine TC.cond_f rfl ?_
   refine TC.skip ?_
   refine TQ.then_n ?_
   refine TC.seq ?_
   refine TC.seq ?_
   refine TC.region ?_
   refine TL.move rfl rfl ?_
   refine TL.len_slice rfl rfl ?_
   refine TL.move rfl rfl ?_
   refine TL.nil ?_
   refine TQ.then_n ?_
   refine TC.block ?_
   refine TC.loop (fun n env' own' H' => ∃ k : Nat, n = p.length - k ∧ k ≤ p.length ∧ p.take k = q.take k ∧ env' = [(0, .slice A p.length c), (1, .slice B q.length c'), (12, .int .i64 (p.length : Int)), (13, .int .i64 (k : Int))] ∧ own = own' ∧ Le H H') p.length [(0, _), (1, _), (12, _), (13, _)] ⟨rfl, rfl, rfl, rfl, trivial⟩ ⟨0, by omega, by omega, by simp, rfl, rfl, Le.refl _⟩ ?_
   rintro n _ _ H1 ⟨k, rfl, hk1, hk2, rfl, rfl, hle0⟩
   have hL := Le.trans hL hle0
   have hA := rd.mono hle0 hA
   have hB := rd.mono hle0 hB
   refine TC.seq ?_
   refine TC.region ?_
   refine TL.lssB rfl rfl rfl (fun hlt => ?_) (fun hlt => ?_)
   ·
    obtain ⟨x, hx⟩ : ∃ x, p[k]? = some x := ⟨_, List.getElem?_eq_getElem (by omega)⟩
    obtain ⟨y, hy⟩ : ∃ y, q[k]? = some y := ⟨_, List.getElem?_eq_getElem (by omega)⟩
    obtain ⟨b1, o1, rfl, hp⟩ := path_at hA hx
    obtain ⟨b2, o2, rfl, hq⟩ := path_at hB hy
    refine TL.nil ?_
    refine TQ.then_n ?_
    refine TC.seq ?_
    refine TC.cond_t rfl ?_
    refine TC.skip ?_
    refine TQ.then_n ?_
    refine TC.seq ?_
    refine TC.block ?_
    refine TC.seq ?_
    refine TC.region ?_
    refine TL.move rfl rfl ?_
    refine TL.assign rfl rfl ?_
    refine TL.nil ?_
    refine TQ.then_n ?_
    refine TC.seq ?_
    refine TC.drawQV 8  [(0, _), (1, _), (12, _), (13, _), (5, _)] follows_mixed ⟨rfl, rfl, rfl, rfl, rfl, trivial⟩ ?_
    refine ChainV.q (some 16) [] (by
     intro H' X F hle
     intro hF
     refine TL.move rfl rfl ?_
     refine TL.nil ?_
     exact TQ.one [] hF (Le.refl _) ⟨rfl, rfl⟩) ?_
    refine ChainV.q (some 17) [] (by
     intro H' X F hle
     intro hF
     refine TL.move rfl rfl ?_
     refine TL.nil ?_
     exact TQ.one [] hF (Le.refl _) ⟨rfl, rfl⟩) ?_
    refine ChainV.q (some 18) [(0, 1), (1, 0)] (by
     intro H' X F hle
     intro hF
     refine TL.indexAddr (k) rfl rfl rfl (by omega) rfl ?_
     refine TL.nil ?_
     exact TQ.one [] hF (Le.refl _) ⟨rfl, rfl⟩) ?_
    refine ChainV.q (some 19) [(2, 0)] (by
     intro H' X F hle
     have hL := Le.trans hL hle
     have hA := rd.mono hle hA
     have hB := rd.mono hle hB
     have hle0 := Le.trans hle0 hle
     have hp := cel_le hle hp
     have hq := cel_le hle hq
     intro hF
     refine TL.load_imm rfl (hp) rfl ?_
     refine TL.nil ?_
     exact TQ.one [] hF (Le.refl _) ⟨rfl, rfl⟩) ?_
    refine ChainV.q (some 20) [] (by
     intro H' X F hle
     intro hF
     refine TL.move rfl rfl ?_
     refine TL.nil ?_
     exact TQ.one [] hF (Le.refl _) ⟨rfl, rfl⟩) ?_
    refine ChainV.q (some 21) [] (by
     intro H' X F hle
     intro hF
     refine TL.move rfl rfl ?_
     refine TL.nil ?_
     exact TQ.one [] hF (Le.refl _) ⟨rfl, rfl⟩) ?_
    refine ChainV.q (some 22) [(4, 1), (5, 0)] (by
     intro H' X F hle
     intro hF
     refine TL.indexAddr (k) rfl rfl rfl (by omega) rfl ?_
     refine TL.nil ?_
     exact TQ.one [] hF (Le.refl _) ⟨rfl, rfl⟩) ?_
    refine ChainV.q (some 23) [(6, 0)] (by
     intro H' X F hle
     have hL := Le.trans hL hle
     have hA := rd.mono hle hA
     have hB := rd.mono hle hB
     have hle0 := Le.trans hle0 hle
     have hp := cel_le hle hp
     have hq := cel_le hle hq
     intro hF
     refine TL.load_imm rfl (hq) rfl ?_
     refine TL.nil ?_
     exact TQ.one [] hF (Le.refl _) ⟨rfl, rfl⟩) ?_
    refine ⟨by kernel_rfl, .refl _, ?_⟩
    ·
     intro H1 hle
     have hL := Le.trans hL hle
     have hA := rd.mono hle hA
     have hB := rd.mono hle hB
     have hle0 := Le.trans hle0 hle
     have hp := cel_le hle hp
     have hq := cel_le hle hq
     refine TL.toOwn (own' := own) rfl ?_
     refine TL.wk (env' := [(0, _), (1, _), (12, _), (13, _), (19, _), (23, _)]) ⟨rfl, rfl, rfl, rfl, rfl, rfl, trivial⟩ ?_
     refine TL.neqB rfl rfl rfl (fun hne => ?_) (fun hne => ?_)
     ·
      refine TL.nil ?_
      refine TQ.then_n ?_
      refine TC.cond_t rfl ?_
      refine TC.seq ?_
      refine TC.region ?_
      refine TL.assign rfl rfl ?_
      refine TL.nil ?_
      refine TQ.then_n ?_
      refine TC.ret ?_
      refine TQ.in_r ?_
      refine TQ.then_r ?_
      refine TQ.then_r ?_
      refine TQ.in_r ?_
      refine TQ.then_r ?_
      refine TQ.ret1 0 rfl rfl ?_
      first
        | exact ⟨by rw [decide_eq_false (fun h => hn (by rw [h]))], rfl, hL⟩
        | exact ⟨by rw [decide_eq_false (fun h => by subst h; rw [hx] at hy; injection hy with hy; omega)], rfl, hL⟩
        | exact ⟨by rw [decide_eq_true (by rw [List.take_of_length_le (by omega), List.take_of_length_le (by omega)] at hk2; exact hk2)], rfl, hL⟩
     ·
      refine TL.nil ?_
      refine TQ.then_n ?_
      refine TC.cond_f rfl ?_
      refine TC.skip ?_
      refine TQ.in_n ?_
      refine TQ.then_n ?_
      refine TC.region ?_
      refine TL.add rfl rfl rfl ⟨by omega, by omega⟩ ?_
      refine TL.move rfl rfl ?_
      refine TL.nil ?_
      refine TQ.next (p.length - (k + 1)) [(0, _), (1, _), (12, _), (13, _)] (by omega) ⟨rfl, rfl, rfl, rfl, trivial⟩ ⟨k + 1, rfl, by omega, ?_, by simp, rfl, hle0⟩
      rw [List.take_add_one, List.take_add_one, hx, hy, hk2, show x = y by omega]
   ·
    refine TL.nil ?_
    refine TQ.then_n ?_
    refine TC.seq ?_
    refine TC.cond_f rfl ?_
    refine TC.exit ?_
    refine TQ.then_e ?_
    refine TQ.then_e ?_
    refine TQ.in_e ?_
    refine TQ.then_n ?_
    refine TC.seq ?_
    refine TC.region ?_
    refine TL.assign rfl rfl ?_
    refine TL.nil ?_
    refine TQ.then_n ?_
    refine TC.ret ?_
    refine TQ.ret1 0 rfl rfl ?_
    first
      | exact ⟨by rw [decide_eq_false (fun h => hn (by rw [h]))], rfl, hL⟩
      | exact ⟨by rw [decide_eq_false (fun h => by subst h; rw [hx] at hy; injection hy with hy; omega)], rfl, hL⟩
      | exact ⟨by rw [decide_eq_true (by rw [List.take_of_length_le (by omega), List.take_of_length_le (by omega)] at hk2; exact hk2)], rfl, hL⟩

end Go.Proofs.Ytapmmfabdmhdnaa.K
