/-
  before, Paths, Made, node.
-/
import Derived.Test.YtapmmfabdmhdnaaGrow
import Derived.Test.YtapmmfabdmhdnaaPlain
import Derived.Test.YtapmmfabdmhdnaaFrame
set_option linter.unusedVariables false
set_option linter.unusedSimpArgs false
set_option maxHeartbeats 4000000
namespace Go.Proofs.Ytapmmfabdmhdnaa.K
open Go Go.RowKit Go.Proofs

theorem ref_before {p q : Path} {w0 : World} {H : Hp} {own : List Seg} {va vb : Value} (hA : rd H (pD p) va) (hB : rd H (pD q) vb) :
    Fn Try.prog 37 [va, vb] w0 H own (fun v own' H' => v = .bool (decide (cmpP p q < 0)) ∧ own' = own ∧ Le H H') := by
  obtain ⟨A, c, rfl, hc1, hc2⟩ := path_len hA
  obtain ⟨B, c', rfl, hc1', hc2'⟩ := path_len hB
  refine Fn.enter Try.func37 rfl Try.ntmps37 rfl ?_
  have hL := Le.refl H
  refine TC.seq ?_
  refine TC.region ?_
  refine TL.assign rfl rfl ?_
  refine TL.nil ?_
  refine TQ.then_n ?_
  refine TC.seq ?_
  refine TC.seq ?_
  refine TC.region ?_
  refine TL.assign rfl rfl ?_
  refine TL.nil ?_
  refine TQ.then_n ?_
  refine TC.block ?_
  refine TC.loop (fun n env' own' H' => ∃ k : Nat, n = p.length - k ∧ k ≤ p.length ∧ k ≤ q.length ∧ cmpP p q = cmpP (p.drop k) (q.drop k) ∧ env' = [(0, .slice A p.length c), (1, .slice B q.length c'), (5, .int .i64 (k : Int))] ∧ own = own' ∧ Le H H') p.length [(0, _), (1, _), (5, _)] ⟨rfl, rfl, rfl, trivial⟩ ⟨0, by omega, by omega, by omega, by simp, rfl, rfl, Le.refl _⟩ ?_
  rintro n _ _ H1 ⟨k, rfl, hk1, hkq, hk2, rfl, rfl, hle0⟩
  have hL := Le.trans hL hle0
  have hA := rd.mono hle0 hA
  have hB := rd.mono hle0 hB
  refine TC.seq ?_
  refine TC.seq ?_
  refine TC.region ?_
  refine TL.move rfl rfl ?_
  refine TL.move rfl rfl ?_
  refine TL.len_slice rfl rfl ?_
  refine TL.lssB rfl rfl rfl (fun ha => ?_) (fun ha => ?_)
  ·
   refine TL.move rfl rfl ?_
   refine TL.gyes rfl rfl rfl ?_
   refine TL.move rfl rfl ?_
   refine TL.gyes rfl rfl rfl ?_
   refine TL.move rfl rfl ?_
   refine TL.gyes rfl rfl rfl ?_
   refine TL.len_slice rfl rfl ?_
   refine TL.gyes rfl rfl rfl ?_
   refine TL.lssB rfl rfl rfl (fun hb => ?_) (fun hb => ?_)
   ·
    obtain ⟨x, hx⟩ : ∃ x, p[k]? = some x := ⟨_, List.getElem?_eq_getElem (by omega)⟩
    obtain ⟨y, hy⟩ : ∃ y, q[k]? = some y := ⟨_, List.getElem?_eq_getElem (by omega)⟩
    obtain ⟨b1, o1, rfl, hp⟩ := path_at hA hx
    obtain ⟨b2, o2, rfl, hq⟩ := path_at hB hy
    refine TL.pickT rfl rfl rfl rfl ?_
    refine TL.nil ?_
    refine TQ.then_n ?_
    refine TC.cond_t rfl ?_
    refine TC.skip ?_
    refine TQ.then_n ?_
    refine TC.seq ?_
    refine TC.block ?_
    refine TC.seq ?_
    refine TC.drawQV 8  [(0, _), (1, _), (5, _)] follows_mixed ⟨rfl, rfl, rfl, trivial⟩ ?_
    refine ChainV.q (some 18) [] (by
     intro H' X F hle
     intro hF
     refine TL.move rfl rfl ?_
     refine TL.nil ?_
     exact TQ.one [] hF (Le.refl _) ⟨rfl, rfl⟩) ?_
    refine ChainV.q (some 19) [] (by
     intro H' X F hle
     intro hF
     refine TL.move rfl rfl ?_
     refine TL.nil ?_
     exact TQ.one [] hF (Le.refl _) ⟨rfl, rfl⟩) ?_
    refine ChainV.q (some 20) [(0, 1), (1, 0)] (by
     intro H' X F hle
     intro hF
     refine TL.indexAddr (k) rfl rfl rfl (by omega) rfl ?_
     refine TL.nil ?_
     exact TQ.one [] hF (Le.refl _) ⟨rfl, rfl⟩) ?_
    refine ChainV.q (some 21) [(2, 0)] (by
     intro H' X F hle
     have hL := Le.trans hL hle
     have hA := rd.mono hle hA
     have hB := rd.mono hle hB
     have hle0 := Le.trans hle0 hle
     have hp := cel_le hle hp
     have hq := cel_le hle hq
     intro hF
     refine TL.load_imm rfl (hp) rfl ?_
     refine TL.nil ?_
     exact TQ.one [] hF (Le.refl _) ⟨rfl, rfl⟩) ?_
    refine ChainV.q (some 22) [] (by
     intro H' X F hle
     intro hF
     refine TL.move rfl rfl ?_
     refine TL.nil ?_
     exact TQ.one [] hF (Le.refl _) ⟨rfl, rfl⟩) ?_
    refine ChainV.q (some 23) [] (by
     intro H' X F hle
     intro hF
     refine TL.move rfl rfl ?_
     refine TL.nil ?_
     exact TQ.one [] hF (Le.refl _) ⟨rfl, rfl⟩) ?_
    refine ChainV.q (some 24) [(4, 1), (5, 0)] (by
     intro H' X F hle
     intro hF
     refine TL.indexAddr (k) rfl rfl rfl (by omega) rfl ?_
     refine TL.nil ?_
     exact TQ.one [] hF (Le.refl _) ⟨rfl, rfl⟩) ?_
    refine ChainV.q (some 25) [(6, 0)] (by
     intro H' X F hle
     have hL := Le.trans hL hle
     have hA := rd.mono hle hA
     have hB := rd.mono hle hB
     have hle0 := Le.trans hle0 hle
     have hp := cel_le hle hp
     have hq := cel_le hle hq
     intro hF
     refine TL.load_imm rfl (hq) rfl ?_
     refine TL.nil ?_
     exact TQ.one [] hF (Le.refl _) ⟨rfl, rfl⟩) ?_
    refine ⟨by kernel_rfl, .refl _, ?_⟩
    ·
     intro H1 hle
     have hL := Le.trans hL hle
     have hA := rd.mono hle hA
     have hB := rd.mono hle hB
     have hle0 := Le.trans hle0 hle
     have hp := cel_le hle hp
     have hq := cel_le hle hq
     refine TL.toOwn (own' := own) rfl ?_
     refine TL.wk (env' := [(0, _), (1, _), (5, _), (21, _), (25, _)]) ⟨rfl, rfl, rfl, rfl, rfl, trivial⟩ ?_
     refine TL.neqB rfl rfl rfl (fun hne => ?_) (fun hne => ?_)
     ·
      refine TL.nil ?_
      refine TQ.then_n ?_
      refine TC.cond_t rfl ?_
      refine TC.seq ?_
      refine TC.drawQV 8  [(0, _), (1, _), (5, _)] follows_mixed ⟨rfl, rfl, rfl, trivial⟩ ?_
      refine ChainV.q (some 27) [] (by
       intro H' X F hle
       intro hF
       refine TL.move rfl rfl ?_
       refine TL.nil ?_
       exact TQ.one [] hF (Le.refl _) ⟨rfl, rfl⟩) ?_
      refine ChainV.q (some 28) [] (by
       intro H' X F hle
       intro hF
       refine TL.move rfl rfl ?_
       refine TL.nil ?_
       exact TQ.one [] hF (Le.refl _) ⟨rfl, rfl⟩) ?_
      refine ChainV.q (some 29) [(0, 1), (1, 0)] (by
       intro H' X F hle
       intro hF
       refine TL.indexAddr (k) rfl rfl rfl (by omega) rfl ?_
       refine TL.nil ?_
       exact TQ.one [] hF (Le.refl _) ⟨rfl, rfl⟩) ?_
      refine ChainV.q (some 30) [(2, 0)] (by
       intro H' X F hle
       have hL := Le.trans hL hle
       have hA := rd.mono hle hA
       have hB := rd.mono hle hB
       have hle0 := Le.trans hle0 hle
       have hp := cel_le hle hp
       have hq := cel_le hle hq
       intro hF
       refine TL.load_imm rfl (hp) rfl ?_
       refine TL.nil ?_
       exact TQ.one [] hF (Le.refl _) ⟨rfl, rfl⟩) ?_
      refine ChainV.q (some 31) [] (by
       intro H' X F hle
       intro hF
       refine TL.move rfl rfl ?_
       refine TL.nil ?_
       exact TQ.one [] hF (Le.refl _) ⟨rfl, rfl⟩) ?_
      refine ChainV.q (some 32) [] (by
       intro H' X F hle
       intro hF
       refine TL.move rfl rfl ?_
       refine TL.nil ?_
       exact TQ.one [] hF (Le.refl _) ⟨rfl, rfl⟩) ?_
      refine ChainV.q (some 33) [(4, 1), (5, 0)] (by
       intro H' X F hle
       intro hF
       refine TL.indexAddr (k) rfl rfl rfl (by omega) rfl ?_
       refine TL.nil ?_
       exact TQ.one [] hF (Le.refl _) ⟨rfl, rfl⟩) ?_
      refine ChainV.q (some 34) [(6, 0)] (by
       intro H' X F hle
       have hL := Le.trans hL hle
       have hA := rd.mono hle hA
       have hB := rd.mono hle hB
       have hle0 := Le.trans hle0 hle
       have hp := cel_le hle hp
       have hq := cel_le hle hq
       intro hF
       refine TL.load_imm rfl (hq) rfl ?_
       refine TL.nil ?_
       exact TQ.one [] hF (Le.refl _) ⟨rfl, rfl⟩) ?_
      refine ⟨by kernel_rfl, .refl _, ?_⟩
      ·
       intro H2 hle
       have hL := Le.trans hL hle
       have hA := rd.mono hle hA
       have hB := rd.mono hle hB
       have hle0 := Le.trans hle0 hle
       have hp := cel_le hle hp
       have hq := cel_le hle hq
       refine TL.toOwn (own' := own) rfl ?_
       refine TL.wk (env' := [(0, _), (1, _), (5, _), (30, _), (34, _)]) ⟨rfl, rfl, rfl, rfl, rfl, trivial⟩ ?_
       refine TL.lss rfl rfl rfl ?_
       refine TL.assign rfl rfl ?_
       refine TL.nil ?_
       refine TQ.then_n ?_
       refine TC.ret ?_
       refine TQ.in_r ?_
       refine TQ.then_r ?_
       refine TQ.then_r ?_
       refine TQ.in_r ?_
       refine TQ.then_r ?_
       refine TQ.ret1 0 rfl rfl ?_
       refine ⟨?_, rfl, hL⟩
       rw [hk2]
       first
         | (rw [drop_cons hx, drop_cons hy, cmpP]
            by_cases hxy : (x : Int) < y
            · rw [if_pos hxy]; simp [hxy]
            · rw [if_neg hxy, if_pos (by omega)]; simp [hxy])
         | (rw [show p.drop k = [] from List.drop_eq_nil_of_le (by omega), cmpP_nil]
            by_cases hd : q.drop k = []
            · have := List.drop_eq_nil_iff.1 hd
              rw [if_pos hd, decide_eq_false (by omega)]; rfl
            · have : ¬ q.length ≤ k := fun h => hd (List.drop_eq_nil_of_le h)
              rw [if_neg hd, decide_eq_true (by omega)]; rfl)
         | (obtain ⟨x, hx⟩ : ∃ x, p[k]? = some x := ⟨_, List.getElem?_eq_getElem (by omega)⟩
            rw [show q.drop k = [] from List.drop_eq_nil_of_le (by omega), drop_cons hx, cmpP, decide_eq_false (by omega)]; rfl)
     ·
      refine TL.nil ?_
      refine TQ.then_n ?_
      refine TC.cond_f rfl ?_
      refine TC.skip ?_
      refine TQ.in_n ?_
      refine TQ.then_n ?_
      refine TC.region ?_
      refine TL.move rfl rfl ?_
      refine TL.add rfl rfl rfl ⟨by omega, by omega⟩ ?_
      refine TL.assign rfl rfl ?_
      refine TL.nil ?_
      refine TQ.next (p.length - (k + 1)) [(0, _), (1, _), (5, _)] (by omega) ⟨rfl, rfl, rfl, trivial⟩ ⟨k + 1, rfl, by omega, by omega, ?_, by simp, rfl, hle0⟩
      rw [hk2, drop_cons hx, drop_cons hy, cmpP, if_neg (by omega), if_neg (by omega)]
   ·
    refine TL.pickT rfl rfl rfl rfl ?_
    refine TL.nil ?_
    refine TQ.then_n ?_
    refine TC.cond_f rfl ?_
    refine TC.exit ?_
    refine TQ.then_e ?_
    refine TQ.then_e ?_
    refine TQ.in_e ?_
    refine TQ.then_n ?_
    refine TC.seq ?_
    refine TC.region ?_
    refine TL.move rfl rfl ?_
    refine TL.len_slice rfl rfl ?_
    refine TL.move rfl rfl ?_
    refine TL.len_slice rfl rfl ?_
    refine TL.lss rfl rfl rfl ?_
    refine TL.assign rfl rfl ?_
    refine TL.nil ?_
    refine TQ.then_n ?_
    refine TC.ret ?_
    refine TQ.ret1 0 rfl rfl ?_
    refine ⟨?_, rfl, hL⟩
    rw [hk2]
    first
      | (rw [drop_cons hx, drop_cons hy, cmpP]
         by_cases hxy : (x : Int) < y
         · rw [if_pos hxy]; simp [hxy]
         · rw [if_neg hxy, if_pos (by omega)]; simp [hxy])
      | (rw [show p.drop k = [] from List.drop_eq_nil_of_le (by omega), cmpP_nil]
         by_cases hd : q.drop k = []
         · have := List.drop_eq_nil_iff.1 hd
           rw [if_pos hd, decide_eq_false (by omega)]; rfl
         · have : ¬ q.length ≤ k := fun h => hd (List.drop_eq_nil_of_le h)
           rw [if_neg hd, decide_eq_true (by omega)]; rfl)
      | (obtain ⟨x, hx⟩ : ∃ x, p[k]? = some x := ⟨_, List.getElem?_eq_getElem (by omega)⟩
         rw [show q.drop k = [] from List.drop_eq_nil_of_le (by omega), drop_cons hx, cmpP, decide_eq_false (by omega)]; rfl)
  ·
   refine TL.move rfl rfl ?_
   refine TL.gno rfl rfl rfl rfl ?_
   refine TL.gno rfl rfl rfl rfl ?_
   refine TL.gno rfl rfl rfl rfl ?_
   refine TL.gno rfl rfl rfl rfl ?_
   refine TL.pickF rfl rfl rfl rfl ?_
   refine TL.nil ?_
   refine TQ.then_n ?_
   refine TC.cond_f rfl ?_
   refine TC.exit ?_
   refine TQ.then_e ?_
   refine TQ.then_e ?_
   refine TQ.in_e ?_
   refine TQ.then_n ?_
   refine TC.seq ?_
   refine TC.region ?_
   refine TL.move rfl rfl ?_
   refine TL.len_slice rfl rfl ?_
   refine TL.move rfl rfl ?_
   refine TL.len_slice rfl rfl ?_
   refine TL.lss rfl rfl rfl ?_
   refine TL.assign rfl rfl ?_
   refine TL.nil ?_
   refine TQ.then_n ?_
   refine TC.ret ?_
   refine TQ.ret1 0 rfl rfl ?_
   refine ⟨?_, rfl, hL⟩
   rw [hk2]
   first
     | (rw [drop_cons hx, drop_cons hy, cmpP]
        by_cases hxy : (x : Int) < y
        · rw [if_pos hxy]; simp [hxy]
        · rw [if_neg hxy, if_pos (by omega)]; simp [hxy])
     | (rw [show p.drop k = [] from List.drop_eq_nil_of_le (by omega), cmpP_nil]
        by_cases hd : q.drop k = []
        · have := List.drop_eq_nil_iff.1 hd
          rw [if_pos hd, decide_eq_false (by omega)]; rfl
        · have : ¬ q.length ≤ k := fun h => hd (List.drop_eq_nil_of_le h)
          rw [if_neg hd, decide_eq_true (by omega)]; rfl)
     | (obtain ⟨x, hx⟩ : ∃ x, p[k]? = some x := ⟨_, List.getElem?_eq_getElem (by omega)⟩
        rw [show q.drop k = [] from List.drop_eq_nil_of_le (by omega), drop_cons hx, cmpP, decide_eq_false (by omega)]; rfl)
theorem paths_len {H : Hp} {ps : List Path} {v : Value} (h : rd H (.s 1 (ps.map pD)) v) : ∃ A c, v = .slice A ps.length c ∧ ps.length ≤ c ∧ c ≤ 9223372036854775807 := by
  obtain ⟨A, n, c, rfl, h1, h2, h3⟩ := h.s_len
  have : n = ps.length := by simpa using h1.symm
  subst this
  exact ⟨A, c, rfl, h2, h3⟩
theorem paths_at {H : Hp} {ps : List Path} {A : Option Addr} {n c : Nat} (h : rd H (.s 1 (ps.map pD)) (.slice A n c)) {i : Nat} {p : Path} (hi : ps[i]? = some p) : ∃ b o u, A = some ⟨b, o, none⟩ ∧ cel H b (o + i * 1) = some u ∧ rd H (pD p) u := by
  have hlt : i < ps.length := (List.getElem?_eq_some_iff.1 hi).1
  have hn : n = ps.length := by
    obtain ⟨A', c', e, _⟩ := paths_len h
    injection e
  subst hn
  obtain ⟨_, b, o, rfl, hr⟩ := h.s_at (by omega)
  obtain ⟨u', h1, h2⟩ := hr.get i (pD p) (by simp [hi])
  exact ⟨b, o, u', rfl, by rw [Nat.mul_one]; exact h1, h2⟩
theorem cmp_both {x y : Path} : (¬ cmpP x y < 0 ∧ ¬ cmpP y x < 0) ↔ x = y := by
  constructor
  · rintro ⟨h1, h2⟩
    have := cmpP_neg x y
    exact cmpP_eq (by omega)
  · rintro rfl
    have := cmpP_refl x
    omega
theorem ref_Paths {ps qs : List Path} {w0 : World} {H : Hp} {own : List Seg} {va vb : Value} (hA : rd H (.s 1 (ps.map pD)) va) (hB : rd H (.s 1 (qs.map pD)) vb) :
    Fn Try.prog 19 [va, vb] w0 H own (fun v own' H' => v = .bool (decide (ps = qs)) ∧ own' = own ∧ Le H H') := by
  obtain ⟨A, c, rfl, hc1, hc2⟩ := paths_len hA
  obtain ⟨B, c', rfl, hc1', hc2'⟩ := paths_len hB
  refine Fn.enter Try.func19 rfl Try.ntmps19 rfl ?_
  have hL := Le.refl H
  refine TC.seq ?_
  refine TC.region ?_
  refine TL.assign rfl rfl ?_
  refine TL.nil ?_
  refine TQ.then_n ?_
  refine TC.seq ?_
  refine TC.seq ?_
  refine TC.region ?_
  refine TL.move rfl rfl ?_
  refine TL.len_slice rfl rfl ?_
  refine TL.move rfl rfl ?_
  refine TL.len_slice rfl rfl ?_
  refine TL.neqB rfl rfl rfl (fun hn => ?_) (fun hn => ?_)
  ·
   refine TL.nil ?_
   refine TQ.then_n ?_
   refine TC.cond_t rfl ?_
   refine TC.seq ?_
   refine TC.region ?_
   refine TL.assign rfl rfl ?_
   refine TL.nil ?_
   refine TQ.then_n ?_
   refine TC.ret ?_
   refine TQ.then_r ?_
   refine TQ.ret1 0 rfl rfl ?_
   refine ⟨?_, rfl, hL⟩
   first
     | exact congrArg Value.bool (decide_eq_false (fun h => hn (by rw [h]))).symm
     | exact congrArg Value.bool (decide_eq_false (fun h => by subst h; rw [hx] at hy; injection hy with hy; subst hy; exact absurd hb1 (cmp_both.2 rfl).1)).symm
     | exact congrArg Value.bool (decide_eq_false (fun h => by subst h; rw [hx] at hy; injection hy with hy; subst hy; exact absurd hb2 (cmp_both.2 rfl).1)).symm
     | exact congrArg Value.bool (decide_eq_true (by rw [List.take_of_length_le (by omega), List.take_of_length_le (by omega)] at hk2; exact hk2)).symm
  ·
   refine TL.nil ?_
   refine TQ.then_n ?_
   refine TC.cond_f rfl ?_
   refine TC.skip ?_
   refine TQ.then_n ?_
   refine TC.seq ?_
   refine TC.seq ?_
   refine TC.region ?_
   refine TL.assign rfl rfl ?_
   refine TL.nil ?_
   refine TQ.then_n ?_
   refine TC.block ?_
   refine TC.loop (fun n env' own' H' => ∃ k : Nat, n = ps.length - k ∧ k ≤ ps.length ∧ ps.take k = qs.take k ∧ env' = [(0, .slice A ps.length c), (1, .slice B qs.length c'), (5, .int .i64 (k : Int))] ∧ own' = own ∧ Le H H') ps.length [(0, _), (1, _), (5, _)] ⟨rfl, rfl, rfl, trivial⟩ ⟨0, by omega, by omega, by simp, rfl, rfl, Le.refl _⟩ ?_
   rintro n _ own H1 ⟨k, rfl, hk1, hk2, rfl, rfl, hle0⟩
   have hL := Le.trans hL hle0
   have hA := rd.mono hle0 hA
   have hB := rd.mono hle0 hB
   refine TC.seq ?_
   refine TC.seq ?_
   refine TC.region ?_
   refine TL.move rfl rfl ?_
   refine TL.move rfl rfl ?_
   refine TL.len_slice rfl rfl ?_
   refine TL.lssB rfl rfl rfl (fun hlt => ?_) (fun hlt => ?_)
   ·
    obtain ⟨x, hx⟩ : ∃ x, ps[k]? = some x := ⟨_, List.getElem?_eq_getElem (by omega)⟩
    obtain ⟨y, hy⟩ : ∃ y, qs[k]? = some y := ⟨_, List.getElem?_eq_getElem (by omega)⟩
    obtain ⟨b1, o1, u1, rfl, hp, hrp⟩ := paths_at hA hx
    obtain ⟨b2, o2, u2, rfl, hq, hrq⟩ := paths_at hB hy
    refine TL.nil ?_
    refine TQ.then_n ?_
    refine TC.cond_t rfl ?_
    refine TC.skip ?_
    refine TQ.then_n ?_
    refine TC.seq ?_
    refine TC.block ?_
    refine TC.seq ?_
    refine TC.drawQV 8  [(0, _), (1, _), (5, _)] follows_mixed ⟨rfl, rfl, rfl, trivial⟩ ?_
    refine ChainV.q (some 19) [] (by
     intro H' X F hle
     intro hF
     refine TL.move rfl rfl ?_
     refine TL.nil ?_
     exact TQ.one [] hF (Le.refl _) ⟨rfl, rfl⟩) ?_
    refine ChainV.q (some 20) [] (by
     intro H' X F hle
     intro hF
     refine TL.move rfl rfl ?_
     refine TL.nil ?_
     exact TQ.one [] hF (Le.refl _) ⟨rfl, rfl⟩) ?_
    refine ChainV.q (some 21) [(0, 1), (1, 0)] (by
     intro H' X F hle
     intro hF
     refine TL.indexAddr (k) rfl rfl rfl (by omega) rfl ?_
     refine TL.nil ?_
     exact TQ.one [] hF (Le.refl _) ⟨rfl, rfl⟩) ?_
    refine ChainV.q (some 22) [(2, 0)] (by
     intro H' X F hle
     have hL := Le.trans hL hle
     have hA := rd.mono hle hA
     have hB := rd.mono hle hB
     have hle0 := Le.trans hle0 hle
     have hp := cel_le hle hp
     have hq := cel_le hle hq
     have hrp := rd.mono hle hrp
     have hrq := rd.mono hle hrq
     intro hF
     refine TL.load_imm rfl (hp) rfl ?_
     refine TL.nil ?_
     exact TQ.one [] hF (Le.refl _) ⟨rfl, rfl⟩) ?_
    refine ChainV.q (some 23) [] (by
     intro H' X F hle
     intro hF
     refine TL.move rfl rfl ?_
     refine TL.nil ?_
     exact TQ.one [] hF (Le.refl _) ⟨rfl, rfl⟩) ?_
    refine ChainV.q (some 24) [] (by
     intro H' X F hle
     intro hF
     refine TL.move rfl rfl ?_
     refine TL.nil ?_
     exact TQ.one [] hF (Le.refl _) ⟨rfl, rfl⟩) ?_
    refine ChainV.q (some 25) [(4, 1), (5, 0)] (by
     intro H' X F hle
     intro hF
     refine TL.indexAddr (k) rfl rfl rfl (by omega) rfl ?_
     refine TL.nil ?_
     exact TQ.one [] hF (Le.refl _) ⟨rfl, rfl⟩) ?_
    refine ChainV.q (some 26) [(6, 0)] (by
     intro H' X F hle
     have hL := Le.trans hL hle
     have hA := rd.mono hle hA
     have hB := rd.mono hle hB
     have hle0 := Le.trans hle0 hle
     have hp := cel_le hle hp
     have hq := cel_le hle hq
     have hrp := rd.mono hle hrp
     have hrq := rd.mono hle hrq
     intro hF
     refine TL.load_imm rfl (hq) rfl ?_
     refine TL.nil ?_
     exact TQ.one [] hF (Le.refl _) ⟨rfl, rfl⟩) ?_
    refine ⟨by kernel_rfl, .refl _, ?_⟩
    ·
     intro H1 hle
     have hL := Le.trans hL hle
     have hA := rd.mono hle hA
     have hB := rd.mono hle hB
     have hle0 := Le.trans hle0 hle
     have hp := cel_le hle hp
     have hq := cel_le hle hq
     have hrp := rd.mono hle hrp
     have hrq := rd.mono hle hrq
     refine TL.toOwn (own' := own) rfl ?_
     refine TL.wk (env' := [(0, _), (1, _), (5, _), (22, _), (26, _)]) ⟨rfl, rfl, rfl, rfl, rfl, trivial⟩ ?_
     refine TL.call (ref_before hrp hrq) ⟨rfl, rfl, trivial⟩ rfl ?_
     rintro _ own H2 ⟨rfl, rfl, hle2⟩
     have hL := Le.trans hL hle2
     have hA := rd.mono hle2 hA
     have hB := rd.mono hle2 hB
     have hle0 := Le.trans hle0 hle2
     have hp := cel_le hle2 hp
     have hq := cel_le hle2 hq
     have hrp := rd.mono hle2 hrp
     have hrq := rd.mono hle2 hrq
     by_cases hb1 : cmpP x y < 0
     ·
      rw [decide_eq_true hb1]
      refine TL.assign rfl rfl ?_
      refine TL.nil ?_
      refine TQ.then_n ?_
      refine TC.seq ?_
      refine TC.drawQV 8  [(0, _), (1, _), (5, _), (6, _)] follows_mixed ⟨rfl, rfl, rfl, rfl, trivial⟩ ?_
      refine ChainV.q (some 28) [] (by
       intro H' X F hle
       intro hF
       refine TL.move rfl rfl ?_
       refine TL.nil ?_
       exact TQ.one [] hF (Le.refl _) ⟨rfl, rfl⟩) ?_
      refine ChainV.q (some 29) [] (by
       intro H' X F hle
       intro hF
       refine TL.move rfl rfl ?_
       refine TL.nil ?_
       exact TQ.one [] hF (Le.refl _) ⟨rfl, rfl⟩) ?_
      refine ChainV.q (some 30) [(0, 1), (1, 0)] (by
       intro H' X F hle
       intro hF
       refine TL.indexAddr (k) rfl rfl rfl (by omega) rfl ?_
       refine TL.nil ?_
       exact TQ.one [] hF (Le.refl _) ⟨rfl, rfl⟩) ?_
      refine ChainV.q (some 31) [(2, 0)] (by
       intro H' X F hle
       have hL := Le.trans hL hle
       have hA := rd.mono hle hA
       have hB := rd.mono hle hB
       have hle0 := Le.trans hle0 hle
       have hp := cel_le hle hp
       have hq := cel_le hle hq
       have hrp := rd.mono hle hrp
       have hrq := rd.mono hle hrq
       intro hF
       refine TL.load_imm rfl (hq) rfl ?_
       refine TL.nil ?_
       exact TQ.one [] hF (Le.refl _) ⟨rfl, rfl⟩) ?_
      refine ChainV.q (some 32) [] (by
       intro H' X F hle
       intro hF
       refine TL.move rfl rfl ?_
       refine TL.nil ?_
       exact TQ.one [] hF (Le.refl _) ⟨rfl, rfl⟩) ?_
      refine ChainV.q (some 33) [] (by
       intro H' X F hle
       intro hF
       refine TL.move rfl rfl ?_
       refine TL.nil ?_
       exact TQ.one [] hF (Le.refl _) ⟨rfl, rfl⟩) ?_
      refine ChainV.q (some 34) [(4, 1), (5, 0)] (by
       intro H' X F hle
       intro hF
       refine TL.indexAddr (k) rfl rfl rfl (by omega) rfl ?_
       refine TL.nil ?_
       exact TQ.one [] hF (Le.refl _) ⟨rfl, rfl⟩) ?_
      refine ChainV.q (some 35) [(6, 0)] (by
       intro H' X F hle
       have hL := Le.trans hL hle
       have hA := rd.mono hle hA
       have hB := rd.mono hle hB
       have hle0 := Le.trans hle0 hle
       have hp := cel_le hle hp
       have hq := cel_le hle hq
       have hrp := rd.mono hle hrp
       have hrq := rd.mono hle hrq
       intro hF
       refine TL.load_imm rfl (hp) rfl ?_
       refine TL.nil ?_
       exact TQ.one [] hF (Le.refl _) ⟨rfl, rfl⟩) ?_
      refine ⟨by kernel_rfl, .refl _, ?_⟩
      ·
       intro H2 hle
       have hL := Le.trans hL hle
       have hA := rd.mono hle hA
       have hB := rd.mono hle hB
       have hle0 := Le.trans hle0 hle
       have hp := cel_le hle hp
       have hq := cel_le hle hq
       have hrp := rd.mono hle hrp
       have hrq := rd.mono hle hrq
       refine TL.toOwn (own' := own) rfl ?_
       refine TL.wk (env' := [(0, _), (1, _), (5, _), (6, _), (31, _), (35, _)]) ⟨rfl, rfl, rfl, rfl, rfl, rfl, trivial⟩ ?_
       refine TL.call (ref_before hrq hrp) ⟨rfl, rfl, trivial⟩ rfl ?_
       rintro _ own H3 ⟨rfl, rfl, hle3⟩
       have hL := Le.trans hL hle3
       have hA := rd.mono hle3 hA
       have hB := rd.mono hle3 hB
       have hle0 := Le.trans hle0 hle3
       have hp := cel_le hle3 hp
       have hq := cel_le hle3 hq
       have hrp := rd.mono hle3 hrp
       have hrq := rd.mono hle3 hrq
       by_cases hb2 : cmpP y x < 0
       ·
        rw [decide_eq_true hb2]
        refine TL.assign rfl rfl ?_
        refine TL.nil ?_
        refine TQ.then_n ?_
        refine TC.seq ?_
        refine TC.region ?_
        refine TL.move rfl rfl ?_
        refine TL.move rfl rfl ?_
        refine TL.gno rfl rfl rfl rfl ?_
        refine TL.pickT rfl rfl rfl rfl ?_
        refine TL.nil ?_
        refine TQ.then_n ?_
        refine TC.cond_t rfl ?_
        refine TC.seq ?_
        refine TC.region ?_
        refine TL.assign rfl rfl ?_
        refine TL.nil ?_
        refine TQ.then_n ?_
        refine TC.ret ?_
        refine TQ.in_r ?_
        refine TQ.then_r ?_
        refine TQ.then_r ?_
        refine TQ.in_r ?_
        refine TQ.then_r ?_
        refine TQ.ret1 0 rfl rfl ?_
        refine ⟨?_, rfl, hL⟩
        first
          | exact congrArg Value.bool (decide_eq_false (fun h => hn (by rw [h]))).symm
          | exact congrArg Value.bool (decide_eq_false (fun h => by subst h; rw [hx] at hy; injection hy with hy; subst hy; exact absurd hb1 (cmp_both.2 rfl).1)).symm
          | exact congrArg Value.bool (decide_eq_false (fun h => by subst h; rw [hx] at hy; injection hy with hy; subst hy; exact absurd hb2 (cmp_both.2 rfl).1)).symm
          | exact congrArg Value.bool (decide_eq_true (by rw [List.take_of_length_le (by omega), List.take_of_length_le (by omega)] at hk2; exact hk2)).symm
       ·
        rw [decide_eq_false hb2]
        refine TL.assign rfl rfl ?_
        refine TL.nil ?_
        refine TQ.then_n ?_
        refine TC.seq ?_
        refine TC.region ?_
        refine TL.move rfl rfl ?_
        refine TL.move rfl rfl ?_
        refine TL.gno rfl rfl rfl rfl ?_
        refine TL.pickT rfl rfl rfl rfl ?_
        refine TL.nil ?_
        refine TQ.then_n ?_
        refine TC.cond_t rfl ?_
        refine TC.seq ?_
        refine TC.region ?_
        refine TL.assign rfl rfl ?_
        refine TL.nil ?_
        refine TQ.then_n ?_
        refine TC.ret ?_
        refine TQ.in_r ?_
        refine TQ.then_r ?_
        refine TQ.then_r ?_
        refine TQ.in_r ?_
        refine TQ.then_r ?_
        refine TQ.ret1 0 rfl rfl ?_
        refine ⟨?_, rfl, hL⟩
        first
          | exact congrArg Value.bool (decide_eq_false (fun h => hn (by rw [h]))).symm
          | exact congrArg Value.bool (decide_eq_false (fun h => by subst h; rw [hx] at hy; injection hy with hy; subst hy; exact absurd hb1 (cmp_both.2 rfl).1)).symm
          | exact congrArg Value.bool (decide_eq_false (fun h => by subst h; rw [hx] at hy; injection hy with hy; subst hy; exact absurd hb2 (cmp_both.2 rfl).1)).symm
          | exact congrArg Value.bool (decide_eq_true (by rw [List.take_of_length_le (by omega), List.take_of_length_le (by omega)] at hk2; exact hk2)).symm
     ·
      rw [decide_eq_false hb1]
      refine TL.assign rfl rfl ?_
      refine TL.nil ?_
      refine TQ.then_n ?_
      refine TC.seq ?_
      refine TC.drawQV 8  [(0, _), (1, _), (5, _), (6, _)] follows_mixed ⟨rfl, rfl, rfl, rfl, trivial⟩ ?_
      refine ChainV.q (some 28) [] (by
       intro H' X F hle
       intro hF
       refine TL.move rfl rfl ?_
       refine TL.nil ?_
       exact TQ.one [] hF (Le.refl _) ⟨rfl, rfl⟩) ?_
      refine ChainV.q (some 29) [] (by
       intro H' X F hle
       intro hF
       refine TL.move rfl rfl ?_
       refine TL.nil ?_
       exact TQ.one [] hF (Le.refl _) ⟨rfl, rfl⟩) ?_
      refine ChainV.q (some 30) [(0, 1), (1, 0)] (by
       intro H' X F hle
       intro hF
       refine TL.indexAddr (k) rfl rfl rfl (by omega) rfl ?_
       refine TL.nil ?_
       exact TQ.one [] hF (Le.refl _) ⟨rfl, rfl⟩) ?_
      refine ChainV.q (some 31) [(2, 0)] (by
       intro H' X F hle
       have hL := Le.trans hL hle
       have hA := rd.mono hle hA
       have hB := rd.mono hle hB
       have hle0 := Le.trans hle0 hle
       have hp := cel_le hle hp
       have hq := cel_le hle hq
       have hrp := rd.mono hle hrp
       have hrq := rd.mono hle hrq
       intro hF
       refine TL.load_imm rfl (hq) rfl ?_
       refine TL.nil ?_
       exact TQ.one [] hF (Le.refl _) ⟨rfl, rfl⟩) ?_
      refine ChainV.q (some 32) [] (by
       intro H' X F hle
       intro hF
       refine TL.move rfl rfl ?_
       refine TL.nil ?_
       exact TQ.one [] hF (Le.refl _) ⟨rfl, rfl⟩) ?_
      refine ChainV.q (some 33) [] (by
       intro H' X F hle
       intro hF
       refine TL.move rfl rfl ?_
       refine TL.nil ?_
       exact TQ.one [] hF (Le.refl _) ⟨rfl, rfl⟩) ?_
      refine ChainV.q (some 34) [(4, 1), (5, 0)] (by
       intro H' X F hle
       intro hF
       refine TL.indexAddr (k) rfl rfl rfl (by omega) rfl ?_
       refine TL.nil ?_
       exact TQ.one [] hF (Le.refl _) ⟨rfl, rfl⟩) ?_
      refine ChainV.q (some 35) [(6, 0)] (by
       intro H' X F hle
       have hL := Le.trans hL hle
       have hA := rd.mono hle hA
       have hB := rd.mono hle hB
       have hle0 := Le.trans hle0 hle
       have hp := cel_le hle hp
       have hq := cel_le hle hq
       have hrp := rd.mono hle hrp
       have hrq := rd.mono hle hrq
       intro hF
       refine TL.load_imm rfl (hp) rfl ?_
       refine TL.nil ?_
       exact TQ.one [] hF (Le.refl _) ⟨rfl, rfl⟩) ?_
      refine ⟨by kernel_rfl, .refl _, ?_⟩
      ·
       intro H3 hle
       have hL := Le.trans hL hle
       have hA := rd.mono hle hA
       have hB := rd.mono hle hB
       have hle0 := Le.trans hle0 hle
       have hp := cel_le hle hp
       have hq := cel_le hle hq
       have hrp := rd.mono hle hrp
       have hrq := rd.mono hle hrq
       refine TL.toOwn (own' := own) rfl ?_
       refine TL.wk (env' := [(0, _), (1, _), (5, _), (6, _), (31, _), (35, _)]) ⟨rfl, rfl, rfl, rfl, rfl, rfl, trivial⟩ ?_
       refine TL.call (ref_before hrq hrp) ⟨rfl, rfl, trivial⟩ rfl ?_
       rintro _ own H3 ⟨rfl, rfl, hle3⟩
       have hL := Le.trans hL hle3
       have hA := rd.mono hle3 hA
       have hB := rd.mono hle3 hB
       have hle0 := Le.trans hle0 hle3
       have hp := cel_le hle3 hp
       have hq := cel_le hle3 hq
       have hrp := rd.mono hle3 hrp
       have hrq := rd.mono hle3 hrq
       by_cases hb2 : cmpP y x < 0
       ·
        rw [decide_eq_true hb2]
        refine TL.assign rfl rfl ?_
        refine TL.nil ?_
        refine TQ.then_n ?_
        refine TC.seq ?_
        refine TC.region ?_
        refine TL.move rfl rfl ?_
        refine TL.move rfl rfl ?_
        refine TL.gyes rfl rfl rfl ?_
        refine TL.move rfl rfl ?_
        refine TL.pickF rfl rfl rfl rfl ?_
        refine TL.nil ?_
        refine TQ.then_n ?_
        refine TC.cond_t rfl ?_
        refine TC.seq ?_
        refine TC.region ?_
        refine TL.assign rfl rfl ?_
        refine TL.nil ?_
        refine TQ.then_n ?_
        refine TC.ret ?_
        refine TQ.in_r ?_
        refine TQ.then_r ?_
        refine TQ.then_r ?_
        refine TQ.in_r ?_
        refine TQ.then_r ?_
        refine TQ.ret1 0 rfl rfl ?_
        refine ⟨?_, rfl, hL⟩
        first
          | exact congrArg Value.bool (decide_eq_false (fun h => hn (by rw [h]))).symm
          | exact congrArg Value.bool (decide_eq_false (fun h => by subst h; rw [hx] at hy; injection hy with hy; subst hy; exact absurd hb1 (cmp_both.2 rfl).1)).symm
          | exact congrArg Value.bool (decide_eq_false (fun h => by subst h; rw [hx] at hy; injection hy with hy; subst hy; exact absurd hb2 (cmp_both.2 rfl).1)).symm
          | exact congrArg Value.bool (decide_eq_true (by rw [List.take_of_length_le (by omega), List.take_of_length_le (by omega)] at hk2; exact hk2)).symm
       ·
        rw [decide_eq_false hb2]
        refine TL.assign rfl rfl ?_
        refine TL.nil ?_
        refine TQ.then_n ?_
        refine TC.seq ?_
        refine TC.region ?_
        refine TL.move rfl rfl ?_
        refine TL.move rfl rfl ?_
        refine TL.gyes rfl rfl rfl ?_
        refine TL.move rfl rfl ?_
        refine TL.pickF rfl rfl rfl rfl ?_
        refine TL.nil ?_
        refine TQ.then_n ?_
        refine TC.cond_f rfl ?_
        refine TC.skip ?_
        refine TQ.in_n ?_
        refine TQ.then_n ?_
        refine TC.region ?_
        refine TL.move rfl rfl ?_
        refine TL.add rfl rfl rfl ⟨by omega, by omega⟩ ?_
        refine TL.assign rfl rfl ?_
        refine TL.nil ?_
        refine TQ.next (ps.length - (k + 1)) [(0, _), (1, _), (5, _)] (by omega) ⟨rfl, rfl, rfl, trivial⟩ ⟨k + 1, rfl, by omega, ?_, by simp, rfl, hle0⟩
        rw [List.take_add_one, List.take_add_one, hx, hy, hk2, show x = y from cmp_both.1 ⟨hb1, hb2⟩]
   ·
    refine TL.nil ?_
    refine TQ.then_n ?_
    refine TC.cond_f rfl ?_
    refine TC.exit ?_
    refine TQ.then_e ?_
    refine TQ.then_e ?_
    refine TQ.in_e ?_
    refine TQ.then_n ?_
    refine TC.seq ?_
    refine TC.region ?_
    refine TL.assign rfl rfl ?_
    refine TL.nil ?_
    refine TQ.then_n ?_
    refine TC.ret ?_
    refine TQ.ret1 0 rfl rfl ?_
    refine ⟨?_, rfl, hL⟩
    first
      | exact congrArg Value.bool (decide_eq_false (fun h => hn (by rw [h]))).symm
      | exact congrArg Value.bool (decide_eq_false (fun h => by subst h; rw [hx] at hy; injection hy with hy; subst hy; exact absurd hb1 (cmp_both.2 rfl).1)).symm
      | exact congrArg Value.bool (decide_eq_false (fun h => by subst h; rw [hx] at hy; injection hy with hy; subst hy; exact absurd hb2 (cmp_both.2 rfl).1)).symm
      | exact congrArg Value.bool (decide_eq_true (by rw [List.take_of_length_le (by omega), List.take_of_length_le (by omega)] at hk2; exact hk2)).symm
def madeP (l : List Int) : Tr := (grow l 4 0).1
theorem ref_Made {l : List Int} (hl : ∀ n ∈ l, I64 n) (hll : l.length ≤ 9223372036854775807) {w0 : World} {H : Hp} {own : List Seg} {v : Value} (hA : rd H (.s 1 (ints l)) v) :
    Fn Try.prog 14 [v] w0 H own (fun r own' H' => ∃ c0 c1, r = .agg #[c0, c1] ∧ RdL H' (madeP l).d [c0, c1] ∧ own' = own ∧ Le H H') := by
  have hone := rd.one (sz := 1) hA
  refine Fn.enter Try.func14 rfl Try.ntmps14 rfl ?_
  have hL := Le.refl H
  refine TC.seq ?_
  refine TC.region ?_
  refine TL.new rfl ?_; intro g2
  refine TL.nil ?_
  refine TQ.then_n ?_
  refine TC.seq ?_
  refine TC.region ?_
  refine TL.move rfl rfl ?_
  refine TL.struct [(0, [_])] ⟨rfl, ⟨_, rfl, one_cells hone⟩, trivial⟩ rfl rfl ?_
  refine TL.box (c := #[_, _]) rfl rfl rfl ?_; intro g6
  refine TL.assign rfl rfl ?_
  refine TL.nil ?_
  refine TQ.then_n ?_
  refine TC.seq ?_
  refine TC.region ?_
  refine TL.move rfl rfl ?_
  refine TL.call (ref_tree hl hll 4 (at_ := 0) rfl (by omega) (by omega) hA) ⟨rfl, rfl, trivial⟩ rfl ?_
  rintro _ _ H2 ⟨c0, c1, rfl, hr, rfl, hle2⟩
  have hL := Le.trans hL hle2
  have hA := rd.mono hle2 hA
  refine TL.storeA 1 0 (vs := [c0, c1]) (c' := #[_, _]) (own' := _ :: [(_, .cells #[_, _] _ _)] :: _) rfl rfl rfl rfl rfl (tr_ones hr) (by simp) rfl rfl rfl ?_
  refine TL.nil ?_
  refine TQ.then_n ?_
  refine TC.ret ?_
  refine TQ.retC 1 0 2 [_, _] rfl rfl rfl rfl ⟨rfl, rfl, trivial⟩ rfl rfl ?_
  exact ⟨_, _, rfl, hr, rfl, hL⟩
def nodeP (s : ByteArray) (l : List ByteArray) : Tr := .node s (l.map fun x => .node x [])
def strsD (l : List ByteArray) : List D := (l.map Value.string).map D.c
theorem Fn.frz {P : Program} {f : FuncId} {args : List Value} {w0 : World} {H : Hp} {own : List Seg} {φ ψ : Value → List Seg → Hp → Prop} (h : Fn P f args w0 H own φ)
    (hi : ∀ v own1 H1, φ v own1 H1 → ∃ seg own2, own1 = seg :: own2 ∧ ∀ H2, Le H1 H2 → (∀ p ∈ seg, H2 p.1 = some p.2) → ψ v own2 H2) : Fn P f args w0 H own ψ :=
  fun w hw => (h w hw).mono fun _ _ ⟨v, own1, H1, h1, h2, h3⟩ => by
    obtain ⟨seg, own2, rfl, hk⟩ := hi v own1 H1 h2
    obtain ⟨g1, g2, g3⟩ := h3.freeze
    exact ⟨v, own2, _, h1, hk _ g2 g3, g1⟩
theorem law_node0 {s : ByteArray} {l : List ByteArray} (hll : l.length ≤ 1000) {w0 : World} {H : Hp} {own : List Seg} {v : Value} (hA : rd H (.s 1 (strsD l)) v) :
    Fn Try.prog 20 [.string s, v] w0 H own (fun r own' H' => ∃ vk xs seg, r = .agg #[.string s, vk] ∧ own' = seg :: own ∧ Row 27 2 vk l.length xs seg ∧ RdL H' (Tr.ds (l.map fun x => Tr.node x [])) xs ∧ Le H H') := by
  obtain ⟨A, c, rfl, hc1, hc2⟩ := vals_len hA
  simp only [List.length_map] at hA hc1 ⊢
  refine Fn.enter Try.func20 rfl Try.ntmps20 rfl ?_
  have hL := Le.refl H
  refine TC.seq ?_
  refine TC.region ?_
  refine TL.new rfl ?_; intro g4
  refine TL.nil ?_
  refine TQ.then_n ?_
  refine TC.seq ?_
  refine TC.region ?_
  refine TL.move rfl rfl ?_
  refine TL.struct [(0, [_])] ⟨rfl, ⟨_, rfl, rfl⟩, trivial⟩ rfl rfl ?_
  refine TL.new rfl ?_; intro g5
  refine TL.storeA 0 0 (c' := #[_, _]) (own' := [(_, .cells #[_, _] _ _)] :: _) rfl rfl rfl rfl rfl ⟨rfl, rfl, trivial⟩ (by simp) rfl rfl rfl ?_
  refine TL.nil ?_
  refine TQ.then_n ?_
  refine TC.seq ?_
  refine TC.seq ?_
  refine TC.nilseg ?_
  refine TC.region ?_
  refine TL.assign rfl rfl ?_
  refine TL.nil ?_
  refine TQ.then_n ?_
  refine TC.block ?_
  refine TC.loop (fun n env' own' H' => ∃ k u xs seg, n = l.length - k ∧ k ≤ l.length ∧ Row 27 2 u k xs seg ∧ RdL H' (Tr.ds ((l.take k).map fun x => Tr.node x [])) xs ∧ env' = [(0, .string s), (1, .slice A l.length c), (4, .pointer (some ⟨g4, 0, none⟩)), (5, .pointer (some ⟨g5, 0, none⟩)), (6, .int .i64 (k : Int))] ∧ own' = seg :: [(g5, .cells #[.string s, u] 27 (0, 0))] :: [(g4, .cells #[.string ⟨#[]⟩, .slice none 0 0] 27 (0, 0))] :: own ∧ Le H H') l.length [(0, _), (1, _), (4, _), (5, _), (6, _)] ⟨rfl, rfl, rfl, rfl, rfl, trivial⟩ ⟨0, _, [], [], by omega, by omega, Row.nil 27 2, by simp [Tr.ds, RdL], rfl, rfl, Le.refl _⟩ ?_
  rintro n _ _ H1 ⟨k, u, xs, seg, rfl, hk1, hrow, hxs, rfl, rfl, hle0⟩
  have hL := Le.trans hL hle0
  have hA := rd.mono hle0 hA
  refine TC.seq ?_
  refine TC.seq ?_
  refine TC.region ?_
  refine TL.move rfl rfl ?_
  refine TL.move rfl rfl ?_
  refine TL.len_slice rfl rfl ?_
  refine TL.lssB rfl rfl rfl (fun hlt => ?_) (fun hlt => ?_)
  ·
   obtain ⟨x, hx⟩ : ∃ x, l[k]? = some x := ⟨_, List.getElem?_eq_getElem (by omega)⟩
   obtain ⟨b1, o1, rfl, hp⟩ := vals_at hA (i := k) (u := .string x) (by simp [hx])
   refine TL.nil ?_
   refine TQ.then_n ?_
   refine TC.cond_t rfl ?_
   refine TC.skip ?_
   refine TQ.then_n ?_
   refine TC.seq ?_
   refine TC.block ?_
   refine TC.drawQV 8  [(0, _), (1, _), (4, _), (5, _), (6, _)] follows_mixed ⟨rfl, rfl, rfl, rfl, rfl, trivial⟩ ?_
   refine ChainV.q (some 15) [] (by
    intro H' X F hle
    intro hF
    refine TL.fieldAddr rfl rfl ?_
    refine TL.nil ?_
    exact TQ.one [] hF (Le.refl _) ⟨rfl, rfl⟩) ?_
   refine ChainV.q (some 16) [(0, 0)] (by
    intro H' X F hle
    have hL := Le.trans hL hle
    have hA := rd.mono hle hA
    have hle0 := Le.trans hle0 hle
    have hxs := RdL.mono hle hxs
    have hp := cel_le hle hp
    intro hF
    refine TL.load_own 1 0 rfl rfl rfl rfl rfl ?_
    refine TL.nil ?_
    exact TQ.one [] hF (Le.refl _) ⟨rfl, rfl⟩) ?_
   refine ChainV.q (some 17) [] (by
    intro H' X F hle
    intro hF
    refine TL.move rfl rfl ?_
    refine TL.nil ?_
    exact TQ.one [] hF (Le.refl _) ⟨rfl, rfl⟩) ?_
   refine ChainV.q (some 18) [] (by
    intro H' X F hle
    intro hF
    refine TL.move rfl rfl ?_
    refine TL.nil ?_
    exact TQ.one [] hF (Le.refl _) ⟨rfl, rfl⟩) ?_
   refine ChainV.q (some 19) [(2, 1), (3, 0)] (by
    intro H' X F hle
    intro hF
    refine TL.indexAddr (k) rfl rfl rfl (by omega) rfl ?_
    refine TL.nil ?_
    exact TQ.one [] hF (Le.refl _) ⟨rfl, rfl⟩) ?_
   refine ChainV.q (some 20) [(4, 0)] (by
    intro H' X F hle
    have hL := Le.trans hL hle
    have hA := rd.mono hle hA
    have hle0 := Le.trans hle0 hle
    have hxs := RdL.mono hle hxs
    have hp := cel_le hle hp
    intro hF
    refine TL.load_imm rfl (hp) rfl ?_
    refine TL.nil ?_
    exact TQ.one [] hF (Le.refl _) ⟨rfl, rfl⟩) ?_
   refine ChainV.r (some 21) [(5, 0)] ([]) (fun _ => fun u s H => u = .agg #[.string x, .slice none 0 0] ∧ s = []) (by
    intro H' X F hle
    have hL := Le.trans hL hle
    have hA := rd.mono hle hA
    have hle0 := Le.trans hle0 hle
    have hxs := RdL.mono hle hxs
    have hp := cel_le hle hp
    intro hF
    refine TL.call (law_leaf) ⟨rfl, trivial⟩ rfl ?_
    rintro _ _ H2 ⟨rfl, rfl, hle2⟩
    refine TL.nil ?_
    exact TQ.one [] hF hle2 ⟨rfl, rfl⟩) ?_
   refine ChainV.r (some 22) [(6, 0)] ([]) (fun _ => fun u s H => ∃ g, u = .slice (some ⟨g, 0, none⟩) 1 1 ∧ s = [[(g, .cells #[.string x, .slice none 0 0] 27 (0, 0))]]) (by
    intro H' X F hle
    have hL := Le.trans hL hle
    have hA := rd.mono hle hA
    have hle0 := Le.trans hle0 hle
    have hxs := RdL.mono hle hxs
    have hp := cel_le hle hp
    intro _
    rintro _ _ Hr hler ⟨rfl, rfl⟩
    intro hF
    refine TL.litF (r := [_, _]) [(0, [_, _])] ⟨rfl, ⟨_, rfl, rfl⟩, trivial⟩ rfl rfl rfl rfl ?_; intro g22
    refine TL.nil ?_
    exact TQ.one [_] hF (Le.refl _) ⟨_, rfl, rfl⟩) ?_
   refine ⟨by kernel_rfl, .refl _, ?_⟩
   ·
    intro H1 hle
    rintro _ _ Hr hler ⟨rfl, rfl⟩
    rintro _ _ Hg hleg ⟨g22, rfl, rfl⟩
    have hL := Le.trans hL hle
    have hA := rd.mono hle hA
    have hle0 := Le.trans hle0 hle
    have hxs := RdL.mono hle hxs
    have hp := cel_le hle hp
    refine TL.toOwn (own' := _ :: _ :: _ :: _ :: own) rfl ?_
    refine TL.wk (env' := [(0, _), (1, _), (4, _), (5, _), (6, _), (16, _), (22, _)]) ⟨rfl, rfl, rfl, rfl, rfl, rfl, rfl, trivial⟩ ?_
    refine TL.append 1 rfl rfl rfl hrow (Src.ofOwn 0 0 rfl rfl rfl (Ones.all (show Ones [_, _] from ⟨by rfl, by rfl, trivial⟩)) ⟨rfl, rfl, trivial⟩) (by omega) (by omega) rfl ?_
    have hr : ∀ H, RdL H (Tr.node x []).d [.string x, .slice none 0 0] := fun H => tr_mk (rd.nil _ _)
    intro v' seg' hrow'
    refine TL.fieldAddr rfl rfl ?_
    refine TL.store1 2 0 (c' := #[_, _]) (own' := _ :: _ :: [(_, .cells #[_, _] _ _)] :: _) rfl rfl rfl rfl hrow'.one (by simp) rfl rfl rfl ?_
    refine TL.nil ?_
    refine TQ.in_n ?_
    refine TQ.then_n ?_
    refine TC.region ?_
    refine TL.move rfl rfl ?_
    refine TL.add rfl rfl rfl ⟨by omega, by omega⟩ ?_
    refine TL.assign rfl rfl ?_
    refine TL.nil ?_
    refine TQ.sel 4 [1, 2, 3] rfl (fun o ho => ?_)
    simp only [K.sel, List.map_cons, List.map_nil, List.getD_cons_zero, List.getD_cons_succ, List.drop_succ_cons, List.drop_zero, List.cons_append, List.nil_append, List.set_cons_zero, List.set_cons_succ] at ho; subst ho
    refine TQ.next (l.length - (k + 1)) [(0, _), (1, _), (4, _), (5, _), (6, _)] (by omega) ⟨rfl, rfl, rfl, rfl, rfl, trivial⟩ ⟨k + 1, v', _, seg', rfl, by omega, hrow', ?_, by simp, rfl, hle0⟩
    rw [List.take_add_one, hx, List.map_append]
    exact trs_snoc hxs (hr _)
  ·
   refine TL.nil ?_
   refine TQ.then_n ?_
   refine TC.cond_f rfl ?_
   refine TC.exit ?_
   refine TQ.then_e ?_
   refine TQ.then_e ?_
   refine TQ.in_e ?_
   refine TQ.then_n ?_
   refine TC.seq ?_
   refine TC.region ?_
   refine TL.load_ownA 1 0 [_, _] rfl rfl rfl ⟨rfl, rfl, trivial⟩ rfl rfl ?_
   refine TL.storeA 2 0 (c' := #[_, _]) (own' := _ :: _ :: [(_, .cells #[_, _] _ _)] :: _) rfl rfl rfl rfl rfl ⟨rfl, hrow.one, trivial⟩ (by simp) rfl rfl rfl ?_
   refine TL.nil ?_
   refine TQ.then_n ?_
   refine TC.ret ?_
   refine TQ.sel 3 [1, 2, 0] rfl (fun o ho => ?_)
   simp only [K.sel, List.map_cons, List.map_nil, List.getD_cons_zero, List.getD_cons_succ, List.drop_succ_cons, List.drop_zero, List.cons_append, List.nil_append, List.set_cons_zero, List.set_cons_succ] at ho; subst ho
   refine TQ.retC 1 0 2 [_, _] rfl rfl rfl rfl ⟨rfl, rfl, trivial⟩ rfl rfl ?_
   rw [List.take_of_length_le (by omega)] at hxs
   have hkl : k = l.length := by omega
   subst hkl
   exact ⟨_, xs, _, rfl, rfl, hrow, hxs, hL⟩
theorem law_node {s : ByteArray} {l : List ByteArray} (hll : l.length ≤ 1000) {w0 : World} {H : Hp} {own : List Seg} {v : Value} (hA : rd H (.s 1 (strsD l)) v) :
    Fn Try.prog 20 [.string s, v] w0 H own (fun r own' H' => ∃ c0 c1, r = .agg #[c0, c1] ∧ RdL H' (nodeP s l).d [c0, c1] ∧ own' = own ∧ Le H H') :=
  (law_node0 hll hA).frz fun _ _ _ ⟨_, _, seg, e1, e2, hrow, hxs, hle⟩ => ⟨seg, _, e2, fun _ hl hz => ⟨_, _, e1, tr_mk (rd.ofRow hrow hz hxs hl), rfl, hle.trans hl⟩⟩


end Go.Proofs.Ytapmmfabdmhdnaa.K
