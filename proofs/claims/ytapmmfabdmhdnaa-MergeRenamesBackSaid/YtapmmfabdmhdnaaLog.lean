/-
  conflict, insert, kid.
-/
import Derived.Test.YtapmmfabdmhdnaaSmall
set_option linter.unusedVariables false
set_option linter.unusedSimpArgs false
set_option maxHeartbeats 4000000
namespace Go.Proofs.Ytapmmfabdmhdnaa.K
open Go Go.RowKit Go.Proofs

theorem clone_int {p : Path} (hp : p.length ≤ 1073741824) {w0 : World} {H : Hp} {own : List Seg} {v : Value} (hA : rd H (pD p) v) :
    Fn Try.prog 56 [v] w0 H own (fun r own' H' => ∃ seg, own' = seg :: own ∧ Row 3 1 r p.length (pV p) seg ∧ Le H H') := by
  unfold pD at hA
  obtain ⟨A, c, rfl, hc1, hc2⟩ := vals_len hA
  rw [pV_len] at hA hc1 ⊢
  refine Fn.enter Try.func56 rfl Try.ntmps56 rfl ?_
  have hL := Le.refl H
  refine TC.seq ?_
  refine TC.region ?_
  refine TL.assign rfl rfl ?_
  refine TL.nil ?_
  refine TQ.then_n ?_
  refine TC.seq ?_
  refine TC.seq ?_
  refine TC.region ?_
  refine TL.move rfl rfl ?_
  refine TL.eqlNilB rfl rfl rfl (fun hnil => ?_) (fun hnil => ?_)
  ·
   refine TL.nil ?_
   refine TQ.then_n ?_
   refine TC.cond_t rfl ?_
   refine TC.seq ?_
   refine TC.region ?_
   refine TL.assign rfl rfl ?_
   refine TL.nil ?_
   refine TQ.then_n ?_
   refine TC.ret ?_
   refine TQ.then_r ?_
   refine TQ.nilseg ?_
   refine TQ.ret1 0 rfl rfl ?_
   first
     | exact ⟨_, rfl, by simpa using hrow', hL⟩
     | exact ⟨_, rfl, by
         have e := hA.nil_of hnil
         simp only [List.map_eq_nil_iff] at e
         have e2 : p = [] := by simpa [pV] using e
         subst e2
         exact Row.nil 3 1, hL⟩
  ·
   refine TL.nil ?_
   refine TQ.then_n ?_
   refine TC.cond_f rfl ?_
   refine TC.skip ?_
   refine TQ.then_n ?_
   refine TC.seq ?_
   refine TC.region ?_
   refine TL.litF (r := []) [] trivial rfl rfl rfl rfl ?_; intro g5
   refine TL.move rfl rfl ?_
   refine TL.append 0 rfl rfl rfl (Row.lit 3 1 0 _ #[] rfl (by omega)) (vals_src hA (pV_one p)) (by omega) (by omega) rfl ?_
   intro v' seg' hrow'
   refine TL.assign rfl rfl ?_
   refine TL.nil ?_
   refine TQ.then_n ?_
   refine TC.ret ?_
   refine TQ.ret1 0 rfl rfl ?_
   first
     | exact ⟨_, rfl, by simpa using hrow', hL⟩
     | exact ⟨_, rfl, by
         have e := hA.nil_of hnil
         simp only [List.map_eq_nil_iff] at e
         have e2 : p = [] := by simpa [pV] using e
         subst e2
         exact Row.nil 3 1, hL⟩
theorem merge_conflict {p : Path} (hp : p.length ≤ 1073741824) {ps : List Path} (hps : ps.length ≤ 1073741824) {w0 : World} {H : Hp} {own : List Seg} {gm e : Nat} {u v : Value} {seg : Seg} (hA : rd H (pD p) v) (hlog : Log H u ps seg) :
    Fn Try.prog 54 [.pointer (some ⟨gm, 0, none⟩), v] w0 H ([(gm, .cells #[u] e (0, 0))] :: seg :: own)
      (fun r own' H' => ∃ u' seg', r = .tuple #[] ∧ own' = [(gm, .cells #[u'] e (0, 0))] :: seg' :: own ∧ Log H' u' (ps ++ [p]) seg' ∧ Le H H') := by
  obtain ⟨xs, hrow, hxs⟩ := hlog
  refine Fn.enter Try.func54 rfl Try.ntmps54 rfl ?_
  have hL := Le.refl H
  refine TC.sel 2 [1, 0] rfl (fun o ho => ?_)
  simp only [K.sel, List.map_cons, List.map_nil, List.getD_cons_zero, List.getD_cons_succ, List.drop_succ_cons, List.drop_zero, List.cons_append, List.nil_append, List.set_cons_zero, List.set_cons_succ] at ho; subst ho
  refine TC.drawCV 9  [(0, _), (1, _)] follows_mixed ⟨rfl, rfl, trivial⟩ ?_
  refine ChainV.q (some 4) [] (by
   intro H' X F hle
   intro hF
   refine TL.move rfl rfl ?_
   refine TL.nil ?_
   exact TQ.one [] hF (Le.refl _) ⟨rfl, rfl⟩) ?_
  refine ChainV.q (some 5) [] (by
   intro H' X F hle
   intro hF
   refine TL.move rfl rfl ?_
   refine TL.nil ?_
   exact TQ.one [] hF (Le.refl _) ⟨rfl, rfl⟩) ?_
  refine ChainV.q (some 6) [(1, 0)] (by
   intro H' X F hle
   intro hF
   refine TL.nilCheck rfl rfl ?_
   refine TL.nil ?_
   exact TQ.one [] hF (Le.refl _) ⟨rfl, rfl⟩) ?_
  refine ChainV.q (some 7) [(2, 0)] (by
   intro H' X F hle
   intro hF
   refine TL.fieldAddr rfl rfl ?_
   refine TL.nil ?_
   exact TQ.one [] hF (Le.refl _) ⟨rfl, rfl⟩) ?_
  refine ChainV.q (some 8) [(3, 0)] (by
   intro H' X F hle
   have hL := Le.trans hL hle
   have hA := rd.mono hle hA
   have hxs := RdL.mono hle hxs
   intro hF
   refine TL.load_own 0 0 rfl rfl rfl rfl rfl ?_
   refine TL.nil ?_
   exact TQ.one [] hF (Le.refl _) ⟨rfl, rfl⟩) ?_
  refine ChainV.q (some 9) [] (by
   intro H' X F hle
   intro hF
   refine TL.move rfl rfl ?_
   refine TL.nil ?_
   exact TQ.one [] hF (Le.refl _) ⟨rfl, rfl⟩) ?_
  refine ChainV.r (some 10) [(5, 0)] ([]) (fun _ => fun r s H => rd H (pD p) r ∧ s = []) (by
   intro H' X F hle
   have hL := Le.trans hL hle
   have hA := rd.mono hle hA
   have hxs := RdL.mono hle hxs
   intro hF
   refine TL.call (clone_int hp hA) ⟨rfl, trivial⟩ rfl ?_
   rintro r _ H2 ⟨sg, rfl, hr, hle2⟩
   refine TL.nil ?_
   refine TQ.freeze (fun H3 hle3 hz => ?_)
   exact TQ.one [] hF (Le.trans hle2 hle3) ⟨rd.ofRow hr hz (RdL.vals _) (Le.refl _), rfl⟩) ?_
  refine ChainV.r (some 11) [(6, 0)] ([]) (fun _ => fun r s H => rd H (.s 1 [pD p]) r ∧ s = []) (by
   intro H' X F hle
   have hL := Le.trans hL hle
   have hA := rd.mono hle hA
   have hxs := RdL.mono hle hxs
   intro _
   rintro r _ Hr hler ⟨hr, rfl⟩
   intro hF
   refine TL.litF (r := [_]) [(0, [_])] ⟨rfl, ⟨_, rfl, one_cells hr.one⟩, trivial⟩ rfl rfl rfl rfl ?_; intro g11
   refine TL.nil ?_
   refine TQ.freeze (fun H3 hle3 hz => ?_)
   exact TQ.one [] hF hle3 ⟨rd.ofRow (Row.lit 22 1 1 _ _ rfl (by omega)) hz ⟨hr.mono hler, trivial⟩ hle3, rfl⟩) ?_
  refine ChainV.r (some 12) [(4, 3), (7, 0)] ([seg]) (fun _ => fun r s H => ∃ sg, s = [sg] ∧ Log H r (ps ++ [p]) sg) (by
   intro H' X F hle
   have hL := Le.trans hL hle
   have hA := rd.mono hle hA
   have hxs := RdL.mono hle hxs
   intro _
   rintro _ _ Hr hler ⟨hs, rfl⟩
   intro hF
   replace hs := hs.mono hler
   obtain ⟨A1, c1, news, rfl, hsrc, hn⟩ := hs.srcN (m := 1) (by omega) rfl (fun d hd => by simp only [List.mem_singleton] at hd; subst hd; trivial)
   refine TL.append 0 rfl rfl rfl hrow (hsrc _ _) (by omega) (by omega) rfl ?_
   intro v' seg' hrow'
   refine TL.nil ?_
   exact TQ.one [_] hF (Le.refl _) ⟨_, rfl, _, by simpa using hrow', by rw [List.map_append]; exact hxs.append hn⟩) ?_
  refine ⟨by kernel_rfl, .refl _, ?_⟩
  ·
   intro H1 hle
   rintro r _ Hr hler ⟨hr, rfl⟩
   rintro _ _ Hr hler ⟨hs, rfl⟩
   rintro v12 _ Hr hler ⟨seg12, rfl, hlog⟩
   replace hlog := hlog.mono hler
   obtain ⟨xs12, hrow12, hxs12⟩ := hlog
   have hL := Le.trans hL hle
   have hA := rd.mono hle hA
   have hxs := RdL.mono hle hxs
   refine TL.toOwn (own' := _ :: _ :: own) rfl ?_
   refine TL.wk (env' := [(4, _), (12, _)]) ⟨rfl, rfl, trivial⟩ ?_
   refine TL.nilCheck rfl rfl ?_
   refine TL.fieldAddr rfl rfl ?_
   refine TL.store1 1 0 (c' := #[_]) (own' := _ :: [(_, .cells #[_] _ _)] :: _) rfl rfl rfl rfl hrow12.one (by simp) rfl rfl rfl ?_
   refine TL.nil ?_
   refine TQ.sel 2 [1, 0] rfl (fun o ho => ?_)
   simp only [K.sel, List.map_cons, List.map_nil, List.getD_cons_zero, List.getD_cons_succ, List.drop_succ_cons, List.drop_zero, List.cons_append, List.nil_append, List.set_cons_zero, List.set_cons_succ] at ho; subst ho
   refine TQ.end0 0 rfl ?_
   exact ⟨_, _, rfl, rfl, ⟨_, hrow12, hxs12⟩, hL⟩
theorem ins_a {l r : List Tr} {p : Path} (h : (l.length : Int) = 0) : insP l r p = (r, []) := by
  have : l = [] := List.eq_nil_of_length_eq_zero (by omega)
  simp [insP, this]
theorem ins_b {l r : List Tr} {p : Path} (h : (l.length : Int) ≠ 0) (h1 : (r.length : Int) ≤ 0 ∨ l = r) : insP l r p = (l, []) := by
  have h0 : l ≠ [] := by rintro rfl; simp at h
  have h2 : r = [] ∨ l = r := h1.imp (fun h => List.eq_nil_of_length_eq_zero (by omega)) id
  simp only [insP]; rw [if_neg h0, if_pos h2]
theorem ins_c {l r : List Tr} {p : Path} (h : (l.length : Int) ≠ 0) (h1 : (0 : Int) < r.length) (h2 : l ≠ r) : insP l r p = ([], [p]) := by
  have h0 : l ≠ [] := by rintro rfl; simp at h
  have h3 : ¬ (r = [] ∨ l = r) := by rintro (rfl | h) <;> simp_all
  simp only [insP]; rw [if_neg h0, if_neg h3]

theorem merge_insert {l r : List Tr} {p : Path} (hp : p.length ≤ 1073741824) {ps : List Path} (hps : ps.length ≤ 1073741824) {w0 : World} {H : Hp} {own : List Seg} {gm e : Nat} {u lv rv v : Value} {seg : Seg}
    (hl : rd H (.s 2 (Tr.ds l)) lv) (hr : rd H (.s 2 (Tr.ds r)) rv) (hA : rd H (pD p) v) (hlog : Log H u ps seg) :
    Fn Try.prog 57 [.pointer (some ⟨gm, 0, none⟩), lv, rv, v] w0 H ([(gm, .cells #[u] e (0, 0))] :: seg :: own)
      (fun x own' H' => ∃ u' seg', rd H' (.s 2 (Tr.ds (insP l r p).1)) x ∧ own' = [(gm, .cells #[u'] e (0, 0))] :: seg' :: own ∧ Log H' u' (ps ++ (insP l r p).2) seg' ∧ Le H H') := by
  obtain ⟨A, ca, rfl, ha1, ha2⟩ := trs_len hl
  obtain ⟨B, cb, rfl, hb1, hb2⟩ := trs_len hr
  refine Fn.enter Try.func57 rfl Try.ntmps57 rfl ?_
  have hL := Le.refl H
  refine TC.seq ?_
  refine TC.region ?_
  refine TL.assign rfl rfl ?_
  refine TL.nil ?_
  refine TQ.then_n ?_
  refine TC.seq ?_
  refine TC.block ?_
  refine TC.seq ?_
  refine TC.region ?_
  refine TL.move rfl rfl ?_
  refine TL.len_slice rfl rfl ?_
  refine TL.eqlB rfl rfl rfl (fun h0 => ?_) (fun h0 => ?_)
  ·
   refine TL.assign rfl rfl ?_
   refine TL.nil ?_
   refine TQ.then_n ?_
   refine TC.cond_t rfl ?_
   refine TC.seq ?_
   refine TC.region ?_
   refine TL.move rfl rfl ?_
   refine TL.assign rfl rfl ?_
   refine TL.nil ?_
   refine TQ.then_n ?_
   refine TC.ret ?_
   refine TQ.in_r ?_
   refine TQ.then_r ?_
   refine TQ.ret1 0 rfl rfl ?_
   first
     | exact ⟨_, _, by rw [ins_a (by omega)]; exact hr, rfl, by rw [ins_a (by omega)]; simpa using hlog, hL⟩
     | exact ⟨_, _, by rw [ins_c (by omega) (by omega) (by simpa [Tr.eqbs_eq] using hq)]; exact rd.nil _ _, rfl, by rw [ins_c (by omega) (by omega) (by simpa [Tr.eqbs_eq] using hq)]; exact hlog3, hL⟩
     | exact ⟨_, _, by rw [ins_b (by omega) (.inr (by simpa [Tr.eqbs_eq] using hq))]; exact hl, rfl, by rw [ins_b (by omega) (.inr (by simpa [Tr.eqbs_eq] using hq))]; simpa using hlog, hL⟩
     | exact ⟨_, _, by rw [ins_b (by omega) (.inl (by omega))]; exact hl, rfl, by rw [ins_b (by omega) (.inl (by omega))]; simpa using hlog, hL⟩
  ·
   refine TL.assign rfl rfl ?_
   refine TL.nil ?_
   refine TQ.then_n ?_
   refine TC.cond_f rfl ?_
   refine TC.seq ?_
   refine TC.region ?_
   refine TL.move rfl rfl ?_
   refine TL.len_slice rfl rfl ?_
   refine TL.gtrB rfl rfl rfl (fun h1 => ?_) (fun h1 => ?_)
   ·
    refine TL.move rfl rfl ?_
    refine TL.gyes rfl rfl rfl ?_
    refine TL.move rfl rfl ?_
    refine TL.gyes rfl rfl rfl ?_
    refine TL.move rfl rfl ?_
    refine TL.gyes rfl rfl rfl ?_
    refine TL.call (merge_equal hl hr) ⟨rfl, rfl, rfl, trivial⟩ rfl ?_
    rintro _ _ H2 ⟨rfl, rfl, hle2⟩
    have hL := Le.trans hL hle2
    have hA := rd.mono hle2 hA
    have hl := rd.mono hle2 hl
    have hr := rd.mono hle2 hr
    have hlog := Log.mono hle2 hlog
    refine TL.gyes rfl rfl rfl ?_
    refine TL.not rfl rfl ?_
    refine TL.pickT rfl rfl rfl rfl ?_
    refine TL.assign rfl rfl ?_
    refine TL.nil ?_
    refine TQ.then_n ?_
    refine TC.cond rfl (fun hq => ?_) (fun hq => ?_)
    ·
     refine TC.seq ?_
     refine TC.region ?_
     refine TL.move rfl rfl ?_
     refine TL.nilCheck rfl rfl ?_
     refine TL.fieldAddr rfl rfl ?_
     refine TL.move rfl rfl ?_
     refine TL.call (merge_conflict hp hps hA hlog) ⟨rfl, rfl, trivial⟩ rfl ?_
     rintro _ _ H3 ⟨u3, s3, rfl, rfl, hlog3, hle3⟩
     have hL := Le.trans hL hle3
     have hA := rd.mono hle3 hA
     have hl := rd.mono hle3 hl
     have hr := rd.mono hle3 hr
     have hlog := Log.mono hle3 hlog
     refine TL.nil ?_
     refine TQ.then_n ?_
     refine TC.seq ?_
     refine TC.region ?_
     refine TL.assign rfl rfl ?_
     refine TL.nil ?_
     refine TQ.then_n ?_
     refine TC.ret ?_
     refine TQ.in_r ?_
     refine TQ.then_r ?_
     refine TQ.ret1 0 rfl rfl ?_
     first
       | exact ⟨_, _, by rw [ins_a (by omega)]; exact hr, rfl, by rw [ins_a (by omega)]; simpa using hlog, hL⟩
       | exact ⟨_, _, by rw [ins_c (by omega) (by omega) (by simpa [Tr.eqbs_eq] using hq)]; exact rd.nil _ _, rfl, by rw [ins_c (by omega) (by omega) (by simpa [Tr.eqbs_eq] using hq)]; exact hlog3, hL⟩
       | exact ⟨_, _, by rw [ins_b (by omega) (.inr (by simpa [Tr.eqbs_eq] using hq))]; exact hl, rfl, by rw [ins_b (by omega) (.inr (by simpa [Tr.eqbs_eq] using hq))]; simpa using hlog, hL⟩
       | exact ⟨_, _, by rw [ins_b (by omega) (.inl (by omega))]; exact hl, rfl, by rw [ins_b (by omega) (.inl (by omega))]; simpa using hlog, hL⟩
    ·
     refine TC.skip ?_
     refine TQ.in_n ?_
     refine TQ.then_n ?_
     refine TC.seq ?_
     refine TC.region ?_
     refine TL.move rfl rfl ?_
     refine TL.assign rfl rfl ?_
     refine TL.nil ?_
     refine TQ.then_n ?_
     refine TC.ret ?_
     refine TQ.ret1 0 rfl rfl ?_
     first
       | exact ⟨_, _, by rw [ins_a (by omega)]; exact hr, rfl, by rw [ins_a (by omega)]; simpa using hlog, hL⟩
       | exact ⟨_, _, by rw [ins_c (by omega) (by omega) (by simpa [Tr.eqbs_eq] using hq)]; exact rd.nil _ _, rfl, by rw [ins_c (by omega) (by omega) (by simpa [Tr.eqbs_eq] using hq)]; exact hlog3, hL⟩
       | exact ⟨_, _, by rw [ins_b (by omega) (.inr (by simpa [Tr.eqbs_eq] using hq))]; exact hl, rfl, by rw [ins_b (by omega) (.inr (by simpa [Tr.eqbs_eq] using hq))]; simpa using hlog, hL⟩
       | exact ⟨_, _, by rw [ins_b (by omega) (.inl (by omega))]; exact hl, rfl, by rw [ins_b (by omega) (.inl (by omega))]; simpa using hlog, hL⟩
   ·
    refine TL.move rfl rfl ?_
    refine TL.gno rfl rfl rfl rfl ?_
    refine TL.gno rfl rfl rfl rfl ?_
    refine TL.gno rfl rfl rfl rfl ?_
    refine TL.gno rfl rfl rfl rfl ?_
    refine TL.pickF rfl rfl rfl rfl ?_
    refine TL.assign rfl rfl ?_
    refine TL.nil ?_
    refine TQ.then_n ?_
    refine TC.cond_f rfl ?_
    refine TC.skip ?_
    refine TQ.in_n ?_
    refine TQ.then_n ?_
    refine TC.seq ?_
    refine TC.region ?_
    refine TL.move rfl rfl ?_
    refine TL.assign rfl rfl ?_
    refine TL.nil ?_
    refine TQ.then_n ?_
    refine TC.ret ?_
    refine TQ.ret1 0 rfl rfl ?_
    first
      | exact ⟨_, _, by rw [ins_a (by omega)]; exact hr, rfl, by rw [ins_a (by omega)]; simpa using hlog, hL⟩
      | exact ⟨_, _, by rw [ins_c (by omega) (by omega) (by simpa [Tr.eqbs_eq] using hq)]; exact rd.nil _ _, rfl, by rw [ins_c (by omega) (by omega) (by simpa [Tr.eqbs_eq] using hq)]; exact hlog3, hL⟩
      | exact ⟨_, _, by rw [ins_b (by omega) (.inr (by simpa [Tr.eqbs_eq] using hq))]; exact hl, rfl, by rw [ins_b (by omega) (.inr (by simpa [Tr.eqbs_eq] using hq))]; simpa using hlog, hL⟩
      | exact ⟨_, _, by rw [ins_b (by omega) (.inl (by omega))]; exact hl, rfl, by rw [ins_b (by omega) (.inl (by omega))]; simpa using hlog, hL⟩

end Go.Proofs.Ytapmmfabdmhdnaa.K
