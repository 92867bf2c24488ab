/-
  Part 4 of 6 of the proof that DiffKeeps returns true for every three lists of numbers, and leaves its arguments as they were.. No condition beyond the given statement.
-/
import Derived.Laws.Pointers
import Derived.Shelf.SlicesQ.Reverse
import Derived.Test.YtaomdfcplamenaaGreatDoorProg
import Derived.Laws.StructEq
import Derived.Test.YtaomdfcplamenaaGreatDoorPkK3
set_option linter.unusedVariables false
set_option linter.unusedSimpArgs false
set_option linter.defProp false
set_option maxHeartbeats 4000000
namespace Go.Proofs.YtaomdfcplamenaaGreatDoor.K
open Go Go.RowKit Go.Proofs

def StepPost (t : Tr) (e : Ei) (r : Value) (H : Hp) : Prop :=
  (∃ c : Int, stepI t e = .inl c ∧ r = .tuple #[.agg #[.string ⟨#[]⟩, .slice none 0 0], .int .i64 0, .int .i64 c]) ∨
  ∃ (b : Ei) (u : Tr) (d0 d1 : Value), stepI t e = .inr (b, u) ∧ r = .tuple #[.agg #[d0, d1], .int .i64 (((if e.op = 2 then 0 else e.tree.size) + (if e.op = 1 then 0 else b.tree.size) : Nat) : Int), .int .i64 0] ∧ RdL H u.d [d0, d1]
theorem ref_Step {t : Tr} {e : Ei} (hpl : e.path.length ≤ 1000000) (hts : t.size ≤ 1000000) (hes : e.tree.size ≤ 1000000) {w0 : World} {H : Hp} {own : List Seg} {v0 v1 vp c0 c1 : Value} (hrd : RdL H t.d [v0, v1]) (hvp : rd H (.s 1 (ints e.path)) vp) (hx : RdL H e.tree.d [c0, c1]) :
    Fn Tryz.prog 28 [.agg #[v0, v1], .agg #[.int .i64 e.op, vp, c0, c1]] w0 H own (fun r own' H' => StepPost t e r H' ∧ own' = own ∧ Le H H') := by
  obtain ⟨A, c, rfl, hc1, hc2⟩ := vals_len hvp
  simp only [List.length_map] at hvp hc1 ⊢
  refine Fn.enter Tryz.func28 rfl Tryz.ntmps28 rfl ?_; have hL := Le.refl H; refine Qj (Qh ?_)
  refine Zx (c := #[_, _]) rfl rfl rfl ?_; intro g2
  refine Zx (c := #[_, _, _, _]) rfl rfl rfl ?_; intro g3
  refine Zc rfl ?_; intro g4; refine Qe rfl rfl (Qe rfl rfl (Qi (Qc (Qj (Qj ?_)))))
  have hcase : e.op < 1 ∨ (1 ≤ e.op ∧ 3 < e.op) ∨ ((e.op = 1 ∨ e.op = 2) ∧ e.path = []) ∨ (e.op = 3 ∧ subI t e.path = none) ∨ (e.op = 3 ∧ ∃ s, subI t e.path = some s) ∨
      ((e.op = 1 ∨ e.op = 2) ∧ e.path ≠ [] ∧ subI t e.path.dropLast = none) ∨ ((e.op = 1 ∨ e.op = 2) ∧ e.path ≠ [] ∧ ∃ s, subI t e.path.dropLast = some s) := by
    by_cases h1 : e.op < 1
    · exact .inl h1
    · by_cases h2 : 3 < e.op
      · exact .inr (.inl ⟨by omega, h2⟩)
      · by_cases h3 : e.op = 3
        · cases h4 : subI t e.path with
          | none => exact .inr (.inr (.inr (.inl ⟨h3, rfl⟩)))
          | some s => exact .inr (.inr (.inr (.inr (.inl ⟨h3, s, rfl⟩))))
        · by_cases h5 : e.path = []
          · exact .inr (.inr (.inl ⟨by omega, h5⟩))
          · cases h4 : subI t e.path.dropLast with
            | none => exact .inr (.inr (.inr (.inr (.inr (.inl ⟨by omega, h5, rfl⟩)))))
            | some s => exact .inr (.inr (.inr (.inr (.inr (.inr ⟨by omega, h5, s, rfl⟩)))))
  rcases hcase with hb | ⟨hb0, hb⟩ | ⟨hop, hp0⟩ | ⟨hop, hs⟩ | ⟨hop, s, hs⟩ | ⟨hop, hp0, hs⟩ | ⟨hop, hp0, s, hs⟩
  ·
   refine Qh (Qg rfl rfl (Qk 1 0 rfl rfl rfl rfl rfl (Zl rfl rfl rfl ?_)))
   rw [decide_eq_true (by omega)]
   refine Qb rfl rfl ?_; refine Ql rfl rfl rfl rfl ?_; refine Ql rfl rfl rfl rfl ?_; refine Ql rfl rfl rfl rfl ?_; refine Qz rfl rfl rfl rfl (Qb rfl rfl ?_); refine Ql rfl rfl rfl rfl ?_; refine Ql rfl rfl rfl rfl ?_; refine Ql rfl rfl rfl rfl ?_; refine Ql rfl rfl rfl rfl ?_; refine Zk rfl rfl rfl ?_; refine Zk rfl rfl rfl ?_; refine Zk rfl rfl rfl ?_; refine Zk rfl rfl rfl ?_; refine Ql rfl rfl rfl rfl ?_; refine Qz rfl rfl rfl rfl (Qi (Qc (Qv rfl (Qj (Qh ?_))))); refine Q8 [] trivial rfl rfl ?_; refine Qq 0 0 (c' := #[_, _]) (own' := [(_, .cells #[_, _] _ _)] :: _) rfl rfl rfl rfl rfl ⟨rfl, rfl, trivial⟩ (by simp) rfl rfl rfl (Qe rfl rfl (Qe rfl rfl (Qi ?_)))
   refine Qc (Qy (Q0 ?_)); refine TQ.retC2 0 0 3 [_, _] rfl rfl rfl rfl rfl rfl ⟨rfl, rfl, trivial⟩ rfl rfl ?_
   exact ⟨.inl ⟨_, step_bad (.inl hb), rfl⟩, rfl, hL⟩
  ·
   refine Qh (Qg rfl rfl (Qk 1 0 rfl rfl rfl rfl rfl (Zl rfl rfl rfl ?_)))
   rw [decide_eq_false (by omega)]
   refine Qb rfl rfl ?_; refine Qf rfl rfl rfl (Qg rfl rfl ?_); refine Qf rfl rfl rfl (Qk 1 0 rfl rfl rfl rfl rfl ?_); refine Qf rfl rfl rfl (TL.gtr rfl rfl rfl ?_)
   rw [decide_eq_true (by omega)]
   refine Qx rfl rfl rfl rfl (Qb rfl rfl ?_); refine Ql rfl rfl rfl rfl ?_; refine Ql rfl rfl rfl rfl ?_; refine Ql rfl rfl rfl rfl ?_; refine Ql rfl rfl rfl rfl ?_; refine Zk rfl rfl rfl ?_; refine Zk rfl rfl rfl ?_; refine Zk rfl rfl rfl ?_; refine Zk rfl rfl rfl ?_; refine Ql rfl rfl rfl rfl ?_; refine Qz rfl rfl rfl rfl (Qi (Qc (Qv rfl (Qj (Qh ?_))))); refine Q8 [] trivial rfl rfl ?_; refine Qq 0 0 (c' := #[_, _]) (own' := [(_, .cells #[_, _] _ _)] :: _) rfl rfl rfl rfl rfl ⟨rfl, rfl, trivial⟩ (by simp) rfl rfl rfl (Qe rfl rfl (Qe rfl rfl (Qi (Qc (Qy ?_))))); refine Q0 ?_
   refine TQ.retC2 0 0 3 [_, _] rfl rfl rfl rfl rfl rfl ⟨rfl, rfl, trivial⟩ rfl rfl ?_
   exact ⟨.inl ⟨_, step_bad (.inr (.inl hb)), rfl⟩, rfl, hL⟩
  ·
   refine Qh (Qg rfl rfl (Qk 1 0 rfl rfl rfl rfl rfl (Zl rfl rfl rfl ?_)))
   rw [decide_eq_false (by omega)]
   refine Qb rfl rfl ?_; refine Qf rfl rfl rfl (Qg rfl rfl ?_); refine Qf rfl rfl rfl (Qk 1 0 rfl rfl rfl rfl rfl ?_); refine Qf rfl rfl rfl (TL.gtr rfl rfl rfl ?_)
   rw [decide_eq_false (by omega)]
   refine Qx rfl rfl rfl rfl (Qb rfl rfl ?_); refine Qf rfl rfl rfl (Qg rfl rfl ?_); refine Qf rfl rfl rfl (Qk 1 0 rfl rfl rfl rfl rfl ?_); refine Qf rfl rfl rfl (TL.neq rfl rfl rfl ?_)
   rw [decide_eq_true (by omega)]
   refine Qf rfl rfl rfl (Qb rfl rfl ?_); refine Qf rfl rfl rfl (Qg rfl rfl ?_); refine Qf rfl rfl rfl (Qk 1 0 rfl rfl rfl rfl rfl ?_); refine Qf rfl rfl rfl (Qn rfl rfl ?_); refine Qf rfl rfl rfl (Za rfl rfl rfl ?_)
   rw [decide_eq_true (by rw [hp0]; rfl)]
   refine Qf rfl rfl rfl ?_; refine Qz rfl rfl rfl rfl ?_; refine Qx rfl rfl rfl rfl (Qi (Qc (Qv rfl (Qj (Qh ?_))))); refine Q8 [] trivial rfl rfl ?_; refine Qq 0 0 (c' := #[_, _]) (own' := [(_, .cells #[_, _] _ _)] :: _) rfl rfl rfl rfl rfl ⟨rfl, rfl, trivial⟩ (by simp) rfl rfl rfl (Qe rfl rfl (Qe rfl rfl (Qi (Qc (Qy ?_))))); refine Q0 ?_; refine TQ.retC2 0 0 3 [_, _] rfl rfl rfl rfl rfl rfl ⟨rfl, rfl, trivial⟩ rfl rfl ?_
   exact ⟨.inl ⟨_, step_bad (.inr (.inr ⟨hp0, by omega⟩)), rfl⟩, rfl, hL⟩
  ·
   refine Qh (Qg rfl rfl (Qk 1 0 rfl rfl rfl rfl rfl (Zl rfl rfl rfl ?_)))
   rw [decide_eq_false (by omega)]
   refine Qb rfl rfl ?_; refine Qf rfl rfl rfl (Qg rfl rfl ?_); refine Qf rfl rfl rfl (Qk 1 0 rfl rfl rfl rfl rfl ?_); refine Qf rfl rfl rfl (TL.gtr rfl rfl rfl ?_)
   rw [decide_eq_false (by omega)]
   refine Qx rfl rfl rfl rfl (Qb rfl rfl ?_); refine Qf rfl rfl rfl (Qg rfl rfl ?_); refine Qf rfl rfl rfl (Qk 1 0 rfl rfl rfl rfl rfl ?_); refine Qf rfl rfl rfl (TL.neq rfl rfl rfl ?_)
   rw [decide_eq_false (fun h => h hop)]
   refine Qf rfl rfl rfl (Qb rfl rfl ?_); refine Ql rfl rfl rfl rfl ?_; refine Ql rfl rfl rfl rfl ?_; refine Ql rfl rfl rfl rfl ?_; refine Ql rfl rfl rfl rfl ?_; refine Qf rfl rfl rfl ?_; refine Qx rfl rfl rfl rfl ?_; refine Qx rfl rfl rfl rfl (Qi (Qc (Qr rfl (Q2 (Qc ?_))))); refine Qj (Qj (Qh (Qg rfl rfl (Qk 1 0 rfl rfl rfl rfl rfl (Za rfl rfl rfl ?_)))))
   rw [decide_eq_true (by omega)]
   refine Qi (Qc (Qv rfl (Qj (Qh ?_)))); refine Qm 2 0 [_, _] rfl rfl rfl ⟨rfl, rfl, trivial⟩ rfl rfl (Qg rfl rfl (Qk 1 0 rfl rfl rfl rfl rfl ?_)); refine Qs (At_none hs (by omega) hrd hvp) ⟨rfl, rfl, trivial⟩ rfl ?_
   rintro _ own H2 ⟨rfl, rfl, hle2⟩
   have hL := Le.trans hL hle2; refine Qb rfl rfl (Qu rfl rfl rfl (Qu rfl rfl rfl ?_))
   refine Zc rfl ?_; intro g7; refine Qq 0 0 (c' := #[_, _]) (own' := [(_, .cells #[_, _] _ _)] :: _) rfl rfl rfl rfl rfl (by first | exact tr_ones hr | exact ⟨rfl, rfl, trivial⟩) (by simp) rfl rfl rfl ?_; refine Qe rfl rfl (Qi (Qc (Qj (Qj (Qh ?_))))); refine Qb rfl rfl (Z1 rfl rfl (Qi (Qc (Qv rfl (Qj ?_))))); refine Qh ?_; refine Q8 [] trivial rfl rfl ?_; refine Qq 1 0 (c' := #[_, _]) (own' := _ :: [(_, .cells #[_, _] _ _)] :: _) rfl rfl rfl rfl rfl ⟨rfl, rfl, trivial⟩ (by simp) rfl rfl rfl (Qe rfl rfl (Qe rfl rfl (Qi (Qc (Qy ?_))))); refine Q0 (Q0 ?_)
   refine TQ.retC2 1 0 4 [_, _] rfl rfl rfl rfl rfl rfl ⟨rfl, rfl, trivial⟩ rfl rfl ?_
   exact ⟨.inl ⟨_, step_rep0 hop hs, rfl⟩, rfl, hL⟩
  ·
   refine Qh (Qg rfl rfl (Qk 1 0 rfl rfl rfl rfl rfl (Zl rfl rfl rfl ?_)))
   rw [decide_eq_false (by omega)]
   refine Qb rfl rfl ?_; refine Qf rfl rfl rfl (Qg rfl rfl ?_); refine Qf rfl rfl rfl (Qk 1 0 rfl rfl rfl rfl rfl ?_); refine Qf rfl rfl rfl (TL.gtr rfl rfl rfl ?_)
   rw [decide_eq_false (by omega)]
   refine Qx rfl rfl rfl rfl (Qb rfl rfl ?_); refine Qf rfl rfl rfl (Qg rfl rfl ?_); refine Qf rfl rfl rfl (Qk 1 0 rfl rfl rfl rfl rfl ?_); refine Qf rfl rfl rfl (TL.neq rfl rfl rfl ?_)
   rw [decide_eq_false (fun h => h hop)]
   refine Qf rfl rfl rfl (Qb rfl rfl ?_); refine Ql rfl rfl rfl rfl ?_; refine Ql rfl rfl rfl rfl ?_; refine Ql rfl rfl rfl rfl ?_; refine Ql rfl rfl rfl rfl ?_; refine Qf rfl rfl rfl ?_; refine Qx rfl rfl rfl rfl ?_; refine Qx rfl rfl rfl rfl (Qi (Qc (Qr rfl (Q2 (Qc ?_))))); refine Qj (Qj (Qh (Qg rfl rfl (Qk 1 0 rfl rfl rfl rfl rfl (Za rfl rfl rfl ?_)))))
   rw [decide_eq_true (by omega)]
   refine Qi (Qc (Qv rfl (Qj (Qh ?_)))); refine Qm 2 0 [_, _] rfl rfl rfl ⟨rfl, rfl, trivial⟩ rfl rfl (Qg rfl rfl (Qk 1 0 rfl rfl rfl rfl rfl ?_)); refine Qs (At_some hs (by omega) hrd hvp) ⟨rfl, rfl, trivial⟩ rfl ?_
   rintro _ own H2 ⟨d0, d1, rfl, hr, rfl, hle2⟩
   have hL := Le.trans hL hle2; have hvp := rd.mono hle2 hvp; have hrd := RdL.mono hle2 hrd; have hx := RdL.mono hle2 hx; refine Qb rfl rfl (Qu rfl rfl rfl (Qu rfl rfl rfl ?_))
   refine Zc rfl ?_; intro g7; refine Qq 0 0 (c' := #[_, _]) (own' := [(_, .cells #[_, _] _ _)] :: _) rfl rfl rfl rfl rfl (by first | exact tr_ones hr | exact ⟨rfl, rfl, trivial⟩) (by simp) rfl rfl rfl ?_; refine Qe rfl rfl (Qi (Qc (Qj (Qj (Qh ?_))))); refine Qb rfl rfl (Z1 rfl rfl (Qi (Qc (Qr rfl (Q2 ?_))))); refine Qc (Qj ?_); have hss := subI_size _ _ hs
   refine Z2 4 [1, 0, 2, 3] rfl (fun o ho => ?_)
   simp only [K.sel, nrm] at ho; subst ho
   refine TC.drawCV 13  [(0, _), (1, _), (2, _), (3, _), (4, _), (5, _), (6, _), (7, _), (8, _)] follows_mixed ⟨rfl, rfl, rfl, rfl, rfl, rfl, rfl, rfl, rfl, trivial⟩ ?_
   refine Qa (some 47) [] (by
    intro H' X F hle; have hL := Le.trans hL hle; intro hF; refine Qm 2 0 [_, _] rfl rfl rfl ⟨rfl, rfl, trivial⟩ rfl rfl ?_
    exact Qd hF) ?_
   refine Qa (some 48) [] (fun _ _ _ _ hF => Qg rfl rfl (Qd hF)) ?_
   refine Qa (some 49) [(1, 0)] (by
    intro H' X F hle; have hL := Le.trans hL hle; intro hF; refine Qk 1 0 rfl rfl rfl rfl rfl ?_
    exact Qd hF) ?_
   refine Qa (some 50) [] (fun _ _ _ _ hF => Qg rfl rfl (Qd hF)) ?_
   refine Qa (some 51) [(3, 0)] (by
    intro H' X F hle; have hL := Le.trans hL hle; intro hF; refine Qm 1 0 [_, _] rfl rfl rfl ⟨rfl, rfl, trivial⟩ rfl rfl ?_
    exact Qd hF) ?_
   refine Q9 (some 52) [(0, 4), (2, 2), (4, 0)] ([]) (fun _ => fun r sg H => ∃ d0 d1, r = .agg #[d0, d1] ∧ RdL H (putT t (e.path.map Int.toNat) e.tree).d [d0, d1] ∧ sg = []) (by
    intro H' X F hle; have hL := Le.trans hL hle; have hvp := rd.mono hle hvp; have hrd := RdL.mono hle hrd; have hx := RdL.mono hle hx; intro hF; refine Qs (ref_Put _ e.path (Nat.le_refl _) hs hts (by omega) hrd hvp hx) ⟨rfl, rfl, rfl, trivial⟩ rfl ?_
    rintro _ _ H2 ⟨f0, f1, rfl, hr2, rfl, hle2⟩
    refine Qi ?_
    exact Q7 [] hF hle2 ⟨f0, f1, rfl, hr2, rfl⟩) ?_
   refine Qa (some 53) [] (by
    intro H' X F hle; have hL := Le.trans hL hle; intro hF; refine Qm 0 0 [_, _] rfl rfl rfl ⟨rfl, rfl, trivial⟩ rfl rfl ?_
    exact Qd hF) ?_
   refine Qa (some 54) [(6, 0)] (by
    intro H' X F hle; have hL := Le.trans hL hle; have hr := RdL.mono hle hr; intro hF; refine Qs (ref_Count s.size s (Nat.le_refl _) (by have := subI_size _ _ hs; omega) hr) ⟨rfl, trivial⟩ rfl ?_
    rintro _ _ H2 ⟨rfl, rfl, hle2⟩
    have hL := Le.trans hL hle2; refine Qi ?_
    exact Q7 [] hF hle2 ⟨rfl, rfl⟩) ?_
   refine Qa (some 55) [] (fun _ _ _ _ hF => Qg rfl rfl (Qd hF)) ?_
   refine Qa (some 56) [(8, 0)] (by
    intro H' X F hle; have hL := Le.trans hL hle; intro hF; refine Qm 1 0 [_, _] rfl rfl rfl ⟨rfl, rfl, trivial⟩ rfl rfl ?_
    exact Qd hF) ?_
   refine Qa (some 57) [(9, 0)] (by
    intro H' X F hle; have hL := Le.trans hL hle; have hx := RdL.mono hle hx; intro hF; refine Qs (ref_Count e.tree.size e.tree (Nat.le_refl _) (by omega) hx) ⟨rfl, trivial⟩ rfl ?_
    rintro _ _ H2 ⟨rfl, rfl, hle2⟩
    have hL := Le.trans hL hle2; refine Qi ?_
    exact Q7 [] hF hle2 ⟨rfl, rfl⟩) ?_
   refine Qa (some 58) [(7, 3), (10, 0)] (fun _ _ _ _ hF => Zb rfl rfl rfl ⟨by omega, by omega⟩ (Qd hF)) ?_
   refine Q9 none [(5, 6)] ([[(g4, .cells #[.string ⟨#[]⟩, .slice none 0 0] 26 (0, 0))]]) (fun _ => fun u sg H => ∃ d0 d1, sg = [[(g4, .cells #[d0, d1] 26 (0, 0))]] ∧ RdL H (putT t (e.path.map Int.toNat) e.tree).d [d0, d1]) (by
    intro H' X F hle; have hL := Le.trans hL hle; intro _
    rintro _ _ Hi hle52 ⟨f0, f1, rfl, hr52, rfl⟩
    replace hr52 := RdL.mono hle52 hr52
    intro hF; refine Qq 0 0 (c' := #[_, _]) (own' := [(_, .cells #[_, _] _ _)] :: _) rfl rfl rfl rfl rfl (tr_ones hr52) (by simp) rfl rfl rfl (Qi ?_)
    exact Q7 [_] hF (Le.refl _) ⟨_, _, rfl, hr52⟩) ?_
   refine ⟨by kernel_rfl, .refl _, ?_⟩
   ·
    intro H1 hle
    rintro _ _ Hi hle52 ⟨f0, f1, rfl, hr52, rfl⟩
    rintro _ _ Hr hler ⟨k0, k1, rfl, hr4⟩
    replace hr4 := RdL.mono hler hr4
    have hL := Le.trans hL hle; refine Qw (own' := _ :: _ :: _ :: _ :: own) rfl ?_; refine Zi (env' := [(0, _), (1, _), (2, _), (3, _), (4, _), (5, _), (6, _), (7, _), (8, _), (58, _)]) ⟨rfl, rfl, rfl, rfl, rfl, rfl, rfl, rfl, rfl, rfl, trivial⟩ (Qe rfl rfl (Qe rfl rfl (Qi (Qc (Qy ?_))))); refine Q0 ?_; refine TQ.retC2 0 0 4 [_, _] rfl rfl rfl rfl rfl rfl ⟨rfl, rfl, trivial⟩ rfl rfl ?_
    exact ⟨.inr ⟨_, _, _, _, step_rep hop hs, by rw [if_neg (by omega), if_neg (by omega), Nat.add_comm]; simp, hr4⟩, rfl, hL⟩
  ·
   refine Qh (Qg rfl rfl (Qk 1 0 rfl rfl rfl rfl rfl (Zl rfl rfl rfl ?_)))
   rw [decide_eq_false (by omega)]
   refine Qb rfl rfl ?_; refine Qf rfl rfl rfl (Qg rfl rfl ?_); refine Qf rfl rfl rfl (Qk 1 0 rfl rfl rfl rfl rfl ?_); refine Qf rfl rfl rfl (TL.gtr rfl rfl rfl ?_)
   rw [decide_eq_false (by omega)]
   refine Qx rfl rfl rfl rfl (Qb rfl rfl ?_); refine Qf rfl rfl rfl (Qg rfl rfl ?_); refine Qf rfl rfl rfl (Qk 1 0 rfl rfl rfl rfl rfl ?_); refine Qf rfl rfl rfl (TL.neq rfl rfl rfl ?_)
   rw [decide_eq_true (by omega)]
   refine Qf rfl rfl rfl (Qb rfl rfl ?_); refine Qf rfl rfl rfl (Qg rfl rfl ?_); refine Qf rfl rfl rfl (Qk 1 0 rfl rfl rfl rfl rfl ?_); refine Qf rfl rfl rfl (Qn rfl rfl ?_); refine Qf rfl rfl rfl (Za rfl rfl rfl ?_)
   rw [decide_eq_false (fun h => hp0 (List.eq_nil_of_length_eq_zero (by omega)))]
   refine Qf rfl rfl rfl ?_; refine Qz rfl rfl rfl rfl ?_; refine Qx rfl rfl rfl rfl (Qi (Qc (Qr rfl (Q2 (Qc ?_))))); refine Qj (Qj (Qh (Qg rfl rfl (Qk 1 0 rfl rfl rfl rfl rfl (Za rfl rfl rfl ?_)))))
   rw [decide_eq_false (by omega)]
   refine Qi (Qc (Qr rfl (Q2 (Qc (Qj ?_))))); have hpos := List.length_pos_iff.2 hp0; refine Q4 14  [(0, _), (1, _), (2, _), (3, _), (4, _), (5, _), (6, _)] follows_mixed ⟨rfl, rfl, rfl, rfl, rfl, rfl, rfl, trivial⟩ ?_
   refine Qa (some 60) [] (by
    intro H' X F hle; have hL := Le.trans hL hle; intro hF; refine Qm 2 0 [_, _] rfl rfl rfl ⟨rfl, rfl, trivial⟩ rfl rfl ?_
    exact Qd hF) ?_
   refine Qa (some 61) [] (fun _ _ _ _ hF => Qg rfl rfl (Qd hF)) ?_
   refine Qa (some 62) [(1, 0)] (by
    intro H' X F hle; have hL := Le.trans hL hle; intro hF; refine Qk 1 0 rfl rfl rfl rfl rfl ?_
    exact Qd hF) ?_
   refine Qa (some 63) [] (fun _ _ _ _ hF => Qg rfl rfl (Qd hF)) ?_
   refine Qa (some 64) [(3, 0)] (by
    intro H' X F hle; have hL := Le.trans hL hle; intro hF; refine Qk 1 0 rfl rfl rfl rfl rfl ?_
    exact Qd hF) ?_
   refine Qa (some 65) [(4, 0)] (by
    intro H' X F hle; have hL := Le.trans hL hle; intro hF; refine Qn rfl rfl ?_
    exact Qd hF) ?_
   refine Qa (some 66) [(5, 0)] (fun _ _ _ _ hF => Zu rfl rfl rfl ⟨by omega, by omega⟩ (Qd hF)) ?_
   refine Q9 (some 67) [(2, 4), (6, 0)] ([]) (fun _ => fun u sg H => rd H (.s 1 (ints e.path.dropLast)) u ∧ sg = []) (by
    intro H' X F hle; have hL := Le.trans hL hle; have hvp := rd.mono hle hvp; intro hF; refine Z3 (0) (e.path.length - 1) rfl rfl ⟨_, _, rfl, rfl⟩ rfl (by simp only [Option.getD_some]; omega) (by omega) (by omega) rfl ?_
    refine Qi ?_
    exact Q7 [] hF (Le.refl _) ⟨by
      have h := rd.cut hvp (l := 0) (r := e.path.length - 1) (by omega) (by omega)
      rw [show ((ints e.path).drop (0 * 1)).take ((e.path.length - 1 - 0) * 1) = ints e.path.dropLast from by simp [ints, List.dropLast_eq_take]] at h
      exact h, rfl⟩) ?_
   refine Qa (some 68) [(0, 7), (7, 0)] (by
    intro H' X F hle; have hL := Le.trans hL hle; have hrd := RdL.mono hle hrd; intro _
    rintro v67 _ Hi hle67 ⟨hv67, rfl⟩
    replace hv67 := rd.mono hle67 hv67
    intro hF; refine Qs (At_none hs (by simp; omega) hrd hv67) ⟨rfl, rfl, trivial⟩ rfl ?_
    rintro _ _ H2 ⟨rfl, rfl, hle2⟩
    have hL := Le.trans hL hle2; refine Qi ?_
    exact Q7 [] hF hle2 ⟨rfl, rfl⟩) ?_
   refine Qa (some 59) [(8, 0)] (fun _ _ _ _ hF => Qb rfl rfl (Qd hF)) ?_; refine Qa (some 69) [(9, 0)] (fun _ _ _ _ hF => Qu rfl rfl rfl (Qd hF)) ?_
   refine Qa (some 70) [(9, 1)] (by
    intro H' X F hle; have hL := Le.trans hL hle; intro hF; refine Qu rfl rfl rfl ?_
    exact Qd hF) ?_
   refine Z5 true [] (some 9) [] ([]) (fun _ => fun u sg H => ∃ g, u = .pointer (some ⟨g, 0, none⟩) ∧ sg = [[(g, .cells #[.string ⟨#[]⟩, .slice none 0 0] 26 (0, 0))]]) (by
    intro H' X F hle; have hL := Le.trans hL hle; intro hF
    refine Zc rfl ?_; intro g9; refine Qi ?_
    exact Q7 [_] hF (Le.refl _) ⟨_, rfl, rfl⟩) ?_
   refine Z5 false [12] none [(12, 0), (10, 2)] ([]) (fun vs u sg H => ∃ g, nthV vs 0 = .pointer (some ⟨g, 0, none⟩) ∧ sg = [[(g, .cells #[.string ⟨#[]⟩, .slice none 0 0] 26 (0, 0))]]) (by
    intro H' X F hle; have hL := Le.trans hL hle; intro _
    rintro _ _ Hr hler ⟨g9, rfl, rfl⟩
    intro hF; refine Qw (own' := _ :: _) rfl ?_; refine Qq 0 0 (c' := #[_, _]) (own' := [(_, .cells #[_, _] _ _)] :: _) rfl rfl rfl rfl rfl ⟨rfl, rfl, trivial⟩ (by simp) rfl rfl rfl (Qi ?_)
    exact Q7 [_] hF (Le.refl _) ⟨_, rfl, rfl⟩) ?_
   refine ⟨by kernel_rfl, .refl _, ?_⟩
   ·
    intro H2 hle
    rintro v67 _ Hi hle67 ⟨hv67, rfl⟩
    rintro _ _ Hr hler ⟨g9, rfl, rfl⟩
    rintro _ _ Hr hler ⟨g9, e9, rfl⟩
    cases e9
    have hL := Le.trans hL hle; have hvp := rd.mono hle hvp; refine Qw (own' := _ :: _ :: _ :: _ :: own) rfl ?_; refine Zi (env' := [(0, _), (1, _), (2, _), (3, _), (4, _), (5, _), (6, _), (70, _), (9, _)]) ⟨rfl, rfl, rfl, rfl, rfl, rfl, rfl, rfl, rfl, trivial⟩ (Qe rfl rfl (Qi (Qc (Qj ?_))))
    have hxl : e.path[e.path.length - 1]? = some (e.path.getLastD 0) := by
      rw [List.getLastD_eq_getLast?, ← List.getLast?_eq_getElem?]
      cases h : e.path.getLast? with
      | none => simp at h; exact absurd h hp0
      | some y => rfl
    obtain ⟨b2, q2, rfl, hlast⟩ := vals_at hvp (i := e.path.length - 1) (u := .int .i64 (e.path.getLastD 0)) (by simp [hxl])
    rcases True.intro with _
    ·
     refine Qh (Qg rfl rfl (Qk 2 0 rfl rfl rfl rfl rfl (Qg rfl rfl (Qk 2 0 rfl rfl rfl rfl rfl (Qn rfl rfl ?_))))); refine Zu rfl rfl rfl ⟨by omega, by omega⟩ ?_; refine Qo (e.path.length - 1) rfl rfl (by omega) (by omega) rfl ?_; refine Qp rfl (hlast) rfl (Qe rfl rfl (Qi (Qc (Qj (Qj ?_))))); refine Qh (Qb rfl rfl (Z1 rfl rfl (Qb rfl rfl ?_))); refine Ql rfl rfl rfl rfl ?_; refine Ql rfl rfl rfl rfl ?_; refine Qz rfl rfl rfl rfl (Qb rfl rfl ?_); refine Ql rfl rfl rfl rfl ?_; refine Ql rfl rfl rfl rfl ?_; refine Ql rfl rfl rfl rfl ?_; refine Ql rfl rfl rfl rfl ?_; refine Ql rfl rfl rfl rfl ?_
     refine Qz rfl rfl rfl rfl (Qb rfl rfl ?_); refine Ql rfl rfl rfl rfl ?_; refine Ql rfl rfl rfl rfl ?_; refine Ql rfl rfl rfl rfl ?_; refine Ql rfl rfl rfl rfl ?_; refine Zk rfl rfl rfl ?_; refine Zk rfl rfl rfl ?_; refine Zk rfl rfl rfl ?_; refine Zk rfl rfl rfl ?_; refine Zk rfl rfl rfl ?_; refine Ql rfl rfl rfl rfl ?_; refine Qz rfl rfl rfl rfl (Qi (Qc (Qv rfl (Qj (Qh ?_))))); refine Q8 [] trivial rfl rfl ?_; refine Qq 1 0 (c' := #[_, _]) (own' := _ :: [(_, .cells #[_, _] _ _)] :: _) rfl rfl rfl rfl rfl ⟨rfl, rfl, trivial⟩ (by simp) rfl rfl rfl (Qe rfl rfl (Qe rfl rfl (Qi (Qc (Qy ?_))))); refine Q0 ?_
     refine TQ.retC2 1 0 4 [_, _] rfl rfl rfl rfl rfl rfl ⟨rfl, rfl, trivial⟩ rfl rfl ?_
     exact ⟨.inl ⟨_, step_no hop hp0 hs, rfl⟩, rfl, hL⟩
  ·
   obtain ⟨l, ks⟩ := s
   have hss := subI_size _ _ hs; have hks := Tr.len_le ks
   simp only [Tr.size] at hss
   refine Qh (Qg rfl rfl (Qk 1 0 rfl rfl rfl rfl rfl (Zl rfl rfl rfl ?_)))
   rw [decide_eq_false (by omega)]
   refine Qb rfl rfl ?_; refine Qf rfl rfl rfl (Qg rfl rfl ?_); refine Qf rfl rfl rfl (Qk 1 0 rfl rfl rfl rfl rfl ?_); refine Qf rfl rfl rfl (TL.gtr rfl rfl rfl ?_)
   rw [decide_eq_false (by omega)]
   refine Qx rfl rfl rfl rfl (Qb rfl rfl ?_); refine Qf rfl rfl rfl (Qg rfl rfl ?_); refine Qf rfl rfl rfl (Qk 1 0 rfl rfl rfl rfl rfl ?_); refine Qf rfl rfl rfl (TL.neq rfl rfl rfl ?_)
   rw [decide_eq_true (by omega)]
   refine Qf rfl rfl rfl (Qb rfl rfl ?_); refine Qf rfl rfl rfl (Qg rfl rfl ?_); refine Qf rfl rfl rfl (Qk 1 0 rfl rfl rfl rfl rfl ?_); refine Qf rfl rfl rfl (Qn rfl rfl ?_); refine Qf rfl rfl rfl (Za rfl rfl rfl ?_)
   rw [decide_eq_false (fun h => hp0 (List.eq_nil_of_length_eq_zero (by omega)))]
   refine Qf rfl rfl rfl ?_; refine Qz rfl rfl rfl rfl ?_; refine Qx rfl rfl rfl rfl (Qi (Qc (Qr rfl (Q2 (Qc ?_))))); refine Qj (Qj (Qh (Qg rfl rfl (Qk 1 0 rfl rfl rfl rfl rfl (Za rfl rfl rfl ?_)))))
   rw [decide_eq_false (by omega)]
   refine Qi (Qc (Qr rfl (Q2 (Qc (Qj ?_))))); have hpos := List.length_pos_iff.2 hp0; refine Q4 14  [(0, _), (1, _), (2, _), (3, _), (4, _), (5, _), (6, _)] follows_mixed ⟨rfl, rfl, rfl, rfl, rfl, rfl, rfl, trivial⟩ ?_
   refine Qa (some 60) [] (by
    intro H' X F hle; have hL := Le.trans hL hle; intro hF; refine Qm 2 0 [_, _] rfl rfl rfl ⟨rfl, rfl, trivial⟩ rfl rfl ?_
    exact Qd hF) ?_
   refine Qa (some 61) [] (fun _ _ _ _ hF => Qg rfl rfl (Qd hF)) ?_
   refine Qa (some 62) [(1, 0)] (by
    intro H' X F hle; have hL := Le.trans hL hle; intro hF; refine Qk 1 0 rfl rfl rfl rfl rfl ?_
    exact Qd hF) ?_
   refine Qa (some 63) [] (fun _ _ _ _ hF => Qg rfl rfl (Qd hF)) ?_
   refine Qa (some 64) [(3, 0)] (by
    intro H' X F hle; have hL := Le.trans hL hle; intro hF; refine Qk 1 0 rfl rfl rfl rfl rfl ?_
    exact Qd hF) ?_
   refine Qa (some 65) [(4, 0)] (by
    intro H' X F hle; have hL := Le.trans hL hle; intro hF; refine Qn rfl rfl ?_
    exact Qd hF) ?_
   refine Qa (some 66) [(5, 0)] (fun _ _ _ _ hF => Zu rfl rfl rfl ⟨by omega, by omega⟩ (Qd hF)) ?_
   refine Q9 (some 67) [(2, 4), (6, 0)] ([]) (fun _ => fun u sg H => rd H (.s 1 (ints e.path.dropLast)) u ∧ sg = []) (by
    intro H' X F hle; have hL := Le.trans hL hle; have hvp := rd.mono hle hvp; intro hF; refine Z3 (0) (e.path.length - 1) rfl rfl ⟨_, _, rfl, rfl⟩ rfl (by simp only [Option.getD_some]; omega) (by omega) (by omega) rfl ?_
    refine Qi ?_
    exact Q7 [] hF (Le.refl _) ⟨by
      have h := rd.cut hvp (l := 0) (r := e.path.length - 1) (by omega) (by omega)
      rw [show ((ints e.path).drop (0 * 1)).take ((e.path.length - 1 - 0) * 1) = ints e.path.dropLast from by simp [ints, List.dropLast_eq_take]] at h
      exact h, rfl⟩) ?_
   refine Q9 (some 68) [(0, 7), (7, 0)] ([]) (fun _ => fun u sg H => ∃ d0 d1, u = .tuple #[.agg #[d0, d1], .bool true] ∧ RdL H (Tr.node l ks).d [d0, d1] ∧ sg = []) (by
    intro H' X F hle; have hL := Le.trans hL hle; have hrd := RdL.mono hle hrd; intro _
    rintro v67 _ Hi hle67 ⟨hv67, rfl⟩
    replace hv67 := rd.mono hle67 hv67
    intro hF; refine Qs (At_some hs (by simp; omega) hrd hv67) ⟨rfl, rfl, trivial⟩ rfl ?_
    rintro _ _ H2 ⟨f0, f1, rfl, hr2, rfl, hle2⟩
    have hL := Le.trans hL hle2; refine Qi ?_
    exact Q7 [] hF hle2 ⟨f0, f1, rfl, hr2, rfl⟩) ?_
   refine Q9 (some 59) [(8, 0)] ([]) (fun _ => fun u sg H => ∃ d0 d1, u = .tuple #[.agg #[d0, d1], .bool true] ∧ RdL H (Tr.node l ks).d [d0, d1] ∧ sg = []) (by
    intro H' X F hle; have hL := Le.trans hL hle; intro _
    rintro _ _ Hi hle68 ⟨f0, f1, rfl, hr68, rfl⟩
    replace hr68 := RdL.mono hle68 hr68
    intro hF; refine Qb rfl rfl (Qi ?_)
    exact Q7 [] hF (Le.refl _) ⟨f0, f1, rfl, hr68, rfl⟩) ?_
   refine Q9 (some 69) [(9, 0)] ([]) (fun _ => fun u sg H => ∃ d0 d1, u = .agg #[d0, d1] ∧ RdL H (Tr.node l ks).d [d0, d1] ∧ sg = []) (by
    intro H' X F hle; have hL := Le.trans hL hle; intro _
    rintro _ _ Hi hle59 ⟨f0, f1, rfl, hr59, rfl⟩
    replace hr59 := RdL.mono hle59 hr59
    intro hF; refine Qu rfl rfl rfl (Qi ?_)
    exact Q7 [] hF (Le.refl _) ⟨f0, f1, rfl, hr59, rfl⟩) ?_
   refine Qa (some 70) [(9, 1)] (by
    intro H' X F hle; have hL := Le.trans hL hle; intro _
    rintro _ _ Hi hle59 ⟨f0, f1, rfl, hr59, rfl⟩
    intro hF; refine Qu rfl rfl rfl ?_
    exact Qd hF) ?_
   refine Z5 true [] (some 9) [] ([]) (fun _ => fun u sg H => ∃ g, u = .pointer (some ⟨g, 0, none⟩) ∧ sg = [[(g, .cells #[.string ⟨#[]⟩, .slice none 0 0] 26 (0, 0))]]) (by
    intro H' X F hle; have hL := Le.trans hL hle; intro hF
    refine Zc rfl ?_; intro g9; refine Qi ?_
    exact Q7 [_] hF (Le.refl _) ⟨_, rfl, rfl⟩) ?_
   refine Z5 false [12] none [(12, 0), (10, 2)] ([]) (fun vs u sg H => ∃ g d0 d1, nthV vs 0 = .pointer (some ⟨g, 0, none⟩) ∧ sg = [[(g, .cells #[d0, d1] 26 (0, 0))]] ∧ RdL H (Tr.node l ks).d [d0, d1]) (by
    intro H' X F hle; have hL := Le.trans hL hle; intro _
    rintro _ _ Hr hler ⟨g9, rfl, rfl⟩
    intro _
    rintro _ _ Hi hle69 ⟨f0, f1, rfl, hr69, rfl⟩
    replace hr69 := RdL.mono hle69 hr69
    intro hF; refine Qw (own' := _ :: _) rfl ?_; refine Qq 0 0 (vs := [f0, f1]) (c' := #[_, _]) (own' := [(_, .cells #[_, _] _ _)] :: _) rfl rfl rfl rfl rfl (tr_ones hr69) (by simp) rfl rfl rfl (Qi ?_)
    exact Q7 [_] hF (Le.refl _) ⟨_, _, _, rfl, rfl, hr69⟩) ?_
   refine ⟨by kernel_rfl, .refl _, ?_⟩
   ·
    intro H3 hle
    rintro v67 _ Hi hle67 ⟨hv67, rfl⟩
    rintro _ _ _ _ ⟨_, _, rfl, _, rfl⟩
    rintro _ _ _ _ ⟨_, _, rfl, _, rfl⟩
    rintro _ _ _ _ ⟨_, _, rfl, _, rfl⟩
    rintro _ _ Hr hler ⟨g9, rfl, rfl⟩
    rintro _ _ Hr hler ⟨g, f0, f1, he, rfl, hr9⟩
    replace he : Value.pointer (some ⟨g9, 0, none⟩) = .pointer (some ⟨g, 0, none⟩) := he
    injection he with he; injection he with he; injection he with he; subst he
    replace hr9 := RdL.mono hler hr9
    have hL := Le.trans hL hle; have hvp := rd.mono hle hvp; have hrd := RdL.mono hle hrd; have hx := RdL.mono hle hx; refine Qw (own' := _ :: _ :: _ :: _ :: own) rfl ?_; refine Zi (env' := [(0, _), (1, _), (2, _), (3, _), (4, _), (5, _), (6, _), (70, _), (9, _)]) ⟨rfl, rfl, rfl, rfl, rfl, rfl, rfl, rfl, rfl, trivial⟩ (Qe rfl rfl (Qi (Qc (Qj ?_))))
    have hxl : e.path[e.path.length - 1]? = some (e.path.getLastD 0) := by
      rw [List.getLastD_eq_getLast?, ← List.getLast?_eq_getElem?]
      cases h : e.path.getLast? with
      | none => simp at h; exact absurd h hp0
      | some y => rfl
    obtain ⟨b2, q2, rfl, hlast⟩ := vals_at hvp (i := e.path.length - 1) (u := .int .i64 (e.path.getLastD 0)) (by simp [hxl])
    obtain ⟨rfl, A, c9, rfl, hc91, hc92, hA⟩ := tr_cells hr9
    have hcase : e.path.getLastD 0 < 0 ∨ (0 ≤ e.path.getLastD 0 ∧ (ks.length : Int) < e.path.getLastD 0) ∨ (e.path.getLastD 0 = ks.length ∧ e.op = 2) ∨ (e.op = 1 ∧ ∃ kk : Nat, e.path.getLastD 0 = (kk : Int) ∧ kk ≤ ks.length) ∨ (e.op = 2 ∧ ∃ kk : Nat, e.path.getLastD 0 = (kk : Int) ∧ kk < ks.length) := by
      by_cases h1 : e.path.getLastD 0 < 0
      · exact .inl h1
      · obtain ⟨kk, hkk⟩ : ∃ kk : Nat, e.path.getLastD 0 = (kk : Int) := ⟨(e.path.getLastD 0).toNat, (Int.toNat_of_nonneg (by omega)).symm⟩
        by_cases h2 : (ks.length : Int) < e.path.getLastD 0
        · exact .inr (.inl ⟨by omega, h2⟩)
        · by_cases h3 : e.op = 1
          · exact .inr (.inr (.inr (.inl ⟨h3, kk, hkk, by omega⟩)))
          · by_cases h4 : e.path.getLastD 0 = ks.length
            · exact .inr (.inr (.inl ⟨h4, by omega⟩))
            · exact .inr (.inr (.inr (.inr ⟨by omega, kk, hkk, by omega⟩)))
    rcases hcase with hk1 | ⟨hk0, hk1⟩ | ⟨hk1, hk2⟩ | ⟨hk1, kk, hkk, hk2⟩ | ⟨hk1, kk, hkk, hk2⟩
    ·
     refine Qh (Qg rfl rfl (Qk 2 0 rfl rfl rfl rfl rfl (Qg rfl rfl (Qk 2 0 rfl rfl rfl rfl rfl (Qn rfl rfl ?_))))); refine Zu rfl rfl rfl ⟨by omega, by omega⟩ ?_; refine Qo (e.path.length - 1) rfl rfl (by omega) (by omega) rfl ?_; refine Qp rfl (hlast) rfl (Qe rfl rfl (Qi (Qc (Qj (Qj ?_))))); refine Qh (Qb rfl rfl (Z1 rfl rfl (Qb rfl rfl ?_))); refine Qf rfl rfl rfl (Qb rfl rfl ?_); refine Qf rfl rfl rfl (Zl rfl rfl rfl ?_)
     rw [decide_eq_true (by omega)]
     refine Qx rfl rfl rfl rfl (Qb rfl rfl ?_); refine Ql rfl rfl rfl rfl ?_; refine Ql rfl rfl rfl rfl ?_; refine Ql rfl rfl rfl rfl ?_; refine Ql rfl rfl rfl rfl ?_; refine Ql rfl rfl rfl rfl ?_; refine Qz rfl rfl rfl rfl (Qb rfl rfl ?_); refine Ql rfl rfl rfl rfl ?_; refine Ql rfl rfl rfl rfl ?_; refine Ql rfl rfl rfl rfl ?_; refine Ql rfl rfl rfl rfl ?_; refine Zk rfl rfl rfl ?_; refine Zk rfl rfl rfl ?_; refine Zk rfl rfl rfl ?_; refine Zk rfl rfl rfl ?_; refine Zk rfl rfl rfl ?_; refine Ql rfl rfl rfl rfl ?_; refine Qz rfl rfl rfl rfl (Qi (Qc (Qv rfl (Qj (Qh ?_))))); refine Q8 [] trivial rfl rfl ?_
     refine Qq 1 0 (c' := #[_, _]) (own' := _ :: [(_, .cells #[_, _] _ _)] :: _) rfl rfl rfl rfl rfl ⟨rfl, rfl, trivial⟩ (by simp) rfl rfl rfl (Qe rfl rfl (Qe rfl rfl (Qi (Qc (Qy ?_))))); refine Q0 ?_; refine TQ.retC2 1 0 4 [_, _] rfl rfl rfl rfl rfl rfl ⟨rfl, rfl, trivial⟩ rfl rfl ?_
     exact ⟨.inl ⟨_, step_out hop hp0 hs (.inl hk1), rfl⟩, rfl, hL⟩
    ·
     refine Qh (Qg rfl rfl (Qk 2 0 rfl rfl rfl rfl rfl (Qg rfl rfl (Qk 2 0 rfl rfl rfl rfl rfl (Qn rfl rfl ?_))))); refine Zu rfl rfl rfl ⟨by omega, by omega⟩ ?_; refine Qo (e.path.length - 1) rfl rfl (by omega) (by omega) rfl ?_; refine Qp rfl (hlast) rfl (Qe rfl rfl (Qi (Qc (Qj (Qj ?_))))); refine Qh (Qb rfl rfl (Z1 rfl rfl (Qb rfl rfl ?_))); refine Qf rfl rfl rfl (Qb rfl rfl ?_); refine Qf rfl rfl rfl (Zl rfl rfl rfl ?_)
     rw [decide_eq_false (by omega)]
     refine Qx rfl rfl rfl rfl (Qb rfl rfl ?_); refine Qf rfl rfl rfl (Qb rfl rfl ?_); refine Qf rfl rfl rfl (Qg rfl rfl ?_); refine Qf rfl rfl rfl (Qk 0 0 rfl rfl rfl rfl rfl ?_); refine Qf rfl rfl rfl (Qn rfl rfl ?_); refine Qf rfl rfl rfl (TL.gtr rfl rfl rfl ?_)
     rw [decide_eq_true (by omega)]
     refine Qx rfl rfl rfl rfl (Qb rfl rfl ?_); refine Ql rfl rfl rfl rfl ?_; refine Ql rfl rfl rfl rfl ?_; refine Ql rfl rfl rfl rfl ?_; refine Ql rfl rfl rfl rfl ?_; refine Zk rfl rfl rfl ?_; refine Zk rfl rfl rfl ?_; refine Zk rfl rfl rfl ?_; refine Zk rfl rfl rfl ?_; refine Zk rfl rfl rfl ?_; refine Ql rfl rfl rfl rfl ?_; refine Qz rfl rfl rfl rfl (Qi (Qc (Qv rfl (Qj (Qh ?_))))); refine Q8 [] trivial rfl rfl ?_; refine Qq 1 0 (c' := #[_, _]) (own' := _ :: [(_, .cells #[_, _] _ _)] :: _) rfl rfl rfl rfl rfl ⟨rfl, rfl, trivial⟩ (by simp) rfl rfl rfl (Qe rfl rfl (Qe rfl rfl (Qi (Qc (Qy ?_))))); refine Q0 ?_
     refine TQ.retC2 1 0 4 [_, _] rfl rfl rfl rfl rfl rfl ⟨rfl, rfl, trivial⟩ rfl rfl ?_
     exact ⟨.inl ⟨_, step_out hop hp0 hs (.inr (.inl hk1)), rfl⟩, rfl, hL⟩
    ·
     refine Qh (Qg rfl rfl (Qk 2 0 rfl rfl rfl rfl rfl (Qg rfl rfl (Qk 2 0 rfl rfl rfl rfl rfl (Qn rfl rfl ?_))))); refine Zu rfl rfl rfl ⟨by omega, by omega⟩ ?_; refine Qo (e.path.length - 1) rfl rfl (by omega) (by omega) rfl ?_; refine Qp rfl (hlast) rfl (Qe rfl rfl (Qi (Qc (Qj (Qj ?_))))); refine Qh (Qb rfl rfl (Z1 rfl rfl (Qb rfl rfl ?_))); refine Qf rfl rfl rfl (Qb rfl rfl ?_); refine Qf rfl rfl rfl (Zl rfl rfl rfl ?_)
     rw [decide_eq_false (by omega)]
     refine Qx rfl rfl rfl rfl (Qb rfl rfl ?_); refine Qf rfl rfl rfl (Qb rfl rfl ?_); refine Qf rfl rfl rfl (Qg rfl rfl ?_); refine Qf rfl rfl rfl (Qk 0 0 rfl rfl rfl rfl rfl ?_); refine Qf rfl rfl rfl (Qn rfl rfl ?_); refine Qf rfl rfl rfl (TL.gtr rfl rfl rfl ?_)
     rw [decide_eq_false (by omega)]
     refine Qx rfl rfl rfl rfl (Qb rfl rfl ?_); refine Qf rfl rfl rfl (Qg rfl rfl ?_); refine Qf rfl rfl rfl (Qk 2 0 rfl rfl rfl rfl rfl ?_); refine Qf rfl rfl rfl (Za rfl rfl rfl ?_)
     rw [decide_eq_true (by omega)]
     refine Qf rfl rfl rfl (Qb rfl rfl ?_); refine Qf rfl rfl rfl (Qb rfl rfl ?_); refine Qf rfl rfl rfl (Qg rfl rfl ?_); refine Qf rfl rfl rfl (Qk 0 0 rfl rfl rfl rfl rfl ?_); refine Qf rfl rfl rfl (Qn rfl rfl ?_); refine Qf rfl rfl rfl (Za rfl rfl rfl ?_)
     rw [decide_eq_true (by omega)]
     refine Qf rfl rfl rfl ?_; refine Qz rfl rfl rfl rfl ?_; refine Qx rfl rfl rfl rfl (Qi (Qc (Qv rfl (Qj (Qh ?_))))); refine Q8 [] trivial rfl rfl ?_; refine Qq 1 0 (c' := #[_, _]) (own' := _ :: [(_, .cells #[_, _] _ _)] :: _) rfl rfl rfl rfl rfl ⟨rfl, rfl, trivial⟩ (by simp) rfl rfl rfl (Qe rfl rfl (Qe rfl rfl (Qi (Qc (Qy ?_))))); refine Q0 ?_; refine TQ.retC2 1 0 4 [_, _] rfl rfl rfl rfl rfl rfl ⟨rfl, rfl, trivial⟩ rfl rfl ?_
     exact ⟨.inl ⟨_, step_out hop hp0 hs (.inr (.inr ⟨hk1, hk2⟩)), rfl⟩, rfl, hL⟩
    ·
     refine Qh (Qg rfl rfl (Qk 2 0 rfl rfl rfl rfl rfl (Qg rfl rfl (Qk 2 0 rfl rfl rfl rfl rfl (Qn rfl rfl ?_))))); refine Zu rfl rfl rfl ⟨by omega, by omega⟩ ?_; refine Qo (e.path.length - 1) rfl rfl (by omega) (by omega) rfl ?_; refine Qp rfl (hlast) rfl (Qe rfl rfl (Qi (Qc (Qj (Qj ?_))))); refine Qh (Qb rfl rfl (Z1 rfl rfl (Qb rfl rfl ?_))); refine Qf rfl rfl rfl (Qb rfl rfl ?_); refine Qf rfl rfl rfl (Zl rfl rfl rfl ?_)
     rw [decide_eq_false (by omega)]
     refine Qx rfl rfl rfl rfl (Qb rfl rfl ?_); refine Qf rfl rfl rfl (Qb rfl rfl ?_); refine Qf rfl rfl rfl (Qg rfl rfl ?_); refine Qf rfl rfl rfl (Qk 0 0 rfl rfl rfl rfl rfl ?_); refine Qf rfl rfl rfl (Qn rfl rfl ?_); refine Qf rfl rfl rfl (TL.gtr rfl rfl rfl ?_)
     rw [decide_eq_false (by omega)]
     refine Qx rfl rfl rfl rfl (Qb rfl rfl ?_); refine Qf rfl rfl rfl (Qg rfl rfl ?_); refine Qf rfl rfl rfl (Qk 2 0 rfl rfl rfl rfl rfl ?_); refine Qf rfl rfl rfl (Za rfl rfl rfl ?_)
     rw [decide_eq_false (by omega)]
     refine Qf rfl rfl rfl (Qb rfl rfl ?_); refine Ql rfl rfl rfl rfl ?_; refine Ql rfl rfl rfl rfl ?_; refine Ql rfl rfl rfl rfl ?_; refine Ql rfl rfl rfl rfl ?_; refine Ql rfl rfl rfl rfl ?_; refine Qf rfl rfl rfl ?_; refine Qx rfl rfl rfl rfl ?_; refine Qx rfl rfl rfl rfl (Qi (Qc (Qr rfl (Q2 (Zm ?_))))); refine Qg rfl rfl (Qk 0 0 rfl rfl rfl rfl rfl ?_); refine Q8 [(0, [_])] ⟨rfl, ⟨_, rfl, rfl⟩, trivial⟩ rfl rfl ?_
     refine Zc rfl ?_; intro g12; refine Qq 0 0 (c' := #[_, _]) (own' := [(_, .cells #[_, _] _ _)] :: _) rfl rfl rfl rfl rfl ⟨rfl, rfl, trivial⟩ (by simp) rfl rfl rfl (Qi (Qc (Qj (Z4 ?_)))); refine Q4 6  [(0, _), (1, _), (2, _), (3, _), (4, _), (5, _), (6, _), (9, _), (10, _), (11, _), (12, _)] follows_mixed ⟨rfl, rfl, rfl, rfl, rfl, rfl, rfl, rfl, rfl, rfl, rfl, trivial⟩ ?_; refine Qa (some 108) [] (fun _ _ _ _ hF => Qg rfl rfl (Qd hF)) ?_
     refine Qa (some 109) [(0, 0)] (by
      intro H' X F hle; have hL := Le.trans hL hle; intro hF; refine Qk 1 0 rfl rfl rfl rfl rfl ?_
      exact Qd hF) ?_
     refine Qa (some 110) [] (fun _ _ _ _ hF => Qg rfl rfl (Qd hF)) ?_
     refine Qa (some 111) [(2, 0)] (by
      intro H' X F hle; have hL := Le.trans hL hle; intro hF; refine Qk 2 0 rfl rfl rfl rfl rfl ?_
      exact Qd hF) ?_
     refine Qa (some 112) [] (fun _ _ _ _ hF => Qb rfl rfl (Qd hF)) ?_
     refine Q9 (some 113) [(3, 1), (4, 0)] ([]) (fun _ => fun u sg H => rd H (.s 2 (Tr.ds (ks.take kk))) u ∧ sg = []) (by
      intro H' X F hle; have hL := Le.trans hL hle; have hA := rd.mono hle hA; intro hF; refine Z3 (0) (kk) rfl rfl ⟨_, _, rfl, rfl⟩ rfl (by simp only [Option.getD_some]; omega) (by omega) (by omega) rfl ?_
      refine Qi ?_
      exact Q7 [] hF (Le.refl _) ⟨by
        have h := trs_cut hA (l := 0) (r := kk) (by omega) (by omega)
        simpa using h, rfl⟩) ?_
     refine ⟨by kernel_rfl, .refl _, ?_⟩
     ·
      intro H4 hle
      rintro v113 _ Hi hle113 ⟨hv113, rfl⟩
      replace hv113 := rd.mono hle113 hv113
      have hL := Le.trans hL hle; have hvp := rd.mono hle hvp; have hrd := RdL.mono hle hrd; have hx := RdL.mono hle hx; have hA := rd.mono hle hA; refine Qw (own' := _ :: _ :: _ :: _ :: _ :: _ :: own) rfl ?_; refine Zi (env' := [(0, _), (1, _), (2, _), (3, _), (4, _), (5, _), (6, _), (9, _), (10, _), (11, _), (12, _), (109, _), (113, _)]) ⟨rfl, rfl, rfl, rfl, rfl, rfl, rfl, rfl, rfl, rfl, rfl, rfl, rfl, trivial⟩ ?_
      obtain ⟨A13, c13, news, rfl, hsrc, hnews⟩ := hv113.srcN (m := kk) (by omega) (by rw [Tr.ds_len, List.length_take, Nat.min_eq_left (by omega)]) (Tr.ds_one _)
      refine Zh 0 rfl rfl rfl (Row.nil 26 2) (hsrc _ _) (by omega) (by omega) rfl ?_; intro v' seg' hrow
      replace hrow : Row 26 2 v' kk news seg' := by simpa using hrow
      refine Qg rfl rfl ?_; refine Zq 1 0 (c' := #[_, _]) (own' := _ :: [(_, .cells #[_, _] _ _)] :: _) rfl rfl rfl rfl hrow.one (by simp) rfl rfl rfl (Q3 (Qe rfl rfl (Qi (Qc (Qj ?_))))); refine Qj (Qh (Qg rfl rfl (Qk 4 0 rfl rfl rfl rfl rfl (Za rfl rfl rfl ?_))))
      rw [decide_eq_true hk1]
      refine Qi (Qc (Qv rfl (Qj (Qh (Qg rfl rfl ?_))))); refine Qk 1 0 rfl rfl rfl rfl rfl (Qg rfl rfl ?_); refine Qm 4 0 [_, _] rfl rfl rfl ⟨rfl, rfl, trivial⟩ rfl rfl ?_
      refine Zg (r := [_, _]) [(0, [_, _])] ⟨rfl, ⟨_, rfl, rfl⟩, trivial⟩ rfl rfl rfl rfl ?_; intro g123; refine Zh 1 rfl rfl rfl hrow (Src.ofOwn 0 0 rfl rfl rfl (Ones.all (tr_ones hx)) ⟨rfl, rfl, trivial⟩) (by omega) (by omega) rfl ?_; intro v2 seg2 hrow2; have hnews2 := trs_snoc hnews hx; refine Qg rfl rfl ?_; refine Zq 2 0 (c' := #[_, _]) (own' := _ :: _ :: [(_, .cells #[_, _] _ _)] :: _) rfl rfl rfl rfl hrow2.one (by simp) rfl rfl rfl (Qi (Qc (Qj ?_))); refine Q4 6  [(0, _), (1, _), (2, _), (3, _), (4, _), (5, _), (6, _), (9, _), (10, _), (11, _), (12, _), (13, _)] follows_mixed ⟨rfl, rfl, rfl, rfl, rfl, rfl, rfl, rfl, rfl, rfl, rfl, rfl, trivial⟩ ?_; refine Qa (some 126) [] (fun _ _ _ _ hF => Qg rfl rfl (Qd hF)) ?_
      refine Qa (some 127) [(0, 0)] (by
       intro H' X F hle; have hL := Le.trans hL hle; intro hF; refine Qk 2 0 rfl rfl rfl rfl rfl ?_
       exact Qd hF) ?_
      refine Qa (some 128) [] (fun _ _ _ _ hF => Qg rfl rfl (Qd hF)) ?_
      refine Qa (some 129) [(2, 0)] (by
       intro H' X F hle; have hL := Le.trans hL hle; intro hF; refine Qk 3 0 rfl rfl rfl rfl rfl ?_
       exact Qd hF) ?_
      refine Qa (some 130) [] (fun _ _ _ _ hF => Qb rfl rfl (Qd hF)) ?_
      refine Q9 (some 131) [(3, 1), (4, 0)] ([]) (fun _ => fun u sg H => rd H (.s 2 (Tr.ds (ks.drop kk))) u ∧ sg = []) (by
       intro H' X F hle; have hL := Le.trans hL hle; have hA := rd.mono hle hA; intro hF; refine Z3 (kk) (ks.length) rfl ⟨_, _, rfl, rfl⟩ rfl (by simp only [Option.getD_some]; omega) rfl (by omega) (by omega) rfl ?_
       refine Qi ?_
       exact Q7 [] hF (Le.refl _) ⟨by
         have h := trs_cut hA (l := kk) (r := ks.length) (by omega) (by omega)
         rw [List.take_of_length_le (by simp)] at h
         exact h, rfl⟩) ?_
      refine ⟨by kernel_rfl, .refl _, ?_⟩
      ·
       intro H5 hle
       rintro v131 _ Hi hle131 ⟨hv131, rfl⟩
       replace hv131 := rd.mono hle131 hv131
       have hL := Le.trans hL hle; have hvp := rd.mono hle hvp; have hrd := RdL.mono hle hrd; have hx := RdL.mono hle hx; have hnews2 := RdL.mono hle hnews2; refine Qw (own' := _ :: _ :: _ :: _ :: _ :: _ :: _ :: own) rfl ?_; refine Zi (env' := [(0, _), (1, _), (2, _), (3, _), (4, _), (5, _), (6, _), (9, _), (10, _), (11, _), (12, _), (13, _), (127, _), (131, _)]) ⟨rfl, rfl, rfl, rfl, rfl, rfl, rfl, rfl, rfl, rfl, rfl, rfl, rfl, rfl, trivial⟩ ?_
       obtain ⟨A17, c17, news3, rfl, hsrc3, hnews3⟩ := hv131.srcN (m := ks.length - kk) (by omega) (by rw [Tr.ds_len, List.length_drop]) (Tr.ds_one _)
       refine Zh 1 rfl rfl rfl hrow2 (hsrc3 _ _) (by omega) (by omega) rfl ?_; intro v4 seg4 hrow4; have hnew4 := trs_append hnews2 hnews3; refine Qg rfl rfl ?_; refine Zq 2 0 (c' := #[_, _]) (own' := _ :: _ :: [(_, .cells #[_, _] _ _)] :: _) rfl rfl rfl rfl hrow4.one (by simp) rfl rfl rfl (Qi (Qc (Qh (Qg rfl rfl ?_)))); refine Qm 5 0 [_, _] rfl rfl rfl ⟨rfl, rfl, trivial⟩ rfl rfl ?_; refine Qs (ref_Count e.tree.size e.tree (Nat.le_refl _) (by omega) hx) ⟨rfl, trivial⟩ rfl ?_
       rintro _ _ H2 ⟨rfl, rfl, hle2⟩
       have hL := Le.trans hL hle2; have hvp := rd.mono hle2 hvp; have hrd := RdL.mono hle2 hrd; have hnew4 := RdL.mono hle2 hnew4; refine Qe rfl rfl (Qi (Qc (Qj ?_)))
       refine Z2 7 [1, 0, 2, 3, 4, 5, 6] rfl (fun o ho => ?_)
       simp only [K.sel, nrm] at ho; subst ho
       refine TC.freeze (fun H6 hle hz_row => ?_)
       have hL := Le.trans hL hle; have hvp := rd.mono hle hvp; have hrd := RdL.mono hle hrd; have hnew4 := RdL.mono hle hnew4
       have hnode := tr_mk (l := l) (rd.ofRow (e := 26) (n := (ks.take kk ++ [e.tree] ++ ks.drop kk).length) (by rw [show (ks.take kk ++ [e.tree] ++ ks.drop kk).length = kk + 1 + (ks.length - kk) by simp; omega]; exact hrow4) hz_row hnew4 (Le.refl _))
       refine Z2 6 [3, 0, 1, 2, 4, 5] rfl (fun o ho => ?_)
       simp only [K.sel, nrm] at ho; subst ho
       refine TC.drawCV 12  [(0, _), (1, _), (2, _), (3, _), (4, _), (5, _), (6, _), (9, _), (10, _), (11, _), (12, _), (13, _)] follows_mixed ⟨rfl, rfl, rfl, rfl, rfl, rfl, rfl, rfl, rfl, rfl, rfl, rfl, trivial⟩ ?_
       refine Qa (some 152) [] (by
        intro H' X F hle; have hL := Le.trans hL hle; intro hF; refine Qm 4 0 [_, _] rfl rfl rfl ⟨rfl, rfl, trivial⟩ rfl rfl ?_
        exact Qd hF) ?_
       refine Qa (some 153) [] (fun _ _ _ _ hF => Qg rfl rfl (Qd hF)) ?_
       refine Qa (some 154) [(1, 0)] (by
        intro H' X F hle; have hL := Le.trans hL hle; intro hF; refine Qk 3 0 rfl rfl rfl rfl rfl ?_
        exact Qd hF) ?_
       refine Qa (some 155) [] (fun _ _ _ _ hF => Qg rfl rfl (Qd hF)) ?_
       refine Qa (some 156) [(3, 0)] (by
        intro H' X F hle; have hL := Le.trans hL hle; intro hF; refine Qk 3 0 rfl rfl rfl rfl rfl ?_
        exact Qd hF) ?_
       refine Qa (some 157) [(4, 0)] (by
        intro H' X F hle; have hL := Le.trans hL hle; intro hF; refine Qn rfl rfl ?_
        exact Qd hF) ?_
       refine Qa (some 158) [(5, 0)] (fun _ _ _ _ hF => Zu rfl rfl rfl ⟨by omega, by omega⟩ (Qd hF)) ?_
       refine Q9 (some 159) [(2, 4), (6, 0)] ([]) (fun _ => fun u sg H => rd H (.s 1 (ints e.path.dropLast)) u ∧ sg = []) (by
        intro H' X F hle; have hL := Le.trans hL hle; have hvp := rd.mono hle hvp; intro hF; refine Z3 (0) (e.path.length - 1) rfl rfl ⟨_, _, rfl, rfl⟩ rfl (by simp only [Option.getD_some]; omega) (by omega) (by omega) rfl ?_
        refine Qi ?_
        exact Q7 [] hF (Le.refl _) ⟨by
          have h := rd.cut hvp (l := 0) (r := e.path.length - 1) (by omega) (by omega)
          rw [show ((ints e.path).drop (0 * 1)).take ((e.path.length - 1 - 0) * 1) = ints e.path.dropLast from by simp [ints, List.dropLast_eq_take]] at h
          exact h, rfl⟩) ?_
       refine Qa (some 160) [] (by
        intro H' X F hle; have hL := Le.trans hL hle; intro hF; refine Qm 1 0 [_, _] rfl rfl rfl ⟨rfl, rfl, trivial⟩ rfl rfl ?_
        exact Qd hF) ?_
       refine Q9 (some 161) [(0, 8), (7, 1), (8, 0)] ([]) (fun _ => fun r sg H => ∃ d0 d1, r = .agg #[d0, d1] ∧ RdL H (putT t (e.path.dropLast.map Int.toNat) (insT (.node l ks) kk e.tree)).d [d0, d1] ∧ sg = []) (by
        intro H' X F hle; have hL := Le.trans hL hle; have hrd := RdL.mono hle hrd; have hnode := RdL.mono hle hnode; intro _
        rintro v159 _ Hi hle159 ⟨hv159, rfl⟩
        replace hv159 := rd.mono hle159 hv159
        intro hF; refine Qs (ref_Put _ e.path.dropLast (Nat.le_refl _) hs hts (by simp; omega) hrd hv159 hnode) ⟨rfl, rfl, rfl, trivial⟩ rfl ?_
        rintro _ _ H2 ⟨f0, f1, rfl, hr2, rfl, hle2⟩
        refine Qi ?_
        exact Q7 [] hF hle2 ⟨f0, f1, rfl, hr2, rfl⟩) ?_
       refine Qa (some 162) [] (fun _ _ _ _ hF => Qb rfl rfl (Qd hF)) ?_
       refine Q9 none [(9, 1)] ([[(g4, .cells #[.string ⟨#[]⟩, .slice none 0 0] 26 (0, 0))]]) (fun _ => fun u sg H => ∃ d0 d1, sg = [[(g4, .cells #[d0, d1] 26 (0, 0))]] ∧ RdL H (putT t (e.path.dropLast.map Int.toNat) (insT (.node l ks) kk e.tree)).d [d0, d1]) (by
        intro H' X F hle; have hL := Le.trans hL hle; intro _
        rintro _ _ Hi hle161 ⟨z0, z1, rfl, hr161, rfl⟩
        replace hr161 := RdL.mono hle161 hr161
        intro hF; refine Qq 0 0 (c' := #[_, _]) (own' := [(_, .cells #[_, _] _ _)] :: _) rfl rfl rfl rfl rfl (tr_ones hr161) (by simp) rfl rfl rfl (Qi ?_)
        exact Q7 [_] hF (Le.refl _) ⟨_, _, rfl, hr161⟩) ?_
       refine ⟨by kernel_rfl, .refl _, ?_⟩
       ·
        intro H7 hle
        rintro v159 _ Hi hle159 ⟨hv159, rfl⟩
        rintro _ _ Hi hle161 ⟨z0, z1, rfl, hr161, rfl⟩
        rintro _ _ Hr hler ⟨k0, k1, rfl, hr4⟩
        replace hr4 := RdL.mono hler hr4
        have hL := Le.trans hL hle; refine Qw (own' := _ :: _ :: _ :: _ :: _ :: _ :: own) rfl ?_; refine Zi (env' := [(0, _), (1, _), (2, _), (3, _), (4, _), (5, _), (6, _), (9, _), (10, _), (11, _), (12, _), (162, _)]) ⟨rfl, rfl, rfl, rfl, rfl, rfl, rfl, rfl, rfl, rfl, rfl, rfl, trivial⟩ (Qe rfl rfl (Qe rfl rfl (Qi (Qc (Qy ?_))))); refine TQ.retC2 0 0 6 [_, _] rfl rfl rfl rfl rfl rfl ⟨rfl, rfl, trivial⟩ rfl rfl ?_
        exact ⟨.inr ⟨_, _, k0, k1, step_ins hk1 hp0 hs (by simp only [Tr.kids]; omega), by rw [if_neg (by omega), if_pos hk1]; simp, by rw [show (e.path.getLastD 0).toNat = kk by omega]; exact hr4⟩, rfl, hL⟩
    ·
     obtain ⟨y, hy⟩ : ∃ y, ks[kk]? = some y := ⟨_, List.getElem?_eq_getElem hk2⟩
     have hyz := Tr.size_mem (List.mem_of_getElem? hy)
     obtain ⟨b3, o3, p0, p1, rfl, hp, hpr⟩ := trs_at hA hy
     refine Qh (Qg rfl rfl (Qk 2 0 rfl rfl rfl rfl rfl (Qg rfl rfl (Qk 2 0 rfl rfl rfl rfl rfl (Qn rfl rfl ?_))))); refine Zu rfl rfl rfl ⟨by omega, by omega⟩ ?_; refine Qo (e.path.length - 1) rfl rfl (by omega) (by omega) rfl ?_; refine Qp rfl (hlast) rfl (Qe rfl rfl (Qi (Qc (Qj (Qj ?_))))); refine Qh (Qb rfl rfl (Z1 rfl rfl (Qb rfl rfl ?_))); refine Qf rfl rfl rfl (Qb rfl rfl ?_); refine Qf rfl rfl rfl (Zl rfl rfl rfl ?_)
     rw [decide_eq_false (by omega)]
     refine Qx rfl rfl rfl rfl (Qb rfl rfl ?_); refine Qf rfl rfl rfl (Qb rfl rfl ?_); refine Qf rfl rfl rfl (Qg rfl rfl ?_); refine Qf rfl rfl rfl (Qk 0 0 rfl rfl rfl rfl rfl ?_); refine Qf rfl rfl rfl (Qn rfl rfl ?_); refine Qf rfl rfl rfl (TL.gtr rfl rfl rfl ?_)
     rw [decide_eq_false (by omega)]
     refine Qx rfl rfl rfl rfl (Qb rfl rfl ?_); refine Qf rfl rfl rfl (Qg rfl rfl ?_); refine Qf rfl rfl rfl (Qk 2 0 rfl rfl rfl rfl rfl ?_); refine Qf rfl rfl rfl (Za rfl rfl rfl ?_)
     rw [decide_eq_true (by omega)]
     refine Qf rfl rfl rfl (Qb rfl rfl ?_); refine Qf rfl rfl rfl (Qb rfl rfl ?_); refine Qf rfl rfl rfl (Qg rfl rfl ?_); refine Qf rfl rfl rfl (Qk 0 0 rfl rfl rfl rfl rfl ?_); refine Qf rfl rfl rfl (Qn rfl rfl ?_); refine Qf rfl rfl rfl (Za rfl rfl rfl ?_)
     rw [decide_eq_false (by omega)]
     refine Qf rfl rfl rfl ?_; refine Qz rfl rfl rfl rfl ?_; refine Qx rfl rfl rfl rfl (Qi (Qc (Qr rfl (Q2 (Zm ?_))))); refine Qg rfl rfl (Qk 0 0 rfl rfl rfl rfl rfl ?_); refine Q8 [(0, [_])] ⟨rfl, ⟨_, rfl, rfl⟩, trivial⟩ rfl rfl ?_
     refine Zc rfl ?_; intro g12; refine Qq 0 0 (c' := #[_, _]) (own' := [(_, .cells #[_, _] _ _)] :: _) rfl rfl rfl rfl rfl ⟨rfl, rfl, trivial⟩ (by simp) rfl rfl rfl (Qi (Qc (Qj (Z4 ?_)))); refine Q4 6  [(0, _), (1, _), (2, _), (3, _), (4, _), (5, _), (6, _), (9, _), (10, _), (11, _), (12, _)] follows_mixed ⟨rfl, rfl, rfl, rfl, rfl, rfl, rfl, rfl, rfl, rfl, rfl, trivial⟩ ?_; refine Qa (some 108) [] (fun _ _ _ _ hF => Qg rfl rfl (Qd hF)) ?_
     refine Qa (some 109) [(0, 0)] (by
      intro H' X F hle; have hL := Le.trans hL hle; intro hF; refine Qk 1 0 rfl rfl rfl rfl rfl ?_
      exact Qd hF) ?_
     refine Qa (some 110) [] (fun _ _ _ _ hF => Qg rfl rfl (Qd hF)) ?_
     refine Qa (some 111) [(2, 0)] (by
      intro H' X F hle; have hL := Le.trans hL hle; intro hF; refine Qk 2 0 rfl rfl rfl rfl rfl ?_
      exact Qd hF) ?_
     refine Qa (some 112) [] (fun _ _ _ _ hF => Qb rfl rfl (Qd hF)) ?_
     refine Q9 (some 113) [(3, 1), (4, 0)] ([]) (fun _ => fun u sg H => rd H (.s 2 (Tr.ds (ks.take kk))) u ∧ sg = []) (by
      intro H' X F hle; have hL := Le.trans hL hle; have hA := rd.mono hle hA; intro hF; refine Z3 (0) (kk) rfl rfl ⟨_, _, rfl, rfl⟩ rfl (by simp only [Option.getD_some]; omega) (by omega) (by omega) rfl ?_
      refine Qi ?_
      exact Q7 [] hF (Le.refl _) ⟨by
        have h := trs_cut hA (l := 0) (r := kk) (by omega) (by omega)
        simpa using h, rfl⟩) ?_
     refine ⟨by kernel_rfl, .refl _, ?_⟩
     ·
      intro H8 hle
      rintro v113 _ Hi hle113 ⟨hv113, rfl⟩
      replace hv113 := rd.mono hle113 hv113
      have hL := Le.trans hL hle; have hvp := rd.mono hle hvp; have hrd := RdL.mono hle hrd; have hA := rd.mono hle hA; have hp := hAt.mono hle hp; have hpr := RdL.mono hle hpr; refine Qw (own' := _ :: _ :: _ :: _ :: _ :: _ :: own) rfl ?_; refine Zi (env' := [(0, _), (1, _), (2, _), (3, _), (4, _), (5, _), (6, _), (9, _), (10, _), (11, _), (12, _), (109, _), (113, _)]) ⟨rfl, rfl, rfl, rfl, rfl, rfl, rfl, rfl, rfl, rfl, rfl, rfl, rfl, trivial⟩ ?_
      obtain ⟨A13, c13, news, rfl, hsrc, hnews⟩ := hv113.srcN (m := kk) (by omega) (by rw [Tr.ds_len, List.length_take, Nat.min_eq_left (by omega)]) (Tr.ds_one _)
      refine Zh 0 rfl rfl rfl (Row.nil 26 2) (hsrc _ _) (by omega) (by omega) rfl ?_; intro v' seg' hrow
      replace hrow : Row 26 2 v' kk news seg' := by simpa using hrow
      refine Qg rfl rfl ?_; refine Zq 1 0 (c' := #[_, _]) (own' := _ :: [(_, .cells #[_, _] _ _)] :: _) rfl rfl rfl rfl hrow.one (by simp) rfl rfl rfl (Q3 (Qe rfl rfl (Qi (Qc (Qj ?_))))); refine Qj (Qh (Qg rfl rfl (Qk 4 0 rfl rfl rfl rfl rfl (Za rfl rfl rfl ?_))))
      rw [decide_eq_false (by omega)]
      refine Qi (Qc (Qr rfl (Qj ?_))); refine Q4 7  [(0, _), (1, _), (2, _), (3, _), (4, _), (5, _), (6, _), (9, _), (10, _), (11, _), (12, _), (13, _)] follows_mixed ⟨rfl, rfl, rfl, rfl, rfl, rfl, rfl, rfl, rfl, rfl, rfl, rfl, trivial⟩ ?_; refine Qa (some 137) [] (fun _ _ _ _ hF => Qg rfl rfl (Qd hF)) ?_
      refine Qa (some 138) [(0, 0)] (by
       intro H' X F hle; have hL := Le.trans hL hle; intro hF; refine Qk 1 0 rfl rfl rfl rfl rfl ?_
       exact Qd hF) ?_
      refine Qa (some 139) [] (fun _ _ _ _ hF => Qg rfl rfl (Qd hF)) ?_
      refine Qa (some 140) [(2, 0)] (by
       intro H' X F hle; have hL := Le.trans hL hle; intro hF; refine Qk 2 0 rfl rfl rfl rfl rfl ?_
       exact Qd hF) ?_
      refine Qa (some 141) [] (fun _ _ _ _ hF => Qb rfl rfl (Qd hF)) ?_
      refine Qa (some 142) [(4, 0)] (by
       intro H' X F hle; have hL := Le.trans hL hle; intro hF; refine Zb rfl rfl rfl ⟨by omega, by omega⟩ ?_
       exact Qd hF) ?_
      refine Q9 (some 143) [(3, 2), (5, 0)] ([]) (fun _ => fun u sg H => rd H (.s 2 (Tr.ds (ks.drop (kk + 1)))) u ∧ sg = []) (by
       intro H' X F hle; have hL := Le.trans hL hle; have hA := rd.mono hle hA; intro hF; refine Z3 (kk + 1) (ks.length) rfl ⟨_, _, rfl, rfl⟩ rfl (by simp only [Option.getD_some]; omega) rfl (by omega) (by omega) rfl ?_
       refine Qi ?_
       exact Q7 [] hF (Le.refl _) ⟨by
         have h := trs_cut hA (l := kk + 1) (r := ks.length) (by omega) (by omega)
         rw [List.take_of_length_le (by simp)] at h
         exact h, rfl⟩) ?_
      refine ⟨by kernel_rfl, .refl _, ?_⟩
      ·
       intro H9 hle
       rintro v143 _ Hi hle143 ⟨hv143, rfl⟩
       replace hv143 := rd.mono hle143 hv143
       have hL := Le.trans hL hle; have hvp := rd.mono hle hvp; have hrd := RdL.mono hle hrd; have hp := hAt.mono hle hp; have hpr := RdL.mono hle hpr; have hnews := RdL.mono hle hnews; refine Qw (own' := _ :: _ :: _ :: _ :: _ :: _ :: own) rfl ?_; refine Zi (env' := [(0, _), (1, _), (2, _), (3, _), (4, _), (5, _), (6, _), (9, _), (10, _), (11, _), (12, _), (13, _), (138, _), (143, _)]) ⟨rfl, rfl, rfl, rfl, rfl, rfl, rfl, rfl, rfl, rfl, rfl, rfl, rfl, rfl, trivial⟩ ?_
       obtain ⟨A19, c19, news3, rfl, hsrc3, hnews3⟩ := hv143.srcN (m := ks.length - (kk + 1)) (by omega) (by rw [Tr.ds_len, List.length_drop]) (Tr.ds_one _)
       refine Zh 0 rfl rfl rfl hrow (hsrc3 _ _) (by omega) (by omega) rfl ?_; intro v4 seg4 hrow4; have hnew4 := trs_append hnews hnews3; refine Qg rfl rfl ?_; refine Zq 1 0 (c' := #[_, _]) (own' := _ :: [(_, .cells #[_, _] _ _)] :: _) rfl rfl rfl rfl hrow4.one (by simp) rfl rfl rfl (Qi (Qc (Qh (Qg rfl rfl (Qk 2 0 rfl rfl rfl rfl rfl ?_))))); refine Qb rfl rfl ?_; refine Qo (kk) rfl rfl (by omega) (by omega) rfl ?_; refine Zd rfl (hp) rfl rfl ?_; refine Qs (ref_Count y.size y (Nat.le_refl _) (by omega) hpr) ⟨rfl, trivial⟩ rfl ?_
       rintro _ _ H2 ⟨rfl, rfl, hle2⟩
       have hL := Le.trans hL hle2; have hvp := rd.mono hle2 hvp; have hrd := RdL.mono hle2 hrd; have hnew4 := RdL.mono hle2 hnew4; refine Qe rfl rfl (Qi (Qc (Qj ?_)))
       refine TC.freeze (fun H10 hle hz_row => ?_)
       have hL := Le.trans hL hle; have hvp := rd.mono hle hvp; have hrd := RdL.mono hle hrd; have hnew4 := RdL.mono hle hnew4
       have hnode := tr_mk (l := l) (rd.ofRow (e := 26) (n := (ks.take kk ++ ks.drop (kk + 1)).length) (by rw [show (ks.take kk ++ ks.drop (kk + 1)).length = kk + (ks.length - (kk + 1)) by simp; omega]; exact hrow4) hz_row hnew4 (Le.refl _))
       refine Z2 5 [2, 0, 1, 3, 4] rfl (fun o ho => ?_)
       simp only [K.sel, nrm] at ho; subst ho
       refine TC.drawCV 12  [(0, _), (1, _), (2, _), (3, _), (4, _), (5, _), (6, _), (9, _), (10, _), (11, _), (12, _), (13, _)] follows_mixed ⟨rfl, rfl, rfl, rfl, rfl, rfl, rfl, rfl, rfl, rfl, rfl, rfl, trivial⟩ ?_
       refine Qa (some 152) [] (by
        intro H' X F hle; have hL := Le.trans hL hle; intro hF; refine Qm 3 0 [_, _] rfl rfl rfl ⟨rfl, rfl, trivial⟩ rfl rfl ?_
        exact Qd hF) ?_
       refine Qa (some 153) [] (fun _ _ _ _ hF => Qg rfl rfl (Qd hF)) ?_
       refine Qa (some 154) [(1, 0)] (by
        intro H' X F hle; have hL := Le.trans hL hle; intro hF; refine Qk 2 0 rfl rfl rfl rfl rfl ?_
        exact Qd hF) ?_
       refine Qa (some 155) [] (fun _ _ _ _ hF => Qg rfl rfl (Qd hF)) ?_
       refine Qa (some 156) [(3, 0)] (by
        intro H' X F hle; have hL := Le.trans hL hle; intro hF; refine Qk 2 0 rfl rfl rfl rfl rfl ?_
        exact Qd hF) ?_
       refine Qa (some 157) [(4, 0)] (by
        intro H' X F hle; have hL := Le.trans hL hle; intro hF; refine Qn rfl rfl ?_
        exact Qd hF) ?_
       refine Qa (some 158) [(5, 0)] (fun _ _ _ _ hF => Zu rfl rfl rfl ⟨by omega, by omega⟩ (Qd hF)) ?_
       refine Q9 (some 159) [(2, 4), (6, 0)] ([]) (fun _ => fun u sg H => rd H (.s 1 (ints e.path.dropLast)) u ∧ sg = []) (by
        intro H' X F hle; have hL := Le.trans hL hle; have hvp := rd.mono hle hvp; intro hF; refine Z3 (0) (e.path.length - 1) rfl rfl ⟨_, _, rfl, rfl⟩ rfl (by simp only [Option.getD_some]; omega) (by omega) (by omega) rfl ?_
        refine Qi ?_
        exact Q7 [] hF (Le.refl _) ⟨by
          have h := rd.cut hvp (l := 0) (r := e.path.length - 1) (by omega) (by omega)
          rw [show ((ints e.path).drop (0 * 1)).take ((e.path.length - 1 - 0) * 1) = ints e.path.dropLast from by simp [ints, List.dropLast_eq_take]] at h
          exact h, rfl⟩) ?_
       refine Qa (some 160) [] (by
        intro H' X F hle; have hL := Le.trans hL hle; intro hF; refine Qm 0 0 [_, _] rfl rfl rfl ⟨rfl, rfl, trivial⟩ rfl rfl ?_
        exact Qd hF) ?_
       refine Q9 (some 161) [(0, 8), (7, 1), (8, 0)] ([]) (fun _ => fun r sg H => ∃ d0 d1, r = .agg #[d0, d1] ∧ RdL H (putT t (e.path.dropLast.map Int.toNat) (delT (.node l ks) kk)).d [d0, d1] ∧ sg = []) (by
        intro H' X F hle; have hL := Le.trans hL hle; have hrd := RdL.mono hle hrd; have hnode := RdL.mono hle hnode; intro _
        rintro v159 _ Hi hle159 ⟨hv159, rfl⟩
        replace hv159 := rd.mono hle159 hv159
        intro hF; refine Qs (ref_Put _ e.path.dropLast (Nat.le_refl _) hs hts (by simp; omega) hrd hv159 hnode) ⟨rfl, rfl, rfl, trivial⟩ rfl ?_
        rintro _ _ H2 ⟨f0, f1, rfl, hr2, rfl, hle2⟩
        refine Qi ?_
        exact Q7 [] hF hle2 ⟨f0, f1, rfl, hr2, rfl⟩) ?_
       refine Qa (some 162) [] (fun _ _ _ _ hF => Qb rfl rfl (Qd hF)) ?_
       refine Q9 none [(9, 1)] ([[(g4, .cells #[.string ⟨#[]⟩, .slice none 0 0] 26 (0, 0))]]) (fun _ => fun u sg H => ∃ d0 d1, sg = [[(g4, .cells #[d0, d1] 26 (0, 0))]] ∧ RdL H (putT t (e.path.dropLast.map Int.toNat) (delT (.node l ks) kk)).d [d0, d1]) (by
        intro H' X F hle; have hL := Le.trans hL hle; intro _
        rintro _ _ Hi hle161 ⟨z0, z1, rfl, hr161, rfl⟩
        replace hr161 := RdL.mono hle161 hr161
        intro hF; refine Qq 0 0 (c' := #[_, _]) (own' := [(_, .cells #[_, _] _ _)] :: _) rfl rfl rfl rfl rfl (tr_ones hr161) (by simp) rfl rfl rfl (Qi ?_)
        exact Q7 [_] hF (Le.refl _) ⟨_, _, rfl, hr161⟩) ?_
       refine ⟨by kernel_rfl, .refl _, ?_⟩
       ·
        intro H11 hle
        rintro v159 _ Hi hle159 ⟨hv159, rfl⟩
        rintro _ _ Hi hle161 ⟨z0, z1, rfl, hr161, rfl⟩
        rintro _ _ Hr hler ⟨k0, k1, rfl, hr4⟩
        replace hr4 := RdL.mono hler hr4
        have hL := Le.trans hL hle; refine Qw (own' := _ :: _ :: _ :: _ :: _ :: own) rfl ?_; refine Zi (env' := [(0, _), (1, _), (2, _), (3, _), (4, _), (5, _), (6, _), (9, _), (10, _), (11, _), (12, _), (162, _)]) ⟨rfl, rfl, rfl, rfl, rfl, rfl, rfl, rfl, rfl, rfl, rfl, rfl, trivial⟩ (Qe rfl rfl (Qe rfl rfl (Qi (Qc (Qy ?_))))); refine TQ.retC2 0 0 5 [_, _] rfl rfl rfl rfl rfl rfl ⟨rfl, rfl, trivial⟩ rfl rfl ?_
        exact ⟨.inr ⟨_, _, k0, k1, step_del hk1 hp0 hs (by simp only [Tr.kids]; omega), by rw [if_pos hk1, if_neg (by omega), show (e.path.getLastD 0).toNat = kk by omega]; simp [Tr.kids, hy], by rw [show (e.path.getLastD 0).toNat = kk by omega]; exact hr4⟩, rfl, hL⟩

end Go.Proofs.YtaomdfcplamenaaGreatDoor.K

namespace Go.Proofs.YtaomdfcplamenaaGreatDoor.K
open Go Go.RowKit Go.Proofs

section
variable {P : Program} {w0 : World} {N : Nat} {Q : Exit → Act → World → Prop} {env : Env} {own : List Seg} {H : Hp} {ops : Array Oper} {rest : List Oper}
variable {d : Option Tmp} {ty : TypeId} {pos : String} {af : Array Edge}
theorem TL.eqlP {x y : Operand} {tx t' e : TypeId} {p : Option Addr} (hu : P.underlying tx = some (.pointer e)) (hx : ev env x = some (.pointer p)) (hy : ev env y = some (.pointer none)) (hd : okD N d = true)
    (h : TL P w0 N Q ops rest (putE d (.bool p.isNone) env) own H) :
    TL P w0 N Q ops ({ dst := d, op := .binOp .eql tx x y t', type := ty, pos := pos, after := af, guard := none } :: rest) env own H :=
  Zt hd (fun a ha w => by
    have hp : P.underlying tx = some (.pointer (P.pointee tx)) := by simp only [Program.pointee, hu]
    have := run_equal_pointer_nil (P := P) w tx p hp
    simp only [execOp, eqGuard, binOp, ha.ev hx, ha.ev hy]
    simp [this]) h
end
theorem flatQ {Q : Seg} {L own : List Seg} (h : Q.Perm L.flatten) : (L ++ own).flatten.Perm (Q :: own).flatten := by
  simp only [List.flatten_append, List.flatten_cons]
  exact h.symm.append_right _
theorem flatJ {Q : Seg} {L own : List Seg} (h : Q.Perm L.flatten) : (Q :: own).flatten.Perm (L ++ own).flatten := (flatQ h).symm
theorem flatJ1 {A Q : Seg} {L own : List Seg} (h : Q.Perm L.flatten) : (A :: Q :: own).flatten.Perm (A :: (L ++ own)).flatten := by
  simp only [List.flatten_cons]
  exact (flatJ h).append_left A
section
variable {t : Tr} {p : List Int} {w0 : World} {H : Hp} {own : List Seg} {g0 : Nat} {v0 v1 vp : Value} {S Q : Seg}
theorem find_none (hs : subI t p = none) (hpl : p.length ≤ 1000000000) (hT : ownT t v0 v1 S) (hQ : Q.Perm ((g0, .cells #[v0, v1] 26 (0, 0)) :: S)) (hvp : rd H (.s 1 (ints p)) vp) :
    Fn Tryz.prog 52 [.pointer (some ⟨g0, 0, none⟩), vp] w0 H (Q :: own) (fun r own' H' => r = .pointer none ∧ own' = Q :: own ∧ Le H H') :=
  (Fn.borrow (ψ := fun r o => r = .pointer none ∧ o = own) fun H1 hle hz =>
    (find_n hpl (v0 := v0) (v1 := v1) (t := t) (by
      have h := hz _ (hQ.mem_iff.2 List.mem_cons_self)
      refine ⟨?_, ?_, trivial⟩ <;> simp [cel, h]) (hT.rd fun q hq => hz q (hQ.mem_iff.2 (List.mem_cons_of_mem _ hq))) (rd.mono hle hvp)).mono fun r o H' h => by
        obtain ⟨⟨_, h1⟩ | ⟨s, g, o', h1, _⟩, h2, h3⟩ := h
        · exact ⟨⟨h1, h2⟩, h3⟩
        · rw [hs] at h1; cases h1).mono fun r o H' h => by
          obtain ⟨o', rfl, ⟨h1, rfl⟩, h3⟩ := h
          exact ⟨h1, rfl, h3⟩
theorem find_some {s : Tr} {g o : Nat} (hs : subI t p = some s) (hpl : p.length ≤ 1000000000) (hT : ownT t v0 v1 S) (hQ : Q.Perm ((g0, .cells #[v0, v1] 26 (0, 0)) :: S)) (hvp : rd H (.s 1 (ints p)) vp)
    (hadr : ∀ (H : Hp), (∀ p ∈ (g0, .cells #[v0, v1] 26 (0, 0)) :: S, H p.1 = some p.2) → adr H (p.map Int.toNat) (g0, 0) = some (g, o)) :
    Fn Tryz.prog 52 [.pointer (some ⟨g0, 0, none⟩), vp] w0 H (Q :: own) (fun r own' H' => r = .pointer (some ⟨g, o, none⟩) ∧ own' = Q :: own ∧ Le H H') :=
  (Fn.borrow (ψ := fun r o' => r = .pointer (some ⟨g, o, none⟩) ∧ o' = own) fun H1 hle hz =>
    (find_n hpl (v0 := v0) (v1 := v1) (t := t) (by
      have h := hz _ (hQ.mem_iff.2 List.mem_cons_self)
      refine ⟨?_, ?_, trivial⟩ <;> simp [cel, h]) (hT.rd fun q hq => hz q (hQ.mem_iff.2 (List.mem_cons_of_mem _ hq))) (rd.mono hle hvp)).mono fun r o' H' h => by
        obtain ⟨⟨h1, _⟩ | ⟨s', g', q', h1, rfl, h4⟩, h2, h3⟩ := h
        · rw [hs] at h1; cases h1
        · have h5 := hadr H' (fun q hq => h3 _ _ (hz q (hQ.mem_iff.2 hq)))
          rw [h5] at h4
          injection h4 with h4
          injection h4 with e1 e2
          subst e1 e2
          exact ⟨⟨rfl, h2⟩, h3⟩).mono fun r o' H' h => by
          obtain ⟨o'', rfl, ⟨h1, rfl⟩, h3⟩ := h
          exact ⟨h1, rfl, h3⟩
/-- A copy of a node of our own; the node stays. -/
theorem clone_own {s : Tr} {sk : Seg} (hz : s.size ≤ 1073741824) (hT : ownT s v0 v1 sk) :
    Fn Tryz.prog 33 [.agg #[v0, v1]] w0 H (sk :: own) (fun r own' H' => ∃ c0 c1 sg, r = .agg #[c0, c1] ∧ ownT s c0 c1 sg ∧ own' = sk :: sg :: own ∧ Le H H') :=
  (Fn.borrow (ψ := fun r o => ∃ c0 c1 sg, r = .agg #[c0, c1] ∧ ownT s c0 c1 sg ∧ o = sg :: own) fun H1 hle hz1 =>
    (diff_cloneO _ s (Nat.le_refl _) hz (hT.rd hz1)).mono fun r o H' h => by
      obtain ⟨c0, c1, sg, h1, h2, h3, h4⟩ := h
      exact ⟨⟨c0, c1, sg, h1, h2, h3⟩, h4⟩).mono fun r o H' h => by
        obtain ⟨o', rfl, ⟨c0, c1, sg, h1, h2, rfl⟩, h3⟩ := h
        exact ⟨c0, c1, sg, h1, h2, rfl, h3⟩
end
theorem setIf_same {c : Array Value} {i : Nat} {v : Value} (h : c[i]? = some v) : c.setIfInBounds i v = c := by
  refine Array.ext_getElem? fun k => ?_
  rw [Array.getElem?_setIfInBounds]
  split
  · rename_i e
    subst e
    obtain ⟨hlt, _⟩ := Array.getElem?_eq_some_iff.1 h
    rw [if_pos hlt, h]
  · rfl
/-- A row of kids where one is cut out. -/
theorem ownL.cut1 {ts : List Tr} {xs : List Value} {s : Seg} {k : Nat} {y : Tr} (h : ownL ts xs s) (hk : ts[k]? = some y) : ∃ v0 v1 q1 a b, xs[k * 2]? = some v0 ∧ xs[k * 2 + 1]? = some v1 ∧ s.Perm (q1 ++ (a ++ b)) ∧ ownT y v0 v1 a ∧
    ownL (ts.take k ++ ts.drop (k + 1)) (xs.take (k * 2) ++ xs.drop ((k + 1) * 2)) (q1 ++ b) := by
  have hlt := (List.getElem?_eq_some_iff.1 hk).1
  obtain ⟨q1, q2, hp, h1, h2⟩ := h.split k (by omega)
  rw [drop_cons hk] at h2
  simp only [ownL] at h2
  obtain ⟨v0, v1, ys, a, b, e, hp2, h3, h4⟩ := h2
  have e0 : xs[k * 2]? = some v0 := by
    have := congrArg (fun l => l[0]?) e
    simpa using this
  have e1 : xs[k * 2 + 1]? = some v1 := by
    have := congrArg (fun l => l[1]?) e
    simpa using this
  have e2 : xs.drop ((k + 1) * 2) = ys := by
    have := congrArg (List.drop 2) e
    rw [List.drop_drop] at this
    simpa [show (k + 1) * 2 = k * 2 + 2 by omega] using this
  refine ⟨v0, v1, q1, a, b, e0, e1, hp.trans (hp2.append_left q1), h3, ?_⟩
  rw [e2]
  exact h1.join h4
theorem ownL.put1 {ts : List Tr} {xs : List Value} {s sx : Seg} {k : Nat} {x : Tr} {c0 c1 : Value} (h : ownL ts xs s) (hk : k ≤ ts.length) (hx : ownT x c0 c1 sx) :
    ownL (ts.take k ++ [x] ++ ts.drop k) (xs.take (k * 2) ++ [c0, c1] ++ xs.drop (k * 2)) (s ++ sx) := by
  obtain ⟨q1, q2, hp, h1, h2⟩ := h.split k hk
  have h3 := (h1.join (ownL.one hx)).join h2
  refine h3.perm ?_
  rw [List.append_assoc]
  refine (List.Perm.append_left q1 List.perm_append_comm).trans ?_
  rw [← List.append_assoc]
  exact hp.symm.append_right sx
end Go.Proofs.YtaomdfcplamenaaGreatDoor.K

namespace Go.Proofs.YtaomdfcplamenaaGreatDoor.K
open Go Go.RowKit Go.Proofs

theorem clone_ints {p : List Int} (hp : p.length ≤ 1073741824) {w0 : World} {H : Hp} {own : List Seg} {v : Value} (hA : rd H (.s 1 (ints p)) v) :
    Fn Tryz.prog 47 [v] w0 H own (fun r own' H' => ∃ seg, own' = seg :: own ∧ Row 3 1 r p.length (p.map (Value.int .i64)) seg ∧ Le H H') := by
  obtain ⟨A, c, rfl, hc1, hc2⟩ := vals_len hA
  simp only [List.length_map] at hA hc1 ⊢
  refine Fn.enter Tryz.func47 rfl Tryz.ntmps47 rfl ?_; have hL := Le.refl H; refine Qj (Qh (Qe rfl rfl (Qi (Qc (Qj ?_))))); refine Qj (Qh (Qb rfl rfl ?_))
  refine TL.eqlNilB rfl rfl rfl (fun hnil => ?_) (fun hnil => ?_)
  ·
   refine Qi (Qc (Qv rfl (Qj (Qh (Qe rfl rfl ?_))))); refine Qi (Qc (Qy (Q0 (TQ.nilseg (Q5 0 rfl rfl ?_)))))
   first
     | exact ⟨_, rfl, by simpa using hrow', hL⟩
     | exact ⟨_, rfl, by
         have e := hA.nil_of hnil
         have e2 : p = [] := by simpa [ints] using e
         subst e2
         exact Row.nil 3 1, hL⟩
  ·
   refine Qi (Qc (Qr rfl (Q2 (Zm ?_))))
   refine Zg (r := []) [] trivial rfl rfl rfl rfl ?_; intro g5; refine Qb rfl rfl ?_; refine Zh 0 rfl rfl rfl (Row.lit 3 1 0 _ #[] rfl (by omega)) (vals_src (l := p.map (Value.int .i64)) (by simpa [ints] using hA) (by simp [Value.oneCell'])) (by omega) (by omega) rfl ?_; intro v' seg' hrow'; refine Qe rfl rfl (Qi (Qc (Qy (Q5 0 rfl rfl ?_))))
   first
     | exact ⟨_, rfl, by simpa using hrow', hL⟩
     | exact ⟨_, rfl, by
         have e := hA.nil_of hnil
         have e2 : p = [] := by simpa [ints] using e
         subst e2
         exact Row.nil 3 1, hL⟩
theorem perm_ins {α : Type} (x : α) (a b c r : List α) : (x :: (a ++ (b ++ (c ++ r)))).Perm (a ++ (c ++ (b ++ x :: r))) := by
  refine (List.perm_middle (l₁ := a)).symm.trans (List.Perm.append_left a ?_)
  refine (List.perm_append_comm_assoc (x :: b) c r |>.trans ?_)
  refine List.Perm.append_left c ?_
  exact (List.perm_middle (l₁ := b)).symm
theorem perm_del {α : Type} (x : α) (a b r : List α) : (x :: (a ++ (b ++ r))).Perm (a ++ (b ++ x :: r)) := by
  refine (List.perm_middle (l₁ := a)).symm.trans (List.Perm.append_left a ?_)
  exact (List.perm_middle (l₁ := b)).symm
theorem perm_del3 {α : Type} (x : α) (a b c r : List α) : (x :: (a ++ (b ++ (c ++ r)))).Perm (a ++ (b ++ (c ++ x :: r))) := by
  refine (perm_del x a b (c ++ r)).trans (List.Perm.append_left a (List.Perm.append_left b ?_))
  exact (List.perm_middle (l₁ := c)).symm
def DstepPost (t : Tr) (e : Ei) (g0 : Nat) (v0 v1 : Value) (S : Seg) (own : List Seg) (r : Value) (own' : List Seg) (H : Hp) : Prop :=
  (∃ c : Int, stepI t e = .inl c ∧ r = .tuple #[.agg #[.int .i64 0, .slice none 0 0, .string ⟨#[]⟩, .slice none 0 0], .int .i64 c] ∧ own' = ((g0, .cells #[v0, v1] 26 (0, 0)) :: S) :: own) ∨
  ∃ (b : Ei) (u : Tr) (vb d0 d1 u0 u1 : Value) (S' : Seg), stepI t e = .inr (b, u) ∧ r = .tuple #[.agg #[.int .i64 b.op, vb, d0, d1], .int .i64 0] ∧ rd H (.s 1 (ints b.path)) vb ∧ RdL H b.tree.d [d0, d1] ∧
    ownT u u0 u1 S' ∧ own' = ((g0, .cells #[u0, u1] 26 (0, 0)) :: S') :: own
theorem diff_step {t : Tr} {e : Ei} (hpl : e.path.length ≤ 1000000) (hts : t.size ≤ 1000000) (hes : e.tree.size ≤ 1000000) {w0 : World} {H : Hp} {own : List Seg} {g0 : Nat} {v0 v1 vp c0 c1 : Value} {S : Seg} (hT : ownT t v0 v1 S) (hvp : rd H (.s 1 (ints e.path)) vp) (hx : RdL H e.tree.d [c0, c1]) :
    Fn Tryz.prog 34 [.pointer (some ⟨g0, 0, none⟩), .agg #[.int .i64 e.op, vp, c0, c1]] w0 H (((g0, .cells #[v0, v1] 26 (0, 0)) :: S) :: own) (fun r own' H' => DstepPost t e g0 v0 v1 S own r own' H' ∧ Le H H') := by
  obtain ⟨A, c, rfl, hc1, hc2⟩ := vals_len hvp
  simp only [List.length_map] at hvp hc1 ⊢
  refine Fn.enter Tryz.func34 rfl Tryz.ntmps34 rfl ?_; have hL := Le.refl H; refine Qj (Qh ?_)
  refine Zx (c := #[_, _, _, _]) rfl rfl rfl ?_; intro g3
  refine Zc rfl ?_; intro g4; refine Qe rfl rfl (Qi (Qc (Qj (Qj ?_))))
  have hcase : e.op < 1 ∨ (1 ≤ e.op ∧ 3 < e.op) ∨ ((e.op = 1 ∨ e.op = 2) ∧ e.path = []) ∨ (e.op = 3 ∧ subI t e.path = none) ∨ (e.op = 3 ∧ ∃ s, subI t e.path = some s) ∨
      ((e.op = 1 ∨ e.op = 2) ∧ e.path ≠ [] ∧ subI t e.path.dropLast = none) ∨ ((e.op = 1 ∨ e.op = 2) ∧ e.path ≠ [] ∧ ∃ s, subI t e.path.dropLast = some s) := by
    by_cases h1 : e.op < 1
    · exact .inl h1
    · by_cases h2 : 3 < e.op
      · exact .inr (.inl ⟨by omega, h2⟩)
      · by_cases h3 : e.op = 3
        · cases h4 : subI t e.path with
          | none => exact .inr (.inr (.inr (.inl ⟨h3, rfl⟩)))
          | some s => exact .inr (.inr (.inr (.inr (.inl ⟨h3, s, rfl⟩))))
        · by_cases h5 : e.path = []
          · exact .inr (.inr (.inl ⟨by omega, h5⟩))
          · cases h4 : subI t e.path.dropLast with
            | none => exact .inr (.inr (.inr (.inr (.inr (.inl ⟨by omega, h5, rfl⟩)))))
            | some s => exact .inr (.inr (.inr (.inr (.inr (.inr ⟨by omega, h5, s, rfl⟩)))))
  rcases hcase with hb | ⟨hb0, hb⟩ | ⟨hop, hp0⟩ | ⟨hop, hs⟩ | ⟨hop, s, hs⟩ | ⟨hop, hp0, hs⟩ | ⟨hop, hp0, s, hs⟩
  ·
   refine Qh (Qg rfl rfl (Qk 1 0 rfl rfl rfl rfl rfl (Zl rfl rfl rfl ?_)))
   rw [decide_eq_true (by omega)]
   refine Qb rfl rfl ?_; refine Ql rfl rfl rfl rfl ?_; refine Ql rfl rfl rfl rfl ?_; refine Ql rfl rfl rfl rfl ?_; refine Qz rfl rfl rfl rfl (Qb rfl rfl ?_); refine Ql rfl rfl rfl rfl ?_; refine Ql rfl rfl rfl rfl ?_; refine Ql rfl rfl rfl rfl ?_; refine Ql rfl rfl rfl rfl ?_; refine Ql rfl rfl rfl rfl ?_; refine Zk rfl rfl rfl ?_; refine Zk rfl rfl rfl ?_; refine Zk rfl rfl rfl ?_; refine Ql rfl rfl rfl rfl ?_; refine Qz rfl rfl rfl rfl (Qi (Qc (Qv rfl (Qj (Qh ?_))))); refine Q8 [] trivial rfl rfl ?_; refine Qq 0 0 (c' := #[_, _, _, _]) (own' := [(_, .cells #[_, _, _, _] _ _)] :: _) rfl rfl rfl rfl rfl ⟨rfl, rfl, rfl, rfl, trivial⟩ (by simp) rfl rfl rfl (Qe rfl rfl (Qi ?_))
   refine Qc (Qy (Q0 ?_))
   refine Zj 3 [0, 2] rfl (fun o ho => ?_)
   simp only [K.sel, nrm] at ho; subst ho
   refine Zw 0 0 1 [_, _, _, _] rfl rfl rfl rfl rfl ⟨rfl, rfl, rfl, rfl, trivial⟩ rfl rfl ?_
   exact ⟨.inl ⟨_, step_bad (.inl hb), rfl, rfl⟩, hL⟩
  ·
   refine Qh (Qg rfl rfl (Qk 1 0 rfl rfl rfl rfl rfl (Zl rfl rfl rfl ?_)))
   rw [decide_eq_false (by omega)]
   refine Qb rfl rfl ?_; refine Qf rfl rfl rfl (Qg rfl rfl ?_); refine Qf rfl rfl rfl (Qk 1 0 rfl rfl rfl rfl rfl ?_); refine Qf rfl rfl rfl (TL.gtr rfl rfl rfl ?_)
   rw [decide_eq_true (by omega)]
   refine Qx rfl rfl rfl rfl (Qb rfl rfl ?_); refine Ql rfl rfl rfl rfl ?_; refine Ql rfl rfl rfl rfl ?_; refine Ql rfl rfl rfl rfl ?_; refine Ql rfl rfl rfl rfl ?_; refine Ql rfl rfl rfl rfl ?_; refine Zk rfl rfl rfl ?_; refine Zk rfl rfl rfl ?_; refine Zk rfl rfl rfl ?_; refine Ql rfl rfl rfl rfl ?_; refine Qz rfl rfl rfl rfl (Qi (Qc (Qv rfl (Qj (Qh ?_))))); refine Q8 [] trivial rfl rfl ?_; refine Qq 0 0 (c' := #[_, _, _, _]) (own' := [(_, .cells #[_, _, _, _] _ _)] :: _) rfl rfl rfl rfl rfl ⟨rfl, rfl, rfl, rfl, trivial⟩ (by simp) rfl rfl rfl (Qe rfl rfl (Qi (Qc (Qy (Q0 ?_)))))
   refine Zj 3 [0, 2] rfl (fun o ho => ?_)
   simp only [K.sel, nrm] at ho; subst ho
   refine Zw 0 0 1 [_, _, _, _] rfl rfl rfl rfl rfl ⟨rfl, rfl, rfl, rfl, trivial⟩ rfl rfl ?_
   exact ⟨.inl ⟨_, step_bad (.inr (.inl hb)), rfl, rfl⟩, hL⟩
  ·
   refine Qh (Qg rfl rfl (Qk 1 0 rfl rfl rfl rfl rfl (Zl rfl rfl rfl ?_)))
   rw [decide_eq_false (by omega)]
   refine Qb rfl rfl ?_; refine Qf rfl rfl rfl (Qg rfl rfl ?_); refine Qf rfl rfl rfl (Qk 1 0 rfl rfl rfl rfl rfl ?_); refine Qf rfl rfl rfl (TL.gtr rfl rfl rfl ?_)
   rw [decide_eq_false (by omega)]
   refine Qx rfl rfl rfl rfl (Qb rfl rfl ?_); refine Qf rfl rfl rfl (Qg rfl rfl ?_); refine Qf rfl rfl rfl (Qk 1 0 rfl rfl rfl rfl rfl ?_); refine Qf rfl rfl rfl (Qn rfl rfl ?_); refine Qf rfl rfl rfl (Za rfl rfl rfl ?_)
   rw [decide_eq_true (by rw [hp0]; rfl)]
   refine Qf rfl rfl rfl (Qb rfl rfl ?_); refine Qf rfl rfl rfl (Qg rfl rfl ?_); refine Qf rfl rfl rfl (Qk 1 0 rfl rfl rfl rfl rfl ?_); refine Qf rfl rfl rfl (TL.neq rfl rfl rfl ?_)
   rw [decide_eq_true (by omega)]
   refine Qf rfl rfl rfl ?_; refine Qz rfl rfl rfl rfl ?_; refine Qx rfl rfl rfl rfl (Qi (Qc (Qv rfl (Qj (Qh ?_))))); refine Q8 [] trivial rfl rfl ?_; refine Qq 0 0 (c' := #[_, _, _, _]) (own' := [(_, .cells #[_, _, _, _] _ _)] :: _) rfl rfl rfl rfl rfl ⟨rfl, rfl, rfl, rfl, trivial⟩ (by simp) rfl rfl rfl (Qe rfl rfl (Qi (Qc (Qy (Q0 ?_)))))
   refine Zj 3 [0, 2] rfl (fun o ho => ?_)
   simp only [K.sel, nrm] at ho; subst ho
   refine Zw 0 0 1 [_, _, _, _] rfl rfl rfl rfl rfl ⟨rfl, rfl, rfl, rfl, trivial⟩ rfl rfl ?_
   exact ⟨.inl ⟨_, step_bad (.inr (.inr ⟨hp0, by omega⟩)), rfl, rfl⟩, hL⟩
  ·
   refine Qh (Qg rfl rfl (Qk 1 0 rfl rfl rfl rfl rfl (Zl rfl rfl rfl ?_)))
   rw [decide_eq_false (by omega)]
   refine Qb rfl rfl ?_; refine Qf rfl rfl rfl (Qg rfl rfl ?_); refine Qf rfl rfl rfl (Qk 1 0 rfl rfl rfl rfl rfl ?_); refine Qf rfl rfl rfl (TL.gtr rfl rfl rfl ?_)
   rw [decide_eq_false (by omega)]
   refine Qx rfl rfl rfl rfl (Qb rfl rfl ?_); refine Qf rfl rfl rfl (Qg rfl rfl ?_); refine Qf rfl rfl rfl (Qk 1 0 rfl rfl rfl rfl rfl ?_); refine Qf rfl rfl rfl (Qn rfl rfl ?_); refine Qf rfl rfl rfl ?_
   refine TL.eqlB rfl rfl rfl (fun h1 => ?_) (fun h1 => ?_)
   ·
    refine Qf rfl rfl rfl (Qb rfl rfl ?_); refine Qf rfl rfl rfl (Qg rfl rfl ?_); refine Qf rfl rfl rfl (Qk 1 0 rfl rfl rfl rfl rfl ?_); refine Qf rfl rfl rfl (TL.neq rfl rfl rfl ?_)
    rw [decide_eq_false (fun h => h hop)]
    refine Qf rfl rfl rfl ?_; refine Qz rfl rfl rfl rfl ?_; refine Qx rfl rfl rfl rfl (Qi (Qc (Qr rfl (Q2 (Zm ?_))))); refine Qg rfl rfl (Qk 1 0 rfl rfl rfl rfl rfl ?_); refine Qs (clone_ints (by omega) hvp) ⟨rfl, trivial⟩ rfl ?_
    rintro v3 _ H2 ⟨sg3, rfl, hrow3, hle2⟩
    have hL := Le.trans hL hle2; have hvp := rd.mono hle2 hvp
    refine Zy (fun H2 hle hz_rowp => ?_)
    have hL := Le.trans hL hle; have hvp := rd.mono hle hvp
    have hvp3 : rd H2 (.s 1 (ints e.path)) v3 := by simpa [ints] using rd.ofRow hrow3 hz_rowp (RdL.vals _) (Le.refl _)
    refine Q8 [(1, [_])] ⟨rfl, ⟨_, rfl, one_cells hrow3.one⟩, trivial⟩ rfl rfl ?_
    refine Zc rfl ?_; intro g6; refine Qq 0 0 (c' := #[_, _, _, _]) (own' := [(_, .cells #[_, _, _, _] _ _)] :: _) rfl rfl rfl rfl rfl ⟨rfl, hrow3.one, rfl, rfl, trivial⟩ (by simp) rfl rfl rfl (Qi (Qc (Qj (Qj (Qh ?_))))); refine Qg rfl rfl (Qk 2 0 rfl rfl rfl rfl rfl (Za rfl rfl rfl ?_))
    rw [decide_eq_true (by omega)]
    refine Qi (Qc (Qv rfl (Qj (Qh (Qb rfl rfl ?_))))); refine Qg rfl rfl (Qk 2 0 rfl rfl rfl rfl rfl ?_)
    refine TL.sel 4 [3, 0, 1, 2] rfl (fun o ho => ?_)
    simp only [K.sel, nrm] at ho; subst ho
    refine Qs (find_none hs (by omega) hT (.refl _) hvp) ⟨rfl, rfl, trivial⟩ rfl ?_
    rintro _ _ H2 ⟨rfl, rfl, hle2⟩
    have hL := Le.trans hL hle2; refine Qe rfl rfl (Qi (Qc (Qj (Qj (Qh ?_))))); refine Qb rfl rfl ?_; refine TL.eqlP Tryz.underlying85 rfl rfl rfl (Qi (Qc (Qv rfl (Qj (Qh ?_))))); refine Q8 [] trivial rfl rfl ?_; refine Qq 2 0 (c' := #[_, _, _, _]) (own' := _ :: _ :: [(_, .cells #[_, _, _, _] _ _)] :: _) rfl rfl rfl rfl rfl ⟨rfl, rfl, rfl, rfl, trivial⟩ (by simp) rfl rfl rfl (Qe rfl rfl (Qi (Qc (Qy (Q0 ?_))))); refine Q0 ?_
    refine Zj 4 [2, 0] rfl (fun o ho => ?_)
    simp only [K.sel, nrm] at ho; subst ho
    refine Zw 0 0 1 [_, _, _, _] rfl rfl rfl rfl rfl ⟨rfl, rfl, rfl, rfl, trivial⟩ rfl rfl ?_
    exact ⟨.inl ⟨_, step_rep0 hop hs, rfl, rfl⟩, hL⟩
   ·
    refine Qf rfl rfl rfl (Qb rfl rfl ?_); refine Ql rfl rfl rfl rfl ?_; refine Ql rfl rfl rfl rfl ?_; refine Ql rfl rfl rfl rfl ?_; refine Qf rfl rfl rfl ?_; refine Qx rfl rfl rfl rfl ?_; refine Qx rfl rfl rfl rfl (Qi (Qc (Qr rfl (Q2 (Zm ?_))))); refine Qg rfl rfl (Qk 1 0 rfl rfl rfl rfl rfl ?_); refine Qs (clone_ints (by omega) hvp) ⟨rfl, trivial⟩ rfl ?_
    rintro v3 _ H2 ⟨sg3, rfl, hrow3, hle2⟩
    have hL := Le.trans hL hle2; have hvp := rd.mono hle2 hvp
    refine Zy (fun H3 hle hz_rowp => ?_)
    have hL := Le.trans hL hle; have hvp := rd.mono hle hvp
    have hvp3 : rd H3 (.s 1 (ints e.path)) v3 := by simpa [ints] using rd.ofRow hrow3 hz_rowp (RdL.vals _) (Le.refl _)
    refine Q8 [(1, [_])] ⟨rfl, ⟨_, rfl, one_cells hrow3.one⟩, trivial⟩ rfl rfl ?_
    refine Zc rfl ?_; intro g6; refine Qq 0 0 (c' := #[_, _, _, _]) (own' := [(_, .cells #[_, _, _, _] _ _)] :: _) rfl rfl rfl rfl rfl ⟨rfl, hrow3.one, rfl, rfl, trivial⟩ (by simp) rfl rfl rfl (Qi (Qc (Qj (Qj (Qh ?_))))); refine Qg rfl rfl (Qk 2 0 rfl rfl rfl rfl rfl (Za rfl rfl rfl ?_))
    rw [decide_eq_true (by omega)]
    refine Qi (Qc (Qv rfl (Qj (Qh (Qb rfl rfl ?_))))); refine Qg rfl rfl (Qk 2 0 rfl rfl rfl rfl rfl ?_)
    refine TL.sel 4 [3, 0, 1, 2] rfl (fun o ho => ?_)
    simp only [K.sel, nrm] at ho; subst ho
    refine Qs (find_none hs (by omega) hT (.refl _) hvp) ⟨rfl, rfl, trivial⟩ rfl ?_
    rintro _ _ H2 ⟨rfl, rfl, hle2⟩
    have hL := Le.trans hL hle2; refine Qe rfl rfl (Qi (Qc (Qj (Qj (Qh ?_))))); refine Qb rfl rfl ?_; refine TL.eqlP Tryz.underlying85 rfl rfl rfl (Qi (Qc (Qv rfl (Qj (Qh ?_))))); refine Q8 [] trivial rfl rfl ?_; refine Qq 2 0 (c' := #[_, _, _, _]) (own' := _ :: _ :: [(_, .cells #[_, _, _, _] _ _)] :: _) rfl rfl rfl rfl rfl ⟨rfl, rfl, rfl, rfl, trivial⟩ (by simp) rfl rfl rfl (Qe rfl rfl (Qi (Qc (Qy (Q0 ?_))))); refine Q0 ?_
    refine Zj 4 [2, 0] rfl (fun o ho => ?_)
    simp only [K.sel, nrm] at ho; subst ho
    refine Zw 0 0 1 [_, _, _, _] rfl rfl rfl rfl rfl ⟨rfl, rfl, rfl, rfl, trivial⟩ rfl rfl ?_
    exact ⟨.inl ⟨_, step_rep0 hop hs, rfl, rfl⟩, hL⟩
  ·
   obtain ⟨g, cur, j, w0', w1', sk, rest, hpm, hj, hj0, hj1, hsk, hadr, hput⟩ := ownT.root (g0 := g0) (e.path.map Int.toNat) (subI_sub _ _ hs) hT
   have hss := subI_size _ _ hs; refine Qh (Qg rfl rfl (Qk 1 0 rfl rfl rfl rfl rfl (Zl rfl rfl rfl ?_)))
   rw [decide_eq_false (by omega)]
   refine Qb rfl rfl ?_; refine Qf rfl rfl rfl (Qg rfl rfl ?_); refine Qf rfl rfl rfl (Qk 1 0 rfl rfl rfl rfl rfl ?_); refine Qf rfl rfl rfl (TL.gtr rfl rfl rfl ?_)
   rw [decide_eq_false (by omega)]
   refine Qx rfl rfl rfl rfl (Qb rfl rfl ?_); refine Qf rfl rfl rfl (Qg rfl rfl ?_); refine Qf rfl rfl rfl (Qk 1 0 rfl rfl rfl rfl rfl ?_); refine Qf rfl rfl rfl (Qn rfl rfl ?_); refine Qf rfl rfl rfl ?_
   refine TL.eqlB rfl rfl rfl (fun h4 => ?_) (fun h4 => ?_)
   ·
    refine Qf rfl rfl rfl (Qb rfl rfl ?_); refine Qf rfl rfl rfl (Qg rfl rfl ?_); refine Qf rfl rfl rfl (Qk 1 0 rfl rfl rfl rfl rfl ?_); refine Qf rfl rfl rfl (TL.neq rfl rfl rfl ?_)
    rw [decide_eq_false (fun h => h hop)]
    refine Qf rfl rfl rfl ?_; refine Qz rfl rfl rfl rfl ?_; refine Qx rfl rfl rfl rfl (Qi (Qc (Qr rfl (Q2 (Zm ?_))))); refine Qg rfl rfl (Qk 1 0 rfl rfl rfl rfl rfl ?_); refine Qs (clone_ints (by omega) hvp) ⟨rfl, trivial⟩ rfl ?_
    rintro v3 _ H2 ⟨sg3, rfl, hrow3, hle2⟩
    have hL := Le.trans hL hle2; have hvp := rd.mono hle2 hvp; have hx := RdL.mono hle2 hx
    refine Zy (fun H5 hle hz_rowp => ?_)
    have hL := Le.trans hL hle; have hvp := rd.mono hle hvp; have hx := RdL.mono hle hx
    have hvp3 : rd H5 (.s 1 (ints e.path)) v3 := by simpa [ints] using rd.ofRow hrow3 hz_rowp (RdL.vals _) (Le.refl _)
    refine Q8 [(1, [_])] ⟨rfl, ⟨_, rfl, one_cells hrow3.one⟩, trivial⟩ rfl rfl ?_
    refine Zc rfl ?_; intro g6; refine Qq 0 0 (c' := #[_, _, _, _]) (own' := [(_, .cells #[_, _, _, _] _ _)] :: _) rfl rfl rfl rfl rfl ⟨rfl, hrow3.one, rfl, rfl, trivial⟩ (by simp) rfl rfl rfl (Qi (Qc (Qj (Qj (Qh ?_))))); refine Qg rfl rfl (Qk 2 0 rfl rfl rfl rfl rfl (Za rfl rfl rfl ?_))
    rw [decide_eq_true (by omega)]
    refine Qi (Qc (Qv rfl (Qj (Qh (Qb rfl rfl ?_))))); refine Qg rfl rfl (Qk 2 0 rfl rfl rfl rfl rfl ?_)
    refine TL.sel 4 [3, 0, 1, 2] rfl (fun o ho => ?_)
    simp only [K.sel, nrm] at ho; subst ho
    refine Qs (find_some hs (by omega) hT (.refl _) hvp hadr) ⟨rfl, rfl, trivial⟩ rfl ?_
    rintro _ _ H2 ⟨rfl, rfl, hle2⟩
    have hL := Le.trans hL hle2; have hx := RdL.mono hle2 hx; have hvp3 := rd.mono hle2 hvp3; refine TL.flat (flatQ (L := [[(g, .cells cur 26 (0, 0))], sk, rest]) (by simpa using hpm)) ?_; refine Qw (own' := [(g, .cells cur 26 (0, 0))] :: sk :: rest :: _) rfl (Qe rfl rfl (Qi (Qc (Qj (Qj ?_))))); refine Qh (Qb rfl rfl ?_); refine TL.eqlP Tryz.underlying85 rfl rfl rfl (Qi (Qc (Qr rfl (Q2 (Zm ?_))))); refine Qb rfl rfl (Qt rfl rfl ?_); refine Qm 0 0 [_, _] rfl rfl rfl ⟨by rw [lget_arr]; exact hj0, by rw [lget_arr]; exact hj1, trivial⟩ rfl rfl ?_
    refine TL.sel 6 [1, 0, 2, 3, 4, 5] rfl (fun o ho => ?_)
    simp only [K.sel, nrm] at ho; subst ho
    refine Qs (clone_own (by omega) hsk) ⟨rfl, trivial⟩ rfl ?_
    rintro _ _ H3 ⟨d0, d1, sgc, rfl, hsgc, rfl, hle3⟩
    have hL := Le.trans hL hle3; have hx := RdL.mono hle3 hx; have hvp3 := rd.mono hle3 hvp3; refine Qg rfl rfl ?_; refine Zq 4 0 (c' := #[_, _, _, _]) (own' := _ :: _ :: _ :: _ :: [(_, .cells #[_, _, _, _] _ _)] :: _) rfl rfl rfl rfl rfl (by simp) rfl rfl rfl (Qg rfl rfl ?_); refine Qq 4 0 (c' := #[_, _, _, _]) (own' := _ :: _ :: _ :: _ :: [(_, .cells #[_, _, _, _] _ _)] :: _) rfl rfl rfl rfl rfl (ownT.ones hsgc) (by simp) rfl rfl rfl (Q3 (Qb rfl rfl (Qg rfl rfl ?_))); refine Qm 6 0 [_, _] rfl rfl rfl ⟨rfl, rfl, trivial⟩ rfl rfl ?_; refine Qs (diff_cloneO _ e.tree (Nat.le_refl _) (by omega) hx) ⟨rfl, trivial⟩ rfl ?_
    rintro _ _ H4 ⟨c0', c1', sgn, rfl, hsgn, rfl, hle4⟩
    have hL := Le.trans hL hle4; have hvp3 := rd.mono hle4 hvp3; refine Qt rfl rfl ?_; refine Qq 3 0 (c' := (cur.setIfInBounds (j * 2) c0').setIfInBounds (j * 2 + 1) c1') (own' := _ :: _ :: _ :: [(g, .cells ((cur.setIfInBounds (j * 2) c0').setIfInBounds (j * 2 + 1) c1') 26 (0, 0))] :: _ :: _ :: _ :: _ :: own) rfl rfl rfl rfl rfl (ownT.ones hsgn) (by simp; omega) rfl rfl rfl ?_
    refine Q3 ?_; refine Qm 5 0 [_, _, _, _] rfl rfl rfl ⟨rfl, rfl, rfl, rfl, trivial⟩ rfl rfl ?_; refine Qq 6 0 (c' := #[_, _, _, _]) (own' := _ :: _ :: _ :: _ :: _ :: _ :: [(_, .cells #[_, _, _, _] _ _)] :: _) rfl rfl rfl rfl rfl ⟨rfl, hrow3.one, (ownT.ones hsgc).1, (ownT.ones hsgc).2.1, trivial⟩ (by simp) rfl rfl rfl (Qe rfl rfl (Qi (Qc (Qy (Q0 ?_)))))
    refine Zj 8 [2, 6, 3, 0, 4] rfl (fun o ho => ?_)
    simp only [K.sel, nrm] at ho; subst ho
    refine Zs (fun H6 hle hz_sgc => ?_)
    have hL := Le.trans hL hle; have hvp3 := rd.mono hle hvp3
    obtain ⟨u0, u1, S9, hU, hp9⟩ := hput _ _ _ _ hsgn
    refine TQ.flat (own' := _ :: (((g0, .cells #[u0, u1] 26 (0, 0)) :: S9) :: own)) (flatJ1 (L := [[(g, .cells ((cur.setIfInBounds (j * 2) c0').setIfInBounds (j * 2 + 1) c1') 26 (0, 0))], sgn, rest]) (by simpa using hp9.symm)) ?_; refine Zn (own' := _ :: _ :: own) rfl ?_; refine Zw 0 0 1 [_, _, _, _] rfl rfl rfl rfl rfl ⟨rfl, rfl, rfl, rfl, trivial⟩ rfl rfl ?_
    exact ⟨.inr ⟨_, _, _, d0, d1, _, _, _, step_rep hop hs, rfl, hvp3, ownT.rd hsgc hz_sgc, hU, rfl⟩, hL⟩
   ·
    refine Qf rfl rfl rfl (Qb rfl rfl ?_); refine Ql rfl rfl rfl rfl ?_; refine Ql rfl rfl rfl rfl ?_; refine Ql rfl rfl rfl rfl ?_; refine Qf rfl rfl rfl ?_; refine Qx rfl rfl rfl rfl ?_; refine Qx rfl rfl rfl rfl (Qi (Qc (Qr rfl (Q2 (Zm ?_))))); refine Qg rfl rfl (Qk 1 0 rfl rfl rfl rfl rfl ?_); refine Qs (clone_ints (by omega) hvp) ⟨rfl, trivial⟩ rfl ?_
    rintro v3 _ H2 ⟨sg3, rfl, hrow3, hle2⟩
    have hL := Le.trans hL hle2; have hvp := rd.mono hle2 hvp; have hx := RdL.mono hle2 hx
    refine Zy (fun H7 hle hz_rowp => ?_)
    have hL := Le.trans hL hle; have hvp := rd.mono hle hvp; have hx := RdL.mono hle hx
    have hvp3 : rd H7 (.s 1 (ints e.path)) v3 := by simpa [ints] using rd.ofRow hrow3 hz_rowp (RdL.vals _) (Le.refl _)
    refine Q8 [(1, [_])] ⟨rfl, ⟨_, rfl, one_cells hrow3.one⟩, trivial⟩ rfl rfl ?_
    refine Zc rfl ?_; intro g6; refine Qq 0 0 (c' := #[_, _, _, _]) (own' := [(_, .cells #[_, _, _, _] _ _)] :: _) rfl rfl rfl rfl rfl ⟨rfl, hrow3.one, rfl, rfl, trivial⟩ (by simp) rfl rfl rfl (Qi (Qc (Qj (Qj (Qh ?_))))); refine Qg rfl rfl (Qk 2 0 rfl rfl rfl rfl rfl (Za rfl rfl rfl ?_))
    rw [decide_eq_true (by omega)]
    refine Qi (Qc (Qv rfl (Qj (Qh (Qb rfl rfl ?_))))); refine Qg rfl rfl (Qk 2 0 rfl rfl rfl rfl rfl ?_)
    refine TL.sel 4 [3, 0, 1, 2] rfl (fun o ho => ?_)
    simp only [K.sel, nrm] at ho; subst ho
    refine Qs (find_some hs (by omega) hT (.refl _) hvp hadr) ⟨rfl, rfl, trivial⟩ rfl ?_
    rintro _ _ H2 ⟨rfl, rfl, hle2⟩
    have hL := Le.trans hL hle2; have hx := RdL.mono hle2 hx; have hvp3 := rd.mono hle2 hvp3; refine TL.flat (flatQ (L := [[(g, .cells cur 26 (0, 0))], sk, rest]) (by simpa using hpm)) ?_; refine Qw (own' := [(g, .cells cur 26 (0, 0))] :: sk :: rest :: _) rfl (Qe rfl rfl (Qi (Qc (Qj (Qj ?_))))); refine Qh (Qb rfl rfl ?_); refine TL.eqlP Tryz.underlying85 rfl rfl rfl (Qi (Qc (Qr rfl (Q2 (Zm ?_))))); refine Qb rfl rfl (Qt rfl rfl ?_); refine Qm 0 0 [_, _] rfl rfl rfl ⟨by rw [lget_arr]; exact hj0, by rw [lget_arr]; exact hj1, trivial⟩ rfl rfl ?_
    refine TL.sel 6 [1, 0, 2, 3, 4, 5] rfl (fun o ho => ?_)
    simp only [K.sel, nrm] at ho; subst ho
    refine Qs (clone_own (by omega) hsk) ⟨rfl, trivial⟩ rfl ?_
    rintro _ _ H3 ⟨d0, d1, sgc, rfl, hsgc, rfl, hle3⟩
    have hL := Le.trans hL hle3; have hx := RdL.mono hle3 hx; have hvp3 := rd.mono hle3 hvp3; refine Qg rfl rfl ?_; refine Zq 4 0 (c' := #[_, _, _, _]) (own' := _ :: _ :: _ :: _ :: [(_, .cells #[_, _, _, _] _ _)] :: _) rfl rfl rfl rfl rfl (by simp) rfl rfl rfl (Qg rfl rfl ?_); refine Qq 4 0 (c' := #[_, _, _, _]) (own' := _ :: _ :: _ :: _ :: [(_, .cells #[_, _, _, _] _ _)] :: _) rfl rfl rfl rfl rfl (ownT.ones hsgc) (by simp) rfl rfl rfl (Q3 (Qb rfl rfl (Qg rfl rfl ?_))); refine Qm 6 0 [_, _] rfl rfl rfl ⟨rfl, rfl, trivial⟩ rfl rfl ?_; refine Qs (diff_cloneO _ e.tree (Nat.le_refl _) (by omega) hx) ⟨rfl, trivial⟩ rfl ?_
    rintro _ _ H4 ⟨c0', c1', sgn, rfl, hsgn, rfl, hle4⟩
    have hL := Le.trans hL hle4; have hvp3 := rd.mono hle4 hvp3; refine Qt rfl rfl ?_; refine Qq 3 0 (c' := (cur.setIfInBounds (j * 2) c0').setIfInBounds (j * 2 + 1) c1') (own' := _ :: _ :: _ :: [(g, .cells ((cur.setIfInBounds (j * 2) c0').setIfInBounds (j * 2 + 1) c1') 26 (0, 0))] :: _ :: _ :: _ :: _ :: own) rfl rfl rfl rfl rfl (ownT.ones hsgn) (by simp; omega) rfl rfl rfl ?_
    refine Q3 ?_; refine Qm 5 0 [_, _, _, _] rfl rfl rfl ⟨rfl, rfl, rfl, rfl, trivial⟩ rfl rfl ?_; refine Qq 6 0 (c' := #[_, _, _, _]) (own' := _ :: _ :: _ :: _ :: _ :: _ :: [(_, .cells #[_, _, _, _] _ _)] :: _) rfl rfl rfl rfl rfl ⟨rfl, hrow3.one, (ownT.ones hsgc).1, (ownT.ones hsgc).2.1, trivial⟩ (by simp) rfl rfl rfl (Qe rfl rfl (Qi (Qc (Qy (Q0 ?_)))))
    refine Zj 8 [2, 6, 3, 0, 4] rfl (fun o ho => ?_)
    simp only [K.sel, nrm] at ho; subst ho
    refine Zs (fun H8 hle hz_sgc => ?_)
    have hL := Le.trans hL hle; have hvp3 := rd.mono hle hvp3
    obtain ⟨u0, u1, S9, hU, hp9⟩ := hput _ _ _ _ hsgn
    refine TQ.flat (own' := _ :: (((g0, .cells #[u0, u1] 26 (0, 0)) :: S9) :: own)) (flatJ1 (L := [[(g, .cells ((cur.setIfInBounds (j * 2) c0').setIfInBounds (j * 2 + 1) c1') 26 (0, 0))], sgn, rest]) (by simpa using hp9.symm)) ?_; refine Zn (own' := _ :: _ :: own) rfl ?_; refine Zw 0 0 1 [_, _, _, _] rfl rfl rfl rfl rfl ⟨rfl, rfl, rfl, rfl, trivial⟩ rfl rfl ?_
    exact ⟨.inr ⟨_, _, _, d0, d1, _, _, _, step_rep hop hs, rfl, hvp3, ownT.rd hsgc hz_sgc, hU, rfl⟩, hL⟩
  ·
   refine Qh (Qg rfl rfl (Qk 1 0 rfl rfl rfl rfl rfl (Zl rfl rfl rfl ?_)))
   rw [decide_eq_false (by omega)]
   refine Qb rfl rfl ?_; refine Qf rfl rfl rfl (Qg rfl rfl ?_); refine Qf rfl rfl rfl (Qk 1 0 rfl rfl rfl rfl rfl ?_); refine Qf rfl rfl rfl (TL.gtr rfl rfl rfl ?_)
   rw [decide_eq_false (by omega)]
   refine Qx rfl rfl rfl rfl (Qb rfl rfl ?_); refine Qf rfl rfl rfl (Qg rfl rfl ?_); refine Qf rfl rfl rfl (Qk 1 0 rfl rfl rfl rfl rfl ?_); refine Qf rfl rfl rfl (Qn rfl rfl ?_); refine Qf rfl rfl rfl (Za rfl rfl rfl ?_)
   rw [decide_eq_false (fun h => hp0 (List.eq_nil_of_length_eq_zero (by omega)))]
   refine Qf rfl rfl rfl (Qb rfl rfl ?_); refine Ql rfl rfl rfl rfl ?_; refine Ql rfl rfl rfl rfl ?_; refine Ql rfl rfl rfl rfl ?_; refine Qf rfl rfl rfl ?_; refine Qx rfl rfl rfl rfl ?_; refine Qx rfl rfl rfl rfl (Qi (Qc (Qr rfl (Q2 (Zm ?_))))); refine Qg rfl rfl (Qk 1 0 rfl rfl rfl rfl rfl ?_); refine Qs (clone_ints (by omega) hvp) ⟨rfl, trivial⟩ rfl ?_
   rintro v3 _ H2 ⟨sg3, rfl, hrow3, hle2⟩
   have hL := Le.trans hL hle2; have hvp := rd.mono hle2 hvp
   refine Zy (fun H9 hle hz_rowp => ?_)
   have hL := Le.trans hL hle; have hvp := rd.mono hle hvp
   have hvp3 : rd H9 (.s 1 (ints e.path)) v3 := by simpa [ints] using rd.ofRow hrow3 hz_rowp (RdL.vals _) (Le.refl _)
   refine Q8 [(1, [_])] ⟨rfl, ⟨_, rfl, one_cells hrow3.one⟩, trivial⟩ rfl rfl ?_
   refine Zc rfl ?_; intro g6; refine Qq 0 0 (c' := #[_, _, _, _]) (own' := [(_, .cells #[_, _, _, _] _ _)] :: _) rfl rfl rfl rfl rfl ⟨rfl, hrow3.one, rfl, rfl, trivial⟩ (by simp) rfl rfl rfl (Qi (Qc (Qj (Qj (Qh ?_))))); refine Qg rfl rfl (Qk 2 0 rfl rfl rfl rfl rfl (Za rfl rfl rfl ?_))
   rw [decide_eq_false (by omega)]
   refine Qi (Qc (Qr rfl (Q2 (Zm (Qg rfl rfl ?_))))); refine Qk 2 0 rfl rfl rfl rfl rfl (Qn rfl rfl ?_); refine Zu rfl rfl rfl ⟨by omega, by omega⟩ (Qe rfl rfl (Qi (Qc (Qj ?_))))
   refine Z2 4 [3, 0, 1, 2] rfl (fun o ho => ?_)
   simp only [K.sel, nrm] at ho; subst ho
   have hxl : e.path[e.path.length - 1]? = some (e.path.getLastD 0) := by
     rw [List.getLastD_eq_getLast?, ← List.getLast?_eq_getElem?]
     cases h : e.path.getLast? with
     | none => simp at h; exact absurd h hp0
     | some y => rfl
   obtain ⟨b2, q2, rfl, hlast⟩ := vals_at hvp (i := e.path.length - 1) (u := .int .i64 (e.path.getLastD 0)) (by simp [hxl])
   have hpos := List.length_pos_iff.2 hp0
   rcases True.intro with _
   ·
    refine Q4 12  [(0, _), (1, _), (3, _), (4, _), (5, _), (6, _), (8, _)] follows_mixed ⟨rfl, rfl, rfl, rfl, rfl, rfl, rfl, trivial⟩ ?_; refine Qa (some 61) [] (fun _ _ _ _ hF => Qb rfl rfl (Qd hF)) ?_; refine Qa (some 62) [] (fun _ _ _ _ hF => Qg rfl rfl (Qd hF)) ?_
    refine Qa (some 63) [(1, 0)] (by
     intro H' X F hle; have hL := Le.trans hL hle; intro hF; refine Qk 3 0 rfl rfl rfl rfl rfl ?_
     exact Qd hF) ?_
    refine Qa (some 64) [] (fun _ _ _ _ hF => Qb rfl rfl (Qd hF)) ?_
    refine Q9 (some 65) [(2, 1), (3, 0)] ([]) (fun _ => fun u sg H => rd H (.s 1 (ints e.path.dropLast)) u ∧ sg = []) (by
     intro H' X F hle; have hL := Le.trans hL hle; have hvp := rd.mono hle hvp; intro hF; refine Z3 (0) (e.path.length - 1) rfl rfl ⟨_, _, rfl, rfl⟩ rfl (by simp only [Option.getD_some]; omega) (by omega) (by omega) rfl ?_
     refine Qi ?_
     exact Q7 [] hF (Le.refl _) ⟨by
       have h := rd.cut hvp (l := 0) (r := e.path.length - 1) (by omega) (by omega)
       rw [show ((ints e.path).drop (0 * 1)).take ((e.path.length - 1 - 0) * 1) = ints e.path.dropLast from by simp [ints, List.dropLast_eq_take]] at h
       exact h, rfl⟩) ?_
    refine Qa (some 66) [(0, 4), (4, 0)] (by
     intro H' X F hle; have hL := Le.trans hL hle; intro _
     rintro v65 _ Hi hle65 ⟨hv65, rfl⟩
     replace hv65 := rd.mono hle65 hv65
     intro hF; refine Qw (own' := ((g0, .cells #[v0, v1] 26 (0, 0)) :: S) :: _) rfl ?_; refine Qs (find_none hs (by simp; omega) hT (.refl _) hv65) ⟨rfl, rfl, trivial⟩ rfl ?_
     rintro _ _ H2 ⟨rfl, rfl, hle2⟩
     refine Qi ?_
     exact Q7 [] hF hle2 ⟨rfl, rfl⟩) ?_
    refine Qa (some 67) [] (fun _ _ _ _ hF => Qg rfl rfl (Qd hF)) ?_
    refine Qa (some 68) [(6, 0)] (by
     intro H' X F hle; have hL := Le.trans hL hle; intro hF; refine Qk 3 0 rfl rfl rfl rfl rfl ?_
     exact Qd hF) ?_
    refine Qa (some 69) [] (fun _ _ _ _ hF => Qb rfl rfl (Qd hF)) ?_; refine Qa (some 70) [(7, 1), (8, 0)] (fun _ _ _ _ hF => Qo (e.path.length - 1) rfl rfl (by omega) (by omega) rfl (Qd hF)) ?_
    refine Qa (some 71) [(9, 0)] (by
     intro H' X F hle; have hL := Le.trans hL hle; have hlast := cel_le hle hlast; intro hF; refine Qp rfl (hlast) rfl ?_
     exact Qd hF) ?_
    refine Qa (some 9) [(5, 5)] (fun _ _ _ _ hF => Qe rfl rfl (Qd hF)) ?_
    refine ⟨by kernel_rfl, .refl _, ?_⟩
    ·
     intro H10 hle
     rintro v65 _ Hi hle65 ⟨hv65, rfl⟩
     have hL := Le.trans hL hle; refine Qw (own' := _ :: _ :: _ :: _ :: own) rfl ?_; refine Zi (env' := [(0, _), (1, _), (3, _), (4, _), (5, _), (6, _), (71, _), (9, _)]) ⟨rfl, rfl, rfl, rfl, rfl, rfl, rfl, rfl, trivial⟩ (Qe rfl rfl (Qi (Qc (Qj (Qj ?_))))); refine Qh (Qb rfl rfl ?_); refine TL.eqlP Tryz.underlying85 rfl rfl rfl (Qb rfl rfl ?_); refine Ql rfl rfl rfl rfl ?_; refine Ql rfl rfl rfl rfl ?_; refine Qz rfl rfl rfl rfl (Qb rfl rfl ?_); refine Ql rfl rfl rfl rfl ?_; refine Ql rfl rfl rfl rfl ?_; refine Ql rfl rfl rfl rfl ?_; refine Ql rfl rfl rfl rfl ?_; refine Ql rfl rfl rfl rfl ?_; refine Ql rfl rfl rfl rfl ?_; refine Ql rfl rfl rfl rfl ?_; refine Qz rfl rfl rfl rfl (Qb rfl rfl ?_)
     refine Ql rfl rfl rfl rfl ?_; refine Ql rfl rfl rfl rfl ?_; refine Ql rfl rfl rfl rfl ?_; refine Ql rfl rfl rfl rfl ?_; refine Ql rfl rfl rfl rfl ?_; refine Ql rfl rfl rfl rfl ?_; refine Ql rfl rfl rfl rfl ?_; refine Ql rfl rfl rfl rfl ?_; refine Zk rfl rfl rfl ?_; refine Zk rfl rfl rfl ?_; refine Zk rfl rfl rfl ?_; refine Ql rfl rfl rfl rfl ?_; refine Qz rfl rfl rfl rfl (Qi (Qc (Qv rfl (Qj (Qh ?_))))); refine Q8 [] trivial rfl rfl ?_; refine Qq 2 0 (c' := #[_, _, _, _]) (own' := _ :: _ :: [(_, .cells #[_, _, _, _] _ _)] :: _) rfl rfl rfl rfl rfl ⟨rfl, rfl, rfl, rfl, trivial⟩ (by simp) rfl rfl rfl (Qe rfl rfl (Qi (Qc (Qy (Q0 ?_)))))
     refine Zj 4 [2, 0] rfl (fun o ho => ?_)
     simp only [K.sel, nrm] at ho; subst ho
     refine Zw 0 0 1 [_, _, _, _] rfl rfl rfl rfl rfl ⟨rfl, rfl, rfl, rfl, trivial⟩ rfl rfl ?_
     exact ⟨.inl ⟨_, step_no hop hp0 hs, rfl, rfl⟩, hL⟩
  ·
   obtain ⟨l, ks⟩ := s
   obtain ⟨g, cur, j, w0', w1', sk, rest, hpm, hj, hj0, hj1, hsk, hadr, hput⟩ := ownT.root (g0 := g0) (e.path.dropLast.map Int.toNat) (subI_sub _ _ hs) hT
   have hss := subI_size _ _ hs; have hks := Tr.len_le ks
   simp only [Tr.size] at hss
   refine Qh (Qg rfl rfl (Qk 1 0 rfl rfl rfl rfl rfl (Zl rfl rfl rfl ?_)))
   rw [decide_eq_false (by omega)]
   refine Qb rfl rfl ?_; refine Qf rfl rfl rfl (Qg rfl rfl ?_); refine Qf rfl rfl rfl (Qk 1 0 rfl rfl rfl rfl rfl ?_); refine Qf rfl rfl rfl (TL.gtr rfl rfl rfl ?_)
   rw [decide_eq_false (by omega)]
   refine Qx rfl rfl rfl rfl (Qb rfl rfl ?_); refine Qf rfl rfl rfl (Qg rfl rfl ?_); refine Qf rfl rfl rfl (Qk 1 0 rfl rfl rfl rfl rfl ?_); refine Qf rfl rfl rfl (Qn rfl rfl ?_); refine Qf rfl rfl rfl (Za rfl rfl rfl ?_)
   rw [decide_eq_false (fun h => hp0 (List.eq_nil_of_length_eq_zero (by omega)))]
   refine Qf rfl rfl rfl (Qb rfl rfl ?_); refine Ql rfl rfl rfl rfl ?_; refine Ql rfl rfl rfl rfl ?_; refine Ql rfl rfl rfl rfl ?_; refine Qf rfl rfl rfl ?_; refine Qx rfl rfl rfl rfl ?_; refine Qx rfl rfl rfl rfl (Qi (Qc (Qr rfl (Q2 (Zm ?_))))); refine Qg rfl rfl (Qk 1 0 rfl rfl rfl rfl rfl ?_); refine Qs (clone_ints (by omega) hvp) ⟨rfl, trivial⟩ rfl ?_
   rintro v3 _ H2 ⟨sg3, rfl, hrow3, hle2⟩
   have hL := Le.trans hL hle2; have hvp := rd.mono hle2 hvp; have hx := RdL.mono hle2 hx
   refine Zy (fun H11 hle hz_rowp => ?_)
   have hL := Le.trans hL hle; have hvp := rd.mono hle hvp; have hx := RdL.mono hle hx
   have hvp3 : rd H11 (.s 1 (ints e.path)) v3 := by simpa [ints] using rd.ofRow hrow3 hz_rowp (RdL.vals _) (Le.refl _)
   refine Q8 [(1, [_])] ⟨rfl, ⟨_, rfl, one_cells hrow3.one⟩, trivial⟩ rfl rfl ?_
   refine Zc rfl ?_; intro g6; refine Qq 0 0 (c' := #[_, _, _, _]) (own' := [(_, .cells #[_, _, _, _] _ _)] :: _) rfl rfl rfl rfl rfl ⟨rfl, hrow3.one, rfl, rfl, trivial⟩ (by simp) rfl rfl rfl (Qi (Qc (Qj (Qj (Qh ?_))))); refine Qg rfl rfl (Qk 2 0 rfl rfl rfl rfl rfl (Za rfl rfl rfl ?_))
   rw [decide_eq_false (by omega)]
   refine Qi (Qc (Qr rfl (Q2 (Zm (Qg rfl rfl ?_))))); refine Qk 2 0 rfl rfl rfl rfl rfl (Qn rfl rfl ?_); refine Zu rfl rfl rfl ⟨by omega, by omega⟩ (Qe rfl rfl (Qi (Qc (Qj ?_))))
   refine Z2 4 [3, 0, 1, 2] rfl (fun o ho => ?_)
   simp only [K.sel, nrm] at ho; subst ho
   have hxl : e.path[e.path.length - 1]? = some (e.path.getLastD 0) := by
     rw [List.getLastD_eq_getLast?, ← List.getLast?_eq_getElem?]
     cases h : e.path.getLast? with
     | none => simp at h; exact absurd h hp0
     | some y => rfl
   obtain ⟨b2, q2, rfl, hlast⟩ := vals_at hvp (i := e.path.length - 1) (u := .int .i64 (e.path.getLastD 0)) (by simp [hxl])
   have hpos := List.length_pos_iff.2 hp0
   obtain ⟨rfl, xs, sr, skk, hrow, hperm, hol⟩ := hsk.open
   simp only [Tr.lab, Tr.kids] at hrow hol hj0
   obtain ⟨A9, c9, rfl, hc91, hc92⟩ := hrow.sl
   have hQ : ((g0, Obj.cells #[v0, v1] 26 (0, 0)) :: S).Perm [sr, skk, [(g, .cells cur 26 (0, 0))], rest].flatten := by
     refine hpm.trans ?_
     simp only [List.flatten_cons, List.flatten_nil, List.append_nil, List.cons_append, List.nil_append]
     rw [← List.append_assoc]
     exact (List.Perm.cons _ (hperm.append_right rest)).trans (List.perm_middle (l₁ := sr ++ skk)).symm
   have hcase : e.path.getLastD 0 < 0 ∨ (0 ≤ e.path.getLastD 0 ∧ (ks.length : Int) < e.path.getLastD 0) ∨ (e.path.getLastD 0 = ks.length ∧ e.op = 2) ∨ (e.op = 1 ∧ ∃ kk : Nat, e.path.getLastD 0 = (kk : Int) ∧ kk ≤ ks.length) ∨ (e.op = 2 ∧ ∃ kk : Nat, e.path.getLastD 0 = (kk : Int) ∧ kk < ks.length) := by
     by_cases h1 : e.path.getLastD 0 < 0
     · exact .inl h1
     · obtain ⟨kk, hkk⟩ : ∃ kk : Nat, e.path.getLastD 0 = (kk : Int) := ⟨(e.path.getLastD 0).toNat, (Int.toNat_of_nonneg (by omega)).symm⟩
       by_cases h2 : (ks.length : Int) < e.path.getLastD 0
       · exact .inr (.inl ⟨by omega, h2⟩)
       · by_cases h3 : e.op = 1
         · exact .inr (.inr (.inr (.inl ⟨h3, kk, hkk, by omega⟩)))
         · by_cases h4 : e.path.getLastD 0 = ks.length
           · exact .inr (.inr (.inl ⟨h4, by omega⟩))
           · exact .inr (.inr (.inr (.inr ⟨by omega, kk, hkk, by omega⟩)))
   rcases hcase with hk1 | ⟨hk0, hk1⟩ | ⟨hk1, hk2⟩ | ⟨hk1, kk, hkk, hk2⟩ | ⟨hk1, kk, hkk, hk2⟩
   ·
    refine Q4 12  [(0, _), (1, _), (3, _), (4, _), (5, _), (6, _), (8, _)] follows_mixed ⟨rfl, rfl, rfl, rfl, rfl, rfl, rfl, trivial⟩ ?_; refine Qa (some 61) [] (fun _ _ _ _ hF => Qb rfl rfl (Qd hF)) ?_; refine Qa (some 62) [] (fun _ _ _ _ hF => Qg rfl rfl (Qd hF)) ?_
    refine Qa (some 63) [(1, 0)] (by
     intro H' X F hle; have hL := Le.trans hL hle; intro hF; refine Qk 3 0 rfl rfl rfl rfl rfl ?_
     exact Qd hF) ?_
    refine Qa (some 64) [] (fun _ _ _ _ hF => Qb rfl rfl (Qd hF)) ?_
    refine Q9 (some 65) [(2, 1), (3, 0)] ([]) (fun _ => fun u sg H => rd H (.s 1 (ints e.path.dropLast)) u ∧ sg = []) (by
     intro H' X F hle; have hL := Le.trans hL hle; have hvp := rd.mono hle hvp; intro hF; refine Z3 (0) (e.path.length - 1) rfl rfl ⟨_, _, rfl, rfl⟩ rfl (by simp only [Option.getD_some]; omega) (by omega) (by omega) rfl ?_
     refine Qi ?_
     exact Q7 [] hF (Le.refl _) ⟨by
       have h := rd.cut hvp (l := 0) (r := e.path.length - 1) (by omega) (by omega)
       rw [show ((ints e.path).drop (0 * 1)).take ((e.path.length - 1 - 0) * 1) = ints e.path.dropLast from by simp [ints, List.dropLast_eq_take]] at h
       exact h, rfl⟩) ?_
    refine Qa (some 66) [(0, 4), (4, 0)] (by
     intro H' X F hle; have hL := Le.trans hL hle; intro _
     rintro v65 _ Hi hle65 ⟨hv65, rfl⟩
     replace hv65 := rd.mono hle65 hv65
     intro hF; refine Qs (find_some hs (by simp; omega) hT (.refl _) hv65 hadr) ⟨rfl, rfl, trivial⟩ rfl ?_
     rintro _ _ H2 ⟨rfl, rfl, hle2⟩
     refine Qi ?_
     exact Q7 [] hF hle2 ⟨rfl, rfl⟩) ?_
    refine Qa (some 67) [] (fun _ _ _ _ hF => Qg rfl rfl (Qd hF)) ?_
    refine Qa (some 68) [(6, 0)] (by
     intro H' X F hle; have hL := Le.trans hL hle; intro hF; refine Qk 3 0 rfl rfl rfl rfl rfl ?_
     exact Qd hF) ?_
    refine Qa (some 69) [] (fun _ _ _ _ hF => Qb rfl rfl (Qd hF)) ?_; refine Qa (some 70) [(7, 1), (8, 0)] (fun _ _ _ _ hF => Qo (e.path.length - 1) rfl rfl (by omega) (by omega) rfl (Qd hF)) ?_
    refine Qa (some 71) [(9, 0)] (by
     intro H' X F hle; have hL := Le.trans hL hle; have hlast := cel_le hle hlast; intro hF; refine Qp rfl (hlast) rfl ?_
     exact Qd hF) ?_
    refine Qa (some 9) [(5, 5)] (fun _ _ _ _ hF => Qe rfl rfl (Qd hF)) ?_
    refine ⟨by kernel_rfl, .refl _, ?_⟩
    ·
     intro H12 hle
     rintro v65 _ Hi hle65 ⟨hv65, rfl⟩
     have hL := Le.trans hL hle; refine Qw (own' := _ :: _ :: _ :: _ :: own) rfl ?_; refine Zi (env' := [(0, _), (1, _), (3, _), (4, _), (5, _), (6, _), (71, _), (9, _)]) ⟨rfl, rfl, rfl, rfl, rfl, rfl, rfl, rfl, trivial⟩ (Qe rfl rfl (Qi (Qc (Qj (Qj ?_))))); refine TC.flat (flatQ (L := [sr, skk, [(g, .cells cur 26 (0, 0))], rest]) hQ) ?_; refine TC.toOwn (own' := sr :: skk :: [(g, .cells cur 26 (0, 0))] :: rest :: _) rfl (Qh (Qb rfl rfl ?_)); refine TL.eqlP Tryz.underlying85 rfl rfl rfl (Qb rfl rfl ?_); refine Qf rfl rfl rfl (Qb rfl rfl ?_); refine Qf rfl rfl rfl (Zl rfl rfl rfl ?_)
     rw [decide_eq_true (by omega)]
     refine Qx rfl rfl rfl rfl (Qb rfl rfl ?_); refine Ql rfl rfl rfl rfl ?_; refine Ql rfl rfl rfl rfl ?_; refine Ql rfl rfl rfl rfl ?_; refine Ql rfl rfl rfl rfl ?_; refine Ql rfl rfl rfl rfl ?_; refine Ql rfl rfl rfl rfl ?_; refine Ql rfl rfl rfl rfl ?_; refine Qz rfl rfl rfl rfl (Qb rfl rfl ?_); refine Ql rfl rfl rfl rfl ?_; refine Ql rfl rfl rfl rfl ?_; refine Ql rfl rfl rfl rfl ?_; refine Ql rfl rfl rfl rfl ?_; refine Ql rfl rfl rfl rfl ?_; refine Ql rfl rfl rfl rfl ?_; refine Ql rfl rfl rfl rfl ?_; refine Ql rfl rfl rfl rfl ?_; refine Zk rfl rfl rfl ?_; refine Zk rfl rfl rfl ?_; refine Zk rfl rfl rfl ?_; refine Ql rfl rfl rfl rfl ?_; refine Qz rfl rfl rfl rfl (Qi (Qc (Qv rfl (Qj ?_))))
     refine Qh ?_; refine Q8 [] trivial rfl rfl ?_; refine Qq 5 0 (c' := #[_, _, _, _]) (own' := _ :: _ :: _ :: _ :: _ :: [(_, .cells #[_, _, _, _] _ _)] :: _) rfl rfl rfl rfl rfl ⟨rfl, rfl, rfl, rfl, trivial⟩ (by simp) rfl rfl rfl (Qe rfl rfl (Qi (Qc (Qy (Q0 ?_)))))
     refine Zj 7 [5, 0, 1, 2, 3] rfl (fun o ho => ?_)
     simp only [K.sel, nrm] at ho; subst ho
     refine TQ.flat (own' := _ :: (((g0, .cells #[v0, v1] 26 (0, 0)) :: S) :: own)) (flatJ1 (L := [sr, skk, [(g, .cells cur 26 (0, 0))], rest]) hQ) ?_; refine Zn (own' := _ :: _ :: own) rfl ?_; refine Zw 0 0 1 [_, _, _, _] rfl rfl rfl rfl rfl ⟨rfl, rfl, rfl, rfl, trivial⟩ rfl rfl ?_
     exact ⟨.inl ⟨_, step_out hop hp0 hs (.inl hk1), rfl, rfl⟩, hL⟩
   ·
    refine Q4 12  [(0, _), (1, _), (3, _), (4, _), (5, _), (6, _), (8, _)] follows_mixed ⟨rfl, rfl, rfl, rfl, rfl, rfl, rfl, trivial⟩ ?_; refine Qa (some 61) [] (fun _ _ _ _ hF => Qb rfl rfl (Qd hF)) ?_; refine Qa (some 62) [] (fun _ _ _ _ hF => Qg rfl rfl (Qd hF)) ?_
    refine Qa (some 63) [(1, 0)] (by
     intro H' X F hle; have hL := Le.trans hL hle; intro hF; refine Qk 3 0 rfl rfl rfl rfl rfl ?_
     exact Qd hF) ?_
    refine Qa (some 64) [] (fun _ _ _ _ hF => Qb rfl rfl (Qd hF)) ?_
    refine Q9 (some 65) [(2, 1), (3, 0)] ([]) (fun _ => fun u sg H => rd H (.s 1 (ints e.path.dropLast)) u ∧ sg = []) (by
     intro H' X F hle; have hL := Le.trans hL hle; have hvp := rd.mono hle hvp; intro hF; refine Z3 (0) (e.path.length - 1) rfl rfl ⟨_, _, rfl, rfl⟩ rfl (by simp only [Option.getD_some]; omega) (by omega) (by omega) rfl ?_
     refine Qi ?_
     exact Q7 [] hF (Le.refl _) ⟨by
       have h := rd.cut hvp (l := 0) (r := e.path.length - 1) (by omega) (by omega)
       rw [show ((ints e.path).drop (0 * 1)).take ((e.path.length - 1 - 0) * 1) = ints e.path.dropLast from by simp [ints, List.dropLast_eq_take]] at h
       exact h, rfl⟩) ?_
    refine Qa (some 66) [(0, 4), (4, 0)] (by
     intro H' X F hle; have hL := Le.trans hL hle; intro _
     rintro v65 _ Hi hle65 ⟨hv65, rfl⟩
     replace hv65 := rd.mono hle65 hv65
     intro hF; refine Qs (find_some hs (by simp; omega) hT (.refl _) hv65 hadr) ⟨rfl, rfl, trivial⟩ rfl ?_
     rintro _ _ H2 ⟨rfl, rfl, hle2⟩
     refine Qi ?_
     exact Q7 [] hF hle2 ⟨rfl, rfl⟩) ?_
    refine Qa (some 67) [] (fun _ _ _ _ hF => Qg rfl rfl (Qd hF)) ?_
    refine Qa (some 68) [(6, 0)] (by
     intro H' X F hle; have hL := Le.trans hL hle; intro hF; refine Qk 3 0 rfl rfl rfl rfl rfl ?_
     exact Qd hF) ?_
    refine Qa (some 69) [] (fun _ _ _ _ hF => Qb rfl rfl (Qd hF)) ?_; refine Qa (some 70) [(7, 1), (8, 0)] (fun _ _ _ _ hF => Qo (e.path.length - 1) rfl rfl (by omega) (by omega) rfl (Qd hF)) ?_
    refine Qa (some 71) [(9, 0)] (by
     intro H' X F hle; have hL := Le.trans hL hle; have hlast := cel_le hle hlast; intro hF; refine Qp rfl (hlast) rfl ?_
     exact Qd hF) ?_
    refine Qa (some 9) [(5, 5)] (fun _ _ _ _ hF => Qe rfl rfl (Qd hF)) ?_
    refine ⟨by kernel_rfl, .refl _, ?_⟩
    ·
     intro H13 hle
     rintro v65 _ Hi hle65 ⟨hv65, rfl⟩
     have hL := Le.trans hL hle; refine Qw (own' := _ :: _ :: _ :: _ :: own) rfl ?_; refine Zi (env' := [(0, _), (1, _), (3, _), (4, _), (5, _), (6, _), (71, _), (9, _)]) ⟨rfl, rfl, rfl, rfl, rfl, rfl, rfl, rfl, trivial⟩ (Qe rfl rfl (Qi (Qc (Qj (Qj ?_))))); refine TC.flat (flatQ (L := [sr, skk, [(g, .cells cur 26 (0, 0))], rest]) hQ) ?_; refine TC.toOwn (own' := sr :: skk :: [(g, .cells cur 26 (0, 0))] :: rest :: _) rfl (Qh (Qb rfl rfl ?_)); refine TL.eqlP Tryz.underlying85 rfl rfl rfl (Qb rfl rfl ?_); refine Qf rfl rfl rfl (Qb rfl rfl ?_); refine Qf rfl rfl rfl (Zl rfl rfl rfl ?_)
     rw [decide_eq_false (by omega)]
     refine Qx rfl rfl rfl rfl (Qb rfl rfl ?_); refine Qf rfl rfl rfl (Qb rfl rfl ?_); refine Qf rfl rfl rfl (Qb rfl rfl ?_); refine Qf rfl rfl rfl (Qt rfl rfl ?_); refine Qf rfl rfl rfl (Qg rfl rfl ?_); refine Qf rfl rfl rfl ?_; refine Qk 2 0 rfl rfl rfl (by rw [lget_arr]; exact hj1) rfl ?_
     refine Qf rfl rfl rfl (Qn rfl rfl ?_); refine Qf rfl rfl rfl (TL.gtr rfl rfl rfl ?_)
     rw [decide_eq_true (by omega)]
     refine Qx rfl rfl rfl rfl (Qb rfl rfl ?_); refine Ql rfl rfl rfl rfl ?_; refine Ql rfl rfl rfl rfl ?_; refine Ql rfl rfl rfl rfl ?_; refine Ql rfl rfl rfl rfl ?_; refine Ql rfl rfl rfl rfl ?_; refine Ql rfl rfl rfl rfl ?_; refine Ql rfl rfl rfl rfl ?_; refine Ql rfl rfl rfl rfl ?_; refine Zk rfl rfl rfl ?_; refine Zk rfl rfl rfl ?_; refine Zk rfl rfl rfl ?_; refine Ql rfl rfl rfl rfl ?_; refine Qz rfl rfl rfl rfl (Qi (Qc (Qv rfl (Qj (Qh ?_))))); refine Q8 [] trivial rfl rfl ?_; refine Qq 5 0 (c' := #[_, _, _, _]) (own' := _ :: _ :: _ :: _ :: _ :: [(_, .cells #[_, _, _, _] _ _)] :: _) rfl rfl rfl rfl rfl ⟨rfl, rfl, rfl, rfl, trivial⟩ (by simp) rfl rfl rfl (Qe rfl rfl (Qi ?_))
     refine Qc (Qy (Q0 ?_))
     refine Zj 7 [5, 0, 1, 2, 3] rfl (fun o ho => ?_)
     simp only [K.sel, nrm] at ho; subst ho
     refine TQ.flat (own' := _ :: (((g0, .cells #[v0, v1] 26 (0, 0)) :: S) :: own)) (flatJ1 (L := [sr, skk, [(g, .cells cur 26 (0, 0))], rest]) hQ) ?_; refine Zn (own' := _ :: _ :: own) rfl ?_; refine Zw 0 0 1 [_, _, _, _] rfl rfl rfl rfl rfl ⟨rfl, rfl, rfl, rfl, trivial⟩ rfl rfl ?_
     exact ⟨.inl ⟨_, step_out hop hp0 hs (.inr (.inl hk1)), rfl, rfl⟩, hL⟩
   ·
    refine Q4 12  [(0, _), (1, _), (3, _), (4, _), (5, _), (6, _), (8, _)] follows_mixed ⟨rfl, rfl, rfl, rfl, rfl, rfl, rfl, trivial⟩ ?_; refine Qa (some 61) [] (fun _ _ _ _ hF => Qb rfl rfl (Qd hF)) ?_; refine Qa (some 62) [] (fun _ _ _ _ hF => Qg rfl rfl (Qd hF)) ?_
    refine Qa (some 63) [(1, 0)] (by
     intro H' X F hle; have hL := Le.trans hL hle; intro hF; refine Qk 3 0 rfl rfl rfl rfl rfl ?_
     exact Qd hF) ?_
    refine Qa (some 64) [] (fun _ _ _ _ hF => Qb rfl rfl (Qd hF)) ?_
    refine Q9 (some 65) [(2, 1), (3, 0)] ([]) (fun _ => fun u sg H => rd H (.s 1 (ints e.path.dropLast)) u ∧ sg = []) (by
     intro H' X F hle; have hL := Le.trans hL hle; have hvp := rd.mono hle hvp; intro hF; refine Z3 (0) (e.path.length - 1) rfl rfl ⟨_, _, rfl, rfl⟩ rfl (by simp only [Option.getD_some]; omega) (by omega) (by omega) rfl ?_
     refine Qi ?_
     exact Q7 [] hF (Le.refl _) ⟨by
       have h := rd.cut hvp (l := 0) (r := e.path.length - 1) (by omega) (by omega)
       rw [show ((ints e.path).drop (0 * 1)).take ((e.path.length - 1 - 0) * 1) = ints e.path.dropLast from by simp [ints, List.dropLast_eq_take]] at h
       exact h, rfl⟩) ?_
    refine Qa (some 66) [(0, 4), (4, 0)] (by
     intro H' X F hle; have hL := Le.trans hL hle; intro _
     rintro v65 _ Hi hle65 ⟨hv65, rfl⟩
     replace hv65 := rd.mono hle65 hv65
     intro hF; refine Qs (find_some hs (by simp; omega) hT (.refl _) hv65 hadr) ⟨rfl, rfl, trivial⟩ rfl ?_
     rintro _ _ H2 ⟨rfl, rfl, hle2⟩
     refine Qi ?_
     exact Q7 [] hF hle2 ⟨rfl, rfl⟩) ?_
    refine Qa (some 67) [] (fun _ _ _ _ hF => Qg rfl rfl (Qd hF)) ?_
    refine Qa (some 68) [(6, 0)] (by
     intro H' X F hle; have hL := Le.trans hL hle; intro hF; refine Qk 3 0 rfl rfl rfl rfl rfl ?_
     exact Qd hF) ?_
    refine Qa (some 69) [] (fun _ _ _ _ hF => Qb rfl rfl (Qd hF)) ?_; refine Qa (some 70) [(7, 1), (8, 0)] (fun _ _ _ _ hF => Qo (e.path.length - 1) rfl rfl (by omega) (by omega) rfl (Qd hF)) ?_
    refine Qa (some 71) [(9, 0)] (by
     intro H' X F hle; have hL := Le.trans hL hle; have hlast := cel_le hle hlast; intro hF; refine Qp rfl (hlast) rfl ?_
     exact Qd hF) ?_
    refine Qa (some 9) [(5, 5)] (fun _ _ _ _ hF => Qe rfl rfl (Qd hF)) ?_
    refine ⟨by kernel_rfl, .refl _, ?_⟩
    ·
     intro H14 hle
     rintro v65 _ Hi hle65 ⟨hv65, rfl⟩
     have hL := Le.trans hL hle; refine Qw (own' := _ :: _ :: _ :: _ :: own) rfl ?_; refine Zi (env' := [(0, _), (1, _), (3, _), (4, _), (5, _), (6, _), (71, _), (9, _)]) ⟨rfl, rfl, rfl, rfl, rfl, rfl, rfl, rfl, trivial⟩ (Qe rfl rfl (Qi (Qc (Qj (Qj ?_))))); refine TC.flat (flatQ (L := [sr, skk, [(g, .cells cur 26 (0, 0))], rest]) hQ) ?_; refine TC.toOwn (own' := sr :: skk :: [(g, .cells cur 26 (0, 0))] :: rest :: _) rfl (Qh (Qb rfl rfl ?_)); refine TL.eqlP Tryz.underlying85 rfl rfl rfl (Qb rfl rfl ?_); refine Qf rfl rfl rfl (Qb rfl rfl ?_); refine Qf rfl rfl rfl (Zl rfl rfl rfl ?_)
     rw [decide_eq_false (by omega)]
     refine Qx rfl rfl rfl rfl (Qb rfl rfl ?_); refine Qf rfl rfl rfl (Qb rfl rfl ?_); refine Qf rfl rfl rfl (Qb rfl rfl ?_); refine Qf rfl rfl rfl (Qt rfl rfl ?_); refine Qf rfl rfl rfl (Qg rfl rfl ?_); refine Qf rfl rfl rfl ?_; refine Qk 2 0 rfl rfl rfl (by rw [lget_arr]; exact hj1) rfl ?_
     refine Qf rfl rfl rfl (Qn rfl rfl ?_); refine Qf rfl rfl rfl (TL.gtr rfl rfl rfl ?_)
     rw [decide_eq_false (by omega)]
     refine Qx rfl rfl rfl rfl (Qb rfl rfl ?_); refine Qf rfl rfl rfl (Qb rfl rfl ?_); refine Qf rfl rfl rfl (Qb rfl rfl ?_); refine Qf rfl rfl rfl (Qt rfl rfl ?_); refine Qf rfl rfl rfl (Qg rfl rfl ?_); refine Qf rfl rfl rfl ?_; refine Qk 2 0 rfl rfl rfl (by rw [lget_arr]; exact hj1) rfl ?_
     refine Qf rfl rfl rfl (Qn rfl rfl ?_); refine Qf rfl rfl rfl (Za rfl rfl rfl ?_)
     rw [decide_eq_true (by omega)]
     refine Qf rfl rfl rfl (Qb rfl rfl ?_); refine Qf rfl rfl rfl (Qg rfl rfl ?_); refine Qf rfl rfl rfl (Qk 6 0 rfl rfl rfl rfl rfl ?_); refine Qf rfl rfl rfl (Za rfl rfl rfl ?_)
     rw [decide_eq_true (by omega)]
     refine Qf rfl rfl rfl ?_; refine Qz rfl rfl rfl rfl ?_; refine Qx rfl rfl rfl rfl (Qi (Qc (Qv rfl (Qj (Qh ?_))))); refine Q8 [] trivial rfl rfl ?_; refine Qq 5 0 (c' := #[_, _, _, _]) (own' := _ :: _ :: _ :: _ :: _ :: [(_, .cells #[_, _, _, _] _ _)] :: _) rfl rfl rfl rfl rfl ⟨rfl, rfl, rfl, rfl, trivial⟩ (by simp) rfl rfl rfl (Qe rfl rfl (Qi (Qc (Qy (Q0 ?_)))))
     refine Zj 7 [5, 0, 1, 2, 3] rfl (fun o ho => ?_)
     simp only [K.sel, nrm] at ho; subst ho
     refine TQ.flat (own' := _ :: (((g0, .cells #[v0, v1] 26 (0, 0)) :: S) :: own)) (flatJ1 (L := [sr, skk, [(g, .cells cur 26 (0, 0))], rest]) hQ) ?_; refine Zn (own' := _ :: _ :: own) rfl ?_; refine Zw 0 0 1 [_, _, _, _] rfl rfl rfl rfl rfl ⟨rfl, rfl, rfl, rfl, trivial⟩ rfl rfl ?_
     exact ⟨.inl ⟨_, step_out hop hp0 hs (.inr (.inr ⟨hk1, hk2⟩)), rfl, rfl⟩, hL⟩
   ·
    have hkt : (e.path.getLastD 0).toNat = kk := by omega
    rw [hkk] at hlast
    refine Q4 12  [(0, _), (1, _), (3, _), (4, _), (5, _), (6, _), (8, _)] follows_mixed ⟨rfl, rfl, rfl, rfl, rfl, rfl, rfl, trivial⟩ ?_; refine Qa (some 61) [] (fun _ _ _ _ hF => Qb rfl rfl (Qd hF)) ?_; refine Qa (some 62) [] (fun _ _ _ _ hF => Qg rfl rfl (Qd hF)) ?_
    refine Qa (some 63) [(1, 0)] (by
     intro H' X F hle; have hL := Le.trans hL hle; intro hF; refine Qk 3 0 rfl rfl rfl rfl rfl ?_
     exact Qd hF) ?_
    refine Qa (some 64) [] (fun _ _ _ _ hF => Qb rfl rfl (Qd hF)) ?_
    refine Q9 (some 65) [(2, 1), (3, 0)] ([]) (fun _ => fun u sg H => rd H (.s 1 (ints e.path.dropLast)) u ∧ sg = []) (by
     intro H' X F hle; have hL := Le.trans hL hle; have hvp := rd.mono hle hvp; intro hF; refine Z3 (0) (e.path.length - 1) rfl rfl ⟨_, _, rfl, rfl⟩ rfl (by simp only [Option.getD_some]; omega) (by omega) (by omega) rfl ?_
     refine Qi ?_
     exact Q7 [] hF (Le.refl _) ⟨by
       have h := rd.cut hvp (l := 0) (r := e.path.length - 1) (by omega) (by omega)
       rw [show ((ints e.path).drop (0 * 1)).take ((e.path.length - 1 - 0) * 1) = ints e.path.dropLast from by simp [ints, List.dropLast_eq_take]] at h
       exact h, rfl⟩) ?_
    refine Qa (some 66) [(0, 4), (4, 0)] (by
     intro H' X F hle; have hL := Le.trans hL hle; intro _
     rintro v65 _ Hi hle65 ⟨hv65, rfl⟩
     replace hv65 := rd.mono hle65 hv65
     intro hF; refine Qs (find_some hs (by simp; omega) hT (.refl _) hv65 hadr) ⟨rfl, rfl, trivial⟩ rfl ?_
     rintro _ _ H2 ⟨rfl, rfl, hle2⟩
     refine Qi ?_
     exact Q7 [] hF hle2 ⟨rfl, rfl⟩) ?_
    refine Qa (some 67) [] (fun _ _ _ _ hF => Qg rfl rfl (Qd hF)) ?_
    refine Qa (some 68) [(6, 0)] (by
     intro H' X F hle; have hL := Le.trans hL hle; intro hF; refine Qk 3 0 rfl rfl rfl rfl rfl ?_
     exact Qd hF) ?_
    refine Qa (some 69) [] (fun _ _ _ _ hF => Qb rfl rfl (Qd hF)) ?_; refine Qa (some 70) [(7, 1), (8, 0)] (fun _ _ _ _ hF => Qo (e.path.length - 1) rfl rfl (by omega) (by omega) rfl (Qd hF)) ?_
    refine Qa (some 71) [(9, 0)] (by
     intro H' X F hle; have hL := Le.trans hL hle; have hlast := cel_le hle hlast; intro hF; refine Qp rfl (hlast) rfl ?_
     exact Qd hF) ?_
    refine Qa (some 9) [(5, 5)] (fun _ _ _ _ hF => Qe rfl rfl (Qd hF)) ?_
    refine ⟨by kernel_rfl, .refl _, ?_⟩
    ·
     intro H15 hle
     rintro v65 _ Hi hle65 ⟨hv65, rfl⟩
     have hL := Le.trans hL hle; have hx := RdL.mono hle hx; have hvp3 := rd.mono hle hvp3; refine Qw (own' := _ :: _ :: _ :: _ :: own) rfl ?_; refine Zi (env' := [(0, _), (1, _), (3, _), (4, _), (5, _), (6, _), (71, _), (9, _)]) ⟨rfl, rfl, rfl, rfl, rfl, rfl, rfl, rfl, trivial⟩ (Qe rfl rfl (Qi (Qc (Qj (Qj ?_))))); refine TC.flat (flatQ (L := [sr, skk, [(g, .cells cur 26 (0, 0))], rest]) hQ) ?_; refine TC.toOwn (own' := sr :: skk :: [(g, .cells cur 26 (0, 0))] :: rest :: _) rfl (Qh (Qb rfl rfl ?_)); refine TL.eqlP Tryz.underlying85 rfl rfl rfl (Qb rfl rfl ?_); refine Qf rfl rfl rfl (Qb rfl rfl ?_); refine Qf rfl rfl rfl (Zl rfl rfl rfl ?_)
     rw [decide_eq_false (by omega)]
     refine Qx rfl rfl rfl rfl (Qb rfl rfl ?_); refine Qf rfl rfl rfl (Qb rfl rfl ?_); refine Qf rfl rfl rfl (Qb rfl rfl ?_); refine Qf rfl rfl rfl (Qt rfl rfl ?_); refine Qf rfl rfl rfl (Qg rfl rfl ?_); refine Qf rfl rfl rfl ?_; refine Qk 2 0 rfl rfl rfl (by rw [lget_arr]; exact hj1) rfl ?_
     refine Qf rfl rfl rfl (Qn rfl rfl ?_); refine Qf rfl rfl rfl (TL.gtr rfl rfl rfl ?_)
     rw [decide_eq_false (by omega)]
     refine Qx rfl rfl rfl rfl (Qb rfl rfl ?_); refine Qf rfl rfl rfl (Qb rfl rfl ?_); refine Qf rfl rfl rfl (Qb rfl rfl ?_); refine Qf rfl rfl rfl (Qt rfl rfl ?_); refine Qf rfl rfl rfl (Qg rfl rfl ?_); refine Qf rfl rfl rfl ?_; refine Qk 2 0 rfl rfl rfl (by rw [lget_arr]; exact hj1) rfl ?_
     refine Qf rfl rfl rfl (Qn rfl rfl ?_); refine Qf rfl rfl rfl ?_
     refine TL.eqlB rfl rfl rfl (fun hke => ?_) (fun hke => ?_)
     ·
      refine Qf rfl rfl rfl (Qb rfl rfl ?_); refine Qf rfl rfl rfl (Qg rfl rfl ?_); refine Qf rfl rfl rfl (Qk 6 0 rfl rfl rfl rfl rfl ?_); refine Qf rfl rfl rfl (Za rfl rfl rfl ?_)
      rw [decide_eq_false (by omega)]
      refine Qf rfl rfl rfl ?_; refine Qz rfl rfl rfl rfl ?_; refine Qx rfl rfl rfl rfl (Qi (Qc (Qr rfl (Q2 (Qc ?_))))); refine Qj (Qj (Qh (Qg rfl rfl (Qk 6 0 rfl rfl rfl rfl rfl (Za rfl rfl rfl ?_)))))
      rw [decide_eq_true hk1]
      refine Qi (Qc (Qv rfl (Qj ?_))); refine TC.drawCV 11  [(0, _), (1, _), (3, _), (4, _), (5, _), (6, _), (9, _), (10, _)] follows_mixed ⟨rfl, rfl, rfl, rfl, rfl, rfl, rfl, rfl, trivial⟩ ?_; refine Qa (some 105) [] (fun _ _ _ _ hF => Qb rfl rfl (Qd hF)) ?_; refine Qa (some 106) [] (fun _ _ _ _ hF => Qb rfl rfl (Qd hF)) ?_; refine Qa (some 107) [(1, 0)] (fun _ _ _ _ hF => Qt rfl rfl (Qd hF)) ?_; refine Qa (some 108) [(2, 0)] (fun _ _ _ _ hF => Qg rfl rfl (Qd hF)) ?_
      refine Qa (some 109) [(3, 0)] (by
       intro H' X F hle; have hL := Le.trans hL hle; intro hF; refine Qk 1 0 rfl rfl rfl (by rw [lget_arr]; exact hj1) rfl ?_
       exact Qd hF) ?_
      refine Qa (some 110) [] (fun _ _ _ _ hF => Qb rfl rfl (Qd hF)) ?_; refine Qa (some 111) [] (fun _ _ _ _ hF => Qg rfl rfl (Qd hF)) ?_
      refine Qa (some 112) [(6, 0)] (by
       intro H' X F hle; have hL := Le.trans hL hle; intro hF; refine Qm 5 0 [_, _] rfl rfl rfl ⟨rfl, rfl, trivial⟩ rfl rfl ?_
       exact Qd hF) ?_
      refine Z5 true [] (some 113) [(7, 0)] ([]) (fun _ => fun u sg H => ∃ d0 d1 sgk, u = .agg #[d0, d1] ∧ ownT e.tree d0 d1 sgk ∧ sg = [sgk]) (by
       intro H' X F hle; have hL := Le.trans hL hle; have hx := RdL.mono hle hx; intro hF; refine Qs (diff_cloneO _ e.tree (Nat.le_refl _) (by omega) hx) ⟨rfl, trivial⟩ rfl ?_
       rintro _ _ H4 ⟨d0, d1, sgk, rfl, hsgk, rfl, hle4⟩
       have hL := Le.trans hL hle4; refine Qi ?_
       exact Q7 [_] hF hle4 ⟨_, _, _, rfl, hsgk, rfl⟩) ?_
      refine Z5 true [8] (some 114) [(8, 0)] ([]) (fun _ => fun u sg H => ∃ g d0 d1 sgk, u = .slice (some ⟨g, 0, none⟩) 1 1 ∧ ownT e.tree d0 d1 sgk ∧ sg = [[(g, .cells #[d0, d1] 26 (0, 0))], sgk]) (by
       intro H' X F hle; have hL := Le.trans hL hle; intro _
       rintro _ _ Hi hle113 ⟨d0, d1, sgk, rfl, hsgk, rfl⟩
       intro hF; refine Qw (own' := _ :: _) rfl ?_
       refine Zg (r := [_, _]) [(0, [_, _])] ⟨rfl, ⟨_, rfl, rfl⟩, trivial⟩ rfl rfl rfl rfl ?_; intro g114; refine Qi ?_
       exact Q7 [_, _] hF (Le.refl _) ⟨_, _, _, _, rfl, hsgk, rfl⟩) ?_
      refine Z5 false [9] (some 115) [(4, 5), (5, 4), (9, 0)] ([sr]) (fun _ => fun u sg H => ∃ d0 d1 sgk seg9, ownT e.tree d0 d1 sgk ∧ Row 26 2 u (ks.length + 1) (xs.take (kk * 2) ++ [d0, d1] ++ xs.drop (kk * 2)) seg9 ∧ sg = [seg9, sgk]) (by
       intro H' X F hle; have hL := Le.trans hL hle; intro _
       rintro _ _ Hi hle114 ⟨gv, d0, d1, sgk, rfl, hsgk, rfl⟩
       intro hF; refine Qw (own' := _ :: _ :: _) rfl ?_
       refine TL.sel 3 [2, 0, 1] rfl (fun o ho => ?_)
       simp only [K.sel, nrm] at ho; subst ho
       refine Qs (insert_row hk2 (by omega) hrow (ownT.ones hsgk) (fun u hu => ownL.ones hol u (List.mem_of_mem_drop hu))) ⟨rfl, rfl, rfl, trivial⟩ rfl ?_
       rintro v9 _ H5 ⟨seg9, hrow9, rfl, hle5⟩
       have hL := Le.trans hL hle5; refine Qi ?_
       exact Q7 [_, _] hF hle5 ⟨_, _, _, _, hsgk, hrow9, rfl⟩) ?_
      refine ⟨by kernel_rfl, .refl _, ?_⟩
      ·
       intro H16 hle
       rintro _ _ Hi hle113 ⟨d0, d1, sgk, rfl, hsgk, rfl⟩
       rintro _ _ Hi hle114 ⟨gv, d0, d1, sgk, rfl, hsgk, rfl⟩
       rintro v115 _ Hi hle115 ⟨d0, d1, sgk, seg9, hsgk, hrow9, rfl⟩
       have hL := Le.trans hL hle; have hvp3 := rd.mono hle hvp3; refine Qw (own' := _ :: _ :: _ :: _ :: _ :: _ :: _ :: _ :: own) rfl ?_; refine Zi (env' := [(0, _), (1, _), (3, _), (4, _), (5, _), (6, _), (9, _), (10, _), (105, _), (115, _)]) ⟨rfl, rfl, rfl, rfl, rfl, rfl, rfl, rfl, rfl, rfl, trivial⟩ (Qt rfl rfl (Qg rfl rfl ?_)); refine Zq 3 0 (c' := cur.setIfInBounds (j * 2 + 1) v115) (own' := _ :: _ :: _ :: [(g, .cells (cur.setIfInBounds (j * 2 + 1) v115) 26 (0, 0))] :: _ :: _ :: _ :: _ :: own) rfl rfl rfl rfl hrow9.one (by omega) rfl rfl rfl (Q3 (Qg rfl rfl ?_)); refine Zq 5 0 (c' := #[_, _, _, _]) (own' := _ :: _ :: _ :: _ :: _ :: [(_, .cells #[_, _, _, _] _ _)] :: _) rfl rfl rfl rfl rfl (by simp) rfl rfl rfl (Q3 ?_)
       refine Qm 5 0 [_, _, _, _] rfl rfl rfl ⟨rfl, rfl, rfl, rfl, trivial⟩ rfl rfl ?_; refine Qq 6 0 (c' := #[_, _, _, _]) (own' := _ :: _ :: _ :: _ :: _ :: _ :: [(_, .cells #[_, _, _, _] _ _)] :: _) rfl rfl rfl rfl rfl ⟨rfl, hrow3.one, rfl, rfl, trivial⟩ (by simp) rfl rfl rfl (Qe rfl rfl (Qi (Qc (Qy (Q0 ?_)))))
       refine Zj 8 [6, 0, 1, 2, 3, 4] rfl (fun o ho => ?_)
       simp only [K.sel, nrm] at ho; subst ho
       have hnode : ownT (insT (.node l ks) kk e.tree) (.string l) v115 (seg9 ++ (skk ++ sgk)) := .mk ⟨rfl, _, seg9, skk ++ sgk, by
         simp only [insT, Tr.kids]
         rw [show (ks.take kk ++ [e.tree] ++ ks.drop kk).length = ks.length + 1 by simp; omega]; exact hrow9, .refl _, hol.put1 hk2 hsgk⟩
       obtain ⟨u0, u1, S9, hU, hp9' ⟩ := hput _ _ _ _ hnode
       rw [setIf_same hj0] at hp9'
       refine TQ.flat (own' := _ :: (((g0, .cells #[u0, u1] 26 (0, 0)) :: S9) :: own)) (flatJ1 (L := [seg9, sgk, skk, [(g, .cells (cur.setIfInBounds (j * 2 + 1) v115) 26 (0, 0))], rest]) ?_) ?_
       · refine hp9'.symm.trans ?_
         simp only [List.flatten_cons, List.flatten_nil, List.append_nil, List.cons_append, List.nil_append, List.append_assoc]
         exact perm_ins _ _ _ _ _
       refine Zn (own' := _ :: _ :: own) rfl ?_; refine Zw 0 0 1 [_, _, _, _] rfl rfl rfl rfl rfl ⟨rfl, rfl, rfl, rfl, trivial⟩ rfl rfl ?_
       exact ⟨.inr ⟨_, _, _, _, _, _, _, _, step_ins hk1 hp0 hs (by simp only [Tr.kids]; omega), rfl, hvp3, zero_rd _, by rw [hkt]; exact hU, rfl⟩, hL⟩
     ·
      refine Qf rfl rfl rfl (Qb rfl rfl ?_); refine Ql rfl rfl rfl rfl ?_; refine Ql rfl rfl rfl rfl ?_; refine Ql rfl rfl rfl rfl ?_; refine Qf rfl rfl rfl ?_; refine Qx rfl rfl rfl rfl ?_; refine Qx rfl rfl rfl rfl (Qi (Qc (Qr rfl (Q2 (Qc ?_))))); refine Qj (Qj (Qh (Qg rfl rfl (Qk 6 0 rfl rfl rfl rfl rfl (Za rfl rfl rfl ?_)))))
      rw [decide_eq_true hk1]
      refine Qi (Qc (Qv rfl (Qj ?_))); refine TC.drawCV 11  [(0, _), (1, _), (3, _), (4, _), (5, _), (6, _), (9, _), (10, _)] follows_mixed ⟨rfl, rfl, rfl, rfl, rfl, rfl, rfl, rfl, trivial⟩ ?_; refine Qa (some 105) [] (fun _ _ _ _ hF => Qb rfl rfl (Qd hF)) ?_; refine Qa (some 106) [] (fun _ _ _ _ hF => Qb rfl rfl (Qd hF)) ?_; refine Qa (some 107) [(1, 0)] (fun _ _ _ _ hF => Qt rfl rfl (Qd hF)) ?_; refine Qa (some 108) [(2, 0)] (fun _ _ _ _ hF => Qg rfl rfl (Qd hF)) ?_
      refine Qa (some 109) [(3, 0)] (by
       intro H' X F hle; have hL := Le.trans hL hle; intro hF; refine Qk 1 0 rfl rfl rfl (by rw [lget_arr]; exact hj1) rfl ?_
       exact Qd hF) ?_
      refine Qa (some 110) [] (fun _ _ _ _ hF => Qb rfl rfl (Qd hF)) ?_; refine Qa (some 111) [] (fun _ _ _ _ hF => Qg rfl rfl (Qd hF)) ?_
      refine Qa (some 112) [(6, 0)] (by
       intro H' X F hle; have hL := Le.trans hL hle; intro hF; refine Qm 5 0 [_, _] rfl rfl rfl ⟨rfl, rfl, trivial⟩ rfl rfl ?_
       exact Qd hF) ?_
      refine Z5 true [] (some 113) [(7, 0)] ([]) (fun _ => fun u sg H => ∃ d0 d1 sgk, u = .agg #[d0, d1] ∧ ownT e.tree d0 d1 sgk ∧ sg = [sgk]) (by
       intro H' X F hle; have hL := Le.trans hL hle; have hx := RdL.mono hle hx; intro hF; refine Qs (diff_cloneO _ e.tree (Nat.le_refl _) (by omega) hx) ⟨rfl, trivial⟩ rfl ?_
       rintro _ _ H4 ⟨d0, d1, sgk, rfl, hsgk, rfl, hle4⟩
       have hL := Le.trans hL hle4; refine Qi ?_
       exact Q7 [_] hF hle4 ⟨_, _, _, rfl, hsgk, rfl⟩) ?_
      refine Z5 true [8] (some 114) [(8, 0)] ([]) (fun _ => fun u sg H => ∃ g d0 d1 sgk, u = .slice (some ⟨g, 0, none⟩) 1 1 ∧ ownT e.tree d0 d1 sgk ∧ sg = [[(g, .cells #[d0, d1] 26 (0, 0))], sgk]) (by
       intro H' X F hle; have hL := Le.trans hL hle; intro _
       rintro _ _ Hi hle113 ⟨d0, d1, sgk, rfl, hsgk, rfl⟩
       intro hF; refine Qw (own' := _ :: _) rfl ?_
       refine Zg (r := [_, _]) [(0, [_, _])] ⟨rfl, ⟨_, rfl, rfl⟩, trivial⟩ rfl rfl rfl rfl ?_; intro g114; refine Qi ?_
       exact Q7 [_, _] hF (Le.refl _) ⟨_, _, _, _, rfl, hsgk, rfl⟩) ?_
      refine Z5 false [9] (some 115) [(4, 5), (5, 4), (9, 0)] ([sr]) (fun _ => fun u sg H => ∃ d0 d1 sgk seg9, ownT e.tree d0 d1 sgk ∧ Row 26 2 u (ks.length + 1) (xs.take (kk * 2) ++ [d0, d1] ++ xs.drop (kk * 2)) seg9 ∧ sg = [seg9, sgk]) (by
       intro H' X F hle; have hL := Le.trans hL hle; intro _
       rintro _ _ Hi hle114 ⟨gv, d0, d1, sgk, rfl, hsgk, rfl⟩
       intro hF; refine Qw (own' := _ :: _ :: _) rfl ?_
       refine TL.sel 3 [2, 0, 1] rfl (fun o ho => ?_)
       simp only [K.sel, nrm] at ho; subst ho
       refine Qs (insert_row hk2 (by omega) hrow (ownT.ones hsgk) (fun u hu => ownL.ones hol u (List.mem_of_mem_drop hu))) ⟨rfl, rfl, rfl, trivial⟩ rfl ?_
       rintro v9 _ H5 ⟨seg9, hrow9, rfl, hle5⟩
       have hL := Le.trans hL hle5; refine Qi ?_
       exact Q7 [_, _] hF hle5 ⟨_, _, _, _, hsgk, hrow9, rfl⟩) ?_
      refine ⟨by kernel_rfl, .refl _, ?_⟩
      ·
       intro H17 hle
       rintro _ _ Hi hle113 ⟨d0, d1, sgk, rfl, hsgk, rfl⟩
       rintro _ _ Hi hle114 ⟨gv, d0, d1, sgk, rfl, hsgk, rfl⟩
       rintro v115 _ Hi hle115 ⟨d0, d1, sgk, seg9, hsgk, hrow9, rfl⟩
       have hL := Le.trans hL hle; have hvp3 := rd.mono hle hvp3; refine Qw (own' := _ :: _ :: _ :: _ :: _ :: _ :: _ :: _ :: own) rfl ?_; refine Zi (env' := [(0, _), (1, _), (3, _), (4, _), (5, _), (6, _), (9, _), (10, _), (105, _), (115, _)]) ⟨rfl, rfl, rfl, rfl, rfl, rfl, rfl, rfl, rfl, rfl, trivial⟩ (Qt rfl rfl (Qg rfl rfl ?_)); refine Zq 3 0 (c' := cur.setIfInBounds (j * 2 + 1) v115) (own' := _ :: _ :: _ :: [(g, .cells (cur.setIfInBounds (j * 2 + 1) v115) 26 (0, 0))] :: _ :: _ :: _ :: _ :: own) rfl rfl rfl rfl hrow9.one (by omega) rfl rfl rfl (Q3 (Qg rfl rfl ?_)); refine Zq 5 0 (c' := #[_, _, _, _]) (own' := _ :: _ :: _ :: _ :: _ :: [(_, .cells #[_, _, _, _] _ _)] :: _) rfl rfl rfl rfl rfl (by simp) rfl rfl rfl (Q3 ?_)
       refine Qm 5 0 [_, _, _, _] rfl rfl rfl ⟨rfl, rfl, rfl, rfl, trivial⟩ rfl rfl ?_; refine Qq 6 0 (c' := #[_, _, _, _]) (own' := _ :: _ :: _ :: _ :: _ :: _ :: [(_, .cells #[_, _, _, _] _ _)] :: _) rfl rfl rfl rfl rfl ⟨rfl, hrow3.one, rfl, rfl, trivial⟩ (by simp) rfl rfl rfl (Qe rfl rfl (Qi (Qc (Qy (Q0 ?_)))))
       refine Zj 8 [6, 0, 1, 2, 3, 4] rfl (fun o ho => ?_)
       simp only [K.sel, nrm] at ho; subst ho
       have hnode : ownT (insT (.node l ks) kk e.tree) (.string l) v115 (seg9 ++ (skk ++ sgk)) := .mk ⟨rfl, _, seg9, skk ++ sgk, by
         simp only [insT, Tr.kids]
         rw [show (ks.take kk ++ [e.tree] ++ ks.drop kk).length = ks.length + 1 by simp; omega]; exact hrow9, .refl _, hol.put1 hk2 hsgk⟩
       obtain ⟨u0, u1, S9, hU, hp9' ⟩ := hput _ _ _ _ hnode
       rw [setIf_same hj0] at hp9'
       refine TQ.flat (own' := _ :: (((g0, .cells #[u0, u1] 26 (0, 0)) :: S9) :: own)) (flatJ1 (L := [seg9, sgk, skk, [(g, .cells (cur.setIfInBounds (j * 2 + 1) v115) 26 (0, 0))], rest]) ?_) ?_
       · refine hp9'.symm.trans ?_
         simp only [List.flatten_cons, List.flatten_nil, List.append_nil, List.cons_append, List.nil_append, List.append_assoc]
         exact perm_ins _ _ _ _ _
       refine Zn (own' := _ :: _ :: own) rfl ?_; refine Zw 0 0 1 [_, _, _, _] rfl rfl rfl rfl rfl ⟨rfl, rfl, rfl, rfl, trivial⟩ rfl rfl ?_
       exact ⟨.inr ⟨_, _, _, _, _, _, _, _, step_ins hk1 hp0 hs (by simp only [Tr.kids]; omega), rfl, hvp3, zero_rd _, by rw [hkt]; exact hU, rfl⟩, hL⟩
   ·
    have hkt : (e.path.getLastD 0).toNat = kk := by omega
    rw [hkk] at hlast
    obtain ⟨y, hy⟩ : ∃ y, ks[kk]? = some y := ⟨_, List.getElem?_eq_getElem hk2⟩
    obtain ⟨y0, y1, q1, a, b, he0, he1, hp9, hya, hol2⟩ := hol.cut1 hy
    obtain ⟨gr, cap, cur2, e9, rfl, hcap, hcsz, hget, hset⟩ := hrow.two (i := kk) (by omega)
    injection e9 with ea eb ec
    subst ea; subst ec
    have hQ : ((g0, Obj.cells #[v0, v1] 26 (0, 0)) :: S).Perm [[(gr, .cells cur2 26 (0, 0))], q1 ++ b, a, [(g, .cells cur 26 (0, 0))], rest].flatten := by
      refine hQ.trans ?_
      simp only [List.flatten_cons, List.flatten_nil, List.append_nil, List.cons_append, List.nil_append, List.append_assoc]
      refine List.Perm.cons _ ?_
      have h := hp9.append_right ((g, Obj.cells cur 26 (0, 0)) :: rest)
      refine h.trans ?_
      simp only [List.append_assoc]
      refine List.Perm.append_left q1 ?_
      rw [← List.append_assoc, ← List.append_assoc]
      exact List.perm_append_comm.append_right _
    refine Q4 12  [(0, _), (1, _), (3, _), (4, _), (5, _), (6, _), (8, _)] follows_mixed ⟨rfl, rfl, rfl, rfl, rfl, rfl, rfl, trivial⟩ ?_; refine Qa (some 61) [] (fun _ _ _ _ hF => Qb rfl rfl (Qd hF)) ?_; refine Qa (some 62) [] (fun _ _ _ _ hF => Qg rfl rfl (Qd hF)) ?_
    refine Qa (some 63) [(1, 0)] (by
     intro H' X F hle; have hL := Le.trans hL hle; intro hF; refine Qk 3 0 rfl rfl rfl rfl rfl ?_
     exact Qd hF) ?_
    refine Qa (some 64) [] (fun _ _ _ _ hF => Qb rfl rfl (Qd hF)) ?_
    refine Q9 (some 65) [(2, 1), (3, 0)] ([]) (fun _ => fun u sg H => rd H (.s 1 (ints e.path.dropLast)) u ∧ sg = []) (by
     intro H' X F hle; have hL := Le.trans hL hle; have hvp := rd.mono hle hvp; intro hF; refine Z3 (0) (e.path.length - 1) rfl rfl ⟨_, _, rfl, rfl⟩ rfl (by simp only [Option.getD_some]; omega) (by omega) (by omega) rfl ?_
     refine Qi ?_
     exact Q7 [] hF (Le.refl _) ⟨by
       have h := rd.cut hvp (l := 0) (r := e.path.length - 1) (by omega) (by omega)
       rw [show ((ints e.path).drop (0 * 1)).take ((e.path.length - 1 - 0) * 1) = ints e.path.dropLast from by simp [ints, List.dropLast_eq_take]] at h
       exact h, rfl⟩) ?_
    refine Qa (some 66) [(0, 4), (4, 0)] (by
     intro H' X F hle; have hL := Le.trans hL hle; intro _
     rintro v65 _ Hi hle65 ⟨hv65, rfl⟩
     replace hv65 := rd.mono hle65 hv65
     intro hF; refine Qs (find_some hs (by simp; omega) hT (.refl _) hv65 hadr) ⟨rfl, rfl, trivial⟩ rfl ?_
     rintro _ _ H2 ⟨rfl, rfl, hle2⟩
     refine Qi ?_
     exact Q7 [] hF hle2 ⟨rfl, rfl⟩) ?_
    refine Qa (some 67) [] (fun _ _ _ _ hF => Qg rfl rfl (Qd hF)) ?_
    refine Qa (some 68) [(6, 0)] (by
     intro H' X F hle; have hL := Le.trans hL hle; intro hF; refine Qk 3 0 rfl rfl rfl rfl rfl ?_
     exact Qd hF) ?_
    refine Qa (some 69) [] (fun _ _ _ _ hF => Qb rfl rfl (Qd hF)) ?_; refine Qa (some 70) [(7, 1), (8, 0)] (fun _ _ _ _ hF => Qo (e.path.length - 1) rfl rfl (by omega) (by omega) rfl (Qd hF)) ?_
    refine Qa (some 71) [(9, 0)] (by
     intro H' X F hle; have hL := Le.trans hL hle; have hlast := cel_le hle hlast; intro hF; refine Qp rfl (hlast) rfl ?_
     exact Qd hF) ?_
    refine Qa (some 9) [(5, 5)] (fun _ _ _ _ hF => Qe rfl rfl (Qd hF)) ?_
    refine ⟨by kernel_rfl, .refl _, ?_⟩
    ·
     intro H18 hle
     rintro v65 _ Hi hle65 ⟨hv65, rfl⟩
     have hL := Le.trans hL hle; have hvp3 := rd.mono hle hvp3; refine Qw (own' := _ :: _ :: _ :: _ :: own) rfl ?_; refine Zi (env' := [(0, _), (1, _), (3, _), (4, _), (5, _), (6, _), (71, _), (9, _)]) ⟨rfl, rfl, rfl, rfl, rfl, rfl, rfl, rfl, trivial⟩ (Qe rfl rfl (Qi (Qc (Qj (Qj ?_))))); refine TC.flat (flatQ (L := [[(gr, .cells cur2 26 (0, 0))], q1 ++ b, a, [(g, .cells cur 26 (0, 0))], rest]) hQ) ?_; refine TC.toOwn (own' := [(gr, .cells cur2 26 (0, 0))] :: (q1 ++ b) :: a :: [(g, .cells cur 26 (0, 0))] :: rest :: _) rfl (Qh (Qb rfl rfl ?_)); refine TL.eqlP Tryz.underlying85 rfl rfl rfl (Qb rfl rfl ?_); refine Qf rfl rfl rfl (Qb rfl rfl ?_); refine Qf rfl rfl rfl (Zl rfl rfl rfl ?_)
     rw [decide_eq_false (by omega)]
     refine Qx rfl rfl rfl rfl (Qb rfl rfl ?_); refine Qf rfl rfl rfl (Qb rfl rfl ?_); refine Qf rfl rfl rfl (Qb rfl rfl ?_); refine Qf rfl rfl rfl (Qt rfl rfl ?_); refine Qf rfl rfl rfl (Qg rfl rfl ?_); refine Qf rfl rfl rfl ?_; refine Qk 3 0 rfl rfl rfl (by rw [lget_arr]; exact hj1) rfl ?_
     refine Qf rfl rfl rfl (Qn rfl rfl ?_); refine Qf rfl rfl rfl (TL.gtr rfl rfl rfl ?_)
     rw [decide_eq_false (by omega)]
     refine Qx rfl rfl rfl rfl (Qb rfl rfl ?_); refine Qf rfl rfl rfl (Qb rfl rfl ?_); refine Qf rfl rfl rfl (Qb rfl rfl ?_); refine Qf rfl rfl rfl (Qt rfl rfl ?_); refine Qf rfl rfl rfl (Qg rfl rfl ?_); refine Qf rfl rfl rfl ?_; refine Qk 3 0 rfl rfl rfl (by rw [lget_arr]; exact hj1) rfl ?_
     refine Qf rfl rfl rfl (Qn rfl rfl ?_); refine Qf rfl rfl rfl (Za rfl rfl rfl ?_)
     rw [decide_eq_false (by omega)]
     refine Qf rfl rfl rfl (Qb rfl rfl ?_); refine Ql rfl rfl rfl rfl ?_; refine Ql rfl rfl rfl rfl ?_; refine Ql rfl rfl rfl rfl ?_; refine Qf rfl rfl rfl ?_; refine Qx rfl rfl rfl rfl ?_; refine Qx rfl rfl rfl rfl (Qi (Qc (Qr rfl (Q2 (Qc ?_))))); refine Qj (Qj (Qh (Qg rfl rfl (Qk 7 0 rfl rfl rfl rfl rfl (Za rfl rfl rfl ?_)))))
     rw [decide_eq_false (by omega)]
     refine Qi (Qc (Qr rfl (Q2 (Qc (Qj ?_)))))
     refine Z2 8 [5, 0, 1, 2, 3, 4, 6, 7] rfl (fun o ho => ?_)
     simp only [K.sel, nrm] at ho; subst ho
     refine TC.drawCV 9  [(0, _), (1, _), (3, _), (4, _), (5, _), (6, _), (9, _), (10, _)] follows_mixed ⟨rfl, rfl, rfl, rfl, rfl, rfl, rfl, rfl, trivial⟩ ?_; refine Qa (some 120) [] (fun _ _ _ _ hF => Qb rfl rfl (Qd hF)) ?_; refine Qa (some 121) [(0, 0)] (fun _ _ _ _ hF => Qt rfl rfl (Qd hF)) ?_; refine Qa (some 122) [(1, 0)] (fun _ _ _ _ hF => Qg rfl rfl (Qd hF)) ?_
     refine Qa (some 123) [(2, 0)] (by
      intro H' X F hle; have hL := Le.trans hL hle; intro hF; refine Qk 3 0 rfl rfl rfl (by rw [lget_arr]; exact hj1) rfl ?_
      exact Qd hF) ?_
     refine Qa (some 124) [] (fun _ _ _ _ hF => Qb rfl rfl (Qd hF)) ?_; refine Qa (some 125) [(3, 1), (4, 0)] (fun _ _ _ _ hF => Qo (kk) rfl rfl rfl (by omega) rfl (Qd hF)) ?_
     refine Qa (some 126) [(5, 0)] (by
      intro H' X F hle; have hL := Le.trans hL hle; intro hF; refine Qm 0 0 [_, _] rfl rfl rfl ⟨by rw [lget_arr, Nat.zero_add, hget _ (by omega)]; exact he0, by rw [lget_arr, Nat.zero_add, hget _ (by omega)]; exact he1, trivial⟩ rfl rfl ?_
      exact Qd hF) ?_
     refine Qa (some 127) [] (fun _ _ _ _ hF => Qg rfl rfl (Qd hF)) ?_
     refine Q9 none [(7, 0)] ([[(g6, .cells #[.int .i64 0, v3, .string ⟨#[]⟩, .slice none 0 0] 46 (0, 0))]]) (fun _ => fun u sg H => sg = [[(g6, .cells #[.int .i64 1, v3, .string ⟨#[]⟩, .slice none 0 0] 46 (0, 0))]]) (by
      intro H' X F hle; have hL := Le.trans hL hle; intro hF; refine Zq 0 0 (c' := #[_, _, _, _]) (own' := [(_, .cells #[_, _, _, _] _ _)] :: _) rfl rfl rfl rfl rfl (by simp) rfl rfl rfl (Qi ?_)
      exact Q7 [_] hF (Le.refl _) rfl) ?_
     refine ⟨by kernel_rfl, .refl _, ?_⟩
     ·
      intro H19 hle
      rintro _ _ Hr hler rfl
      have hL := Le.trans hL hle; have hvp3 := rd.mono hle hvp3; refine Qw (own' := _ :: _ :: _ :: _ :: _ :: _ :: _ :: _ :: own) rfl ?_; refine Zi (env' := [(0, _), (1, _), (3, _), (4, _), (5, _), (6, _), (9, _), (10, _), (126, _)]) ⟨rfl, rfl, rfl, rfl, rfl, rfl, rfl, rfl, rfl, trivial⟩ (Qg rfl rfl ?_); refine Qq 0 0 (c' := #[_, _, _, _]) (own' := [(_, .cells #[_, _, _, _] _ _)] :: _) rfl rfl rfl rfl rfl (ownT.ones hya) (by simp) rfl rfl rfl (Q3 (Qb rfl rfl (Qb rfl rfl (Qt rfl rfl (Qg rfl rfl ?_))))); refine Qk 4 0 rfl rfl rfl (by rw [lget_arr]; exact hj1) rfl ?_
      refine Qb rfl rfl (Qb rfl rfl ?_); refine Zb rfl rfl rfl ⟨by omega, by omega⟩ ?_
      refine TL.sel 8 [1, 0, 2, 3, 4, 5, 6, 7] rfl (fun o ho => ?_)
      simp only [K.sel, nrm] at ho; subst ho
      refine Qs (delete_row (i := kk) (by omega) (by omega) hrow (fun u hu => ownL.ones hol u hu)) ⟨rfl, rfl, rfl, trivial⟩ rfl ?_
      rintro v137 _ H5 ⟨seg9, hrow9, rfl, hle5⟩
      have hL := Le.trans hL hle5; have hvp3 := rd.mono hle5 hvp3; refine Qt rfl rfl (Qg rfl rfl ?_); refine Zq 4 0 (c' := cur.setIfInBounds (j * 2 + 1) v137) (own' := _ :: _ :: _ :: _ :: [(g, .cells (cur.setIfInBounds (j * 2 + 1) v137) 26 (0, 0))] :: _ :: _ :: _ :: own) rfl rfl rfl rfl hrow9.one (by omega) rfl rfl rfl (Q3 ?_); refine Qm 1 0 [_, _, _, _] rfl rfl rfl ⟨rfl, rfl, rfl, rfl, trivial⟩ rfl rfl ?_; refine Qq 6 0 (c' := #[_, _, _, _]) (own' := _ :: _ :: _ :: _ :: _ :: _ :: [(_, .cells #[_, _, _, _] _ _)] :: _) rfl rfl rfl rfl rfl ⟨rfl, hrow3.one, (ownT.ones hya).1, (ownT.ones hya).2.1, trivial⟩ (by simp) rfl rfl rfl (Qe rfl rfl (Qi (Qc (Qy ?_))))
      refine Zj 8 [3, 6, 0, 2, 4, 5] rfl (fun o ho => ?_)
      simp only [K.sel, nrm] at ho; subst ho
      refine Zs (fun H20 hle hz_ska => ?_)
      have hL := Le.trans hL hle; have hvp3 := rd.mono hle hvp3
      have hnode : ownT (delT (.node l ks) kk) (.string l) v137 (seg9 ++ (q1 ++ b)) := .mk ⟨rfl, _, seg9, q1 ++ b, by
        simp only [delT, Tr.kids]
        rw [show (ks.take kk ++ ks.drop (kk + 1)).length = ks.length - 1 by simp; omega]; exact hrow9, .refl _, hol2⟩
      obtain ⟨u0, u1, S9, hU, hp9' ⟩ := hput _ _ _ _ hnode
      rw [setIf_same hj0] at hp9'
      refine TQ.flat (own' := _ :: (((g0, .cells #[u0, u1] 26 (0, 0)) :: S9) :: own)) (flatJ1 (L := [seg9, q1 ++ b, [(g, .cells (cur.setIfInBounds (j * 2 + 1) v137) 26 (0, 0))], rest]) ?_) ?_
      · refine hp9'.symm.trans ?_
        simp only [List.flatten_cons, List.flatten_nil, List.append_nil, List.cons_append, List.nil_append, List.append_assoc]
        exact perm_del3 _ _ _ _ _
      refine Zn (own' := _ :: _ :: own) rfl ?_; refine Zw 0 0 1 [_, _, _, _] rfl rfl rfl rfl rfl ⟨rfl, rfl, rfl, rfl, trivial⟩ rfl rfl ?_
      exact ⟨.inr ⟨_, _, _, y0, y1, _, _, _, step_del hk1 hp0 hs (by simp only [Tr.kids]; omega), rfl, hvp3, by rw [hkt]; simp only [Tr.kids, List.getD_eq_getElem?_getD, hy, Option.getD_some]; exact ownT.rd hya hz_ska, by rw [hkt]; exact hU, rfl⟩, hL⟩

end Go.Proofs.YtaomdfcplamenaaGreatDoor.K

namespace Go.Proofs.YtaomdfcplamenaaGreatDoor.K
open Go Go.RowKit Go.Proofs

theorem Ei.d_len (e : Ei) : e.d.length = 4 := by simp [Ei.d, Tr.d_len]
theorem eiD_len (l : List Ei) : (eiD l).length = l.length * 4 := by
  induction l with
  | nil => rfl
  | cons e r ih =>
    have h := e.d_len
    simp only [eiD, List.flatMap_cons, List.length_append, List.length_cons] at ih ⊢
    omega
theorem eiD_append (a b : List Ei) : eiD (a ++ b) = eiD a ++ eiD b := by simp [eiD]
theorem eiD_cons (e : Ei) (r : List Ei) : eiD (e :: r) = e.d ++ eiD r := by simp [eiD]
theorem Ei.d_one (e : Ei) : ∀ d ∈ e.d, D.One d := by
  intro d hd
  simp only [Ei.d, List.mem_append, List.mem_cons, List.not_mem_nil, or_false] at hd
  rcases hd with (rfl | rfl) | hd
  · rfl
  · trivial
  · exact Tr.ones_d _ d hd
/-- What the loop of Reverse has done after i rounds. -/
def RevI (es L : List Ei) (i : Nat) : Prop := L.length = es.length ∧ ∀ k, k < es.length → L[k]? = if k < i ∨ es.length ≤ k + i then es[es.length - 1 - k]? else es[k]?
theorem RevI.zero (es : List Ei) : RevI es es 0 := ⟨rfl, fun k hk => by rw [if_neg (by omega)]⟩
theorem RevI.done {es L : List Ei} {i : Nat} (h : RevI es L i) (hi : es.length ≤ 2 * i + 1) : L = es.reverse := by
  refine List.ext_getElem? fun k => ?_
  by_cases hk : k < es.length
  · rw [h.2 k hk, List.getElem?_reverse hk]
    split
    · rfl
    · have : k = es.length - 1 - k := by omega
      rw [← this]
  · rw [List.getElem?_eq_none (by rw [h.1]; omega), List.getElem?_eq_none (by simp; omega)]
theorem RevI.step {es L : List Ei} {i : Nat} {x y : Ei} (h : RevI es L i) (hi : 2 * i + 1 < es.length) (hx : es[i]? = some x) (hy : es[es.length - 1 - i]? = some y) : L[i]? = some x ∧ L[es.length - 1 - i]? = some y ∧ RevI es ((L.set i y).set (es.length - 1 - i) x) (i + 1) := by
  refine ⟨by rw [h.2 i (by omega), if_neg (by omega), hx], by rw [h.2 _ (by omega), if_neg (by omega), hy], by simp [h.1], fun k hk => ?_⟩
  have hl := h.1
  rw [List.getElem?_set, List.length_set]
  split
  · rename_i e
    rw [if_pos (by omega), if_pos (by omega), ← e, show es.length - 1 - (es.length - 1 - i) = i by omega, hx]
  · rw [List.getElem?_set]
    split
    · rename_i e
      rw [if_pos (by omega), if_pos (by omega), ← e, hy]
    · rw [h.2 k hk]
      by_cases h1 : k < i ∨ es.length ≤ k + i
      · rw [if_pos h1, if_pos (by omega)]
      · rw [if_neg h1, if_neg (by omega)]
def EiLog (H : Hp) (u : Value) (es : List Ei) (seg : Seg) : Prop := ∃ xs, Row 46 4 u es.length xs seg ∧ RdL H (eiD es) xs
theorem EiLog.mono {H H' : Hp} (hl : Le H H') {u : Value} {es : List Ei} {seg : Seg} : EiLog H u es seg → EiLog H' u es seg := fun ⟨xs, h1, h2⟩ => ⟨xs, h1, h2.mono hl⟩
theorem EiLog.nil (H : Hp) : EiLog H (.slice none 0 0) [] [] := ⟨[], Row.nil 46 4, trivial⟩
theorem EiLog.rd {H H' : Hp} {u : Value} {es : List Ei} {seg : Seg} (h : EiLog H u es seg) (hz : ∀ p ∈ seg, H' p.1 = some p.2) (hl : Le H H') : rd H' (.s 4 (eiD es)) u := by
  obtain ⟨xs, h1, h2⟩ := h
  exact rd.ofRow h1 hz (h2.mono hl) (Le.refl _)
theorem ei_snoc {H : Hp} {es : List Ei} {e : Ei} {xs cs : List Value} (h : RdL H (eiD es) xs) (he : RdL H e.d cs) : RdL H (eiD (es ++ [e])) (xs ++ cs) := by
  rw [eiD_append, eiD_cons]
  simpa [eiD] using h.append he
theorem ei_mk {H : Hp} {e : Ei} {vp c0 c1 : Value} (hp : rd H (.s 1 (ints e.path)) vp) (ht : RdL H e.tree.d [c0, c1]) : RdL H e.d [.int .i64 e.op, vp, c0, c1] := ⟨by simp [rd], hp, ht⟩
/-- A slice of edits: its length; one of its elements. -/
theorem eis_len {H : Hp} {es : List Ei} {v : Value} (h : rd H (.s 4 (eiD es)) v) : ∃ A c, v = .slice A es.length c ∧ es.length ≤ c ∧ c ≤ 9223372036854775807 := by
  obtain ⟨A, n, c, rfl, h1, h2, h3⟩ := h.s_len
  rw [eiD_len] at h1
  have : n = es.length := by omega
  subst this
  exact ⟨A, c, rfl, h2, h3⟩
theorem eis_at {H : Hp} {es : List Ei} {A : Option Addr} {n c : Nat} (h : rd H (.s 4 (eiD es)) (.slice A n c)) {i : Nat} {e : Ei} (hi : es[i]? = some e) :
    ∃ b o vp c0 c1, A = some ⟨b, o, none⟩ ∧ hAt H b (o + i * 4) [.int .i64 e.op, vp, c0, c1] ∧ rd H (.s 1 (ints e.path)) vp ∧ RdL H e.tree.d [c0, c1] := by
  have hlt : i < es.length := (List.getElem?_eq_some_iff.1 hi).1
  have hn : n = es.length := by
    obtain ⟨A', c', e, _⟩ := eis_len h
    injection e
  subst hn
  obtain ⟨_, b, o, rfl, hr⟩ := h.s_at (by omega)
  obtain ⟨l1, l2, rfl, rfl⟩ := split_at hi
  have hr' : rds H b (o + l1.length * 4) (e.d ++ eiD l2) := by
    refine rds.mk fun j x hx => ?_
    have := hr.get (l1.length * 4 + j) x (by
      rw [eiD_append, List.getElem?_append_right (by rw [eiD_len]; omega), eiD_len, eiD_cons]
      rw [← hx]; congr 1; omega)
    obtain ⟨u, h1, h2⟩ := this
    exact ⟨u, by rw [← h1]; congr 1; omega, h2⟩
  obtain ⟨op, path, ⟨l, ks⟩⟩ := e
  simp only [Ei.d, Tr.d, List.cons_append, List.nil_append, rds] at hr'
  obtain ⟨⟨u0, h1, r1⟩, ⟨u1, h2, r2⟩, ⟨u2, h3, r3⟩, ⟨u3, h4, r4⟩, _⟩ := hr'
  simp only [K.rd] at r1
  subst r1
  refine ⟨b, o, u1, u2, u3, rfl, ⟨h1, h2, h3, h4, trivial⟩, r2, ?_⟩
  simp only [Tr.d]
  exact ⟨r3, r4, trivial⟩
end Go.Proofs.YtaomdfcplamenaaGreatDoor.K

namespace Go.Proofs.YtaomdfcplamenaaGreatDoor.K
open Go Go.RowKit Go.Proofs

theorem split_perm {A S : Seg} {p : Nat × Obj} {own : List Seg} : (A :: [p] :: S :: own).flatten.Perm (A :: (p :: S) :: own).flatten := by simp
theorem sizes_set {ks : List Tr} {i : Nat} {u v : Tr} (h : ks[i]? = some u) : Tr.sizes (ks.set i v) + u.size = Tr.sizes ks + v.size := by
  obtain ⟨l1, l2, rfl, rfl⟩ := split_at h
  rw [List.set_append_right _ _ (Nat.le_refl _), Nat.sub_self, List.set_cons_zero, Tr.sizes_append, Tr.sizes_append]
  simp only [Tr.sizes]
  omega
theorem putT_size : ∀ (p : Path) (t : Tr) {s : Tr} (x : Tr), sub t p = some s → (putT t p x).size + s.size = t.size + x.size
  | [], t, s, x, h => by
    have h : t = s := by simpa [sub] using h
    simp only [putT, h]; omega
  | i :: q, .node l ks, s, x, h => by
    simp only [sub, Option.bind_eq_some_iff] at h
    obtain ⟨u, hu, hs⟩ := h
    have h1 := putT_size q u x hs
    have h2 := sizes_set (v := putT u q x) hu
    simp only [putT, hu, Tr.size]
    omega
theorem stepI_code {t : Tr} {e : Ei} {c : Int} (h : stepI t e = .inl c) : c = 1 ∨ c = 101 := by
  unfold stepI at h
  split at h
  · injection h with h; omega
  · split at h
    · split at h
      · injection h with h; omega
      · cases h
    · split at h
      · injection h with h; omega
      · split at h
        · injection h with h; omega
        · split at h <;> cases h
theorem stepI_cases {t : Tr} {e : Ei} {b : Ei} {u : Tr} (h : stepI t e = .inr (b, u)) :
    (e.op = 3 ∧ ∃ s, subI t e.path = some s ∧ b = ⟨3, e.path, s⟩ ∧ u = putT t (e.path.map Int.toNat) e.tree) ∨
    (e.op = 1 ∧ e.path ≠ [] ∧ ∃ s, subI t e.path.dropLast = some s ∧ 0 ≤ e.path.getLastD 0 ∧ e.path.getLastD 0 ≤ s.kids.length ∧ b = ⟨2, e.path, Tr.zero⟩ ∧ u = putT t (e.path.dropLast.map Int.toNat) (insT s (e.path.getLastD 0).toNat e.tree)) ∨
    (e.op = 2 ∧ e.path ≠ [] ∧ ∃ s, subI t e.path.dropLast = some s ∧ 0 ≤ e.path.getLastD 0 ∧ e.path.getLastD 0 < s.kids.length ∧ b = ⟨1, e.path, s.kids.getD (e.path.getLastD 0).toNat Tr.zero⟩ ∧ u = putT t (e.path.dropLast.map Int.toNat) (delT s (e.path.getLastD 0).toNat)) := by
  unfold stepI at h
  split at h
  · cases h
  · rename_i h0
    split at h
    · rename_i h3
      split at h
      · cases h
      · rename_i s hs
        injection h with h
        injection h with h1 h2
        exact .inl ⟨h3, s, hs, h1.symm, h2.symm⟩
    · rename_i h3
      have hp : e.path ≠ [] := fun hp => h0 (.inr (.inr ⟨hp, h3⟩))
      split at h
      · cases h
      · rename_i s hs
        split at h
        · cases h
        · rename_i hb
          split at h
          · rename_i h1
            injection h with h
            injection h with h4 h5
            exact .inr (.inl ⟨h1, hp, s, hs, by omega, by omega, h4.symm, h5.symm⟩)
          · rename_i h1
            injection h with h
            injection h with h4 h5
            exact .inr (.inr ⟨by omega, hp, s, hs, by omega, by omega, h4.symm, h5.symm⟩)
theorem insT_size (s : Tr) (k : Nat) (x : Tr) : (insT s k x).size = s.size + x.size := by
  have h := Tr.sizes_append (s.kids.take k) (s.kids.drop k)
  rw [List.take_append_drop] at h
  obtain ⟨l, ks⟩ := s
  simp only [insT, Tr.size, Tr.sizes_append, Tr.sizes, Tr.kids] at *
  omega
theorem delT_size {s y : Tr} {k : Nat} (h : s.kids[k]? = some y) : (delT s k).size + y.size = s.size := by
  obtain ⟨l, ks⟩ := s
  simp only [Tr.kids] at h
  have h1 := Tr.sizes_append (ks.take k) (ks.drop k)
  rw [List.take_append_drop, drop_cons h] at h1
  simp only [delT, Tr.kids, Tr.size, Tr.sizes_append, Tr.sizes] at *
  omega
theorem stepI_size {t u : Tr} {e b : Ei} (h : stepI t e = .inr (b, u)) : u.size ≤ t.size + e.tree.size ∧ b.tree.size ≤ t.size + 1 ∧ b.path = e.path := by
  have hz : Tr.zero.size = 1 := rfl
  have hp := e.tree.size_pos
  rcases stepI_cases h with ⟨_, s, hs, rfl, rfl⟩ | ⟨_, _, s, hs, _, _, rfl, rfl⟩ | ⟨_, _, s, hs, h0, h1, rfl, rfl⟩
  · have h1 := putT_size _ t e.tree (subI_sub _ _ hs)
    have h2 := subI_size _ _ hs
    exact ⟨by omega, by show s.size ≤ _; omega, rfl⟩
  · have h1 := putT_size _ t (insT s (e.path.getLastD 0).toNat e.tree) (subI_sub _ _ hs)
    have h2 := insT_size s (e.path.getLastD 0).toNat e.tree
    have h3 := t.size_pos
    exact ⟨by omega, by show Tr.zero.size ≤ _; omega, rfl⟩
  · obtain ⟨y, hy⟩ : ∃ y, s.kids[(e.path.getLastD 0).toNat]? = some y := ⟨_, List.getElem?_eq_getElem (by omega)⟩
    have h3 := putT_size _ t (delT s (e.path.getLastD 0).toNat) (subI_sub _ _ hs)
    have h4 := delT_size hy
    have h5 := subI_size _ _ hs
    have h6 := y.size_pos
    refine ⟨by omega, ?_, rfl⟩
    show (s.kids.getD (e.path.getLastD 0).toNat Tr.zero).size ≤ _
    rw [List.getD_eq_getElem?_getD, hy, Option.getD_some]
    omega
def treesI (es : List Ei) : Nat := (es.map fun e => e.tree.size).sum
theorem treesI_cons (e : Ei) (r : List Ei) : treesI (e :: r) = e.tree.size + treesI r := by simp [treesI]
theorem applyI_cons {t u : Tr} {e b : Ei} {r : List Ei} (h : stepI t e = .inr (b, u)) : applyI t (e :: r) = applyI u r := by
  simp only [applyI, h]
theorem applyI_bad {t : Tr} {e : Ei} {c : Int} {r : List Ei} (h : stepI t e = .inl c) : applyI t (e :: r) = .inl c := by
  simp only [applyI, h]
def addR (outs : List Ei) : Sum Int (List Ei) → Sum Int (List Ei)
  | .inl c => .inl c
  | .inr bs => .inr (bs ++ outs.reverse)
theorem addR_nil (x : Sum Int (List Ei)) : addR [] x = x := by cases x <;> simp [addR]
theorem addR_bad {t : Tr} {e : Ei} {c : Int} {r outs : List Ei} (h : stepI t e = .inl c) : addR outs (invertI t (e :: r)) = .inl c := by
  simp only [invertI, h, addR]
theorem addR_step {t u : Tr} {e b : Ei} {r outs : List Ei} (h : stepI t e = .inr (b, u)) : addR outs (invertI t (e :: r)) = addR (outs ++ [b]) (invertI u r) := by
  simp only [invertI, h]
  cases invertI u r with
  | inl c => rfl
  | inr bs => simp [addR]
def stepCost (e b : Ei) : Nat := (if e.op = 2 then 0 else e.tree.size) + (if e.op = 1 then 0 else b.tree.size)
theorem stepCost_le {t u : Tr} {e b : Ei} (h : stepI t e = .inr (b, u)) : stepCost e b ≤ e.tree.size + t.size + 1 := by
  have := stepI_size h
  unfold stepCost
  split <;> split <;> omega
def costI : Tr → List Ei → Nat
  | _, [] => 0
  | t, e :: r => match stepI t e with
    | .inl _ => 0
    | .inr (b, u) => stepCost e b + costI u r
theorem costI_cons {t u : Tr} {e b : Ei} {r : List Ei} (h : stepI t e = .inr (b, u)) : costI t (e :: r) = stepCost e b + costI u r := by
  simp only [costI, h]
section
variable {t : Tr} {e : Ei} {w0 : World} {H : Hp} {own : List Seg} {v0 v1 vp c0 c1 : Value}
theorem ref_Step_bad {c : Int} (hst : stepI t e = .inl c) (hpl : e.path.length ≤ 1000000) (hts : t.size ≤ 1000000) (hes : e.tree.size ≤ 1000000) (hrd : RdL H t.d [v0, v1]) (hvp : rd H (.s 1 (ints e.path)) vp) (hx : RdL H e.tree.d [c0, c1]) :
    Fn Tryz.prog 28 [.agg #[v0, v1], .agg #[.int .i64 e.op, vp, c0, c1]] w0 H own (fun r own' H' => r = .tuple #[.agg #[.string ⟨#[]⟩, .slice none 0 0], .int .i64 0, .int .i64 c] ∧ own' = own ∧ Le H H') :=
  (ref_Step hpl hts hes hrd hvp hx).mono fun r o H' h => by
    obtain ⟨⟨c', h1, h2⟩ | ⟨b, u, _, _, h1, _⟩, h3, h4⟩ := h
    · rw [hst] at h1; cases h1; exact ⟨h2, h3, h4⟩
    · rw [hst] at h1; cases h1
theorem ref_Step_ok {b : Ei} {u : Tr} (hst : stepI t e = .inr (b, u)) (hpl : e.path.length ≤ 1000000) (hts : t.size ≤ 1000000) (hes : e.tree.size ≤ 1000000) (hrd : RdL H t.d [v0, v1]) (hvp : rd H (.s 1 (ints e.path)) vp) (hx : RdL H e.tree.d [c0, c1]) :
    Fn Tryz.prog 28 [.agg #[v0, v1], .agg #[.int .i64 e.op, vp, c0, c1]] w0 H own (fun r own' H' => ∃ d0 d1, r = .tuple #[.agg #[d0, d1], .int .i64 (stepCost e b : Int), .int .i64 0] ∧ RdL H' u.d [d0, d1] ∧ own' = own ∧ Le H H') :=
  (ref_Step hpl hts hes hrd hvp hx).mono fun r o H' h => by
    obtain ⟨⟨c', h1, h2⟩ | ⟨b', u', d0, d1, h1, h2, h5⟩, h3, h4⟩ := h
    · rw [hst] at h1; cases h1
    · rw [hst] at h1; cases h1; exact ⟨d0, d1, h2, h5, h3, h4⟩
variable {g0 : Nat} {S : Seg}
theorem diff_step_bad {c : Int} (hst : stepI t e = .inl c) (hpl : e.path.length ≤ 1000000) (hts : t.size ≤ 1000000) (hes : e.tree.size ≤ 1000000) (hT : ownT t v0 v1 S) (hvp : rd H (.s 1 (ints e.path)) vp) (hx : RdL H e.tree.d [c0, c1]) :
    Fn Tryz.prog 34 [.pointer (some ⟨g0, 0, none⟩), .agg #[.int .i64 e.op, vp, c0, c1]] w0 H (((g0, .cells #[v0, v1] 26 (0, 0)) :: S) :: own) (fun r own' H' =>
      r = .tuple #[.agg #[.int .i64 0, .slice none 0 0, .string ⟨#[]⟩, .slice none 0 0], .int .i64 c] ∧ own' = ((g0, .cells #[v0, v1] 26 (0, 0)) :: S) :: own ∧ Le H H') :=
  (diff_step hpl hts hes hT hvp hx).mono fun r o H' h => by
    obtain ⟨⟨c', h1, h2, h3⟩ | ⟨b, u, _, _, _, _, _, _, h1, _⟩, h4⟩ := h
    · rw [hst] at h1; cases h1; exact ⟨h2, h3, h4⟩
    · rw [hst] at h1; cases h1
theorem diff_step_ok {b : Ei} {u : Tr} (hst : stepI t e = .inr (b, u)) (hpl : e.path.length ≤ 1000000) (hts : t.size ≤ 1000000) (hes : e.tree.size ≤ 1000000) (hT : ownT t v0 v1 S) (hvp : rd H (.s 1 (ints e.path)) vp) (hx : RdL H e.tree.d [c0, c1]) :
    Fn Tryz.prog 34 [.pointer (some ⟨g0, 0, none⟩), .agg #[.int .i64 e.op, vp, c0, c1]] w0 H (((g0, .cells #[v0, v1] 26 (0, 0)) :: S) :: own) (fun r own' H' =>
      ∃ vb d0 d1 u0 u1 S', r = .tuple #[.agg #[.int .i64 b.op, vb, d0, d1], .int .i64 0] ∧ RdL H' b.d [.int .i64 b.op, vb, d0, d1] ∧ ownT u u0 u1 S' ∧ own' = ((g0, .cells #[u0, u1] 26 (0, 0)) :: S') :: own ∧ Le H H') :=
  (diff_step hpl hts hes hT hvp hx).mono fun r o H' h => by
    obtain ⟨⟨c', h1, h2⟩ | ⟨b', u', vb, d0, d1, u0, u1, S', h1, h2, h5, h6, h7, h8⟩, h4⟩ := h
    · rw [hst] at h1; cases h1
    · rw [hst] at h1; cases h1; exact ⟨vb, d0, d1, u0, u1, S', h2, ei_mk h5 h6, h7, h8, h4⟩
end
end Go.Proofs.YtaomdfcplamenaaGreatDoor.K

namespace Go.Proofs
open Go.Shelf
def Tryz.revEdits_ren : Go.Shelf.Ren := ⟨fun | 35 => 35 | n => n, fun | 22 => 31 | 23 => 46 | 3 => 3 | 4 => 4 | 0 => 0 | n => n, fun | n => n⟩
theorem Tryz.revEdits : Go.Proofs.SlLaysE0.n35 Tryz.prog Tryz.revEdits_ren := {
  mixed := by kernel_rfl
  f35 := ⟨Tryz.f35.name, by decide, Tryz.func35.trans (congrArg some (by kernel_rfl))⟩
  t0 := Tryz.underlying0
  a0 := Tryz.isAgg0
  z0 := Tryz.sizeOf0
  v0 := Tryz.zeroValue0
  t3 := Tryz.underlying3
  a3 := Tryz.isAgg3
  z3 := Tryz.sizeOf3
  v3 := Tryz.zeroValue3
  t4 := Tryz.underlying4
  a4 := Tryz.isAgg4
  z4 := Tryz.sizeOf4
  v4 := Tryz.zeroValue4
  t22 := Tryz.underlying31
  a22 := Tryz.isAgg31
  z22 := Tryz.sizeOf31
  v22 := Tryz.zeroValue31 }
end Go.Proofs

namespace Go.Proofs.YtaomdfcplamenaaGreatDoor.K
open Go Go.RowKit Go.Proofs Go.Sort

abbrev EiAt (H : Hp) := { x : Ei × List Value // RdL H x.1.d x.2 }
instance (H : Hp) : Inhabited (EiAt H) := ⟨⟨(⟨0, [], Tr.zero⟩, [.int .i64 0, .slice none 0 0, .string ⟨#[]⟩, .slice none 0 0]), ei_mk (rd.nil _ _) (zero_rd H)⟩⟩
def EiAt.v {H : Hp} (x : EiAt H) : List Value := x.1.2
theorem EiAt.len {H : Hp} (x : EiAt H) : x.v.length = 4 := by rw [← Ei.d_len x.1.1]; exact x.2.len.symm
theorem EiAt.one {H : Hp} (x : EiAt H) : ∀ v ∈ x.v, v.oneCell' = true := Ones.all (RdL.ones x.2 x.1.1.d_one)
theorem eis_list {H : Hp} : ∀ {es : List Ei} {xs : List Value}, RdL H (eiD es) xs → ∃ l : List (EiAt H), l.flatMap EiAt.v = xs ∧ l.map (fun x => x.1.1) = es
  | [], xs, h => by
    cases xs with
    | nil => exact ⟨[], rfl, rfl⟩
    | cons x r => exact h.elim
  | e :: r, xs, h => by
    rw [eiD_cons] at h
    obtain ⟨v1, v2, rfl, h1, h2⟩ := h.split
    obtain ⟨l, h3, h4⟩ := eis_list h2
    exact ⟨⟨(e, v1), h1⟩ :: l, by simp [h3, EiAt.v], by simp [h4]⟩
theorem eis_rdl {H : Hp} : ∀ (l : List (EiAt H)), RdL H (eiD (l.map fun x => x.1.1)) (l.flatMap EiAt.v)
  | [] => trivial
  | x :: l => by
    rw [List.map_cons, eiD_cons, List.flatMap_cons]
    exact x.2.append (eis_rdl l)
theorem flat4_len {α : Type} {enc : α → List Value} (hk : ∀ x, (enc x).length = 4) : ∀ l : List α, (l.flatMap enc).length = l.length * 4
  | [] => rfl
  | x :: r => by simp only [List.flatMap_cons, List.length_append, hk, flat4_len hk r, List.length_cons]; omega
theorem flat4_get {α : Type} [Inhabited α] {enc : α → List Value} (hk : ∀ x, (enc x).length = 4) : ∀ (l : List α) (t : Nat), t < l.length * 4 → (l.flatMap enc)[t]? = (enc l[t / 4]!)[t % 4]?
  | [], t, h => by simp at h
  | x :: r, t, h => by
    rw [List.flatMap_cons]
    by_cases h4 : t < 4
    · rw [List.getElem?_append_left (by rw [hk]; exact h4), show t / 4 = 0 by omega, show t % 4 = t by omega]
      rfl
    · rw [List.getElem?_append_right (by rw [hk]; omega), hk, flat4_get hk r (t - 4) (by simp only [List.length_cons] at h; omega), show t / 4 = (t - 4) / 4 + 1 by omega, show t % 4 = (t - 4) % 4 by omega]
      rfl
theorem flatK_list {α : Type} [Inhabited α] {enc : α → List Value} (hk : ∀ x, (enc x).length = 4) (d : Array α) : (flatK enc 4 d).toList = d.toList.flatMap enc := by
  refine List.ext_getElem? fun t => ?_
  have hs := size_flatK enc 4 d
  have hl := flat4_len hk d.toList
  rw [show d.toList.length = d.size from rfl] at hl
  by_cases ht : t < d.size * 4
  · rw [flat4_get hk _ _ (by rw [Array.length_toList]; exact ht), Array.getElem?_toList]
    have h1 := get_flatK enc 4 d t ht
    have h2 : (flatK enc 4 d)[t]? = some (flatK enc 4 d)[t]! := by
      rw [getElem!_pos _ t (by omega)]
      exact Array.getElem?_eq_getElem (by omega)
    rw [h2, h1]
    have h3 : t % 4 < (enc d[t / 4]!).length := by rw [hk]; omega
    have h5 : d.toList[t / 4]! = d[t / 4]! := by
      have hq : t / 4 < d.size := by omega
      simp [hq]
    rw [h5, getElem!_pos (enc d[t / 4]!) (t % 4) h3]
    rw [List.getElem?_eq_getElem h3]
  · rw [List.getElem?_eq_none (by rw [Array.length_toList]; omega), List.getElem?_eq_none (by rw [hl]; omega)]
theorem reverse_edits {es : List Ei} {w0 : World} {H : Hp} {own : List Seg} {v : Value} {seg : Seg} (hes : es.length ≤ 1000000) (hlog : EiLog H v es seg) :
    Fn Tryz.prog 35 [v] w0 H (seg :: own) (fun r own' H' => ∃ seg', EiLog H' v es.reverse seg' ∧ own' = seg' :: own ∧ Le H H') := by
  obtain ⟨xs, hrow, hxs⟩ := hlog
  by_cases h0 : es = []
  · subst h0
    obtain ⟨A, c, rfl, _, _⟩ := hrow.sl
    intro w hw
    refine Calls.mono (AnyQ.slices_Reverse_empty Tryz.revEdits A c w) ?_
    rintro e w' ⟨rfl, rfl⟩
    exact ⟨.tuple #[], seg :: own, H, rfl, ⟨seg, ⟨xs, hrow, hxs⟩, rfl, Le.refl _⟩, hw⟩
  have hpos : 0 < es.length := List.length_pos_iff.2 h0
  obtain ⟨A, cap, rfl, h1, h2⟩ := hrow.sl
  obtain ⟨g, cur, rfl, rfl, h3, h4, hlen⟩ := hrow.blk hpos
  obtain ⟨l, rfl, hl2⟩ := eis_list hxs
  have hll : l.length = es.length := by rw [← hl2]; simp
  intro w hw
  have hb : w.heap[g]? = some (.cells cur 46 (0, 0)) := hw.own_blk (i := 0) (j := 0) rfl rfl
  have hlt : g < w.heap.size := (Array.getElem?_eq_some_iff.1 hb).1
  have hfl := flatK_list (enc := EiAt.v (H := H)) EiAt.len l.toArray
  have hfs : (flatK (EiAt.v (H := H)) 4 l.toArray).size = es.length * 4 := by rw [size_flatK]; simp [hll]
  have hH : HoldsK (EiAt.v (H := H)) 4 w g 0 l.toArray := by
    intro j hj
    refine ⟨?_, by simp [World.frozen?, hb]⟩
    rw [cell_of_cells hb, Nat.zero_add]
    have e := congrArg (fun x : List Value => x[j]?) h4
    simp only [List.getElem?_take] at e
    rw [if_pos (by omega), ← hfl, Array.getElem?_toList, Array.getElem?_toList] at e
    rw [e, getElem!_pos _ j hj]
    exact Array.getElem?_eq_getElem hj
  have hc := AnyQ.slices_Reverse Tryz.revEdits 4 (fun w => (Ty.isAgg (P := Tryz.prog) (t := 46) w)) (fun w => (Ty.size (P := Tryz.prog) (t := 46) w)) (EiAt.v (H := H)) EiAt.len EiAt.one g 0 cap l.toArray w hH (by simp; omega)
  have hsz : l.toArray.size = es.length := by simpa using hll
  rw [hsz] at hc
  refine Calls.mono hc ?_
  rintro e w' ⟨rfl, n, rfl⟩
  have hfl2 := flatK_list (enc := EiAt.v (H := H)) EiAt.len l.toArray.reverse
  have hfs2 : (flatK (EiAt.v (H := H)) 4 l.toArray.reverse).size = es.length * 4 := by rw [size_flatK]; simp [hll]
  refine ⟨.tuple #[], [(g, .cells (putCells id 0 (flatK (EiAt.v (H := H)) 4 l.toArray.reverse) cur) 46 (0, 0))] :: own, H, rfl, ⟨_, ⟨l.reverse.flatMap EiAt.v, ⟨by rw [flat4_len EiAt.len]; simp [hll], .inr ⟨g, cap, _, by simp, rfl, by simpa using h1, by simpa [maxLen] using h2, by simp [putCells, h3], ?_⟩⟩, ?_⟩, rfl, Le.refl _⟩, ?_⟩
  · have e2 : l.reverse.flatMap EiAt.v = (flatK (EiAt.v (H := H)) 4 l.toArray.reverse).toList := by rw [hfl2]; simp
    rw [e2]
    refine List.ext_getElem? fun j => ?_
    have hcs : es.length * 4 ≤ cur.size := by rw [h3]; exact Nat.mul_le_mul_right _ h1
    simp only [List.length_reverse, List.getElem?_take, Array.getElem?_toList]
    by_cases hj : j < es.length * 4
    · rw [if_pos hj]
      have hj2 : j < cur.size := by omega
      have hj3 : j < (flatK (EiAt.v (H := H)) 4 l.toArray.reverse).size := by omega
      rw [Array.getElem?_eq_getElem hj3]
      simp only [putCells, Array.getElem?_mapIdx, Array.getElem?_eq_getElem hj2, Option.map_some, Option.some.injEq]
      rw [if_pos (by omega), Nat.sub_zero, getElem!_pos _ j hj3]
      rfl
    · rw [if_neg hj, Array.getElem?_eq_none (by omega)]
  · have := eis_rdl l.reverse
    rw [List.map_reverse, hl2] at this
    exact this
  · have := hw.upd (i := 0) (w' := putRowK (EiAt.v (H := H)) 4 (Sort.ahead w n) g 0 l.toArray.reverse) (seg' := [(g, .cells (putCells id 0 (flatK (EiAt.v (H := H)) 4 l.toArray.reverse) cur) 46 (0, 0))]) rfl rfl ⟨rfl, Nat.le_add_right _ _⟩ rfl
      (fun b hb2 hnb => ?_) (fun p hp => ?_) (by simp) (by simp)
    · simpa using this
    · have hne : b ≠ g := by simpa using hnb
      show (putRow id (Sort.ahead w n) g 0 _).heap[b]? = _
      unfold putRow mapBlock Sort.ahead
      simp only
      rw [Array.getElem?_modify, if_neg (Ne.symm hne)]
    · simp only [List.mem_singleton] at hp
      subst hp
      show (putRow id (Sort.ahead w n) g 0 _).heap[g]? = _
      unfold putRow mapBlock Sort.ahead
      simp only
      rw [Array.getElem?_modify, if_pos rfl, hb]
      rfl
end Go.Proofs.YtaomdfcplamenaaGreatDoor.K

namespace Go.Proofs.YtaomdfcplamenaaGreatDoor.K
open Go Go.RowKit Go.Proofs


theorem diff_Apply {es : List Ei} {t : Tr} (hpl : ∀ e ∈ es, e.path.length ≤ 1000000) (hsz : t.size + treesI es ≤ 1000000) (hel : es.length ≤ 1000000) {w0 : World} {H : Hp} {own : List Seg} {a0 a1 ve : Value} (ht : RdL H t.d [a0, a1]) (hve : rd H (.s 4 (eiD es)) ve) :
    Fn Tryz.prog 17 [.agg #[a0, a1], ve] w0 H own (fun r own' H' => ((∃ c, applyI t es = .inl c ∧ r = .tuple #[.agg #[.string ⟨#[]⟩, .slice none 0 0], .int .i64 c] ∧ own' = own) ∨
      ∃ u u0 u1 S, applyI t es = .inr u ∧ r = .tuple #[.agg #[u0, u1], .int .i64 0] ∧ ownT u u0 u1 S ∧ own' = S :: own) ∧ Le H H') := by
  obtain ⟨A, c, rfl, hc1, hc2⟩ := eis_len hve
  refine Fn.enter Tryz.func17 rfl Tryz.ntmps17 rfl ?_; have hL := Le.refl H; refine Qj (Qh ?_)
  refine Zx (c := #[_, _]) rfl rfl rfl ?_; intro g2
  refine Zc rfl ?_; intro g4; refine Qe rfl rfl (Q3 ?_); refine Qm 1 0 [_, _] rfl rfl rfl ⟨rfl, rfl, trivial⟩ rfl rfl ?_; refine Qs (diff_cloneO _ t (Nat.le_refl _) (by omega) ht) ⟨rfl, trivial⟩ rfl ?_
  rintro _ _ H0 ⟨u0, u1, S, rfl, hT, rfl, hle0⟩
  have hL := Le.trans hL hle0; have hve := rd.mono hle0 hve
  refine Zc rfl ?_; intro g6; refine Qq 0 0 (c' := #[_, _]) (own' := [(_, .cells #[_, _] _ _)] :: _) rfl rfl rfl rfl rfl (ownT.ones hT) (by simp) rfl rfl rfl (Qi (Qc (Qj (Qj ?_))))
  refine Z2 4 [0, 1, 2] rfl (fun o ho => ?_)
  simp only [K.sel, nrm] at ho; subst ho
  refine Qh (Qb rfl rfl (Qn rfl rfl (Qb rfl rfl (Qi (Qc ?_))))); refine Q6 ?_; refine TC.flat (own' := ((g6, .cells #[u0, u1] 26 (0, 0)) :: S) :: [(g4, .cells #[.string ⟨#[]⟩, .slice none 0 0] 26 (0, 0))] :: own) (by simp) ?_
  refine Zv (fun n env' own' H' => ∃ (k : Nat) (t1 : Tr) (u0 u1 : Value) (S : Seg), n = es.length - k ∧ k ≤ es.length ∧ applyI t es = applyI t1 (es.drop k) ∧ t1.size + treesI (es.drop k) ≤ 1000000 ∧ ownT t1 u0 u1 S ∧ env' = [(4, .pointer (some ⟨g4, 0, none⟩)), (6, .pointer (some ⟨g6, 0, none⟩)), (13, .slice A es.length c), (14, .int .i64 (es.length : Int)), (15, .int .i64 (k : Int))] ∧ own' = ((g6, .cells #[u0, u1] 26 (0, 0)) :: S) :: [(g4, .cells #[.string ⟨#[]⟩, .slice none 0 0] 26 (0, 0))] :: own ∧ Le H0 H') es.length [(4, _), (6, _), (13, _), (14, _), (15, _)] ⟨rfl, rfl, rfl, rfl, rfl, trivial⟩ ⟨0, t, u0, u1, S, by omega, by omega, rfl, hsz, hT, rfl, rfl, Le.refl _⟩ ?_
  clear hT
  rintro n _ _ H1 ⟨k, t1, u0, u1, S, rfl, hk1, hinv, hsz1, hT, rfl, rfl, hle1⟩
  have hL := Le.trans hL hle1; have hve := rd.mono hle1 hve; refine Qj (Qh ?_)
  refine Zz rfl rfl rfl (fun hlt => ?_) (fun hlt => ?_)
  ·
   obtain ⟨e, he⟩ : ∃ e, es[k]? = some e := ⟨_, List.getElem?_eq_getElem (by omega)⟩
   obtain ⟨b1, o1, vp, c0, c1, rfl, hcells, hvp, hx⟩ := eis_at hve he
   have hmem := List.mem_of_getElem? he
   have hpl1 := hpl e hmem; have hdr := drop_cons he
   rw [hdr] at hinv
   rw [hdr, treesI_cons] at hsz1
   refine Qi (Qc (Qj (Qv rfl (Q2 (Qc ?_))))); refine Qj (Q6 (Qj (Qh ?_))); refine Qo (k) rfl rfl rfl (by omega) rfl ?_; refine Zd rfl (hcells) rfl rfl ?_
   refine Zc rfl ?_; intro g8; refine Qq 0 0 (c' := #[_, _, _, _]) (own' := [(_, .cells #[_, _, _, _] _ _)] :: _) rfl rfl rfl rfl rfl ⟨rfl, hvp.one, (tr_ones hx).1, (tr_ones hx).2.1, trivial⟩ (by simp) rfl rfl rfl (Qi (Qc (Qj ?_)))
   rcases hst : stepI t1 e with cc | ⟨b, u⟩
   ·
    refine Qh ?_; refine Qm 0 0 [_, _, _, _] rfl rfl rfl ⟨rfl, rfl, rfl, rfl, trivial⟩ rfl rfl ?_
    refine TL.sel 3 [1, 0, 2] rfl (fun o ho => ?_)
    simp only [K.sel, nrm] at ho; subst ho
    refine Qs (diff_step_bad hst hpl1 (by omega) (by omega) hT hvp hx) ⟨rfl, rfl, trivial⟩ rfl ?_
    rintro _ _ H2 ⟨rfl, rfl, hle2⟩
    have hL := Le.trans hL hle2; refine Qb rfl rfl (Qu rfl rfl rfl (Qu rfl rfl rfl ?_))
    refine Zc rfl ?_; intro g9; refine Qq 0 0 (c' := #[_, _, _, _]) (own' := [(_, .cells #[_, _, _, _] _ _)] :: _) rfl rfl rfl rfl rfl ⟨rfl, rfl, rfl, rfl, trivial⟩ (by simp) rfl rfl rfl (Qe rfl rfl (Q3 (Qb rfl rfl (TL.neq rfl rfl rfl ?_))))
    rw [decide_eq_true (by have := stepI_code hst; omega)]
    refine Qi (Qc (Qv rfl (Qj (Qh ?_)))); refine Q8 [] trivial rfl rfl (Qb rfl rfl ?_); refine Qq 3 0 (c' := #[_, _]) (own' := _ :: _ :: _ :: [(_, .cells #[_, _] _ _)] :: _) rfl rfl rfl rfl rfl ⟨rfl, rfl, trivial⟩ (by simp) rfl rfl rfl (Qe rfl rfl (Qi (Qc (Qy (Z0 ?_))))); refine Q0 (Q0 (Z0 (Q0 ?_)))
    refine Zj 4 [3] rfl (fun o ho => ?_)
    simp only [K.sel, nrm] at ho; subst ho
    refine Zw 0 0 1 [_, _] rfl rfl rfl rfl rfl ⟨rfl, rfl, trivial⟩ rfl rfl ?_
    exact ⟨.inl ⟨_, by rw [hinv, applyI_bad hst], rfl, rfl⟩, hL⟩
   ·
    refine Qh ?_; refine Qm 0 0 [_, _, _, _] rfl rfl rfl ⟨rfl, rfl, rfl, rfl, trivial⟩ rfl rfl ?_
    refine TL.sel 3 [1, 0, 2] rfl (fun o ho => ?_)
    simp only [K.sel, nrm] at ho; subst ho
    refine Qs (diff_step_ok hst hpl1 (by omega) (by omega) hT hvp hx) ⟨rfl, rfl, trivial⟩ rfl ?_
    rintro _ _ H2 ⟨vb, d0, d1, x0, x1, S2, rfl, hb, hT2, rfl, hle2⟩
    have hL := Le.trans hL hle2; have hle1 := Le.trans hle1 hle2; refine Qb rfl rfl (Qu rfl rfl rfl (Qu rfl rfl rfl ?_))
    refine Zc rfl ?_; intro g9; refine Qq 0 0 (c' := #[_, _, _, _]) (own' := [(_, .cells #[_, _, _, _] _ _)] :: _) rfl rfl rfl rfl rfl (RdL.ones hb b.d_one) (by simp) rfl rfl rfl (Qe rfl rfl (Q3 (Qb rfl rfl (TL.neq rfl rfl rfl ?_))))
    rw [decide_eq_false (by simp)]
    refine Qi (Qc (Qr rfl (Q2 (Ze (Qc ?_))))); refine Qh ?_; refine Zb rfl rfl rfl ⟨by omega, by omega⟩ (Qb rfl rfl (Qi ?_))
    refine Zj 4 [1, 3] rfl (fun o ho => ?_)
    simp only [K.sel, nrm] at ho; subst ho
    have hsu := stepI_size hst
    refine Zf (es.length - (k + 1)) [(4, _), (6, _), (13, _), (14, _), (15, _)] (by omega) ⟨rfl, rfl, rfl, rfl, rfl, trivial⟩ ⟨k + 1, u, x0, x1, S2, rfl, by omega, ?_, by omega, hT2, by simp, rfl, hle1⟩
    rw [hinv, applyI_cons hst]
  ·
   refine Qi (Qc (Qj (Qr rfl (Zo (Q1 ?_))))); refine Q1 (Zp (Zm ?_)); refine Qm 0 0 [_, _] rfl rfl rfl ⟨rfl, rfl, trivial⟩ rfl rfl ?_; refine Qq 1 0 (c' := #[_, _]) (own' := _ :: [(_, .cells #[_, _] _ _)] :: _) rfl rfl rfl rfl rfl (ownT.ones hT) (by simp) rfl rfl rfl (Qe rfl rfl (Qi (Qc (Qy ?_))))
   refine Zj 2 [1, 0] rfl (fun o ho => ?_)
   simp only [K.sel, nrm] at ho; subst ho
   refine TQ.flat (own' := _ :: [(g6, .cells #[u0, u1] 26 (0, 0))] :: S :: own) split_perm ?_; refine Zw 0 0 2 [_, _] rfl rfl rfl rfl rfl ⟨rfl, rfl, trivial⟩ rfl rfl ?_
   have hkn : k = es.length := by omega
   rw [hkn, List.drop_length] at hinv
   exact ⟨.inr ⟨t1, u0, u1, S, hinv, rfl, hT, rfl⟩, hL⟩
theorem diff_Invert {es : List Ei} {t : Tr} (hpl : ∀ e ∈ es, e.path.length ≤ 1000000) (hsz : t.size + treesI es ≤ 1000000) (hel : es.length ≤ 1000000) {w0 : World} {H : Hp} {own : List Seg} {a0 a1 ve : Value} (ht : RdL H t.d [a0, a1]) (hve : rd H (.s 4 (eiD es)) ve) :
    Fn Tryz.prog 19 [.agg #[a0, a1], ve] w0 H own (fun r own' H' => ((∃ c, invertI t es = .inl c ∧ r = .tuple #[.slice none 0 0, .int .i64 c] ∧ own' = own) ∨
      ∃ bs v seg, invertI t es = .inr bs ∧ r = .tuple #[v, .int .i64 0] ∧ EiLog H' v bs seg ∧ own' = seg :: own) ∧ Le H H') := by
  obtain ⟨A, c, rfl, hc1, hc2⟩ := eis_len hve
  refine Fn.enter Tryz.func19 rfl Tryz.ntmps19 rfl ?_; have hL := Le.refl H; refine Qj (Qh ?_)
  refine Zx (c := #[_, _]) rfl rfl rfl ?_; intro g2; refine Qe rfl rfl (Qe rfl rfl (Q3 ?_)); refine Qm 0 0 [_, _] rfl rfl rfl ⟨rfl, rfl, trivial⟩ rfl rfl ?_; refine Qs (diff_cloneO _ t (Nat.le_refl _) (by omega) ht) ⟨rfl, trivial⟩ rfl ?_
  rintro _ _ H0 ⟨u0, u1, S, rfl, hT, rfl, hle0⟩
  have hL := Le.trans hL hle0; have hve := rd.mono hle0 hve
  refine Zc rfl ?_; intro g6; refine Qq 0 0 (c' := #[_, _]) (own' := [(_, .cells #[_, _] _ _)] :: _) rfl rfl rfl rfl rfl (ownT.ones hT) (by simp) rfl rfl rfl (Q3 (Qe rfl rfl (Qi (Qc (Qj ?_))))); refine Qj ?_
  refine Z2 3 [0, 1] rfl (fun o ho => ?_)
  simp only [K.sel, nrm] at ho; subst ho
  refine Qh (Qb rfl rfl (Qn rfl rfl (Qb rfl rfl (Qi (Qc ?_))))); refine Q6 ?_; refine TC.flat (own' := ((g6, .cells #[u0, u1] 26 (0, 0)) :: S) :: [] :: own) (by simp) ?_
  refine Zv (fun n env' own' H' => ∃ (k : Nat) (t1 : Tr) (outs : List Ei) (v7 u0 u1 : Value) (S seg : Seg), n = es.length - k ∧ k ≤ es.length ∧ invertI t es = addR outs (invertI t1 (es.drop k)) ∧ outs.length = k ∧ t1.size + treesI (es.drop k) ≤ 1000000 ∧ ownT t1 u0 u1 S ∧ EiLog H' v7 outs seg ∧ env' = [(6, .pointer (some ⟨g6, 0, none⟩)), (7, v7), (14, .slice A es.length c), (15, .int .i64 (es.length : Int)), (16, .int .i64 (k : Int))] ∧ own' = ((g6, .cells #[u0, u1] 26 (0, 0)) :: S) :: seg :: own ∧ Le H0 H') es.length [(6, _), (7, _), (14, _), (15, _), (16, _)] ⟨rfl, rfl, rfl, rfl, rfl, trivial⟩ ⟨0, t, [], _, u0, u1, S, [], by omega, by omega, by rw [addR_nil]; rfl, rfl, hsz, hT, EiLog.nil _, rfl, rfl, Le.refl _⟩ ?_
  clear hT
  rintro n _ _ H1 ⟨k, t1, outs, v7, u0, u1, S, seg, rfl, hk1, hinv, hol, hsz1, hT, hlog, rfl, rfl, hle1⟩
  have hL := Le.trans hL hle1; have hve := rd.mono hle1 hve; refine Qj (Qh ?_)
  refine Zz rfl rfl rfl (fun hlt => ?_) (fun hlt => ?_)
  ·
   obtain ⟨e, he⟩ : ∃ e, es[k]? = some e := ⟨_, List.getElem?_eq_getElem (by omega)⟩
   obtain ⟨b1, o1, vp, c0, c1, rfl, hcells, hvp, hx⟩ := eis_at hve he
   have hmem := List.mem_of_getElem? he
   have hpl1 := hpl e hmem; have hdr := drop_cons he
   rw [hdr] at hinv
   rw [hdr, treesI_cons] at hsz1
   refine Qi (Qc (Qj (Qv rfl (Q2 (Qc ?_))))); refine Qj (Q6 (Qj (Qh ?_))); refine Qo (k) rfl rfl rfl (by omega) rfl ?_; refine Zd rfl (hcells) rfl rfl ?_
   refine Zc rfl ?_; intro g9; refine Qq 0 0 (c' := #[_, _, _, _]) (own' := [(_, .cells #[_, _, _, _] _ _)] :: _) rfl rfl rfl rfl rfl ⟨rfl, hvp.one, (tr_ones hx).1, (tr_ones hx).2.1, trivial⟩ (by simp) rfl rfl rfl (Qi (Qc (Qj ?_)))
   rcases hst : stepI t1 e with cc | ⟨b, u⟩
   ·
    refine Qh ?_; refine Qm 0 0 [_, _, _, _] rfl rfl rfl ⟨rfl, rfl, rfl, rfl, trivial⟩ rfl rfl ?_
    refine TL.sel 3 [1, 0, 2] rfl (fun o ho => ?_)
    simp only [K.sel, nrm] at ho; subst ho
    refine Qs (diff_step_bad hst hpl1 (by omega) (by omega) hT hvp hx) ⟨rfl, rfl, trivial⟩ rfl ?_
    rintro _ _ H2 ⟨rfl, rfl, hle2⟩
    have hL := Le.trans hL hle2; refine Qb rfl rfl (Qu rfl rfl rfl (Qu rfl rfl rfl ?_))
    refine Zc rfl ?_; intro g10; refine Qq 0 0 (c' := #[_, _, _, _]) (own' := [(_, .cells #[_, _, _, _] _ _)] :: _) rfl rfl rfl rfl rfl ⟨rfl, rfl, rfl, rfl, trivial⟩ (by simp) rfl rfl rfl (Qe rfl rfl (Qi (Qc (Qj (Qj ?_))))); refine Qh (Qb rfl rfl (TL.neq rfl rfl rfl ?_))
    rw [decide_eq_true (by have := stepI_code hst; omega)]
    refine Qi (Qc (Qv rfl (Qj (Qh (Qb rfl rfl ?_))))); refine Qe rfl rfl (Qe rfl rfl (Qi (Qc (Qy (Q0 ?_))))); refine Z0 (Q0 (Q0 (Z0 (Q0 (TQ.ret2 4 rfl rfl rfl ?_)))))
    exact ⟨.inl ⟨_, by rw [hinv, addR_bad hst], rfl, rfl⟩, hL⟩
   ·
    refine Qh ?_; refine Qm 0 0 [_, _, _, _] rfl rfl rfl ⟨rfl, rfl, rfl, rfl, trivial⟩ rfl rfl ?_
    refine TL.sel 3 [1, 0, 2] rfl (fun o ho => ?_)
    simp only [K.sel, nrm] at ho; subst ho
    refine Qs (diff_step_ok hst hpl1 (by omega) (by omega) hT hvp hx) ⟨rfl, rfl, trivial⟩ rfl ?_
    rintro _ _ H2 ⟨vb, d0, d1, x0, x1, S2, rfl, hb, hT2, rfl, hle2⟩
    have hL := Le.trans hL hle2; have hle1 := Le.trans hle1 hle2; have hlog := EiLog.mono hle2 hlog; refine Qb rfl rfl (Qu rfl rfl rfl (Qu rfl rfl rfl ?_))
    refine Zc rfl ?_; intro g10; refine Qq 0 0 (c' := #[_, _, _, _]) (own' := [(_, .cells #[_, _, _, _] _ _)] :: _) rfl rfl rfl rfl rfl (RdL.ones hb b.d_one) (by simp) rfl rfl rfl (Qe rfl rfl (Qi (Qc (Qj (Qj ?_))))); refine Qh (Qb rfl rfl (TL.neq rfl rfl rfl ?_))
    rw [decide_eq_false (by simp)]
    refine Qi (Qc (Qr rfl (Q2 (Qc ?_))))
    obtain ⟨xs7, hrow7, hxs7⟩ := hlog
    have hones := RdL.ones hb b.d_one; refine Qh (Qb rfl rfl ?_); refine Qm 0 0 [_, _, _, _] rfl rfl rfl ⟨rfl, rfl, rfl, rfl, trivial⟩ rfl rfl ?_
    refine Zg (r := [_, _, _, _]) [(0, [_, _, _, _])] ⟨rfl, ⟨_, rfl, rfl⟩, trivial⟩ rfl rfl rfl rfl ?_; intro g30; refine Zh 4 rfl rfl rfl hrow7 (Src.ofOwn 0 0 rfl rfl rfl (Ones.all hones) ⟨rfl, rfl, rfl, rfl, trivial⟩) (by omega) (by omega) rfl ?_; intro v31 sg31 hrow31; have hxs31 := ei_snoc hxs7 hb; refine Qe rfl rfl (Qi (Ze (Qc (Qh ?_)))); refine Zb rfl rfl rfl ⟨by omega, by omega⟩ (Qb rfl rfl (Qi ?_))
    refine Zj 5 [2, 4] rfl (fun o ho => ?_)
    simp only [K.sel, nrm] at ho; subst ho
    have hsu := stepI_size hst
    refine Zf (es.length - (k + 1)) [(6, _), (7, _), (14, _), (15, _), (16, _)] (by omega) ⟨rfl, rfl, rfl, rfl, rfl, trivial⟩ ⟨k + 1, u, outs ++ [b], v31, x0, x1, S2, sg31, rfl, by omega, ?_, by simp [hol], by omega, hT2, ⟨_, by simpa using hrow31, hxs31⟩, by simp, rfl, hle1⟩
    rw [hinv, addR_step hst]
  ·
   refine Qi (Qc (Qj (Qr rfl (Zo (Q1 ?_))))); refine Q1 (Zp (Zm (Qb rfl rfl ?_)))
   refine TL.sel 2 [1, 0] rfl (fun o ho => ?_)
   simp only [K.sel, nrm] at ho; subst ho
   refine Qs (reverse_edits (by omega) hlog) ⟨rfl, trivial⟩ rfl ?_
   rintro _ _ H5 ⟨seg5, hlog5, rfl, hle5⟩
   have hL := Le.trans hL hle5; refine Q3 (Qb rfl rfl (Qe rfl rfl (Qe rfl rfl (Qi (Qc ?_))))); refine Qy ?_
   refine Zj 2 [0] rfl (fun o ho => ?_)
   simp only [K.sel, nrm] at ho; subst ho
   refine TQ.ret2 0 rfl rfl rfl ?_
   have hkn : k = es.length := by omega
   rw [hkn, List.drop_length] at hinv
   exact ⟨.inr ⟨_, _, seg5, by rw [hinv]; simp [invertI, addR], rfl, hlog5, rfl⟩, hL⟩
theorem ref_Apply {es : List Ei} {t : Tr} (hpl : ∀ e ∈ es, e.path.length ≤ 1000000) (hsz : t.size + treesI es ≤ 1000000) (hel : es.length ≤ 1000000) {w0 : World} {H : Hp} {own : List Seg} {a0 a1 ve : Value} (ht : RdL H t.d [a0, a1]) (hve : rd H (.s 4 (eiD es)) ve) :
    Fn Tryz.prog 12 [.agg #[a0, a1], ve] w0 H own (fun r own' H' => ((∃ c, applyI t es = .inl c ∧ r = .tuple #[.agg #[.string ⟨#[]⟩, .slice none 0 0], .int .i64 0, .int .i64 c]) ∨
      ∃ u d0 d1, applyI t es = .inr u ∧ r = .tuple #[.agg #[d0, d1], .int .i64 (costI t es : Int), .int .i64 0] ∧ RdL H' u.d [d0, d1]) ∧ own' = own ∧ Le H H') := by
  obtain ⟨A, c, rfl, hc1, hc2⟩ := eis_len hve
  refine Fn.enter Tryz.func12 rfl Tryz.ntmps12 rfl ?_; have hL := Le.refl H; refine Qj (Qh ?_)
  refine Zx (c := #[_, _]) rfl rfl rfl ?_; intro g2
  refine Zc rfl ?_; intro g4; refine Qe rfl rfl (Qe rfl rfl (Q3 (Qe rfl rfl (Qi (Qc ?_))))); refine Qj (Qj (Qh (Qe rfl rfl (Qi (Qc ?_))))); refine Q6 ?_
  refine Zv (fun n env' own' H' => ∃ (k m : Nat) (t1 : Tr) (u0 u1 : Value), n = es.length - k ∧ k ≤ es.length ∧ applyI t es = applyI t1 (es.drop k) ∧ costI t es = m + costI t1 (es.drop k) ∧ m ≤ k * 2000001 ∧ t1.size + treesI (es.drop k) ≤ 1000000 ∧ RdL H' t1.d [u0, u1] ∧ env' = [(1, .slice A es.length c), (2, .pointer (some ⟨g2, 0, none⟩)), (4, .pointer (some ⟨g4, 0, none⟩)), (7, .int .i64 (m : Int)), (8, .int .i64 (k : Int))] ∧ own' = [(g4, .cells #[.string ⟨#[]⟩, .slice none 0 0] 26 (0, 0))] :: [(g2, .cells #[u0, u1] 26 (0, 0))] :: own ∧ Le H H') es.length [(1, _), (2, _), (4, _), (7, _), (8, _)] ⟨rfl, rfl, rfl, rfl, rfl, trivial⟩ ⟨0, 0, t, a0, a1, by omega, by omega, rfl, by simp, by omega, hsz, ht, rfl, rfl, Le.refl _⟩ ?_
  rintro n _ _ H1 ⟨k, m, t1, u0, u1, rfl, hk1, hinv, hcost, hm1, hsz1, hu, rfl, rfl, hle1⟩
  have hL := Le.trans hL hle1; have hve := rd.mono hle1 hve; refine Qj (Qj (Qh (Qb rfl rfl (Qb rfl rfl (Qn rfl rfl ?_)))))
  refine Zz rfl rfl rfl (fun hlt => ?_) (fun hlt => ?_)
  ·
   obtain ⟨e, he⟩ : ∃ e, es[k]? = some e := ⟨_, List.getElem?_eq_getElem (by omega)⟩
   obtain ⟨b1, o1, vp, c0, c1, rfl, hcells, hvp, hx⟩ := eis_at hve he
   have hmem := List.mem_of_getElem? he
   have hpl1 := hpl e hmem; have hdr := drop_cons he
   rw [hdr] at hinv
   rw [hdr, treesI_cons] at hsz1
   rw [hdr] at hcost
   refine Qi (Qc (Qv rfl (Q2 (Qc (Qj ?_))))); refine Q6 (Qj ?_)
   rcases hst : stepI t1 e with cc | ⟨b, u⟩
   ·
    refine Q4 13  [(1, _), (2, _), (4, _), (7, _), (8, _)] follows_mixed ⟨rfl, rfl, rfl, rfl, rfl, trivial⟩ ?_
    refine Qa (some 19) [] (by
     intro H' X F hle; have hL := Le.trans hL hle; intro hF; refine Qm 1 0 [_, _] rfl rfl rfl ⟨rfl, rfl, trivial⟩ rfl rfl ?_
     exact Qd hF) ?_
    refine Qa (some 20) [] (fun _ _ _ _ hF => Qb rfl rfl (Qd hF)) ?_; refine Qa (some 21) [] (fun _ _ _ _ hF => Qb rfl rfl (Qd hF)) ?_; refine Qa (some 22) [(1, 1), (2, 0)] (fun _ _ _ _ hF => Qo (k) rfl rfl rfl (by omega) rfl (Qd hF)) ?_
    refine Qa (some 23) [(3, 0)] (by
     intro H' X F hle; have hL := Le.trans hL hle; have hcells := hAt.mono hle hcells; intro hF; refine Zd rfl (hcells) rfl rfl ?_
     exact Qd hF) ?_
    refine Qa (some 24) [(0, 4), (4, 0)] (by
     intro H' X F hle; have hL := Le.trans hL hle; have hu := RdL.mono hle hu; have hvp := rd.mono hle hvp; have hx := RdL.mono hle hx; intro hF; refine Qs (ref_Step_bad hst hpl1 (by omega) (by omega) hu hvp hx) ⟨rfl, rfl, trivial⟩ rfl ?_
     rintro _ _ H2 ⟨rfl, rfl, hle2⟩
     have hL := Le.trans hL hle2; refine Qi ?_
     exact Q7 [] hF hle2 ⟨rfl, rfl⟩) ?_
    refine Qa (some 18) [(5, 0)] (fun _ _ _ _ hF => Qb rfl rfl (Qd hF)) ?_; refine Qa (some 25) [(6, 0)] (fun _ _ _ _ hF => Qu rfl rfl rfl (Qd hF)) ?_; refine Qa (some 26) [(6, 1)] (fun _ _ _ _ hF => Qu rfl rfl rfl (Qd hF)) ?_; refine Qa (some 27) [(6, 2)] (fun _ _ _ _ hF => Qu rfl rfl rfl (Qd hF)) ?_
    refine Z5 true [] (some 9) [] ([]) (fun _ => fun u sg H => ∃ g, u = .pointer (some ⟨g, 0, none⟩) ∧ sg = [[(g, .cells #[.string ⟨#[]⟩, .slice none 0 0] 26 (0, 0))]]) (by
     intro H' X F hle; have hL := Le.trans hL hle; intro hF
     refine Zc rfl ?_; intro g9; refine Qi ?_
     exact Q7 [_] hF (Le.refl _) ⟨_, rfl, rfl⟩) ?_
    refine Z5 false [10] none [(10, 0), (7, 3)] ([]) (fun vs uu sg H => ∃ g, nthV vs 0 = .pointer (some ⟨g, 0, none⟩) ∧ sg = [[(g, .cells #[.string ⟨#[]⟩, .slice none 0 0] 26 (0, 0))]]) (by
     intro H' X F hle; have hL := Le.trans hL hle; intro _
     rintro _ _ Hr hler ⟨g9, rfl, rfl⟩
     intro hF; refine Qw (own' := _ :: _) rfl ?_; refine Qq 0 0 (c' := #[_, _]) (own' := [(_, .cells #[_, _] _ _)] :: _) rfl rfl rfl rfl rfl ⟨rfl, rfl, trivial⟩ (by simp) rfl rfl rfl (Qi ?_)
     exact Q7 [_] hF (Le.refl _) ⟨_, rfl, rfl⟩) ?_
    refine Qa (some 10) [(8, 3)] (fun _ _ _ _ hF => Qe rfl rfl (Qd hF)) ?_
    refine ⟨by kernel_rfl, .refl _, ?_⟩
    ·
     intro H1 hle
     rintro _ _ Hr hler ⟨g9, rfl, rfl⟩
     rintro _ _ Hr hler ⟨g9, e9, rfl⟩
     cases e9
     have hL := Le.trans hL hle; refine Qw (own' := _ :: _ :: _ :: own) rfl ?_; refine Zi (env' := [(1, _), (2, _), (4, _), (7, _), (8, _), (27, _), (9, _), (10, _)]) ⟨rfl, rfl, rfl, rfl, rfl, rfl, rfl, rfl, trivial⟩ (Qe rfl rfl (Qi (Qc (Qj (Qj ?_))))); refine Qh (Qb rfl rfl (TL.neq rfl rfl rfl ?_))
     rw [decide_eq_true (by have := stepI_code hst; omega)]
     refine Qi (Qc (Qv rfl (Qj (Qh ?_)))); refine Q8 [] trivial rfl rfl (Qb rfl rfl ?_); refine Qq 1 0 (c' := #[_, _]) (own' := _ :: [(_, .cells #[_, _] _ _)] :: _) rfl rfl rfl rfl rfl ⟨rfl, rfl, trivial⟩ (by simp) rfl rfl rfl (Qe rfl rfl (Qe rfl rfl (Qi (Qc (Qy ?_))))); refine Q0 (Z0 (Q0 (Q0 (Z0 (Q0 ?_))))); refine TQ.retC2 1 0 3 [_, _] rfl rfl rfl rfl rfl rfl ⟨rfl, rfl, trivial⟩ rfl rfl ?_
     exact ⟨.inl ⟨_, by rw [hinv, applyI_bad hst], rfl⟩, rfl, hL⟩
   ·
    have hsu := stepI_size hst; have hsc := stepCost_le hst; refine Q4 13  [(1, _), (2, _), (4, _), (7, _), (8, _)] follows_mixed ⟨rfl, rfl, rfl, rfl, rfl, trivial⟩ ?_
    refine Qa (some 19) [] (by
     intro H' X F hle; have hL := Le.trans hL hle; intro hF; refine Qm 1 0 [_, _] rfl rfl rfl ⟨rfl, rfl, trivial⟩ rfl rfl ?_
     exact Qd hF) ?_
    refine Qa (some 20) [] (fun _ _ _ _ hF => Qb rfl rfl (Qd hF)) ?_; refine Qa (some 21) [] (fun _ _ _ _ hF => Qb rfl rfl (Qd hF)) ?_; refine Qa (some 22) [(1, 1), (2, 0)] (fun _ _ _ _ hF => Qo (k) rfl rfl rfl (by omega) rfl (Qd hF)) ?_
    refine Qa (some 23) [(3, 0)] (by
     intro H' X F hle; have hL := Le.trans hL hle; have hcells := hAt.mono hle hcells; intro hF; refine Zd rfl (hcells) rfl rfl ?_
     exact Qd hF) ?_
    refine Q9 (some 24) [(0, 4), (4, 0)] ([]) (fun _ => fun uu sg H => ∃ d0 d1, uu = .tuple #[.agg #[d0, d1], .int .i64 (stepCost e b : Int), .int .i64 0] ∧ RdL H u.d [d0, d1] ∧ sg = []) (by
     intro H' X F hle; have hL := Le.trans hL hle; have hu := RdL.mono hle hu; have hvp := rd.mono hle hvp; have hx := RdL.mono hle hx; intro hF; refine Qs (ref_Step_ok hst hpl1 (by omega) (by omega) hu hvp hx) ⟨rfl, rfl, trivial⟩ rfl ?_
     rintro _ _ H2 ⟨f0, f1, rfl, hr2, rfl, hle2⟩
     have hL := Le.trans hL hle2; refine Qi ?_
     exact Q7 [] hF hle2 ⟨f0, f1, rfl, hr2, rfl⟩) ?_
    refine Q9 (some 18) [(5, 0)] ([]) (fun _ => fun uu sg H => ∃ d0 d1, uu = .tuple #[.agg #[d0, d1], .int .i64 (stepCost e b : Int), .int .i64 0] ∧ RdL H u.d [d0, d1] ∧ sg = []) (by
     intro H' X F hle; have hL := Le.trans hL hle; intro _
     rintro _ _ Hi hle24 ⟨f0, f1, rfl, hr24, rfl⟩
     replace hr24 := RdL.mono hle24 hr24
     intro hF; refine Qb rfl rfl (Qi ?_)
     exact Q7 [] hF (Le.refl _) ⟨f0, f1, rfl, hr24, rfl⟩) ?_
    refine Q9 (some 25) [(6, 0)] ([]) (fun _ => fun uu sg H => ∃ d0 d1, uu = .agg #[d0, d1] ∧ RdL H u.d [d0, d1] ∧ sg = []) (by
     intro H' X F hle; have hL := Le.trans hL hle; intro _
     rintro _ _ Hi hle18 ⟨f0, f1, rfl, hr18, rfl⟩
     replace hr18 := RdL.mono hle18 hr18
     intro hF; refine Qu rfl rfl rfl (Qi ?_)
     exact Q7 [] hF (Le.refl _) ⟨f0, f1, rfl, hr18, rfl⟩) ?_
    refine Qa (some 26) [(6, 1)] (by
     intro H' X F hle; intro _
     rintro _ _ Hi hle18 ⟨f0, f1, rfl, hr18, rfl⟩
     intro hF; refine Qu rfl rfl rfl ?_
     exact Qd hF) ?_
    refine Qa (some 27) [(6, 2)] (by
     intro H' X F hle; intro _
     rintro _ _ Hi hle18 ⟨f0, f1, rfl, hr18, rfl⟩
     intro hF; refine Qu rfl rfl rfl ?_
     exact Qd hF) ?_
    refine Z5 true [] (some 9) [] ([]) (fun _ => fun u sg H => ∃ g, u = .pointer (some ⟨g, 0, none⟩) ∧ sg = [[(g, .cells #[.string ⟨#[]⟩, .slice none 0 0] 26 (0, 0))]]) (by
     intro H' X F hle; have hL := Le.trans hL hle; intro hF
     refine Zc rfl ?_; intro g9; refine Qi ?_
     exact Q7 [_] hF (Le.refl _) ⟨_, rfl, rfl⟩) ?_
    refine Z5 false [10] none [(10, 0), (7, 3)] ([]) (fun vs uu sg H => ∃ g d0 d1, nthV vs 0 = .pointer (some ⟨g, 0, none⟩) ∧ sg = [[(g, .cells #[d0, d1] 26 (0, 0))]] ∧ RdL H u.d [d0, d1]) (by
     intro H' X F hle; have hL := Le.trans hL hle; intro _
     rintro _ _ Hr hler ⟨g9, rfl, rfl⟩
     intro _
     rintro _ _ Hi hle25 ⟨f0, f1, rfl, hr25, rfl⟩
     replace hr25 := RdL.mono hle25 hr25
     intro hF; refine Qw (own' := _ :: _) rfl ?_; refine Qq 0 0 (vs := [f0, f1]) (c' := #[_, _]) (own' := [(_, .cells #[_, _] _ _)] :: _) rfl rfl rfl rfl rfl (tr_ones hr25) (by simp) rfl rfl rfl (Qi ?_)
     exact Q7 [_] hF (Le.refl _) ⟨_, _, _, rfl, rfl, hr25⟩) ?_
    refine Qa (some 10) [(8, 3)] (fun _ _ _ _ hF => Qe rfl rfl (Qd hF)) ?_
    refine ⟨by kernel_rfl, .refl _, ?_⟩
    ·
     intro H2 hle
     rintro _ _ _ _ ⟨_, _, rfl, _, rfl⟩
     rintro _ _ _ _ ⟨_, _, rfl, _, rfl⟩
     rintro _ _ _ _ ⟨_, _, rfl, _, rfl⟩
     rintro _ _ Hr hler ⟨g9, rfl, rfl⟩
     rintro _ _ Hr hler ⟨g, f0, f1, he, rfl, hr9⟩
     replace he : Value.pointer (some ⟨g9, 0, none⟩) = .pointer (some ⟨g, 0, none⟩) := he
     injection he with he; injection he with he; injection he with he; subst he
     replace hr9 := RdL.mono hler hr9
     have hL := Le.trans hL hle; have hle1 := Le.trans hle1 hle; refine Qw (own' := _ :: _ :: _ :: own) rfl ?_; refine Zi (env' := [(1, _), (2, _), (4, _), (7, _), (8, _), (27, _), (9, _), (10, _)]) ⟨rfl, rfl, rfl, rfl, rfl, rfl, rfl, rfl, trivial⟩ (Qe rfl rfl (Qi (Qc (Qj (Qj ?_))))); refine Qh (Qb rfl rfl (TL.neq rfl rfl rfl ?_))
     rw [decide_eq_false (by simp)]
     refine Qi (Qc (Qr rfl (Q2 (Zm ?_)))); refine Qm 0 0 [_, _] rfl rfl rfl ⟨rfl, rfl, trivial⟩ rfl rfl ?_; refine Qq 2 0 (c' := #[_, _]) (own' := _ :: _ :: [(_, .cells #[_, _] _ _)] :: _) rfl rfl rfl rfl rfl (tr_ones hr9) (by simp) rfl rfl rfl (Qi (Qc (Qh (Qb rfl rfl (Qb rfl rfl ?_))))); refine Zb rfl rfl rfl ⟨by omega, by omega⟩ (Qe rfl rfl (Qi (Ze (Qc (Qh ?_))))); refine Qb rfl rfl ?_; refine Zb rfl rfl rfl ⟨by omega, by omega⟩ (Qe rfl rfl (Qi ?_))
     refine Zj 3 [1, 2] rfl (fun o ho => ?_)
     simp only [K.sel, nrm] at ho; subst ho
     refine Zf (es.length - (k + 1)) [(1, _), (2, _), (4, _), (7, _), (8, _)] (by omega) ⟨rfl, rfl, rfl, rfl, rfl, trivial⟩ ⟨k + 1, m + stepCost e b, u, f0, f1, rfl, by omega, ?_, ?_, by omega, by omega, hr9, by simp, rfl, hle1⟩
     · rw [hinv, applyI_cons hst]
     · rw [hcost, costI_cons hst]; omega
  ·
   refine Qi (Qc (Qr rfl (Zo (Q1 (Q1 ?_))))); refine Zp (Zm ?_); refine Qm 1 0 [_, _] rfl rfl rfl ⟨rfl, rfl, trivial⟩ rfl rfl (Qb rfl rfl ?_); refine Qq 0 0 (c' := #[_, _]) (own' := [(_, .cells #[_, _] _ _)] :: _) rfl rfl rfl rfl rfl (tr_ones hu) (by simp) rfl rfl rfl (Qe rfl rfl (Qe rfl rfl (Qi (Qc (Qy ?_))))); refine TQ.retC2 0 0 2 [_, _] rfl rfl rfl rfl rfl rfl ⟨rfl, rfl, trivial⟩ rfl rfl ?_
   have hkn : k = es.length := by omega
   rw [hkn, List.drop_length] at hinv hcost
   exact ⟨.inr ⟨t1, u0, u1, hinv, by rw [hcost]; simp [costI], hu⟩, rfl, hL⟩

end Go.Proofs.YtaomdfcplamenaaGreatDoor.K

namespace Go.Proofs.YtaomdfcplamenaaGreatDoor.K
open Go Go.RowKit Go.Proofs Go.ChangeMaps Go.MapKept Go.WideMaps
open Go.WideElems (Fit rg rd_val)

theorem putC_toList : ∀ (vs pre junk : List Value), vs.length ≤ junk.length → putC (pre ++ junk).toArray pre.length vs = (pre ++ (vs ++ junk.drop vs.length)).toArray := fun vs pre junk h => by
  rw [putC_append pre junk vs h, List.append_assoc]
theorem putC_all {c : Array Value} {vs : List Value} (h : c.size = vs.length) : putC c 0 vs = vs.toArray := by
  have := putC_toList vs [] c.toList (by simp [h])
  rw [List.drop_of_length_le (by simp [h])] at this
  simpa using this
/-! renaming and lists -/
section
variable {P : Program} {w0 : World} {N : Nat} {Q : Exit → Act → World → Prop} {env : Env} {own : List Seg} {H : Hp} {ops : Array Oper} {rest : List Oper}
variable {d : Option Tmp} {ty : TypeId} {pos : String} {af : Array Edge}
theorem TL.lssS {x y : Operand} {tx t' : TypeId} {s t : ByteArray} (hx : ev env x = some (.string s)) (hy : ev env y = some (.string t)) (hd : okD N d = true)
    (h : TL P w0 N Q ops rest (putE d (.bool (Op.bytesLess s.toList t.toList)) env) own H) :
    TL P w0 N Q ops ({ dst := d, op := .binOp .lss tx x y t', type := ty, pos := pos, after := af, guard := none } :: rest) env own H :=
  Zt hd (fun a ha w => by simp only [execOp, eqGuard, binOp, Op.stringOp, ha.ev hx, ha.ev hy]; rfl) h
theorem TL.indexS {t : TypeId} {x i : Operand} {s : ByteArray} {k : IntKind} {iv : Int} (j : Nat) {b : UInt8} (hx : ev env x = some (.string s)) (hi : ev env i = some (.int k iv)) (hj : iv = (j : Int)) (hb : s[j]? = some b) [hU : Und P t .string] (hd : okD N d = true)
    (h : TL P w0 N Q ops rest (putE d (.int .u8 (b.toNat : Int)) env) own H) :
    TL P w0 N Q ops ({ dst := d, op := .index t x i, type := ty, pos := pos, after := af, guard := none } :: rest) env own H :=
  Zt hd (fun a ha w => by
    subst hj
    simp [execOp, Instr.index, ha.ev hx, ha.ev hi, asIntOf, run_underlying hU.eq, hb]) h
def orI (k : IntKind) (x y : Int) : Int := k.wrap (BitVec.ofInt k.bits x ||| BitVec.ofInt k.bits y).toNat
theorem TL.orW {x y : Operand} {tx t' : TypeId} {k : IntKind} {m n : Int} (hx : ev env x = some (.int k m)) (hy : ev env y = some (.int k n)) (hd : okD N d = true)
    (h : TL P w0 N Q ops rest (putE d (.int k (orI k m n)) env) own H) :
    TL P w0 N Q ops ({ dst := d, op := .binOp .or tx x y t', type := ty, pos := pos, after := af, guard := none } :: rest) env own H :=
  Zt hd (fun a ha w => by simp [execOp, eqGuard, binOp, Op.intBits, ha.ev hx, ha.ev hy, orI]) h
theorem TL.shr {x y : Operand} {tx t' : TypeId} {k k' : IntKind} {m n : Int} (hx : ev env x = some (.int k m)) (hy : ev env y = some (.int k' n)) (hn : ¬ n < 0) (hd : okD N d = true)
    (h : TL P w0 N Q ops rest (putE d (.int k (m.fdiv (2 ^ (min n.toNat k.bits)))) env) own H) :
    TL P w0 N Q ops ({ dst := d, op := .binOp .shr tx x y t', type := ty, pos := pos, after := af, guard := none } :: rest) env own H :=
  Zt hd (fun a ha w => by simp [execOp, eqGuard, binOp, Op.shift, ha.ev hx, ha.ev hy, hn]) h
end
open Classical in
/-- A table of constants, the last entered first. -/
noncomputable def tblF : List (Int × Value) → Value → Option Value
  | [], _ => none
  | (n, v) :: r, key => if key = .int .i64 n then some v else tblF r key
theorem tblF_new {n : Int} {v : Value} {r : List (Int × Value)} : tblF ((n, v) :: r) (.int .i64 n) = some v := by simp [tblF]
theorem tblF_old {n : Int} {v : Value} {r : List (Int × Value)} (s : Value) (h : s ≠ .int .i64 n) : tblF ((n, v) :: r) s = tblF r s := by simp [tblF, h]
theorem K3 : Maps.Keyed Tryz.prog 3 := Maps.int_keyed Tryz.underlying3
theorem key3 {a : Int} (ha : I64 a) : keyOf Tryz.prog 3 (.int .i64 a) = some (.int .i64 a) := by
  unfold keyOf
  simp only [Tryz.underlying3]
  unfold mapKey
  simp [Tryz.underlying3, wf64 ha]
end Go.Proofs.YtaomdfcplamenaaGreatDoor.K
