/-
  Part 3 of 6 of the proof that DiffKeeps returns true for every three lists of numbers, and leaves its arguments as they were.. No condition beyond the given statement.
-/
import Derived.Lib.AppendZerosOnto
import Derived.Lib.Overlaps
import Derived.Laws.Externs
import Derived.Test.YtaomdfcplamenaaGreatDoorPkK2
set_option linter.unusedVariables false
set_option linter.unusedSimpArgs false
set_option linter.defProp false
set_option maxHeartbeats 4000000
namespace Go.Proofs.YtaomdfcplamenaaGreatDoor.K
open Go Go.RowKit Go.Proofs

theorem clone_int {p : Path} (hp : p.length ≤ 1073741824) {w0 : World} {H : Hp} {own : List Seg} {v : Value} (hA : rd H (pD p) v) :
    Fn Tryz.prog 47 [v] w0 H own (fun r own' H' => ∃ seg, own' = seg :: own ∧ Row 3 1 r p.length (pV p) seg ∧ Le H H') := by
  unfold pD at hA
  obtain ⟨A, c, rfl, hc1, hc2⟩ := vals_len hA
  rw [pV_len] at hA hc1 ⊢
  refine Fn.enter Tryz.func47 rfl Tryz.ntmps47 rfl ?_; have hL := Le.refl H; refine Qj (Qh (Qe rfl rfl (Qi (Qc (Qj ?_))))); refine Qj (Qh (Qb rfl rfl ?_))
  refine TL.eqlNilB rfl rfl rfl (fun hnil => ?_) (fun hnil => ?_)
  ·
   refine Qi (Qc (Qv rfl (Qj (Qh (Qe rfl rfl ?_))))); refine Qi (Qc (Qy (Q0 (TQ.nilseg (Q5 0 rfl rfl ?_)))))
   first
     | exact ⟨_, rfl, by simpa using hrow', hL⟩
     | exact ⟨_, rfl, by
         have e := hA.nil_of hnil
         simp only [List.map_eq_nil_iff] at e
         have e2 : p = [] := by simpa [pV] using e
         subst e2
         exact Row.nil 3 1, hL⟩
  ·
   refine Qi (Qc (Qr rfl (Q2 (Zm ?_))))
   refine Zg (r := []) [] trivial rfl rfl rfl rfl ?_; intro g5; refine Qb rfl rfl ?_; refine Zh 0 rfl rfl rfl (Row.lit 3 1 0 _ #[] rfl (by omega)) (vals_src hA (pV_one p)) (by omega) (by omega) rfl ?_; intro v' seg' hrow'; refine Qe rfl rfl (Qi (Qc (Qy (Q5 0 rfl rfl ?_))))
   first
     | exact ⟨_, rfl, by simpa using hrow', hL⟩
     | exact ⟨_, rfl, by
         have e := hA.nil_of hnil
         simp only [List.map_eq_nil_iff] at e
         have e2 : p = [] := by simpa [pV] using e
         subst e2
         exact Row.nil 3 1, hL⟩
theorem edits_n {S : List Tr} (hcl : ∀ t ∈ S, ∀ k ∈ t.kids, k ∈ S) (hS : S.length ≤ 100) (Nz : Nat) : ∀ (x y : Tr) (p : Path), x.size ≤ Nz → x ∈ S → y ∈ S → x.size + y.size ≤ 1000000 → p.length + x.size ≤ 1000000 → ∀ {es : List Ed}, es.length + (edT x y p).length ≤ 2000000 →
    ∀ {w0 : World} {H : Hp} {own : List Seg} {gi gc gd : Nat} {oc : Obj} {D : List (Tr × Tr)} {m : Value → Option Value} {v1 v2 vp u : Value} {seg : Seg},
    hAt H gd 0 [.map (some gi), .map (some gc)] → Memo S D m → MapG Tryz.prog 137 3 oc D.length m → szP H S x v1 → szP H S y v2 → rd H (pD p) vp → EdLog H u es seg →
    Fn Tryz.prog 29 [.pointer (some ⟨gd, 0, none⟩), v1, v2, vp, u] w0 H ([(gc, oc)] :: seg :: own) (fun r own' H' => ∃ seg' D' m' oc', EdLog H' r (es ++ edT x y p) seg' ∧ Memo S D' m' ∧ MapG Tryz.prog 137 3 oc' D'.length m' ∧ own' = [(gc, oc')] :: seg' :: own ∧ Le H H') := by
  induction Nz with
  | zero => intro x y p h; have := x.size_pos; omega
  | succ Nz ih =>
    intro x y p hk hx hy hsz hpl es hel w0 H own gi gc gd oc D m v1 v2 vp u seg hgd hM hG h1 h2 hvp hlog
    obtain ⟨g1, vk1, x0, x1, rfl, hp1, hd1, hs1⟩ := h1.open
    obtain ⟨g2, vk2, y0, y1, rfl, hp2, hd2, hs2⟩ := h2.open
    obtain ⟨A0, ca0, rfl, hca1, hca2⟩ := hs1.len
    obtain ⟨B0, cb0, rfl, hcb1, hcb2⟩ := hs2.len
    have hx6 := size_kids x; have hy6 := size_kids y; have hla := Tr.len_le x.kids; have hlb := Tr.len_le y.kids; have hf := fro_le x.kids y.kids
    have hb := bak_le (fro x.kids y.kids) x.kids y.kids
    have hsl := hcl x hx; have hsr := hcl y hy
    have hma : ∀ c ∈ midA x.kids y.kids, c ∈ S ∧ c.size ≤ x.size - 1 := fun c hc => ⟨hsl c (mem_mid hc), by have := kid_size (mem_mid hc); omega⟩
    have hmb : ∀ c ∈ midB x.kids y.kids, c ∈ S := fun c hc => hsr c (mem_mid hc)
    have hmid : Tr.sizes (midA x.kids y.kids) + Tr.sizes (midB x.kids y.kids) ≤ 1000000 := by
      have h2 := sizes_mid x.kids (fro x.kids y.kids) (x.kids.length - bak (fro x.kids y.kids) x.kids y.kids - fro x.kids y.kids)
      have h3 := sizes_mid y.kids (fro x.kids y.kids) (y.kids.length - bak (fro x.kids y.kids) x.kids y.kids - fro x.kids y.kids)
      unfold midA midB
      omega
    have hde := edT_eq x y p
    obtain ⟨total, htot⟩ : ∃ total, total = edT x y p := ⟨_, rfl⟩
    rw [← htot] at hde hel ⊢
    refine Fn.enter Tryz.func29 rfl Tryz.ntmps29 rfl ?_; have hL := Le.refl H; refine Qj (Qh (Qe rfl rfl (Qi (Qc (Qj ?_))))); refine Qj ?_
    have hcase : x = y ∨ (x ≠ y ∧ x.lab ≠ y.lab) ∨ (x ≠ y ∧ x.lab = y.lab) := by
      by_cases e1 : x = y
      · exact .inl e1
      · by_cases e2 : x.lab = y.lab
        · exact .inr (.inr ⟨e1, e2⟩)
        · exact .inr (.inl ⟨e1, e2⟩)
    rcases hcase with hxy | ⟨hxy, hl⟩ | ⟨hxy, hl⟩
    ·
     rw [if_pos hxy] at hde
     refine Q4 8  [(0, _), (1, _), (2, _), (3, _), (4, _), (10, _)] follows_mixed ⟨rfl, rfl, rfl, rfl, rfl, rfl, trivial⟩ ?_; refine Qa (some 20) [] (fun _ _ _ _ hF => Qb rfl rfl (Qd hF)) ?_; refine Qa (some 21) [(0, 0)] (fun _ _ _ _ hF => Qt rfl rfl (Qd hF)) ?_; refine Qa (some 22) [(1, 0)] (fun _ _ _ _ hF => Qg rfl rfl (Qd hF)) ?_
     refine Qa (some 23) [(2, 0)] (by
      intro H' X F hle; have hL := Le.trans hL hle; have hp1 := hAt.mono hle hp1; intro hF; refine Qp rfl (hp1.2.1) rfl ?_
      exact Qd hF) ?_
     refine Qa (some 24) [] (fun _ _ _ _ hF => Qb rfl rfl (Qd hF)) ?_; refine Qa (some 25) [(4, 0)] (fun _ _ _ _ hF => Qt rfl rfl (Qd hF)) ?_; refine Qa (some 26) [(5, 0)] (fun _ _ _ _ hF => Qg rfl rfl (Qd hF)) ?_
     refine Qa (some 27) [(6, 0)] (by
      intro H' X F hle; have hL := Le.trans hL hle; have hp2 := hAt.mono hle hp2; intro hF; refine Qp rfl (hp2.2.1) rfl ?_
      exact Qd hF) ?_
     refine ⟨by kernel_rfl, .refl _, ?_⟩
     ·
      intro H1 hle; have hL := Le.trans hL hle; have hlog := EdLog.mono hle hlog; refine Qw (own' := _ :: _ :: own) rfl ?_; refine Zi (env' := [(0, _), (1, _), (2, _), (3, _), (4, _), (10, _), (23, _), (27, _)]) ⟨rfl, rfl, rfl, rfl, rfl, rfl, rfl, rfl, trivial⟩ (Za rfl rfl rfl ?_)
      rw [decide_eq_true ((idx_eq hx hy).2 hxy)]
      refine Qi (Qc (Qv rfl (Qj (Qh (Qb rfl rfl ?_))))); refine Qe rfl rfl (Qi (Qc (Qy (Q0 ?_)))); refine Zn (own' := _ :: _ :: own) rfl (Q5 0 rfl rfl ?_)
      exact ⟨seg, D, m, oc, by rw [hde]; simpa using hlog, hM, hG, rfl, hL⟩
    ·
     rw [if_neg hxy, if_pos hl] at hde
     refine Q4 8  [(0, _), (1, _), (2, _), (3, _), (4, _), (10, _)] follows_mixed ⟨rfl, rfl, rfl, rfl, rfl, rfl, trivial⟩ ?_; refine Qa (some 20) [] (fun _ _ _ _ hF => Qb rfl rfl (Qd hF)) ?_; refine Qa (some 21) [(0, 0)] (fun _ _ _ _ hF => Qt rfl rfl (Qd hF)) ?_; refine Qa (some 22) [(1, 0)] (fun _ _ _ _ hF => Qg rfl rfl (Qd hF)) ?_
     refine Qa (some 23) [(2, 0)] (by
      intro H' X F hle; have hL := Le.trans hL hle; have hp1 := hAt.mono hle hp1; intro hF; refine Qp rfl (hp1.2.1) rfl ?_
      exact Qd hF) ?_
     refine Qa (some 24) [] (fun _ _ _ _ hF => Qb rfl rfl (Qd hF)) ?_; refine Qa (some 25) [(4, 0)] (fun _ _ _ _ hF => Qt rfl rfl (Qd hF)) ?_; refine Qa (some 26) [(5, 0)] (fun _ _ _ _ hF => Qg rfl rfl (Qd hF)) ?_
     refine Qa (some 27) [(6, 0)] (by
      intro H' X F hle; have hL := Le.trans hL hle; have hp2 := hAt.mono hle hp2; intro hF; refine Qp rfl (hp2.2.1) rfl ?_
      exact Qd hF) ?_
     refine ⟨by kernel_rfl, .refl _, ?_⟩
     ·
      intro H2 hle; have hL := Le.trans hL hle; have hp1 := hAt.mono hle hp1; have hp2 := hAt.mono hle hp2; have hd2 := RdL.mono hle hd2; have hvp := rd.mono hle hvp; have hlog := EdLog.mono hle hlog; refine Qw (own' := _ :: _ :: own) rfl ?_; refine Zi (env' := [(0, _), (1, _), (2, _), (3, _), (4, _), (10, _), (23, _), (27, _)]) ⟨rfl, rfl, rfl, rfl, rfl, rfl, rfl, rfl, trivial⟩ (Za rfl rfl rfl ?_)
      rw [decide_eq_false (fun h => hxy ((idx_eq hx hy).1 h))]
      refine Qi (Qc (Qr rfl (Q2 (Qc (Qj ?_))))); refine Qj ?_; refine Q4 8  [(0, _), (1, _), (2, _), (3, _), (4, _), (10, _)] follows_mixed ⟨rfl, rfl, rfl, rfl, rfl, rfl, trivial⟩ ?_; refine Qa (some 30) [] (fun _ _ _ _ hF => Qb rfl rfl (Qd hF)) ?_; refine Qa (some 31) [(0, 0)] (fun _ _ _ _ hF => Qt rfl rfl (Qd hF)) ?_; refine Qa (some 32) [(1, 0)] (fun _ _ _ _ hF => Qg rfl rfl (Qd hF)) ?_
      refine Qa (some 33) [(2, 0)] (by
       intro H' X F hle; have hL := Le.trans hL hle; have hp1 := hAt.mono hle hp1; intro hF; refine Qp rfl (hp1.1) rfl ?_
       exact Qd hF) ?_
      refine Qa (some 34) [] (fun _ _ _ _ hF => Qb rfl rfl (Qd hF)) ?_; refine Qa (some 35) [(4, 0)] (fun _ _ _ _ hF => Qt rfl rfl (Qd hF)) ?_; refine Qa (some 36) [(5, 0)] (fun _ _ _ _ hF => Qg rfl rfl (Qd hF)) ?_
      refine Qa (some 37) [(6, 0)] (by
       intro H' X F hle; have hL := Le.trans hL hle; have hp2 := hAt.mono hle hp2; intro hF; refine Qp rfl (hp2.1) rfl ?_
       exact Qd hF) ?_
      refine ⟨by kernel_rfl, .refl _, ?_⟩
      ·
       intro H3 hle; have hL := Le.trans hL hle; have hp2 := hAt.mono hle hp2; have hd2 := RdL.mono hle hd2; have hvp := rd.mono hle hvp; have hlog := EdLog.mono hle hlog; refine Qw (own' := _ :: _ :: own) rfl ?_; refine Zi (env' := [(0, _), (1, _), (2, _), (3, _), (4, _), (10, _), (33, _), (37, _)]) ⟨rfl, rfl, rfl, rfl, rfl, rfl, rfl, rfl, trivial⟩ (TL.neqS rfl rfl rfl ?_)
       rw [decide_eq_true hl]
       refine Qi (Qc (Qv rfl (Qj ?_)))
       refine Z2 2 [1, 0] rfl (fun o ho => ?_)
       simp only [K.sel, nrm] at ho; subst ho
       have hel2 : es.length + 1 ≤ 2000000 := by rw [hde] at hel; simpa using hel
       have hlog2 := hlog
       obtain ⟨xs, rs, ps, hrow, hpm, hxs⟩ := hlog2
       refine TC.flat (own' := rs :: ps :: _) (split2 hpm) ?_; refine Q4 10  [(0, _), (1, _), (2, _), (3, _), (4, _), (10, _)] follows_mixed ⟨rfl, rfl, rfl, rfl, rfl, rfl, trivial⟩ ?_; refine Qa (some 39) [] (fun _ _ _ _ hF => Qb rfl rfl (Qd hF)) ?_; refine Qa (some 40) [] (fun _ _ _ _ hF => Qb rfl rfl (Qd hF)) ?_
       refine Z5 true [] (some 41) [(1, 0)] ([]) (fun _ => fun r s H => ∃ sg, Row 3 1 r p.length (pV p) sg ∧ s = [sg]) (by
        intro H' X F hle; have hL := Le.trans hL hle; have hvp := rd.mono hle hvp; intro hF; refine Qs (clone_int (by omega) hvp) ⟨rfl, trivial⟩ rfl ?_
        rintro r _ H2 ⟨sg, rfl, hr, hle2⟩
        refine Qi ?_
        exact Q7 [_] hF hle2 ⟨sg, hr, rfl⟩) ?_
       refine Qa (some 42) [] (fun _ _ _ _ hF => Qb rfl rfl (Qd hF)) ?_; refine Qa (some 43) [(3, 0)] (fun _ _ _ _ hF => Qt rfl rfl (Qd hF)) ?_; refine Qa (some 44) [(4, 0)] (fun _ _ _ _ hF => Qg rfl rfl (Qd hF)) ?_
       refine Qa (some 45) [(5, 0)] (by
        intro H' X F hle; have hL := Le.trans hL hle; have hp2 := hAt.mono hle hp2; intro hF; refine Zd rfl (show hAt _ _ _ [y0, y1] from ⟨hp2.2.2.2.2.1, hp2.2.2.2.2.2.1, trivial⟩) rfl rfl ?_
        exact Qd hF) ?_
       refine Q9 (some 46) [(6, 0)] ([]) (fun _ => fun u s H => ∃ c0 c1, u = .agg #[c0, c1] ∧ RdL H y.d [c0, c1] ∧ s = []) (by
        intro H' X F hle; have hL := Le.trans hL hle; have hd2 := RdL.mono hle hd2; intro hF; refine Qs (diff_clone y.size y (Nat.le_refl _) (by omega) hd2) ⟨rfl, trivial⟩ rfl ?_
        rintro _ _ H2 ⟨c0, c1, rfl, hr, rfl, hle2⟩
        refine Qi ?_
        exact Q7 [] hF hle2 ⟨c0, c1, rfl, hr, rfl⟩) ?_
       refine Z5 true [2] (some 47) [(2, 5), (7, 0)] ([]) (fun vs u s H => ∃ vp c0 c1 sg, u = .agg #[.int .i64 3, vp, c0, c1] ∧ Row 3 1 vp p.length (pV p) sg ∧ RdL H y.d [c0, c1] ∧ s = [sg]) (by
        intro H' X F hle; have hL := Le.trans hL hle; intro _
        rintro r41 _ Hi hle41 ⟨sg41, hr41, rfl⟩
        intro _
        rintro _ _ Hj hle46 ⟨c0, c1, rfl, hr46, rfl⟩
        replace hr46 := RdL.mono hle46 hr46
        intro hF; refine Qw (own' := _ :: _) rfl ?_; refine Q8 [(0, [_]), (1, [_]), (2, [_, _])] ⟨rfl, ⟨_, rfl, rfl⟩, rfl, ⟨_, rfl, one_cells hr41.one⟩, rfl, ⟨_, rfl, rfl⟩, trivial⟩ rfl rfl (Qi ?_)
        exact Q7 [_] hF (Le.refl _) ⟨_, _, _, _, rfl, hr41, hr46, rfl⟩) ?_
       refine Z5 false [8] (some 48) [(8, 0)] ([]) (fun vs u s H => ∃ g vp c0 c1 sg, u = .slice (some ⟨g, 0, none⟩) 1 1 ∧ Row 3 1 vp p.length (pV p) sg ∧ RdL H y.d [c0, c1] ∧ s = [[(g, .cells #[.int .i64 3, vp, c0, c1] 46 (0, 0))], sg]) (by
        intro H' X F hle; have hL := Le.trans hL hle; intro _
        rintro _ _ Hi hle47 ⟨vp, c0, c1, sg41, rfl, hrp, hr47, rfl⟩
        replace hr47 := RdL.mono hle47 hr47
        intro hF; refine Qw (own' := _ :: _) rfl ?_
        refine Zg (r := [_, _, _, _]) [(0, [_, _, _, _])] ⟨rfl, ⟨_, rfl, rfl⟩, trivial⟩ rfl rfl rfl rfl ?_; intro g48; refine Qi ?_
        exact Q7 [_, _] hF (Le.refl _) ⟨_, _, _, _, _, rfl, hrp, hr47, rfl⟩) ?_
       refine ⟨by kernel_rfl, .refl _, ?_⟩
       ·
        intro H4 hle
        rintro r41 _ Hi hle41 ⟨sg41, hr41, rfl⟩
        rintro _ _ Hj hle46 ⟨c0, c1, rfl, hr46, rfl⟩
        rintro _ _ Hi hle47 ⟨vp, c0, c1, sg41, rfl, hrp, hr47, rfl⟩
        rintro _ _ Hr hler ⟨g48, vp, c0, c1, sg41, rfl, hrp, hr48, rfl⟩
        replace hr48 := RdL.mono hler hr48
        have hL := Le.trans hL hle; have hxs := ownE.mono hle hxs; refine Qw (own' := _ :: _ :: _ :: _ :: _ :: own) rfl ?_; refine Zi (env' := [(0, _), (1, _), (2, _), (3, _), (4, _), (10, _), (39, _), (48, _)]) ⟨rfl, rfl, rfl, rfl, rfl, rfl, rfl, rfl, trivial⟩ ?_; refine Zh 2 rfl rfl rfl hrow (Src.ofOwn 0 0 rfl rfl rfl (Ones.all (show Ones [_, _, _, _] from ⟨rfl, hrp.one, (tr_ones hr48).1, (tr_ones hr48).2.1, trivial⟩)) ⟨rfl, rfl, rfl, rfl, trivial⟩) (by omega) (by omega) rfl ?_; intro v49 seg49 hrow49; refine Qe rfl rfl (Qi (Qc (Qy (Q0 ?_))))
        refine Zj 5 [4, 2, 3, 1] rfl (fun o ho => ?_)
        simp only [K.sel, nrm] at ho; subst ho
        refine TQ.flat (own' := _ :: (seg49 ++ (ps ++ sg41)) :: own) join4 ?_; refine Zn (own' := _ :: _ :: own) rfl (Q5 0 rfl rfl ?_)
        exact ⟨seg49 ++ (ps ++ sg41), D, m, oc, by rw [hde]; exact EdLog.put (e := ⟨3, p, y⟩) hrow49 hxs hrp hr48, hM, hG, rfl, hL⟩
    ·
     rw [if_neg hxy, if_neg (fun h => h hl)] at hde
     refine Q4 8  [(0, _), (1, _), (2, _), (3, _), (4, _), (10, _)] follows_mixed ⟨rfl, rfl, rfl, rfl, rfl, rfl, trivial⟩ ?_; refine Qa (some 20) [] (fun _ _ _ _ hF => Qb rfl rfl (Qd hF)) ?_; refine Qa (some 21) [(0, 0)] (fun _ _ _ _ hF => Qt rfl rfl (Qd hF)) ?_; refine Qa (some 22) [(1, 0)] (fun _ _ _ _ hF => Qg rfl rfl (Qd hF)) ?_
     refine Qa (some 23) [(2, 0)] (by
      intro H' X F hle; have hL := Le.trans hL hle; have hp1 := hAt.mono hle hp1; intro hF; refine Qp rfl (hp1.2.1) rfl ?_
      exact Qd hF) ?_
     refine Qa (some 24) [] (fun _ _ _ _ hF => Qb rfl rfl (Qd hF)) ?_; refine Qa (some 25) [(4, 0)] (fun _ _ _ _ hF => Qt rfl rfl (Qd hF)) ?_; refine Qa (some 26) [(5, 0)] (fun _ _ _ _ hF => Qg rfl rfl (Qd hF)) ?_
     refine Qa (some 27) [(6, 0)] (by
      intro H' X F hle; have hL := Le.trans hL hle; have hp2 := hAt.mono hle hp2; intro hF; refine Qp rfl (hp2.2.1) rfl ?_
      exact Qd hF) ?_
     refine ⟨by kernel_rfl, .refl _, ?_⟩
     ·
      intro H5 hle; have hL := Le.trans hL hle; have hgd := hAt.mono hle hgd; have hp1 := hAt.mono hle hp1; have hp2 := hAt.mono hle hp2; have hs1 := szS.mono hle hs1; have hs2 := szS.mono hle hs2; have hvp := rd.mono hle hvp; have hlog := EdLog.mono hle hlog; refine Qw (own' := _ :: _ :: own) rfl ?_; refine Zi (env' := [(0, _), (1, _), (2, _), (3, _), (4, _), (10, _), (23, _), (27, _)]) ⟨rfl, rfl, rfl, rfl, rfl, rfl, rfl, rfl, trivial⟩ (Za rfl rfl rfl ?_)
      rw [decide_eq_false (fun h => hxy ((idx_eq hx hy).1 h))]
      refine Qi (Qc (Qr rfl (Q2 (Qc (Qj ?_))))); refine Qj ?_; refine Q4 8  [(0, _), (1, _), (2, _), (3, _), (4, _), (10, _)] follows_mixed ⟨rfl, rfl, rfl, rfl, rfl, rfl, trivial⟩ ?_; refine Qa (some 30) [] (fun _ _ _ _ hF => Qb rfl rfl (Qd hF)) ?_; refine Qa (some 31) [(0, 0)] (fun _ _ _ _ hF => Qt rfl rfl (Qd hF)) ?_; refine Qa (some 32) [(1, 0)] (fun _ _ _ _ hF => Qg rfl rfl (Qd hF)) ?_
      refine Qa (some 33) [(2, 0)] (by
       intro H' X F hle; have hL := Le.trans hL hle; have hp1 := hAt.mono hle hp1; intro hF; refine Qp rfl (hp1.1) rfl ?_
       exact Qd hF) ?_
      refine Qa (some 34) [] (fun _ _ _ _ hF => Qb rfl rfl (Qd hF)) ?_; refine Qa (some 35) [(4, 0)] (fun _ _ _ _ hF => Qt rfl rfl (Qd hF)) ?_; refine Qa (some 36) [(5, 0)] (fun _ _ _ _ hF => Qg rfl rfl (Qd hF)) ?_
      refine Qa (some 37) [(6, 0)] (by
       intro H' X F hle; have hL := Le.trans hL hle; have hp2 := hAt.mono hle hp2; intro hF; refine Qp rfl (hp2.1) rfl ?_
       exact Qd hF) ?_
      refine ⟨by kernel_rfl, .refl _, ?_⟩
      ·
       intro H6 hle; have hL := Le.trans hL hle; have hgd := hAt.mono hle hgd; have hp1 := hAt.mono hle hp1; have hp2 := hAt.mono hle hp2; have hs1 := szS.mono hle hs1; have hs2 := szS.mono hle hs2; have hvp := rd.mono hle hvp; have hlog := EdLog.mono hle hlog; refine Qw (own' := _ :: _ :: own) rfl ?_; refine Zi (env' := [(0, _), (1, _), (2, _), (3, _), (4, _), (10, _), (33, _), (37, _)]) ⟨rfl, rfl, rfl, rfl, rfl, rfl, rfl, rfl, trivial⟩ (TL.neqS rfl rfl rfl ?_)
       rw [decide_eq_false (fun h => h hl)]
       refine Qi (Qc (Qr rfl (Q2 (Qc (Qj ?_))))); refine Q4 13  [(0, _), (1, _), (2, _), (3, _), (4, _), (10, _)] follows_mixed ⟨rfl, rfl, rfl, rfl, rfl, rfl, trivial⟩ ?_; refine Qa (some 51) [] (fun _ _ _ _ hF => Qb rfl rfl (Qd hF)) ?_; refine Qa (some 52) [(0, 0)] (fun _ _ _ _ hF => Qt rfl rfl (Qd hF)) ?_; refine Qa (some 53) [(1, 0)] (fun _ _ _ _ hF => Qg rfl rfl (Qd hF)) ?_
       refine Qa (some 54) [(2, 0)] (by
        intro H' X F hle; have hL := Le.trans hL hle; have hp1 := hAt.mono hle hp1; intro hF; refine Qp rfl (hp1.2.2.2.1) rfl ?_
        exact Qd hF) ?_
       refine Qa (some 55) [] (fun _ _ _ _ hF => Qb rfl rfl (Qd hF)) ?_; refine Qa (some 56) [(4, 0)] (fun _ _ _ _ hF => Qt rfl rfl (Qd hF)) ?_; refine Qa (some 57) [(5, 0)] (fun _ _ _ _ hF => Qg rfl rfl (Qd hF)) ?_
       refine Qa (some 58) [(6, 0)] (by
        intro H' X F hle; have hL := Le.trans hL hle; have hp2 := hAt.mono hle hp2; intro hF; refine Qp rfl (hp2.2.2.2.1) rfl ?_
        exact Qd hF) ?_
       refine Qa (some 59) [(3, 4), (7, 0)] (by
        intro H' X F hle; have hL := Le.trans hL hle; have hs1 := szS.mono hle hs1; have hs2 := szS.mono hle hs2; intro hF; refine Qs (trim_n hsl hsr (by omega) (by omega) hs1 hs2) ⟨rfl, rfl, trivial⟩ rfl ?_
        rintro _ _ H5 ⟨rfl, rfl, hle5⟩
        have hL := Le.trans hL hle5; refine Qi ?_
        exact Q7 [] hF hle5 ⟨rfl, rfl⟩) ?_
       refine Qa (some 50) [(8, 0)] (fun _ _ _ _ hF => Qb rfl rfl (Qd hF)) ?_; refine Qa (some 60) [(9, 0)] (fun _ _ _ _ hF => Qu rfl rfl rfl (Qd hF)) ?_; refine Qa (some 61) [(9, 1)] (fun _ _ _ _ hF => Qu rfl rfl rfl (Qd hF)) ?_; refine Qa (some 11) [(10, 1)] (fun _ _ _ _ hF => Qe rfl rfl (Qd hF)) ?_
       refine ⟨by kernel_rfl, .refl _, ?_⟩
       ·
        intro H7 hle; have hL := Le.trans hL hle; have hgd := hAt.mono hle hgd; have hp1 := hAt.mono hle hp1; have hp2 := hAt.mono hle hp2; have hs1 := szS.mono hle hs1; have hs2 := szS.mono hle hs2; have hvp := rd.mono hle hvp; have hlog := EdLog.mono hle hlog; refine Qw (own' := _ :: _ :: own) rfl ?_; refine Zi (env' := [(0, _), (1, _), (2, _), (3, _), (4, _), (10, _), (61, _), (11, _)]) ⟨rfl, rfl, rfl, rfl, rfl, rfl, rfl, rfl, trivial⟩ (Qe rfl rfl (Qi (Qc (Qj ?_)))); refine Q4 27  [(0, _), (1, _), (2, _), (3, _), (4, _), (10, _), (11, _), (12, _)] follows_mixed ⟨rfl, rfl, rfl, rfl, rfl, rfl, rfl, rfl, trivial⟩ ?_; refine Qa (some 62) [] (fun _ _ _ _ hF => Qb rfl rfl (Qd hF)) ?_; refine Qa (some 63) [(0, 0)] (fun _ _ _ _ hF => Qt rfl rfl (Qd hF)) ?_
        refine Qa (some 64) [(1, 0)] (fun _ _ _ _ hF => Qg rfl rfl (Qd hF)) ?_
        refine Qa (some 65) [(2, 0)] (by
         intro H' X F hle; have hL := Le.trans hL hle; have hp1 := hAt.mono hle hp1; intro hF; refine Qp rfl (hp1.2.2.2.1) rfl ?_
         exact Qd hF) ?_
        refine Qa (some 66) [] (fun _ _ _ _ hF => Qb rfl rfl (Qd hF)) ?_; refine Qa (some 67) [] (fun _ _ _ _ hF => Qb rfl rfl (Qd hF)) ?_; refine Qa (some 68) [(5, 0)] (fun _ _ _ _ hF => Qt rfl rfl (Qd hF)) ?_; refine Qa (some 69) [(6, 0)] (fun _ _ _ _ hF => Qg rfl rfl (Qd hF)) ?_
        refine Qa (some 70) [(7, 0)] (by
         intro H' X F hle; have hL := Le.trans hL hle; have hp1 := hAt.mono hle hp1; intro hF; refine Qp rfl (hp1.2.2.2.1) rfl ?_
         exact Qd hF) ?_
        refine Qa (some 71) [(8, 0)] (by
         intro H' X F hle; have hL := Le.trans hL hle; intro hF; refine Qn rfl rfl ?_
         exact Qd hF) ?_
        refine Qa (some 72) [] (fun _ _ _ _ hF => Qb rfl rfl (Qd hF)) ?_; refine Qa (some 73) [(9, 1), (10, 0)] (fun _ _ _ _ hF => Zu rfl rfl rfl ⟨by omega, by omega⟩ (Qd hF)) ?_
        refine Q9 (some 74) [(3, 8), (4, 7), (11, 0)] ([]) (fun _ => fun u s H => szS H S (midA x.kids y.kids) u ∧ s = []) (by
         intro H' X F hle; have hL := Le.trans hL hle; have hs1 := szS.mono hle hs1; intro hF; refine Z3 (fro x.kids y.kids) (x.kids.length - bak (fro x.kids y.kids) x.kids y.kids) rfl ⟨_, _, rfl, rfl⟩ ⟨_, _, rfl, rfl⟩ rfl (by show (_ : Int) - _ = _; omega) (by omega) (by omega) rfl ?_
         refine Qi ?_
         exact Q7 [] hF (Le.refl _) ⟨hs1.cut (by omega) (by omega), rfl⟩) ?_
        refine Qa (some 75) [] (fun _ _ _ _ hF => Qb rfl rfl (Qd hF)) ?_; refine Qa (some 76) [(13, 0)] (fun _ _ _ _ hF => Qt rfl rfl (Qd hF)) ?_; refine Qa (some 77) [(14, 0)] (fun _ _ _ _ hF => Qg rfl rfl (Qd hF)) ?_
        refine Qa (some 78) [(15, 0)] (by
         intro H' X F hle; have hL := Le.trans hL hle; have hp2 := hAt.mono hle hp2; intro hF; refine Qp rfl (hp2.2.2.2.1) rfl ?_
         exact Qd hF) ?_
        refine Qa (some 79) [] (fun _ _ _ _ hF => Qb rfl rfl (Qd hF)) ?_; refine Qa (some 80) [] (fun _ _ _ _ hF => Qb rfl rfl (Qd hF)) ?_; refine Qa (some 81) [(18, 0)] (fun _ _ _ _ hF => Qt rfl rfl (Qd hF)) ?_; refine Qa (some 82) [(19, 0)] (fun _ _ _ _ hF => Qg rfl rfl (Qd hF)) ?_
        refine Qa (some 83) [(20, 0)] (by
         intro H' X F hle; have hL := Le.trans hL hle; have hp2 := hAt.mono hle hp2; intro hF; refine Qp rfl (hp2.2.2.2.1) rfl ?_
         exact Qd hF) ?_
        refine Qa (some 84) [(21, 0)] (by
         intro H' X F hle; have hL := Le.trans hL hle; intro hF; refine Qn rfl rfl ?_
         exact Qd hF) ?_
        refine Qa (some 85) [] (fun _ _ _ _ hF => Qb rfl rfl (Qd hF)) ?_; refine Qa (some 86) [(22, 1), (23, 0)] (fun _ _ _ _ hF => Zu rfl rfl rfl ⟨by omega, by omega⟩ (Qd hF)) ?_
        refine Q9 (some 87) [(16, 8), (17, 7), (24, 0)] ([]) (fun _ => fun u s H => szS H S (midB x.kids y.kids) u ∧ s = []) (by
         intro H' X F hle; have hL := Le.trans hL hle; have hs2 := szS.mono hle hs2; intro hF; refine Z3 (fro x.kids y.kids) (y.kids.length - bak (fro x.kids y.kids) x.kids y.kids) rfl ⟨_, _, rfl, rfl⟩ ⟨_, _, rfl, rfl⟩ rfl (by show (_ : Int) - _ = _; omega) (by omega) (by omega) rfl ?_
         refine Qi ?_
         exact Q7 [] hF (Le.refl _) ⟨hs2.cut (by omega) (by omega), rfl⟩) ?_
        refine Q9 (some 13) [(12, 13)] ([]) (fun _ => fun u s H => szS H S (midA x.kids y.kids) u ∧ s = []) (by
         intro H' X F hle; have hL := Le.trans hL hle; intro _
         rintro v74 _ Hi hle74 ⟨hv74, rfl⟩
         replace hv74 := szS.mono hle74 hv74
         intro hF; refine Qe rfl rfl (Qi ?_)
         exact Q7 [] hF (Le.refl _) ⟨hv74, rfl⟩) ?_
        refine ⟨by kernel_rfl, .refl _, ?_⟩
        ·
         intro H8 hle
         rintro v74 _ Hi hle74 ⟨hv74, rfl⟩
         rintro v87 _ Hi hle87 ⟨hv87, rfl⟩
         replace hv87 := szS.mono hle87 hv87
         rintro v13 _ Hi hle13 ⟨hv13, rfl⟩
         replace hv13 := szS.mono hle13 hv13
         have hL := Le.trans hL hle; have hgd := hAt.mono hle hgd; have hvp := rd.mono hle hvp; have hlog := EdLog.mono hle hlog; refine Qw (own' := _ :: _ :: own) rfl ?_; refine Zi (env' := [(0, _), (1, _), (2, _), (3, _), (4, _), (10, _), (11, _), (87, _), (13, _)]) ⟨rfl, rfl, rfl, rfl, rfl, rfl, rfl, rfl, rfl, trivial⟩ (Qe rfl rfl (Qi (Qc (Qj ?_))))
         obtain ⟨f, hf0⟩ : ∃ f, fro x.kids y.kids = f := ⟨_, rfl⟩
         have hbk := bak_le f x.kids y.kids
         have ha0 : (midA x.kids y.kids).length ≤ x.kids.length := by unfold midA; simp only [List.length_take, List.length_drop]; omega
         have hb0 : f + (midB x.kids y.kids).length ≤ y.kids.length := by rw [← hf0] at hbk ⊢; unfold midB; simp only [List.length_take, List.length_drop]; omega
         obtain ⟨a, ha⟩ : ∃ a, midA x.kids y.kids = a := ⟨_, rfl⟩
         obtain ⟨b, hb'⟩ : ∃ b, midB x.kids y.kids = b := ⟨_, rfl⟩
         rw [ha] at hma hmid hde hv13 ha0
         rw [hb'] at hmb hmid hde hv87 hb0
         rw [hf0] at hde
         simp only [hf0]
         obtain ⟨A, ca, rfl, hva1, hva2⟩ := hv13.len
         obtain ⟨B, cb, rfl, hvb1, hvb2⟩ := hv87.len
         refine Qh (Qb rfl rfl (Qb rfl rfl (Qb rfl rfl ?_))); refine Qs (table_n (distance_n hcl hS (x.size - 1)) hma hmb hmid hgd hM hG hv13 hv87) ⟨rfl, rfl, rfl, trivial⟩ rfl ?_
         rintro v91 _ H7 ⟨D2, m2, oc2, hM2, _, hG2, htab, rfl, hle7⟩
         obtain ⟨g91, rfl⟩ := htab.sl
         have hL := Le.trans hL hle7; have hgd := hAt.mono hle7 hgd; have hvp := rd.mono hle7 hvp; have hlog := EdLog.mono hle7 hlog; have hv13 := szS.mono hle7 hv13; have hv87 := szS.mono hle7 hv87; refine Qe rfl rfl (Q3 (Qb rfl rfl (Qe rfl rfl (Qi (Qc ?_))))); refine Qj (Qj (Qh (Qe rfl rfl (Qe rfl rfl (Qi ?_))))); refine Qc (Q6 ?_)
         refine Zv (fun n env' own' H' => ∃ (i j q : Nat) (u1 : Value) (seg1 : Seg) (es1 : List Ed) (D1 : List (Tr × Tr)) (m1 : Value → Option Value) (oc1 : Obj), n = (a.length - i) + (b.length - j) ∧ i ≤ a.length ∧ j ≤ b.length ∧ q + (b.length - j) ≤ f + b.length ∧ EdLog H' u1 es1 seg1 ∧ es1 ++ wk edT p (a.drop i) (b.drop j) q = es ++ total ∧ Memo S D1 m1 ∧ MapG Tryz.prog 137 3 oc1 D1.length m1 ∧ env' = [(0, .pointer (some ⟨gd, 0, none⟩)), (3, vp), (4, u1), (13, .slice A a.length ca), (14, .slice B b.length cb), (15, .slice (some ⟨g91, 0, none⟩) (a.length + 1) (a.length + 1)), (16, .int .i64 (q : Int)), (17, .int .i64 (i : Int)), (18, .int .i64 (j : Int))] ∧ own' = [(gc, oc1)] :: seg1 :: own ∧ Le H7 H') (a.length + b.length) [(0, _), (3, _), (4, _), (13, _), (14, _), (15, _), (16, _), (17, _), (18, _)] ⟨rfl, rfl, rfl, rfl, rfl, rfl, rfl, rfl, rfl, trivial⟩ ⟨0, 0, f, u, seg, es, D2, m2, oc2, by omega, by omega, by omega, by omega, hlog, by rw [hde]; rfl, hM2, hG2, rfl, rfl, Le.refl _⟩ ?_
         rintro n _ _ H8 ⟨i, j, q, u1, seg1, es1, D1, m1, oc1, rfl, hi1, hj1, hq1, hlog1, hes, hM1, hG1, rfl, rfl, hle0⟩
         have hesl := congrArg List.length hes
         simp only [List.length_append] at hesl
         have hL := Le.trans hL hle0; have hgd := hAt.mono hle0 hgd; have hvp := rd.mono hle0 hvp; have hv13 := szS.mono hle0 hv13; have hv87 := szS.mono hle0 hv87; have htab := TabAt.mono hle0 htab; refine Qj (Qj ?_)
         have hcase : (i = a.length ∧ j = b.length) ∨ (∃ c, a[i]? = some c ∧ i < a.length ∧ j = b.length) ∨ (∃ d, b[j]? = some d ∧ i = a.length ∧ j < b.length) ∨
             (∃ c d, a[i]? = some c ∧ b[j]? = some d ∧ i < a.length ∧ j < b.length ∧ alD dist (a.drop i) (b.drop j) = alD dist (a.drop (i + 1)) (b.drop (j + 1)) + dist c d) ∨
             (∃ c d, a[i]? = some c ∧ b[j]? = some d ∧ i < a.length ∧ j < b.length ∧ ¬ alD dist (a.drop i) (b.drop j) = alD dist (a.drop (i + 1)) (b.drop (j + 1)) + dist c d ∧ alD dist (a.drop i) (b.drop j) = alD dist (a.drop (i + 1)) (b.drop j) + c.size) ∨
             (∃ c d, a[i]? = some c ∧ b[j]? = some d ∧ i < a.length ∧ j < b.length ∧ ¬ alD dist (a.drop i) (b.drop j) = alD dist (a.drop (i + 1)) (b.drop (j + 1)) + dist c d ∧ ¬ alD dist (a.drop i) (b.drop j) = alD dist (a.drop (i + 1)) (b.drop j) + c.size) := by
           rcases Nat.lt_or_ge i a.length with h1 | h1
           · rcases Nat.lt_or_ge j b.length with h2 | h2
             · by_cases e1 : alD dist (a.drop i) (b.drop j) = alD dist (a.drop (i + 1)) (b.drop (j + 1)) + dist a[i] b[j]
               · exact .inr (.inr (.inr (.inl ⟨_, _, List.getElem?_eq_getElem h1, List.getElem?_eq_getElem h2, h1, h2, e1⟩)))
               · by_cases e2 : alD dist (a.drop i) (b.drop j) = alD dist (a.drop (i + 1)) (b.drop j) + a[i].size
                 · exact .inr (.inr (.inr (.inr (.inl ⟨_, _, List.getElem?_eq_getElem h1, List.getElem?_eq_getElem h2, h1, h2, e1, e2⟩))))
                 · exact .inr (.inr (.inr (.inr (.inr ⟨_, _, List.getElem?_eq_getElem h1, List.getElem?_eq_getElem h2, h1, h2, e1, e2⟩))))
             · exact .inr (.inl ⟨_, List.getElem?_eq_getElem h1, h1, by omega⟩)
           · rcases Nat.lt_or_ge j b.length with h2 | h2
             · exact .inr (.inr (.inl ⟨_, List.getElem?_eq_getElem h2, by omega, h2⟩))
             · exact .inl ⟨by omega, by omega⟩
         rcases hcase with ⟨hi2, hj2⟩ | ⟨c, hx1, hi2, hj2⟩ | ⟨d, hy1, hi2, hj2⟩ | ⟨c, d, hx1, hy1, hi2, hj2, hT1⟩ | ⟨c, d, hx1, hy1, hi2, hj2, hT1, hT2⟩ | ⟨c, d, hx1, hy1, hi2, hj2, hT1, hT2⟩
         ·
          refine Qh (Qb rfl rfl (Qb rfl rfl (Qn rfl rfl (Zl rfl rfl rfl ?_))))
          rw [decide_eq_false (by omega)]
          refine Qb rfl rfl ?_; refine Qf rfl rfl rfl (Qb rfl rfl ?_); refine Qf rfl rfl rfl (Qb rfl rfl ?_); refine Qf rfl rfl rfl (Qn rfl rfl ?_); refine Qf rfl rfl rfl (Zl rfl rfl rfl ?_)
          rw [decide_eq_false (by omega)]
          refine Qx rfl rfl rfl rfl (Qi (Qc (Qr rfl (Zo (Q1 ?_))))); refine Q1 (Zp (Zm (Qb rfl rfl (Qe rfl rfl (Qi ?_))))); refine Qc (Qy ?_); refine Zn (own' := _ :: _ :: own) rfl (Q5 0 rfl rfl ?_)
          exact ⟨seg1, D1, m1, oc1, by rw [← hes, wk_end hi2 hj2, List.append_nil]; exact hlog1, hM1, hG1, rfl, hL⟩
         ·
          obtain ⟨b1, o1, u1', rfl, hc1, hz1⟩ := hv13.at hx1
          obtain ⟨g3, v3, z0, z1, rfl, hp3, _, _⟩ := hz1.open
          obtain ⟨hcS, hcz⟩ := hma c (List.mem_of_getElem? hx1)
          have hxs := Tr.size_mem (List.mem_of_getElem? hx1)
          obtain ⟨r0, hr0, hr0'⟩ := htab.row (i := i) (by omega)
          have k00 := hr0' j (by omega)
          obtain ⟨r1, hr1, hr1'⟩ := htab.row (i := i + 1) (by omega)
          have k10 := hr1' j (by omega)
          have d0 := alD_bd a b i j
          have d1 := alD_bd a b (i + 1) j
          have hT2 := alD_d hx1 hj2
          have hw := (wk_d hx1 hj2 : wk edT p (a.drop i) (b.drop j) q = _)
          have hwl := congrArg List.length hw
          simp only [List.length_cons] at hwl
          refine Qh (Qb rfl rfl (Qb rfl rfl (Qn rfl rfl (Zl rfl rfl rfl ?_))))
          rw [decide_eq_true (by omega)]
          refine Qb rfl rfl ?_; refine Ql rfl rfl rfl rfl ?_; refine Ql rfl rfl rfl rfl ?_; refine Ql rfl rfl rfl rfl ?_; refine Ql rfl rfl rfl rfl ?_; refine Qz rfl rfl rfl rfl (Qi (Qc (Qv rfl (Q2 (Qc ?_))))); refine Q6 (Qj (Qh (Qb rfl rfl ?_))); refine Qs (clone_int (by omega) hvp) ⟨rfl, trivial⟩ rfl ?_
          rintro v104 _ H9 ⟨sgp, rfl, hrp, hle9⟩
          have hL := Le.trans hL hle9; have hle0 := Le.trans hle0 hle9; have hlog1 := EdLog.mono hle9 hlog1; have hc1 := cel_le hle9 hc1; have hp3 := hAt.mono hle9 hp3; have hr0 := cel_le hle9 hr0
          have k00 := cel_le hle9 k00
          have hr1 := cel_le hle9 hr1
          have k10 := cel_le hle9 k10
          refine Qb rfl rfl ?_
          refine Zg (r := [_]) [(0, [_])] ⟨rfl, ⟨_, rfl, rfl⟩, trivial⟩ rfl rfl rfl rfl ?_; intro g106; refine Zh 1 rfl rfl rfl hrp (Src.ofOwn 0 0 rfl rfl rfl (Ones.all (show Ones [_] from ⟨by rfl, trivial⟩)) ⟨rfl, trivial⟩) (by omega) (by omega) rfl ?_; intro v107 seg107 hrow107; refine Qe rfl rfl (Qi (Qc (Q6 (Qj ?_))))
          refine Z2 4 [2, 3, 0, 1] rfl (fun o ho => ?_)
          simp only [K.sel, nrm] at ho; subst ho
          refine Q4 38  [(0, _), (3, _), (4, _), (13, _), (14, _), (15, _), (16, _), (17, _), (18, _), (19, _)] follows_mixed ⟨rfl, rfl, rfl, rfl, rfl, rfl, rfl, rfl, rfl, rfl, trivial⟩ ?_; refine Qa (some 126) [] (fun _ _ _ _ hF => Qb rfl rfl (Qd hF)) ?_; refine Qa (some 127) [] (fun _ _ _ _ hF => Qb rfl rfl (Qd hF)) ?_
          refine Qa (some 128) [(1, 0)] (by
           intro H' X F hle; have hL := Le.trans hL hle
           have k00 := cel_le hle k00
           have k10 := cel_le hle k10
           intro hF; refine Qn rfl rfl ?_
           exact Qd hF) ?_
          refine Qa (some 129) [(0, 2), (2, 0)] (by
           intro H' X F hle; have hL := Le.trans hL hle
           have k00 := cel_le hle k00
           have k10 := cel_le hle k10
           intro hF; refine Zl rfl rfl rfl ?_
           rw [decide_eq_true (by omega)]
           exact Qd hF) ?_
          refine Qa (some 130) [(3, 0)] (fun _ _ _ _ hF => Qb rfl rfl (Qd hF)) ?_
          refine Qa (some 131) [(4, 0)] (by
           intro H' X F hle hF; refine Qf rfl rfl rfl (Qb rfl rfl ?_)
           exact Qd hF) ?_
          refine Qa (some 132) [(4, 1)] (by
           intro H' X F hle hF; refine Qf rfl rfl rfl (Qb rfl rfl ?_)
           exact Qd hF) ?_
          refine Qa (some 133) [(6, 0), (4, 2)] (by
           intro H' X F hle; have hL := Le.trans hL hle
           have k00 := cel_le hle k00
           have k10 := cel_le hle k10
           intro hF; refine Qf rfl rfl rfl (Qn rfl rfl ?_)
           exact Qd hF) ?_
          refine Qa (some 134) [(5, 2), (7, 0), (4, 3)] (by
           intro H' X F hle; have hL := Le.trans hL hle
           have k00 := cel_le hle k00
           have k10 := cel_le hle k10
           intro hF; refine Qf rfl rfl rfl (Zl rfl rfl rfl ?_)
           rw [decide_eq_false (by omega)]
           exact Qd hF) ?_
          refine Qa (some 135) [(4, 4), (8, 0)] (fun _ _ _ _ hF => Qz rfl rfl rfl rfl (Qd hF)) ?_; refine Qa (some 136) [(9, 0)] (fun _ _ _ _ hF => Qb rfl rfl (Qd hF)) ?_
          refine Qa (some 137) [(10, 0)] (by
           intro H' X F hle hF; refine Ql rfl rfl rfl rfl ?_
           exact Qd hF) ?_
          refine Qa (some 138) [(10, 1)] (by
           intro H' X F hle hF; refine Ql rfl rfl rfl rfl ?_
           exact Qd hF) ?_
          refine Qa (some 139) [(11, 1), (12, 0), (10, 2)] (by
           intro H' X F hle hF; refine Ql rfl rfl rfl rfl ?_
           exact Qd hF) ?_
          refine Qa (some 140) [(13, 0), (10, 3)] (by
           intro H' X F hle hF; refine Ql rfl rfl rfl rfl ?_
           exact Qd hF) ?_
          refine Qa (some 141) [(10, 4)] (by
           intro H' X F hle hF; refine Ql rfl rfl rfl rfl ?_
           exact Qd hF) ?_
          refine Qa (some 142) [(14, 1), (15, 0), (10, 5)] (by
           intro H' X F hle hF; refine Ql rfl rfl rfl rfl ?_
           exact Qd hF) ?_
          refine Qa (some 143) [(16, 0), (10, 6)] (by
           intro H' X F hle hF; refine Ql rfl rfl rfl rfl ?_
           exact Qd hF) ?_
          refine Qa (some 144) [(10, 7)] (by
           intro H' X F hle hF; refine Ql rfl rfl rfl rfl ?_
           exact Qd hF) ?_
          refine Qa (some 145) [(10, 8)] (by
           intro H' X F hle hF; refine Ql rfl rfl rfl rfl ?_
           exact Qd hF) ?_
          refine Qa (some 146) [(19, 0), (10, 9)] (by
           intro H' X F hle hF; refine Ql rfl rfl rfl rfl ?_
           exact Qd hF) ?_
          refine Qa (some 147) [(18, 2), (20, 0), (10, 10)] (by
           intro H' X F hle hF; refine Ql rfl rfl rfl rfl ?_
           exact Qd hF) ?_
          refine Qa (some 148) [(21, 0), (10, 11)] (by
           intro H' X F hle hF; refine Ql rfl rfl rfl rfl ?_
           exact Qd hF) ?_
          refine Qa (some 149) [(10, 12)] (by
           intro H' X F hle hF; refine Ql rfl rfl rfl rfl ?_
           exact Qd hF) ?_
          refine Qa (some 150) [(23, 0), (10, 13)] (by
           intro H' X F hle hF; refine Ql rfl rfl rfl rfl ?_
           exact Qd hF) ?_
          refine Qa (some 151) [(22, 2), (24, 0), (10, 14)] (by
           intro H' X F hle hF; refine Ql rfl rfl rfl rfl ?_
           exact Qd hF) ?_
          refine Qa (some 152) [(25, 0), (10, 15)] (by
           intro H' X F hle hF; refine Ql rfl rfl rfl rfl ?_
           exact Qd hF) ?_
          refine Qa (some 153) [(10, 16)] (by
           intro H' X F hle hF; refine Ql rfl rfl rfl rfl ?_
           exact Qd hF) ?_
          refine Qa (some 154) [(10, 17)] (by
           intro H' X F hle hF; refine Ql rfl rfl rfl rfl ?_
           exact Qd hF) ?_
          refine Qa (some 155) [(10, 18)] (by
           intro H' X F hle hF; refine Ql rfl rfl rfl rfl ?_
           exact Qd hF) ?_
          refine Qa (some 156) [(28, 1), (29, 0), (10, 19)] (by
           intro H' X F hle hF; refine Ql rfl rfl rfl rfl ?_
           exact Qd hF) ?_
          refine Qa (some 157) [(30, 0), (10, 20)] (by
           intro H' X F hle hF; refine Ql rfl rfl rfl rfl ?_
           exact Qd hF) ?_
          refine Qa (some 158) [(10, 21)] (by
           intro H' X F hle hF; refine Ql rfl rfl rfl rfl ?_
           exact Qd hF) ?_
          refine Qa (some 159) [(10, 22)] (by
           intro H' X F hle hF; refine Ql rfl rfl rfl rfl ?_
           exact Qd hF) ?_
          refine Qa (some 160) [(32, 1), (33, 0), (10, 23)] (by
           intro H' X F hle hF; refine Ql rfl rfl rfl rfl ?_
           exact Qd hF) ?_
          refine Qa (some 161) [(34, 0), (10, 24)] (by
           intro H' X F hle hF; refine Ql rfl rfl rfl rfl ?_
           exact Qd hF) ?_
          refine Qa (some 162) [(27, 8), (31, 4), (35, 0), (10, 25)] (by
           intro H' X F hle hF; refine Ql rfl rfl rfl rfl ?_
           exact Qd hF) ?_
          refine Qa (some 163) [(26, 10), (36, 0), (10, 26)] (by
           intro H' X F hle hF; refine Ql rfl rfl rfl rfl ?_
           exact Qd hF) ?_
          refine ⟨by kernel_rfl, .refl _, ?_⟩
          ·
           intro H9 hle; have hL := Le.trans hL hle; have hle0 := Le.trans hle0 hle; have hlog1 := EdLog.mono hle hlog1; have hc1 := cel_le hle hc1; have hp3 := hAt.mono hle hp3; have hr0 := cel_le hle hr0
           have k00 := cel_le hle k00
           have hr1 := cel_le hle hr1
           have k10 := cel_le hle k10
           refine Qw (own' := _ :: _ :: _ :: _ :: own) rfl ?_; refine Zi (env' := [(0, _), (3, _), (4, _), (13, _), (14, _), (15, _), (16, _), (17, _), (18, _), (19, _), (136, _), (143, _), (163, _)]) ⟨rfl, rfl, rfl, rfl, rfl, rfl, rfl, rfl, rfl, rfl, rfl, rfl, rfl, trivial⟩ ?_; refine Ql rfl rfl rfl rfl ?_; refine Qx rfl rfl rfl rfl (Qe rfl rfl (Qi (Qc (Qr rfl (Qj ?_))))); refine Q4 28  [(0, _), (3, _), (4, _), (13, _), (14, _), (15, _), (16, _), (17, _), (18, _), (19, _)] follows_mixed ⟨rfl, rfl, rfl, rfl, rfl, rfl, rfl, rfl, rfl, rfl, trivial⟩ ?_; refine Qa (some 185) [] (fun _ _ _ _ hF => Qb rfl rfl (Qd hF)) ?_; refine Qa (some 186) [] (fun _ _ _ _ hF => Qb rfl rfl (Qd hF)) ?_
           refine Qa (some 187) [(1, 0)] (by
            intro H' X F hle; have hL := Le.trans hL hle
            have k00 := cel_le hle k00
            have k10 := cel_le hle k10
            intro hF; refine Qn rfl rfl ?_
            exact Qd hF) ?_
           refine Qa (some 188) [(0, 2), (2, 0)] (by
            intro H' X F hle; have hL := Le.trans hL hle
            have k00 := cel_le hle k00
            have k10 := cel_le hle k10
            intro hF; refine Zl rfl rfl rfl ?_
            rw [decide_eq_true (by omega)]
            exact Qd hF) ?_
           refine Qa (some 189) [(3, 0)] (fun _ _ _ _ hF => Qb rfl rfl (Qd hF)) ?_
           refine Qa (some 190) [(4, 0)] (by
            intro H' X F hle hF; refine Qf rfl rfl rfl (Qb rfl rfl ?_)
            exact Qd hF) ?_
           refine Qa (some 191) [(4, 1)] (by
            intro H' X F hle hF; refine Qf rfl rfl rfl (Qb rfl rfl ?_)
            exact Qd hF) ?_
           refine Qa (some 192) [(5, 1), (6, 0), (4, 2)] (by
            intro H' X F hle hF; refine Qf rfl rfl rfl ?_; refine Qo (i) rfl rfl rfl (by omega) rfl ?_
            exact Qd hF) ?_
           refine Qa (some 193) [(7, 0), (4, 3)] (by
            intro H' X F hle; have hL := Le.trans hL hle; have hr0 := cel_le hle hr0
            have k00 := cel_le hle k00
            have k10 := cel_le hle k10
            intro hF; refine Qf rfl rfl rfl ?_; refine Qp rfl (hr0) rfl ?_
            exact Qd hF) ?_
           refine Qa (some 194) [(4, 4)] (by
            intro H' X F hle hF; refine Qf rfl rfl rfl (Qb rfl rfl ?_)
            exact Qd hF) ?_
           refine Qa (some 195) [(8, 1), (9, 0), (4, 5)] (by
            intro H' X F hle hF; refine Qf rfl rfl rfl ?_; refine Qo (j) rfl rfl rfl (by omega) rfl ?_
            exact Qd hF) ?_
           refine Qa (some 196) [(10, 0), (4, 6)] (by
            intro H' X F hle; have hL := Le.trans hL hle
            have k00 := cel_le hle k00
            have k10 := cel_le hle k10
            intro hF; refine Qf rfl rfl rfl ?_; refine Qp rfl (k00) rfl ?_
            exact Qd hF) ?_
           refine Qa (some 197) [(4, 7)] (by
            intro H' X F hle hF; refine Qf rfl rfl rfl (Qb rfl rfl ?_)
            exact Qd hF) ?_
           refine Qa (some 198) [(4, 8)] (by
            intro H' X F hle hF; refine Qf rfl rfl rfl (Qb rfl rfl ?_)
            exact Qd hF) ?_
           refine Qa (some 199) [(13, 0), (4, 9)] (by
            intro H' X F hle hF; refine Qf rfl rfl rfl ?_; refine Zb rfl rfl rfl ⟨by omega, by omega⟩ ?_
            exact Qd hF) ?_
           refine Qa (some 200) [(12, 2), (14, 0), (4, 10)] (by
            intro H' X F hle hF; refine Qf rfl rfl rfl ?_; refine Qo (i + 1) rfl rfl (by omega) (by omega) rfl ?_
            exact Qd hF) ?_
           refine Qa (some 201) [(15, 0), (4, 11)] (by
            intro H' X F hle; have hL := Le.trans hL hle
            have k00 := cel_le hle k00
            have hr1 := cel_le hle hr1
            have k10 := cel_le hle k10
            intro hF; refine Qf rfl rfl rfl ?_; refine Qp rfl (hr1) rfl ?_
            exact Qd hF) ?_
           refine Qa (some 202) [(4, 12)] (by
            intro H' X F hle hF; refine Qf rfl rfl rfl (Qb rfl rfl ?_)
            exact Qd hF) ?_
           refine Qa (some 203) [(16, 1), (17, 0), (4, 13)] (by
            intro H' X F hle hF; refine Qf rfl rfl rfl ?_; refine Qo (j) rfl rfl rfl (by omega) rfl ?_
            exact Qd hF) ?_
           refine Qa (some 204) [(18, 0), (4, 14)] (by
            intro H' X F hle; have hL := Le.trans hL hle
            have k00 := cel_le hle k00
            have k10 := cel_le hle k10
            intro hF; refine Qf rfl rfl rfl ?_; refine Qp rfl (k10) rfl ?_
            exact Qd hF) ?_
           refine Qa (some 205) [(4, 15)] (by
            intro H' X F hle hF; refine Qf rfl rfl rfl (Qb rfl rfl ?_)
            exact Qd hF) ?_
           refine Qa (some 206) [(4, 16)] (by
            intro H' X F hle hF; refine Qf rfl rfl rfl (Qb rfl rfl ?_)
            exact Qd hF) ?_
           refine Qa (some 207) [(20, 1), (21, 0), (4, 17)] (by
            intro H' X F hle hF; refine Qf rfl rfl rfl ?_; refine Qo (i) rfl rfl rfl (by omega) rfl ?_
            exact Qd hF) ?_
           refine Qa (some 208) [(22, 0), (4, 18)] (by
            intro H' X F hle; have hL := Le.trans hL hle; have hc1 := cel_le hle hc1
            have k00 := cel_le hle k00
            have k10 := cel_le hle k10
            intro hF; refine Qf rfl rfl rfl ?_; refine Qp rfl (hc1) rfl ?_
            exact Qd hF) ?_
           refine Qa (some 209) [(23, 0), (4, 19)] (by
            intro H' X F hle hF; refine Qf rfl rfl rfl (Qt rfl rfl ?_)
            exact Qd hF) ?_
           refine Qa (some 210) [(24, 0), (4, 20)] (by
            intro H' X F hle hF; refine Qf rfl rfl rfl (Qg rfl rfl ?_)
            exact Qd hF) ?_
           refine Qa (some 211) [(25, 0), (4, 21)] (by
            intro H' X F hle; have hL := Le.trans hL hle; have hp3 := hAt.mono hle hp3
            have k00 := cel_le hle k00
            have k10 := cel_le hle k10
            intro hF; refine Qf rfl rfl rfl ?_; refine Qp rfl (hp3.2.2.1) rfl ?_
            exact Qd hF) ?_
           refine Qa (some 212) [(19, 7), (26, 0), (4, 22)] (by
            intro H' X F hle hF; refine Qf rfl rfl rfl ?_; refine Zb rfl rfl rfl ⟨by omega, by omega⟩ ?_
            exact Qd hF) ?_
           refine ⟨by kernel_rfl, .refl _, ?_⟩
           ·
            intro H10 hle; have hL := Le.trans hL hle; have hle0 := Le.trans hle0 hle; have hlog1 := EdLog.mono hle hlog1
            have k00 := cel_le hle k00
            have k10 := cel_le hle k10
            refine Qw (own' := _ :: _ :: _ :: _ :: own) rfl ?_; refine Zi (env' := [(0, _), (3, _), (4, _), (13, _), (14, _), (15, _), (16, _), (17, _), (18, _), (19, _), (189, _), (196, _), (212, _)]) ⟨rfl, rfl, rfl, rfl, rfl, rfl, rfl, rfl, rfl, rfl, rfl, rfl, rfl, trivial⟩ ?_; refine Qf rfl rfl rfl (Za rfl rfl rfl ?_)
            rw [decide_eq_true (by omega)]
            refine Qz rfl rfl rfl rfl (Qe rfl rfl (Qi (Qc (Qv rfl (Qj ?_)))))
            refine Z2 4 [1, 0, 3] rfl (fun o ho => ?_)
            simp only [K.sel, nrm] at ho; subst ho
            have hlog2 := hlog1
            obtain ⟨xs1, rs1, ps1, hrow1, hpm1, hxs1⟩ := hlog2
            have hpth := row_path hrow107 (by simp)
            refine TC.flat (own' := rs1 :: ps1 :: _) (split2 hpm1) (Qh (Qb rfl rfl (Qb rfl rfl ?_))); refine Q8 [(0, [_]), (1, [_])] ⟨rfl, ⟨_, rfl, rfl⟩, rfl, ⟨_, rfl, one_cells hrow107.one⟩, trivial⟩ rfl rfl ?_
            refine Zg (r := [_, _, _, _]) [(0, [_, _, _, _])] ⟨rfl, ⟨_, rfl, rfl⟩, trivial⟩ rfl rfl rfl rfl ?_; intro g218; refine Zh 1 rfl rfl rfl hrow1 (Src.ofOwn 0 0 rfl rfl rfl (Ones.all (show Ones [_, _, _, _] from ⟨rfl, hrow107.one, rfl, rfl, trivial⟩)) ⟨rfl, rfl, rfl, rfl, trivial⟩) (by omega) (by omega) rfl ?_; intro v' seg' hrow'; refine Qe rfl rfl (Qi (Qc (Qh (Qb rfl rfl ?_)))); refine Zb rfl rfl rfl ⟨by omega, by omega⟩ (Qe rfl rfl (Qi (Ze (Ze ?_))))
            refine Zj 5 [3, 1, 2, 4] rfl (fun o ho => ?_)
            simp only [K.sel, nrm] at ho; subst ho
            refine TQ.flat (own' := _ :: (seg' ++ (ps1 ++ seg107)) :: own) join4 ?_
            refine Zf ((a.length - (i + 1)) + (b.length - j)) [(0, _), (3, _), (4, _), (13, _), (14, _), (15, _), (16, _), (17, _), (18, _)] (by omega) ⟨rfl, rfl, rfl, rfl, rfl, rfl, rfl, rfl, rfl, trivial⟩ ⟨i + 1, j, q, v', seg' ++ (ps1 ++ seg107), es1 ++ [⟨2, p ++ [q], Tr.zero⟩], D1, m1, oc1, rfl, by omega, by omega, by omega, EdLog.put (e := ⟨2, p ++ [q], Tr.zero⟩) hrow' hxs1 hpth (zero_rd _), by rw [List.append_assoc, List.singleton_append, ← hw]; exact hes, hM1, hG1, by simp, rfl, hle0⟩
         ·
          obtain ⟨b2, o2, u2', rfl, hc2, hz2⟩ := hv87.at hy1
          obtain ⟨g4, v4, w0', w1, rfl, hp4, hd4, _⟩ := hz2.open
          have hdS := hmb d (List.mem_of_getElem? hy1)
          have hys := Tr.size_mem (List.mem_of_getElem? hy1)
          have hw := (wk_i hi2 hy1 : wk edT p (a.drop i) (b.drop j) q = _)
          have hwl := congrArg List.length hw
          simp only [List.length_cons] at hwl
          refine Qh (Qb rfl rfl (Qb rfl rfl (Qn rfl rfl (Zl rfl rfl rfl ?_))))
          rw [decide_eq_false (by omega)]
          refine Qb rfl rfl ?_; refine Qf rfl rfl rfl (Qb rfl rfl ?_); refine Qf rfl rfl rfl (Qb rfl rfl ?_); refine Qf rfl rfl rfl (Qn rfl rfl ?_); refine Qf rfl rfl rfl (Zl rfl rfl rfl ?_)
          rw [decide_eq_true (by omega)]
          refine Qx rfl rfl rfl rfl (Qi (Qc (Qv rfl (Q2 (Qc ?_))))); refine Q6 (Qj (Qh (Qb rfl rfl ?_))); refine Qs (clone_int (by omega) hvp) ⟨rfl, trivial⟩ rfl ?_
          rintro v104 _ H9 ⟨sgp, rfl, hrp, hle9⟩
          have hL := Le.trans hL hle9; have hle0 := Le.trans hle0 hle9; have hlog1 := EdLog.mono hle9 hlog1; have hc2 := cel_le hle9 hc2; have hp4 := hAt.mono hle9 hp4; have hd4 := RdL.mono hle9 hd4; refine Qb rfl rfl ?_
          refine Zg (r := [_]) [(0, [_])] ⟨rfl, ⟨_, rfl, rfl⟩, trivial⟩ rfl rfl rfl rfl ?_; intro g106; refine Zh 1 rfl rfl rfl hrp (Src.ofOwn 0 0 rfl rfl rfl (Ones.all (show Ones [_] from ⟨by rfl, trivial⟩)) ⟨rfl, trivial⟩) (by omega) (by omega) rfl ?_; intro v107 seg107 hrow107; refine Qe rfl rfl (Qi (Qc (Q6 (Qj ?_))))
          refine Z2 4 [2, 3, 0, 1] rfl (fun o ho => ?_)
          simp only [K.sel, nrm] at ho; subst ho
          refine Q4 38  [(0, _), (3, _), (4, _), (13, _), (14, _), (15, _), (16, _), (17, _), (18, _), (19, _)] follows_mixed ⟨rfl, rfl, rfl, rfl, rfl, rfl, rfl, rfl, rfl, rfl, trivial⟩ ?_; refine Qa (some 126) [] (fun _ _ _ _ hF => Qb rfl rfl (Qd hF)) ?_; refine Qa (some 127) [] (fun _ _ _ _ hF => Qb rfl rfl (Qd hF)) ?_
          refine Qa (some 128) [(1, 0)] (by
           intro H' X F hle; have hL := Le.trans hL hle; intro hF; refine Qn rfl rfl ?_
           exact Qd hF) ?_
          refine Qa (some 129) [(0, 2), (2, 0)] (by
           intro H' X F hle; have hL := Le.trans hL hle; intro hF; refine Zl rfl rfl rfl ?_
           rw [decide_eq_false (by omega)]
           exact Qd hF) ?_
          refine Qa (some 130) [(3, 0)] (fun _ _ _ _ hF => Qb rfl rfl (Qd hF)) ?_
          refine Qa (some 131) [(4, 0)] (by
           intro H' X F hle hF; refine Ql rfl rfl rfl rfl ?_
           exact Qd hF) ?_
          refine Qa (some 132) [(4, 1)] (by
           intro H' X F hle hF; refine Ql rfl rfl rfl rfl ?_
           exact Qd hF) ?_
          refine Qa (some 133) [(6, 0), (4, 2)] (by
           intro H' X F hle hF; refine Ql rfl rfl rfl rfl ?_
           exact Qd hF) ?_
          refine Qa (some 134) [(5, 2), (7, 0), (4, 3)] (by
           intro H' X F hle hF; refine Ql rfl rfl rfl rfl ?_
           exact Qd hF) ?_
          refine Qa (some 135) [(4, 4), (8, 0)] (fun _ _ _ _ hF => Qx rfl rfl rfl rfl (Qd hF)) ?_; refine Qa (some 136) [(9, 0)] (fun _ _ _ _ hF => Qb rfl rfl (Qd hF)) ?_
          refine Qa (some 137) [(10, 0)] (by
           intro H' X F hle hF; refine Ql rfl rfl rfl rfl ?_
           exact Qd hF) ?_
          refine Qa (some 138) [(10, 1)] (by
           intro H' X F hle hF; refine Ql rfl rfl rfl rfl ?_
           exact Qd hF) ?_
          refine Qa (some 139) [(11, 1), (12, 0), (10, 2)] (by
           intro H' X F hle hF; refine Ql rfl rfl rfl rfl ?_
           exact Qd hF) ?_
          refine Qa (some 140) [(13, 0), (10, 3)] (by
           intro H' X F hle hF; refine Ql rfl rfl rfl rfl ?_
           exact Qd hF) ?_
          refine Qa (some 141) [(10, 4)] (by
           intro H' X F hle hF; refine Ql rfl rfl rfl rfl ?_
           exact Qd hF) ?_
          refine Qa (some 142) [(14, 1), (15, 0), (10, 5)] (by
           intro H' X F hle hF; refine Ql rfl rfl rfl rfl ?_
           exact Qd hF) ?_
          refine Qa (some 143) [(16, 0), (10, 6)] (by
           intro H' X F hle hF; refine Ql rfl rfl rfl rfl ?_
           exact Qd hF) ?_
          refine Qa (some 144) [(10, 7)] (by
           intro H' X F hle hF; refine Ql rfl rfl rfl rfl ?_
           exact Qd hF) ?_
          refine Qa (some 145) [(10, 8)] (by
           intro H' X F hle hF; refine Ql rfl rfl rfl rfl ?_
           exact Qd hF) ?_
          refine Qa (some 146) [(19, 0), (10, 9)] (by
           intro H' X F hle hF; refine Ql rfl rfl rfl rfl ?_
           exact Qd hF) ?_
          refine Qa (some 147) [(18, 2), (20, 0), (10, 10)] (by
           intro H' X F hle hF; refine Ql rfl rfl rfl rfl ?_
           exact Qd hF) ?_
          refine Qa (some 148) [(21, 0), (10, 11)] (by
           intro H' X F hle hF; refine Ql rfl rfl rfl rfl ?_
           exact Qd hF) ?_
          refine Qa (some 149) [(10, 12)] (by
           intro H' X F hle hF; refine Ql rfl rfl rfl rfl ?_
           exact Qd hF) ?_
          refine Qa (some 150) [(23, 0), (10, 13)] (by
           intro H' X F hle hF; refine Ql rfl rfl rfl rfl ?_
           exact Qd hF) ?_
          refine Qa (some 151) [(22, 2), (24, 0), (10, 14)] (by
           intro H' X F hle hF; refine Ql rfl rfl rfl rfl ?_
           exact Qd hF) ?_
          refine Qa (some 152) [(25, 0), (10, 15)] (by
           intro H' X F hle hF; refine Ql rfl rfl rfl rfl ?_
           exact Qd hF) ?_
          refine Qa (some 153) [(10, 16)] (by
           intro H' X F hle hF; refine Ql rfl rfl rfl rfl ?_
           exact Qd hF) ?_
          refine Qa (some 154) [(10, 17)] (by
           intro H' X F hle hF; refine Ql rfl rfl rfl rfl ?_
           exact Qd hF) ?_
          refine Qa (some 155) [(10, 18)] (by
           intro H' X F hle hF; refine Ql rfl rfl rfl rfl ?_
           exact Qd hF) ?_
          refine Qa (some 156) [(28, 1), (29, 0), (10, 19)] (by
           intro H' X F hle hF; refine Ql rfl rfl rfl rfl ?_
           exact Qd hF) ?_
          refine Qa (some 157) [(30, 0), (10, 20)] (by
           intro H' X F hle hF; refine Ql rfl rfl rfl rfl ?_
           exact Qd hF) ?_
          refine Qa (some 158) [(10, 21)] (by
           intro H' X F hle hF; refine Ql rfl rfl rfl rfl ?_
           exact Qd hF) ?_
          refine Qa (some 159) [(10, 22)] (by
           intro H' X F hle hF; refine Ql rfl rfl rfl rfl ?_
           exact Qd hF) ?_
          refine Qa (some 160) [(32, 1), (33, 0), (10, 23)] (by
           intro H' X F hle hF; refine Ql rfl rfl rfl rfl ?_
           exact Qd hF) ?_
          refine Qa (some 161) [(34, 0), (10, 24)] (by
           intro H' X F hle hF; refine Ql rfl rfl rfl rfl ?_
           exact Qd hF) ?_
          refine Qa (some 162) [(27, 8), (31, 4), (35, 0), (10, 25)] (by
           intro H' X F hle hF; refine Ql rfl rfl rfl rfl ?_
           exact Qd hF) ?_
          refine Qa (some 163) [(26, 10), (36, 0), (10, 26)] (by
           intro H' X F hle hF; refine Ql rfl rfl rfl rfl ?_
           exact Qd hF) ?_
          refine ⟨by kernel_rfl, .refl _, ?_⟩
          ·
           intro H11 hle; have hL := Le.trans hL hle; have hle0 := Le.trans hle0 hle; have hlog1 := EdLog.mono hle hlog1; have hc2 := cel_le hle hc2; have hp4 := hAt.mono hle hp4; have hd4 := RdL.mono hle hd4; refine Qw (own' := _ :: _ :: _ :: _ :: own) rfl ?_; refine Zi (env' := [(0, _), (3, _), (4, _), (13, _), (14, _), (15, _), (16, _), (17, _), (18, _), (19, _), (136, _), (143, _), (163, _)]) ⟨rfl, rfl, rfl, rfl, rfl, rfl, rfl, rfl, rfl, rfl, rfl, rfl, rfl, trivial⟩ ?_; refine Ql rfl rfl rfl rfl ?_; refine Qx rfl rfl rfl rfl (Qe rfl rfl (Qi (Qc (Qr rfl (Qj ?_))))); refine Q4 28  [(0, _), (3, _), (4, _), (13, _), (14, _), (15, _), (16, _), (17, _), (18, _), (19, _)] follows_mixed ⟨rfl, rfl, rfl, rfl, rfl, rfl, rfl, rfl, rfl, rfl, trivial⟩ ?_
           refine Qa (some 185) [] (fun _ _ _ _ hF => Qb rfl rfl (Qd hF)) ?_; refine Qa (some 186) [] (fun _ _ _ _ hF => Qb rfl rfl (Qd hF)) ?_
           refine Qa (some 187) [(1, 0)] (by
            intro H' X F hle; have hL := Le.trans hL hle; intro hF; refine Qn rfl rfl ?_
            exact Qd hF) ?_
           refine Qa (some 188) [(0, 2), (2, 0)] (by
            intro H' X F hle; have hL := Le.trans hL hle; intro hF; refine Zl rfl rfl rfl ?_
            rw [decide_eq_false (by omega)]
            exact Qd hF) ?_
           refine Qa (some 189) [(3, 0)] (fun _ _ _ _ hF => Qb rfl rfl (Qd hF)) ?_
           refine Qa (some 190) [(4, 0)] (by
            intro H' X F hle hF; refine Ql rfl rfl rfl rfl ?_
            exact Qd hF) ?_
           refine Qa (some 191) [(4, 1)] (by
            intro H' X F hle hF; refine Ql rfl rfl rfl rfl ?_
            exact Qd hF) ?_
           refine Qa (some 192) [(5, 1), (6, 0), (4, 2)] (by
            intro H' X F hle hF; refine Ql rfl rfl rfl rfl ?_
            exact Qd hF) ?_
           refine Qa (some 193) [(7, 0), (4, 3)] (by
            intro H' X F hle hF; refine Ql rfl rfl rfl rfl ?_
            exact Qd hF) ?_
           refine Qa (some 194) [(4, 4)] (by
            intro H' X F hle hF; refine Ql rfl rfl rfl rfl ?_
            exact Qd hF) ?_
           refine Qa (some 195) [(8, 1), (9, 0), (4, 5)] (by
            intro H' X F hle hF; refine Ql rfl rfl rfl rfl ?_
            exact Qd hF) ?_
           refine Qa (some 196) [(10, 0), (4, 6)] (by
            intro H' X F hle hF; refine Ql rfl rfl rfl rfl ?_
            exact Qd hF) ?_
           refine Qa (some 197) [(4, 7)] (by
            intro H' X F hle hF; refine Ql rfl rfl rfl rfl ?_
            exact Qd hF) ?_
           refine Qa (some 198) [(4, 8)] (by
            intro H' X F hle hF; refine Ql rfl rfl rfl rfl ?_
            exact Qd hF) ?_
           refine Qa (some 199) [(13, 0), (4, 9)] (by
            intro H' X F hle hF; refine Ql rfl rfl rfl rfl ?_
            exact Qd hF) ?_
           refine Qa (some 200) [(12, 2), (14, 0), (4, 10)] (by
            intro H' X F hle hF; refine Ql rfl rfl rfl rfl ?_
            exact Qd hF) ?_
           refine Qa (some 201) [(15, 0), (4, 11)] (by
            intro H' X F hle hF; refine Ql rfl rfl rfl rfl ?_
            exact Qd hF) ?_
           refine Qa (some 202) [(4, 12)] (by
            intro H' X F hle hF; refine Ql rfl rfl rfl rfl ?_
            exact Qd hF) ?_
           refine Qa (some 203) [(16, 1), (17, 0), (4, 13)] (by
            intro H' X F hle hF; refine Ql rfl rfl rfl rfl ?_
            exact Qd hF) ?_
           refine Qa (some 204) [(18, 0), (4, 14)] (by
            intro H' X F hle hF; refine Ql rfl rfl rfl rfl ?_
            exact Qd hF) ?_
           refine Qa (some 205) [(4, 15)] (by
            intro H' X F hle hF; refine Ql rfl rfl rfl rfl ?_
            exact Qd hF) ?_
           refine Qa (some 206) [(4, 16)] (by
            intro H' X F hle hF; refine Ql rfl rfl rfl rfl ?_
            exact Qd hF) ?_
           refine Qa (some 207) [(20, 1), (21, 0), (4, 17)] (by
            intro H' X F hle hF; refine Ql rfl rfl rfl rfl ?_
            exact Qd hF) ?_
           refine Qa (some 208) [(22, 0), (4, 18)] (by
            intro H' X F hle hF; refine Ql rfl rfl rfl rfl ?_
            exact Qd hF) ?_
           refine Qa (some 209) [(23, 0), (4, 19)] (by
            intro H' X F hle hF; refine Ql rfl rfl rfl rfl ?_
            exact Qd hF) ?_
           refine Qa (some 210) [(24, 0), (4, 20)] (by
            intro H' X F hle hF; refine Ql rfl rfl rfl rfl ?_
            exact Qd hF) ?_
           refine Qa (some 211) [(25, 0), (4, 21)] (by
            intro H' X F hle hF; refine Ql rfl rfl rfl rfl ?_
            exact Qd hF) ?_
           refine Qa (some 212) [(19, 7), (26, 0), (4, 22)] (by
            intro H' X F hle hF; refine Ql rfl rfl rfl rfl ?_
            exact Qd hF) ?_
           refine ⟨by kernel_rfl, .refl _, ?_⟩
           ·
            intro H12 hle; have hL := Le.trans hL hle; have hle0 := Le.trans hle0 hle; have hlog1 := EdLog.mono hle hlog1; have hc2 := cel_le hle hc2; have hp4 := hAt.mono hle hp4; have hd4 := RdL.mono hle hd4; refine Qw (own' := _ :: _ :: _ :: _ :: own) rfl ?_; refine Zi (env' := [(0, _), (3, _), (4, _), (13, _), (14, _), (15, _), (16, _), (17, _), (18, _), (19, _), (189, _), (196, _), (212, _)]) ⟨rfl, rfl, rfl, rfl, rfl, rfl, rfl, rfl, rfl, rfl, rfl, rfl, rfl, trivial⟩ ?_; refine Ql rfl rfl rfl rfl ?_; refine Qx rfl rfl rfl rfl (Qe rfl rfl (Qi (Qc (Qr rfl (Qj ?_)))))
            refine Z2 4 [1, 0, 3] rfl (fun o ho => ?_)
            simp only [K.sel, nrm] at ho; subst ho
            have hlog2 := hlog1
            obtain ⟨xs1, rs1, ps1, hrow1, hpm1, hxs1⟩ := hlog2
            have hpth := row_path hrow107 (by simp)
            refine TC.flat (own' := rs1 :: ps1 :: _) (split2 hpm1) (Qh (Qb rfl rfl (Qb rfl rfl (Qb rfl rfl (Qb rfl rfl ?_))))); refine Qo (j) rfl rfl rfl (by omega) rfl ?_; refine Qp rfl (hc2) rfl (Qt rfl rfl (Qg rfl rfl ?_)); refine Zd rfl (show hAt _ _ _ [w0', w1] from ⟨hp4.2.2.2.2.1, hp4.2.2.2.2.2.1, trivial⟩) rfl rfl ?_; refine Qs (diff_clone d.size d (Nat.le_refl _) (by omega) hd4) ⟨rfl, trivial⟩ rfl ?_
            rintro _ _ H12 ⟨c0, c1, rfl, hr117, rfl, hle12⟩
            have hL := Le.trans hL hle12; have hle0 := Le.trans hle0 hle12; have hxs1 := ownE.mono hle12 hxs1; refine Q8 [(0, [_]), (1, [_]), (2, [_, _])] ⟨rfl, ⟨_, rfl, rfl⟩, rfl, ⟨_, rfl, one_cells hrow107.one⟩, rfl, ⟨_, rfl, rfl⟩, trivial⟩ rfl rfl ?_
            refine Zg (r := [_, _, _, _]) [(0, [_, _, _, _])] ⟨rfl, ⟨_, rfl, rfl⟩, trivial⟩ rfl rfl rfl rfl ?_; intro g119; refine Zh 1 rfl rfl rfl hrow1 (Src.ofOwn 0 0 rfl rfl rfl (Ones.all (show Ones [_, _, _, _] from ⟨rfl, hrow107.one, (tr_ones hr117).1, (tr_ones hr117).2.1, trivial⟩)) ⟨rfl, rfl, rfl, rfl, trivial⟩) (by omega) (by omega) rfl ?_; intro v' seg' hrow'; refine Qe rfl rfl (Qi (Qc (Qh (Qb rfl rfl ?_)))); refine Zb rfl rfl rfl ⟨by omega, by omega⟩ (Qb rfl rfl ?_); refine Zb rfl rfl rfl ⟨by omega, by omega⟩ (Qe rfl rfl (Qe rfl rfl (Qi (Ze (Ze ?_)))))
            refine Zj 5 [3, 1, 2, 4] rfl (fun o ho => ?_)
            simp only [K.sel, nrm] at ho; subst ho
            refine TQ.flat (own' := _ :: (seg' ++ (ps1 ++ seg107)) :: own) join4 ?_
            refine Zf ((a.length - i) + (b.length - (j + 1))) [(0, _), (3, _), (4, _), (13, _), (14, _), (15, _), (16, _), (17, _), (18, _)] (by omega) ⟨rfl, rfl, rfl, rfl, rfl, rfl, rfl, rfl, rfl, trivial⟩ ⟨i, j + 1, q + 1, v', seg' ++ (ps1 ++ seg107), es1 ++ [⟨1, p ++ [q], d⟩], D1, m1, oc1, rfl, by omega, by omega, by omega, EdLog.put (e := ⟨1, p ++ [q], d⟩) hrow' hxs1 hpth hr117, by rw [List.append_assoc, List.singleton_append, ← hw]; exact hes, hM1, hG1, by simp, rfl, hle0⟩
         ·
          obtain ⟨b1, o1, u1', rfl, hc1, hz1⟩ := hv13.at hx1
          obtain ⟨g3, v3, z0, z1, rfl, hp3, _, _⟩ := hz1.open
          obtain ⟨hcS, hcz⟩ := hma c (List.mem_of_getElem? hx1)
          have hxs := Tr.size_mem (List.mem_of_getElem? hx1)
          obtain ⟨r0, hr0, hr0'⟩ := htab.row (i := i) (by omega)
          have k00 := hr0' j (by omega)
          obtain ⟨r1, hr1, hr1'⟩ := htab.row (i := i + 1) (by omega)
          have k10 := hr1' j (by omega)
          have d0 := alD_bd a b i j
          have d1 := alD_bd a b (i + 1) j
          obtain ⟨b2, o2, u2', rfl, hc2, hz2⟩ := hv87.at hy1
          obtain ⟨g4, v4, w0', w1, rfl, hp4, hd4, _⟩ := hz2.open
          have hdS := hmb d (List.mem_of_getElem? hy1)
          have hys := Tr.size_mem (List.mem_of_getElem? hy1)
          have k11 := hr1' (j + 1) (by omega)
          have d2 := alD_bd a b (i + 1) (j + 1)
          have d3 := dist_le c d
          have hw := (wk_mt hx1 hy1 hT1 : wk edT p (a.drop i) (b.drop j) q = _)
          have hwl := congrArg List.length hw
          simp only [List.length_append] at hwl
          refine Qh (Qb rfl rfl (Qb rfl rfl (Qn rfl rfl (Zl rfl rfl rfl ?_))))
          rw [decide_eq_true (by omega)]
          refine Qb rfl rfl ?_; refine Ql rfl rfl rfl rfl ?_; refine Ql rfl rfl rfl rfl ?_; refine Ql rfl rfl rfl rfl ?_; refine Ql rfl rfl rfl rfl ?_; refine Qz rfl rfl rfl rfl (Qi (Qc (Qv rfl (Q2 (Qc ?_))))); refine Q6 (Qj (Qh (Qb rfl rfl ?_))); refine Qs (clone_int (by omega) hvp) ⟨rfl, trivial⟩ rfl ?_
          rintro v104 _ H9 ⟨sgp, rfl, hrp, hle9⟩
          have hL := Le.trans hL hle9; have hgd := hAt.mono hle9 hgd; have hle0 := Le.trans hle0 hle9; have hlog1 := EdLog.mono hle9 hlog1; have hc1 := cel_le hle9 hc1; have hz1 := szP.mono hle9 hz1; have hr0 := cel_le hle9 hr0
          have k00 := cel_le hle9 k00
          have hr1 := cel_le hle9 hr1
          have k10 := cel_le hle9 k10
          have hc2 := cel_le hle9 hc2; have hz2 := szP.mono hle9 hz2
          have k11 := cel_le hle9 k11
          refine Qb rfl rfl ?_
          refine Zg (r := [_]) [(0, [_])] ⟨rfl, ⟨_, rfl, rfl⟩, trivial⟩ rfl rfl rfl rfl ?_; intro g106; refine Zh 1 rfl rfl rfl hrp (Src.ofOwn 0 0 rfl rfl rfl (Ones.all (show Ones [_] from ⟨by rfl, trivial⟩)) ⟨rfl, trivial⟩) (by omega) (by omega) rfl ?_; intro v107 seg107 hrow107; refine Qe rfl rfl (Qi (Qc (Q6 (Qj ?_))))
          refine Z2 4 [1, 0, 2, 3] rfl (fun o ho => ?_)
          simp only [K.sel, nrm] at ho; subst ho
          refine TC.freeze (fun H13 hle hz_rowp => ?_)
          have hL := Le.trans hL hle; have hgd := hAt.mono hle hgd; have hle0 := Le.trans hle0 hle; have hlog1 := EdLog.mono hle hlog1; have hc1 := cel_le hle hc1; have hz1 := szP.mono hle hz1; have hr0 := cel_le hle hr0
          have k00 := cel_le hle k00
          have hr1 := cel_le hle hr1
          have k10 := cel_le hle k10
          have hc2 := cel_le hle hc2; have hz2 := szP.mono hle hz2
          have k11 := cel_le hle k11
          have hvq : rd H13 (pD (p ++ [q])) v107 := path_rd hrow107 hz_rowp
          refine Z2 3 [1, 2, 0] rfl (fun o ho => ?_)
          simp only [K.sel, nrm] at ho; subst ho
          refine TC.drawCV 38  [(0, _), (3, _), (4, _), (13, _), (14, _), (15, _), (16, _), (17, _), (18, _), (19, _)] follows_mixed ⟨rfl, rfl, rfl, rfl, rfl, rfl, rfl, rfl, rfl, rfl, trivial⟩ ?_; refine Qa (some 126) [] (fun _ _ _ _ hF => Qb rfl rfl (Qd hF)) ?_; refine Qa (some 127) [] (fun _ _ _ _ hF => Qb rfl rfl (Qd hF)) ?_
          refine Qa (some 128) [(1, 0)] (by
           intro H' X F hle; have hL := Le.trans hL hle
           have k00 := cel_le hle k00
           have k10 := cel_le hle k10
           have k11 := cel_le hle k11
           intro hF; refine Qn rfl rfl ?_
           exact Qd hF) ?_
          refine Qa (some 129) [(0, 2), (2, 0)] (by
           intro H' X F hle; have hL := Le.trans hL hle
           have k00 := cel_le hle k00
           have k10 := cel_le hle k10
           have k11 := cel_le hle k11
           intro hF; refine Zl rfl rfl rfl ?_
           rw [decide_eq_true (by omega)]
           exact Qd hF) ?_
          refine Qa (some 130) [(3, 0)] (fun _ _ _ _ hF => Qb rfl rfl (Qd hF)) ?_
          refine Qa (some 131) [(4, 0)] (by
           intro H' X F hle hF; refine Qf rfl rfl rfl (Qb rfl rfl ?_)
           exact Qd hF) ?_
          refine Qa (some 132) [(4, 1)] (by
           intro H' X F hle hF; refine Qf rfl rfl rfl (Qb rfl rfl ?_)
           exact Qd hF) ?_
          refine Qa (some 133) [(6, 0), (4, 2)] (by
           intro H' X F hle; have hL := Le.trans hL hle
           have k00 := cel_le hle k00
           have k10 := cel_le hle k10
           have k11 := cel_le hle k11
           intro hF; refine Qf rfl rfl rfl (Qn rfl rfl ?_)
           exact Qd hF) ?_
          refine Qa (some 134) [(5, 2), (7, 0), (4, 3)] (by
           intro H' X F hle; have hL := Le.trans hL hle
           have k00 := cel_le hle k00
           have k10 := cel_le hle k10
           have k11 := cel_le hle k11
           intro hF; refine Qf rfl rfl rfl (Zl rfl rfl rfl ?_)
           rw [decide_eq_true (by omega)]
           exact Qd hF) ?_
          refine Qa (some 135) [(4, 4), (8, 0)] (fun _ _ _ _ hF => Qz rfl rfl rfl rfl (Qd hF)) ?_; refine Qa (some 136) [(9, 0)] (fun _ _ _ _ hF => Qb rfl rfl (Qd hF)) ?_
          refine Qa (some 137) [(10, 0)] (by
           intro H' X F hle hF; refine Qf rfl rfl rfl (Qb rfl rfl ?_)
           exact Qd hF) ?_
          refine Qa (some 138) [(10, 1)] (by
           intro H' X F hle hF; refine Qf rfl rfl rfl (Qb rfl rfl ?_)
           exact Qd hF) ?_
          refine Qa (some 139) [(11, 1), (12, 0), (10, 2)] (by
           intro H' X F hle hF; refine Qf rfl rfl rfl ?_; refine Qo (i) rfl rfl rfl (by omega) rfl ?_
           exact Qd hF) ?_
          refine Qa (some 140) [(13, 0), (10, 3)] (by
           intro H' X F hle; have hL := Le.trans hL hle; have hr0 := cel_le hle hr0
           have k00 := cel_le hle k00
           have k10 := cel_le hle k10
           have k11 := cel_le hle k11
           intro hF; refine Qf rfl rfl rfl ?_; refine Qp rfl (hr0) rfl ?_
           exact Qd hF) ?_
          refine Qa (some 141) [(10, 4)] (by
           intro H' X F hle hF; refine Qf rfl rfl rfl (Qb rfl rfl ?_)
           exact Qd hF) ?_
          refine Qa (some 142) [(14, 1), (15, 0), (10, 5)] (by
           intro H' X F hle hF; refine Qf rfl rfl rfl ?_; refine Qo (j) rfl rfl rfl (by omega) rfl ?_
           exact Qd hF) ?_
          refine Qa (some 143) [(16, 0), (10, 6)] (by
           intro H' X F hle; have hL := Le.trans hL hle
           have k00 := cel_le hle k00
           have k10 := cel_le hle k10
           have k11 := cel_le hle k11
           intro hF; refine Qf rfl rfl rfl ?_; refine Qp rfl (k00) rfl ?_
           exact Qd hF) ?_
          refine Qa (some 144) [(10, 7)] (by
           intro H' X F hle hF; refine Qf rfl rfl rfl (Qb rfl rfl ?_)
           exact Qd hF) ?_
          refine Qa (some 145) [(10, 8)] (by
           intro H' X F hle hF; refine Qf rfl rfl rfl (Qb rfl rfl ?_)
           exact Qd hF) ?_
          refine Qa (some 146) [(19, 0), (10, 9)] (by
           intro H' X F hle hF; refine Qf rfl rfl rfl ?_; refine Zb rfl rfl rfl ⟨by omega, by omega⟩ ?_
           exact Qd hF) ?_
          refine Qa (some 147) [(18, 2), (20, 0), (10, 10)] (by
           intro H' X F hle hF; refine Qf rfl rfl rfl ?_; refine Qo (i + 1) rfl rfl (by omega) (by omega) rfl ?_
           exact Qd hF) ?_
          refine Qa (some 148) [(21, 0), (10, 11)] (by
           intro H' X F hle; have hL := Le.trans hL hle
           have k00 := cel_le hle k00
           have hr1 := cel_le hle hr1
           have k10 := cel_le hle k10
           have k11 := cel_le hle k11
           intro hF; refine Qf rfl rfl rfl ?_; refine Qp rfl (hr1) rfl ?_
           exact Qd hF) ?_
          refine Qa (some 149) [(10, 12)] (by
           intro H' X F hle hF; refine Qf rfl rfl rfl (Qb rfl rfl ?_)
           exact Qd hF) ?_
          refine Qa (some 150) [(23, 0), (10, 13)] (by
           intro H' X F hle hF; refine Qf rfl rfl rfl ?_; refine Zb rfl rfl rfl ⟨by omega, by omega⟩ ?_
           exact Qd hF) ?_
          refine Qa (some 151) [(22, 2), (24, 0), (10, 14)] (by
           intro H' X F hle hF; refine Qf rfl rfl rfl ?_; refine Qo (j + 1) rfl rfl (by omega) (by omega) rfl ?_
           exact Qd hF) ?_
          refine Qa (some 152) [(25, 0), (10, 15)] (by
           intro H' X F hle; have hL := Le.trans hL hle
           have k00 := cel_le hle k00
           have k10 := cel_le hle k10
           have k11 := cel_le hle k11
           intro hF; refine Qf rfl rfl rfl ?_; refine Qp rfl (k11) rfl ?_
           exact Qd hF) ?_
          refine Qa (some 153) [(10, 16)] (by
           intro H' X F hle hF; refine Qf rfl rfl rfl (Qb rfl rfl ?_)
           exact Qd hF) ?_
          refine Qa (some 154) [(10, 17)] (by
           intro H' X F hle hF; refine Qf rfl rfl rfl (Qb rfl rfl ?_)
           exact Qd hF) ?_
          refine Qa (some 155) [(10, 18)] (by
           intro H' X F hle hF; refine Qf rfl rfl rfl (Qb rfl rfl ?_)
           exact Qd hF) ?_
          refine Qa (some 156) [(28, 1), (29, 0), (10, 19)] (by
           intro H' X F hle hF; refine Qf rfl rfl rfl ?_; refine Qo (i) rfl rfl rfl (by omega) rfl ?_
           exact Qd hF) ?_
          refine Qa (some 157) [(30, 0), (10, 20)] (by
           intro H' X F hle; have hL := Le.trans hL hle; have hc1 := cel_le hle hc1
           have k00 := cel_le hle k00
           have k10 := cel_le hle k10
           have k11 := cel_le hle k11
           intro hF; refine Qf rfl rfl rfl ?_; refine Qp rfl (hc1) rfl ?_
           exact Qd hF) ?_
          refine Qa (some 158) [(10, 21)] (by
           intro H' X F hle hF; refine Qf rfl rfl rfl (Qb rfl rfl ?_)
           exact Qd hF) ?_
          refine Qa (some 159) [(10, 22)] (by
           intro H' X F hle hF; refine Qf rfl rfl rfl (Qb rfl rfl ?_)
           exact Qd hF) ?_
          refine Qa (some 160) [(32, 1), (33, 0), (10, 23)] (by
           intro H' X F hle hF; refine Qf rfl rfl rfl ?_; refine Qo (j) rfl rfl rfl (by omega) rfl ?_
           exact Qd hF) ?_
          refine Qa (some 161) [(34, 0), (10, 24)] (by
           intro H' X F hle; have hL := Le.trans hL hle
           have k00 := cel_le hle k00
           have k10 := cel_le hle k10
           have hc2 := cel_le hle hc2
           have k11 := cel_le hle k11
           intro hF; refine Qf rfl rfl rfl ?_; refine Qp rfl (hc2) rfl ?_
           exact Qd hF) ?_
          refine Q9 (some 162) [(27, 8), (31, 4), (35, 0), (10, 25)] ([[(gc, oc1)]]) (fun _ => fun u s H => u = .int .i64 (dist c d : Int) ∧ ∃ D' m' oc', Memo S D' m' ∧ MapG Tryz.prog 137 3 oc' D'.length m' ∧ s = [[(gc, oc')]]) (by
           intro H' X F hle; have hL := Le.trans hL hle; have hgd := hAt.mono hle hgd; have hz1 := szP.mono hle hz1
           have k00 := cel_le hle k00
           have k10 := cel_le hle k10
           have hz2 := szP.mono hle hz2
           have k11 := cel_le hle k11
           intro hF; refine Qf rfl rfl rfl ?_; refine Qs (distance_n hcl hS c.size c d hcS hdS (Nat.le_refl _) (by omega) hgd hM1 hG1 hz1 hz2) ⟨rfl, rfl, rfl, trivial⟩ rfl ?_
           rintro _ _ H5 ⟨rfl, D4, m4, oc4, hM4, _, hG4, rfl, hle5⟩
           refine Qi ?_
           exact Q7 [_] hF hle5 ⟨rfl, D4, m4, oc4, hM4, hG4, rfl⟩) ?_
          refine Qa (some 163) [(26, 10), (36, 0), (10, 26)] (by
           intro H' X F hle; intro _
           rintro _ _ Hr hler ⟨rfl, D4, m4, oc4, hM4, hG4, rfl⟩
           intro hF; refine Qf rfl rfl rfl ?_; refine Zb rfl rfl rfl ⟨by omega, by omega⟩ ?_
           exact Qd hF) ?_
          refine ⟨by kernel_rfl, .refl _, ?_⟩
          ·
           intro H14 hle
           rintro _ _ Hr hler ⟨rfl, D4, m4, oc4, hM4, hG4, rfl⟩
           have hL := Le.trans hL hle; have hgd := hAt.mono hle hgd; have hle0 := Le.trans hle0 hle; have hlog1 := EdLog.mono hle hlog1; have hc1 := cel_le hle hc1; have hz1 := szP.mono hle hz1
           have k00 := cel_le hle k00
           have k10 := cel_le hle k10
           have hc2 := cel_le hle hc2; have hz2 := szP.mono hle hz2
           have k11 := cel_le hle k11
           have hvq := rd.mono hle hvq; refine Qw (own' := _ :: _ :: _ :: own) rfl ?_; refine Zi (env' := [(0, _), (3, _), (4, _), (13, _), (14, _), (15, _), (16, _), (17, _), (18, _), (19, _), (136, _), (143, _), (163, _)]) ⟨rfl, rfl, rfl, rfl, rfl, rfl, rfl, rfl, rfl, rfl, rfl, rfl, rfl, trivial⟩ ?_; refine Qf rfl rfl rfl (Za rfl rfl rfl ?_)
           rw [decide_eq_true (by omega)]
           refine Qz rfl rfl rfl rfl (Qe rfl rfl (Qi (Qc (Qv rfl (Qj ?_))))); refine Q4 11  [(0, _), (3, _), (4, _), (13, _), (14, _), (15, _), (16, _), (17, _), (18, _), (19, _)] follows_mixed ⟨rfl, rfl, rfl, rfl, rfl, rfl, rfl, rfl, rfl, rfl, trivial⟩ ?_; refine Qa (some 166) [] (fun _ _ _ _ hF => Qb rfl rfl (Qd hF)) ?_; refine Qa (some 167) [] (fun _ _ _ _ hF => Qb rfl rfl (Qd hF)) ?_; refine Qa (some 168) [] (fun _ _ _ _ hF => Qb rfl rfl (Qd hF)) ?_; refine Qa (some 169) [(1, 1), (2, 0)] (fun _ _ _ _ hF => Qo (i) rfl rfl rfl (by omega) rfl (Qd hF)) ?_
           refine Qa (some 170) [(3, 0)] (by
            intro H' X F hle; have hL := Le.trans hL hle; have hc1 := cel_le hle hc1
            have k00 := cel_le hle k00
            have k10 := cel_le hle k10
            have k11 := cel_le hle k11
            intro hF; refine Qp rfl (hc1) rfl ?_
            exact Qd hF) ?_
           refine Qa (some 171) [] (fun _ _ _ _ hF => Qb rfl rfl (Qd hF)) ?_; refine Qa (some 172) [] (fun _ _ _ _ hF => Qb rfl rfl (Qd hF)) ?_; refine Qa (some 173) [(5, 1), (6, 0)] (fun _ _ _ _ hF => Qo (j) rfl rfl rfl (by omega) rfl (Qd hF)) ?_
           refine Qa (some 174) [(7, 0)] (by
            intro H' X F hle; have hL := Le.trans hL hle
            have k00 := cel_le hle k00
            have k10 := cel_le hle k10
            have hc2 := cel_le hle hc2
            have k11 := cel_le hle k11
            intro hF; refine Qp rfl (hc2) rfl ?_
            exact Qd hF) ?_
           refine Qa (some 175) [] (fun _ _ _ _ hF => Qb rfl rfl (Qd hF)) ?_; refine Qa (some 176) [] (fun _ _ _ _ hF => Qb rfl rfl (Qd hF)) ?_
           refine ⟨by kernel_rfl, .refl _, ?_⟩
           ·
            intro H15 hle; have hL := Le.trans hL hle; have hgd := hAt.mono hle hgd; have hle0 := Le.trans hle0 hle; have hlog1 := EdLog.mono hle hlog1; have hz1 := szP.mono hle hz1
            have k00 := cel_le hle k00
            have k10 := cel_le hle k10
            have hz2 := szP.mono hle hz2
            have k11 := cel_le hle k11
            have hvq := rd.mono hle hvq; refine Qw (own' := _ :: _ :: _ :: own) rfl ?_; refine Zi (env' := [(0, _), (3, _), (4, _), (13, _), (14, _), (15, _), (16, _), (17, _), (18, _), (19, _), (166, _), (170, _), (174, _), (175, _), (176, _)]) ⟨rfl, rfl, rfl, rfl, rfl, rfl, rfl, rfl, rfl, rfl, rfl, rfl, rfl, rfl, rfl, trivial⟩ ?_; refine Qs (ih c d (p ++ [q]) (by omega) hcS hdS (by omega) (by simp only [List.length_append, List.length_singleton]; omega) (es := es1) (by omega) hgd hM4 hG4 hz1 hz2 hvq hlog1) ⟨rfl, rfl, rfl, rfl, rfl, trivial⟩ rfl ?_
            rintro v177 _ H11 ⟨seg3, D3, m3, oc3, hlog3, hM3, hG3, rfl, hle11⟩
            have hL := Le.trans hL hle11; have hle0 := Le.trans hle0 hle11
            have k00 := cel_le hle11 k00
            have k10 := cel_le hle11 k10
            have k11 := cel_le hle11 k11
            refine Qe rfl rfl (Qi (Qc (Qh (Qb rfl rfl ?_)))); refine Zb rfl rfl rfl ⟨by omega, by omega⟩ (Qb rfl rfl ?_); refine Zb rfl rfl rfl ⟨by omega, by omega⟩ (Qb rfl rfl ?_); refine Zb rfl rfl rfl ⟨by omega, by omega⟩ (Qe rfl rfl (Qe rfl rfl (Qe rfl rfl (Qi (Ze ?_))))); refine Ze ?_
            refine Zj 3 [0, 1] rfl (fun o ho => ?_)
            simp only [K.sel, nrm] at ho; subst ho
            refine Zf ((a.length - (i + 1)) + (b.length - (j + 1))) [(0, _), (3, _), (4, _), (13, _), (14, _), (15, _), (16, _), (17, _), (18, _)] (by omega) ⟨rfl, rfl, rfl, rfl, rfl, rfl, rfl, rfl, rfl, trivial⟩ ⟨i + 1, j + 1, q + 1, v177, seg3, _, D3, m3, oc3, rfl, by omega, by omega, by omega, hlog3, by rw [List.append_assoc, ← hw]; exact hes, hM3, hG3, by simp, rfl, hle0⟩
         ·
          obtain ⟨b1, o1, u1', rfl, hc1, hz1⟩ := hv13.at hx1
          obtain ⟨g3, v3, z0, z1, rfl, hp3, _, _⟩ := hz1.open
          obtain ⟨hcS, hcz⟩ := hma c (List.mem_of_getElem? hx1)
          have hxs := Tr.size_mem (List.mem_of_getElem? hx1)
          obtain ⟨r0, hr0, hr0'⟩ := htab.row (i := i) (by omega)
          have k00 := hr0' j (by omega)
          obtain ⟨r1, hr1, hr1'⟩ := htab.row (i := i + 1) (by omega)
          have k10 := hr1' j (by omega)
          have d0 := alD_bd a b i j
          have d1 := alD_bd a b (i + 1) j
          obtain ⟨b2, o2, u2', rfl, hc2, hz2⟩ := hv87.at hy1
          obtain ⟨g4, v4, w0', w1, rfl, hp4, hd4, _⟩ := hz2.open
          have hdS := hmb d (List.mem_of_getElem? hy1)
          have hys := Tr.size_mem (List.mem_of_getElem? hy1)
          have k11 := hr1' (j + 1) (by omega)
          have d2 := alD_bd a b (i + 1) (j + 1)
          have d3 := dist_le c d
          have hw := (wk_ds hx1 hy1 hT1 hT2 : wk edT p (a.drop i) (b.drop j) q = _)
          have hwl := congrArg List.length hw
          simp only [List.length_cons] at hwl
          refine Qh (Qb rfl rfl (Qb rfl rfl (Qn rfl rfl (Zl rfl rfl rfl ?_))))
          rw [decide_eq_true (by omega)]
          refine Qb rfl rfl ?_; refine Ql rfl rfl rfl rfl ?_; refine Ql rfl rfl rfl rfl ?_; refine Ql rfl rfl rfl rfl ?_; refine Ql rfl rfl rfl rfl ?_; refine Qz rfl rfl rfl rfl (Qi (Qc (Qv rfl (Q2 (Qc ?_))))); refine Q6 (Qj (Qh (Qb rfl rfl ?_))); refine Qs (clone_int (by omega) hvp) ⟨rfl, trivial⟩ rfl ?_
          rintro v104 _ H9 ⟨sgp, rfl, hrp, hle9⟩
          have hL := Le.trans hL hle9; have hgd := hAt.mono hle9 hgd; have hle0 := Le.trans hle0 hle9; have hlog1 := EdLog.mono hle9 hlog1; have hc1 := cel_le hle9 hc1; have hp3 := hAt.mono hle9 hp3; have hz1 := szP.mono hle9 hz1; have hr0 := cel_le hle9 hr0
          have k00 := cel_le hle9 k00
          have hr1 := cel_le hle9 hr1
          have k10 := cel_le hle9 k10
          have hc2 := cel_le hle9 hc2; have hz2 := szP.mono hle9 hz2
          have k11 := cel_le hle9 k11
          refine Qb rfl rfl ?_
          refine Zg (r := [_]) [(0, [_])] ⟨rfl, ⟨_, rfl, rfl⟩, trivial⟩ rfl rfl rfl rfl ?_; intro g106; refine Zh 1 rfl rfl rfl hrp (Src.ofOwn 0 0 rfl rfl rfl (Ones.all (show Ones [_] from ⟨by rfl, trivial⟩)) ⟨rfl, trivial⟩) (by omega) (by omega) rfl ?_; intro v107 seg107 hrow107; refine Qe rfl rfl (Qi (Qc (Q6 (Qj ?_))))
          refine Z2 4 [2, 3, 0, 1] rfl (fun o ho => ?_)
          simp only [K.sel, nrm] at ho; subst ho
          refine TC.drawCV 38  [(0, _), (3, _), (4, _), (13, _), (14, _), (15, _), (16, _), (17, _), (18, _), (19, _)] follows_mixed ⟨rfl, rfl, rfl, rfl, rfl, rfl, rfl, rfl, rfl, rfl, trivial⟩ ?_; refine Qa (some 126) [] (fun _ _ _ _ hF => Qb rfl rfl (Qd hF)) ?_; refine Qa (some 127) [] (fun _ _ _ _ hF => Qb rfl rfl (Qd hF)) ?_
          refine Qa (some 128) [(1, 0)] (by
           intro H' X F hle; have hL := Le.trans hL hle
           have k00 := cel_le hle k00
           have k10 := cel_le hle k10
           have k11 := cel_le hle k11
           intro hF; refine Qn rfl rfl ?_
           exact Qd hF) ?_
          refine Qa (some 129) [(0, 2), (2, 0)] (by
           intro H' X F hle; have hL := Le.trans hL hle
           have k00 := cel_le hle k00
           have k10 := cel_le hle k10
           have k11 := cel_le hle k11
           intro hF; refine Zl rfl rfl rfl ?_
           rw [decide_eq_true (by omega)]
           exact Qd hF) ?_
          refine Qa (some 130) [(3, 0)] (fun _ _ _ _ hF => Qb rfl rfl (Qd hF)) ?_
          refine Qa (some 131) [(4, 0)] (by
           intro H' X F hle hF; refine Qf rfl rfl rfl (Qb rfl rfl ?_)
           exact Qd hF) ?_
          refine Qa (some 132) [(4, 1)] (by
           intro H' X F hle hF; refine Qf rfl rfl rfl (Qb rfl rfl ?_)
           exact Qd hF) ?_
          refine Qa (some 133) [(6, 0), (4, 2)] (by
           intro H' X F hle; have hL := Le.trans hL hle
           have k00 := cel_le hle k00
           have k10 := cel_le hle k10
           have k11 := cel_le hle k11
           intro hF; refine Qf rfl rfl rfl (Qn rfl rfl ?_)
           exact Qd hF) ?_
          refine Qa (some 134) [(5, 2), (7, 0), (4, 3)] (by
           intro H' X F hle; have hL := Le.trans hL hle
           have k00 := cel_le hle k00
           have k10 := cel_le hle k10
           have k11 := cel_le hle k11
           intro hF; refine Qf rfl rfl rfl (Zl rfl rfl rfl ?_)
           rw [decide_eq_true (by omega)]
           exact Qd hF) ?_
          refine Qa (some 135) [(4, 4), (8, 0)] (fun _ _ _ _ hF => Qz rfl rfl rfl rfl (Qd hF)) ?_; refine Qa (some 136) [(9, 0)] (fun _ _ _ _ hF => Qb rfl rfl (Qd hF)) ?_
          refine Qa (some 137) [(10, 0)] (by
           intro H' X F hle hF; refine Qf rfl rfl rfl (Qb rfl rfl ?_)
           exact Qd hF) ?_
          refine Qa (some 138) [(10, 1)] (by
           intro H' X F hle hF; refine Qf rfl rfl rfl (Qb rfl rfl ?_)
           exact Qd hF) ?_
          refine Qa (some 139) [(11, 1), (12, 0), (10, 2)] (by
           intro H' X F hle hF; refine Qf rfl rfl rfl ?_; refine Qo (i) rfl rfl rfl (by omega) rfl ?_
           exact Qd hF) ?_
          refine Qa (some 140) [(13, 0), (10, 3)] (by
           intro H' X F hle; have hL := Le.trans hL hle; have hr0 := cel_le hle hr0
           have k00 := cel_le hle k00
           have k10 := cel_le hle k10
           have k11 := cel_le hle k11
           intro hF; refine Qf rfl rfl rfl ?_; refine Qp rfl (hr0) rfl ?_
           exact Qd hF) ?_
          refine Qa (some 141) [(10, 4)] (by
           intro H' X F hle hF; refine Qf rfl rfl rfl (Qb rfl rfl ?_)
           exact Qd hF) ?_
          refine Qa (some 142) [(14, 1), (15, 0), (10, 5)] (by
           intro H' X F hle hF; refine Qf rfl rfl rfl ?_; refine Qo (j) rfl rfl rfl (by omega) rfl ?_
           exact Qd hF) ?_
          refine Qa (some 143) [(16, 0), (10, 6)] (by
           intro H' X F hle; have hL := Le.trans hL hle
           have k00 := cel_le hle k00
           have k10 := cel_le hle k10
           have k11 := cel_le hle k11
           intro hF; refine Qf rfl rfl rfl ?_; refine Qp rfl (k00) rfl ?_
           exact Qd hF) ?_
          refine Qa (some 144) [(10, 7)] (by
           intro H' X F hle hF; refine Qf rfl rfl rfl (Qb rfl rfl ?_)
           exact Qd hF) ?_
          refine Qa (some 145) [(10, 8)] (by
           intro H' X F hle hF; refine Qf rfl rfl rfl (Qb rfl rfl ?_)
           exact Qd hF) ?_
          refine Qa (some 146) [(19, 0), (10, 9)] (by
           intro H' X F hle hF; refine Qf rfl rfl rfl ?_; refine Zb rfl rfl rfl ⟨by omega, by omega⟩ ?_
           exact Qd hF) ?_
          refine Qa (some 147) [(18, 2), (20, 0), (10, 10)] (by
           intro H' X F hle hF; refine Qf rfl rfl rfl ?_; refine Qo (i + 1) rfl rfl (by omega) (by omega) rfl ?_
           exact Qd hF) ?_
          refine Qa (some 148) [(21, 0), (10, 11)] (by
           intro H' X F hle; have hL := Le.trans hL hle
           have k00 := cel_le hle k00
           have hr1 := cel_le hle hr1
           have k10 := cel_le hle k10
           have k11 := cel_le hle k11
           intro hF; refine Qf rfl rfl rfl ?_; refine Qp rfl (hr1) rfl ?_
           exact Qd hF) ?_
          refine Qa (some 149) [(10, 12)] (by
           intro H' X F hle hF; refine Qf rfl rfl rfl (Qb rfl rfl ?_)
           exact Qd hF) ?_
          refine Qa (some 150) [(23, 0), (10, 13)] (by
           intro H' X F hle hF; refine Qf rfl rfl rfl ?_; refine Zb rfl rfl rfl ⟨by omega, by omega⟩ ?_
           exact Qd hF) ?_
          refine Qa (some 151) [(22, 2), (24, 0), (10, 14)] (by
           intro H' X F hle hF; refine Qf rfl rfl rfl ?_; refine Qo (j + 1) rfl rfl (by omega) (by omega) rfl ?_
           exact Qd hF) ?_
          refine Qa (some 152) [(25, 0), (10, 15)] (by
           intro H' X F hle; have hL := Le.trans hL hle
           have k00 := cel_le hle k00
           have k10 := cel_le hle k10
           have k11 := cel_le hle k11
           intro hF; refine Qf rfl rfl rfl ?_; refine Qp rfl (k11) rfl ?_
           exact Qd hF) ?_
          refine Qa (some 153) [(10, 16)] (by
           intro H' X F hle hF; refine Qf rfl rfl rfl (Qb rfl rfl ?_)
           exact Qd hF) ?_
          refine Qa (some 154) [(10, 17)] (by
           intro H' X F hle hF; refine Qf rfl rfl rfl (Qb rfl rfl ?_)
           exact Qd hF) ?_
          refine Qa (some 155) [(10, 18)] (by
           intro H' X F hle hF; refine Qf rfl rfl rfl (Qb rfl rfl ?_)
           exact Qd hF) ?_
          refine Qa (some 156) [(28, 1), (29, 0), (10, 19)] (by
           intro H' X F hle hF; refine Qf rfl rfl rfl ?_; refine Qo (i) rfl rfl rfl (by omega) rfl ?_
           exact Qd hF) ?_
          refine Qa (some 157) [(30, 0), (10, 20)] (by
           intro H' X F hle; have hL := Le.trans hL hle; have hc1 := cel_le hle hc1
           have k00 := cel_le hle k00
           have k10 := cel_le hle k10
           have k11 := cel_le hle k11
           intro hF; refine Qf rfl rfl rfl ?_; refine Qp rfl (hc1) rfl ?_
           exact Qd hF) ?_
          refine Qa (some 158) [(10, 21)] (by
           intro H' X F hle hF; refine Qf rfl rfl rfl (Qb rfl rfl ?_)
           exact Qd hF) ?_
          refine Qa (some 159) [(10, 22)] (by
           intro H' X F hle hF; refine Qf rfl rfl rfl (Qb rfl rfl ?_)
           exact Qd hF) ?_
          refine Qa (some 160) [(32, 1), (33, 0), (10, 23)] (by
           intro H' X F hle hF; refine Qf rfl rfl rfl ?_; refine Qo (j) rfl rfl rfl (by omega) rfl ?_
           exact Qd hF) ?_
          refine Qa (some 161) [(34, 0), (10, 24)] (by
           intro H' X F hle; have hL := Le.trans hL hle
           have k00 := cel_le hle k00
           have k10 := cel_le hle k10
           have hc2 := cel_le hle hc2
           have k11 := cel_le hle k11
           intro hF; refine Qf rfl rfl rfl ?_; refine Qp rfl (hc2) rfl ?_
           exact Qd hF) ?_
          refine Q9 (some 162) [(27, 8), (31, 4), (35, 0), (10, 25)] ([[(gc, oc1)]]) (fun _ => fun u s H => u = .int .i64 (dist c d : Int) ∧ ∃ D' m' oc', Memo S D' m' ∧ MapG Tryz.prog 137 3 oc' D'.length m' ∧ s = [[(gc, oc')]]) (by
           intro H' X F hle; have hL := Le.trans hL hle; have hgd := hAt.mono hle hgd; have hz1 := szP.mono hle hz1
           have k00 := cel_le hle k00
           have k10 := cel_le hle k10
           have hz2 := szP.mono hle hz2
           have k11 := cel_le hle k11
           intro hF; refine Qf rfl rfl rfl ?_; refine Qs (distance_n hcl hS c.size c d hcS hdS (Nat.le_refl _) (by omega) hgd hM1 hG1 hz1 hz2) ⟨rfl, rfl, rfl, trivial⟩ rfl ?_
           rintro _ _ H5 ⟨rfl, D4, m4, oc4, hM4, _, hG4, rfl, hle5⟩
           refine Qi ?_
           exact Q7 [_] hF hle5 ⟨rfl, D4, m4, oc4, hM4, hG4, rfl⟩) ?_
          refine Qa (some 163) [(26, 10), (36, 0), (10, 26)] (by
           intro H' X F hle; intro _
           rintro _ _ Hr hler ⟨rfl, D4, m4, oc4, hM4, hG4, rfl⟩
           intro hF; refine Qf rfl rfl rfl ?_; refine Zb rfl rfl rfl ⟨by omega, by omega⟩ ?_
           exact Qd hF) ?_
          refine ⟨by kernel_rfl, .refl _, ?_⟩
          ·
           intro H16 hle
           rintro _ _ Hr hler ⟨rfl, D4, m4, oc4, hM4, hG4, rfl⟩
           have hL := Le.trans hL hle; have hle0 := Le.trans hle0 hle; have hlog1 := EdLog.mono hle hlog1; have hc1 := cel_le hle hc1; have hp3 := hAt.mono hle hp3; have hr0 := cel_le hle hr0
           have k00 := cel_le hle k00
           have hr1 := cel_le hle hr1
           have k10 := cel_le hle k10
           have k11 := cel_le hle k11
           refine Qw (own' := _ :: _ :: _ :: _ :: own) rfl ?_; refine Zi (env' := [(0, _), (3, _), (4, _), (13, _), (14, _), (15, _), (16, _), (17, _), (18, _), (19, _), (136, _), (143, _), (163, _)]) ⟨rfl, rfl, rfl, rfl, rfl, rfl, rfl, rfl, rfl, rfl, rfl, rfl, rfl, trivial⟩ ?_; refine Qf rfl rfl rfl (Za rfl rfl rfl ?_)
           rw [decide_eq_false (by omega)]
           refine Qz rfl rfl rfl rfl (Qe rfl rfl (Qi (Qc (Qr rfl (Qj ?_))))); refine Q4 28  [(0, _), (3, _), (4, _), (13, _), (14, _), (15, _), (16, _), (17, _), (18, _), (19, _)] follows_mixed ⟨rfl, rfl, rfl, rfl, rfl, rfl, rfl, rfl, rfl, rfl, trivial⟩ ?_; refine Qa (some 185) [] (fun _ _ _ _ hF => Qb rfl rfl (Qd hF)) ?_; refine Qa (some 186) [] (fun _ _ _ _ hF => Qb rfl rfl (Qd hF)) ?_
           refine Qa (some 187) [(1, 0)] (by
            intro H' X F hle; have hL := Le.trans hL hle
            have k00 := cel_le hle k00
            have k10 := cel_le hle k10
            have k11 := cel_le hle k11
            intro hF; refine Qn rfl rfl ?_
            exact Qd hF) ?_
           refine Qa (some 188) [(0, 2), (2, 0)] (by
            intro H' X F hle; have hL := Le.trans hL hle
            have k00 := cel_le hle k00
            have k10 := cel_le hle k10
            have k11 := cel_le hle k11
            intro hF; refine Zl rfl rfl rfl ?_
            rw [decide_eq_true (by omega)]
            exact Qd hF) ?_
           refine Qa (some 189) [(3, 0)] (fun _ _ _ _ hF => Qb rfl rfl (Qd hF)) ?_
           refine Qa (some 190) [(4, 0)] (by
            intro H' X F hle hF; refine Qf rfl rfl rfl (Qb rfl rfl ?_)
            exact Qd hF) ?_
           refine Qa (some 191) [(4, 1)] (by
            intro H' X F hle hF; refine Qf rfl rfl rfl (Qb rfl rfl ?_)
            exact Qd hF) ?_
           refine Qa (some 192) [(5, 1), (6, 0), (4, 2)] (by
            intro H' X F hle hF; refine Qf rfl rfl rfl ?_; refine Qo (i) rfl rfl rfl (by omega) rfl ?_
            exact Qd hF) ?_
           refine Qa (some 193) [(7, 0), (4, 3)] (by
            intro H' X F hle; have hL := Le.trans hL hle; have hr0 := cel_le hle hr0
            have k00 := cel_le hle k00
            have k10 := cel_le hle k10
            have k11 := cel_le hle k11
            intro hF; refine Qf rfl rfl rfl ?_; refine Qp rfl (hr0) rfl ?_
            exact Qd hF) ?_
           refine Qa (some 194) [(4, 4)] (by
            intro H' X F hle hF; refine Qf rfl rfl rfl (Qb rfl rfl ?_)
            exact Qd hF) ?_
           refine Qa (some 195) [(8, 1), (9, 0), (4, 5)] (by
            intro H' X F hle hF; refine Qf rfl rfl rfl ?_; refine Qo (j) rfl rfl rfl (by omega) rfl ?_
            exact Qd hF) ?_
           refine Qa (some 196) [(10, 0), (4, 6)] (by
            intro H' X F hle; have hL := Le.trans hL hle
            have k00 := cel_le hle k00
            have k10 := cel_le hle k10
            have k11 := cel_le hle k11
            intro hF; refine Qf rfl rfl rfl ?_; refine Qp rfl (k00) rfl ?_
            exact Qd hF) ?_
           refine Qa (some 197) [(4, 7)] (by
            intro H' X F hle hF; refine Qf rfl rfl rfl (Qb rfl rfl ?_)
            exact Qd hF) ?_
           refine Qa (some 198) [(4, 8)] (by
            intro H' X F hle hF; refine Qf rfl rfl rfl (Qb rfl rfl ?_)
            exact Qd hF) ?_
           refine Qa (some 199) [(13, 0), (4, 9)] (by
            intro H' X F hle hF; refine Qf rfl rfl rfl ?_; refine Zb rfl rfl rfl ⟨by omega, by omega⟩ ?_
            exact Qd hF) ?_
           refine Qa (some 200) [(12, 2), (14, 0), (4, 10)] (by
            intro H' X F hle hF; refine Qf rfl rfl rfl ?_; refine Qo (i + 1) rfl rfl (by omega) (by omega) rfl ?_
            exact Qd hF) ?_
           refine Qa (some 201) [(15, 0), (4, 11)] (by
            intro H' X F hle; have hL := Le.trans hL hle
            have k00 := cel_le hle k00
            have hr1 := cel_le hle hr1
            have k10 := cel_le hle k10
            have k11 := cel_le hle k11
            intro hF; refine Qf rfl rfl rfl ?_; refine Qp rfl (hr1) rfl ?_
            exact Qd hF) ?_
           refine Qa (some 202) [(4, 12)] (by
            intro H' X F hle hF; refine Qf rfl rfl rfl (Qb rfl rfl ?_)
            exact Qd hF) ?_
           refine Qa (some 203) [(16, 1), (17, 0), (4, 13)] (by
            intro H' X F hle hF; refine Qf rfl rfl rfl ?_; refine Qo (j) rfl rfl rfl (by omega) rfl ?_
            exact Qd hF) ?_
           refine Qa (some 204) [(18, 0), (4, 14)] (by
            intro H' X F hle; have hL := Le.trans hL hle
            have k00 := cel_le hle k00
            have k10 := cel_le hle k10
            have k11 := cel_le hle k11
            intro hF; refine Qf rfl rfl rfl ?_; refine Qp rfl (k10) rfl ?_
            exact Qd hF) ?_
           refine Qa (some 205) [(4, 15)] (by
            intro H' X F hle hF; refine Qf rfl rfl rfl (Qb rfl rfl ?_)
            exact Qd hF) ?_
           refine Qa (some 206) [(4, 16)] (by
            intro H' X F hle hF; refine Qf rfl rfl rfl (Qb rfl rfl ?_)
            exact Qd hF) ?_
           refine Qa (some 207) [(20, 1), (21, 0), (4, 17)] (by
            intro H' X F hle hF; refine Qf rfl rfl rfl ?_; refine Qo (i) rfl rfl rfl (by omega) rfl ?_
            exact Qd hF) ?_
           refine Qa (some 208) [(22, 0), (4, 18)] (by
            intro H' X F hle; have hL := Le.trans hL hle; have hc1 := cel_le hle hc1
            have k00 := cel_le hle k00
            have k10 := cel_le hle k10
            have k11 := cel_le hle k11
            intro hF; refine Qf rfl rfl rfl ?_; refine Qp rfl (hc1) rfl ?_
            exact Qd hF) ?_
           refine Qa (some 209) [(23, 0), (4, 19)] (by
            intro H' X F hle hF; refine Qf rfl rfl rfl (Qt rfl rfl ?_)
            exact Qd hF) ?_
           refine Qa (some 210) [(24, 0), (4, 20)] (by
            intro H' X F hle hF; refine Qf rfl rfl rfl (Qg rfl rfl ?_)
            exact Qd hF) ?_
           refine Qa (some 211) [(25, 0), (4, 21)] (by
            intro H' X F hle; have hL := Le.trans hL hle; have hp3 := hAt.mono hle hp3
            have k00 := cel_le hle k00
            have k10 := cel_le hle k10
            have k11 := cel_le hle k11
            intro hF; refine Qf rfl rfl rfl ?_; refine Qp rfl (hp3.2.2.1) rfl ?_
            exact Qd hF) ?_
           refine Qa (some 212) [(19, 7), (26, 0), (4, 22)] (by
            intro H' X F hle hF; refine Qf rfl rfl rfl ?_; refine Zb rfl rfl rfl ⟨by omega, by omega⟩ ?_
            exact Qd hF) ?_
           refine ⟨by kernel_rfl, .refl _, ?_⟩
           ·
            intro H17 hle; have hL := Le.trans hL hle; have hle0 := Le.trans hle0 hle; have hlog1 := EdLog.mono hle hlog1
            have k00 := cel_le hle k00
            have k10 := cel_le hle k10
            have k11 := cel_le hle k11
            refine Qw (own' := _ :: _ :: _ :: _ :: own) rfl ?_; refine Zi (env' := [(0, _), (3, _), (4, _), (13, _), (14, _), (15, _), (16, _), (17, _), (18, _), (19, _), (189, _), (196, _), (212, _)]) ⟨rfl, rfl, rfl, rfl, rfl, rfl, rfl, rfl, rfl, rfl, rfl, rfl, rfl, trivial⟩ ?_; refine Qf rfl rfl rfl (Za rfl rfl rfl ?_)
            rw [decide_eq_true (by omega)]
            refine Qz rfl rfl rfl rfl (Qe rfl rfl (Qi (Qc (Qv rfl (Qj ?_)))))
            refine Z2 4 [1, 0, 3] rfl (fun o ho => ?_)
            simp only [K.sel, nrm] at ho; subst ho
            have hlog2 := hlog1
            obtain ⟨xs1, rs1, ps1, hrow1, hpm1, hxs1⟩ := hlog2
            have hpth := row_path hrow107 (by simp)
            refine TC.flat (own' := rs1 :: ps1 :: _) (split2 hpm1) (Qh (Qb rfl rfl (Qb rfl rfl ?_))); refine Q8 [(0, [_]), (1, [_])] ⟨rfl, ⟨_, rfl, rfl⟩, rfl, ⟨_, rfl, one_cells hrow107.one⟩, trivial⟩ rfl rfl ?_
            refine Zg (r := [_, _, _, _]) [(0, [_, _, _, _])] ⟨rfl, ⟨_, rfl, rfl⟩, trivial⟩ rfl rfl rfl rfl ?_; intro g218; refine Zh 1 rfl rfl rfl hrow1 (Src.ofOwn 0 0 rfl rfl rfl (Ones.all (show Ones [_, _, _, _] from ⟨rfl, hrow107.one, rfl, rfl, trivial⟩)) ⟨rfl, rfl, rfl, rfl, trivial⟩) (by omega) (by omega) rfl ?_; intro v' seg' hrow'; refine Qe rfl rfl (Qi (Qc (Qh (Qb rfl rfl ?_)))); refine Zb rfl rfl rfl ⟨by omega, by omega⟩ (Qe rfl rfl (Qi (Ze (Ze ?_))))
            refine Zj 5 [3, 1, 2, 4] rfl (fun o ho => ?_)
            simp only [K.sel, nrm] at ho; subst ho
            refine TQ.flat (own' := _ :: (seg' ++ (ps1 ++ seg107)) :: own) join4 ?_
            refine Zf ((a.length - (i + 1)) + (b.length - j)) [(0, _), (3, _), (4, _), (13, _), (14, _), (15, _), (16, _), (17, _), (18, _)] (by omega) ⟨rfl, rfl, rfl, rfl, rfl, rfl, rfl, rfl, rfl, trivial⟩ ⟨i + 1, j, q, v', seg' ++ (ps1 ++ seg107), es1 ++ [⟨2, p ++ [q], Tr.zero⟩], D4, m4, oc4, rfl, by omega, by omega, by omega, EdLog.put (e := ⟨2, p ++ [q], Tr.zero⟩) hrow' hxs1 hpth (zero_rd _), by rw [List.append_assoc, List.singleton_append, ← hw]; exact hes, hM4, hG4, by simp, rfl, hle0⟩
         ·
          obtain ⟨b1, o1, u1', rfl, hc1, hz1⟩ := hv13.at hx1
          obtain ⟨g3, v3, z0, z1, rfl, hp3, _, _⟩ := hz1.open
          obtain ⟨hcS, hcz⟩ := hma c (List.mem_of_getElem? hx1)
          have hxs := Tr.size_mem (List.mem_of_getElem? hx1)
          obtain ⟨r0, hr0, hr0'⟩ := htab.row (i := i) (by omega)
          have k00 := hr0' j (by omega)
          obtain ⟨r1, hr1, hr1'⟩ := htab.row (i := i + 1) (by omega)
          have k10 := hr1' j (by omega)
          have d0 := alD_bd a b i j
          have d1 := alD_bd a b (i + 1) j
          obtain ⟨b2, o2, u2', rfl, hc2, hz2⟩ := hv87.at hy1
          obtain ⟨g4, v4, w0', w1, rfl, hp4, hd4, _⟩ := hz2.open
          have hdS := hmb d (List.mem_of_getElem? hy1)
          have hys := Tr.size_mem (List.mem_of_getElem? hy1)
          have k11 := hr1' (j + 1) (by omega)
          have d2 := alD_bd a b (i + 1) (j + 1)
          have d3 := dist_le c d
          have hw := (wk_is hx1 hy1 hT1 hT2 : wk edT p (a.drop i) (b.drop j) q = _)
          have hwl := congrArg List.length hw
          simp only [List.length_cons] at hwl
          refine Qh (Qb rfl rfl (Qb rfl rfl (Qn rfl rfl (Zl rfl rfl rfl ?_))))
          rw [decide_eq_true (by omega)]
          refine Qb rfl rfl ?_; refine Ql rfl rfl rfl rfl ?_; refine Ql rfl rfl rfl rfl ?_; refine Ql rfl rfl rfl rfl ?_; refine Ql rfl rfl rfl rfl ?_; refine Qz rfl rfl rfl rfl (Qi (Qc (Qv rfl (Q2 (Qc ?_))))); refine Q6 (Qj (Qh (Qb rfl rfl ?_))); refine Qs (clone_int (by omega) hvp) ⟨rfl, trivial⟩ rfl ?_
          rintro v104 _ H9 ⟨sgp, rfl, hrp, hle9⟩
          have hL := Le.trans hL hle9; have hgd := hAt.mono hle9 hgd; have hle0 := Le.trans hle0 hle9; have hlog1 := EdLog.mono hle9 hlog1; have hc1 := cel_le hle9 hc1; have hp3 := hAt.mono hle9 hp3; have hz1 := szP.mono hle9 hz1; have hr0 := cel_le hle9 hr0
          have k00 := cel_le hle9 k00
          have hr1 := cel_le hle9 hr1
          have k10 := cel_le hle9 k10
          have hc2 := cel_le hle9 hc2; have hp4 := hAt.mono hle9 hp4; have hz2 := szP.mono hle9 hz2; have hd4 := RdL.mono hle9 hd4
          have k11 := cel_le hle9 k11
          refine Qb rfl rfl ?_
          refine Zg (r := [_]) [(0, [_])] ⟨rfl, ⟨_, rfl, rfl⟩, trivial⟩ rfl rfl rfl rfl ?_; intro g106; refine Zh 1 rfl rfl rfl hrp (Src.ofOwn 0 0 rfl rfl rfl (Ones.all (show Ones [_] from ⟨by rfl, trivial⟩)) ⟨rfl, trivial⟩) (by omega) (by omega) rfl ?_; intro v107 seg107 hrow107; refine Qe rfl rfl (Qi (Qc (Q6 (Qj ?_))))
          refine Z2 4 [2, 3, 0, 1] rfl (fun o ho => ?_)
          simp only [K.sel, nrm] at ho; subst ho
          refine TC.drawCV 38  [(0, _), (3, _), (4, _), (13, _), (14, _), (15, _), (16, _), (17, _), (18, _), (19, _)] follows_mixed ⟨rfl, rfl, rfl, rfl, rfl, rfl, rfl, rfl, rfl, rfl, trivial⟩ ?_; refine Qa (some 126) [] (fun _ _ _ _ hF => Qb rfl rfl (Qd hF)) ?_; refine Qa (some 127) [] (fun _ _ _ _ hF => Qb rfl rfl (Qd hF)) ?_
          refine Qa (some 128) [(1, 0)] (by
           intro H' X F hle; have hL := Le.trans hL hle
           have k00 := cel_le hle k00
           have k10 := cel_le hle k10
           have k11 := cel_le hle k11
           intro hF; refine Qn rfl rfl ?_
           exact Qd hF) ?_
          refine Qa (some 129) [(0, 2), (2, 0)] (by
           intro H' X F hle; have hL := Le.trans hL hle
           have k00 := cel_le hle k00
           have k10 := cel_le hle k10
           have k11 := cel_le hle k11
           intro hF; refine Zl rfl rfl rfl ?_
           rw [decide_eq_true (by omega)]
           exact Qd hF) ?_
          refine Qa (some 130) [(3, 0)] (fun _ _ _ _ hF => Qb rfl rfl (Qd hF)) ?_
          refine Qa (some 131) [(4, 0)] (by
           intro H' X F hle hF; refine Qf rfl rfl rfl (Qb rfl rfl ?_)
           exact Qd hF) ?_
          refine Qa (some 132) [(4, 1)] (by
           intro H' X F hle hF; refine Qf rfl rfl rfl (Qb rfl rfl ?_)
           exact Qd hF) ?_
          refine Qa (some 133) [(6, 0), (4, 2)] (by
           intro H' X F hle; have hL := Le.trans hL hle
           have k00 := cel_le hle k00
           have k10 := cel_le hle k10
           have k11 := cel_le hle k11
           intro hF; refine Qf rfl rfl rfl (Qn rfl rfl ?_)
           exact Qd hF) ?_
          refine Qa (some 134) [(5, 2), (7, 0), (4, 3)] (by
           intro H' X F hle; have hL := Le.trans hL hle
           have k00 := cel_le hle k00
           have k10 := cel_le hle k10
           have k11 := cel_le hle k11
           intro hF; refine Qf rfl rfl rfl (Zl rfl rfl rfl ?_)
           rw [decide_eq_true (by omega)]
           exact Qd hF) ?_
          refine Qa (some 135) [(4, 4), (8, 0)] (fun _ _ _ _ hF => Qz rfl rfl rfl rfl (Qd hF)) ?_; refine Qa (some 136) [(9, 0)] (fun _ _ _ _ hF => Qb rfl rfl (Qd hF)) ?_
          refine Qa (some 137) [(10, 0)] (by
           intro H' X F hle hF; refine Qf rfl rfl rfl (Qb rfl rfl ?_)
           exact Qd hF) ?_
          refine Qa (some 138) [(10, 1)] (by
           intro H' X F hle hF; refine Qf rfl rfl rfl (Qb rfl rfl ?_)
           exact Qd hF) ?_
          refine Qa (some 139) [(11, 1), (12, 0), (10, 2)] (by
           intro H' X F hle hF; refine Qf rfl rfl rfl ?_; refine Qo (i) rfl rfl rfl (by omega) rfl ?_
           exact Qd hF) ?_
          refine Qa (some 140) [(13, 0), (10, 3)] (by
           intro H' X F hle; have hL := Le.trans hL hle; have hr0 := cel_le hle hr0
           have k00 := cel_le hle k00
           have k10 := cel_le hle k10
           have k11 := cel_le hle k11
           intro hF; refine Qf rfl rfl rfl ?_; refine Qp rfl (hr0) rfl ?_
           exact Qd hF) ?_
          refine Qa (some 141) [(10, 4)] (by
           intro H' X F hle hF; refine Qf rfl rfl rfl (Qb rfl rfl ?_)
           exact Qd hF) ?_
          refine Qa (some 142) [(14, 1), (15, 0), (10, 5)] (by
           intro H' X F hle hF; refine Qf rfl rfl rfl ?_; refine Qo (j) rfl rfl rfl (by omega) rfl ?_
           exact Qd hF) ?_
          refine Qa (some 143) [(16, 0), (10, 6)] (by
           intro H' X F hle; have hL := Le.trans hL hle
           have k00 := cel_le hle k00
           have k10 := cel_le hle k10
           have k11 := cel_le hle k11
           intro hF; refine Qf rfl rfl rfl ?_; refine Qp rfl (k00) rfl ?_
           exact Qd hF) ?_
          refine Qa (some 144) [(10, 7)] (by
           intro H' X F hle hF; refine Qf rfl rfl rfl (Qb rfl rfl ?_)
           exact Qd hF) ?_
          refine Qa (some 145) [(10, 8)] (by
           intro H' X F hle hF; refine Qf rfl rfl rfl (Qb rfl rfl ?_)
           exact Qd hF) ?_
          refine Qa (some 146) [(19, 0), (10, 9)] (by
           intro H' X F hle hF; refine Qf rfl rfl rfl ?_; refine Zb rfl rfl rfl ⟨by omega, by omega⟩ ?_
           exact Qd hF) ?_
          refine Qa (some 147) [(18, 2), (20, 0), (10, 10)] (by
           intro H' X F hle hF; refine Qf rfl rfl rfl ?_; refine Qo (i + 1) rfl rfl (by omega) (by omega) rfl ?_
           exact Qd hF) ?_
          refine Qa (some 148) [(21, 0), (10, 11)] (by
           intro H' X F hle; have hL := Le.trans hL hle
           have k00 := cel_le hle k00
           have hr1 := cel_le hle hr1
           have k10 := cel_le hle k10
           have k11 := cel_le hle k11
           intro hF; refine Qf rfl rfl rfl ?_; refine Qp rfl (hr1) rfl ?_
           exact Qd hF) ?_
          refine Qa (some 149) [(10, 12)] (by
           intro H' X F hle hF; refine Qf rfl rfl rfl (Qb rfl rfl ?_)
           exact Qd hF) ?_
          refine Qa (some 150) [(23, 0), (10, 13)] (by
           intro H' X F hle hF; refine Qf rfl rfl rfl ?_; refine Zb rfl rfl rfl ⟨by omega, by omega⟩ ?_
           exact Qd hF) ?_
          refine Qa (some 151) [(22, 2), (24, 0), (10, 14)] (by
           intro H' X F hle hF; refine Qf rfl rfl rfl ?_; refine Qo (j + 1) rfl rfl (by omega) (by omega) rfl ?_
           exact Qd hF) ?_
          refine Qa (some 152) [(25, 0), (10, 15)] (by
           intro H' X F hle; have hL := Le.trans hL hle
           have k00 := cel_le hle k00
           have k10 := cel_le hle k10
           have k11 := cel_le hle k11
           intro hF; refine Qf rfl rfl rfl ?_; refine Qp rfl (k11) rfl ?_
           exact Qd hF) ?_
          refine Qa (some 153) [(10, 16)] (by
           intro H' X F hle hF; refine Qf rfl rfl rfl (Qb rfl rfl ?_)
           exact Qd hF) ?_
          refine Qa (some 154) [(10, 17)] (by
           intro H' X F hle hF; refine Qf rfl rfl rfl (Qb rfl rfl ?_)
           exact Qd hF) ?_
          refine Qa (some 155) [(10, 18)] (by
           intro H' X F hle hF; refine Qf rfl rfl rfl (Qb rfl rfl ?_)
           exact Qd hF) ?_
          refine Qa (some 156) [(28, 1), (29, 0), (10, 19)] (by
           intro H' X F hle hF; refine Qf rfl rfl rfl ?_; refine Qo (i) rfl rfl rfl (by omega) rfl ?_
           exact Qd hF) ?_
          refine Qa (some 157) [(30, 0), (10, 20)] (by
           intro H' X F hle; have hL := Le.trans hL hle; have hc1 := cel_le hle hc1
           have k00 := cel_le hle k00
           have k10 := cel_le hle k10
           have k11 := cel_le hle k11
           intro hF; refine Qf rfl rfl rfl ?_; refine Qp rfl (hc1) rfl ?_
           exact Qd hF) ?_
          refine Qa (some 158) [(10, 21)] (by
           intro H' X F hle hF; refine Qf rfl rfl rfl (Qb rfl rfl ?_)
           exact Qd hF) ?_
          refine Qa (some 159) [(10, 22)] (by
           intro H' X F hle hF; refine Qf rfl rfl rfl (Qb rfl rfl ?_)
           exact Qd hF) ?_
          refine Qa (some 160) [(32, 1), (33, 0), (10, 23)] (by
           intro H' X F hle hF; refine Qf rfl rfl rfl ?_; refine Qo (j) rfl rfl rfl (by omega) rfl ?_
           exact Qd hF) ?_
          refine Qa (some 161) [(34, 0), (10, 24)] (by
           intro H' X F hle; have hL := Le.trans hL hle
           have k00 := cel_le hle k00
           have k10 := cel_le hle k10
           have hc2 := cel_le hle hc2
           have k11 := cel_le hle k11
           intro hF; refine Qf rfl rfl rfl ?_; refine Qp rfl (hc2) rfl ?_
           exact Qd hF) ?_
          refine Q9 (some 162) [(27, 8), (31, 4), (35, 0), (10, 25)] ([[(gc, oc1)]]) (fun _ => fun u s H => u = .int .i64 (dist c d : Int) ∧ ∃ D' m' oc', Memo S D' m' ∧ MapG Tryz.prog 137 3 oc' D'.length m' ∧ s = [[(gc, oc')]]) (by
           intro H' X F hle; have hL := Le.trans hL hle; have hgd := hAt.mono hle hgd; have hz1 := szP.mono hle hz1
           have k00 := cel_le hle k00
           have k10 := cel_le hle k10
           have hz2 := szP.mono hle hz2
           have k11 := cel_le hle k11
           intro hF; refine Qf rfl rfl rfl ?_; refine Qs (distance_n hcl hS c.size c d hcS hdS (Nat.le_refl _) (by omega) hgd hM1 hG1 hz1 hz2) ⟨rfl, rfl, rfl, trivial⟩ rfl ?_
           rintro _ _ H5 ⟨rfl, D4, m4, oc4, hM4, _, hG4, rfl, hle5⟩
           refine Qi ?_
           exact Q7 [_] hF hle5 ⟨rfl, D4, m4, oc4, hM4, hG4, rfl⟩) ?_
          refine Qa (some 163) [(26, 10), (36, 0), (10, 26)] (by
           intro H' X F hle; intro _
           rintro _ _ Hr hler ⟨rfl, D4, m4, oc4, hM4, hG4, rfl⟩
           intro hF; refine Qf rfl rfl rfl ?_; refine Zb rfl rfl rfl ⟨by omega, by omega⟩ ?_
           exact Qd hF) ?_
          refine ⟨by kernel_rfl, .refl _, ?_⟩
          ·
           intro H18 hle
           rintro _ _ Hr hler ⟨rfl, D4, m4, oc4, hM4, hG4, rfl⟩
           have hL := Le.trans hL hle; have hle0 := Le.trans hle0 hle; have hlog1 := EdLog.mono hle hlog1; have hc1 := cel_le hle hc1; have hp3 := hAt.mono hle hp3; have hr0 := cel_le hle hr0
           have k00 := cel_le hle k00
           have hr1 := cel_le hle hr1
           have k10 := cel_le hle k10
           have hc2 := cel_le hle hc2; have hp4 := hAt.mono hle hp4; have hd4 := RdL.mono hle hd4
           have k11 := cel_le hle k11
           refine Qw (own' := _ :: _ :: _ :: _ :: own) rfl ?_; refine Zi (env' := [(0, _), (3, _), (4, _), (13, _), (14, _), (15, _), (16, _), (17, _), (18, _), (19, _), (136, _), (143, _), (163, _)]) ⟨rfl, rfl, rfl, rfl, rfl, rfl, rfl, rfl, rfl, rfl, rfl, rfl, rfl, trivial⟩ ?_; refine Qf rfl rfl rfl (Za rfl rfl rfl ?_)
           rw [decide_eq_false (by omega)]
           refine Qz rfl rfl rfl rfl (Qe rfl rfl (Qi (Qc (Qr rfl (Qj ?_))))); refine Q4 28  [(0, _), (3, _), (4, _), (13, _), (14, _), (15, _), (16, _), (17, _), (18, _), (19, _)] follows_mixed ⟨rfl, rfl, rfl, rfl, rfl, rfl, rfl, rfl, rfl, rfl, trivial⟩ ?_; refine Qa (some 185) [] (fun _ _ _ _ hF => Qb rfl rfl (Qd hF)) ?_; refine Qa (some 186) [] (fun _ _ _ _ hF => Qb rfl rfl (Qd hF)) ?_
           refine Qa (some 187) [(1, 0)] (by
            intro H' X F hle; have hL := Le.trans hL hle
            have k00 := cel_le hle k00
            have k10 := cel_le hle k10
            have k11 := cel_le hle k11
            intro hF; refine Qn rfl rfl ?_
            exact Qd hF) ?_
           refine Qa (some 188) [(0, 2), (2, 0)] (by
            intro H' X F hle; have hL := Le.trans hL hle
            have k00 := cel_le hle k00
            have k10 := cel_le hle k10
            have k11 := cel_le hle k11
            intro hF; refine Zl rfl rfl rfl ?_
            rw [decide_eq_true (by omega)]
            exact Qd hF) ?_
           refine Qa (some 189) [(3, 0)] (fun _ _ _ _ hF => Qb rfl rfl (Qd hF)) ?_
           refine Qa (some 190) [(4, 0)] (by
            intro H' X F hle hF; refine Qf rfl rfl rfl (Qb rfl rfl ?_)
            exact Qd hF) ?_
           refine Qa (some 191) [(4, 1)] (by
            intro H' X F hle hF; refine Qf rfl rfl rfl (Qb rfl rfl ?_)
            exact Qd hF) ?_
           refine Qa (some 192) [(5, 1), (6, 0), (4, 2)] (by
            intro H' X F hle hF; refine Qf rfl rfl rfl ?_; refine Qo (i) rfl rfl rfl (by omega) rfl ?_
            exact Qd hF) ?_
           refine Qa (some 193) [(7, 0), (4, 3)] (by
            intro H' X F hle; have hL := Le.trans hL hle; have hr0 := cel_le hle hr0
            have k00 := cel_le hle k00
            have k10 := cel_le hle k10
            have k11 := cel_le hle k11
            intro hF; refine Qf rfl rfl rfl ?_; refine Qp rfl (hr0) rfl ?_
            exact Qd hF) ?_
           refine Qa (some 194) [(4, 4)] (by
            intro H' X F hle hF; refine Qf rfl rfl rfl (Qb rfl rfl ?_)
            exact Qd hF) ?_
           refine Qa (some 195) [(8, 1), (9, 0), (4, 5)] (by
            intro H' X F hle hF; refine Qf rfl rfl rfl ?_; refine Qo (j) rfl rfl rfl (by omega) rfl ?_
            exact Qd hF) ?_
           refine Qa (some 196) [(10, 0), (4, 6)] (by
            intro H' X F hle; have hL := Le.trans hL hle
            have k00 := cel_le hle k00
            have k10 := cel_le hle k10
            have k11 := cel_le hle k11
            intro hF; refine Qf rfl rfl rfl ?_; refine Qp rfl (k00) rfl ?_
            exact Qd hF) ?_
           refine Qa (some 197) [(4, 7)] (by
            intro H' X F hle hF; refine Qf rfl rfl rfl (Qb rfl rfl ?_)
            exact Qd hF) ?_
           refine Qa (some 198) [(4, 8)] (by
            intro H' X F hle hF; refine Qf rfl rfl rfl (Qb rfl rfl ?_)
            exact Qd hF) ?_
           refine Qa (some 199) [(13, 0), (4, 9)] (by
            intro H' X F hle hF; refine Qf rfl rfl rfl ?_; refine Zb rfl rfl rfl ⟨by omega, by omega⟩ ?_
            exact Qd hF) ?_
           refine Qa (some 200) [(12, 2), (14, 0), (4, 10)] (by
            intro H' X F hle hF; refine Qf rfl rfl rfl ?_; refine Qo (i + 1) rfl rfl (by omega) (by omega) rfl ?_
            exact Qd hF) ?_
           refine Qa (some 201) [(15, 0), (4, 11)] (by
            intro H' X F hle; have hL := Le.trans hL hle
            have k00 := cel_le hle k00
            have hr1 := cel_le hle hr1
            have k10 := cel_le hle k10
            have k11 := cel_le hle k11
            intro hF; refine Qf rfl rfl rfl ?_; refine Qp rfl (hr1) rfl ?_
            exact Qd hF) ?_
           refine Qa (some 202) [(4, 12)] (by
            intro H' X F hle hF; refine Qf rfl rfl rfl (Qb rfl rfl ?_)
            exact Qd hF) ?_
           refine Qa (some 203) [(16, 1), (17, 0), (4, 13)] (by
            intro H' X F hle hF; refine Qf rfl rfl rfl ?_; refine Qo (j) rfl rfl rfl (by omega) rfl ?_
            exact Qd hF) ?_
           refine Qa (some 204) [(18, 0), (4, 14)] (by
            intro H' X F hle; have hL := Le.trans hL hle
            have k00 := cel_le hle k00
            have k10 := cel_le hle k10
            have k11 := cel_le hle k11
            intro hF; refine Qf rfl rfl rfl ?_; refine Qp rfl (k10) rfl ?_
            exact Qd hF) ?_
           refine Qa (some 205) [(4, 15)] (by
            intro H' X F hle hF; refine Qf rfl rfl rfl (Qb rfl rfl ?_)
            exact Qd hF) ?_
           refine Qa (some 206) [(4, 16)] (by
            intro H' X F hle hF; refine Qf rfl rfl rfl (Qb rfl rfl ?_)
            exact Qd hF) ?_
           refine Qa (some 207) [(20, 1), (21, 0), (4, 17)] (by
            intro H' X F hle hF; refine Qf rfl rfl rfl ?_; refine Qo (i) rfl rfl rfl (by omega) rfl ?_
            exact Qd hF) ?_
           refine Qa (some 208) [(22, 0), (4, 18)] (by
            intro H' X F hle; have hL := Le.trans hL hle; have hc1 := cel_le hle hc1
            have k00 := cel_le hle k00
            have k10 := cel_le hle k10
            have k11 := cel_le hle k11
            intro hF; refine Qf rfl rfl rfl ?_; refine Qp rfl (hc1) rfl ?_
            exact Qd hF) ?_
           refine Qa (some 209) [(23, 0), (4, 19)] (by
            intro H' X F hle hF; refine Qf rfl rfl rfl (Qt rfl rfl ?_)
            exact Qd hF) ?_
           refine Qa (some 210) [(24, 0), (4, 20)] (by
            intro H' X F hle hF; refine Qf rfl rfl rfl (Qg rfl rfl ?_)
            exact Qd hF) ?_
           refine Qa (some 211) [(25, 0), (4, 21)] (by
            intro H' X F hle; have hL := Le.trans hL hle; have hp3 := hAt.mono hle hp3
            have k00 := cel_le hle k00
            have k10 := cel_le hle k10
            have k11 := cel_le hle k11
            intro hF; refine Qf rfl rfl rfl ?_; refine Qp rfl (hp3.2.2.1) rfl ?_
            exact Qd hF) ?_
           refine Qa (some 212) [(19, 7), (26, 0), (4, 22)] (by
            intro H' X F hle hF; refine Qf rfl rfl rfl ?_; refine Zb rfl rfl rfl ⟨by omega, by omega⟩ ?_
            exact Qd hF) ?_
           refine ⟨by kernel_rfl, .refl _, ?_⟩
           ·
            intro H19 hle; have hL := Le.trans hL hle; have hle0 := Le.trans hle0 hle; have hlog1 := EdLog.mono hle hlog1
            have k00 := cel_le hle k00
            have k10 := cel_le hle k10
            have hc2 := cel_le hle hc2; have hp4 := hAt.mono hle hp4; have hd4 := RdL.mono hle hd4
            have k11 := cel_le hle k11
            refine Qw (own' := _ :: _ :: _ :: _ :: own) rfl ?_; refine Zi (env' := [(0, _), (3, _), (4, _), (13, _), (14, _), (15, _), (16, _), (17, _), (18, _), (19, _), (189, _), (196, _), (212, _)]) ⟨rfl, rfl, rfl, rfl, rfl, rfl, rfl, rfl, rfl, rfl, rfl, rfl, rfl, trivial⟩ ?_; refine Qf rfl rfl rfl (Za rfl rfl rfl ?_)
            rw [decide_eq_false (by omega)]
            refine Qz rfl rfl rfl rfl (Qe rfl rfl (Qi (Qc (Qr rfl (Qj ?_)))))
            refine Z2 4 [1, 0, 3] rfl (fun o ho => ?_)
            simp only [K.sel, nrm] at ho; subst ho
            have hlog2 := hlog1
            obtain ⟨xs1, rs1, ps1, hrow1, hpm1, hxs1⟩ := hlog2
            have hpth := row_path hrow107 (by simp)
            refine TC.flat (own' := rs1 :: ps1 :: _) (split2 hpm1) (Qh (Qb rfl rfl (Qb rfl rfl (Qb rfl rfl (Qb rfl rfl ?_))))); refine Qo (j) rfl rfl rfl (by omega) rfl ?_; refine Qp rfl (hc2) rfl (Qt rfl rfl (Qg rfl rfl ?_)); refine Zd rfl (show hAt _ _ _ [w0', w1] from ⟨hp4.2.2.2.2.1, hp4.2.2.2.2.2.1, trivial⟩) rfl rfl ?_; refine Qs (diff_clone d.size d (Nat.le_refl _) (by omega) hd4) ⟨rfl, trivial⟩ rfl ?_
            rintro _ _ H12 ⟨c0, c1, rfl, hr117, rfl, hle12⟩
            have hL := Le.trans hL hle12; have hle0 := Le.trans hle0 hle12
            have k00 := cel_le hle12 k00
            have k10 := cel_le hle12 k10
            have k11 := cel_le hle12 k11
            have hxs1 := ownE.mono hle12 hxs1; refine Q8 [(0, [_]), (1, [_]), (2, [_, _])] ⟨rfl, ⟨_, rfl, rfl⟩, rfl, ⟨_, rfl, one_cells hrow107.one⟩, rfl, ⟨_, rfl, rfl⟩, trivial⟩ rfl rfl ?_
            refine Zg (r := [_, _, _, _]) [(0, [_, _, _, _])] ⟨rfl, ⟨_, rfl, rfl⟩, trivial⟩ rfl rfl rfl rfl ?_; intro g119; refine Zh 1 rfl rfl rfl hrow1 (Src.ofOwn 0 0 rfl rfl rfl (Ones.all (show Ones [_, _, _, _] from ⟨rfl, hrow107.one, (tr_ones hr117).1, (tr_ones hr117).2.1, trivial⟩)) ⟨rfl, rfl, rfl, rfl, trivial⟩) (by omega) (by omega) rfl ?_; intro v' seg' hrow'; refine Qe rfl rfl (Qi (Qc (Qh (Qb rfl rfl ?_)))); refine Zb rfl rfl rfl ⟨by omega, by omega⟩ (Qb rfl rfl ?_); refine Zb rfl rfl rfl ⟨by omega, by omega⟩ (Qe rfl rfl (Qe rfl rfl (Qi (Ze (Ze ?_)))))
            refine Zj 5 [3, 1, 2, 4] rfl (fun o ho => ?_)
            simp only [K.sel, nrm] at ho; subst ho
            refine TQ.flat (own' := _ :: (seg' ++ (ps1 ++ seg107)) :: own) join4 ?_
            refine Zf ((a.length - i) + (b.length - (j + 1))) [(0, _), (3, _), (4, _), (13, _), (14, _), (15, _), (16, _), (17, _), (18, _)] (by omega) ⟨rfl, rfl, rfl, rfl, rfl, rfl, rfl, rfl, rfl, trivial⟩ ⟨i, j + 1, q + 1, v', seg' ++ (ps1 ++ seg107), es1 ++ [⟨1, p ++ [q], d⟩], D4, m4, oc4, rfl, by omega, by omega, by omega, EdLog.put (e := ⟨1, p ++ [q], d⟩) hrow' hxs1 hpth hr117, by rw [List.append_assoc, List.singleton_append, ← hw]; exact hes, hM4, hG4, by simp, rfl, hle0⟩

end Go.Proofs.YtaomdfcplamenaaGreatDoor.K

namespace Go.Proofs.YtaomdfcplamenaaGreatDoor.K
open Go Go.RowKit Go.Proofs

theorem hAt_pair {H : Hp} {g : Nat} {a b : Value} {e : TypeId} {fz : Nat × Nat} (h : ∀ p ∈ ([(g, .cells #[a, b] e fz)] : Seg), H p.1 = some p.2) : hAt H g 0 [a, b] := by
  have h1 := h _ (List.mem_singleton.2 rfl)
  exact ⟨by simp [cel, h1], by simp [cel, h1], trivial⟩
theorem Diff_o {U : List Tr} (hU : Uni U) {a b : Tr} (ha : a ∈ U) (hb : b ∈ U) (hsz : a.size + b.size ≤ 1000000) {w0 : World} {H : Hp} {own : List Seg} {a0 a1 b0 b1 : Value} (hta : RdL H a.d [a0, a1]) (htb : RdL H b.d [b0, b1]) :
    Fn Tryz.prog 13 [.agg #[a0, a1], .agg #[b0, b1]] w0 H own (fun r own' H' => ∃ seg, EdLog H' r (edT a b []) seg ∧ own' = seg :: own ∧ Le H H') := by
  have hel := edT_len a.size a b [] (Nat.le_refl _)
  refine Fn.enter Tryz.func13 rfl Tryz.ntmps13 rfl ?_; have hL := Le.refl H; refine Qj (Qh ?_)
  refine Zx (c := #[_, _]) rfl rfl rfl ?_; intro g2
  refine Zx (c := #[_, _]) rfl rfl rfl ?_; intro g3; refine Qe rfl rfl (Q3 ?_)
  refine TL.newMap rfl ?_; intro gi
  refine TL.newMap rfl ?_; intro gc; refine Q8 [(0, [_]), (1, [_])] ⟨rfl, ⟨_, rfl, rfl⟩, rfl, ⟨_, rfl, rfl⟩, trivial⟩ rfl rfl ?_
  refine Zx (c := #[_, _]) rfl rfl rfl ?_; intro g9; refine Qe rfl rfl (Qi (Qc (Qj ?_)))
  refine TC.freeze (fun H1 hle hz_g9 => ?_)
  have hL := Le.trans hL hle; have hta := RdL.mono hle hta; have htb := RdL.mono hle htb; refine Z4 ?_; have hgd := hAt_pair hz_g9
  refine Z2 5 [2, 0, 1, 3, 4] rfl (fun o ho => ?_)
  simp only [K.sel, nrm] at ho; subst ho
  refine TC.drawCV 7  [(0, _), (1, _), (2, _), (3, _), (4, _), (5, _)] follows_mixed ⟨rfl, rfl, rfl, rfl, rfl, rfl, trivial⟩ ?_; refine Qa (some 10) [] (fun _ _ _ _ hF => Qb rfl rfl (Qd hF)) ?_; refine Qa (some 11) [] (fun _ _ _ _ hF => Qb rfl rfl (Qd hF)) ?_
  refine Qa (some 12) [] (by
   intro H' X F hle; have hL := Le.trans hL hle; intro hF; refine Qm 3 0 [_, _] rfl rfl rfl ⟨rfl, rfl, trivial⟩ rfl rfl ?_
   exact Qd hF) ?_
  refine Z5 true [] (some 13) [(1, 1), (2, 0)] ([[(gi, .map #[] 0)]]) (fun _ => fun u s H => ∃ Xa f oi, IdOk Xa f ∧ (∀ x ∈ Xa, x ∈ U) ∧ a ∈ Xa ∧ MapG Tryz.prog 115 3 oi Xa.length f ∧ szP H Xa a u ∧ s = [[(gi, oi)]]) (by
   intro H' X F hle; have hL := Le.trans hL hle; have hta := RdL.mono hle hta; have hgd := hAt.mono hle hgd; intro hF; refine Qs (measure_n hU a.size a (Nat.le_refl _) (by omega) ha IdOk.nil (by simp) (MapG.nil Tryz.prog 115 3) hgd hta) ⟨rfl, rfl, trivial⟩ rfl ?_
   rintro r _ H5 ⟨Xa, f, oi, h1, h2, h3, h4, h5, rfl, hle5⟩
   simp only [List.nil_append] at h1 h2 h3 h4 h5
   refine Qi ?_
   exact Q7 [_] hF hle5 ⟨Xa, f, oi, h1, h2, h3, h4, h5, rfl⟩) ?_
  refine Qa (some 14) [] (fun _ _ _ _ hF => Qb rfl rfl (Qd hF)) ?_
  refine Qa (some 15) [] (by
   intro H' X F hle; have hL := Le.trans hL hle; intro hF; refine Qm 2 0 [_, _] rfl rfl rfl ⟨rfl, rfl, trivial⟩ rfl rfl ?_
   exact Qd hF) ?_
  refine Z5 false [3] (some 16) [(4, 1), (5, 0), (3, 2)] ([]) (fun vs u s H => ∃ Xb f oi, IdOk Xb f ∧ a ∈ Xb ∧ b ∈ Xb ∧ szP H Xb a (nthV vs 2) ∧ szP H Xb b u ∧ s = [[(gi, oi)]]) (by
   intro H' X F hle; have hL := Le.trans hL hle; have htb := RdL.mono hle htb; have hgd := hAt.mono hle hgd; intro _
   rintro v13 _ Hi hle13 ⟨Xa, f1, oi1, hid1, hsub1, hma, hmap1, hsa, rfl⟩
   replace hsa := szP.mono hle13 hsa
   intro hF; refine Qw (own' := _ :: _) rfl ?_; refine Qs (measure_n hU b.size b (Nat.le_refl _) (by omega) hb hid1 hsub1 hmap1 hgd htb) ⟨rfl, rfl, trivial⟩ rfl ?_
   rintro r _ H5 ⟨Xb, f, oi, h1, h2, h3, h4, h5, rfl, hle5⟩
   refine Qi ?_
   exact Q7 [_] hF hle5 ⟨Xa ++ Xb, f, oi, h1, List.mem_append_left _ hma, h3, (szP.ext hid1.closed hma hsa).mono hle5, h5, rfl⟩) ?_
  refine ⟨by kernel_rfl, .refl _, ?_⟩
  ·
   intro H2 hle
   rintro v13 _ Hi hle13 ⟨Xa, f1, oi1, hid1, hsub1, hma, hmap1, hsa, rfl⟩
   replace hsa := szP.mono hle13 hsa
   rintro v16 _ Hi hle16 ⟨Xb, f2, oi2, hid2, hma2, hmb2, hsa2, hsb, rfl⟩
   replace hsa := szP.mono hle16 hsa2
   replace hsb := szP.mono hle16 hsb
   have hL := Le.trans hL hle; have hgd := hAt.mono hle hgd; refine Qw (own' := _ :: _ :: _ :: _ :: _ :: own) rfl ?_; refine Zi (env' := [(0, _), (1, _), (4, _), (10, _), (13, _), (16, _)]) ⟨rfl, rfl, rfl, rfl, rfl, rfl, trivial⟩ ?_
   refine TL.sel 5 [2, 1, 0, 3, 4] rfl (fun o ho => ?_)
   simp only [K.sel, nrm] at ho; subst ho
   refine Qs (edits_n hid2.closed hid2.len a.size a b [] (Nat.le_refl _) hma2 hmb2 hsz (by simp; omega) (es := []) (by simp; omega) hgd (Memo.nil Xb) (MapG.nil Tryz.prog 137 3) hsa hsb (rd.nil _ _) (EdLog.nil _)) ⟨rfl, rfl, rfl, rfl, rfl, trivial⟩ rfl ?_
   rintro v17 _ H9 ⟨seg9, D9, m9, oc9, hlog9, _, _, rfl, hle9⟩
   have hL := Le.trans hL hle9; refine Qe rfl rfl (Qi (Qc (Qy ?_)))
   refine Zj 5 [1] rfl (fun o ho => ?_)
   simp only [K.sel, nrm] at ho; subst ho
   refine Q5 0 rfl rfl ?_
   exact ⟨_, hlog9, rfl, hL⟩
theorem Diff_n {U : List Tr} (hU : Uni U) {a b : Tr} (ha : a ∈ U) (hb : b ∈ U) (hsz : a.size + b.size ≤ 1000000) {w0 : World} {H : Hp} {own : List Seg} {a0 a1 b0 b1 : Value} (hta : RdL H a.d [a0, a1]) (htb : RdL H b.d [b0, b1]) :
    Fn Tryz.prog 13 [.agg #[a0, a1], .agg #[b0, b1]] w0 H own (fun r own' H' => rd H' (.s 4 (edD (edT a b []))) r ∧ own' = own ∧ Le H H') :=
  Fn.froze (R := fun r seg H' => EdLog H' r (edT a b []) seg) (S := fun r H' => rd H' (.s 4 (edD (edT a b []))) r) (Diff_o hU ha hb hsz hta htb) (fun r seg H' H'' h hl hz => h.rd hz hl)


end Go.Proofs.YtaomdfcplamenaaGreatDoor.K

namespace Go.Proofs.YtaomdfcplamenaaGreatDoor.K
open Go Go.RowKit Go.Proofs

mutual
def ownT : Tr → Value → Value → Seg → Prop
  | .node l ks, v0, v1, s => v0 = .string l ∧ ∃ xs sr sk, Row 26 2 v1 ks.length xs sr ∧ s.Perm (sr ++ sk) ∧ ownL ks xs sk
def ownL : List Tr → List Value → Seg → Prop
  | [], xs, s => xs = [] ∧ s = []
  | t :: r, xs, s => ∃ v0 v1 ys s1 s2, xs = v0 :: v1 :: ys ∧ s.Perm (s1 ++ s2) ∧ ownT t v0 v1 s1 ∧ ownL r ys s2
end
theorem ownT.open {t : Tr} {v0 v1 : Value} {s : Seg} (h : ownT t v0 v1 s) : v0 = .string t.lab ∧ ∃ xs sr sk, Row 26 2 v1 t.kids.length xs sr ∧ s.Perm (sr ++ sk) ∧ ownL t.kids xs sk := by
  obtain ⟨l, ks⟩ := t
  simp only [ownT] at h
  exact h
theorem ownT.mk {t : Tr} {v0 v1 : Value} {s : Seg} (h : v0 = .string t.lab ∧ ∃ xs sr sk, Row 26 2 v1 t.kids.length xs sr ∧ s.Perm (sr ++ sk) ∧ ownL t.kids xs sk) : ownT t v0 v1 s := by
  obtain ⟨l, ks⟩ := t
  simp only [ownT]
  exact h
theorem ownT.perm {t : Tr} {v0 v1 : Value} {s s' : Seg} (h : ownT t v0 v1 s) (hp : s.Perm s') : ownT t v0 v1 s' := by
  obtain ⟨h0, xs, sr, sk, h1, h2, h3⟩ := h.open
  exact .mk ⟨h0, xs, sr, sk, h1, hp.symm.trans h2, h3⟩
theorem ownL.perm {ts : List Tr} {xs : List Value} {s s' : Seg} (h : ownL ts xs s) (hp : s.Perm s') : ownL ts xs s' := by
  cases ts with
  | nil =>
    simp only [ownL] at h ⊢
    obtain ⟨h1, rfl⟩ := h
    exact ⟨h1, List.nil_perm.1 hp⟩
  | cons t r =>
    simp only [ownL] at h ⊢
    obtain ⟨v0, v1, ys, s1, s2, h1, h2, h3, h4⟩ := h
    exact ⟨v0, v1, ys, s1, s2, h1, hp.symm.trans h2, h3, h4⟩
theorem ownL.nil : ownL [] [] [] := by simp [ownL]
theorem ownL.len : ∀ {ts : List Tr} {xs : List Value} {s : Seg}, ownL ts xs s → xs.length = ts.length * 2
  | [], xs, s, h => by simp only [ownL] at h; simp [h.1]
  | t :: r, xs, s, h => by
    simp only [ownL] at h
    obtain ⟨v0, v1, ys, s1, s2, rfl, h2, h3, h4⟩ := h
    have := ownL.len h4
    simp only [List.length_cons]; omega
theorem ownL.snoc {t : Tr} {v0 v1 : Value} {s1 : Seg} (ht : ownT t v0 v1 s1) : ∀ {ts : List Tr} {xs : List Value} {s : Seg}, ownL ts xs s → ownL (ts ++ [t]) (xs ++ [v0, v1]) (s ++ s1)
  | [], xs, s, h => by
    simp only [ownL] at h
    obtain ⟨rfl, rfl⟩ := h
    simp only [List.nil_append, ownL]
    exact ⟨v0, v1, [], s1, [], rfl, by simp, ht, rfl, rfl⟩
  | u :: r, xs, s, h => by
    simp only [ownL, List.cons_append] at h ⊢
    obtain ⟨w0, w1, ys, q1, q2, rfl, h2, h3, h4⟩ := h
    refine ⟨w0, w1, ys ++ [v0, v1], q1, q2 ++ s1, rfl, ?_, h3, ownL.snoc ht h4⟩
    rw [← List.append_assoc]
    exact h2.append_right _
mutual
theorem ownT.rd {H : Hp} : ∀ {t : Tr} {v0 v1 : Value} {s : Seg}, ownT t v0 v1 s → (∀ p ∈ s, H p.1 = some p.2) → RdL H t.d [v0, v1]
  | .node l ks, v0, v1, s, h, hz => by
    simp only [ownT] at h
    obtain ⟨rfl, xs, sr, sk, h1, h2, h3⟩ := h
    exact tr_mk (rd.ofRow h1 (fun p hp => hz p (h2.mem_iff.2 (List.mem_append_left _ hp))) (ownL.rd h3 (fun p hp => hz p (h2.mem_iff.2 (List.mem_append_right _ hp)))) (Le.refl _))
theorem ownL.rd {H : Hp} : ∀ {ts : List Tr} {xs : List Value} {s : Seg}, ownL ts xs s → (∀ p ∈ s, H p.1 = some p.2) → RdL H (Tr.ds ts) xs
  | [], xs, s, h, _ => by
    simp only [ownL] at h
    obtain ⟨rfl, _⟩ := h
    trivial
  | t :: r, xs, s, h, hz => by
    simp only [ownL] at h
    obtain ⟨v0, v1, ys, s1, s2, rfl, h2, h3, h4⟩ := h
    have e1 := ownT.rd h3 (fun p hp => hz p (h2.mem_iff.2 (List.mem_append_left _ hp)))
    have e2 := ownL.rd h4 (fun p hp => hz p (h2.mem_iff.2 (List.mem_append_right _ hp)))
    rw [show Tr.ds (t :: r) = t.d ++ Tr.ds r from by simp [Tr.ds]]
    exact e1.append e2
end
/-- One kid of a row, and another in its place. -/
theorem ownL.at : ∀ {ts : List Tr} {xs : List Value} {s : Seg} {i : Nat} {t : Tr}, ownL ts xs s → ts[i]? = some t → ∃ v0 v1 s1 s2, xs[i * 2]? = some v0 ∧ xs[i * 2 + 1]? = some v1 ∧ s.Perm (s1 ++ s2) ∧ ownT t v0 v1 s1 ∧
    ∀ t' v0' v1' s1', ownT t' v0' v1' s1' → ownL (ts.set i t') ((xs.set (i * 2) v0').set (i * 2 + 1) v1') (s1' ++ s2)
  | [], _, _, _, _, _, hi => by simp at hi
  | u :: r, xs, s, 0, t, h, hi => by
    simp only [List.getElem?_cons_zero, Option.some.injEq] at hi
    subst hi
    simp only [ownL] at h
    obtain ⟨w0, w1, ys, q1, q2, rfl, h2, h3, h4⟩ := h
    refine ⟨w0, w1, q1, q2, rfl, rfl, h2, h3, fun t' v0' v1' s1' ht => ?_⟩
    simp only [Nat.zero_mul, List.set_cons_zero, List.set_cons_succ, Nat.zero_add, ownL]
    exact ⟨v0', v1', ys, s1', q2, rfl, List.Perm.refl _, ht, h4⟩
  | u :: r, xs, s, i + 1, t, h, hi => by
    simp only [List.getElem?_cons_succ] at hi
    simp only [ownL] at h
    obtain ⟨w0, w1, ys, q1, q2, rfl, h2, h3, h4⟩ := h
    obtain ⟨v0, v1, s1, s2, e1, e2, e3, e4, e5⟩ := ownL.at h4 hi
    refine ⟨v0, v1, s1, q1 ++ s2, ?_, ?_, ?_, e4, fun t' v0' v1' s1' ht => ?_⟩
    · rw [show (i + 1) * 2 = i * 2 + 1 + 1 by omega]; simpa using e1
    · rw [show (i + 1) * 2 + 1 = i * 2 + 1 + 1 + 1 by omega]; simpa using e2
    · refine h2.trans ((e3.append_left q1).trans ?_)
      rw [← List.append_assoc, ← List.append_assoc]
      exact List.Perm.append_right _ List.perm_append_comm
    · rw [show (i + 1) * 2 = i * 2 + 1 + 1 by omega]
      simp only [List.set_cons_succ, ownL]
      refine ⟨w0, w1, _, q1, s1' ++ s2, rfl, ?_, h3, e5 t' v0' v1' s1' ht⟩
      rw [← List.append_assoc, ← List.append_assoc]
      exact List.Perm.append_right _ List.perm_append_comm
/-! nodes by their path -/
def sub : Tr → Path → Option Tr
  | t, [] => some t
  | .node _ ks, i :: q => (ks[i]?).bind fun u => sub u q
def putT : Tr → Path → Tr → Tr
  | _, [], x => x
  | .node l ks, i :: q, x => match ks[i]? with | some u => .node l (ks.set i (putT u q x)) | none => .node l ks
def slAt : Value → Option (Nat × Nat)
  | .slice (some ⟨b, off, none⟩) _ _ => some (b, off)
  | _ => none
/-- Where the node at a path lies, from the place of the first. -/
def adr (H : Hp) : Path → Nat × Nat → Option (Nat × Nat)
  | [], a => some a
  | i :: q, a => ((cel H a.1 (a.2 + 1)).bind slAt).bind fun b => adr H q (b.1, b.2 + i * 2)
theorem adr_snoc (H : Hp) (i : Nat) : ∀ (p : Path) (a : Nat × Nat), adr H (p ++ [i]) a = (adr H p a).bind fun a => ((cel H a.1 (a.2 + 1)).bind slAt).map fun b => (b.1, b.2 + i * 2)
  | [], a => by simp only [List.nil_append, adr, Option.bind_some]; cases (cel H a.1 (a.2 + 1)).bind slAt <;> rfl
  | j :: q, a => by
    simp only [List.cons_append, adr]
    cases (cel H a.1 (a.2 + 1)).bind slAt with
    | none => rfl
    | some b => simp only [Option.bind_some]; exact adr_snoc H i q _
end Go.Proofs.YtaomdfcplamenaaGreatDoor.K

namespace Go.Proofs.YtaomdfcplamenaaGreatDoor.K
open Go Go.RowKit Go.Proofs

theorem set_same {l : List Value} {i : Nat} {v : Value} (h : l[i]? = some v) : l.set i v = l := by
  refine List.ext_getElem? fun k => ?_
  rw [List.getElem?_set]
  split
  · rename_i e
    subst e
    obtain ⟨hlt, _⟩ := List.getElem?_eq_some_iff.1 h
    rw [if_pos hlt, h]
  · rfl
theorem perm_in {α : Type} {a b : α} {S s1 s2 sk r1 : List α} (h1 : S.Perm (a :: (s1 ++ s2))) (h2 : s1.Perm (b :: (sk ++ r1))) : S.Perm (b :: (sk ++ (r1 ++ a :: s2))) := by
  refine h1.trans ?_
  refine ((h2.append_right s2).cons a).trans ?_
  simp only [List.cons_append, List.append_assoc]
  refine (List.Perm.swap b a _).trans (List.Perm.cons b ?_)
  rw [← List.append_assoc, ← List.append_assoc]
  exact (List.perm_middle (l₁ := sk ++ r1)).symm
theorem Row.two {v : Value} {n i : Nat} {xs : List Value} {seg : Seg} (h : Row 26 2 v n xs seg) (hi : i < n) : ∃ g cap cur, v = .slice (some ⟨g, 0, none⟩) n cap ∧ seg = [(g, .cells cur 26 (0, 0))] ∧ n ≤ cap ∧ cur.size = cap * 2 ∧
    (∀ k, k < n * 2 → cur[k]? = xs[k]?) ∧ ∀ w0 w1, Row 26 2 v n ((xs.set (i * 2) w0).set (i * 2 + 1) w1) [(g, .cells ((cur.setIfInBounds (i * 2) w0).setIfInBounds (i * 2 + 1) w1) 26 (0, 0))] := by
  obtain ⟨hl, h⟩ := h
  rcases h with ⟨_, rfl, _⟩ | ⟨g, cap, cur, rfl, rfl, h1, h2, h3, h4⟩
  · omega
  · refine ⟨g, cap, cur, rfl, rfl, h1, h3, fun k hk => ?_, fun w0 w1 => ⟨by simpa using hl, .inr ⟨g, cap, _, rfl, rfl, h1, h2, by simpa using h3, ?_⟩⟩⟩
    · rw [← h4, List.getElem?_take, if_pos hk, Array.getElem?_toList]
    · rw [← h4]
      simp only [Array.toList_setIfInBounds, List.take_set]
/-- The same from a row of kids. -/
def adrV (H : Hp) : Path → Value → Option (Nat × Nat)
  | [], _ => none
  | i :: q, v => (slAt v).bind fun b => adr H q (b.1, b.2 + i * 2)
theorem adr_of {H : Hp} {v : Value} : ∀ {q : Path} {a : Nat × Nat}, q ≠ [] → cel H a.1 (a.2 + 1) = some v → adr H q a = adrV H q v
  | [], _, h, _ => absurd rfl h
  | i :: q, a, _, h => by simp only [adr, adrV, h, Option.bind_some]
theorem ownT.focus : ∀ (p : Path) {t s : Tr} {v0 v1 : Value} {S : Seg}, p ≠ [] → sub t p = some s → ownT t v0 v1 S →
    ∃ g cur j w0 w1 sk rest, S.Perm ((g, .cells cur 26 (0, 0)) :: (sk ++ rest)) ∧ j * 2 + 1 < cur.size ∧ cur[j * 2]? = some w0 ∧ cur[j * 2 + 1]? = some w1 ∧ ownT s w0 w1 sk ∧
      (∀ (H : Hp), (∀ p ∈ S, H p.1 = some p.2) → adrV H p v1 = some (g, j * 2)) ∧
      ∀ s' w0' w1' sk', ownT s' w0' w1' sk' → ownT (putT t p s') v0 v1 ((g, .cells ((cur.setIfInBounds (j * 2) w0').setIfInBounds (j * 2 + 1) w1') 26 (0, 0)) :: (sk' ++ rest))
  | [], _, _, _, _, _, h, _, _ => absurd rfl h
  | i :: q, .node l ks, s, v0, v1, S, _, hs, h => by
    simp only [sub, Option.bind_eq_some_iff] at hs
    obtain ⟨u, hu, hs⟩ := hs
    have hi : i < ks.length := (List.getElem?_eq_some_iff.1 hu).1
    simp only [ownT] at h
    obtain ⟨rfl, xs, sr, sk0, hrow, hperm, hol⟩ := h
    obtain ⟨g, cap, cur, rfl, rfl, hc1, hc2, hget, hset⟩ := hrow.two hi
    obtain ⟨y0, y1, s1, s2, e0, e1, hp1, hou, hre⟩ := hol.at hu
    have hS : S.Perm ((g, .cells cur 26 (0, 0)) :: (s1 ++ s2)) := hperm.trans (hp1.cons _)
    have hc0 : cur[i * 2]? = some y0 := by rw [hget _ (by omega)]; exact e0
    have hc1' : cur[i * 2 + 1]? = some y1 := by rw [hget _ (by omega)]; exact e1
    by_cases hq : q = []
    · subst hq
      simp only [sub, Option.some.injEq] at hs
      subst hs
      refine ⟨g, cur, i, y0, y1, s1, s2, hS, by omega, hc0, hc1', hou, fun H hz => ?_, fun s' w0' w1' sk' hs' => ?_⟩
      · simp [adr, adrV, slAt]
      · simp only [putT, hu, ownT]
        refine ⟨trivial, _, [_], _, ?_, List.Perm.refl _, hre s' w0' w1' sk' hs'⟩
        rw [List.length_set]
        exact hset w0' w1'
    · obtain ⟨g', cur', j, w0, w1, sk, rest, hp2, hj, hj0, hj1, hown, hadr, hput⟩ := ownT.focus q hq hs hou
      refine ⟨g', cur', j, w0, w1, sk, rest ++ (g, .cells cur 26 (0, 0)) :: s2, perm_in hS hp2, hj, hj0, hj1, hown, fun H hz => ?_, fun s' w0' w1' sk' hs' => ?_⟩
      · simp only [adrV, Option.bind_some, slAt]
        rw [← hadr H (fun p hp => hz p (hS.mem_iff.2 (List.mem_cons_of_mem _ (List.mem_append_left _ hp))))]
        refine adr_of hq ?_
        have := hz _ (hS.mem_iff.2 List.mem_cons_self)
        simp only [cel, this, Nat.zero_add]
        exact hc1'
      · simp only [putT, hu, ownT]
        have h1 := hput s' w0' w1' sk' hs'
        have h2 := hre _ _ _ _ h1
        rw [set_same e0, set_same e1] at h2
        refine ⟨trivial, xs, [(g, .cells cur 26 (0, 0))], _, ?_, ?_, h2⟩
        · rw [List.length_set]; exact hrow
        · exact (perm_in (a := (g, .cells cur 26 (0, 0))) (s1 := _ :: (sk' ++ rest)) (s2 := s2) (List.Perm.refl _) (List.Perm.refl _)).symm
/-- The same from the root's own block. -/
theorem ownT.root {t s : Tr} {v0 v1 : Value} {S : Seg} {g0 : Nat} (p : Path) (hs : sub t p = some s) (h : ownT t v0 v1 S) :
    ∃ g cur j w0 w1 sk rest, ((g0, .cells #[v0, v1] 26 (0, 0)) :: S).Perm ((g, .cells cur 26 (0, 0)) :: (sk ++ rest)) ∧ j * 2 + 1 < cur.size ∧ cur[j * 2]? = some w0 ∧ cur[j * 2 + 1]? = some w1 ∧ ownT s w0 w1 sk ∧
      (∀ (H : Hp), (∀ p ∈ (g0, .cells #[v0, v1] 26 (0, 0)) :: S, H p.1 = some p.2) → adr H p (g0, 0) = some (g, j * 2)) ∧
      ∀ s' w0' w1' sk', ownT s' w0' w1' sk' → ∃ u0 u1 S', ownT (putT t p s') u0 u1 S' ∧ ((g, .cells ((cur.setIfInBounds (j * 2) w0').setIfInBounds (j * 2 + 1) w1') 26 (0, 0)) :: (sk' ++ rest)).Perm ((g0, .cells #[u0, u1] 26 (0, 0)) :: S') := by
  have hP : ownT (.node ⟨#[]⟩ [t]) (.string ⟨#[]⟩) (.slice (some ⟨g0, 0, none⟩) 1 1) ((g0, .cells #[v0, v1] 26 (0, 0)) :: S) := by
    simp only [ownT, ownL]
    exact ⟨trivial, [v0, v1], _, S, Row.lit 26 2 1 g0 #[v0, v1] rfl (by omega), List.Perm.refl _, v0, v1, [], S, [], rfl, by simp, h, rfl, rfl⟩
  have hsub : sub (.node ⟨#[]⟩ [t]) (0 :: p) = some s := by simpa [sub] using hs
  obtain ⟨g, cur, j, w0, w1, sk, rest, h1, h2, h3, h4, h5, h6, h7⟩ := ownT.focus (0 :: p) (by simp) hsub hP
  refine ⟨g, cur, j, w0, w1, sk, rest, h1, h2, h3, h4, h5, fun H hz => ?_, fun s' w0' w1' sk' hs' => ?_⟩
  · have := h6 H hz
    simpa [adrV, slAt] using this
  · have h8 := h7 s' w0' w1' sk' hs'
    simp only [putT, List.getElem?_cons_zero, List.set_cons_zero, ownT, ownL, List.length_singleton] at h8
    obtain ⟨_, xs, sr, sk1, hrow, hp, u0, u1, ys, q1, q2, rfl, hp2, hu, rfl, rfl⟩ := h8
    obtain ⟨g1, cap, cur1, e, rfl, hc1, hc2, hget, _⟩ := hrow.two (i := 0) (by omega)
    injection e with e1 e2 e3
    injection e1 with e1
    injection e1 with e1
    subst e1 e3
    have hcur : cur1 = #[u0, u1] := by
      have h0 := hget 0 (by omega)
      have h1 := hget 1 (by omega)
      refine Array.ext_getElem? fun k => ?_
      match k with
      | 0 => exact h0
      | 1 => exact h1
      | k + 2 => rw [Array.getElem?_eq_none (by omega)]; simp
    subst hcur
    refine ⟨u0, u1, q1 ++ [], hu.perm (by simp), hp.trans (List.Perm.cons _ ?_)⟩
    exact hp2
end Go.Proofs.YtaomdfcplamenaaGreatDoor.K

namespace Go.Proofs.YtaomdfcplamenaaGreatDoor.K
open Go Go.RowKit Go.Proofs

open Classical in
noncomputable def delH (H : Hp) (seg : Seg) : Hp := fun b => if b ∈ seg.map (·.1) then none else H b
theorem St.thaw {w0 w : World} {H : Hp} {seg : Seg} {own : List Seg} (h : St w0 H own w) (hz : ∀ p ∈ seg, H p.1 = some p.2) (hn : (seg.map (·.1)).Nodup) : St w0 (delH H seg) (seg :: own) w := by
  refine ⟨h.os, h.tape, h.output, fun b o hb => ?_, fun p hp => ?_, fun p hp => ?_, ?_⟩
  · unfold delH at hb
    split at hb
    · cases hb
    · exact h.imm b o hb
  · simp only [List.flatten_cons, List.mem_append] at hp
    rcases hp with hp | hp
    · exact h.imm _ _ (hz p hp)
    · exact h.own_at p hp
  · simp only [List.flatten_cons, List.mem_append] at hp
    unfold delH
    split
    · rfl
    · rename_i hne
      rcases hp with hp | hp
      · exact absurd (List.mem_map.2 ⟨p, hp, rfl⟩) hne
      · exact h.apart p hp
  · simp only [List.flatten_cons, List.map_append, List.nodup_append]
    refine ⟨hn, h.nodup, fun a ha b hb e => ?_⟩
    subst e
    obtain ⟨p, hp, rfl⟩ := List.mem_map.1 ha
    obtain ⟨q, hq, e⟩ := List.mem_map.1 hb
    have h1 := hz p hp
    have h2 := h.apart q hq
    rw [e, h1] at h2
    cases h2
theorem Le.del {H H' : Hp} {seg : Seg} (h : Le H H') (ha : ∀ p ∈ seg, H p.1 = none) : Le H (delH H' seg) := by
  intro b o hb
  unfold delH
  rw [if_neg]
  · exact h b o hb
  · intro hm
    obtain ⟨p, hp, rfl⟩ := List.mem_map.1 hm
    rw [ha p hp] at hb
    cases hb
theorem Fn.borrow {P : Program} {f : FuncId} {args : List Value} {w0 : World} {H : Hp} {own : List Seg} {seg : Seg} {ψ : Value → List Seg → Prop}
    (h : ∀ H1, Le H H1 → (∀ p ∈ seg, H1 p.1 = some p.2) → Fn P f args w0 H1 own (fun r own' H' => ψ r own' ∧ Le H1 H')) :
    Fn P f args w0 H (seg :: own) (fun r own' H' => ∃ o, own' = seg :: o ∧ ψ r o ∧ Le H H') := by
  intro w hw
  have hn := hw.nodup
  simp only [List.flatten_cons, List.map_append, List.nodup_append] at hn
  have hap : ∀ p ∈ seg, H p.1 = none := fun p hp => hw.apart p (by simp only [List.flatten_cons, List.mem_append]; exact .inl hp)
  obtain ⟨h1, h2, h3⟩ := hw.freeze
  refine (h _ h2 h3 w h1).mono ?_
  rintro e w' ⟨v, own', H', rfl, ⟨hp, hle⟩, hw'⟩
  have hz : ∀ p ∈ seg, H' p.1 = some p.2 := fun p hp => hle _ _ (h3 p hp)
  exact ⟨v, seg :: own', delH H' seg, rfl, ⟨own', rfl, hp, (h2.trans hle).del hap⟩, hw'.thaw hz hn.1⟩
theorem Fn.flatR {P : Program} {f : FuncId} {args : List Value} {w0 : World} {H : Hp} {own : List Seg} {φ ψ : Value → List Seg → Hp → Prop} (h : Fn P f args w0 H own φ) (hi : ∀ v o H, φ v o H → ∃ o', o'.flatten.Perm o.flatten ∧ ψ v o' H) : Fn P f args w0 H own ψ :=
  fun w hw => (h w hw).mono fun _ _ ⟨v, o, H, h1, h2, h3⟩ =>
    let ⟨o', hp, hq⟩ := hi v o H h2
    ⟨v, o', H, h1, hq, h3.flat hp⟩
theorem ownT.ones {t : Tr} {v0 v1 : Value} {s : Seg} (h : ownT t v0 v1 s) : Ones [v0, v1] := by
  obtain ⟨rfl, xs, sr, sk, h1, _⟩ := h.open
  exact ⟨rfl, h1.one, trivial⟩
end Go.Proofs.YtaomdfcplamenaaGreatDoor.K

namespace Go.Proofs.YtaomdfcplamenaaGreatDoor.K
open Go Go.RowKit Go.Proofs

theorem diff_cloneO (k : Nat) : ∀ (t : Tr), t.size ≤ k → k ≤ 1073741824 → ∀ {w0 : World} {H : Hp} {own : List Seg} {a0 a1 : Value}, RdL H t.d [a0, a1] →
    Fn Tryz.prog 33 [.agg #[a0, a1]] w0 H own (fun v own' H' => ∃ c0 c1 sg, v = .agg #[c0, c1] ∧ ownT t c0 c1 sg ∧ own' = sg :: own ∧ Le H H') := by
  induction k with
  | zero => intro t h; have := t.size_pos; omega
  | succ k ih =>
    rintro ⟨l, ks⟩ hk hlim w0 H own a0 a1 ht
    obtain ⟨rfl, A, c, rfl, hc1, hc2, hA⟩ := tr_cells ht
    have hks : ks.length ≤ 1073741824 := by have := Tr.len_le ks; simp only [Tr.size] at hk; omega
    have hsz : Tr.sizes ks ≤ 1073741824 := by simp only [Tr.size] at hk; omega
    refine Fn.flatR (φ := fun v own' H' => ∃ c1 xs sr sk, v = .agg #[.string l, c1] ∧ Row 26 2 c1 ks.length xs sr ∧ ownL ks xs sk ∧ own' = sr :: sk :: own ∧ Le H H') ?_ (by
      rintro v o H' ⟨c1, xs, sr, sk, rfl, h1, h2, rfl, h3⟩
      exact ⟨(sr ++ sk) :: own, by simp, _, _, _, rfl, .mk ⟨rfl, xs, sr, sk, h1, .refl _, h2⟩, rfl, h3⟩)
    refine Fn.enter Tryz.func33 rfl Tryz.ntmps33 rfl ?_; have hL := Le.refl H; refine Qj (Qh ?_)
    refine Zx (c := #[_, _]) rfl rfl rfl ?_; intro g1
    refine Zc rfl ?_; intro g2; refine Q3 (Qg rfl rfl (Qk 1 0 rfl rfl rfl rfl rfl ?_)); refine Q8 [(0, [_])] ⟨rfl, ⟨_, rfl, rfl⟩, trivial⟩ rfl rfl ?_
    refine Zc rfl ?_; intro g3; refine Qq 0 0 (c' := #[_, _]) (own' := [(_, .cells #[_, _] _ _)] :: _) rfl rfl rfl rfl rfl ⟨rfl, rfl, trivial⟩ (by simp) rfl rfl rfl (Qi (Qc (Qj (Qj (Z4 ?_))))); refine Z4 (Qh (Qg rfl rfl (Qk 4 0 rfl rfl rfl rfl rfl (Qn rfl rfl (Qb rfl rfl ?_))))); refine Qi (Qc (Q6 ?_))
    refine Zv (fun n env' own' H' => ∃ k' v xs seg acc, n = ks.length - k' ∧ k' ≤ ks.length ∧ Row 26 2 v k' xs seg ∧ ownL (ks.take k') xs acc ∧ env' = [(2, .pointer (some ⟨g2, 0, none⟩)), (3, .pointer (some ⟨g3, 0, none⟩)), (10, .slice A ks.length c), (11, .int .i64 (ks.length : Int)), (12, .int .i64 (k' : Int))] ∧ own' = seg :: acc :: [(g3, .cells #[.string l, v] 26 (0, 0))] :: [(g2, .cells #[.string ⟨#[]⟩, .slice none 0 0] 26 (0, 0))] :: [(g1, .cells #[.string l, .slice A ks.length c] 26 (0, 0))] :: own ∧ Le H H') ks.length [(2, _), (3, _), (10, _), (11, _), (12, _)] ⟨rfl, rfl, rfl, rfl, rfl, trivial⟩ ⟨0, _, [], [], [], by omega, by omega, Row.nil 26 2, ownL.nil, rfl, rfl, Le.refl _⟩ ?_
    rintro n _ _ H1 ⟨k', v, xs, seg, acc, rfl, hk1, hrow, hxs, rfl, rfl, hle0⟩
    have hL := Le.trans hL hle0; have hA := rd.mono hle0 hA; refine Qj (Qh ?_)
    refine Zz rfl rfl rfl (fun hlt => ?_) (fun hlt => ?_)
    ·
     obtain ⟨x, hx⟩ : ∃ x, ks[k']? = some x := ⟨_, List.getElem?_eq_getElem (by omega)⟩
     obtain ⟨b1, o1, p0, p1, rfl, hp, hpr⟩ := trs_at hA hx
     refine Qi (Qc (Qj (Qv rfl (Q2 (Qc ?_))))); refine Qj (Q6 (Qj (Qh ?_))); refine Qo (k') rfl rfl rfl (by omega) rfl ?_; refine Zd rfl (hp) rfl rfl ?_
     refine Zc rfl ?_; intro g5; refine Qq 0 0 (c' := #[_, _]) (own' := [(_, .cells #[_, _] _ _)] :: _) rfl rfl rfl rfl rfl (tr_ones hpr) (by simp) rfl rfl rfl (Qi (Qc ?_)); refine Q4 5  [(2, _), (3, _), (10, _), (11, _), (12, _), (5, _)] follows_mixed ⟨rfl, rfl, rfl, rfl, rfl, rfl, trivial⟩ ?_; refine Qa (some 16) [] (fun _ _ _ _ hF => Qg rfl rfl (Qd hF)) ?_
     refine Qa (some 17) [(0, 0)] (by
      intro H' X F hle; have hL := Le.trans hL hle; intro hF; refine Qk 3 0 rfl rfl rfl rfl rfl ?_
      exact Qd hF) ?_
     refine Qa (some 18) [] (by
      intro H' X F hle; have hL := Le.trans hL hle; intro hF; refine Qm 0 0 [_, _] rfl rfl rfl ⟨rfl, rfl, trivial⟩ rfl rfl ?_
      exact Qd hF) ?_
     refine Q9 (some 19) [(2, 0)] ([]) (fun _ => fun u s H => ∃ c0 c1 sg, u = .agg #[c0, c1] ∧ ownT x c0 c1 sg ∧ s = [sg]) (by
      intro H' X F hle; have hL := Le.trans hL hle; have hpr := RdL.mono hle hpr; intro hF; refine Qs (ih x (Tr.size_kid (List.mem_of_getElem? hx) hk) (by omega) hpr) ⟨rfl, trivial⟩ rfl ?_
      rintro _ _ H2 ⟨c0, c1, sg, rfl, hr, rfl, hle2⟩
      refine Qi ?_
      exact Q7 [_] hF hle2 ⟨c0, c1, sg, rfl, hr, rfl⟩) ?_
     refine Q9 (some 20) [(3, 0)] ([]) (fun vs u s H => ∃ g d0 d1, nthV vs 0 = .agg #[d0, d1] ∧ u = .slice (some ⟨g, 0, none⟩) 1 1 ∧ s = [[(g, .cells #[d0, d1] 26 (0, 0))]]) (by
      intro H' X F hle; have hL := Le.trans hL hle; intro _
      rintro _ _ Hi hle19 ⟨c0, c1, sgk, rfl, hr, rfl⟩
      intro hF
      refine Zg (r := [_, _]) [(0, [_, _])] ⟨rfl, ⟨_, rfl, rfl⟩, trivial⟩ rfl rfl rfl rfl ?_; intro g20; refine Qi ?_
      exact Q7 [_] hF (Le.refl _) ⟨_, _, _, rfl, rfl, rfl⟩) ?_
     refine ⟨by kernel_rfl, .refl _, ?_⟩
     ·
      intro H1 hle
      rintro _ _ Hi hle19 ⟨c0, c1, sgk, rfl, hr, rfl⟩
      rintro _ _ Hr hler ⟨g20, d0, d1, hv20, rfl, rfl⟩
      cases hv20
      have hL := Le.trans hL hle; have hle0 := Le.trans hle0 hle; refine Qw (own' := _ :: _ :: _ :: _ :: _ :: _ :: _ :: _ :: own) rfl ?_; refine Zi (env' := [(2, _), (3, _), (10, _), (11, _), (12, _), (5, _), (17, _), (20, _)]) ⟨rfl, rfl, rfl, rfl, rfl, rfl, rfl, rfl, trivial⟩ ?_; refine Zh 3 rfl rfl rfl hrow (Src.ofOwn 0 0 rfl rfl rfl (Ones.all (ownT.ones hr)) ⟨rfl, rfl, trivial⟩) (by omega) (by omega) rfl ?_; intro v' seg' hrow'; refine Qg rfl rfl ?_; refine Zq 5 0 (c' := #[_, _]) (own' := _ :: _ :: _ :: _ :: _ :: [(_, .cells #[_, _] _ _)] :: _) rfl rfl rfl rfl hrow'.one (by simp) rfl rfl rfl (Qi (Ze (Qc (Qh ?_)))); refine Zb rfl rfl rfl ⟨by omega, by omega⟩ (Qb rfl rfl (Qi ?_))
      refine Zj 8 [1, 4, 3, 5, 6, 7] rfl (fun o ho => ?_)
      simp only [K.sel, nrm] at ho; subst ho
      refine TQ.flat join_perm ?_
      refine Zj 5 [1, 0, 2, 3, 4] rfl (fun o ho => ?_)
      simp only [K.sel, nrm] at ho; subst ho
      refine Zf (ks.length - (k' + 1)) [(2, _), (3, _), (10, _), (11, _), (12, _)] (by omega) ⟨rfl, rfl, rfl, rfl, rfl, trivial⟩ ⟨k' + 1, v', _, seg', acc ++ sgk, rfl, by omega, hrow', ?_, by simp, rfl, hle0⟩
      rw [List.take_add_one, hx]
      exact ownL.snoc hr hxs
    ·
     refine Qi (Qc (Qj (Qr rfl (Zo (Q1 ?_))))); refine Q1 (Zp (Zm ?_)); refine Qm 2 0 [_, _] rfl rfl rfl ⟨rfl, rfl, trivial⟩ rfl rfl ?_; refine Qq 3 0 (c' := #[_, _]) (own' := _ :: _ :: _ :: [(_, .cells #[_, _] _ _)] :: _) rfl rfl rfl rfl rfl ⟨rfl, hrow.one, trivial⟩ (by simp) rfl rfl rfl (Qi (Qc (Qy ?_)))
     refine Zj 5 [3, 0, 1] rfl (fun o ho => ?_)
     simp only [K.sel, nrm] at ho; subst ho
     refine TQ.retC 0 0 1 [_, _] rfl rfl rfl rfl ⟨rfl, rfl, trivial⟩ rfl rfl ?_
     obtain rfl : k' = ks.length := by omega
     rw [List.take_length] at hxs
     exact ⟨_, _, _, _, rfl, hrow, hxs, rfl, hL⟩

end Go.Proofs.YtaomdfcplamenaaGreatDoor.K

namespace Go.Proofs.YtaomdfcplamenaaGreatDoor.K
open Go Go.RowKit Go.Proofs

/-- Numbers as data. -/
def ints (l : List Int) : List D := (l.map (Value.int .i64)).map D.c
def takeV (l : List Int) (at_ : Nat) (n : Int) : Int := (l.getD at_ 0) % n
theorem takeV_bd {l : List Int} {at_ : Nat} {n : Int} (hn : 0 < n) : 0 ≤ takeV l at_ n ∧ takeV l at_ n < n := ⟨Int.emod_nonneg _ (by omega), Int.emod_lt_of_pos _ hn⟩
theorem ref_take {l : List Int} (hl : ∀ n ∈ l, I64 n) {at_ : Nat} {m : Int} (hat : at_ ≤ 1000000000) (hm : 0 < m) (hm2 : m ≤ 1000) {w0 : World} {H : Hp} {own : List Seg} {gg : Nat} {v : Value} (hA : rd H (.s 1 (ints l)) v) :
    Fn Tryz.prog 31 [.pointer (some ⟨gg, 0, none⟩), .int .i64 m] w0 H ([(gg, .cells #[v, .int .i64 (at_ : Int)] 80 (0, 0))] :: own)
      (fun r own' H' => r = .int .i64 (takeV l at_ m) ∧ own' = [(gg, .cells #[v, .int .i64 ((at_ + 1 : Nat) : Int)] 80 (0, 0))] :: own ∧ Le H H') := by
  obtain ⟨A, c, rfl, hc1, hc2⟩ := vals_len hA
  simp only [List.length_map] at hA hc1 ⊢
  refine Fn.enter Tryz.func31 rfl Tryz.ntmps31 rfl ?_; have hL := Le.refl H; refine Qj (Qh (Qe rfl rfl (Q3 (Qe rfl rfl (Qi ?_))))); refine Qc (Qj (Qj ?_)); refine Q4 9  [(0, _), (1, _), (4, _), (5, _)] follows_mixed ⟨rfl, rfl, rfl, rfl, trivial⟩ ?_; refine Qa (some 6) [] (fun _ _ _ _ hF => Qb rfl rfl (Qd hF)) ?_; refine Qa (some 7) [(0, 0)] (fun _ _ _ _ hF => Qt rfl rfl (Qd hF)) ?_; refine Qa (some 8) [(1, 0)] (fun _ _ _ _ hF => Qg rfl rfl (Qd hF)) ?_
  refine Qa (some 9) [(2, 0)] (by
   intro H' X F hle; have hL := Le.trans hL hle; intro hF; refine Qk 0 0 rfl rfl rfl rfl rfl ?_
   exact Qd hF) ?_
  refine Qa (some 10) [] (fun _ _ _ _ hF => Qb rfl rfl (Qd hF)) ?_; refine Qa (some 11) [(4, 0)] (fun _ _ _ _ hF => Qt rfl rfl (Qd hF)) ?_; refine Qa (some 12) [(5, 0)] (fun _ _ _ _ hF => Qg rfl rfl (Qd hF)) ?_
  refine Qa (some 13) [(6, 0)] (by
   intro H' X F hle; have hL := Le.trans hL hle; intro hF; refine Qk 0 0 rfl rfl rfl rfl rfl ?_
   exact Qd hF) ?_
  refine Qa (some 14) [(7, 0)] (by
   intro H' X F hle; have hL := Le.trans hL hle; intro hF; refine Qn rfl rfl ?_
   exact Qd hF) ?_
  refine ⟨by kernel_rfl, .refl _, ?_⟩
  ·
   intro H1 hle; have hL := Le.trans hL hle; have hA := rd.mono hle hA; refine Qw (own' := _ :: own) rfl ?_; refine Zi (env' := [(0, _), (1, _), (4, _), (5, _), (9, _), (14, _)]) ⟨rfl, rfl, rfl, rfl, rfl, rfl, trivial⟩ ?_
   refine Zz rfl rfl rfl (fun hc => ?_) (fun hc => ?_)
   ·
    have hlt : at_ < l.length := by omega
    obtain ⟨x, hx⟩ : ∃ x, l[at_]? = some x := ⟨_, List.getElem?_eq_getElem hlt⟩
    obtain ⟨b1, o1, rfl, hp⟩ := vals_at hA (i := at_) (u := .int .i64 x) (by simp [hx])
    have hx6 := hl x (List.mem_of_getElem? hx)
    have q1 := Int.tmod_lt_of_pos x hm
    have q2 := Int.lt_tmod_of_pos x hm
    have hv : takeV l at_ m = x % m := by unfold takeV; rw [List.getD_eq_getElem?_getD, hx]; rfl
    refine Qi (Qc (Qv rfl ?_)); refine Q4 8  [(0, _), (1, _), (4, _), (5, _)] follows_mixed ⟨rfl, rfl, rfl, rfl, trivial⟩ ?_; refine Qa (some 16) [] (fun _ _ _ _ hF => Qb rfl rfl (Qd hF)) ?_; refine Qa (some 17) [(0, 0)] (fun _ _ _ _ hF => Qt rfl rfl (Qd hF)) ?_; refine Qa (some 18) [(1, 0)] (fun _ _ _ _ hF => Qg rfl rfl (Qd hF)) ?_
    refine Qa (some 19) [(2, 0)] (by
     intro H' X F hle; have hL := Le.trans hL hle; intro hF; refine Qk 0 0 rfl rfl rfl rfl rfl ?_
     exact Qd hF) ?_
    refine Qa (some 20) [] (fun _ _ _ _ hF => Qb rfl rfl (Qd hF)) ?_; refine Qa (some 21) [(4, 0)] (fun _ _ _ _ hF => Qt rfl rfl (Qd hF)) ?_; refine Qa (some 22) [(5, 0)] (fun _ _ _ _ hF => Qg rfl rfl (Qd hF)) ?_
    refine Qa (some 23) [(6, 0)] (by
     intro H' X F hle; have hL := Le.trans hL hle; intro hF; refine Qk 0 0 rfl rfl rfl rfl rfl ?_
     exact Qd hF) ?_
    refine ⟨by kernel_rfl, .refl _, ?_⟩
    ·
     intro H2 hle; have hL := Le.trans hL hle; have hp := cel_le hle hp; refine Qw (own' := _ :: own) rfl ?_; refine Zi (env' := [(0, _), (1, _), (4, _), (5, _), (19, _), (23, _)]) ⟨rfl, rfl, rfl, rfl, rfl, rfl, trivial⟩ ?_; refine Qo (at_) rfl rfl rfl (by omega) rfl ?_; refine Qp rfl (hp) rfl (Qe rfl rfl (Q3 (Qb rfl rfl (Qt rfl rfl (Qg rfl rfl ?_))))); refine Qk 0 0 rfl rfl rfl rfl rfl ?_; refine Zb rfl rfl rfl ⟨by omega, by omega⟩ (Qt rfl rfl (Qg rfl rfl ?_)); refine Zq 0 0 (c' := #[_, _]) (own' := [(_, .cells #[_, _] _ _)] :: _) rfl rfl rfl rfl rfl (by simp) rfl rfl rfl (Q3 (Qb rfl rfl (Qb rfl rfl (TL.rem rfl rfl rfl (by omega) (Qb rfl rfl ?_)))))
     refine Zb rfl rfl rfl ⟨by omega, by omega⟩ (Qb rfl rfl (TL.rem rfl rfl rfl (by omega) (Qe rfl rfl (Qi (Qc ?_))))); refine Qy (Q5 0 rfl rfl ?_)
     exact ⟨by rw [hv, mod_eq hm], by simp, hL⟩
   ·
    have hv : takeV l at_ m = 0 % m := by unfold takeV; rw [List.getD_eq_getElem?_getD, List.getElem?_eq_none (by omega)]; rfl
    have q1 := Int.tmod_lt_of_pos 0 hm
    have q2 := Int.lt_tmod_of_pos 0 hm
    refine Qi (Qc (Qr rfl (Q2 (Zm (Qb rfl rfl ?_))))); refine Qt rfl rfl (Qg rfl rfl (Qk 0 0 rfl rfl rfl rfl rfl ?_)); refine Zb rfl rfl rfl ⟨by omega, by omega⟩ (Qt rfl rfl (Qg rfl rfl ?_)); refine Zq 0 0 (c' := #[_, _]) (own' := [(_, .cells #[_, _] _ _)] :: _) rfl rfl rfl rfl rfl (by simp) rfl rfl rfl (Q3 (Qb rfl rfl (Qb rfl rfl (TL.rem rfl rfl rfl (by omega) (Qb rfl rfl ?_))))); refine Zb rfl rfl rfl ⟨by omega, by omega⟩ (Qb rfl rfl (TL.rem rfl rfl rfl (by omega) (Qe rfl rfl (Qi (Qc ?_))))); refine Qy (Q5 0 rfl rfl ?_)
    exact ⟨by rw [hv, mod_eq hm], by simp, hL⟩
def labels7 : List ByteArray := [⟨#[97]⟩, ⟨#[98]⟩, ⟨#[99]⟩, ⟨#[97, 32, 120]⟩, ⟨#[]⟩, ⟨#[102, 110, 32, 109, 97, 105, 110]⟩, ⟨#[110, 117, 109, 32, 53]⟩]
def labelP (x : Int) : ByteArray := labels7.getD x.toNat ⟨#[]⟩
def growK (f : Nat → Tr × Nat) : Nat → Nat → List Tr × Nat
  | 0, at_ => ([], at_)
  | n + 1, at_ => ((growK f n at_).1 ++ [(f (growK f n at_).2).1], (f (growK f n at_).2).2)
def growT (l : List Int) : Nat → Nat → Tr × Nat
  | 0, at_ => (.node (labelP (takeV l at_ 7)) [], at_ + 2)
  | d + 1, at_ => (.node (labelP (takeV l at_ 7)) (growK (growT l d) (takeV l (at_ + 1) 4).toNat (at_ + 2)).1, (growK (growT l d) (takeV l (at_ + 1) 4).toNat (at_ + 2)).2)
def cntK (d : Nat) (n : Int) : Nat := if d = 0 then 0 else n.toNat
theorem growT_eq (l : List Int) (d at_ : Nat) : growT l d at_ = (.node (labelP (takeV l at_ 7)) (growK (growT l (d - 1)) (cntK d (takeV l (at_ + 1) 4)) (at_ + 2)).1, (growK (growT l (d - 1)) (cntK d (takeV l (at_ + 1) 4)) (at_ + 2)).2) := by
  cases d <;> simp [growT, cntK, growK]
theorem growK_le {f : Nat → Tr × Nat} {b : Nat} (hf : ∀ a, (f a).2 ≤ a + b) (at_ : Nat) : ∀ n, (growK f n at_).2 ≤ at_ + n * b
  | 0 => by simp [growK]
  | n + 1 => by
    have h1 := growK_le hf at_ n
    have h2 := hf (growK f n at_).2
    simp only [growK, Nat.add_mul, Nat.one_mul]; omega
theorem growT_le (l : List Int) : ∀ (d at_ : Nat), (growT l d at_).2 ≤ at_ + 2 * 4 ^ d
  | 0, at_ => by simp [growT]
  | d + 1, at_ => by
    have h1 := (takeV_bd (l := l) (at_ := at_ + 1) (n := 4) (by omega)).2
    have h3 : (takeV l (at_ + 1) 4).toNat ≤ 3 := by omega
    have h2 := growK_le (growT_le l d) (at_ + 2) (takeV l (at_ + 1) 4).toNat
    have h4 := Nat.mul_le_mul_right (2 * 4 ^ d) h3
    have h5 : 0 < 4 ^ d := Nat.pow_pos (by omega)
    simp only [growT, Nat.pow_succ]; omega
theorem growK_size {f : Nat → Tr × Nat} {b : Nat} (hf : ∀ a, (f a).1.size ≤ b) (at_ : Nat) : ∀ n, Tr.sizes (growK f n at_).1 ≤ n * b
  | 0 => by simp [growK, Tr.sizes]
  | n + 1 => by
    have h1 := growK_size hf at_ n
    have h2 := hf (growK f n at_).2
    simp only [growK, Tr.sizes_append, Tr.sizes, Nat.add_mul, Nat.one_mul]; omega
theorem growT_size (l : List Int) : ∀ (d at_ : Nat), (growT l d at_).1.size ≤ 4 ^ d
  | 0, at_ => by simp [growT, Tr.size, Tr.sizes]
  | d + 1, at_ => by
    have h1 := (takeV_bd (l := l) (at_ := at_ + 1) (n := 4) (by omega)).2
    have h3 : (takeV l (at_ + 1) 4).toNat ≤ 3 := by omega
    have h2 := growK_size (growT_size l d) (at_ + 2) (takeV l (at_ + 1) 4).toNat
    have h4 := Nat.mul_le_mul_right (4 ^ d) h3
    have h5 : 0 < 4 ^ d := Nat.pow_pos (by omega)
    simp only [growT, Tr.size, Nat.pow_succ]; omega
theorem ref_tree {l : List Int} (hl : ∀ n ∈ l, I64 n) (d : Nat) : ∀ {at_ : Nat} {deep : Int}, deep = (d : Int) → d ≤ 3 → at_ + 2 * 4 ^ d ≤ 1000000 → ∀ {w0 : World} {H : Hp} {own : List Seg} {gg : Nat} {v : Value}, rd H (.s 1 (ints l)) v →
    Fn Tryz.prog 32 [.pointer (some ⟨gg, 0, none⟩), .int .i64 deep] w0 H ([(gg, .cells #[v, .int .i64 (at_ : Int)] 80 (0, 0))] :: own)
      (fun r own' H' => ∃ c0 c1, r = .agg #[c0, c1] ∧ RdL H' (growT l d at_).1.d [c0, c1] ∧ own' = [(gg, .cells #[v, .int .i64 ((growT l d at_).2 : Int)] 80 (0, 0))] :: own ∧ Le H H') := by
  induction d using Nat.strongRecOn with
  | _ d ih =>
  intro at_ deep hdeep hd3 hat w0 H own gg v hA
  have hpw : 0 < 4 ^ d := Nat.pow_pos (by omega)
  have hb1 := takeV_bd (l := l) (at_ := at_) (n := 7) (by omega)
  have hb2 := takeV_bd (l := l) (at_ := at_ + 1) (n := 4) (by omega)
  have hkle := growK_le (growT_le l (d - 1)) (at_ + 2)
  have hcnt : cntK d (takeV l (at_ + 1) 4) ≤ 3 := by unfold cntK; split <;> omega
  have hpd : 0 < d → 4 ^ d = 4 * 4 ^ (d - 1) := fun h => by
    obtain ⟨e, rfl⟩ : ∃ e, d = e + 1 := ⟨d - 1, by omega⟩
    rw [Nat.pow_succ, Nat.add_sub_cancel]; omega
  rw [growT_eq]
  obtain ⟨x1, hx1⟩ : ∃ x, x = takeV l at_ 7 := ⟨_, rfl⟩
  obtain ⟨x2, hx2⟩ : ∃ x, x = takeV l (at_ + 1) 4 := ⟨_, rfl⟩
  rw [← hx1] at hb1 ⊢
  rw [← hx2] at hb2 hcnt ⊢
  have hlab : (labels7.map Value.string)[x1.toNat]? = some (.string (labelP x1)) := by
    have h7 : x1.toNat < labels7.length := by show x1.toNat < 7; omega
    simp only [labelP, List.getElem?_map, List.getD_eq_getElem?_getD, List.getElem?_eq_getElem h7, Option.map_some, Option.getD_some]
  refine Fn.enter Tryz.func32 rfl Tryz.ntmps32 rfl ?_; have hL := Le.refl H; refine Qj (Qh ?_)
  refine Zc rfl ?_; intro g4; refine Q3 ?_
  refine Zg (r := [_, _, _, _, _, _, _]) [(0, [_]), (1, [_]), (2, [_]), (3, [_]), (4, [_]), (5, [_]), (6, [_])] ⟨rfl, ⟨_, rfl, rfl⟩, rfl, ⟨_, rfl, rfl⟩, rfl, ⟨_, rfl, rfl⟩, rfl, ⟨_, rfl, rfl⟩, rfl, ⟨_, rfl, rfl⟩, rfl, ⟨_, rfl, rfl⟩, rfl, ⟨_, rfl, rfl⟩, trivial⟩ rfl rfl rfl rfl ?_; intro g8; refine Qe rfl rfl (Q3 (Qb rfl rfl (Qb rfl rfl (Qb rfl rfl (Qn rfl rfl ?_)))))
  refine TL.sel 3 [2, 0, 1] rfl (fun o ho => ?_)
  simp only [K.sel, nrm] at ho; subst ho
  refine Qs (ref_take hl (m := 7) (by omega) (by omega) (by omega) hA) ⟨rfl, rfl, trivial⟩ rfl ?_
  rintro _ _ H2 ⟨rfl, rfl, hle2⟩
  rw [← hx1]
  have hL := Le.trans hL hle2; have hA := rd.mono hle2 hA; refine Qo (x1.toNat) rfl rfl (by omega) (by omega) rfl ?_; refine Qk 1 0 rfl rfl rfl (by rw [lget_eq, Nat.zero_add, Nat.mul_one]; exact hlab) rfl ?_
  refine Q8 [(0, [_])] ⟨rfl, ⟨_, rfl, rfl⟩, trivial⟩ rfl rfl ?_
  refine Zc rfl ?_; intro g6; refine Qq 0 0 (c' := #[_, _]) (own' := [(_, .cells #[_, _] _ _)] :: _) rfl rfl rfl rfl rfl ⟨rfl, rfl, trivial⟩ (by simp) rfl rfl rfl (Qi (Qc (Qj (Qj (Qh ?_))))); refine Qb rfl rfl ?_
  refine TL.sel 4 [1, 0, 2, 3] rfl (fun o ho => ?_)
  simp only [K.sel, nrm] at ho; subst ho
  refine Qs (ref_take hl (m := 4) (by omega) (by omega) (by omega) hA) ⟨rfl, rfl, trivial⟩ rfl ?_
  rintro _ _ H3 ⟨rfl, rfl, hle3⟩
  rw [← hx2]
  have hL := Le.trans hL hle3; have hA := rd.mono hle3 hA; refine Qe rfl rfl (Qi (Qc (Q6 ?_)))
  refine Z2 4 [0, 1, 3] rfl (fun o ho => ?_)
  simp only [K.sel, nrm] at ho; subst ho
  refine Z4 ?_; refine Zv (fun n env' own' H' => ∃ k' u xs seg, n = cntK d x2 - k' ∧ k' ≤ cntK d x2 ∧ Row 26 2 u k' xs seg ∧ RdL H' (Tr.ds (growK (growT l (d - 1)) k' (at_ + 2)).1) xs ∧ env' = [(0, .pointer (some ⟨gg, 0, none⟩)), (1, .int .i64 deep), (4, .pointer (some ⟨g4, 0, none⟩)), (6, .pointer (some ⟨g6, 0, none⟩)), (7, .int .i64 (x2 - (k' : Int)))] ∧ own' = seg :: [(gg, .cells #[v, .int .i64 ((growK (growT l (d - 1)) k' (at_ + 2)).2 : Int)] 80 (0, 0))] :: [(g6, .cells #[.string (labelP x1), u] 26 (0, 0))] :: [(g4, .cells #[.string ⟨#[]⟩, .slice none 0 0] 26 (0, 0))] :: own ∧ Le H3 H') (cntK d x2) [(0, _), (1, _), (4, _), (6, _), (7, _)] ⟨rfl, rfl, rfl, rfl, rfl, trivial⟩ ⟨0, _, [], [], by omega, by omega, Row.nil 26 2, trivial, by simp, rfl, Le.refl _⟩ ?_
  rintro n _ _ H4 ⟨k', u, xs, seg, rfl, hk1, hrow, hxs, rfl, rfl, hle0⟩
  have hkk := hkle k'; have hL := Le.trans hL hle0; have hA := rd.mono hle0 hA; refine Qj (Qj (Qh (Qb rfl rfl ?_)))
  refine TL.gtrB rfl rfl rfl (fun hlt => ?_) (fun hlt => ?_)
  ·
   refine Qb rfl rfl ?_; refine Qf rfl rfl rfl (Qb rfl rfl ?_); refine Qf rfl rfl rfl ?_
   refine TL.gtrB rfl rfl rfl (fun hpos => ?_) (fun hpos => ?_)
   ·
    refine Qz rfl rfl rfl rfl (Qi (Qc (Qv rfl (Q2 (Qc ?_))))); refine Qj (Q6 ?_)
    have hd0 : 0 < d := by omega
    have hpd := hpd hd0
    have hlt2 : k' < cntK d x2 := by
      have hc : cntK d x2 = (if d = 0 then 0 else x2.toNat) := rfl
      rw [if_neg (by omega)] at hc; omega
    have hk3 : k' * (2 * 4 ^ (d - 1)) ≤ 2 * (2 * 4 ^ (d - 1)) := Nat.mul_le_mul_right _ (by omega)
    have hp1 : 0 < 4 ^ (d - 1) := Nat.pow_pos (by omega)
    refine Z2 4 [1, 0, 2, 3] rfl (fun o ho => ?_)
    simp only [K.sel, nrm] at ho; subst ho
    refine TC.drawCV 7  [(0, _), (1, _), (4, _), (6, _), (7, _)] follows_mixed ⟨rfl, rfl, rfl, rfl, rfl, trivial⟩ ?_; refine Qa (some 27) [] (fun _ _ _ _ hF => Qg rfl rfl (Qd hF)) ?_
    refine Qa (some 28) [(0, 0)] (by
     intro H' X F hle; have hL := Le.trans hL hle; intro hF; refine Qk 1 0 rfl rfl rfl rfl rfl ?_
     exact Qd hF) ?_
    refine Qa (some 29) [] (fun _ _ _ _ hF => Qb rfl rfl (Qd hF)) ?_; refine Qa (some 30) [] (fun _ _ _ _ hF => Qb rfl rfl (Qd hF)) ?_; refine Qa (some 31) [(3, 0)] (fun _ _ _ _ hF => Zu rfl rfl rfl ⟨by omega, by omega⟩ (Qd hF)) ?_
    refine Q9 (some 32) [(2, 2), (4, 0)] ([[(gg, .cells #[v, .int .i64 ((growK (growT l (d - 1)) k' (at_ + 2)).2 : Int)] 80 (0, 0))]]) (fun _ => fun u s H => ∃ c0 c1, u = .agg #[c0, c1] ∧ RdL H (growT l (d - 1) (growK (growT l (d - 1)) k' (at_ + 2)).2).1.d [c0, c1] ∧ s = [[(gg, .cells #[v, .int .i64 ((growK (growT l (d - 1)) (k' + 1) (at_ + 2)).2 : Int)] 80 (0, 0))]]) (by
     intro H' X F hle; have hL := Le.trans hL hle; have hA := rd.mono hle hA; intro hF; refine Qs (ih (d - 1) (by omega) (by omega) (by omega) (by omega) hA) ⟨rfl, rfl, trivial⟩ rfl ?_
     rintro _ _ H5 ⟨c0, c1, rfl, hr, rfl, hle5⟩
     refine Qi ?_
     exact Q7 [_] hF hle5 ⟨c0, c1, rfl, hr, rfl⟩) ?_
    refine Q9 (some 33) [(5, 0)] ([]) (fun _ => fun u s H => ∃ g c0 c1, u = .slice (some ⟨g, 0, none⟩) 1 1 ∧ s = [[(g, .cells #[c0, c1] 26 (0, 0))]] ∧ RdL H (growT l (d - 1) (growK (growT l (d - 1)) k' (at_ + 2)).2).1.d [c0, c1]) (by
     intro H' X F hle; have hL := Le.trans hL hle; intro _
     rintro _ _ Hr hler ⟨c0, c1, rfl, hr, rfl⟩
     intro hF
     refine Zg (r := [_, _]) [(0, [_, _])] ⟨rfl, ⟨_, rfl, rfl⟩, trivial⟩ rfl rfl rfl rfl ?_; intro g33; refine Qi ?_
     exact Q7 [_] hF (Le.refl _) ⟨_, _, _, rfl, rfl, RdL.mono hler hr⟩) ?_
    refine ⟨by kernel_rfl, .refl _, ?_⟩
    ·
     intro H1 hle
     rintro _ _ Hr hler ⟨c0, c1, rfl, hr, rfl⟩
     rintro _ _ Hr hler ⟨g33, d0, d1, rfl, rfl, hr⟩
     replace hr := RdL.mono hler hr
     have hL := Le.trans hL hle; have hle0 := Le.trans hle0 hle; have hxs := RdL.mono hle hxs; refine Qw (own' := _ :: _ :: _ :: _ :: _ :: own) rfl ?_; refine Zi (env' := [(0, _), (1, _), (4, _), (6, _), (7, _), (28, _), (33, _)]) ⟨rfl, rfl, rfl, rfl, rfl, rfl, rfl, trivial⟩ ?_; refine Zh 2 rfl rfl rfl hrow (Src.ofOwn 0 0 rfl rfl rfl (Ones.all (tr_ones hr)) ⟨rfl, rfl, trivial⟩) (by omega) (by omega) rfl ?_; intro v' seg' hrow'; refine Qg rfl rfl ?_; refine Zq 3 0 (c' := #[_, _]) (own' := _ :: _ :: _ :: [(_, .cells #[_, _] _ _)] :: _) rfl rfl rfl rfl hrow'.one (by simp) rfl rfl rfl (Qi (Ze (Qc (Qh (Qb rfl rfl ?_))))); refine Zu rfl rfl rfl ⟨by omega, by omega⟩ (Qe rfl rfl (Qi ?_))
     refine Zj 5 [2, 1, 3, 4] rfl (fun o ho => ?_)
     simp only [K.sel, nrm] at ho; subst ho
     refine Zf (cntK d x2 - (k' + 1)) [(0, _), (1, _), (4, _), (6, _), (7, _)] (by omega) ⟨rfl, rfl, rfl, rfl, rfl, trivial⟩ ⟨k' + 1, v', _, seg', rfl, by omega, hrow', ?_, ?_, rfl, hle0⟩
     · exact trs_snoc hxs hr
     · rw [show x2 - (((k' + 1 : Nat) : Int)) = x2 - (k' : Int) - 1 by omega]
   ·
    refine Qz rfl rfl rfl rfl (Qi (Qc (Qr rfl (Zo (Q1 ?_))))); refine Q1 (Zp (Zm ?_)); refine Qm 2 0 [_, _] rfl rfl rfl ⟨rfl, rfl, trivial⟩ rfl rfl ?_; refine Qq 3 0 (c' := #[_, _]) (own' := _ :: _ :: _ :: [(_, .cells #[_, _] _ _)] :: _) rfl rfl rfl rfl rfl ⟨rfl, hrow.one, trivial⟩ (by simp) rfl rfl rfl (Qi (Qc (Qy ?_)))
    refine Zs (fun H2 hle hz_row => ?_)
    have hL := Le.trans hL hle; have hxs := RdL.mono hle hxs
    have hk2 : k' = cntK d x2 := by
      have hc : cntK d x2 = (if d = 0 then 0 else x2.toNat) := rfl
      by_cases hd : d = 0
      · rw [if_pos hd] at hc; omega
      · rw [if_neg hd] at hc; omega
    refine Zj 3 [2, 1, 0] rfl (fun o ho => ?_)
    simp only [K.sel, nrm] at ho; subst ho
    refine TQ.retC 0 0 2 [_, _] rfl rfl rfl rfl ⟨rfl, rfl, trivial⟩ rfl rfl ?_
    subst hk2
    exact ⟨_, _, rfl, tr_mk (rd.ofRow hrow hz_row hxs (Le.refl _)), rfl, hL⟩
  ·
   refine Qb rfl rfl ?_; refine Ql rfl rfl rfl rfl ?_; refine Ql rfl rfl rfl rfl ?_; refine Qx rfl rfl rfl rfl (Qi (Qc (Qr rfl (Zo (Q1 ?_))))); refine Q1 (Zp (Zm ?_)); refine Qm 2 0 [_, _] rfl rfl rfl ⟨rfl, rfl, trivial⟩ rfl rfl ?_; refine Qq 3 0 (c' := #[_, _]) (own' := _ :: _ :: _ :: [(_, .cells #[_, _] _ _)] :: _) rfl rfl rfl rfl rfl ⟨rfl, hrow.one, trivial⟩ (by simp) rfl rfl rfl (Qi (Qc (Qy ?_)))
   refine Zs (fun H3 hle hz_row => ?_)
   have hL := Le.trans hL hle; have hxs := RdL.mono hle hxs
   have hk2 : k' = cntK d x2 := by
     have hc : cntK d x2 = (if d = 0 then 0 else x2.toNat) := rfl
     by_cases hd : d = 0
     · rw [if_pos hd] at hc; omega
     · rw [if_neg hd] at hc; omega
   refine Zj 3 [2, 1, 0] rfl (fun o ho => ?_)
   simp only [K.sel, nrm] at ho; subst ho
   refine TQ.retC 0 0 2 [_, _] rfl rfl rfl rfl ⟨rfl, rfl, trivial⟩ rfl rfl ?_
   subst hk2
   exact ⟨_, _, rfl, tr_mk (rd.ofRow hrow hz_row hxs (Le.refl _)), rfl, hL⟩

end Go.Proofs.YtaomdfcplamenaaGreatDoor.K

namespace Go.Proofs.YtaomdfcplamenaaGreatDoor.K
open Go Go.RowKit Go.Proofs

/-- The node at a path of any numbers. -/
def subI : Tr → List Int → Option Tr
  | t, [] => some t
  | .node _ ks, x :: q => if x < 0 then none else (ks[x.toNat]?).bind fun u => subI u q
theorem subI_app : ∀ (p q : List Int) (t : Tr), subI t (p ++ q) = (subI t p).bind fun u => subI u q
  | [], q, t => by cases t; rfl
  | x :: p, q, .node l ks => by
    simp only [List.cons_append, subI]
    split
    · rfl
    · cases ks[x.toNat]? with
      | none => rfl
      | some u => exact subI_app p q u
theorem subI_sub : ∀ (p : List Int) (t : Tr) {s : Tr}, subI t p = some s → sub t (p.map Int.toNat) = some s
  | [], t, s, h => by cases t; exact h
  | x :: p, .node l ks, s, h => by
    simp only [subI] at h
    split at h
    · cases h
    · simp only [List.map_cons, sub]
      cases e : ks[x.toNat]? with
      | none => rw [e] at h; cases h
      | some u => rw [e] at h; exact subI_sub p u h
theorem adr.mono {H H' : Hp} (hl : Le H H') : ∀ {p : Path} {a b : Nat × Nat}, adr H p a = some b → adr H' p a = some b
  | [], _, _, h => h
  | i :: q, a, b, h => by
    simp only [adr, Option.bind_eq_some_iff] at h ⊢
    obtain ⟨c, ⟨v, h1, h2⟩, h3⟩ := h
    exact ⟨c, ⟨v, cel_le hl h1, h2⟩, adr.mono hl h3⟩
theorem adr_next {H : Hp} {p : Path} {a : Nat × Nat} {g o i b q n c : Nat} (h : adr H p a = some (g, o)) (h1 : cel H g (o + 1) = some (.slice (some ⟨b, q, none⟩) n c)) : adr H (p ++ [i]) a = some (b, q + i * 2) := by
  rw [adr_snoc, h]
  simp [h1, slAt]
theorem find_n {t : Tr} {p : List Int} (hpl : p.length ≤ 1000000000) {w0 : World} {H : Hp} {own : List Seg} {g0 o0 : Nat} {v0 v1 vp : Value} (hat : hAt H g0 o0 [v0, v1]) (hrd : RdL H t.d [v0, v1]) (hvp : rd H (.s 1 (ints p)) vp) :
    Fn Tryz.prog 52 [.pointer (some ⟨g0, o0, none⟩), vp] w0 H own (fun r own' H' => ((subI t p = none ∧ r = .pointer none) ∨ ∃ s g o, subI t p = some s ∧ r = .pointer (some ⟨g, o, none⟩) ∧ adr H' (p.map Int.toNat) (g0, o0) = some (g, o)) ∧ own' = own ∧ Le H H') := by
  obtain ⟨A, c, rfl, hc1, hc2⟩ := vals_len hvp
  simp only [List.length_map] at hvp hc1 ⊢
  refine Fn.enter Tryz.func52 rfl Tryz.ntmps52 rfl ?_; have hL := Le.refl H; refine Qj (Qh (Qe rfl rfl (Qi (Qc (Qj ?_))))); refine Qj (Qh (Qb rfl rfl (Qn rfl rfl (Qb rfl rfl (Qi ?_))))); refine Qc (Q6 ?_)
  refine Zv (fun n env' own' H' => ∃ (k : Nat) (g1 o1 : Nat) (s1 : Tr) (u0 u1 : Value), n = p.length - k ∧ k ≤ p.length ∧ subI t (p.take k) = some s1 ∧ adr H' ((p.take k).map Int.toNat) (g0, o0) = some (g1, o1) ∧ hAt H' g1 o1 [u0, u1] ∧ RdL H' s1.d [u0, u1] ∧ env' = [(0, .pointer (some ⟨g1, o1, none⟩)), (7, .slice A p.length c), (8, .int .i64 (p.length : Int)), (9, .int .i64 (k : Int))] ∧ own' = own ∧ Le H H') p.length [(0, _), (7, _), (8, _), (9, _)] ⟨rfl, rfl, rfl, rfl, trivial⟩ ⟨0, g0, o0, t, v0, v1, by omega, by omega, by cases t; rfl, rfl, hat, hrd, rfl, rfl, Le.refl _⟩ ?_
  rintro n _ own H1 ⟨k, g1, o1, s1, u0, u1, rfl, hk1, hsub, hadr, hat1, hrd1, rfl, rfl, hle0⟩
  have hL := Le.trans hL hle0; have hvp := rd.mono hle0 hvp; refine Qj (Qh ?_)
  refine Zz rfl rfl rfl (fun hlt => ?_) (fun hlt => ?_)
  ·
   obtain ⟨x, hx⟩ : ∃ x, p[k]? = some x := ⟨_, List.getElem?_eq_getElem (by omega)⟩
   obtain ⟨b1, q1, rfl, hpx⟩ := vals_at hvp (i := k) (u := .int .i64 x) (by simp [hx])
   have hpt : p = p.take k ++ x :: p.drop (k + 1) := by
     rw [← drop_cons hx, List.take_append_drop]
   refine Qi (Qc (Qj (Qv rfl (Q2 (Qc ?_))))); refine Qj (Q6 (Qj (Qh ?_))); refine Qo (k) rfl rfl rfl (by omega) rfl ?_; refine Qp rfl (hpx) rfl (Qe rfl rfl (Qi (Qc (Qj (Qj ?_)))))
   obtain ⟨l1, ks1⟩ := s1
   obtain ⟨rfl, A1, c1, rfl, hc11, hc12, hA1⟩ := tr_cells hrd1
   have hcase : x < 0 ∨ (0 ≤ x ∧ (ks1.length : Int) ≤ x) ∨ (∃ y, ks1[x.toNat]? = some y ∧ 0 ≤ x ∧ x < ks1.length) := by
     by_cases h1 : x < 0
     · exact .inl h1
     · by_cases h2 : (ks1.length : Int) ≤ x
       · exact .inr (.inl ⟨by omega, h2⟩)
       · exact .inr (.inr ⟨_, List.getElem?_eq_getElem (by omega), by omega, by omega⟩)
   rcases hcase with hn | ⟨hn, hb⟩ | ⟨y, hy, hn, hb⟩
   ·
    refine Qh (Qb rfl rfl (Zl rfl rfl rfl ?_))
    rw [decide_eq_true hn]
    refine Qb rfl rfl ?_; refine Ql rfl rfl rfl rfl ?_; refine Ql rfl rfl rfl rfl ?_; refine Ql rfl rfl rfl rfl ?_; refine Ql rfl rfl rfl rfl ?_; refine Ql rfl rfl rfl rfl ?_; refine Ql rfl rfl rfl rfl ?_; refine Ql rfl rfl rfl rfl ?_; refine Qz rfl rfl rfl rfl (Qi (Qc (Qv rfl (Qj (Qh ?_))))); refine Qe rfl rfl (Qi (Qc (Qy (Q0 (Z0 ?_))))); refine Q0 (Q0 (Z0 (Q0 (Q5 0 rfl rfl ?_))))
    refine ⟨.inl ⟨?_, rfl⟩, rfl, hL⟩
    rw [hpt, subI_app, hsub]
    simp only [Option.bind_some, subI, if_pos hn]
   ·
    refine Qh (Qb rfl rfl (Zl rfl rfl rfl ?_))
    rw [decide_eq_false (by omega)]
    refine Qb rfl rfl ?_; refine Qf rfl rfl rfl (Qb rfl rfl ?_); refine Qf rfl rfl rfl (Qb rfl rfl ?_); refine Qf rfl rfl rfl (Qt rfl rfl ?_); refine Qf rfl rfl rfl (Qg rfl rfl ?_); refine Qf rfl rfl rfl ?_; refine Qp rfl (hat1.2.1) rfl ?_; refine Qf rfl rfl rfl (Qn rfl rfl ?_); refine Qf rfl rfl rfl (TL.geq rfl rfl rfl ?_)
    rw [decide_eq_true (by omega)]
    refine Qx rfl rfl rfl rfl (Qi (Qc (Qv rfl (Qj (Qh ?_))))); refine Qe rfl rfl (Qi (Qc (Qy (Q0 (Z0 ?_))))); refine Q0 (Q0 (Z0 (Q0 (Q5 0 rfl rfl ?_))))
    refine ⟨.inl ⟨?_, rfl⟩, rfl, hL⟩
    rw [hpt, subI_app, hsub]
    simp only [Option.bind_some, subI, if_neg (show ¬ x < 0 by omega)]
    rw [List.getElem?_eq_none (by omega)]
    rfl
   ·
    obtain ⟨b2, o2, p0, p1, rfl, hp, hpr⟩ := trs_at hA1 hy
    refine Qh (Qb rfl rfl (Zl rfl rfl rfl ?_))
    rw [decide_eq_false (by omega)]
    refine Qb rfl rfl ?_; refine Qf rfl rfl rfl (Qb rfl rfl ?_); refine Qf rfl rfl rfl (Qb rfl rfl ?_); refine Qf rfl rfl rfl (Qt rfl rfl ?_); refine Qf rfl rfl rfl (Qg rfl rfl ?_); refine Qf rfl rfl rfl ?_; refine Qp rfl (hat1.2.1) rfl ?_; refine Qf rfl rfl rfl (Qn rfl rfl ?_); refine Qf rfl rfl rfl (TL.geq rfl rfl rfl ?_)
    rw [decide_eq_false (by omega)]
    refine Qx rfl rfl rfl rfl (Qi (Qc (Qr rfl (Q2 (Qc ?_))))); refine Qh (Qb rfl rfl (Qt rfl rfl (Qg rfl rfl ?_))); refine Qp rfl (hat1.2.1) rfl (Qb rfl rfl ?_); refine Qo (x.toNat) rfl rfl (by omega) (by omega) rfl (Qe rfl rfl (Qi (Ze (Qc (Qh ?_))))); refine Zb rfl rfl rfl ⟨by omega, by omega⟩ (Qb rfl rfl (Qi ?_)); refine Zn (own' := own) rfl ?_
    refine Zf (p.length - (k + 1)) [(0, _), (7, _), (8, _), (9, _)] (by omega) ⟨rfl, rfl, rfl, rfl, trivial⟩ ⟨k + 1, b2, o2 + x.toNat * 2, y, p0, p1, rfl, by omega, ?_, ?_, hp, hpr, by simp, rfl, hle0⟩
    · rw [List.take_add_one, hx, subI_app, hsub]
      simp only [Option.toList_some, Option.bind_some, subI, if_neg (show ¬ x < 0 by omega), hy]
    · rw [List.take_add_one, hx, List.map_append]
      exact adr_next hadr hat1.2.1
  ·
   refine Qi (Qc (Qj (Qr rfl (Zo (Q1 ?_))))); refine Q1 (Zp (Zm (Qb rfl rfl (Qe rfl rfl (Qi ?_))))); refine Qc (Qy (Q5 0 rfl rfl ?_))
   rw [List.take_of_length_le (by omega)] at hsub hadr
   exact ⟨.inr ⟨s1, g1, o1, hsub, rfl, hadr⟩, rfl, hL⟩

end Go.Proofs.YtaomdfcplamenaaGreatDoor.K

namespace Go.Proofs.YtaomdfcplamenaaGreatDoor.K
open Go Go.RowKit Go.Proofs

theorem ref_At {t : Tr} {p : List Int} (hpl : p.length ≤ 1000000000) {w0 : World} {H : Hp} {own : List Seg} {v0 v1 vp : Value} (hrd : RdL H t.d [v0, v1]) (hvp : rd H (.s 1 (ints p)) vp) :
    Fn Tryz.prog 45 [.agg #[v0, v1], vp] w0 H own (fun r own' H' => ((subI t p = none ∧ r = .tuple #[.agg #[.string ⟨#[]⟩, .slice none 0 0], .bool false]) ∨ ∃ s c0 c1, subI t p = some s ∧ r = .tuple #[.agg #[c0, c1], .bool true] ∧ RdL H' s.d [c0, c1]) ∧ own' = own ∧ Le H H') := by
  obtain ⟨A, c, rfl, hc1, hc2⟩ := vals_len hvp
  simp only [List.length_map] at hvp hc1 ⊢
  refine Fn.enter Tryz.func45 rfl Tryz.ntmps45 rfl ?_; have hL := Le.refl H; refine Qj (Qh ?_)
  refine Zx (c := #[_, _]) rfl rfl rfl ?_; intro g2
  refine Zc rfl ?_; intro g4; refine Qe rfl rfl (Qi (Qc (Qj (Qj (Qh ?_))))); refine Qe rfl rfl (Qi (Qc (Q6 ?_))); refine Zv (fun n env' own' H' => ∃ (k : Nat) (s1 : Tr) (u0 u1 : Value), n = p.length - k ∧ k ≤ p.length ∧ subI t (p.take k) = some s1 ∧ RdL H' s1.d [u0, u1] ∧ env' = [(1, .slice A p.length c), (2, .pointer (some ⟨g2, 0, none⟩)), (4, .pointer (some ⟨g4, 0, none⟩)), (6, .int .i64 (k : Int))] ∧ own' = [(g4, .cells #[.string ⟨#[]⟩, .slice none 0 0] 26 (0, 0))] :: [(g2, .cells #[u0, u1] 26 (0, 0))] :: own ∧ Le H H') p.length [(1, _), (2, _), (4, _), (6, _)] ⟨rfl, rfl, rfl, rfl, trivial⟩ ⟨0, t, v0, v1, by omega, by omega, by cases t; rfl, hrd, rfl, rfl, Le.refl _⟩ ?_
  rintro n _ _ H1 ⟨k, s1, u0, u1, rfl, hk1, hsub, hrd1, rfl, rfl, hle0⟩
  have hL := Le.trans hL hle0; have hvp := rd.mono hle0 hvp; refine Qj (Qj (Qh (Qb rfl rfl (Qb rfl rfl (Qn rfl rfl ?_)))))
  refine Zz rfl rfl rfl (fun hlt => ?_) (fun hlt => ?_)
  ·
   obtain ⟨x, hx⟩ : ∃ x, p[k]? = some x := ⟨_, List.getElem?_eq_getElem (by omega)⟩
   obtain ⟨b1, q1, rfl, hpx⟩ := vals_at hvp (i := k) (u := .int .i64 x) (by simp [hx])
   have hpt : p = p.take k ++ x :: p.drop (k + 1) := by
     rw [← drop_cons hx, List.take_append_drop]
   obtain ⟨l1, ks1⟩ := s1
   obtain ⟨rfl, A1, c1, rfl, hc11, hc12, hA1⟩ := tr_cells hrd1
   refine Qi (Qc (Qv rfl (Q2 (Qc (Qj ?_))))); refine Q6 (Qj (Qj ?_))
   have hcase : x < 0 ∨ (0 ≤ x ∧ (ks1.length : Int) ≤ x) ∨ (∃ y, ks1[x.toNat]? = some y ∧ 0 ≤ x ∧ x < ks1.length) := by
     by_cases h1 : x < 0
     · exact .inl h1
     · by_cases h2 : (ks1.length : Int) ≤ x
       · exact .inr (.inl ⟨by omega, h2⟩)
       · exact .inr (.inr ⟨_, List.getElem?_eq_getElem (by omega), by omega, by omega⟩)
   rcases hcase with hn | ⟨hn, hb⟩ | ⟨y, hy, hn, hb⟩
   ·
    refine Q4 13  [(1, _), (2, _), (4, _), (6, _)] follows_mixed ⟨rfl, rfl, rfl, rfl, trivial⟩ ?_; refine Qa (some 13) [] (fun _ _ _ _ hF => Qb rfl rfl (Qd hF)) ?_; refine Qa (some 14) [] (fun _ _ _ _ hF => Qb rfl rfl (Qd hF)) ?_; refine Qa (some 15) [(0, 1), (1, 0)] (fun _ _ _ _ hF => Qo (k) rfl rfl rfl (by omega) rfl (Qd hF)) ?_
    refine Qa (some 16) [(2, 0)] (by
     intro H' X F hle; have hL := Le.trans hL hle; have hpx := cel_le hle hpx; intro hF; refine Qp rfl (hpx) rfl ?_
     exact Qd hF) ?_
    refine Qa (some 17) [(3, 0)] (by
     intro H' X F hle; have hL := Le.trans hL hle; intro hF; refine Zl rfl rfl rfl ?_
     rw [decide_eq_true hn]
     exact Qd hF) ?_
    refine Qa (some 18) [(4, 0)] (fun _ _ _ _ hF => Qb rfl rfl (Qd hF)) ?_
    refine Qa (some 19) [(5, 0)] (by
     intro H' X F hle hF; refine Ql rfl rfl rfl rfl ?_
     exact Qd hF) ?_
    refine Qa (some 20) [(5, 1)] (by
     intro H' X F hle hF; refine Ql rfl rfl rfl rfl ?_
     exact Qd hF) ?_
    refine Qa (some 21) [(6, 1), (7, 0), (5, 2)] (by
     intro H' X F hle hF; refine Ql rfl rfl rfl rfl ?_
     exact Qd hF) ?_
    refine Qa (some 22) [(8, 0), (5, 3)] (by
     intro H' X F hle hF; refine Ql rfl rfl rfl rfl ?_
     exact Qd hF) ?_
    refine Qa (some 23) [(5, 4)] (by
     intro H' X F hle hF; refine Ql rfl rfl rfl rfl ?_
     exact Qd hF) ?_
    refine Qa (some 24) [(10, 0), (5, 5)] (by
     intro H' X F hle hF; refine Ql rfl rfl rfl rfl ?_
     exact Qd hF) ?_
    refine Qa (some 25) [(11, 0), (5, 6)] (by
     intro H' X F hle hF; refine Ql rfl rfl rfl rfl ?_
     exact Qd hF) ?_
    refine ⟨by kernel_rfl, .refl _, ?_⟩
    ·
     intro H1 hle; have hL := Le.trans hL hle; refine Qw (own' := _ :: _ :: own) rfl ?_; refine Zi (env' := [(1, _), (2, _), (4, _), (6, _), (18, _), (22, _), (25, _)]) ⟨rfl, rfl, rfl, rfl, rfl, rfl, rfl, trivial⟩ ?_; refine Ql rfl rfl rfl rfl ?_; refine Qz rfl rfl rfl rfl (Qi (Qc (Qv rfl (Qj (Qh ?_))))); refine Q8 [] trivial rfl rfl ?_; refine Qq 0 0 (c' := #[_, _]) (own' := [(_, .cells #[_, _] _ _)] :: _) rfl rfl rfl rfl rfl ⟨rfl, rfl, trivial⟩ (by simp) rfl rfl rfl (Qe rfl rfl (Qi (Qc (Qy (Q0 ?_))))); refine Z0 (Q0 (Q0 (Z0 (Q0 ?_)))); refine Zw 0 0 2 [_, _] rfl rfl rfl rfl rfl ⟨rfl, rfl, trivial⟩ rfl rfl ?_
     refine ⟨.inl ⟨?_, rfl⟩, rfl, hL⟩
     rw [hpt, subI_app, hsub]
     simp only [Option.bind_some, subI, if_pos hn]
   ·
    refine Q4 13  [(1, _), (2, _), (4, _), (6, _)] follows_mixed ⟨rfl, rfl, rfl, rfl, trivial⟩ ?_; refine Qa (some 13) [] (fun _ _ _ _ hF => Qb rfl rfl (Qd hF)) ?_; refine Qa (some 14) [] (fun _ _ _ _ hF => Qb rfl rfl (Qd hF)) ?_; refine Qa (some 15) [(0, 1), (1, 0)] (fun _ _ _ _ hF => Qo (k) rfl rfl rfl (by omega) rfl (Qd hF)) ?_
    refine Qa (some 16) [(2, 0)] (by
     intro H' X F hle; have hL := Le.trans hL hle; have hpx := cel_le hle hpx; intro hF; refine Qp rfl (hpx) rfl ?_
     exact Qd hF) ?_
    refine Qa (some 17) [(3, 0)] (by
     intro H' X F hle; have hL := Le.trans hL hle; intro hF; refine Zl rfl rfl rfl ?_
     rw [decide_eq_false (by omega)]
     exact Qd hF) ?_
    refine Qa (some 18) [(4, 0)] (fun _ _ _ _ hF => Qb rfl rfl (Qd hF)) ?_
    refine Qa (some 19) [(5, 0)] (by
     intro H' X F hle hF; refine Qf rfl rfl rfl (Qb rfl rfl ?_)
     exact Qd hF) ?_
    refine Qa (some 20) [(5, 1)] (by
     intro H' X F hle hF; refine Qf rfl rfl rfl (Qb rfl rfl ?_)
     exact Qd hF) ?_
    refine Qa (some 21) [(6, 1), (7, 0), (5, 2)] (by
     intro H' X F hle hF; refine Qf rfl rfl rfl ?_; refine Qo (k) rfl rfl rfl (by omega) rfl ?_
     exact Qd hF) ?_
    refine Qa (some 22) [(8, 0), (5, 3)] (by
     intro H' X F hle; have hL := Le.trans hL hle; have hpx := cel_le hle hpx; intro hF; refine Qf rfl rfl rfl ?_; refine Qp rfl (hpx) rfl ?_
     exact Qd hF) ?_
    refine Qa (some 23) [(5, 4)] (by
     intro H' X F hle hF; refine Qf rfl rfl rfl (Qg rfl rfl ?_)
     exact Qd hF) ?_
    refine Qa (some 24) [(10, 0), (5, 5)] (by
     intro H' X F hle; have hL := Le.trans hL hle; intro hF; refine Qf rfl rfl rfl (Qk 1 0 rfl rfl rfl rfl rfl ?_)
     exact Qd hF) ?_
    refine Qa (some 25) [(11, 0), (5, 6)] (by
     intro H' X F hle; have hL := Le.trans hL hle; intro hF; refine Qf rfl rfl rfl (Qn rfl rfl ?_)
     exact Qd hF) ?_
    refine ⟨by kernel_rfl, .refl _, ?_⟩
    ·
     intro H2 hle; have hL := Le.trans hL hle; refine Qw (own' := _ :: _ :: own) rfl ?_; refine Zi (env' := [(1, _), (2, _), (4, _), (6, _), (18, _), (22, _), (25, _)]) ⟨rfl, rfl, rfl, rfl, rfl, rfl, rfl, trivial⟩ ?_; refine Qf rfl rfl rfl (TL.geq rfl rfl rfl ?_)
     rw [decide_eq_true (by omega)]
     refine Qx rfl rfl rfl rfl (Qi (Qc (Qv rfl (Qj (Qh ?_))))); refine Q8 [] trivial rfl rfl ?_; refine Qq 0 0 (c' := #[_, _]) (own' := [(_, .cells #[_, _] _ _)] :: _) rfl rfl rfl rfl rfl ⟨rfl, rfl, trivial⟩ (by simp) rfl rfl rfl (Qe rfl rfl (Qi (Qc (Qy (Q0 ?_))))); refine Z0 (Q0 (Q0 (Z0 (Q0 ?_)))); refine Zw 0 0 2 [_, _] rfl rfl rfl rfl rfl ⟨rfl, rfl, trivial⟩ rfl rfl ?_
     refine ⟨.inl ⟨?_, rfl⟩, rfl, hL⟩
     rw [hpt, subI_app, hsub]
     simp only [Option.bind_some, subI, if_neg (show ¬ x < 0 by omega)]
     rw [List.getElem?_eq_none (by omega)]
     rfl
   ·
    obtain ⟨b2, o2, p0, p1, rfl, hp, hpr⟩ := trs_at hA1 hy
    refine Q4 13  [(1, _), (2, _), (4, _), (6, _)] follows_mixed ⟨rfl, rfl, rfl, rfl, trivial⟩ ?_; refine Qa (some 13) [] (fun _ _ _ _ hF => Qb rfl rfl (Qd hF)) ?_; refine Qa (some 14) [] (fun _ _ _ _ hF => Qb rfl rfl (Qd hF)) ?_; refine Qa (some 15) [(0, 1), (1, 0)] (fun _ _ _ _ hF => Qo (k) rfl rfl rfl (by omega) rfl (Qd hF)) ?_
    refine Qa (some 16) [(2, 0)] (by
     intro H' X F hle; have hL := Le.trans hL hle; have hpx := cel_le hle hpx; intro hF; refine Qp rfl (hpx) rfl ?_
     exact Qd hF) ?_
    refine Qa (some 17) [(3, 0)] (by
     intro H' X F hle; have hL := Le.trans hL hle; intro hF; refine Zl rfl rfl rfl ?_
     rw [decide_eq_false (by omega)]
     exact Qd hF) ?_
    refine Qa (some 18) [(4, 0)] (fun _ _ _ _ hF => Qb rfl rfl (Qd hF)) ?_
    refine Qa (some 19) [(5, 0)] (by
     intro H' X F hle hF; refine Qf rfl rfl rfl (Qb rfl rfl ?_)
     exact Qd hF) ?_
    refine Qa (some 20) [(5, 1)] (by
     intro H' X F hle hF; refine Qf rfl rfl rfl (Qb rfl rfl ?_)
     exact Qd hF) ?_
    refine Qa (some 21) [(6, 1), (7, 0), (5, 2)] (by
     intro H' X F hle hF; refine Qf rfl rfl rfl ?_; refine Qo (k) rfl rfl rfl (by omega) rfl ?_
     exact Qd hF) ?_
    refine Qa (some 22) [(8, 0), (5, 3)] (by
     intro H' X F hle; have hL := Le.trans hL hle; have hpx := cel_le hle hpx; intro hF; refine Qf rfl rfl rfl ?_; refine Qp rfl (hpx) rfl ?_
     exact Qd hF) ?_
    refine Qa (some 23) [(5, 4)] (by
     intro H' X F hle hF; refine Qf rfl rfl rfl (Qg rfl rfl ?_)
     exact Qd hF) ?_
    refine Qa (some 24) [(10, 0), (5, 5)] (by
     intro H' X F hle; have hL := Le.trans hL hle; intro hF; refine Qf rfl rfl rfl (Qk 1 0 rfl rfl rfl rfl rfl ?_)
     exact Qd hF) ?_
    refine Qa (some 25) [(11, 0), (5, 6)] (by
     intro H' X F hle; have hL := Le.trans hL hle; intro hF; refine Qf rfl rfl rfl (Qn rfl rfl ?_)
     exact Qd hF) ?_
    refine ⟨by kernel_rfl, .refl _, ?_⟩
    ·
     intro H3 hle; have hL := Le.trans hL hle; have hle0 := Le.trans hle0 hle; have hpx := cel_le hle hpx; have hp := hAt.mono hle hp; have hpr := RdL.mono hle hpr; refine Qw (own' := _ :: _ :: own) rfl ?_; refine Zi (env' := [(1, _), (2, _), (4, _), (6, _), (18, _), (22, _), (25, _)]) ⟨rfl, rfl, rfl, rfl, rfl, rfl, rfl, trivial⟩ ?_; refine Qf rfl rfl rfl (TL.geq rfl rfl rfl ?_)
     rw [decide_eq_false (by omega)]
     refine Qx rfl rfl rfl rfl (Qi (Qc (Qr rfl (Q2 (Qc ?_))))); refine Q4 6  [(1, _), (2, _), (4, _), (6, _)] follows_mixed ⟨rfl, rfl, rfl, rfl, trivial⟩ ?_; refine Qa (some 29) [] (fun _ _ _ _ hF => Qg rfl rfl (Qd hF)) ?_
     refine Qa (some 30) [(0, 0)] (by
      intro H' X F hle; have hL := Le.trans hL hle; intro hF; refine Qk 1 0 rfl rfl rfl rfl rfl ?_
      exact Qd hF) ?_
     refine Qa (some 31) [] (fun _ _ _ _ hF => Qb rfl rfl (Qd hF)) ?_; refine Qa (some 32) [] (fun _ _ _ _ hF => Qb rfl rfl (Qd hF)) ?_; refine Qa (some 33) [(2, 1), (3, 0)] (fun _ _ _ _ hF => Qo (k) rfl rfl rfl (by omega) rfl (Qd hF)) ?_
     refine Qa (some 34) [(4, 0)] (by
      intro H' X F hle; have hL := Le.trans hL hle; have hpx := cel_le hle hpx; intro hF; refine Qp rfl (hpx) rfl ?_
      exact Qd hF) ?_
     refine ⟨by kernel_rfl, .refl _, ?_⟩
     ·
      intro H4 hle; have hL := Le.trans hL hle; have hle0 := Le.trans hle0 hle; have hp := hAt.mono hle hp; have hpr := RdL.mono hle hpr; refine Qw (own' := _ :: _ :: own) rfl ?_; refine Zi (env' := [(1, _), (2, _), (4, _), (6, _), (30, _), (34, _)]) ⟨rfl, rfl, rfl, rfl, rfl, rfl, trivial⟩ ?_; refine Qo (x.toNat) rfl rfl (by omega) (by omega) rfl ?_; refine Zd rfl (hp) rfl rfl ?_; refine Qq 1 0 (c' := #[_, _]) (own' := _ :: [(_, .cells #[_, _] _ _)] :: _) rfl rfl rfl rfl rfl (tr_ones hpr) (by simp) rfl rfl rfl (Qi (Ze (Qc (Qh (Qb rfl rfl ?_))))); refine Zb rfl rfl rfl ⟨by omega, by omega⟩ (Qe rfl rfl (Qi ?_)); refine Zn (own' := _ :: _ :: own) rfl ?_
      refine Zf (p.length - (k + 1)) [(1, _), (2, _), (4, _), (6, _)] (by omega) ⟨rfl, rfl, rfl, rfl, trivial⟩ ⟨k + 1, y, p0, p1, rfl, by omega, ?_, hpr, by simp, rfl, hle0⟩
      rw [List.take_add_one, hx, subI_app, hsub]
      simp only [Option.toList_some, Option.bind_some, subI, if_neg (show ¬ x < 0 by omega), hy]
  ·
   refine Qi (Qc (Qr rfl (Zo (Q1 (Q1 ?_))))); refine Zp (Zm ?_); refine Qm 1 0 [_, _] rfl rfl rfl ⟨rfl, rfl, trivial⟩ rfl rfl ?_; refine Qq 0 0 (c' := #[_, _]) (own' := [(_, .cells #[_, _] _ _)] :: _) rfl rfl rfl rfl rfl (tr_ones hrd1) (by simp) rfl rfl rfl (Qe rfl rfl (Qi (Qc (Qy ?_)))); refine Zw 0 0 2 [_, _] rfl rfl rfl rfl rfl ⟨rfl, rfl, trivial⟩ rfl rfl ?_
   rw [List.take_of_length_le (by omega)] at hsub
   exact ⟨.inr ⟨s1, _, _, hsub, rfl, hrd1⟩, rfl, hL⟩

end Go.Proofs.YtaomdfcplamenaaGreatDoor.K

namespace Go.Proofs.YtaomdfcplamenaaGreatDoor.K
open Go Go.RowKit Go.Proofs

section
variable {P : Program} {w0 : World} {N : Nat} {Q : Exit → Act → World → Prop} {env : Env} {own : List Seg} {H : Hp} {ops : Array Oper} {rest : List Oper}
variable {d : Option Tmp} {ty : TypeId} {pos : String} {af : Array Edge}
theorem run_copy_gen {w : World} {t e : TypeId} {sz by_ : Nat} {z : Value} (hU : Sl P t e sz by_ z) {g o dn dk m k : Nat} {A : Option Addr} {c : Array Value} {e' : TypeId} (hb : w.heap[g]? = some (.cells c e' (0, 0))) {news : List Value}
    (hl : news.length = Nat.min m dn * sz) (h1 : ∀ u ∈ news, u.oneCell' = true) (hs : (Nat.min m dn = 0 ∧ news = []) ∨ ∃ b q, A = some ⟨b, q, none⟩ ∧ ∀ j u, news[j]? = some u → w.cell? ⟨b, q + j, none⟩ = some u) (hf : o + news.length ≤ c.size) :
    (Builtin.copy_ #[t, t] ty #[.slice (some ⟨g, o, none⟩) dn dk, .slice A m k]).run P w = .ok (goInt (Nat.min m dn)) (w.setRow g (putC c o news)) := by
  have hsz := hU.sizeOf w
  have hst := run_storeCells (P := P) g o e' news 0 c w hb (by simpa using hf) h1
  simp only [Nat.add_zero] at hst
  have hfc : (Builtin.firstCells sz (Nat.min m dn) (.slice A m k)).run P w = .ok news.toArray w := by
    rcases hs with ⟨h0, rfl⟩ | ⟨b, q, rfl, hs⟩
    · cases A with
      | none => rfl
      | some a =>
        simp only [Builtin.firstCells, h0, Nat.zero_mul]
        exact run_loadCells_list (P := P) w a [] (by simp)
    · simp only [Builtin.firstCells]
      rw [← hl]
      exact run_loadCells_list (P := P) w ⟨b, q, none⟩ news (fun j v hj => by rw [Addr.add_lit]; exact hs j v hj)
  simp [Builtin.copy_, run_underlying hU.und, Builtin.lenOf, hsz, hfc, hst]
theorem TL.copy (i j : Nat) {t e : TypeId} {x y : Operand} {g o dn dk m k : Nat} {A : Option Addr} {seg : Seg} {c : Array Value} {e' : TypeId} {sz by_ : Nat} {z : Value} [hU : Sl P t e sz by_ z] (hx : ev env x = some (.slice (some ⟨g, o, none⟩) dn dk)) (hy : ev env y = some (.slice A m k))
    (hi : own[i]? = some seg) (hj : seg[j]? = some (g, .cells c e' (0, 0))) {news : List Value} (hs : Src w0 H own A sz (Nat.min m dn) news) (hf : o + news.length ≤ c.size) (hd : okD N d = true)
    (h : TL P w0 N Q ops rest (putE d (.int .i64 ((Nat.min m dn : Nat) : Int)) env) (own.set i (seg.set j (g, .cells (putC c o news) e' (0, 0)))) H) :
    TL P w0 N Q ops ({ dst := d, op := .call { callee := .builtin .copy, args := #[x, y], argTypes := #[t, t] }, type := ty, pos := pos, after := af, guard := none } :: rest) env own H :=
  TL.val rfl hd (fun a w ha hw => ⟨w.setRow g (putC c o news), by
    have hsr : (Nat.min m dn = 0 ∧ news = []) ∨ ∃ b q, A = some ⟨b, q, none⟩ ∧ ∀ j u, news[j]? = some u → w.cell? ⟨b, q + j, none⟩ = some u := by
      rcases hs.2.2 with h0 | ⟨b, q, hA, h1⟩
      · exact .inl h0
      · exact .inr ⟨b, q, hA, h1 w hw⟩
    have hr := run_copy_gen (P := P) (ty := ty) (dk := dk) (k := k) hU (hw.own_blk hi hj) hs.1 hs.2.1 hsr hf
    simp [execOp, resolve, invoke, builtin, ha.ev hx, ha.ev hy, hr, goInt], hw.setRow hi hj⟩) h
theorem TL.cap {t e : TypeId} {x : Operand} {A : Option Addr} {n c : Nat} [hu : Und P t (.slice e)] (hx : ev env x = some (.slice A n c)) (hd : okD N d = true)
    (h : TL P w0 N Q ops rest (putE d (.int .i64 (c : Int)) env) own H) :
    TL P w0 N Q ops ({ dst := d, op := .call { callee := .builtin .cap, args := #[x], argTypes := #[t] }, type := ty, pos := pos, after := af, guard := none } :: rest) env own H :=
  Zt hd (fun a ha w => by
    simp [execOp, resolve, invoke, builtin, Builtin.cap_, ha.ev hx, run_underlying hu.eq, goInt]) h
/-- append(s[:i], make(n)...) where there is no room: a new row. -/
theorem TL.appendZ (k j : Nat) {t tn e : TypeId} {kn kq : IntKind} {x y : Operand} {g i c q : Nat} {zq : Int} {seg : Seg} {cur : Array Value} {e' : TypeId} {fz : Nat × Nat} {sz by_ : Nat} {z : Value} [hU : Sl P t e sz by_ z] [hn : Und P tn (.int kn)]
    (hx : ev env x = some (.slice (some ⟨g, 0, none⟩) i c)) (hy : ev env y = some (.int kq zq)) (hq : zq = (q : Int)) (h0 : 0 < q) (hi : own[k]? = some seg) (hj : seg[j]? = some (g, .cells cur e' fz)) (hl : i * sz ≤ cur.size) (hg : c < i + q)
    (h63 : i + q ≤ 9223372036854775807) (hbytes : (i + q) * by_ ≤ 140737488355328) (hd : okD N d = true)
    (h : ∀ g' cur' c', cur'.size = c' * sz → i + q ≤ c' → c' ≤ maxLen → cur'.toList.take (i * sz) = cur.toList.take (i * sz) → TL P w0 N Q ops rest (putE d (.slice (some ⟨g', 0, none⟩) (i + q) c') env) ([(g', .cells cur' e (0, 0))] :: own) H) :
    TL P w0 N Q ops ({ dst := d, op := .call { callee := .builtin .append, args := #[x, y], argTypes := #[t, tn] }, type := ty, pos := pos, after := af, guard := none } :: rest) env own H :=
  TL.valE (φ := fun v own' H' => ∃ g' cur' c', v = .slice (some ⟨g', 0, none⟩) (i + q) c' ∧ cur'.size = c' * sz ∧ i + q ≤ c' ∧ c' ≤ maxLen ∧ cur'.toList.take (i * sz) = cur.toList.take (i * sz) ∧ own' = [(g', .cells cur' e (0, 0))] :: own ∧ H' = H) rfl hd
    (fun a w ha hw => by
      subst hq
      obtain ⟨ii, hii, hz, hs, hb⟩ := hU.ex
      have hblk := hw.own_blk hi hj
      obtain ⟨olds, ho⟩ : ∃ olds, olds = cur.toList.take (i * sz) := ⟨_, rfl⟩
      have hll : olds.length = i * sz := by rw [ho, List.length_take, Array.length_toList]; omega
      have hold : (Builtin.firstCells ii.size i (.slice (some ⟨g, 0, none⟩) i c)).run P w.drew = .ok olds.toArray w.drew := by
        rw [hs]
        simp only [Builtin.firstCells]
        rw [← hll]
        refine run_loadCells_list (P := P) w.drew ⟨g, 0, none⟩ _ (fun m u hm => ?_)
        rw [Addr.add_lit, World.cell?_drew, cell_of_cells hblk]
        rw [ho, List.getElem?_take] at hm
        split at hm
        · simpa using hm
        · cases hm
      have hfit := growslice_fits (need := i + q) (old := c) (bytes := ii.bytes) hg (by rw [hb]; exact hbytes)
      have hr := Lib.run_append_grow_zeros (P := P) w t tn ty e ii z kq kn hU.und hn.eq hii hz (some ⟨g, 0, none⟩) i c olds hold q h0 (by rw [hs]; exact hU.pos) hg (by omega) (by
        have := Nat.mul_le_mul_right by_ (show q ≤ i + q by omega)
        rw [hb]; omega) hfit
      obtain ⟨cells, hc⟩ : ∃ cells, cells = olds.toArray ++ Builtin.zeroCells z.cells q ++ Builtin.zeroCells z.cells (grownCap w (i + q) c e - (i + q)) := ⟨_, rfl⟩
      rw [← hc] at hr
      refine ⟨.slice (some ⟨w.heap.size, 0, none⟩) (i + q) (grownCap w (i + q) c e), [(w.heap.size, .cells cells e (0, 0))] :: own, H, w.drew.alloc (.cells cells e), by simp [execOp, resolve, invoke, builtin, ha.ev hx, ha.ev hy, hr],
        ⟨w.heap.size, cells, _, rfl, ?_, grownCap_ge w (i + q) c e, grownCap_le_maxLen w (i + q) c e (by show _ ≤ 9223372036854775807; exact h63), ?_, rfl, rfl⟩, hw.drew.new _⟩
      · have hge := grownCap_ge w (i + q) c e
        have h2 : ∀ m, (Builtin.zeroCells z.cells m).size = m * sz := fun m => by simp [Builtin.zeroCells, hU.zs]
        rw [hc]
        simp only [Array.size_append, List.size_toArray, hll, h2]
        rw [← Nat.add_mul, ← Nat.add_mul]
        congr 1
        omega
      · rw [hc]
        simp only [Array.toList_append, List.append_assoc]
        rw [← ho, ← hll]
        exact List.take_left)
    (by rintro v own' H' ⟨g', cur', c', rfl, h1, h2, h3, h4, rfl, rfl⟩; exact h g' cur' c' h1 h2 h3 h4)
end
theorem St.own_ne {w0 w : World} {H : Hp} {own : List Seg} (h : St w0 H own w) {i i' j j' : Nat} {seg seg' : Seg} {p p' : Nat × Obj} (hi : own[i]? = some seg) (hi' : own[i']? = some seg') (hj : seg[j]? = some p) (hj' : seg'[j']? = some p') (hne : i ≠ i') : p.1 ≠ p'.1 := by
  have hn := h.nodup
  rw [List.map_flatten, List.Nodup, List.pairwise_flatten] at hn
  have h2 := hn.2
  rw [List.pairwise_map, List.pairwise_iff_getElem] at h2
  obtain ⟨l1, rfl⟩ := List.getElem?_eq_some_iff.1 hi
  obtain ⟨l2, rfl⟩ := List.getElem?_eq_some_iff.1 hi'
  have m1 := List.mem_map_of_mem (f := fun (x : Nat × Obj) => x.1) (List.mem_of_getElem? hj)
  have m2 := List.mem_map_of_mem (f := fun (x : Nat × Obj) => x.1) (List.mem_of_getElem? hj')
  rcases Nat.lt_or_ge i i' with hlt | hge
  · exact h2 i i' l1 l2 hlt _ m1 _ m2
  · exact fun e => h2 i' i l2 l1 (by omega) _ m2 _ m1 e.symm
theorem cells0 {w0 w : World} {H : Hp} {own : List Seg} (h : St w0 H own w) {i j : Nat} {seg : Seg} {g : Nat} {c : Array Value} {e : TypeId} (hi : own[i]? = some seg) (hj : seg[j]? = some (g, .cells c e (0, 0))) : w.shape? g = some (e, c.size) ∧ ∀ o, w.frozen? ⟨g, o, none⟩ = false := by
  have hb := h.own_blk hi hj
  refine ⟨by simp [World.shape?, hb], fun o => ?_⟩
  simp [World.frozen?, hb]
theorem TL.overlaps (i j i' j' : Nat) {w0 : World} {N : Nat} {Q : Exit → Act → World → Prop} {env : Env} {own : List Seg} {H : Hp} {ops : Array Oper} {rest : List Oper} {d : Option Tmp} {ty : TypeId} {pos : String} {af : Array Edge} {tys : Array TypeId}
    {x y : Operand} {g1 o1 m1 k1 g2 o2 m2 k2 : Nat} {seg seg' : Seg} {c c' : Array Value} {e e' : TypeId} (hx : ev env x = some (.slice (some ⟨g1, o1, none⟩) m1 k1)) (hy : ev env y = some (.slice (some ⟨g2, o2, none⟩) m2 k2))
    (hi : own[i]? = some seg) (hj : seg[j]? = some (g1, .cells c e (0, 0))) (hi' : own[i']? = some seg') (hj' : seg'[j']? = some (g2, .cells c' e' (0, 0))) (hne : i ≠ i') (hc : c'.size ≠ 0) (hd : okD N d = true)
    (h : TL Tryz.prog w0 N Q ops rest (putE d (.bool false) env) own H) :
    TL Tryz.prog w0 N Q ops ({ dst := d, op := .call { callee := .value (.func 69), args := #[x, y], argTypes := tys }, type := ty, pos := pos, after := af, guard := none } :: rest) env own H :=
  TL.val rfl hd (fun a w ha hw => ⟨w, by
    obtain ⟨s1, f1⟩ := cells0 hw hi hj
    obtain ⟨s2, f2⟩ := cells0 hw hi' hj'
    have hov : (callFunc 69 #[.slice (some ⟨g1, o1, none⟩) m1 k1, .slice (some ⟨g2, o2, none⟩) m2 k2]).run Tryz.prog w = .ok (.value (.bool false)) w := by
      have hU : Sl Tryz.prog 24 26 _ _ _ := inferInstance
      rw [run_callFunc_extern Tryz.func69 (by kernel_rfl) (by kernel_rfl) (by kernel_rfl) (e := Extern.SlicesOverlaps.overlaps #[24, 24] #[4]) (by kernel_rfl),
        Lib.run_overlaps_apart w 24 4 26 hU.und _ hU.sizeOf ⟨g1, o1, none⟩ ⟨g2, o2, none⟩ m1 k1 m2 k2 (hw.own_ne hi hi' hj hj' hne) e e' c.size c'.size s1 s2 hc (f1 _) (f1 _)]
      rfl
    have hev : a.eval (.func 69) = .func (.func 69) #[] #[] := rfl
    simp [execOp, resolve, Deferred.ofValue, invoke, hev, ha.ev hx, ha.ev hy, hov], hw⟩) h
end Go.Proofs.YtaomdfcplamenaaGreatDoor.K

namespace Go.Proofs.YtaomdfcplamenaaGreatDoor.K
open Go Go.RowKit Go.Proofs

theorem putC_split : ∀ (vs : List Value) (c : Array Value) (o : Nat), o + vs.length ≤ c.size → (putC c o vs).toList = c.toList.take o ++ vs ++ c.toList.drop (o + vs.length)
  | [], c, o, _ => by simp [putC]
  | v :: r, c, o, h => by
    simp only [List.length_cons] at h
    have ih := putC_split r (c.setIfInBounds o v) (o + 1) (by simp; omega)
    simp only [putC, ih, Array.toList_setIfInBounds]
    have := list_seg_step c.toList o v r (by rw [Array.length_toList]; omega)
    rw [this]
    simp
theorem cAt_of {c : Array Value} : ∀ {vs : List Value} {o : Nat}, (∀ j u, vs[j]? = some u → c[o + j]? = some u) → cAt c o vs
  | [], _, _ => trivial
  | v :: r, o, h => by
    refine ⟨?_, cAt_of fun j u hj => ?_⟩
    · rw [lget_eq, Array.getElem?_toList]; exact h 0 v rfl
    · have := h (j + 1) u (by simpa using hj)
      rw [show o + 1 + j = o + (j + 1) by omega]; exact this
theorem Row.sl {e : TypeId} {sz : Nat} {v : Value} {n : Nat} {xs : List Value} {seg : Seg} (h : Row e sz v n xs seg) : ∃ A c, v = .slice A n c ∧ n ≤ c ∧ c ≤ 9223372036854775807 := by
  rcases h.2 with ⟨rfl, rfl, _⟩ | ⟨g, cap, cur, rfl, _, h1, h2, _⟩
  · exact ⟨_, _, rfl, by omega, by omega⟩
  · exact ⟨_, _, rfl, h1, by simpa [maxLen] using h2⟩
theorem Row.blk {e : TypeId} {sz : Nat} {A : Option Addr} {m c : Nat} {n : Nat} {xs : List Value} {seg : Seg} (h : Row e sz (.slice A m c) n xs seg) (hn : 0 < n) : ∃ g cur, A = some ⟨g, 0, none⟩ ∧ seg = [(g, .cells cur e (0, 0))] ∧ cur.size = c * sz ∧ cur.toList.take (n * sz) = xs ∧ xs.length = n * sz := by
  rcases h.2 with ⟨_, rfl, _⟩ | ⟨g, cap, cur, e1, rfl, h1, h2, h3, h4⟩
  · omega
  · injection e1 with e1 e2 e3
    subst e1 e3
    exact ⟨g, cur, rfl, rfl, h3, h4, h.1⟩
section
variable {P : Program} {w0 : World} {N : Nat} {Q : Exit → Act → World → Prop} {env : Env} {own : List Seg} {H : Hp} {ops : Array Oper} {rest : List Oper}
variable {d : Option Tmp} {ty : TypeId} {pos : String} {af : Array Edge}
/-- A slice of a block, not at its very end. -/
theorem TL.sliceB {t e : TypeId} {x : Operand} {lo hi : Option Operand} {g o n c : Nat} {sz by_ : Nat} {z : Value} {li ri : Option Int} (l r : Nat) (hx : ev env x = some (.slice (some ⟨g, o, none⟩) n c)) [hU : Sl P t e sz by_ z]
    (h1 : optI env lo li) (h2 : optI env hi ri) (hl : li.getD 0 = (l : Int)) (hr : ri.getD (n : Int) = (r : Int)) (hlr : l ≤ r) (hrc : r ≤ c) (hlc : l < c) (hd : okD N d = true)
    (h : TL P w0 N Q ops rest (putE d (.slice (some ⟨g, o + l * sz, none⟩) (r - l) (c - l)) env) own H) :
    TL P w0 N Q ops ({ dst := d, op := .slice t x lo hi none, type := ty, pos := pos, after := af, guard := none } :: rest) env own H :=
  Z3 l r hx h1 h2 hl hr hlr hrc hd (by rw [if_neg (by omega), Option.map_some, add_off]; exact h)
end
/-- The cells after one has been put in, in a new block. -/
theorem ins_new {cur9 cur : Array Value} {xs : List Value} {n i c9 : Nat} {c0 c1 : Value} (hs : cur9.size = c9 * 2) (hc : n + 1 ≤ c9) (hi : i ≤ n) (hx : xs.length = n * 2) (ht : cur9.toList.take (i * 2) = cur.toList.take (i * 2)) (hcx : cur.toList.take (n * 2) = xs) :
    (putC (putC cur9 (i * 2) [c0, c1]) ((i + 1) * 2) (xs.drop (i * 2))).toList.take ((n + 1) * 2) = xs.take (i * 2) ++ [c0, c1] ++ xs.drop (i * 2) := by
  have h0 : cur9.toList.take (i * 2) = xs.take (i * 2) := by rw [ht, ← hcx, List.take_take, Nat.min_eq_left (by omega)]
  have hl0 : (xs.take (i * 2)).length = i * 2 := by rw [List.length_take]; omega
  rw [putC_split _ _ _ (by rw [putC_size, List.length_drop]; omega), putC_split _ _ _ (by simp; omega), h0]
  have e1 : (xs.take (i * 2) ++ [c0, c1] ++ cur9.toList.drop (i * 2 + [c0, c1].length)).take ((i + 1) * 2) = xs.take (i * 2) ++ [c0, c1] := by
    rw [List.take_append_of_le_length (by simp; omega), List.take_of_length_le (by simp; omega)]
  rw [e1]
  rw [List.take_append_of_le_length (by simp; omega), List.take_of_length_le (by simp; omega)]
/-- The same in the block itself. -/
theorem ins_in {cur : Array Value} {xs : List Value} {n i c : Nat} {c0 c1 : Value} (hs : cur.size = c * 2) (hc : n + 1 ≤ c) (hi : i ≤ n) (hx : xs.length = n * 2) (hcx : cur.toList.take (n * 2) = xs) :
    (putC (putC cur ((i + 1) * 2) (xs.drop (i * 2))) (i * 2) [c0, c1]).toList.take ((n + 1) * 2) = xs.take (i * 2) ++ [c0, c1] ++ xs.drop (i * 2) := by
  have hl0 : (xs.take (i * 2)).length = i * 2 := by rw [List.length_take]; omega
  rw [putC_split _ _ _ (by rw [putC_size]; simp; omega), putC_split _ _ _ (by rw [List.length_drop]; omega)]
  have e1 : (cur.toList.take ((i + 1) * 2) ++ xs.drop (i * 2) ++ cur.toList.drop ((i + 1) * 2 + (xs.drop (i * 2)).length)).take (i * 2) = xs.take (i * 2) := by
    rw [List.append_assoc, List.take_append_of_le_length (by simp; omega), List.take_take, Nat.min_eq_left (by omega), ← hcx, List.take_take, Nat.min_eq_left (by omega)]
  have e2 : (cur.toList.take ((i + 1) * 2) ++ xs.drop (i * 2) ++ cur.toList.drop ((i + 1) * 2 + (xs.drop (i * 2)).length)).drop (i * 2 + [c0, c1].length) = xs.drop (i * 2) ++ cur.toList.drop ((i + 1) * 2 + (xs.drop (i * 2)).length) := by
    have hl : (cur.toList.take ((i + 1) * 2)).length = i * 2 + [c0, c1].length := by simp; omega
    rw [← hl, List.append_assoc, List.drop_left]
  rw [e1, e2, ← List.append_assoc]
  rw [List.take_append_of_le_length (by simp; omega), List.take_of_length_le (by simp; omega)]
end Go.Proofs.YtaomdfcplamenaaGreatDoor.K

namespace Go.Proofs.YtaomdfcplamenaaGreatDoor.K
open Go Go.RowKit Go.Proofs

theorem insert_row {n i : Nat} (hi : i ≤ n) (hn : n ≤ 1000000) {xs : List Value} {v c0 c1 : Value} {seg : Seg} (hrow : Row 26 2 v n xs seg) (h1 : Ones [c0, c1]) (hone : ∀ u ∈ xs.drop (i * 2), u.oneCell' = true) {w0 : World} {H : Hp} {own : List Seg} {gv : Nat} :
    Fn Tryz.prog 53 [v, .int .i64 (i : Int), .slice (some ⟨gv, 0, none⟩) 1 1] w0 H (seg :: [(gv, .cells #[c0, c1] 26 (0, 0))] :: own)
      (fun r own' H' => ∃ seg', Row 26 2 r (n + 1) (xs.take (i * 2) ++ [c0, c1] ++ xs.drop (i * 2)) seg' ∧ own' = seg' :: own ∧ Le H H') := by
  obtain ⟨A, c, rfl, hnc, hc63⟩ := hrow.sl
  have hxl := hrow.1; refine Fn.enter Tryz.func53 rfl Tryz.ntmps53 rfl ?_; have hL := Le.refl H; refine Qj (Qh (Qe rfl rfl (Qi (Qc (Qj ?_)))))
  have hcase : i = n ∨ (i < n ∧ n + 1 ≤ c) ∨ (i < n ∧ c < n + 1) := by omega
  rcases hcase with hin | ⟨hin, hrm⟩ | ⟨hin, hrm⟩
  ·
   refine Qh (Qb rfl rfl (Qb rfl rfl ?_)); refine Z3 (i) (n) rfl ⟨_, _, rfl, rfl⟩ rfl rfl rfl (by omega) (by omega) rfl (Q3 (Qb rfl rfl (Qn rfl rfl (Qe rfl rfl (Qi ?_))))); refine Qc (Qj (Qj (Qh (Qb rfl rfl (Za rfl rfl rfl ?_)))))
   rw [decide_eq_false (by omega)]
   refine Qi (Qc (Qr rfl (Q2 (Zm (Qb rfl rfl ?_))))); refine Qn rfl rfl (Qe rfl rfl (Qi (Qc (Qj (Qj ?_))))); refine Qh (Qb rfl rfl (Qb rfl rfl (Za rfl rfl rfl ?_)))
   rw [decide_eq_true (by omega)]
   refine Qi (Qc (Qv rfl (Qj (Qh (Qb rfl rfl ?_))))); refine Qb rfl rfl ?_; refine Zh 0 rfl rfl rfl hrow (Src.ofOwn 1 0 rfl rfl rfl (Ones.all h1) ⟨rfl, rfl, trivial⟩) (by omega) (by omega) rfl ?_; intro v' seg' hrow'; refine Qe rfl rfl (Qi (Qc (Qy (Q0 ?_))))
   refine Zj 2 [0] rfl (fun o ho => ?_)
   simp only [K.sel, nrm] at ho; subst ho
   refine Q5 0 rfl rfl ?_
   refine ⟨seg', ?_, rfl, hL⟩
   rw [List.take_of_length_le (by omega), List.drop_of_length_le (by omega), List.append_nil]
   exact hrow'
  ·
   obtain ⟨g0, cur, rfl, rfl, hcs, hct, _⟩ := hrow.blk (by omega)
   have hdl : (xs.drop (i * 2)).length = (n - i) * 2 := by rw [List.length_drop, hxl]; omega
   have hd1 : ∀ u ∈ xs.drop (i * 2), u.oneCell' = true := hone
   have hcat : cAt cur (0 + i * 2) (xs.drop (i * 2)) := cAt_of fun j u hj => by
     rw [List.getElem?_drop, ← hct, List.getElem?_take] at hj
     split at hj
     · rw [← Array.getElem?_toList, Nat.zero_add]; exact hj
     · cases hj
   have hm1 : Nat.min 1 (n + 1 - i) = 1 := Nat.min_eq_left (by omega)
   have hm2 : Nat.min (n - i) (n + 1 - (i + 1)) = n - i := Nat.min_eq_left (by omega)
   have hm3 : Nat.min (n + 1 - i) (n + 1 - (i + 1)) = n - i := by show min _ _ = _; omega
   refine Qh (Qb rfl rfl (Qb rfl rfl ?_)); refine Z3 (i) (n) rfl ⟨_, _, rfl, rfl⟩ rfl rfl rfl (by omega) (by omega) rfl (Q3 (Qb rfl rfl (Qn rfl rfl (Qe rfl rfl (Qi ?_))))); refine Qc (Qj (Qj (Qh (Qb rfl rfl (Za rfl rfl rfl ?_)))))
   rw [decide_eq_false (by omega)]
   refine Qi (Qc (Qr rfl (Q2 (Zm (Qb rfl rfl ?_))))); refine Qn rfl rfl (Qe rfl rfl (Qi (Qc (Qj (Qj ?_))))); refine Qh (Qb rfl rfl (Qb rfl rfl (Za rfl rfl rfl ?_)))
   rw [decide_eq_false (by omega)]
   refine Qi (Qc (Qr rfl (Q2 (Qc (Qj ?_))))); refine Qj (Qh (Qb rfl rfl (Qb rfl rfl ?_))); refine Zb rfl rfl rfl ⟨by omega, by omega⟩ (Qb rfl rfl (TL.cap rfl rfl (TL.gtr rfl rfl rfl ?_)))
   rw [decide_eq_false (by omega)]
   refine Qi (Qc (Qr rfl (Q2 (Zm (Qb rfl rfl ?_))))); refine Qb rfl rfl (Qb rfl rfl ?_); refine Zb rfl rfl rfl ⟨by omega, by omega⟩ ?_; refine TL.sliceB (0) (n + 1) rfl rfl ⟨_, _, rfl, rfl⟩ (by first | rfl | (simp only [Option.getD_some, Option.getD_none]; omega)) (by first | (simp only [Option.getD_some, Option.getD_none]; omega) | (simp only [Option.getD_some, Option.getD_none])) (by omega) (by omega) (by omega) rfl ?_
   refine Qe rfl rfl (Qi (Qc (Qj (Qj (Qh ?_))))); refine Qb rfl rfl (Qb rfl rfl (Qb rfl rfl (Qb rfl rfl ?_))); refine Zb rfl rfl rfl ⟨by omega, by omega⟩ ?_; refine TL.sliceB (i + 1) (n + 1) rfl ⟨_, _, rfl, rfl⟩ rfl (by first | rfl | (simp only [Option.getD_some, Option.getD_none]; omega)) (by first | (simp only [Option.getD_some, Option.getD_none]; omega) | (simp only [Option.getD_some, Option.getD_none])) (by omega) (by omega) (by omega) rfl ?_
   refine TL.overlaps 1 0 0 0 rfl rfl rfl rfl rfl rfl (by omega) (by omega) rfl (Z1 rfl rfl (Qi (Qc (Qv rfl (Qj ?_))))); refine Q4 8  [(0, _), (1, _), (2, _), (6, _), (7, _), (8, _)] follows_mixed ⟨rfl, rfl, rfl, rfl, rfl, rfl, trivial⟩ ?_; refine Qa (some 69) [] (fun _ _ _ _ hF => Qb rfl rfl (Qd hF)) ?_; refine Qa (some 70) [] (fun _ _ _ _ hF => Qb rfl rfl (Qd hF)) ?_; refine Qa (some 71) [] (fun _ _ _ _ hF => Qb rfl rfl (Qd hF)) ?_; refine Qa (some 72) [(1, 1), (2, 0)] (fun _ _ _ _ hF => Zb rfl rfl rfl ⟨by omega, by omega⟩ (Qd hF)) ?_
   refine Qa (some 73) [(0, 3), (3, 0)] (by
    intro H' X F hle; have hL := Le.trans hL hle; intro hF; refine TL.sliceB (i + 1) (n + 1) rfl ⟨_, _, rfl, rfl⟩ rfl (by first | rfl | (simp only [Option.getD_some, Option.getD_none]; omega)) (by first | (simp only [Option.getD_some, Option.getD_none]; omega) | (simp only [Option.getD_some, Option.getD_none])) (by omega) (by omega) (by omega) rfl ?_
    exact Qd hF) ?_
   refine Qa (some 74) [] (fun _ _ _ _ hF => Qb rfl rfl (Qd hF)) ?_; refine Qa (some 75) [] (fun _ _ _ _ hF => Qb rfl rfl (Qd hF)) ?_
   refine Qa (some 76) [(5, 1), (6, 0)] (by
    intro H' X F hle; have hL := Le.trans hL hle; intro hF; refine TL.sliceB (i) (n + 1) rfl ⟨_, _, rfl, rfl⟩ rfl (by first | rfl | (simp only [Option.getD_some, Option.getD_none]; omega)) (by first | (simp only [Option.getD_some, Option.getD_none]; omega) | (simp only [Option.getD_some, Option.getD_none])) (by omega) (by omega) (by omega) rfl ?_
    exact Qd hF) ?_
   refine ⟨by kernel_rfl, .refl _, ?_⟩
   ·
    intro H1 hle; have hL := Le.trans hL hle; refine Qw (own' := _ :: _ :: own) rfl ?_; refine Zi (env' := [(0, _), (1, _), (2, _), (6, _), (7, _), (8, _), (73, _), (76, _)]) ⟨rfl, rfl, rfl, rfl, rfl, rfl, rfl, rfl, trivial⟩ ?_; refine TL.copy (news := xs.drop (i * 2)) 0 0 rfl rfl rfl rfl (Src.ofOwn 0 0 rfl rfl (by rw [hm3]; exact hdl) hd1 hcat) (by rw [hdl]; omega) rfl ?_
    refine Qw (own' := [(g0, .cells (putC cur (0 + (i + 1) * 2) (xs.drop (i * 2))) 26 (0, 0))] :: _ :: own) rfl (Q3 (Qb rfl rfl (Qb rfl rfl ?_))); refine TL.sliceB (i) (n + 1) rfl ⟨_, _, rfl, rfl⟩ rfl (by first | rfl | (simp only [Option.getD_some, Option.getD_none]; omega)) (by first | (simp only [Option.getD_some, Option.getD_none]; omega) | (simp only [Option.getD_some, Option.getD_none])) (by omega) (by omega) (by omega) rfl ?_
    refine Qb rfl rfl ?_; refine TL.copy (news := [c0, c1]) 0 0 rfl rfl rfl rfl (Src.ofOwn 1 0 rfl rfl (by rw [hm1]; rfl) (Ones.all h1) ⟨rfl, rfl, trivial⟩) (by rw [putC_size]; simp only [List.length_cons, List.length_nil]; omega) rfl ?_
    refine Qw (own' := [(g0, .cells (putC (putC cur (0 + (i + 1) * 2) (xs.drop (i * 2))) (0 + i * 2) [c0, c1]) 26 (0, 0))] :: _ :: own) rfl (Q3 (Qb rfl rfl (Qe rfl rfl (Qi (Qc ?_))))); refine Qy (Q0 ?_)
    refine Zj 2 [0] rfl (fun o ho => ?_)
    simp only [K.sel, nrm] at ho; subst ho
    refine Q5 0 rfl rfl ?_
    refine ⟨_, ⟨by simp; omega, .inr ⟨g0, c, _, rfl, rfl, hrm, by simpa [maxLen] using hc63, by rw [putC_size, putC_size]; exact hcs, ?_⟩⟩, rfl, hL⟩
    simp only [Nat.zero_add]
    exact ins_in hcs hrm hi hxl hct
  ·
   obtain ⟨g0, cur, rfl, rfl, hcs, hct, _⟩ := hrow.blk (by omega)
   have hdl : (xs.drop (i * 2)).length = (n - i) * 2 := by rw [List.length_drop, hxl]; omega
   have hd1 : ∀ u ∈ xs.drop (i * 2), u.oneCell' = true := hone
   have hcat : cAt cur (0 + i * 2) (xs.drop (i * 2)) := cAt_of fun j u hj => by
     rw [List.getElem?_drop, ← hct, List.getElem?_take] at hj
     split at hj
     · rw [← Array.getElem?_toList, Nat.zero_add]; exact hj
     · cases hj
   have hm1 : Nat.min 1 (n + 1 - i) = 1 := Nat.min_eq_left (by omega)
   have hm2 : Nat.min (n - i) (n + 1 - (i + 1)) = n - i := Nat.min_eq_left (by omega)
   have hm3 : Nat.min (n + 1 - i) (n + 1 - (i + 1)) = n - i := by show min _ _ = _; omega
   refine Qh (Qb rfl rfl (Qb rfl rfl ?_)); refine Z3 (i) (n) rfl ⟨_, _, rfl, rfl⟩ rfl rfl rfl (by omega) (by omega) rfl (Q3 (Qb rfl rfl (Qn rfl rfl (Qe rfl rfl (Qi ?_))))); refine Qc (Qj (Qj (Qh (Qb rfl rfl (Za rfl rfl rfl ?_)))))
   rw [decide_eq_false (by omega)]
   refine Qi (Qc (Qr rfl (Q2 (Zm (Qb rfl rfl ?_))))); refine Qn rfl rfl (Qe rfl rfl (Qi (Qc (Qj (Qj ?_))))); refine Qh (Qb rfl rfl (Qb rfl rfl (Za rfl rfl rfl ?_)))
   rw [decide_eq_false (by omega)]
   refine Qi (Qc (Qr rfl (Q2 (Qc (Qj ?_))))); refine Qj (Qh (Qb rfl rfl (Qb rfl rfl ?_))); refine Zb rfl rfl rfl ⟨by omega, by omega⟩ (Qb rfl rfl (TL.cap rfl rfl (TL.gtr rfl rfl rfl ?_)))
   rw [decide_eq_true (by omega)]
   refine Qi (Qc (Qv rfl (Qj (Qh (Qb rfl rfl ?_))))); refine Qb rfl rfl ?_; refine TL.sliceB (0) (i) rfl rfl ⟨_, _, rfl, rfl⟩ (by first | rfl | (simp only [Option.getD_some, Option.getD_none]; omega)) (by first | (simp only [Option.getD_some, Option.getD_none]; omega) | (simp only [Option.getD_some, Option.getD_none])) (by omega) (by omega) (by omega) rfl ?_
   refine Qb rfl rfl (Qb rfl rfl ?_); refine Zb rfl rfl rfl ⟨by omega, by omega⟩ (Qb rfl rfl ?_); refine Zu rfl rfl rfl ⟨by omega, by omega⟩ ?_; refine TL.appendZ (i := i) (c := c) (q := n + 1 - i) 0 0 rfl rfl (by omega) (by omega) rfl rfl (by omega) (by omega) (by omega) (by omega) rfl ?_; intro g9 cur9 c9 hs9 hc91 hc92 ht9; refine Qe rfl rfl (Q3 (Qb rfl rfl (Qb rfl rfl ?_))); refine TL.sliceB (i) (i + (n + 1 - i)) rfl ⟨_, _, rfl, rfl⟩ rfl (by first | rfl | (simp only [Option.getD_some, Option.getD_none]; omega)) (by first | (simp only [Option.getD_some, Option.getD_none]; omega) | (simp only [Option.getD_some, Option.getD_none])) (by omega) (by omega) (by omega) rfl ?_
   refine Qb rfl rfl ?_; refine TL.copy (news := [c0, c1]) 0 0 rfl rfl rfl rfl (Src.ofOwn 2 0 rfl rfl (by first | (rw [hm1]; done) | (rw [show i + (n + 1 - i) - i = n + 1 - i by omega, hm1]; done) | (rw [show i + (n + 1 - i) - i = n + 1 - i by omega, hm1]; rfl)) (Ones.all h1) ⟨rfl, rfl, trivial⟩) (by simp only [List.length_cons, List.length_nil]; omega) rfl ?_
   refine Qw (own' := [(g9, .cells (putC cur9 (0 + i * 2) [c0, c1]) 26 (0, 0))] :: _ :: _ :: own) rfl (Qi (Qc (Qj ?_))); refine Q4 8  [(0, _), (1, _), (2, _), (6, _), (7, _), (8, _), (9, _)] follows_mixed ⟨rfl, rfl, rfl, rfl, rfl, rfl, rfl, trivial⟩ ?_; refine Qa (some 46) [] (fun _ _ _ _ hF => Qb rfl rfl (Qd hF)) ?_; refine Qa (some 47) [] (fun _ _ _ _ hF => Qb rfl rfl (Qd hF)) ?_; refine Qa (some 48) [] (fun _ _ _ _ hF => Qb rfl rfl (Qd hF)) ?_; refine Qa (some 49) [(1, 1), (2, 0)] (fun _ _ _ _ hF => Zb rfl rfl rfl ⟨by omega, by omega⟩ (Qd hF)) ?_
   refine Qa (some 50) [(0, 3), (3, 0)] (by
    intro H' X F hle; have hL := Le.trans hL hle; intro hF; refine TL.sliceB (i + 1) (i + (n + 1 - i)) rfl ⟨_, _, rfl, rfl⟩ rfl (by first | rfl | (simp only [Option.getD_some, Option.getD_none]; omega)) (by first | (simp only [Option.getD_some, Option.getD_none]; omega) | (simp only [Option.getD_some, Option.getD_none])) (by omega) (by omega) (by omega) rfl ?_
    exact Qd hF) ?_
   refine Qa (some 51) [] (fun _ _ _ _ hF => Qb rfl rfl (Qd hF)) ?_; refine Qa (some 52) [] (fun _ _ _ _ hF => Qb rfl rfl (Qd hF)) ?_
   refine Qa (some 53) [(5, 1), (6, 0)] (by
    intro H' X F hle; have hL := Le.trans hL hle; intro hF; refine TL.sliceB (i) (n) rfl ⟨_, _, rfl, rfl⟩ rfl (by first | rfl | (simp only [Option.getD_some, Option.getD_none]; omega)) (by first | (simp only [Option.getD_some, Option.getD_none]; omega) | (simp only [Option.getD_some, Option.getD_none])) (by omega) (by omega) (by omega) rfl ?_
    exact Qd hF) ?_
   refine ⟨by kernel_rfl, .refl _, ?_⟩
   ·
    intro H2 hle; have hL := Le.trans hL hle; refine Qw (own' := _ :: _ :: _ :: own) rfl ?_; refine Zi (env' := [(0, _), (1, _), (2, _), (6, _), (7, _), (8, _), (9, _), (50, _), (53, _)]) ⟨rfl, rfl, rfl, rfl, rfl, rfl, rfl, rfl, rfl, trivial⟩ ?_; refine TL.copy (news := xs.drop (i * 2)) 0 0 rfl rfl rfl rfl (Src.ofOwn 1 0 rfl rfl (by rw [show i + (n + 1 - i) - (i + 1) = n + 1 - (i + 1) by omega, hm2]; exact hdl) hd1 hcat) (by rw [putC_size, hdl]; omega) rfl ?_
    refine Qw (own' := [(g9, .cells (putC (putC cur9 (0 + i * 2) [c0, c1]) (0 + (i + 1) * 2) (xs.drop (i * 2))) 26 (0, 0))] :: _ :: _ :: own) rfl (Q3 (Qb rfl rfl (Qe rfl rfl (Qi (Qc ?_))))); refine Qy (Q0 ?_)
    refine Zj 3 [0] rfl (fun o ho => ?_)
    simp only [K.sel, nrm] at ho; subst ho
    refine Q5 0 rfl rfl ?_
    refine ⟨_, ⟨by simp; omega, .inr ⟨g9, c9, _, ?_, rfl, by omega, hc92, by rw [putC_size, putC_size]; exact hs9, ?_⟩⟩, rfl, hL⟩
    · rw [show i + (n + 1 - i) = n + 1 by omega]
    · simp only [Nat.zero_add]
      exact ins_new hs9 (by omega) hi hxl ht9 hct

end Go.Proofs.YtaomdfcplamenaaGreatDoor.K

namespace Go.Proofs.YtaomdfcplamenaaGreatDoor.K
open Go Go.RowKit Go.Proofs

section
variable {P : Program} {w0 : World} {N : Nat} {Q : Exit → Act → World → Prop} {env : Env} {own : List Seg} {H : Hp} {ops : Array Oper} {rest : List Oper}
variable {d : Option Tmp} {ty : TypeId} {pos : String} {af : Array Edge}
theorem TL.appendRoom (k j : Nat) {t e : TypeId} {x y : Operand} {g n c m k2 b o : Nat} {seg : Seg} {cur : Array Value} {news : List Value} {sz by_ : Nat} {z : Value} [hU : Sl P t e sz by_ z]
    (hx : ev env x = some (.slice (some ⟨g, 0, none⟩) n c)) (hy : ev env y = some (.slice (some ⟨b, o, none⟩) m k2)) (hi : own[k]? = some seg) (hj : seg[j]? = some (g, .cells cur e (0, 0)))
    (hs : Src w0 H own (some ⟨b, o, none⟩) sz m news) (hroom : n + m ≤ c) (hfit : n * sz + news.length ≤ cur.size) (hd : okD N d = true)
    (h : TL P w0 N Q ops rest (putE d (.slice (some ⟨g, 0, none⟩) (n + m) c) env) (own.set k (seg.set j (g, .cells (cur.toList.take (n * sz) ++ news ++ cur.toList.drop (n * sz + news.length)).toArray e (0, 0)))) H) :
    TL P w0 N Q ops ({ dst := d, op := .call { callee := .builtin .append, args := #[x, y], argTypes := #[t, t] }, type := ty, pos := pos, after := af, guard := none } :: rest) env own H :=
  TL.val rfl hd (fun a w ha hw => ⟨_, by
    obtain ⟨ii, hii, _, hsz, _⟩ := hU.ex
    have hnews : ∀ j u, news[j]? = some u → w.cell? ((⟨b, o, none⟩ : Addr).add j) = some u := by
      intro j u hu
      rcases hs.2.2 with ⟨_, h0⟩ | ⟨b', o', e1, h1⟩
      · rw [h0] at hu; simp at hu
      · injection e1 with e1
        injection e1 with e1 e2
        subst e1 e2
        rw [add_off]; exact h1 w hw j u hu
    have hr := run_append_room (P := P) w t ty e ii hU.und hii g n c cur (hw.own_blk hi hj) ⟨b, o, none⟩ m k2 news (by rw [hsz]; exact hs.1) hnews hs.2.1 hroom (by rw [hsz]; exact hfit)
    rw [hsz] at hr
    simp only [execOp, resolve, invoke, builtin, List.map_toArray, List.map_cons, List.map_nil, ha.ev hx, ha.ev hy, Sem.run_bind, Sem.run_pure, Result.andThen_ok, hr], hw.setRow hi hj⟩) h
theorem TL.slice3 {t e : TypeId} {x y1 y2 y3 : Operand} {A : Option Addr} {n c : Nat} {sz by_ : Nat} {z : Value} {k1 k2 k3 : IntKind} {q1 q2 q3 : Int} (l r m : Nat) (hx : ev env x = some (.slice A n c)) [hU : Sl P t e sz by_ z]
    (h1 : ev env y1 = some (.int k1 q1)) (h2 : ev env y2 = some (.int k2 q2)) (h3 : ev env y3 = some (.int k3 q3)) (hl : q1 = (l : Int)) (hr : q2 = (r : Int)) (hm : q3 = (m : Int)) (hlr : l ≤ r) (hrm : r ≤ m) (hmc : m ≤ c) (hd : okD N d = true)
    (h : ∀ v, TL P w0 N Q ops rest (putE d v env) own H) :
    TL P w0 N Q ops ({ dst := d, op := .slice t x (some y1) (some y2) (some y3), type := ty, pos := pos, after := af, guard := none } :: rest) env own H :=
  Zt (v := .slice (if m = l then A else A.map (·.add (l * sz))) (r - l) (m - l)) hd (fun a ha w => by
    subst hl hr hm
    have hb : (Instr.sliceBounds true n c (some (a.eval y1)) (some (a.eval y2)) (some (a.eval y3))).run P w = .ok (l, r, m) w := by
      simp [Instr.sliceBounds, Instr.sliceBound, asIntOf, ha.ev h1, ha.ev h2, ha.ev h3, hlr, hrm, hmc]
    simp [execOp, Instr.sliceAt, Instr.slice, run_underlying hU.und, ha.ev hx, hb, hU.sizeOf]) (h _)
end
theorem del_in {cur : Array Value} {xs : List Value} {n i c : Nat} {zs : List Value} (hs : cur.size = c * 2) (hnc : n ≤ c) (hi : i < n) (hx : xs.length = n * 2) (hcx : cur.toList.take (n * 2) = xs) (hz : zs.length = 2) :
    (putC (cur.toList.take (i * 2) ++ xs.drop ((i + 1) * 2) ++ cur.toList.drop (i * 2 + (xs.drop ((i + 1) * 2)).length)).toArray ((n - 1) * 2) zs).toList.take ((n - 1) * 2) = xs.take (i * 2) ++ xs.drop ((i + 1) * 2) := by
  have h0 : cur.toList.take (i * 2) = xs.take (i * 2) := by rw [← hcx, List.take_take, Nat.min_eq_left (by omega)]
  rw [putC_split _ _ _ (by simp; omega), h0]
  rw [List.append_assoc, List.take_append_of_le_length (by simp; omega), List.take_take, Nat.min_self, List.toList_toArray]
  rw [List.take_append_of_le_length (by simp; omega), List.take_of_length_le (by simp; omega)]
end Go.Proofs.YtaomdfcplamenaaGreatDoor.K

namespace Go.Proofs.YtaomdfcplamenaaGreatDoor.K
open Go Go.RowKit Go.Proofs

theorem delete_row {n i : Nat} (hi : i < n) (hn : n ≤ 1000000) {xs : List Value} {v : Value} {seg : Seg} (hrow : Row 26 2 v n xs seg) (hone : ∀ u ∈ xs, u.oneCell' = true) {w0 : World} {H : Hp} {own : List Seg} :
    Fn Tryz.prog 54 [v, .int .i64 (i : Int), .int .i64 ((i : Int) + 1)] w0 H (seg :: own)
      (fun r own' H' => ∃ seg', Row 26 2 r (n - 1) (xs.take (i * 2) ++ xs.drop ((i + 1) * 2)) seg' ∧ own' = seg' :: own ∧ Le H H') := by
  obtain ⟨A, c, rfl, hnc, hc63⟩ := hrow.sl
  have hxl := hrow.1
  obtain ⟨g0, cur, rfl, rfl, hcs, hct, _⟩ := hrow.blk (by omega)
  have hdl : (xs.drop ((i + 1) * 2)).length = (n - (i + 1)) * 2 := by rw [List.length_drop, hxl]; omega
  have hd1 : ∀ u ∈ xs.drop ((i + 1) * 2), u.oneCell' = true := fun u hu => hone u (List.mem_of_mem_drop hu)
  have hcat : cAt cur (0 + (i + 1) * 2) (xs.drop ((i + 1) * 2)) := cAt_of fun j u hj => by
    rw [List.getElem?_drop, ← hct, List.getElem?_take] at hj
    split at hj
    · rw [← Array.getElem?_toList, Nat.zero_add]; exact hj
    · cases hj
  refine Fn.enter Tryz.func54 rfl Tryz.ntmps54 rfl ?_; have hL := Le.refl H; refine Qj (Qh (Qe rfl rfl (Q3 (Qb rfl rfl (Qb rfl rfl ?_))))); refine Qb rfl rfl (Qb rfl rfl (Qn rfl rfl ?_))
  refine TL.slice3 i (i + 1) n rfl rfl rfl rfl (by omega) (by omega) (by omega) (by omega) (by omega) (by omega) rfl (fun v13 => ?_)
  refine Qi (Qc (Qj (Qj (Qh (Qb rfl rfl ?_))))); refine Qb rfl rfl (Za rfl rfl rfl ?_)
  rw [decide_eq_false (by omega)]
  refine Qi (Qc (Qr rfl (Q2 (Zm (Qb rfl rfl ?_))))); refine Qn rfl rfl (Qe rfl rfl (Qi (Qc (Qj ?_))))
  rcases Nat.lt_or_ge (i + 1) c with hcc | hcc
  ·
   refine Q4 6  [(0, _), (1, _), (2, _), (6, _), (7, _)] follows_mixed ⟨rfl, rfl, rfl, rfl, rfl, trivial⟩ ?_; refine Qa (some 20) [] (fun _ _ _ _ hF => Qb rfl rfl (Qd hF)) ?_; refine Qa (some 21) [] (fun _ _ _ _ hF => Qb rfl rfl (Qd hF)) ?_
   refine Qa (some 22) [(0, 1), (1, 0)] (by
    intro H' X F hle; have hL := Le.trans hL hle; intro hF; refine TL.sliceB 0 i rfl rfl ⟨_, _, rfl, rfl⟩ (by first | rfl | (simp only [Option.getD_some, Option.getD_none]; omega)) (by first | (simp only [Option.getD_some, Option.getD_none]; omega) | (simp only [Option.getD_some, Option.getD_none])) (by omega) (by omega) (by omega) rfl ?_
    exact Qd hF) ?_
   refine Qa (some 23) [] (fun _ _ _ _ hF => Qb rfl rfl (Qd hF)) ?_; refine Qa (some 24) [] (fun _ _ _ _ hF => Qb rfl rfl (Qd hF)) ?_
   refine Qa (some 25) [(3, 1), (4, 0)] (by
    intro H' X F hle; have hL := Le.trans hL hle; intro hF; refine TL.sliceB (i + 1) n rfl ⟨_, _, rfl, rfl⟩ rfl (by first | rfl | (simp only [Option.getD_some, Option.getD_none]; omega)) (by first | (simp only [Option.getD_some, Option.getD_none]; omega) | (simp only [Option.getD_some, Option.getD_none])) (by omega) (by omega) (by omega) rfl ?_
    exact Qd hF) ?_
   refine ⟨by kernel_rfl, .refl _, ?_⟩
   ·
    intro H1 hle; have hL := Le.trans hL hle; refine Qw (own' := _ :: own) rfl ?_; refine Zi (env' := [(0, _), (1, _), (2, _), (6, _), (7, _), (22, _), (25, _)]) ⟨rfl, rfl, rfl, rfl, rfl, rfl, rfl, trivial⟩ ?_; refine TL.appendRoom (n := i) (c := c) (m := n - (i + 1)) (news := xs.drop ((i + 1) * 2)) 0 0 rfl rfl rfl rfl (Src.ofOwn 0 0 rfl rfl hdl hd1 hcat) (by omega) (by rw [hdl]; omega) rfl ?_
    refine Qw (own' := [(g0, .cells (cur.toList.take (i * 2) ++ xs.drop ((i + 1) * 2) ++ cur.toList.drop (i * 2 + (xs.drop ((i + 1) * 2)).length)).toArray 26 (0, 0))] :: own) rfl (Qe rfl rfl (Qi (Qc (Qj ?_))))
    have hl1 : n - (i + (n - (i + 1))) = 1 := by omega
    have hz1 : (Builtin.zeroCells (Value.agg #[.string ⟨#[]⟩, .slice none 0 0]).cells 1).toList = [.string ⟨#[]⟩, .slice none 0 0] := by simp [Builtin.zeroCells, Value.cells, Array.range, Array.ofFn] <;> rfl
    refine Qh (Qb rfl rfl (Qb rfl rfl (Qn rfl rfl (Qb rfl rfl ?_)))); refine TL.sliceB (i + (n - (i + 1))) n rfl ⟨_, _, rfl, rfl⟩ ⟨_, _, rfl, rfl⟩ (by first | rfl | (simp only [Option.getD_some, Option.getD_none]; omega)) (by first | (simp only [Option.getD_some, Option.getD_none]; omega) | (simp only [Option.getD_some, Option.getD_none])) (by omega) (by omega) (by omega) rfl ?_
    refine TL.clear 0 0 rfl rfl rfl (by omega) (by
      rw [hl1]
      intro u hu
      rw [hz1] at hu
      simp only [List.mem_cons, List.not_mem_nil, or_false] at hu
      rcases hu with rfl | rfl <;> rfl) (by
      rw [hl1, hz1]
      simp
      omega) rfl ?_
    rw [hl1, hz1]
    refine Qw (own' := [(g0, .cells (putC (cur.toList.take (i * 2) ++ xs.drop ((i + 1) * 2) ++ cur.toList.drop (i * 2 + (xs.drop ((i + 1) * 2)).length)).toArray (0 + (i + (n - (i + 1))) * 2) [.string ⟨#[]⟩, .slice none 0 0]) 26 (0, 0))] :: own) rfl (Q3 (Qb rfl rfl (Qe rfl rfl (Qi (Qc ?_))))); refine Qy ?_; refine Zn (own' := _ :: own) rfl (Q5 0 rfl rfl ?_)
    have hz2 : i + (n - (i + 1)) = n - 1 := by omega
    refine ⟨_, ⟨by simp; omega, .inr ⟨g0, c, _, ?_, rfl, by omega, by simpa [maxLen] using hc63, ?_, ?_⟩⟩, rfl, hL⟩
    · rw [hz2]
    · rw [putC_size]; simp; omega
    · rw [hz2, Nat.zero_add]
      exact del_in hcs hnc hi hxl hct rfl
  ·
   have hcc2 : c = i + 1 := by omega
   have hnil : xs.drop ((i + 1) * 2) = [] := List.drop_of_length_le (by omega)
   have hn0 : n - (i + 1) = 0 := by omega
   refine Q4 6  [(0, _), (1, _), (2, _), (6, _), (7, _)] follows_mixed ⟨rfl, rfl, rfl, rfl, rfl, trivial⟩ ?_; refine Qa (some 20) [] (fun _ _ _ _ hF => Qb rfl rfl (Qd hF)) ?_; refine Qa (some 21) [] (fun _ _ _ _ hF => Qb rfl rfl (Qd hF)) ?_
   refine Qa (some 22) [(0, 1), (1, 0)] (by
    intro H' X F hle; have hL := Le.trans hL hle; intro hF; refine TL.sliceB 0 i rfl rfl ⟨_, _, rfl, rfl⟩ (by first | rfl | (simp only [Option.getD_some, Option.getD_none]; omega)) (by first | (simp only [Option.getD_some, Option.getD_none]; omega) | (simp only [Option.getD_some, Option.getD_none])) (by omega) (by omega) (by omega) rfl ?_
    exact Qd hF) ?_
   refine Qa (some 23) [] (fun _ _ _ _ hF => Qb rfl rfl (Qd hF)) ?_; refine Qa (some 24) [] (fun _ _ _ _ hF => Qb rfl rfl (Qd hF)) ?_
   refine Qa (some 25) [(3, 1), (4, 0)] (by
    intro H' X F hle; have hL := Le.trans hL hle; intro hF; refine Z3 (i + 1) n rfl ⟨_, _, rfl, rfl⟩ rfl (by first | rfl | (simp only [Option.getD_some, Option.getD_none]; omega)) (by first | (simp only [Option.getD_some, Option.getD_none]; omega) | (simp only [Option.getD_some, Option.getD_none])) (by omega) (by omega) rfl ?_
    rw [if_pos hcc2]
    exact Qd hF) ?_
   refine ⟨by kernel_rfl, .refl _, ?_⟩
   ·
    intro H2 hle; have hL := Le.trans hL hle; refine Qw (own' := _ :: own) rfl ?_; refine Zi (env' := [(0, _), (1, _), (2, _), (6, _), (7, _), (22, _), (25, _)]) ⟨rfl, rfl, rfl, rfl, rfl, rfl, rfl, trivial⟩ ?_; refine TL.appendRoom (n := i) (c := c) (m := n - (i + 1)) (news := xs.drop ((i + 1) * 2)) 0 0 rfl rfl rfl rfl (by rw [hnil, hn0]; exact Src.nil) (by omega) (by rw [hdl]; omega) rfl ?_
    refine Qw (own' := [(g0, .cells (cur.toList.take (i * 2) ++ xs.drop ((i + 1) * 2) ++ cur.toList.drop (i * 2 + (xs.drop ((i + 1) * 2)).length)).toArray 26 (0, 0))] :: own) rfl (Qe rfl rfl (Qi (Qc (Qj ?_))))
    have hl1 : n - (i + (n - (i + 1))) = 1 := by omega
    have hz1 : (Builtin.zeroCells (Value.agg #[.string ⟨#[]⟩, .slice none 0 0]).cells 1).toList = [.string ⟨#[]⟩, .slice none 0 0] := by simp [Builtin.zeroCells, Value.cells, Array.range, Array.ofFn] <;> rfl
    refine Qh (Qb rfl rfl (Qb rfl rfl (Qn rfl rfl (Qb rfl rfl ?_)))); refine TL.sliceB (i + (n - (i + 1))) n rfl ⟨_, _, rfl, rfl⟩ ⟨_, _, rfl, rfl⟩ (by first | rfl | (simp only [Option.getD_some, Option.getD_none]; omega)) (by first | (simp only [Option.getD_some, Option.getD_none]; omega) | (simp only [Option.getD_some, Option.getD_none])) (by omega) (by omega) (by omega) rfl ?_
    refine TL.clear 0 0 rfl rfl rfl (by omega) (by
      rw [hl1]
      intro u hu
      rw [hz1] at hu
      simp only [List.mem_cons, List.not_mem_nil, or_false] at hu
      rcases hu with rfl | rfl <;> rfl) (by
      rw [hl1, hz1]
      simp
      omega) rfl ?_
    rw [hl1, hz1]
    refine Qw (own' := [(g0, .cells (putC (cur.toList.take (i * 2) ++ xs.drop ((i + 1) * 2) ++ cur.toList.drop (i * 2 + (xs.drop ((i + 1) * 2)).length)).toArray (0 + (i + (n - (i + 1))) * 2) [.string ⟨#[]⟩, .slice none 0 0]) 26 (0, 0))] :: own) rfl (Q3 (Qb rfl rfl (Qe rfl rfl (Qi (Qc ?_))))); refine Qy ?_; refine Zn (own' := _ :: own) rfl (Q5 0 rfl rfl ?_)
    have hz2 : i + (n - (i + 1)) = n - 1 := by omega
    refine ⟨_, ⟨by simp; omega, .inr ⟨g0, c, _, ?_, rfl, by omega, by simpa [maxLen] using hc63, ?_, ?_⟩⟩, rfl, hL⟩
    · rw [hz2]
    · rw [putC_size]; simp; omega
    · rw [hz2, Nat.zero_add]
      exact del_in hcs hnc hi hxl hct rfl

end Go.Proofs.YtaomdfcplamenaaGreatDoor.K

namespace Go.Proofs.YtaomdfcplamenaaGreatDoor.K
open Go Go.RowKit Go.Proofs

structure Ei where
  op : Int
  path : List Int
  tree : Tr
def Ei.d (e : Ei) : List D := [.c (.int .i64 e.op), .s 1 (ints e.path)] ++ e.tree.d
def eiD (l : List Ei) : List D := l.flatMap Ei.d
def Ed.i (e : Ed) : Ei := ⟨e.op, e.path.map Int.ofNat, e.tree⟩
theorem Ed.i_d (e : Ed) : e.i.d = e.d := by
  simp [Ei.d, Ed.d, Ed.i, pD, pV, ints, List.map_map, Function.comp_def]
theorem eiD_of (l : List Ed) : eiD (l.map Ed.i) = edD l := by
  induction l with
  | nil => rfl
  | cons e r ih =>
    simp only [eiD, edD, List.map_cons, List.flatMap_cons] at ih ⊢
    rw [ih, Ed.i_d]
def insT (s : Tr) (k : Nat) (x : Tr) : Tr := .node s.lab (s.kids.take k ++ [x] ++ s.kids.drop k)
def delT (s : Tr) (k : Nat) : Tr := .node s.lab (s.kids.take k ++ s.kids.drop (k + 1))
/-- The fault's number, or the edit that undoes and the new tree. -/
def stepI (t : Tr) (e : Ei) : Sum Int (Ei × Tr) :=
  if e.op < 1 ∨ 3 < e.op ∨ (e.path = [] ∧ e.op ≠ 3) then .inl 1
  else if e.op = 3 then
    match subI t e.path with
    | none => .inl 101
    | some s => .inr (⟨3, e.path, s⟩, putT t (e.path.map Int.toNat) e.tree)
  else
    match subI t e.path.dropLast with
    | none => .inl 101
    | some s =>
      if e.path.getLastD 0 < 0 ∨ (s.kids.length : Int) < e.path.getLastD 0 ∨ (e.path.getLastD 0 = s.kids.length ∧ e.op = 2) then .inl 101
      else if e.op = 1 then .inr (⟨2, e.path, Tr.zero⟩, putT t (e.path.dropLast.map Int.toNat) (insT s (e.path.getLastD 0).toNat e.tree))
      else .inr (⟨1, e.path, s.kids.getD (e.path.getLastD 0).toNat Tr.zero⟩, putT t (e.path.dropLast.map Int.toNat) (delT s (e.path.getLastD 0).toNat))
def applyI : Tr → List Ei → Sum Int Tr
  | t, [] => .inr t
  | t, e :: r => match stepI t e with
    | .inl c => .inl c
    | .inr (_, u) => applyI u r
/-- The edits that undo, the last first. -/
def invertI : Tr → List Ei → Sum Int (List Ei)
  | _, [] => .inr []
  | t, e :: r => match stepI t e with
    | .inl c => .inl c
    | .inr (b, u) => match invertI u r with
      | .inl c => .inl c
      | .inr bs => .inr (bs ++ [b])
theorem ownL.ones : ∀ {ts : List Tr} {xs : List Value} {s : Seg}, ownL ts xs s → ∀ u ∈ xs, u.oneCell' = true
  | [], xs, s, h => by simp only [ownL] at h; simp [h.1]
  | t :: r, xs, s, h => by
    simp only [ownL] at h
    obtain ⟨v0, v1, ys, s1, s2, rfl, _, h3, h4⟩ := h
    have h5 := h3.ones
    intro u hu
    rcases List.mem_cons.1 hu with rfl | hu
    · exact h5.1
    · rcases List.mem_cons.1 hu with rfl | hu
      · exact h5.2.1
      · exact ownL.ones h4 u hu
/-- A row of kids falls into two. -/
theorem ownL.split : ∀ {ts : List Tr} {xs : List Value} {s : Seg} (k : Nat), k ≤ ts.length → ownL ts xs s → ∃ s1 s2, s.Perm (s1 ++ s2) ∧ ownL (ts.take k) (xs.take (k * 2)) s1 ∧ ownL (ts.drop k) (xs.drop (k * 2)) s2
  | ts, xs, s, 0, _, h => ⟨[], s, by simp, by simp [ownL], by simpa using h⟩
  | [], xs, s, k + 1, hk, _ => by simp at hk
  | t :: r, xs, s, k + 1, hk, h => by
    simp only [ownL] at h
    obtain ⟨v0, v1, ys, s1, s2, rfl, hp, h3, h4⟩ := h
    obtain ⟨q1, q2, hq, h5, h6⟩ := ownL.split k (by simpa using hk) h4
    refine ⟨s1 ++ q1, q2, ?_, ?_, ?_⟩
    · rw [List.append_assoc]; exact hp.trans (hq.append_left s1)
    · rw [show (k + 1) * 2 = k * 2 + 1 + 1 by omega]
      simp only [List.take_succ_cons, ownL]
      exact ⟨v0, v1, _, s1, q1, rfl, .refl _, h3, h5⟩
    · rw [show (k + 1) * 2 = k * 2 + 1 + 1 by omega]
      simpa only [List.drop_succ_cons] using h6
theorem ownL.join : ∀ {ts us : List Tr} {xs ys : List Value} {s1 s2 : Seg}, ownL ts xs s1 → ownL us ys s2 → ownL (ts ++ us) (xs ++ ys) (s1 ++ s2)
  | [], us, xs, ys, s1, s2, h, k => by
    simp only [ownL] at h
    obtain ⟨rfl, rfl⟩ := h
    simpa using k
  | t :: r, us, xs, ys, s1, s2, h, k => by
    simp only [ownL, List.cons_append] at h ⊢
    obtain ⟨v0, v1, zs, q1, q2, rfl, hp, h3, h4⟩ := h
    refine ⟨v0, v1, zs ++ ys, q1, q2 ++ s2, rfl, ?_, h3, ownL.join h4 k⟩
    rw [← List.append_assoc]
    exact hp.append_right _
theorem ownL.one {t : Tr} {v0 v1 : Value} {s : Seg} (h : ownT t v0 v1 s) : ownL [t] [v0, v1] s := by
  simp only [ownL]
  exact ⟨v0, v1, [], s, [], rfl, by simp, h, rfl, rfl⟩
/-- A result in a block of our own and two in slots. -/
theorem TQ.retC2 {P : Program} {w0 : World} {N : Nat} {env : Env} {own : List Seg} {H : Hp} {fn : Func} {φ : Value → List Seg → Hp → Prop} (i j k : Nat) {t u z : Tmp} {ty : TypeId} {g o : Nat} {seg : Seg} {c : Array Value} {e : TypeId} {fz : Nat × Nat} {agg : Bool} {n : Nat} {v x y : Value} (vs : List Value) (hr : fn.results = #[.cell t ty, .tmp u, .tmp z])
    (hv : lk env t = some (.pointer (some ⟨g, o, none⟩))) (hx : lk env u = some x) (hy : lk env z = some y) (hi : own[i]? = some seg) (hj : seg[j]? = some (g, .cells c e fz)) [ht : Ty P ty agg n] (hc : cAt c o vs) (hn : vs.length = n) (hm : mkV agg vs = some v)
    (h : φ (.tuple #[v, x, y]) (own.drop k) H) : TQ w0 N (bodyPost P fn (Ret w0 φ)) .ret env own H := fun a w ha hw => by
  have hb := hw.own_blk hi hj
  have hl := run_loadVar (P := P) (w := w) (b := g) (o := o) ht hn hm (fun k u hu => by rw [cell_of_cells hb]; exact hc.get k u hu)
  refine bodyPost_ret (v := .tuple #[v, x, y]) ?_ ha.defers ⟨.tuple #[v, x, y], own.drop k, H, rfl, h, hw.drop k⟩
  have h1 := ha.slots t _ hv
  have h2 := ha.slots u _ hx
  have h3 := ha.slots z _ hy
  simp [results, hr, Array.getD_eq_getD_getElem?, h1, h2, h3, asAddr, hl]
end Go.Proofs.YtaomdfcplamenaaGreatDoor.K

namespace Go.Proofs.YtaomdfcplamenaaGreatDoor.K
open Go Go.RowKit Go.Proofs

theorem ds_set {H : Hp} {t : Tr} {c0 c1 : Value} (ht : RdL H t.d [c0, c1]) : ∀ {ks : List Tr} {xs : List Value} {i : Nat}, RdL H (Tr.ds ks) xs → RdL H (Tr.ds (ks.set i t)) ((xs.set (i * 2) c0).set (i * 2 + 1) c1)
  | [], xs, i, h => by
    cases xs with
    | nil => simp [Tr.ds, RdL]
    | cons x r => simp [Tr.ds, RdL] at h
  | .node l ks' :: r, xs, 0, h => by
    match xs, h with
    | x0 :: x1 :: ys, h =>
      rw [show Tr.ds (.node l ks' :: r) = (Tr.node l ks').d ++ Tr.ds r from by simp [Tr.ds]] at h
      simp only [Tr.d, List.cons_append, List.nil_append, RdL] at h
      simp only [Nat.zero_mul, List.set_cons_zero, List.set_cons_succ, Nat.zero_add]
      rw [show Tr.ds (t :: r) = t.d ++ Tr.ds r from by simp [Tr.ds]]
      exact ht.append (vs := [c0, c1]) h.2.2
    | [], h => simp [Tr.ds, Tr.d, RdL] at h
    | [_], h => simp [Tr.ds, Tr.d, RdL] at h
  | .node l ks' :: r, xs, i + 1, h => by
    match xs, h with
    | x0 :: x1 :: ys, h =>
      rw [show Tr.ds (.node l ks' :: r) = (Tr.node l ks').d ++ Tr.ds r from by simp [Tr.ds]] at h
      simp only [Tr.d, List.cons_append, List.nil_append, RdL] at h
      rw [show (i + 1) * 2 = i * 2 + 1 + 1 by omega]
      simp only [List.set_cons_succ]
      rw [show Tr.ds (.node l ks' :: r.set i t) = (Tr.node l ks').d ++ Tr.ds (r.set i t) from by simp [Tr.ds]]
      simp only [Tr.d, List.cons_append, List.nil_append, RdL]
      exact ⟨h.1, h.2.1, ds_set ht h.2.2⟩
    | [], h => simp [Tr.ds, Tr.d, RdL] at h
    | [_], h => simp [Tr.ds, Tr.d, RdL] at h

theorem ref_Put (kz : Nat) : ∀ (p : List Int), p.length ≤ kz → ∀ {t s : Tr}, subI t p = some s → t.size ≤ 1000000 → p.length ≤ 1000000000 → ∀ {x : Tr} {w0 : World} {H : Hp} {own : List Seg} {v0 v1 vp c0 c1 : Value}, RdL H t.d [v0, v1] → rd H (.s 1 (ints p)) vp → RdL H x.d [c0, c1] →
    Fn Tryz.prog 46 [.agg #[v0, v1], vp, .agg #[c0, c1]] w0 H own (fun r own' H' => ∃ d0 d1, r = .agg #[d0, d1] ∧ RdL H' (putT t (p.map Int.toNat) x).d [d0, d1] ∧ own' = own ∧ Le H H') := by
  induction kz using Nat.strongRecOn with
  | _ kz ih =>
    intro p hk t s hs hsz hpl x w0 H own v0 v1 vp c0 c1 ht hvp hx
    obtain ⟨l, ks⟩ := t
    obtain ⟨rfl, A, c, rfl, hc1, hc2, hA⟩ := tr_cells ht
    have hks : ks.length ≤ 1000000 := by have := Tr.len_le ks; simp only [Tr.size] at hsz; omega
    obtain ⟨A2, c2, rfl, hc21, hc22⟩ := vals_len hvp
    simp only [List.length_map] at hvp hc21 ⊢
    refine Fn.enter Tryz.func46 rfl Tryz.ntmps46 rfl ?_; have hL := Le.refl H; refine Qj (Qh ?_)
    refine Zx (c := #[_, _]) rfl rfl rfl ?_; intro g3
    refine Zx (c := #[_, _]) rfl rfl rfl ?_; intro g5
    refine Zc rfl ?_; intro g6; refine Qi (Qc (Qj (Qj ?_)))
    rcases p with _ | ⟨i, q⟩
    ·
     refine Qh (Qb rfl rfl (Qn rfl rfl (Za rfl rfl rfl ?_)))
     rw [decide_eq_true (show ((([] : List Int).length : Nat) : Int) = 0 from rfl)]
     refine Qi (Qc (Qv rfl (Qj (Qh ?_)))); refine Qm 1 0 [_, _] rfl rfl rfl ⟨rfl, rfl, trivial⟩ rfl rfl ?_; refine Qq 0 0 (c' := #[_, _]) (own' := [(_, .cells #[_, _] _ _)] :: _) rfl rfl rfl rfl rfl (tr_ones hx) (by simp) rfl rfl rfl (Qi (Qc (Qy (Q0 ?_)))); refine TQ.retC 0 0 3 [_, _] rfl rfl rfl rfl ⟨rfl, rfl, trivial⟩ rfl rfl ?_
     exact ⟨_, _, rfl, hx, rfl, hL⟩
    ·
     simp only [subI] at hs
     obtain ⟨hi0, u, hu, hsu⟩ : 0 ≤ i ∧ ∃ u, ks[i.toNat]? = some u ∧ subI u q = some s := by
       split at hs
       · cases hs
       · simp only [Option.bind_eq_some_iff] at hs
         exact ⟨by omega, hs⟩
     have hilt := (List.getElem?_eq_some_iff.1 hu).1
     obtain ⟨b2, q2, rfl, hpx⟩ := vals_at hvp (i := 0) (u := .int .i64 i) rfl
     obtain ⟨b3, o3, p0, p1, rfl, hp, hpr⟩ := trs_at hA hu
     obtain ⟨A', c', news, e, hsrc, hnews⟩ := hA.srcN (m := ks.length) (by omega) (Tr.ds_len ks) (Tr.ds_one ks)
     cases e
     have hus := Tr.size_mem (List.mem_of_getElem? hu)
     simp only [List.length_cons] at hk hpl hc21
     refine Qh (Qb rfl rfl (Qn rfl rfl (Za rfl rfl rfl ?_)))
     rw [decide_eq_false (show ¬ (((i :: q).length : Nat) : Int) = 0 by simp only [List.length_cons]; omega)]
     refine Qi (Qc (Qr rfl (Q2 (Zm (Qg rfl rfl ?_))))); refine Qk 2 0 rfl rfl rfl rfl rfl ?_; refine Q8 [(0, [_])] ⟨rfl, ⟨_, rfl, rfl⟩, trivial⟩ rfl rfl ?_
     refine Zc rfl ?_; intro g7; refine Qq 0 0 (c' := #[_, _]) (own' := [(_, .cells #[_, _] _ _)] :: _) rfl rfl rfl rfl rfl ⟨rfl, rfl, trivial⟩ (by simp) rfl rfl rfl (Qi (Qc (Qj (Z4 (Qh ?_))))); refine Qg rfl rfl (Qk 1 0 rfl rfl rfl rfl rfl (Qg rfl rfl (Qk 4 0 rfl rfl rfl rfl rfl ?_))); refine Zh 0 rfl rfl rfl (Row.nil 26 2) (hsrc _ _) (by omega) (by omega) rfl ?_; intro v' seg' hrow'; refine Qg rfl rfl ?_; refine Zq 1 0 (c' := #[_, _]) (own' := _ :: [(_, .cells #[_, _] _ _)] :: _) rfl rfl rfl rfl hrow'.one (by simp) rfl rfl rfl (Qi (Qc (Qj ?_)))
     replace hrow' : Row 26 2 v' ks.length news seg' := by simpa using hrow'
     obtain ⟨A9, c9, rfl, h91, h92⟩ := hrow'.sl
     obtain ⟨g9, cur, rfl, rfl, hcs, hct, hnl⟩ := hrow'.blk (by omega)
     refine Q4 16  [(0, _), (1, _), (2, _), (3, _), (5, _), (6, _), (7, _)] follows_mixed ⟨rfl, rfl, rfl, rfl, rfl, rfl, rfl, trivial⟩ ?_; refine Qa (some 21) [] (fun _ _ _ _ hF => Qg rfl rfl (Qd hF)) ?_
     refine Qa (some 22) [(0, 0)] (by
      intro H' X F hle; have hL := Le.trans hL hle; intro hF; refine Qk 1 0 rfl rfl rfl rfl rfl ?_
      exact Qd hF) ?_
     refine Qa (some 23) [] (fun _ _ _ _ hF => Qb rfl rfl (Qd hF)) ?_; refine Qa (some 24) [(2, 0)] (fun _ _ _ _ hF => Qo (0) rfl rfl rfl (by simp) rfl (Qd hF)) ?_
     refine Qa (some 25) [(3, 0)] (by
      intro H' X F hle; have hL := Le.trans hL hle; have hpx := cel_le hle hpx; intro hF; refine Qp rfl (hpx) rfl ?_
      exact Qd hF) ?_
     refine Qa (some 26) [] (fun _ _ _ _ hF => Qg rfl rfl (Qd hF)) ?_
     refine Qa (some 27) [(5, 0)] (by
      intro H' X F hle; have hL := Le.trans hL hle; intro hF; refine Qk 4 0 rfl rfl rfl rfl rfl ?_
      exact Qd hF) ?_
     refine Qa (some 28) [] (fun _ _ _ _ hF => Qb rfl rfl (Qd hF)) ?_; refine Qa (some 29) [(7, 0)] (fun _ _ _ _ hF => Qo (0) rfl rfl rfl (by simp) rfl (Qd hF)) ?_
     refine Qa (some 30) [(8, 0)] (by
      intro H' X F hle; have hL := Le.trans hL hle; have hpx := cel_le hle hpx; intro hF; refine Qp rfl (hpx) rfl ?_
      exact Qd hF) ?_
     refine Qa (some 31) [(6, 3), (9, 0)] (fun _ _ _ _ hF => Qo (i.toNat) rfl rfl (by omega) (by omega) rfl (Qd hF)) ?_
     refine Qa (some 32) [(10, 0)] (by
      intro H' X F hle; have hL := Le.trans hL hle; have hp := hAt.mono hle hp; intro hF; refine Zd rfl (hp) rfl rfl ?_
      exact Qd hF) ?_
     refine Qa (some 33) [] (fun _ _ _ _ hF => Qb rfl rfl (Qd hF)) ?_
     refine Q9 (some 34) [(12, 0)] ([]) (fun _ => fun u s H => rd H (.s 1 (ints q)) u ∧ s = []) (by
      intro H' X F hle; have hL := Le.trans hL hle; have hvp := rd.mono hle hvp; intro hF; refine Z3 (1) (q.length + 1) rfl ⟨_, _, rfl, rfl⟩ rfl rfl (by simp) (by omega) (by omega) rfl (Qi ?_)
      exact Q7 [] hF (Le.refl _) ⟨by
        have h := rd.cut hvp (l := 1) (r := q.length + 1) (by omega) (by simp)
        rw [show ((ints (i :: q)).drop (1 * 1)).take ((q.length + 1 - 1) * 1) = ints q from by simp only [ints, List.map_cons, Nat.mul_one, List.drop_succ_cons, List.drop_zero]; exact List.take_of_length_le (by simp)] at h
        exact h, rfl⟩) ?_
     refine Qa (some 35) [] (by
      intro H' X F hle; have hL := Le.trans hL hle; intro hF; refine Qm 3 0 [_, _] rfl rfl rfl ⟨rfl, rfl, trivial⟩ rfl rfl ?_
      exact Qd hF) ?_
     refine Q9 (some 36) [(11, 3), (13, 1), (14, 0)] ([]) (fun _ => fun r s H => ∃ d0 d1, r = .agg #[d0, d1] ∧ RdL H (putT u (q.map Int.toNat) x).d [d0, d1] ∧ s = []) (by
      intro H' X F hle; have hL := Le.trans hL hle; have hx := RdL.mono hle hx; have hpr := RdL.mono hle hpr; intro _
      rintro v34 _ Hi hle34 ⟨hv34, rfl⟩
      replace hv34 := rd.mono hle34 hv34
      intro hF; refine Qs (ih q.length (by omega) q (Nat.le_refl _) hsu (by simp only [Tr.size] at hsz; omega) (by omega) hpr hv34 hx) ⟨rfl, rfl, rfl, trivial⟩ rfl ?_
      rintro _ _ H2 ⟨d0, d1, rfl, hr, rfl, hle2⟩
      refine Qi ?_
      exact Q7 [] hF hle2 ⟨d0, d1, rfl, hr, rfl⟩) ?_
     refine ⟨by kernel_rfl, .refl _, ?_⟩
     ·
      intro H1 hle
      rintro v34 _ Hi hle34 ⟨hv34, rfl⟩
      rintro _ _ Hi hle36 ⟨d0, d1, rfl, hr36, rfl⟩
      replace hr36 := RdL.mono hle36 hr36
      have hL := Le.trans hL hle; have hnews := RdL.mono hle hnews; refine Qw (own' := _ :: _ :: _ :: _ :: _ :: own) rfl ?_; refine Zi (env' := [(0, _), (1, _), (2, _), (3, _), (5, _), (6, _), (7, _), (22, _), (25, _), (36, _)]) ⟨rfl, rfl, rfl, rfl, rfl, rfl, rfl, rfl, rfl, rfl, trivial⟩ ?_; refine Qo (i.toNat) rfl rfl (by omega) (by omega) rfl ?_; refine Qq 0 0 (c' := _) (own' := _ :: _) rfl rfl rfl rfl rfl (tr_ones hr36) (by simp; omega) rfl rfl rfl ?_
      refine Q3 ?_; refine Qm 1 0 [_, _] rfl rfl rfl ⟨rfl, rfl, trivial⟩ rfl rfl ?_; refine Qq 2 0 (c' := #[_, _]) (own' := _ :: _ :: [(_, .cells #[_, _] _ _)] :: _) rfl rfl rfl rfl rfl ⟨rfl, rfl, trivial⟩ (by simp) rfl rfl rfl (Qi (Qc (Qy ?_)))
      refine Zs (fun H2 hle hz_row => ?_)
      have hL := Le.trans hL hle; have hnews := RdL.mono hle hnews; have hr36 := RdL.mono hle hr36; refine TQ.retC 1 0 4 [_, _] rfl rfl rfl rfl ⟨rfl, rfl, trivial⟩ rfl rfl ?_
      have hsr : RdL _ (Tr.ds (ks.set i.toNat (putT u (q.map Int.toNat) x))) ((news.set (i.toNat * 2) d0).set (i.toNat * 2 + 1) d1) := ds_set hr36 hnews
      refine ⟨_, _, rfl, ?_, rfl, hL⟩
      simp only [List.map_cons, putT, hu]
      obtain ⟨g, cap, cur', e1, e2, _, _, _, hset⟩ := hrow'.two (i := i.toNat) hilt
      cases e1
      cases e2
      refine tr_mk (rd.ofRow (e := 26) (n := (ks.set i.toNat (putT u (q.map Int.toNat) x)).length) ?_ hz_row hsr (Le.refl _))
      rw [List.length_set]
      have h := hset d0 d1
      simpa [putC] using h

end Go.Proofs.YtaomdfcplamenaaGreatDoor.K

namespace Go.Proofs.YtaomdfcplamenaaGreatDoor.K
open Go Go.RowKit Go.Proofs

theorem At_some {t s : Tr} {p : List Int} (hs : subI t p = some s) (hpl : p.length ≤ 1000000000) {w0 : World} {H : Hp} {own : List Seg} {v0 v1 vp : Value} (hrd : RdL H t.d [v0, v1]) (hvp : rd H (.s 1 (ints p)) vp) :
    Fn Tryz.prog 45 [.agg #[v0, v1], vp] w0 H own (fun r own' H' => ∃ c0 c1, r = .tuple #[.agg #[c0, c1], .bool true] ∧ RdL H' s.d [c0, c1] ∧ own' = own ∧ Le H H') :=
  (ref_At hpl hrd hvp).mono fun r o H' h => by
    obtain ⟨⟨h1, _⟩ | ⟨s', c0, c1, h1, rfl, h2⟩, rfl, h3⟩ := h
    · rw [hs] at h1; cases h1
    · rw [hs] at h1
      injection h1 with h1
      subst h1
      exact ⟨c0, c1, rfl, h2, rfl, h3⟩
theorem At_none {t : Tr} {p : List Int} (hs : subI t p = none) (hpl : p.length ≤ 1000000000) {w0 : World} {H : Hp} {own : List Seg} {v0 v1 vp : Value} (hrd : RdL H t.d [v0, v1]) (hvp : rd H (.s 1 (ints p)) vp) :
    Fn Tryz.prog 45 [.agg #[v0, v1], vp] w0 H own (fun r own' H' => r = .tuple #[.agg #[.string ⟨#[]⟩, .slice none 0 0], .bool false] ∧ own' = own ∧ Le H H') :=
  (ref_At hpl hrd hvp).mono fun r o H' h => by
    obtain ⟨⟨_, rfl⟩ | ⟨s', c0, c1, h1, rfl, h2⟩, rfl, h3⟩ := h
    · exact ⟨rfl, rfl, h3⟩
    · rw [hs] at h1; cases h1
theorem subI_size : ∀ (p : List Int) (t : Tr) {s : Tr}, subI t p = some s → s.size ≤ t.size
  | [], t, s, h => by cases t; simp only [subI, Option.some.injEq] at h; rw [h]; exact Nat.le_refl _
  | x :: p, .node l ks, s, h => by
    simp only [subI] at h
    split at h
    · cases h
    · simp only [Option.bind_eq_some_iff] at h
      obtain ⟨u, hu, hs⟩ := h
      have h1 := subI_size p u hs
      have h2 := Tr.size_mem (List.mem_of_getElem? hu)
      simp only [Tr.size]
      omega
section
variable {t s : Tr} {e : Ei}
theorem step_bad (h : e.op < 1 ∨ 3 < e.op ∨ (e.path = [] ∧ e.op ≠ 3)) : stepI t e = .inl 1 := by unfold stepI; rw [if_pos h]
theorem step_rep0 (h : e.op = 3) (hs : subI t e.path = none) : stepI t e = .inl 101 := by
  unfold stepI
  rw [if_neg (by omega), if_pos h, hs]
theorem step_rep (h : e.op = 3) (hs : subI t e.path = some s) : stepI t e = .inr (⟨3, e.path, s⟩, putT t (e.path.map Int.toNat) e.tree) := by
  unfold stepI
  rw [if_neg (by omega), if_pos h, hs]
theorem step_no (h : e.op = 1 ∨ e.op = 2) (hp : e.path ≠ []) (hs : subI t e.path.dropLast = none) : stepI t e = .inl 101 := by
  unfold stepI
  rw [if_neg (by rintro (h1 | h1 | ⟨h1, _⟩); omega; omega; exact hp h1), if_neg (by omega), hs]
theorem step_out (h : e.op = 1 ∨ e.op = 2) (hp : e.path ≠ []) (hs : subI t e.path.dropLast = some s) (hb : e.path.getLastD 0 < 0 ∨ (s.kids.length : Int) < e.path.getLastD 0 ∨ (e.path.getLastD 0 = s.kids.length ∧ e.op = 2)) : stepI t e = .inl 101 := by
  unfold stepI
  rw [if_neg (by rintro (h1 | h1 | ⟨h1, _⟩); omega; omega; exact hp h1), if_neg (by omega), hs]
  exact if_pos hb
theorem step_ins (h : e.op = 1) (hp : e.path ≠ []) (hs : subI t e.path.dropLast = some s) (hb : ¬ (e.path.getLastD 0 < 0 ∨ (s.kids.length : Int) < e.path.getLastD 0 ∨ (e.path.getLastD 0 = s.kids.length ∧ e.op = 2))) :
    stepI t e = .inr (⟨2, e.path, Tr.zero⟩, putT t (e.path.dropLast.map Int.toNat) (insT s (e.path.getLastD 0).toNat e.tree)) := by
  unfold stepI
  rw [if_neg (by rintro (h1 | h1 | ⟨h1, _⟩); omega; omega; exact hp h1), if_neg (by omega), hs]
  simp only [if_neg hb, if_pos h]
theorem step_del (h : e.op = 2) (hp : e.path ≠ []) (hs : subI t e.path.dropLast = some s) (hb : ¬ (e.path.getLastD 0 < 0 ∨ (s.kids.length : Int) < e.path.getLastD 0 ∨ (e.path.getLastD 0 = s.kids.length ∧ e.op = 2))) :
    stepI t e = .inr (⟨1, e.path, s.kids.getD (e.path.getLastD 0).toNat Tr.zero⟩, putT t (e.path.dropLast.map Int.toNat) (delT s (e.path.getLastD 0).toNat)) := by
  unfold stepI
  rw [if_neg (by rintro (h1 | h1 | ⟨h1, _⟩); omega; omega; exact hp h1), if_neg (by omega), hs]
  simp only [if_neg hb, if_neg (show ¬ e.op = 1 by omega)]
end
end Go.Proofs.YtaomdfcplamenaaGreatDoor.K
