/-
  Part 2 of 6 of the proof that DiffKeeps returns true for every three lists of numbers, and leaves its arguments as they were.. No condition beyond the given statement.
-/
import Derived.Maps.Own
import Derived.Maps.Views
import Derived.StringKeys
import Derived.DeepKeys4
import Derived.Laws.Strings
import Derived.Test.YtaomdfcplamenaaGreatDoorPkK1
set_option linter.unusedVariables false
set_option linter.unusedSimpArgs false
set_option linter.defProp false
set_option maxHeartbeats 4000000
namespace Go.Proofs.YtaomdfcplamenaaGreatDoor.K
open Go Go.RowKit Go.Proofs

theorem mod_eq {n m : Int} (hm : 0 < m) : ((n.tmod m + m).tmod m) = n % m := by
  have h1 := Int.emod_nonneg n (by omega : m ≠ 0)
  have h2 := Int.emod_lt_of_pos n hm; have h3 := Int.tmod_lt_of_pos n hm
  have h4 : -m < n.tmod m := by
    have := Int.lt_tmod_of_pos n hm
    omega
  have h5 : (n.tmod m + m) % m = n % m := by
    rw [Int.add_emod_right]
    rw [Int.tmod_eq_emod]
    split
    · simp
    · rename_i hh
      have : ((m.natAbs : Int)) = m := by omega
      rw [this, Int.sub_emod_right]
      simp
  rw [Int.tmod_eq_emod_of_nonneg (by omega), h5]
theorem Tr.sizes_append : ∀ (a b : List Tr), Tr.sizes (a ++ b) = Tr.sizes a + Tr.sizes b
  | [], b => by simp [Tr.sizes]
  | t :: r, b => by simp only [List.cons_append, Tr.sizes, Tr.sizes_append r b]; omega
theorem Tr.sizes_take (ks : List Tr) (k : Nat) (x : Tr) (hx : ks[k]? = some x) : Tr.sizes (ks.take (k + 1)) = Tr.sizes (ks.take k) + x.size := by
  rw [List.take_add_one, hx, Tr.sizes_append]
  simp [Tr.sizes]
theorem Tr.sizes_take_le (ks : List Tr) : ∀ k, Tr.sizes (ks.take k) ≤ Tr.sizes ks := by
  induction ks with
  | nil => intro k; simp
  | cons t r ih =>
    intro k
    cases k with
    | zero => simp [Tr.sizes]
    | succ k => simp only [List.take_succ_cons, Tr.sizes]; have := ih k; omega

theorem ref_Count (k : Nat) : ∀ (t : Tr), t.size ≤ k → k ≤ 1073741824 → ∀ {w0 : World} {H : Hp} {own : List Seg} {a0 a1 : Value}, RdL H t.d [a0, a1] →
    Fn Tryz.prog 24 [.agg #[a0, a1]] w0 H own (fun v own' H' => v = .int .i64 (t.size : Int) ∧ own' = own ∧ Le H H') := by
  induction k with
  | zero => intro t h; have := t.size_pos; omega
  | succ k ih =>
    rintro ⟨l, ks⟩ hk hlim w0 H own a0 a1 ht
    obtain ⟨rfl, A, c, rfl, hc1, hc2, hA⟩ := tr_cells ht
    have hks : ks.length ≤ 1073741824 := by have := Tr.len_le ks; simp only [Tr.size] at hk; omega
    have hsz : Tr.sizes ks ≤ 1073741824 := by simp only [Tr.size] at hk; omega
    refine Fn.enter Tryz.func24 rfl Tryz.ntmps24 rfl ?_; have hL := Le.refl H; refine Qj (Qh ?_)
    refine Zx (c := #[_, _]) rfl rfl rfl ?_; intro g1; refine Qe rfl rfl (Q3 (Qe rfl rfl (Qi (Qc (Qj ?_))))); refine Qj (Qh (Qe rfl rfl (Qi (Qc (Q6 ?_))))); refine Zv (fun n env' own' H' => ∃ k', n = ks.length - k' ∧ k' ≤ ks.length ∧ env' = [(1, .pointer (some ⟨g1, 0, none⟩)), (3, .int .i64 ((Tr.sizes (ks.take k') + 1 : Nat) : Int)), (4, .int .i64 (k' : Int))] ∧ own' = [(g1, .cells #[.string l, .slice A ks.length c] 26 (0, 0))] :: own ∧ Le H H') ks.length [(1, _), (3, _), (4, _)] ⟨rfl, rfl, rfl, trivial⟩ ⟨0, by omega, by omega, by simp [Tr.sizes], rfl, Le.refl _⟩ ?_
    rintro n _ _ H1 ⟨k', rfl, hk1, rfl, rfl, hle0⟩
    have hb1 := Tr.sizes_take_le ks k'; have hL := Le.trans hL hle0; have hA := rd.mono hle0 hA; refine Qj (Qj (Qh (Qb rfl rfl (Qg rfl rfl (Qk 0 0 rfl rfl rfl rfl rfl ?_))))); refine Qn rfl rfl ?_
    refine Zz rfl rfl rfl (fun hlt => ?_) (fun hlt => ?_)
    ·
     obtain ⟨x, hx⟩ : ∃ x, ks[k']? = some x := ⟨_, List.getElem?_eq_getElem (by omega)⟩
     have hxs := Tr.size_mem (List.mem_of_getElem? hx)
     obtain ⟨b1, o1, p0, p1, rfl, hp, hpr⟩ := trs_at hA hx
     refine Qi (Qc (Qv rfl (Q2 (Qc (Qj ?_))))); refine Q6 (Qh (Qb rfl rfl (Qg rfl rfl (Qk 0 0 rfl rfl rfl rfl rfl (Qb rfl rfl ?_))))); refine Qo (k') rfl rfl rfl (by omega) rfl ?_; refine Zd rfl (hp) rfl rfl ?_; refine Qs (ih x (Tr.size_kid (List.mem_of_getElem? hx) hk) (by omega) hpr) ⟨rfl, trivial⟩ rfl ?_
     rintro _ _ H2 ⟨rfl, rfl, hle2⟩
     have hL := Le.trans hL hle2; have hle0 := Le.trans hle0 hle2; refine Zb rfl rfl rfl ⟨by omega, by omega⟩ (Qe rfl rfl (Qi (Ze (Qc (Qh ?_))))); refine Qb rfl rfl ?_; refine Zb rfl rfl rfl ⟨by omega, by omega⟩ (Qe rfl rfl (Qi ?_))
     refine Zf (ks.length - (k' + 1)) [(1, _), (3, _), (4, _)] (by omega) ⟨rfl, rfl, rfl, trivial⟩ ⟨k' + 1, rfl, by omega, ?_, rfl, hle0⟩
     rw [Tr.sizes_take ks k' x hx]
     congr 4
     · omega
    ·
     refine Qi (Qc (Qr rfl (Zo (Q1 (Q1 ?_))))); refine Zp (Zm (Qb rfl rfl (Qe rfl rfl (Qi (Qc ?_))))); refine Qy (Q5 1 rfl rfl ?_)
     refine ⟨?_, rfl, hL⟩
     rw [List.take_of_length_le (by omega)]
     rfl
theorem diff_Count (k : Nat) : ∀ (t : Tr), t.size ≤ k → k ≤ 1073741824 → ∀ {w0 : World} {H : Hp} {own : List Seg} {a0 a1 : Value}, RdL H t.d [a0, a1] →
    Fn Tryz.prog 23 [.agg #[a0, a1]] w0 H own (fun v own' H' => v = .int .i64 (t.size : Int) ∧ own' = own ∧ Le H H') := by
  induction k with
  | zero => intro t h; have := t.size_pos; omega
  | succ k ih =>
    rintro ⟨l, ks⟩ hk hlim w0 H own a0 a1 ht
    obtain ⟨rfl, A, c, rfl, hc1, hc2, hA⟩ := tr_cells ht
    have hks : ks.length ≤ 1073741824 := by have := Tr.len_le ks; simp only [Tr.size] at hk; omega
    have hsz : Tr.sizes ks ≤ 1073741824 := by simp only [Tr.size] at hk; omega
    refine Fn.enter Tryz.func23 rfl Tryz.ntmps23 rfl ?_; have hL := Le.refl H; refine Qj (Qh ?_)
    refine Zx (c := #[_, _]) rfl rfl rfl ?_; intro g1; refine Qe rfl rfl (Q3 (Qe rfl rfl (Qi (Qc (Qj ?_))))); refine Qj (Qh (Qg rfl rfl (Qk 0 0 rfl rfl rfl rfl rfl (Qn rfl rfl (Qb rfl rfl ?_))))); refine Qi (Qc (Q6 ?_)); refine Zv (fun n env' own' H' => ∃ k', n = ks.length - k' ∧ k' ≤ ks.length ∧ env' = [(3, .int .i64 ((Tr.sizes (ks.take k') + 1 : Nat) : Int)), (7, .slice A ks.length c), (8, .int .i64 (ks.length : Int)), (9, .int .i64 (k' : Int))] ∧ own' = [(g1, .cells #[.string l, .slice A ks.length c] 26 (0, 0))] :: own ∧ Le H H') ks.length [(3, _), (7, _), (8, _), (9, _)] ⟨rfl, rfl, rfl, rfl, trivial⟩ ⟨0, by omega, by omega, by simp [Tr.sizes], rfl, Le.refl _⟩ ?_
    rintro n _ _ H1 ⟨k', rfl, hk1, rfl, rfl, hle0⟩
    have hb1 := Tr.sizes_take_le ks k'; have hL := Le.trans hL hle0; have hA := rd.mono hle0 hA; refine Qj (Qh ?_)
    refine Zz rfl rfl rfl (fun hlt => ?_) (fun hlt => ?_)
    ·
     obtain ⟨x, hx⟩ : ∃ x, ks[k']? = some x := ⟨_, List.getElem?_eq_getElem (by omega)⟩
     have hxs := Tr.size_mem (List.mem_of_getElem? hx)
     obtain ⟨b1, o1, p0, p1, rfl, hp, hpr⟩ := trs_at hA hx
     refine Qi (Qc (Qj (Qv rfl (Q2 (Qc ?_))))); refine Qj (Q6 (Qj (Qh ?_))); refine Qo (k') rfl rfl rfl (by omega) rfl ?_; refine Zd rfl (hp) rfl rfl ?_
     refine Zc rfl ?_; intro g5; refine Qq 0 0 (c' := #[_, _]) (own' := [(_, .cells #[_, _] _ _)] :: _) rfl rfl rfl rfl rfl (tr_ones hpr) (by simp) rfl rfl rfl (Qi (Qc (Qh (Qb rfl rfl ?_)))); refine Qm 0 0 [_, _] rfl rfl rfl ⟨rfl, rfl, trivial⟩ rfl rfl ?_; refine Qs (ih x (Tr.size_kid (List.mem_of_getElem? hx) hk) (by omega) hpr) ⟨rfl, trivial⟩ rfl ?_
     rintro _ _ H2 ⟨rfl, rfl, hle2⟩
     have hL := Le.trans hL hle2; have hle0 := Le.trans hle0 hle2; refine Zb rfl rfl rfl ⟨by omega, by omega⟩ (Qe rfl rfl (Qi (Ze (Qc (Qh ?_))))); refine Zb rfl rfl rfl ⟨by omega, by omega⟩ (Qb rfl rfl (Qi ?_))
     refine Zj 2 [1] rfl (fun o ho => ?_)
     simp only [K.sel, nrm] at ho; subst ho
     refine Zf (ks.length - (k' + 1)) [(3, _), (7, _), (8, _), (9, _)] (by omega) ⟨rfl, rfl, rfl, rfl, trivial⟩ ⟨k' + 1, rfl, by omega, ?_, rfl, hle0⟩
     rw [Tr.sizes_take ks k' x hx]
     congr 4
     · omega
    ·
     refine Qi (Qc (Qj (Qr rfl (Zo (Q1 ?_))))); refine Q1 (Zp (Zm (Qb rfl rfl (Qe rfl rfl (Qi ?_))))); refine Qc (Qy (Q5 1 rfl rfl ?_))
     refine ⟨?_, rfl, hL⟩
     rw [List.take_of_length_le (by omega)]
     rfl
theorem diff_clone (k : Nat) : ∀ (t : Tr), t.size ≤ k → k ≤ 1073741824 → ∀ {w0 : World} {H : Hp} {own : List Seg} {a0 a1 : Value}, RdL H t.d [a0, a1] →
    Fn Tryz.prog 33 [.agg #[a0, a1]] w0 H own (fun v own' H' => ∃ c0 c1, v = .agg #[c0, c1] ∧ RdL H' t.d [c0, c1] ∧ own' = own ∧ Le H H') := by
  induction k with
  | zero => intro t h; have := t.size_pos; omega
  | succ k ih =>
    rintro ⟨l, ks⟩ hk hlim w0 H own a0 a1 ht
    obtain ⟨rfl, A, c, rfl, hc1, hc2, hA⟩ := tr_cells ht
    have hks : ks.length ≤ 1073741824 := by have := Tr.len_le ks; simp only [Tr.size] at hk; omega
    have hsz : Tr.sizes ks ≤ 1073741824 := by simp only [Tr.size] at hk; omega
    refine Fn.enter Tryz.func33 rfl Tryz.ntmps33 rfl ?_; have hL := Le.refl H; refine Qj (Qh ?_)
    refine Zx (c := #[_, _]) rfl rfl rfl ?_; intro g1
    refine Zc rfl ?_; intro g2; refine Q3 (Qg rfl rfl (Qk 1 0 rfl rfl rfl rfl rfl ?_)); refine Q8 [(0, [_])] ⟨rfl, ⟨_, rfl, rfl⟩, trivial⟩ rfl rfl ?_
    refine Zc rfl ?_; intro g3; refine Qq 0 0 (c' := #[_, _]) (own' := [(_, .cells #[_, _] _ _)] :: _) rfl rfl rfl rfl rfl ⟨rfl, rfl, trivial⟩ (by simp) rfl rfl rfl (Qi (Qc (Qj (Qj (Z4 ?_))))); refine Qh (Qg rfl rfl (Qk 3 0 rfl rfl rfl rfl rfl (Qn rfl rfl (Qb rfl rfl (Qi ?_))))); refine Qc (Q6 ?_)
    refine Zv (fun n env' own' H' => ∃ k' v xs seg, n = ks.length - k' ∧ k' ≤ ks.length ∧ Row 26 2 v k' xs seg ∧ RdL H' (Tr.ds (ks.take k')) xs ∧ env' = [(2, .pointer (some ⟨g2, 0, none⟩)), (3, .pointer (some ⟨g3, 0, none⟩)), (10, .slice A ks.length c), (11, .int .i64 (ks.length : Int)), (12, .int .i64 (k' : Int))] ∧ own' = seg :: [(g3, .cells #[.string l, v] 26 (0, 0))] :: [(g2, .cells #[.string ⟨#[]⟩, .slice none 0 0] 26 (0, 0))] :: [(g1, .cells #[.string l, .slice A ks.length c] 26 (0, 0))] :: own ∧ Le H H') ks.length [(2, _), (3, _), (10, _), (11, _), (12, _)] ⟨rfl, rfl, rfl, rfl, rfl, trivial⟩ ⟨0, _, [], [], by omega, by omega, Row.nil 26 2, trivial, rfl, rfl, Le.refl _⟩ ?_
    rintro n _ _ H1 ⟨k', v, xs, seg, rfl, hk1, hrow, hxs, rfl, rfl, hle0⟩
    have hL := Le.trans hL hle0; have hA := rd.mono hle0 hA; refine Qj (Qh ?_)
    refine Zz rfl rfl rfl (fun hlt => ?_) (fun hlt => ?_)
    ·
     obtain ⟨x, hx⟩ : ∃ x, ks[k']? = some x := ⟨_, List.getElem?_eq_getElem (by omega)⟩
     obtain ⟨b1, o1, p0, p1, rfl, hp, hpr⟩ := trs_at hA hx
     refine Qi (Qc (Qj (Qv rfl (Q2 (Qc ?_))))); refine Qj (Q6 (Qj (Qh ?_))); refine Qo (k') rfl rfl rfl (by omega) rfl ?_; refine Zd rfl (hp) rfl rfl ?_
     refine Zc rfl ?_; intro g5; refine Qq 0 0 (c' := #[_, _]) (own' := [(_, .cells #[_, _] _ _)] :: _) rfl rfl rfl rfl rfl (tr_ones hpr) (by simp) rfl rfl rfl (Qi (Qc ?_)); refine Q4 5  [(2, _), (3, _), (10, _), (11, _), (12, _), (5, _)] follows_mixed ⟨rfl, rfl, rfl, rfl, rfl, rfl, trivial⟩ ?_; refine Qa (some 16) [] (fun _ _ _ _ hF => Qg rfl rfl (Qd hF)) ?_
     refine Qa (some 17) [(0, 0)] (by
      intro H' X F hle; have hL := Le.trans hL hle; intro hF; refine Qk 2 0 rfl rfl rfl rfl rfl ?_
      exact Qd hF) ?_
     refine Qa (some 18) [] (by
      intro H' X F hle; have hL := Le.trans hL hle; intro hF; refine Qm 0 0 [_, _] rfl rfl rfl ⟨rfl, rfl, trivial⟩ rfl rfl ?_
      exact Qd hF) ?_
     refine Q9 (some 19) [(2, 0)] ([]) (fun _ => fun u s H => ∃ c0 c1, u = .agg #[c0, c1] ∧ RdL H x.d [c0, c1] ∧ s = []) (by
      intro H' X F hle; have hL := Le.trans hL hle; have hpr := RdL.mono hle hpr; intro hF; refine Qs (ih x (Tr.size_kid (List.mem_of_getElem? hx) hk) (by omega) hpr) ⟨rfl, trivial⟩ rfl ?_
      rintro _ _ H2 ⟨c0, c1, rfl, hr, rfl, hle2⟩
      refine Qi ?_
      exact Q7 [] hF hle2 ⟨c0, c1, rfl, hr, rfl⟩) ?_
     refine Q9 (some 20) [(3, 0)] ([]) (fun _ => fun u s H => ∃ g c0 c1, u = .slice (some ⟨g, 0, none⟩) 1 1 ∧ s = [[(g, .cells #[c0, c1] 26 (0, 0))]] ∧ RdL H x.d [c0, c1]) (by
      intro H' X F hle; have hL := Le.trans hL hle; intro _
      rintro _ _ Hr hler ⟨c0, c1, rfl, hr, rfl⟩
      intro hF
      refine Zg (r := [_, _]) [(0, [_, _])] ⟨rfl, ⟨_, rfl, rfl⟩, trivial⟩ rfl rfl rfl rfl ?_; intro g20; refine Qi ?_
      exact Q7 [_] hF (Le.refl _) ⟨_, _, _, rfl, rfl, RdL.mono hler hr⟩) ?_
     refine ⟨by kernel_rfl, .refl _, ?_⟩
     ·
      intro H1 hle
      rintro _ _ Hr hler ⟨c0, c1, rfl, hr, rfl⟩
      rintro _ _ Hr hler ⟨g20, d0, d1, rfl, rfl, hr⟩
      replace hr := RdL.mono hler hr
      have hL := Le.trans hL hle; have hle0 := Le.trans hle0 hle; have hxs := RdL.mono hle hxs; refine Qw (own' := _ :: _ :: _ :: _ :: _ :: _ :: own) rfl ?_; refine Zi (env' := [(2, _), (3, _), (10, _), (11, _), (12, _), (5, _), (17, _), (20, _)]) ⟨rfl, rfl, rfl, rfl, rfl, rfl, rfl, rfl, trivial⟩ ?_; refine Zh 2 rfl rfl rfl hrow (Src.ofOwn 0 0 rfl rfl rfl (Ones.all (tr_ones hr)) ⟨rfl, rfl, trivial⟩) (by omega) (by omega) rfl ?_; intro v' seg' hrow'; refine Qg rfl rfl ?_; refine Zq 3 0 (c' := #[_, _]) (own' := _ :: _ :: _ :: [(_, .cells #[_, _] _ _)] :: _) rfl rfl rfl rfl hrow'.one (by simp) rfl rfl rfl (Qi (Ze (Qc (Qh ?_)))); refine Zb rfl rfl rfl ⟨by omega, by omega⟩ (Qb rfl rfl (Qi (TQ.drop 2 ?_)))
      refine Zf (ks.length - (k' + 1)) [(2, _), (3, _), (10, _), (11, _), (12, _)] (by omega) ⟨rfl, rfl, rfl, rfl, rfl, trivial⟩ ⟨k' + 1, v', _, seg', rfl, by omega, hrow', ?_, by simp, rfl, hle0⟩
      rw [List.take_add_one, hx]
      exact trs_snoc hxs hr
    ·
     refine Qi (Qc (Qj (Qr rfl (Zo (Q1 ?_))))); refine Q1 (Zp (Zm ?_)); refine Qm 1 0 [_, _] rfl rfl rfl ⟨rfl, rfl, trivial⟩ rfl rfl ?_; refine Qq 2 0 (c' := #[_, _]) (own' := _ :: _ :: [(_, .cells #[_, _] _ _)] :: _) rfl rfl rfl rfl rfl ⟨rfl, hrow.one, trivial⟩ (by simp) rfl rfl rfl (Qi (Qc (Qy ?_)))
     refine Zs (fun H2 hle hz_row => ?_)
     have hL := Le.trans hL hle; have hxs := RdL.mono hle hxs; refine TQ.retC 1 0 3 [_, _] rfl rfl rfl rfl ⟨rfl, rfl, trivial⟩ rfl rfl ?_
     refine ⟨_, _, rfl, tr_mk (rd.ofRow hrow hz_row ?_ (Le.refl _)), rfl, hL⟩
     rw [List.take_of_length_le (by omega)] at hxs
     exact hxs
theorem ref_Own (k : Nat) : ∀ (t : Tr), t.size ≤ k → k ≤ 1073741824 → ∀ {w0 : World} {H : Hp} {own : List Seg} {a0 a1 : Value}, RdL H t.d [a0, a1] →
    Fn Tryz.prog 21 [.agg #[a0, a1]] w0 H own (fun v own' H' => ∃ c0 c1, v = .agg #[c0, c1] ∧ RdL H' t.d [c0, c1] ∧ own' = own ∧ Le H H') := by
  induction k with
  | zero => intro t h; have := t.size_pos; omega
  | succ k ih =>
    rintro ⟨l, ks⟩ hk hlim w0 H own a0 a1 ht
    obtain ⟨rfl, A, c, rfl, hc1, hc2, hA⟩ := tr_cells ht
    have hks : ks.length ≤ 1073741824 := by have := Tr.len_le ks; simp only [Tr.size] at hk; omega
    have hsz : Tr.sizes ks ≤ 1073741824 := by simp only [Tr.size] at hk; omega
    refine Fn.enter Tryz.func21 rfl Tryz.ntmps21 rfl ?_; have hL := Le.refl H; refine Qj (Qh ?_)
    refine Zx (c := #[_, _]) rfl rfl rfl ?_; intro g1
    refine Zc rfl ?_; intro g2; refine Q3 (Qg rfl rfl (Qk 1 0 rfl rfl rfl rfl rfl ?_)); refine Q8 [(0, [_])] ⟨rfl, ⟨_, rfl, rfl⟩, trivial⟩ rfl rfl ?_
    refine Zc rfl ?_; intro g3; refine Qq 0 0 (c' := #[_, _]) (own' := [(_, .cells #[_, _] _ _)] :: _) rfl rfl rfl rfl rfl ⟨rfl, rfl, trivial⟩ (by simp) rfl rfl rfl (Qi (Qc (Qj (Qj (Z4 ?_))))); refine Qh (Qe rfl rfl (Qi (Qc (Q6 ?_))))
    refine Zv (fun n env' own' H' => ∃ k' v xs seg, n = ks.length - k' ∧ k' ≤ ks.length ∧ Row 26 2 v k' xs seg ∧ RdL H' (Tr.ds (ks.take k')) xs ∧ env' = [(1, .pointer (some ⟨g1, 0, none⟩)), (2, .pointer (some ⟨g2, 0, none⟩)), (3, .pointer (some ⟨g3, 0, none⟩)), (4, .int .i64 (k' : Int))] ∧ own' = seg :: [(g3, .cells #[.string l, v] 26 (0, 0))] :: [(g2, .cells #[.string ⟨#[]⟩, .slice none 0 0] 26 (0, 0))] :: [(g1, .cells #[.string l, .slice A ks.length c] 26 (0, 0))] :: own ∧ Le H H') ks.length [(1, _), (2, _), (3, _), (4, _)] ⟨rfl, rfl, rfl, rfl, trivial⟩ ⟨0, _, [], [], by omega, by omega, Row.nil 26 2, trivial, rfl, rfl, Le.refl _⟩ ?_
    rintro n _ _ H1 ⟨k', v, xs, seg, rfl, hk1, hrow, hxs, rfl, rfl, hle0⟩
    have hL := Le.trans hL hle0; have hA := rd.mono hle0 hA; refine Qj (Qj (Qh (Qb rfl rfl (Qg rfl rfl (Qk 3 0 rfl rfl rfl rfl rfl ?_))))); refine Qn rfl rfl ?_
    refine Zz rfl rfl rfl (fun hlt => ?_) (fun hlt => ?_)
    ·
     obtain ⟨x, hx⟩ : ∃ x, ks[k']? = some x := ⟨_, List.getElem?_eq_getElem (by omega)⟩
     obtain ⟨b1, o1, p0, p1, rfl, hp, hpr⟩ := trs_at hA hx
     refine Qi (Qc (Qv rfl (Q2 (Qc (Qj ?_))))); refine Q6 ?_; refine Q4 9  [(1, _), (2, _), (3, _), (4, _)] follows_mixed ⟨rfl, rfl, rfl, rfl, trivial⟩ ?_; refine Qa (some 15) [] (fun _ _ _ _ hF => Qg rfl rfl (Qd hF)) ?_
     refine Qa (some 16) [(0, 0)] (by
      intro H' X F hle; have hL := Le.trans hL hle; intro hF; refine Qk 1 0 rfl rfl rfl rfl rfl ?_
      exact Qd hF) ?_
     refine Qa (some 17) [] (fun _ _ _ _ hF => Qg rfl rfl (Qd hF)) ?_
     refine Qa (some 18) [(2, 0)] (by
      intro H' X F hle; have hL := Le.trans hL hle; intro hF; refine Qk 3 0 rfl rfl rfl rfl rfl ?_
      exact Qd hF) ?_
     refine Qa (some 19) [] (fun _ _ _ _ hF => Qb rfl rfl (Qd hF)) ?_; refine Qa (some 20) [(3, 1), (4, 0)] (fun _ _ _ _ hF => Qo (k') rfl rfl rfl (by omega) rfl (Qd hF)) ?_
     refine Qa (some 21) [(5, 0)] (by
      intro H' X F hle; have hL := Le.trans hL hle; have hp := hAt.mono hle hp; intro hF; refine Zd rfl (hp) rfl rfl ?_
      exact Qd hF) ?_
     refine Q9 (some 22) [(6, 0)] ([]) (fun _ => fun u s H => ∃ c0 c1, u = .agg #[c0, c1] ∧ RdL H x.d [c0, c1] ∧ s = []) (by
      intro H' X F hle; have hL := Le.trans hL hle; have hpr := RdL.mono hle hpr; intro hF; refine Qs (ih x (Tr.size_kid (List.mem_of_getElem? hx) hk) (by omega) hpr) ⟨rfl, trivial⟩ rfl ?_
      rintro _ _ H2 ⟨c0, c1, rfl, hr, rfl, hle2⟩
      refine Qi ?_
      exact Q7 [] hF hle2 ⟨c0, c1, rfl, hr, rfl⟩) ?_
     refine Q9 (some 23) [(7, 0)] ([]) (fun _ => fun u s H => ∃ g c0 c1, u = .slice (some ⟨g, 0, none⟩) 1 1 ∧ s = [[(g, .cells #[c0, c1] 26 (0, 0))]] ∧ RdL H x.d [c0, c1]) (by
      intro H' X F hle; have hL := Le.trans hL hle; intro _
      rintro _ _ Hr hler ⟨c0, c1, rfl, hr, rfl⟩
      intro hF
      refine Zg (r := [_, _]) [(0, [_, _])] ⟨rfl, ⟨_, rfl, rfl⟩, trivial⟩ rfl rfl rfl rfl ?_; intro g23; refine Qi ?_
      exact Q7 [_] hF (Le.refl _) ⟨_, _, _, rfl, rfl, RdL.mono hler hr⟩) ?_
     refine ⟨by kernel_rfl, .refl _, ?_⟩
     ·
      intro H1 hle
      rintro _ _ Hr hler ⟨c0, c1, rfl, hr, rfl⟩
      rintro _ _ Hr hler ⟨g20, d0, d1, rfl, rfl, hr⟩
      replace hr := RdL.mono hler hr
      have hL := Le.trans hL hle; have hle0 := Le.trans hle0 hle; have hxs := RdL.mono hle hxs; refine Qw (own' := _ :: _ :: _ :: _ :: _ :: own) rfl ?_; refine Zi (env' := [(1, _), (2, _), (3, _), (4, _), (16, _), (23, _)]) ⟨rfl, rfl, rfl, rfl, rfl, rfl, trivial⟩ ?_; refine Zh 1 rfl rfl rfl hrow (Src.ofOwn 0 0 rfl rfl rfl (Ones.all (tr_ones hr)) ⟨rfl, rfl, trivial⟩) (by omega) (by omega) rfl ?_; intro v' seg' hrow'; refine Qg rfl rfl ?_; refine Zq 2 0 (c' := #[_, _]) (own' := _ :: _ :: [(_, .cells #[_, _] _ _)] :: _) rfl rfl rfl rfl hrow'.one (by simp) rfl rfl rfl (Qi (Ze (Qc (Qh (Qb rfl rfl ?_))))); refine Zb rfl rfl rfl ⟨by omega, by omega⟩ (Qe rfl rfl (Qi ?_))
      refine Zj 5 [1, 2, 3, 4] rfl (fun o ho => ?_)
      simp only [K.sel, nrm] at ho; subst ho
      refine Zf (ks.length - (k' + 1)) [(1, _), (2, _), (3, _), (4, _)] (by omega) ⟨rfl, rfl, rfl, rfl, trivial⟩ ⟨k' + 1, v', _, seg', rfl, by omega, hrow', ?_, by simp, rfl, hle0⟩
      rw [List.take_add_one, hx]
      exact trs_snoc hxs hr
    ·
     refine Qi (Qc (Qr rfl (Zo (Q1 (Q1 ?_))))); refine Zp (Zm ?_); refine Qm 1 0 [_, _] rfl rfl rfl ⟨rfl, rfl, trivial⟩ rfl rfl ?_; refine Qq 2 0 (c' := #[_, _]) (own' := _ :: _ :: [(_, .cells #[_, _] _ _)] :: _) rfl rfl rfl rfl rfl ⟨rfl, hrow.one, trivial⟩ (by simp) rfl rfl rfl (Qi (Qc (Qy ?_)))
     refine Zs (fun H2 hle hz_row => ?_)
     have hL := Le.trans hL hle; have hxs := RdL.mono hle hxs; refine TQ.retC 1 0 3 [_, _] rfl rfl rfl rfl ⟨rfl, rfl, trivial⟩ rfl rfl ?_
     refine ⟨_, _, rfl, tr_mk (rd.ofRow hrow hz_row ?_ (Le.refl _)), rfl, hL⟩
     rw [List.take_of_length_le (by omega)] at hxs
     exact hxs

end Go.Proofs.YtaomdfcplamenaaGreatDoor.K

namespace Go.Proofs.YtaomdfcplamenaaGreatDoor.K
open Go Go.RowKit Go.ChangeMaps Go.MapKept Go.WideMaps
open Go.WideElems (Fit rg rd_val)
open Go.Maps (string_keyed atKey_put_same atKey_put_other)

abbrev strK (s : ByteArray) : Lit := .string s.data.toList
def mapD (P : Program) (k e : TypeId) (es : Array MapEntry) : DataW Unit := .map ((es.toList.map (rg P k (plainElem P e))).foldr DataW.insert [])
/-- The object is a map of at most n entries with what f says. -/
def MapO (P : Program) (k e : TypeId) (o : Obj) (n : Nat) (f : ByteArray → Option Value) : Prop :=
  ∃ es clock, o = .map es clock ∧ Fit P k (plainElem (H := Unit) P e) es clock ∧ es.size ≤ n ∧
    ∀ s, (f s = none → ∀ zd, (mapD P k e es).atKey (strK s) zd = zd) ∧ ∀ v, f s = some v → ∃ d, plainElem (H := Unit) P e v = some (d, []) ∧ ∀ zd, (mapD P k e es).atKey (strK s) zd = d
theorem MapO.nil (P : Program) (k e : TypeId) : MapO P k e (.map #[] 0) 0 (fun _ => none) :=
  ⟨#[], 0, rfl, ⟨by simp, stamped_empty 0, by simp⟩, Nat.le_refl _, fun s => ⟨fun _ zd => by simp [mapD]; rfl, fun v h => by cases h⟩⟩
theorem strK_inj {s t : ByteArray} (h : strK s = strK t) : s = t := by
  have h1 : s.data.toList = t.data.toList := by injection h
  cases s; cases t
  congr
  exact Array.toList_inj.1 h1
theorem nil_lit (d : DataW Unit) (h : ∀ zd : DataW Unit, zd = d) : False := by
  have h1 := h (.lit (.bool true))
  have h2 := h (.lit (.bool false))
  rw [← h2] at h1
  cases h1
theorem MapO.look {P : Program} {k e t : TypeId} {w : World} {b n : Nat} {o : Obj} {f : ByteArray → Option Value} (hk : P.underlying k = some .string) (ht : P.underlying t = some (.map k e))
    (hinj : ∀ v v' d d', plainElem (H := Unit) P e v = some d → plainElem (H := Unit) P e v' = some d' → d.1 = d'.1 → v = v') {z : Value} (hz : (zeroValue e).run P w = .ok z w) (hb : w.heap[b]? = some o) (h : MapO P k e o n f)
    {s : ByteArray} (hs : s.size ≤ maxLen) (c : Bool) : (Instr.lookup t (.map (some b)) (.string s) c).run P w = .ok (if c then .tuple #[(f s).getD z, .bool (f s).isSome] else (f s).getD z) w := by
  obtain ⟨es, clock, rfl, F, _, hf⟩ := h
  rcases Maps.fit_look c (string_keyed hk) ht hz hb F (keyOf_string_mk hk hs) with ⟨hrun, _, hat⟩ | ⟨e0, y, _, _, hrun, hRv, hat, _⟩
  · rw [hrun]
    cases h1 : f s with
    | none => rfl
    | some v =>
      obtain ⟨d, _, h3⟩ := (hf s).2 v h1
      exact (nil_lit d (fun zd => by rw [← h3 zd]; exact (hat zd).symm)).elim
  · rw [hrun]
    cases h1 : f s with
    | none => exact (nil_lit y.1 (fun zd => by rw [← hat zd]; exact ((hf s).1 h1 zd).symm)).elim
    | some v =>
      obtain ⟨d, h2, h3⟩ := (hf s).2 v h1
      have : v = e0.val := hinj _ _ _ _ h2 hRv (by rw [← h3 .nil]; exact hat .nil)
      subst this; rfl
theorem MapO.put {P : Program} {k e t : TypeId} {w : World} {b n : Nat} {o : Obj} {f : ByteArray → Option Value} (hk : P.underlying k = some .string) (ht : P.underlying t = some (.map k e))
    (hb : w.heap[b]? = some o) (h : MapO P k e o n f) (hn : n < maxLen) {s : ByteArray} (hs : s.size ≤ maxLen) {v : Value} {d : DataW Unit} (hv : plainElem (H := Unit) P e v = some (d, [])) :
    ∃ o', (Instr.mapUpdate t (.map (some b)) (.string s) v).run P w = .ok () (setBlock w b o') ∧ MapO P k e o' (n + 1) (fun s' => if s' = s then some v else f s') := by
  obtain ⟨es, clock, rfl, F, hsz, hf⟩ := h
  obtain ⟨es', clock', hrun, F', hput, _⟩ := Maps.fit_store (R' := plainElem (H := Unit) P e) (string_keyed hk) ht hb F (Nat.lt_of_le_of_lt hsz hn) (fun _ _ _ _ hz => hz) (keyOf_string_mk hk hs) hv
  have hD : mapD P k e es' = (mapD P k e es).put (strK s) d := by unfold mapD; rw [DataW.put_eq, hput]
  refine ⟨_, hrun, es', clock', rfl, F', ?_, fun s' => ?_⟩
  · have e1 : es'.size = ((es'.toList.map (rg P k (plainElem (H := Unit) P e))).foldr DataW.insert []).length := by rw [length_sorted]; simp
    rw [e1, hput]
    unfold putKey
    rw [length_insert]
    have e2 := List.length_filter_le (notKey (strK s)) ((es.toList.map (rg P k (plainElem (H := Unit) P e))).foldr DataW.insert [])
    have e3 : ((es.toList.map (rg P k (plainElem (H := Unit) P e))).foldr DataW.insert []).length = es.size := by rw [length_sorted]; simp
    rw [e3] at e2
    exact Nat.succ_le_succ (Nat.le_trans e2 hsz)
  · rw [hD]
    by_cases h1 : s' = s
    · subst h1
      refine ⟨fun h2 => by simp at h2, fun v' h2 => ?_⟩
      simp at h2; subst h2
      exact ⟨d, hv, fun zd => atKey_put_same ⟨_, rfl⟩ ((string_keyed hk).key (keyOf_string_mk hk hs)) d zd⟩
    · have hne : strK s' ≠ strK s := fun e => h1 (strK_inj e)
      simp only [h1, if_false]
      refine ⟨fun h2 zd => ?_, fun v' h2 => ?_⟩
      · rw [atKey_put_other hne]; exact (hf s').1 h2 zd
      · obtain ⟨d', h3, h4⟩ := (hf s').2 v' h2
        exact ⟨d', h3, fun zd => by rw [atKey_put_other hne]; exact h4 zd⟩
/-! in our frames -/
theorem St.setObj {w0 w : World} {own : List Seg} {H : Hp} (h : St w0 H own w) {i j : Nat} {seg : Seg} (hi : own[i]? = some seg) {g : Nat} {o o' : Obj} (hj : seg[j]? = some (g, o)) :
    St w0 H (own.set i (seg.set j (g, o'))) (setBlock w g o') := by
  obtain ⟨l1, l2, rfl, rfl⟩ := split_at hj
  have hset : (l1 ++ (g, o) :: l2).set l1.length (g, o') = l1 ++ (g, o') :: l2 := by simp
  rw [hset]
  have hb := h.own_blk hi hj
  have hlt : g < w.heap.size := (Array.getElem?_eq_some_iff.1 hb).1
  have hsame : (setBlock w g o').heap[g]? = some o' := by simp [setBlock, hlt]
  have hother : ∀ b, b ≠ g → (setBlock w g o').heap[b]? = w.heap[b]? := fun b hne => by simp [setBlock, Array.getElem?_setIfInBounds, Ne.symm hne]
  have hk : (l1 ++ (g, o') :: l2).map (·.1) = (l1 ++ (g, o) :: l2).map (·.1) := by simp
  have hnd : ((l1 ++ (g, o) :: l2).map (·.1)).Nodup := by
    have hn := h.nodup
    obtain ⟨m1, m2, rfl, _⟩ := split_at hi
    simp only [List.flatten_append, List.flatten_cons, List.map_append, List.nodup_append] at hn
    simpa only [List.map_append, List.nodup_append] using hn.2.1.1
  refine h.upd hi rfl ⟨rfl, Nat.le_refl _⟩ rfl (fun b hbl hnb => hother b (fun he => hnb (by subst he; simp))) (fun p hp => ?_) (by rw [hk]; exact hnd) (fun p hp => .inl (by rw [← hk]; exact List.mem_map.2 ⟨p, hp, rfl⟩))
  by_cases hpg : p.1 = g
  · have : p = (g, o') := by
      have hn2 := hnd
      rw [← hk] at hn2
      simp only [List.map_append, List.map_cons, List.nodup_append, List.nodup_cons, List.mem_cons] at hn2
      obtain ⟨n1, ⟨n2, n3⟩, n4⟩ := hn2
      rcases List.mem_append.1 hp with hq | hq
      · exact absurd hpg (n4 p.1 (List.mem_map.2 ⟨p, hq, rfl⟩) g (.inl rfl))
      · rcases List.mem_cons.1 hq with rfl | hq
        · rfl
        · exact absurd (List.mem_map.2 ⟨p, hq, hpg⟩) n2
    subst this
    exact hsame
  · rw [hother p.1 hpg]
    refine h.own_at p (h.mem_at hi ?_)
    rcases List.mem_append.1 hp with hq | hq
    · exact List.mem_append.2 (.inl hq)
    · rcases List.mem_cons.1 hq with rfl | hq
      · exact absurd rfl hpg
      · exact List.mem_append.2 (.inr (List.mem_cons_of_mem _ hq))
section
variable {P : Program} {w0 : World} {N : Nat} {Q : Exit → Act → World → Prop} {env : Env} {own : List Seg} {H : Hp} {ops : Array Oper} {rest : List Oper}
variable {d : Option Tmp} {ty : TypeId} {pos : String} {af : Array Edge}
theorem TL.look {t k e : TypeId} {m x : Operand} {g n : Nat} {o : Obj} {f : ByteArray → Option Value} {s : ByteArray} {c : Bool} {z : Value} (hm : ev env m = some (.map (some g))) (hx : ev env x = some (.string s))
    [hk : Und P k .string] [ht : Und P t (.map k e)] (hg : H g = some o) (ho : MapO P k e o n f) (hs : s.size ≤ maxLen) (hinj : ∀ v v' d d', plainElem (H := Unit) P e v = some d → plainElem (H := Unit) P e v' = some d' → d.1 = d'.1 → v = v')
    (hz : ∀ w, (zeroValue e).run P w = .ok z w) (hd : okD N d = true) (h : TL P w0 N Q ops rest (putE d (if c then .tuple #[(f s).getD z, .bool (f s).isSome] else (f s).getD z) env) own H) :
    TL P w0 N Q ops ({ dst := d, op := .lookup t m x c, type := ty, pos := pos, after := af, guard := none } :: rest) env own H :=
  TL.val rfl hd (fun a w ha hw => ⟨w, by
    have := MapO.look (w := w) hk.eq ht.eq hinj (hz w) (hw.imm g o hg) ho hs c
    simp [execOp, ha.ev hm, ha.ev hx, this], hw⟩) h
theorem TL.newMap {t : TypeId} (hd : okD N d = true)
    (h : ∀ g, TL P w0 N Q ops rest (putE d (.map (some g)) env) ([(g, .map #[] 0)] :: own) H) :
    TL P w0 N Q ops ({ dst := d, op := .makeMap t none, type := ty, pos := pos, after := af, guard := none } :: rest) env own H :=
  TL.valE (φ := fun v own' H' => ∃ g, v = .map (some g) ∧ own' = [(g, .map #[] 0)] :: own ∧ H' = H) rfl hd
    (fun a w ha hw => ⟨_, _, _, w.alloc (.map #[] 0), by
      have : (Instr.makeMap t none).run P w = .ok (.map (some w.heap.size)) (w.alloc (.map #[] 0)) := by simp [Instr.makeMap]
      simp [execOp, this], ⟨w.heap.size, rfl, rfl, rfl⟩, hw.new _⟩)
    (by rintro v own' H' ⟨g, rfl, rfl, rfl⟩; exact h g)
end
end Go.Proofs.YtaomdfcplamenaaGreatDoor.K

namespace Go.Proofs.YtaomdfcplamenaaGreatDoor.K
open Go Go.RowKit Go.ChangeMaps Go.MapKept Go.WideMaps
open Go.WideElems (Fit rg rd_val)
open Go.Maps (Keyed fit_look fit_store notKey_iff)

/-- The object is a map of n entries; f says what stands at each key. -/
def MapG (P : Program) (k e : TypeId) (o : Obj) (n : Nat) (f : Value → Option Value) : Prop :=
  ∃ es clock, o = .map es clock ∧ Fit P k (plainElem (H := Unit) P e) es clock ∧ es.size = n ∧ (∀ x ∈ es.toList, f x.key = some x.val) ∧ ∀ key kl, keyOf P k key = some kl → f key ≠ none → ∃ x ∈ es.toList, x.key = key
theorem MapG.nil (P : Program) (k e : TypeId) : MapG P k e (.map #[] 0) 0 (fun _ => none) :=
  ⟨#[], 0, rfl, ⟨by simp, stamped_empty 0, by simp⟩, rfl, by simp, fun _ _ _ h => absurd rfl h⟩
theorem MapG.congr {P : Program} {k e : TypeId} {o : Obj} {n : Nat} {f g : Value → Option Value} (h : MapG P k e o n f) (hfg : ∀ s, f s = g s) : MapG P k e o n g := by
  have : f = g := funext hfg
  rw [← this]; exact h
theorem MapG.look {P : Program} {k e t : TypeId} {w : World} {b n : Nat} {o : Obj} {f : Value → Option Value} (K : Keyed P k) (ht : P.underlying t = some (.map k e))
    {z : Value} (hz : (zeroValue e).run P w = .ok z w) (hb : w.heap[b]? = some o) (h : MapG P k e o n f) {key : Value} {kl : Lit} (hk : keyOf P k key = some kl) (c : Bool) :
    (Instr.lookup t (.map (some b)) key c).run P w = .ok (if c then .tuple #[(f key).getD z, .bool (f key).isSome] else (f key).getD z) w := by
  obtain ⟨es, clock, rfl, F, _, hf, hg⟩ := h
  rcases fit_look c K ht hz hb F hk with ⟨hrun, hno, _⟩ | ⟨e0, y, hm, rfl, hrun, _, _, _⟩
  · rw [hrun]
    cases h1 : f key with
    | none => rfl
    | some v =>
      obtain ⟨x, hx, hxk⟩ := hg key kl hk (by rw [h1]; simp)
      exact absurd hxk (hno x hx)
  · rw [hrun, hf e0 hm]
    rfl
theorem MapG.put {P : Program} {k e t : TypeId} {w : World} {b n : Nat} {o : Obj} {f : Value → Option Value} (K : Keyed P k) (ht : P.underlying t = some (.map k e))
    (hb : w.heap[b]? = some o) (h : MapG P k e o n f) (hn : n < maxLen) {key : Value} {kl : Lit} (hk : keyOf P k key = some kl) {v : Value} {d : DataW Unit} (hv : plainElem (H := Unit) P e v = some (d, [])) (hnone : f key = none)
    {g : Value → Option Value} (hg1 : g key = some v) (hg2 : ∀ s, s ≠ key → g s = f s) :
    ∃ o', (Instr.mapUpdate t (.map (some b)) key v).run P w = .ok () (setBlock w b o') ∧ MapG P k e o' (n + 1) g := by
  obtain ⟨es, clock, rfl, F, rfl, hf, hg⟩ := h
  obtain ⟨es', clock', hrun, F', hput, _, _, hwho⟩ := fit_store (R' := plainElem (H := Unit) P e) K ht hb F hn (fun _ _ _ _ hz => hz) hk hv
  have hno : ∀ x ∈ es.toList, x.key ≠ key := fun x hx he => by
    have := hf x hx
    rw [he, hnone] at this
    cases this
  have hfil : ((es.toList.map (rg P k (plainElem (H := Unit) P e))).foldr DataW.insert []).filter (notKey kl) = (es.toList.map (rg P k (plainElem (H := Unit) P e))).foldr DataW.insert [] := by
    refine List.filter_eq_self.2 fun p hp => ?_
    have hp2 := (WideShapes.sorted_perm _).mem_iff.1 hp
    obtain ⟨x, hx, rfl⟩ := List.mem_map.1 hp2
    obtain ⟨y, hy⟩ := F.reads x hx
    rw [WideElems.rg_of hy]
    refine (notKey_iff (K.key hk)).2 fun e1 => hno x hx ?_
    have m1 := WideElems.rd_key hy
    rw [e1] at m1
    exact K.inj m1 hk
  have hperm : (es'.toList.map (rg P k (plainElem (H := Unit) P e))).Perm ((kl, d) :: es.toList.map (rg P k (plainElem (H := Unit) P e))) := by
    refine (WideShapes.sorted_perm _).symm.trans ?_
    rw [hput]
    unfold putKey
    refine (WideShapes.insert_perm _ _).trans ?_
    rw [hfil]
    exact (WideShapes.sorted_perm _).cons _
  refine ⟨_, hrun, es', clock', rfl, F', ?_, fun x hx => ?_, fun key' kl' hk' hne => ?_⟩
  · have := hperm.length_eq
    simpa using this
  · rcases hwho x hx with ⟨h1, h2⟩ | ⟨h1, h2⟩
    · rw [hg2 _ h2]; exact hf x h1
    · rw [h1, h2, hg1]
  · have key_in : ∀ p ∈ es'.toList.map (rg P k (plainElem (H := Unit) P e)), p.1 = kl' → ∃ x ∈ es'.toList, x.key = key' := by
      intro p hp hpk
      obtain ⟨x, hx, rfl⟩ := List.mem_map.1 hp
      obtain ⟨y, hy⟩ := F'.reads x hx
      rw [WideElems.rg_of hy] at hpk
      have m1 := WideElems.rd_key hy
      rw [hpk] at m1
      exact ⟨x, hx, K.inj m1 hk'⟩
    by_cases he : key' = key
    · subst he
      rw [hk] at hk'
      injection hk' with hk'
      subst hk'
      exact key_in (kl, d) (hperm.mem_iff.2 (by simp)) rfl
    · rw [hg2 _ he] at hne
      obtain ⟨x, hx, rfl⟩ := hg key' kl' hk' hne
      obtain ⟨y, hy⟩ := F.reads x hx
      have m1 := WideElems.rd_key hy
      rw [hk'] at m1
      injection m1 with m1
      exact key_in _ (hperm.mem_iff.2 (List.mem_cons_of_mem _ (List.mem_map.2 ⟨x, hx, rfl⟩))) (by rw [WideElems.rg_of hy]; exact m1.symm)
section
variable {P : Program} {w0 : World} {N : Nat} {Q : Exit → Act → World → Prop} {env : Env} {own : List Seg} {H : Hp} {ops : Array Oper} {rest : List Oper}
variable {d : Option Tmp} {ty : TypeId} {pos : String} {af : Array Edge}
theorem TL.mapSetG (i j : Nat) {t k e : TypeId} {m x y : Operand} {g n : Nat} {seg : Seg} {o : Obj} {f : Value → Option Value} (f' : Value → Option Value) {key v : Value} {kl : Lit} {dd : DataW Unit} (hm : ev env m = some (.map (some g))) (hx : ev env x = some key) (hy : ev env y = some v)
    (hi : own[i]? = some seg) (hj : seg[j]? = some (g, o)) (K : Keyed P k) [ht : Und P t (.map k e)] (ho : MapG P k e o n f) (hn : n < maxLen) (hk : keyOf P k key = some kl) (hv : plainElem (H := Unit) P e v = some (dd, [])) (hnone : f key = none)
    (hg1 : f' key = some v) (hg2 : ∀ s, s ≠ key → f' s = f s) (hd : okD N d = true)
    (h : ∀ o', MapG P k e o' (n + 1) f' → TL P w0 N Q ops rest (putE d undef env) (own.set i (seg.set j (g, o'))) H) :
    TL P w0 N Q ops ({ dst := d, op := .mapUpdate t m x y, type := ty, pos := pos, after := af, guard := none } :: rest) env own H :=
  fun a w ha hw => by
    have hb := hw.own_blk hi hj
    obtain ⟨o', hrun, ho'⟩ := MapG.put K ht.eq hb ho hn hk hv hnone hg1 hg2
    refine wpList_plain rfl fun K hK => ?_
    unfold Oper.wp
    have hr : (execOp a.eval { dst := d, op := .mapUpdate t m x y, type := ty, pos := pos, after := af, guard := none }).run P w = .ok .skip (setBlock w g o') := by
      simp [execOp, ha.ev hm, ha.ev hx, ha.ev hy, hrun, Result.andThen]
    rw [hr]
    exact hK _ _ (h o' ho' _ _ (ha.put hd undef) (hw.setObj hi hj))
theorem TL.lookG (i j : Nat) {t k e : TypeId} {m x : Operand} {g n : Nat} {seg : Seg} {o : Obj} {f : Value → Option Value} {key : Value} {kl : Lit} {c : Bool} {z : Value} (hm : ev env m = some (.map (some g))) (hx : ev env x = some key)
    (hi : own[i]? = some seg) (hj : seg[j]? = some (g, o)) (K : Keyed P k) [ht : Und P t (.map k e)] (ho : MapG P k e o n f) (hk : keyOf P k key = some kl)
    (hz : ∀ w, (zeroValue e).run P w = .ok z w) (hd : okD N d = true) (h : TL P w0 N Q ops rest (putE d (if c then .tuple #[(f key).getD z, .bool (f key).isSome] else (f key).getD z) env) own H) :
    TL P w0 N Q ops ({ dst := d, op := .lookup t m x c, type := ty, pos := pos, after := af, guard := none } :: rest) env own H :=
  TL.val rfl hd (fun a w ha hw => ⟨w, by
    have := MapG.look (w := w) K ht.eq (hz w) (hw.own_blk hi hj) ho hk c
    simp [execOp, ha.ev hm, ha.ev hx, this], hw⟩) h
theorem TL.lenMap (i j : Nat) {t k e : TypeId} {x : Operand} {g n : Nat} {seg : Seg} {o : Obj} {f : Value → Option Value} (hx : ev env x = some (.map (some g))) (hi : own[i]? = some seg) (hj : seg[j]? = some (g, o)) [ht : Und P t (.map k e)] (ho : MapG P k e o n f) (hd : okD N d = true)
    (h : TL P w0 N Q ops rest (putE d (.int .i64 (n : Int)) env) own H) :
    TL P w0 N Q ops ({ dst := d, op := .call { callee := .builtin .len, args := #[x], argTypes := #[t] }, type := ty, pos := pos, after := af, guard := none } :: rest) env own H :=
  TL.val rfl hd (fun a w ha hw => ⟨w, by
    obtain ⟨es, clock, rfl, _, rfl, _, _⟩ := ho
    have hb := MapKept.run_getObj_map (P := P) (hw.own_blk hi hj)
    simp [execOp, resolve, invoke, builtin, Builtin.len_, ha.ev hx, run_underlying ht.eq, hb, goInt], hw⟩) h
end
end Go.Proofs.YtaomdfcplamenaaGreatDoor.K

namespace Go.Proofs.YtaomdfcplamenaaGreatDoor.K
open Go Go.RowKit Go.Proofs

section
variable {P : Program} {w0 : World} {N : Nat} {Q : Exit → Act → World → Prop} {env : Env} {own : List Seg} {H : Hp} {ops : Array Oper} {rest : List Oper}
variable {d : Option Tmp} {ty : TypeId} {pos : String} {af : Array Edge}
theorem TL.sliceStr {t : TypeId} {x y1 y2 : Operand} {s : ByteArray} {k1 k2 : IntKind} {q1 q2 : Int} (l r : Nat) (hx : ev env x = some (.string s)) [hU : Und P t .string]
    (h1 : ev env y1 = some (.int k1 q1)) (h2 : ev env y2 = some (.int k2 q2)) (hl : q1 = (l : Int)) (hr : q2 = (r : Int)) (hlr : l ≤ r) (hrc : r ≤ s.size) (hd : okD N d = true)
    (h : TL P w0 N Q ops rest (putE d (.string (s.extract l r)) env) own H) :
    TL P w0 N Q ops ({ dst := d, op := .slice t x (some y1) (some y2) none, type := ty, pos := pos, after := af, guard := none } :: rest) env own H :=
  Zt hd (fun a ha w => by
    subst hl hr
    have hb : (Instr.sliceBounds false s.size s.size (some (a.eval y1)) (some (a.eval y2)) none).run P w = .ok (l, r, s.size) w := by
      simp [Instr.sliceBounds, Instr.sliceBound, asIntOf, ha.ev h1, ha.ev h2, hrc, hlr]
    simp only [execOp, Instr.sliceAt, Instr.slice, Sem.run_bind, run_underlying hU.eq, Result.andThen_ok, ha.ev hx, Option.map_some, Option.map_none]
    simp [hb]) h
end
def bb (l : List UInt8) : ByteArray := ⟨l.toArray⟩
theorem bb_append (a b : List UInt8) : bb a ++ bb b = bb (a ++ b) := by
  unfold bb
  apply ByteArray.ext
  simp
theorem bb_inj {a b : List UInt8} (h : bb a = bb b) : a = b := by
  unfold bb at h
  injection h with h
  have := congrArg Array.toList h
  simpa using this
theorem bb_size (l : List UInt8) : (bb l).size = l.length := by simp [bb, ByteArray.size]
def decL (n : Nat) : List UInt8 := if n < 10 then [UInt8.ofNat (48 + n)] else [UInt8.ofNat (48 + n / 10), UInt8.ofNat (48 + n % 10)]
def keyL : List Nat → List UInt8
  | [] => []
  | i :: r => decL i ++ (44 :: keyL r)
theorem keyL_append : ∀ a b, keyL (a ++ b) = keyL a ++ keyL b
  | [], _ => rfl
  | i :: r, b => by simp only [List.cons_append, keyL, keyL_append r b, List.append_assoc]
theorem decL_len (n : Nat) : (decL n).length ≤ 2 := by unfold decL; split <;> simp
theorem keyL_len : ∀ l, (keyL l).length ≤ 3 * l.length
  | [] => by simp [keyL]
  | i :: r => by
    have h1 := keyL_len r
    have h2 := decL_len i
    simp only [keyL, List.length_append, List.length_cons]; omega
theorem decL_no : ∀ n, n < 100 → ∀ c ∈ decL n, c ≠ 44 := by decide +kernel
theorem decL_inj : ∀ n, n < 100 → ∀ m, m < 100 → decL n = decL m → n = m := by decide +kernel
theorem split_no {α : Type} {c : α} : ∀ {a b x y : List α}, (∀ z ∈ a, z ≠ c) → (∀ z ∈ b, z ≠ c) → a ++ c :: x = b ++ c :: y → a = b ∧ x = y
  | [], [], x, y, _, _, h => by simp at h; exact ⟨rfl, h⟩
  | [], z :: b, x, y, _, hb, h => by
    simp only [List.nil_append, List.cons_append, List.cons.injEq] at h
    exact absurd h.1.symm (hb z (by simp))
  | z :: a, [], x, y, ha, _, h => by
    simp only [List.nil_append, List.cons_append, List.cons.injEq] at h
    exact absurd h.1 (ha z (by simp))
  | z :: a, z' :: b, x, y, ha, hb, h => by
    simp only [List.cons_append, List.cons.injEq] at h
    obtain ⟨rfl, h⟩ := h
    obtain ⟨rfl, h2⟩ := split_no (fun w hw => ha w (by simp [hw])) (fun w hw => hb w (by simp [hw])) h
    exact ⟨rfl, h2⟩
theorem keyL_inj : ∀ {a b : List Nat}, (∀ i ∈ a, i < 100) → (∀ i ∈ b, i < 100) → keyL a = keyL b → a = b
  | [], [], _, _, _ => rfl
  | [], i :: r, _, _, h => by simp [keyL] at h
  | i :: r, [], _, _, h => by simp [keyL] at h
  | i :: r, j :: s, ha, hb, h => by
    simp only [keyL] at h
    obtain ⟨h1, h2⟩ := split_no (decL_no i (ha i (by simp))) (decL_no j (hb j (by simp))) h
    rw [decL_inj i (ha i (by simp)) j (hb j (by simp)) h1, keyL_inj (fun x hx => ha x (by simp [hx])) (fun x hx => hb x (by simp [hx])) h2]
end Go.Proofs.YtaomdfcplamenaaGreatDoor.K

namespace Go.Proofs.YtaomdfcplamenaaGreatDoor.K
open Go Go.RowKit Go.Proofs

theorem small1 : ∀ n, n < 10 → (⟨#[48, 49, 50, 51, 52, 53, 54, 55, 56, 57, 97, 98, 99, 100, 101, 102, 103, 104, 105, 106, 107, 108, 109, 110, 111, 112, 113, 114, 115, 116, 117, 118, 119, 120, 121, 122]⟩ : ByteArray).extract n (n + 1) = bb (decL n) := by decide +kernel
def smallsB : ByteArray := ⟨#[48, 48, 48, 49, 48, 50, 48, 51, 48, 52, 48, 53, 48, 54, 48, 55, 48, 56, 48, 57, 49, 48, 49, 49, 49, 50, 49, 51, 49, 52, 49, 53, 49, 54, 49, 55, 49, 56, 49, 57, 50, 48, 50, 49, 50, 50, 50, 51, 50, 52, 50, 53, 50, 54, 50, 55, 50, 56, 50, 57, 51, 48, 51, 49, 51, 50, 51, 51, 51, 52, 51, 53, 51, 54, 51, 55, 51, 56, 51, 57, 52, 48, 52, 49, 52, 50, 52, 51, 52, 52, 52, 53, 52, 54, 52, 55, 52, 56, 52, 57, 53, 48, 53, 49, 53, 50, 53, 51, 53, 52, 53, 53, 53, 54, 53, 55, 53, 56, 53, 57, 54, 48, 54, 49, 54, 50, 54, 51, 54, 52, 54, 53, 54, 54, 54, 55, 54, 56, 54, 57, 55, 48, 55, 49, 55, 50, 55, 51, 55, 52, 55, 53, 55, 54, 55, 55, 55, 56, 55, 57, 56, 48, 56, 49, 56, 50, 56, 51, 56, 52, 56, 53, 56, 54, 56, 55, 56, 56, 56, 57, 57, 48, 57, 49, 57, 50, 57, 51, 57, 52, 57, 53, 57, 54, 57, 55, 57, 56, 57, 57]⟩
theorem smallsB_size : smallsB.size = 200 := by decide +kernel
theorem small2 : ∀ n, n < 100 → 10 ≤ n → smallsB.extract (n * 2) (n * 2 + 2) = bb (decL n) := by decide +kernel
theorem small_n {n : Nat} (hn : n < 100) {w0 : World} {H : Hp} {own : List Seg} :
    Fn Tryz.prog 118 [.int .i64 (n : Int)] w0 H own (fun r own' H' => r = .string (bb (decL n)) ∧ own' = own ∧ Le H H') := by
  refine Fn.enter Tryz.func118 rfl Tryz.ntmps118 rfl ?_; have hL := Le.refl H; refine Qj (Qh (Qe rfl rfl (Qi (Qc (Qj ?_))))); refine Qj (Qh (Qb rfl rfl ?_))
  refine Zz rfl rfl rfl (fun h10 => ?_) (fun h10 => ?_)
  ·
   refine Qi (Qc (Qv rfl (Qj (Qh (Qb rfl rfl ?_))))); refine Qb rfl rfl ?_; refine Zb rfl rfl rfl ⟨by omega, by omega⟩ ?_; refine TL.sliceStr n (n + 1) rfl rfl rfl rfl (by simp) (by omega) (by show _ ≤ 36; omega) rfl ?_
   refine Qe rfl rfl (Qi (Qc (Qy (Q0 (Q5 0 rfl rfl ?_)))))
   first
     | exact ⟨congrArg Value.string (small1 n (by omega)), rfl, hL⟩
     | exact ⟨congrArg Value.string (small2 n hn (by omega)), rfl, hL⟩
  ·
   refine Qi (Qc (Qr rfl (Q2 (Zm (Qb rfl rfl ?_))))); refine TL.mul rfl rfl rfl ⟨by omega, by omega⟩ (Qb rfl rfl ?_); refine TL.mul rfl rfl rfl ⟨by omega, by omega⟩ ?_; refine Zb rfl rfl rfl ⟨by omega, by omega⟩ ?_; refine TL.sliceStr (n * 2) (n * 2 + 2) rfl rfl rfl (by simp) (by simp) (by omega) (by show _ ≤ smallsB.size; rw [smallsB_size]; omega) rfl ?_
   refine Qe rfl rfl (Qi (Qc (Qy (Q5 0 rfl rfl ?_))))
   first
     | exact ⟨congrArg Value.string (small1 n (by omega)), rfl, hL⟩
     | exact ⟨congrArg Value.string (small2 n hn (by omega)), rfl, hL⟩
theorem format_n {n : Nat} (hn : n < 100) {w0 : World} {H : Hp} {own : List Seg} :
    Fn Tryz.prog 103 [.int .i64 (n : Int), .int .i64 10] w0 H own (fun r own' H' => r = .string (bb (decL n)) ∧ own' = own ∧ Le H H') := by
  refine Fn.enter Tryz.func103 rfl Tryz.ntmps103 rfl ?_; have hL := Le.refl H; refine Qj (Qh (Qe rfl rfl (Qi (Qc (Qj ?_))))); refine Qj (Qh (Qb rfl rfl ?_))
  refine TL.eqlB rfl rfl rfl (fun hb => ?_) (fun hb => ?_)
  ·
   refine Qi (Qc (Qv rfl (Qj (Qj (Qh ?_))))); refine Qb rfl rfl ?_
   refine TL.leqB rfl rfl rfl (fun h0 => ?_) (fun h0 => ?_)
   ·
    refine Qb rfl rfl ?_; refine Qf rfl rfl rfl (Qb rfl rfl ?_); refine Qf rfl rfl rfl ?_
    refine Zz rfl rfl rfl (fun h100 => ?_) (fun h100 => ?_)
    ·
     refine Qz rfl rfl rfl rfl (Qi (Qc (Qv rfl (Qj (Qh ?_))))); refine Qb rfl rfl ?_; refine Qs (small_n hn) ⟨rfl, trivial⟩ rfl ?_
     rintro _ own H2 ⟨rfl, rfl, hle2⟩
     have hL := Le.trans hL hle2; refine Qe rfl rfl (Qi (Qc (Qy (Q0 (Q0 ?_))))); refine Q5 0 rfl rfl ?_
     exact ⟨rfl, rfl, hL⟩
    ·
     omega -- dead
   ·
    omega -- dead
  ·
   exact absurd rfl hb -- dead
theorem itoa_i {n : Nat} (hn : n < 100) {w0 : World} {H : Hp} {own : List Seg} :
    Fn Tryz.prog 86 [.int .i64 (n : Int)] w0 H own (fun r own' H' => r = .string (bb (decL n)) ∧ own' = own ∧ Le H H') := by
  refine Fn.enter Tryz.func86 rfl Tryz.ntmps86 rfl ?_; have hL := Le.refl H; refine Qj (Qh (Qe rfl rfl (Q3 (Qb rfl rfl ?_)))); refine Qs (format_n hn) ⟨rfl, rfl, trivial⟩ rfl ?_
  rintro _ own H2 ⟨rfl, rfl, hle2⟩
  have hL := Le.trans hL hle2; refine Qe rfl rfl (Qi (Qc (Qy (Q5 0 rfl rfl ?_))))
  exact ⟨rfl, rfl, hL⟩
theorem itoa_n {n : Nat} (hn : n < 100) {w0 : World} {H : Hp} {own : List Seg} :
    Fn Tryz.prog 68 [.int .i64 (n : Int)] w0 H own (fun r own' H' => r = .string (bb (decL n)) ∧ own' = own ∧ Le H H') := by
  refine Fn.enter Tryz.func68 rfl Tryz.ntmps68 rfl ?_; have hL := Le.refl H; refine Qj (Qh (Qe rfl rfl (Q3 (Qb rfl rfl ?_)))); refine Qs (itoa_i hn) ⟨rfl, trivial⟩ rfl ?_
  rintro _ own H2 ⟨rfl, rfl, hle2⟩
  have hL := Le.trans hL hle2; refine Qe rfl rfl (Qi (Qc (Qy (Q5 0 rfl rfl ?_))))
  exact ⟨rfl, rfl, hL⟩
theorem decimal_n {n : Nat} (hn : n < 100) {w0 : World} {H : Hp} {own : List Seg} :
    Fn Tryz.prog 51 [.int .i64 (n : Int)] w0 H own (fun r own' H' => r = .string (bb (decL n)) ∧ own' = own ∧ Le H H') := by
  refine Fn.enter Tryz.func51 rfl Tryz.ntmps51 rfl ?_; have hL := Le.refl H; refine Qj (Qh (Qe rfl rfl (Q3 (Qb rfl rfl ?_)))); refine Qs (itoa_n hn) ⟨rfl, trivial⟩ rfl ?_
  rintro _ own H2 ⟨rfl, rfl, hle2⟩
  have hL := Le.trans hL hle2; refine Qe rfl rfl (Qi (Qc (Qy (Q5 0 rfl rfl ?_))))
  exact ⟨rfl, rfl, hL⟩

end Go.Proofs.YtaomdfcplamenaaGreatDoor.K

namespace Go.Proofs.YtaomdfcplamenaaGreatDoor.K
open Go Go.RowKit Go.Proofs

def shapeV (S : List Tr) (t : Tr) : Value := .agg #[.string t.lab, .string (bb (keyL (t.kids.map S.idxOf)))]
/-- S: the trees that have numbers, in the order of their numbers. -/
structure IdOk (S : List Tr) (f : Value → Option Value) : Prop where
  nodup : S.Nodup
  closed : ∀ t ∈ S, ∀ k ∈ t.kids, k ∈ S
  len : S.length ≤ 100
  has : ∀ (i : Nat) (t : Tr), S[i]? = some t → f (shapeV S t) = some (.int .i64 (i : Int))
  only : ∀ (v : Value), f v ≠ none → ∃ t ∈ S, v = shapeV S t
theorem idx_get {S : List Tr} {t : Tr} (h : t ∈ S) : S[S.idxOf t]? = some t := by
  have hl := List.idxOf_lt_length_of_mem h
  rw [List.getElem?_eq_getElem hl]
  simp
theorem idx_inj {S : List Tr} {t u : Tr} (h : t ∈ S) (k : u ∈ S) (e : S.idxOf t = S.idxOf u) : t = u := by
  have h1 := idx_get h
  rw [e, idx_get k] at h1
  injection h1 with h1
  exact h1.symm
theorem idx_ext {S X : List Tr} {t : Tr} (h : t ∈ S) : (S ++ X).idxOf t = S.idxOf t := by rw [List.idxOf_append, if_pos h]
theorem map_inj {S : List Tr} : ∀ {a b : List Tr}, (∀ k ∈ a, k ∈ S) → (∀ k ∈ b, k ∈ S) → a.map S.idxOf = b.map S.idxOf → a = b
  | [], [], _, _, _ => rfl
  | [], _ :: _, _, _, h => by simp at h
  | _ :: _, [], _, _, h => by simp at h
  | x :: a, y :: b, ha, hb, h => by
    simp only [List.map_cons, List.cons.injEq] at h
    rw [idx_inj (ha x (by simp)) (hb y (by simp)) h.1, map_inj (fun k hk => ha k (by simp [hk])) (fun k hk => hb k (by simp [hk])) h.2]
theorem shape_inj {S : List Tr} (hl : S.length ≤ 100) {t u : Tr} (ht : ∀ k ∈ t.kids, k ∈ S) (hu : ∀ k ∈ u.kids, k ∈ S) (h : shapeV S t = shapeV S u) : t = u := by
  unfold shapeV at h
  simp only [Value.agg.injEq, Array.mk.injEq, List.cons.injEq, and_true, Value.string.injEq] at h
  obtain ⟨h1, h2⟩ := h
  have small : ∀ {x : Tr}, (∀ k ∈ x.kids, k ∈ S) → ∀ i ∈ x.kids.map S.idxOf, i < 100 := by
    intro x hx i hi
    obtain ⟨k, hk, rfl⟩ := List.mem_map.1 hi
    have := List.idxOf_lt_length_of_mem (hx k hk)
    omega
  have h3 := map_inj ht hu (keyL_inj (small ht) (small hu) (bb_inj h2))
  obtain ⟨l, ks⟩ := t
  obtain ⟨l', ks'⟩ := u
  simp only [Tr.lab, Tr.kids] at h1 h3
  rw [h1, h3]
theorem shape_ext {S X : List Tr} {t : Tr} (h : ∀ k ∈ t.kids, k ∈ S) : shapeV (S ++ X) t = shapeV S t := by
  unfold shapeV
  have : t.kids.map (S ++ X).idxOf = t.kids.map S.idxOf := List.map_congr_left fun k hk => idx_ext (h k hk)
  rw [this]
theorem IdOk.nil : IdOk [] (fun _ => none) := ⟨List.nodup_nil, by simp, by simp, by simp, fun v h => absurd rfl h⟩
theorem IdOk.get {S : List Tr} {f : Value → Option Value} (h : IdOk S f) {t : Tr} (ht : t ∈ S) : f (shapeV S t) = some (.int .i64 (S.idxOf t : Int)) := h.has _ _ (idx_get ht)
theorem IdOk.miss {S : List Tr} {f : Value → Option Value} (h : IdOk S f) {t : Tr} (ht : t ∉ S) (hk : ∀ k ∈ t.kids, k ∈ S) : f (shapeV S t) = none := by
  cases e : f (shapeV S t) with
  | none => rfl
  | some v =>
    obtain ⟨u, hu, he⟩ := h.only _ (by rw [e]; simp)
    rw [shape_inj h.len hk (h.closed u hu) he] at ht
    exact absurd hu ht
open Classical in
noncomputable def putF (f : Value → Option Value) (k v : Value) : Value → Option Value := fun x => if x = k then some v else f x
theorem putF_same (f : Value → Option Value) (k v : Value) : putF f k v k = some v := by simp [putF]
theorem putF_other (f : Value → Option Value) (k v s : Value) (h : s ≠ k) : putF f k v s = f s := by simp [putF, h]
theorem IdOk.add {S : List Tr} {f : Value → Option Value} (h : IdOk S f) {t : Tr} (ht : t ∉ S) (hk : ∀ k ∈ t.kids, k ∈ S) (hl : S.length < 100) : IdOk (S ++ [t]) (putF f (shapeV S t) (.int .i64 (S.length : Int))) := by
  have hc : ∀ u ∈ S, ∀ k ∈ u.kids, k ∈ S := h.closed
  refine ⟨?_, ?_, by simp; omega, ?_, ?_⟩
  · rw [List.nodup_append]
    exact ⟨h.nodup, by simp, fun a ha b hb => by simp at hb; subst hb; intro e; exact ht (e ▸ ha)⟩
  · intro u hu k hku
    rcases List.mem_append.1 hu with hu | hu
    · exact List.mem_append_left _ (hc u hu k hku)
    · simp at hu; subst hu; exact List.mem_append_left _ (hk k hku)
  · intro i u hi
    rcases Nat.lt_or_ge i S.length with hlt | hge
    · rw [List.getElem?_append_left hlt] at hi
      have hu := List.mem_of_getElem? hi
      rw [shape_ext (hc u hu), putF_other, h.has i u hi]
      intro e
      exact ht ((shape_inj h.len (hc u hu) hk e) ▸ hu)
    · rw [List.getElem?_append_right hge] at hi
      have hi0 : i = S.length := by
        rcases Nat.lt_or_ge S.length i with h1 | h1
        · rw [List.getElem?_eq_none (by simp; omega)] at hi; cases hi
        · omega
      subst hi0
      simp at hi
      subst hi
      rw [shape_ext hk, putF_same]
  · intro v hv
    by_cases e : v = shapeV S t
    · exact ⟨t, by simp, by rw [shape_ext hk]; exact e⟩
    · rw [putF_other _ _ _ _ e] at hv
      obtain ⟨u, hu, he⟩ := h.only v hv
      exact ⟨u, List.mem_append_left _ hu, by rw [shape_ext (hc u hu)]; exact he⟩
/-! sized trees in memory -/
mutual
def szP (H : Hp) (S : List Tr) : Tr → Value → Prop
  | .node l ks, v => ∃ g vk c0 c1, v = .pointer (some ⟨g, 0, none⟩) ∧ hAt H g 0 [.string l, .int .i64 (S.idxOf (.node l ks) : Int), .int .i64 ((Tr.node l ks).size : Int), vk, c0, c1] ∧ RdL H (Tr.node l ks).d [c0, c1] ∧
      ∃ A n c, vk = .slice A n c ∧ n = ks.length ∧ n ≤ c ∧ c ≤ 9223372036854775807 ∧ (n = 0 ∨ ∃ b o, A = some ⟨b, o, none⟩ ∧ szL H S b o ks)
def szL (H : Hp) (S : List Tr) (b : Nat) : Nat → List Tr → Prop
  | _, [] => True
  | o, t :: r => (∃ u, cel H b o = some u ∧ szP H S t u) ∧ szL H S b (o + 1) r
end
/-- A slice of sized trees. -/
def szS (H : Hp) (S : List Tr) (ks : List Tr) (vk : Value) : Prop := ∃ A n c, vk = .slice A n c ∧ n = ks.length ∧ n ≤ c ∧ c ≤ 9223372036854775807 ∧ (n = 0 ∨ ∃ b o, A = some ⟨b, o, none⟩ ∧ szL H S b o ks)
theorem szP.open {H : Hp} {S : List Tr} {t : Tr} {v : Value} (h : szP H S t v) : ∃ g vk c0 c1, v = .pointer (some ⟨g, 0, none⟩) ∧ hAt H g 0 [.string t.lab, .int .i64 (S.idxOf t : Int), .int .i64 (t.size : Int), vk, c0, c1] ∧ RdL H t.d [c0, c1] ∧ szS H S t.kids vk := by
  obtain ⟨l, ks⟩ := t
  simp only [szP] at h
  exact h
theorem szP.mk {H : Hp} {S : List Tr} {t : Tr} {g : Nat} {vk c0 c1 : Value} (h1 : hAt H g 0 [.string t.lab, .int .i64 (S.idxOf t : Int), .int .i64 (t.size : Int), vk, c0, c1]) (h2 : RdL H t.d [c0, c1]) (h3 : szS H S t.kids vk) : szP H S t (.pointer (some ⟨g, 0, none⟩)) := by
  obtain ⟨l, ks⟩ := t
  simp only [szP]
  exact ⟨g, vk, c0, c1, rfl, h1, h2, h3⟩
mutual
theorem szP.mono {H H' : Hp} (hl : Le H H') {S : List Tr} : ∀ {t : Tr} {v : Value}, szP H S t v → szP H' S t v
  | .node l ks, v, h => by
    simp only [szP] at h ⊢
    obtain ⟨g, vk, c0, c1, h1, h2, h3, A, n, c, h4, h5, h6, h7, h8⟩ := h
    refine ⟨g, vk, c0, c1, h1, h2.mono hl, h3.mono hl, A, n, c, h4, h5, h6, h7, ?_⟩
    rcases h8 with h8 | ⟨b, o, h9, h10⟩
    · exact .inl h8
    · exact .inr ⟨b, o, h9, szL.mono hl h10⟩
theorem szL.mono {H H' : Hp} (hl : Le H H') {S : List Tr} {b : Nat} : ∀ {o : Nat} {ts : List Tr}, szL H S b o ts → szL H' S b o ts
  | _, [], _ => trivial
  | o, t :: r, h => by
    simp only [szL] at h ⊢
    obtain ⟨⟨u, h1, h2⟩, h3⟩ := h
    exact ⟨⟨u, cel_le hl h1, szP.mono hl h2⟩, szL.mono hl h3⟩
end
theorem szS.mono {H H' : Hp} (hl : Le H H') {S ks : List Tr} {v : Value} (h : szS H S ks v) : szS H' S ks v := by
  obtain ⟨A, n, c, h4, h5, h6, h7, h8⟩ := h
  refine ⟨A, n, c, h4, h5, h6, h7, ?_⟩
  rcases h8 with h8 | ⟨b, o, h9, h10⟩
  · exact .inl h8
  · exact .inr ⟨b, o, h9, h10.mono hl⟩
mutual
theorem szP.ext {H : Hp} {S X : List Tr} (hc : ∀ t ∈ S, ∀ k ∈ t.kids, k ∈ S) : ∀ {t : Tr} {v : Value}, t ∈ S → szP H S t v → szP H (S ++ X) t v
  | .node l ks, v, ht, h => by
    simp only [szP] at h ⊢
    obtain ⟨g, vk, c0, c1, h1, h2, h3, A, n, c, h4, h5, h6, h7, h8⟩ := h
    refine ⟨g, vk, c0, c1, h1, by rw [idx_ext ht]; exact h2, h3, A, n, c, h4, h5, h6, h7, ?_⟩
    rcases h8 with h8 | ⟨b, o, h9, h10⟩
    · exact .inl h8
    · exact .inr ⟨b, o, h9, szL.ext hc (hc _ ht) h10⟩
theorem szL.ext {H : Hp} {S X : List Tr} (hc : ∀ t ∈ S, ∀ k ∈ t.kids, k ∈ S) {b : Nat} : ∀ {o : Nat} {ts : List Tr}, (∀ t ∈ ts, t ∈ S) → szL H S b o ts → szL H (S ++ X) b o ts
  | _, [], _, _ => trivial
  | o, t :: r, ht, h => by
    simp only [szL] at h ⊢
    obtain ⟨⟨u, h1, h2⟩, h3⟩ := h
    exact ⟨⟨u, h1, szP.ext hc (ht t (by simp)) h2⟩, szL.ext hc (fun k hk => ht k (by simp [hk])) h3⟩
end
theorem szS.ext {H : Hp} {S X : List Tr} (hc : ∀ t ∈ S, ∀ k ∈ t.kids, k ∈ S) {ks : List Tr} {v : Value} (hk : ∀ t ∈ ks, t ∈ S) (h : szS H S ks v) : szS H (S ++ X) ks v := by
  obtain ⟨A, n, c, h4, h5, h6, h7, h8⟩ := h
  refine ⟨A, n, c, h4, h5, h6, h7, ?_⟩
  rcases h8 with h8 | ⟨b, o, h9, h10⟩
  · exact .inl h8
  · exact .inr ⟨b, o, h9, szL.ext hc hk h10⟩
theorem szL.get {H : Hp} {S : List Tr} {b : Nat} : ∀ {ts : List Tr} {o : Nat}, szL H S b o ts → ∀ (i : Nat) (t : Tr), ts[i]? = some t → ∃ u, cel H b (o + i) = some u ∧ szP H S t u
  | [], _, _, i, t, h => by simp at h
  | x :: r, o, h, 0, t, ht => by simp only [szL] at h; simp at ht; subst ht; exact h.1
  | x :: r, o, h, i + 1, t, ht => by
    simp only [szL] at h
    obtain ⟨u, h1, h2⟩ := szL.get h.2 i t (by simpa using ht)
    exact ⟨u, by rw [← h1]; congr 1; omega, h2⟩
theorem szL.mk {H : Hp} {S : List Tr} {b : Nat} : ∀ {ts : List Tr} {o : Nat}, (∀ (i : Nat) (t : Tr), ts[i]? = some t → ∃ u, cel H b (o + i) = some u ∧ szP H S t u) → szL H S b o ts
  | [], _, _ => trivial
  | x :: r, o, h => by
    simp only [szL]
    refine ⟨h 0 x rfl, szL.mk fun i t ht => ?_⟩
    have := h (i + 1) t (by simpa using ht)
    rw [show o + 1 + i = o + (i + 1) by omega]
    exact this
theorem szS.len {H : Hp} {S ks : List Tr} {v : Value} (h : szS H S ks v) : ∃ A c, v = .slice A ks.length c ∧ ks.length ≤ c ∧ c ≤ 9223372036854775807 := by
  obtain ⟨A, n, c, rfl, rfl, h1, h2, _⟩ := h
  exact ⟨A, c, rfl, h1, h2⟩
theorem szS.at {H : Hp} {S ks : List Tr} {A : Option Addr} {n c : Nat} (h : szS H S ks (.slice A n c)) {i : Nat} {t : Tr} (hi : ks[i]? = some t) : ∃ b o u, A = some ⟨b, o, none⟩ ∧ cel H b (o + i * 1) = some u ∧ szP H S t u := by
  have hlt : i < ks.length := (List.getElem?_eq_some_iff.1 hi).1
  obtain ⟨A', n', c', e, h5, _, _, h8⟩ := h
  injection e with e1 e2 e3
  subst e1 e2 e3 h5
  rcases h8 with h8 | ⟨b, o, rfl, h10⟩
  · omega
  · obtain ⟨u, h1, h2⟩ := h10.get i t hi
    exact ⟨b, o, u, rfl, by rw [Nat.mul_one]; exact h1, h2⟩
theorem szS.cut {H : Hp} {S ks : List Tr} {A : Option Addr} {n c : Nat} (h : szS H S ks (.slice A n c)) {l r : Nat} (hlr : l ≤ r) (hr : r ≤ n) :
    szS H S ((ks.drop l).take (r - l)) (.slice (if c = l then A else A.map (·.add (l * 1))) (r - l) (c - l)) := by
  obtain ⟨A', n', c', e, h5, h6, h7, h8⟩ := h
  injection e with e1 e2 e3
  subst e1 e2 e3 h5
  refine ⟨_, _, _, rfl, by simp [List.length_take, List.length_drop]; omega, by omega, by omega, ?_⟩
  by_cases h0 : r - l = 0
  · exact .inl h0
  · rcases h8 with h8 | ⟨b, o, rfl, h10⟩
    · omega
    · refine .inr ⟨b, o + l, ?_, szL.mk fun i t ht => ?_⟩
      · rw [if_neg (by omega)]; simp [add_off]
      · rw [List.getElem?_take] at ht
        split at ht
        · rw [List.getElem?_drop] at ht
          obtain ⟨u, h1, h2⟩ := h10.get _ t ht
          exact ⟨u, by rw [← h1]; congr 1; omega, h2⟩
        · cases ht
/-- Values that are sized trees, one by one. -/
def SzL (H : Hp) (S : List Tr) : List Tr → List Value → Prop
  | [], [] => True
  | t :: ts, v :: vs => szP H S t v ∧ SzL H S ts vs
  | _, _ => False
theorem SzL.mono {H H' : Hp} (hl : Le H H') {S : List Tr} : ∀ {ts : List Tr} {vs : List Value}, SzL H S ts vs → SzL H' S ts vs
  | [], [], _ => trivial
  | _ :: _, _ :: _, h => ⟨h.1.mono hl, SzL.mono hl h.2⟩
  | [], _ :: _, h => h.elim
  | _ :: _, [], h => h.elim
theorem SzL.ext {H : Hp} {S X : List Tr} (hc : ∀ t ∈ S, ∀ k ∈ t.kids, k ∈ S) : ∀ {ts : List Tr} {vs : List Value}, (∀ t ∈ ts, t ∈ S) → SzL H S ts vs → SzL H (S ++ X) ts vs
  | [], [], _, _ => trivial
  | t :: _, _ :: _, ht, h => ⟨h.1.ext hc (ht t (by simp)), SzL.ext hc (fun k hk => ht k (by simp [hk])) h.2⟩
  | [], _ :: _, _, h => h.elim
  | _ :: _, [], _, h => h.elim
theorem SzL.snoc {H : Hp} {S : List Tr} {t : Tr} {v : Value} (hv : szP H S t v) : ∀ {ts : List Tr} {vs : List Value}, SzL H S ts vs → SzL H S (ts ++ [t]) (vs ++ [v])
  | [], [], _ => ⟨hv, trivial⟩
  | _ :: _, _ :: _, h => ⟨h.1, SzL.snoc hv h.2⟩
  | [], _ :: _, h => h.elim
  | _ :: _, [], h => h.elim
theorem SzL.get {H : Hp} {S : List Tr} : ∀ {ts : List Tr} {vs : List Value}, SzL H S ts vs → ts.length = vs.length ∧ ∀ (i : Nat) (t : Tr), ts[i]? = some t → ∃ v, vs[i]? = some v ∧ szP H S t v
  | [], [], _ => ⟨rfl, fun i t h => by simp at h⟩
  | x :: ts, v :: vs, h => by
    obtain ⟨h1, h2⟩ := SzL.get h.2
    refine ⟨by simp [h1], fun i t ht => ?_⟩
    cases i with
    | zero => simp at ht; subst ht; exact ⟨v, rfl, h.1⟩
    | succ i => simpa using h2 i t (by simpa using ht)
  | [], _ :: _, h => h.elim
  | _ :: _, [], h => h.elim
theorem szS.ofRow {H : Hp} {S : List Tr} {e : TypeId} {v : Value} {n : Nat} {xs : List Value} {seg : Seg} {ts : List Tr} (h : Row e 1 v n xs seg) (hz : ∀ p ∈ seg, H p.1 = some p.2) (hs : SzL H S ts xs) : szS H S ts v := by
  obtain ⟨hl, hg⟩ := hs.get
  obtain ⟨hxl, h⟩ := h
  rw [Nat.mul_one] at hxl
  rcases h with ⟨rfl, rfl, _⟩ | ⟨g, cap, cur, rfl, rfl, h1, h2, h3, h4⟩
  · exact ⟨none, 0, 0, rfl, by omega, by omega, by omega, .inl rfl⟩
  · refine ⟨_, _, _, rfl, by omega, h1, by simpa [maxLen] using h2, .inr ⟨g, 0, rfl, szL.mk fun i t ht => ?_⟩⟩
    obtain ⟨u, hu, hr⟩ := hg i t ht
    refine ⟨u, ?_, hr⟩
    unfold cel
    rw [hz _ (List.mem_singleton.2 rfl)]
    rw [← h4, List.getElem?_take] at hu
    split at hu
    · simpa using hu
    · cases hu
theorem szP.one {H : Hp} {S : List Tr} {t : Tr} {v : Value} (h : szP H S t v) : v.oneCell' = true := by
  obtain ⟨g, vk, c0, c1, rfl, _⟩ := h.open
  rfl
end Go.Proofs.YtaomdfcplamenaaGreatDoor.K

namespace Go.Proofs.YtaomdfcplamenaaGreatDoor.K
open Go Go.RowKit Go.Proofs

theorem laidOutQ : laidOutB Tryz.prog = true := by kernel_rfl
theorem law115 : WideMaps.KeyLaw Tryz.prog 115 := deep_law_laid laidOutQ (m := 2) (by omega) (of_decide_eq_true (by kernel_rfl)) (by kernel_rfl) (by rw [Tryz.underlying115])
theorem law137 : WideMaps.KeyLaw Tryz.prog 137 := deep_law_laid laidOutQ (m := 2) (by omega) (of_decide_eq_true (by kernel_rfl)) (by kernel_rfl) (by rw [Tryz.underlying137])
theorem K115 : Maps.Keyed Tryz.prog 115 := .of_law law115
theorem K137 : Maps.Keyed Tryz.prog 137 := .of_law law137
theorem kt115 : Tryz.prog.keyType 115 = true := by kernel_rfl
theorem kt137 : Tryz.prog.keyType 137 = true := by kernel_rfl
theorem cellsOf115 : Tryz.prog.cellsOf 115 = 2 := by kernel_rfl
theorem cellsOf137 : Tryz.prog.cellsOf 137 = 2 := by kernel_rfl
theorem cellsOf9 : Tryz.prog.cellsOf 9 = 1 := by kernel_rfl
theorem cellsOf3 : Tryz.prog.cellsOf 3 = 1 := by kernel_rfl
theorem pos_succ {n : Nat} (h : 0 < n) : ∃ m, n = m + 1 := ⟨n - 1, by omega⟩
theorem tsize0 : (0 : Nat) < Tryz.prog.types.size := of_decide_eq_true (by kernel_rfl)
theorem tsize : ∃ m, Tryz.prog.types.size = m + 1 := pos_succ tsize0
theorem key115 {a b : ByteArray} (ha : a.size ≤ maxLen) (hb : b.size ≤ maxLen) : keyOf Tryz.prog 115 (.agg #[.string a, .string b]) = some (.string (keyBytes [.string a.data.toList, .string b.data.toList])) := by
  obtain ⟨m, hm⟩ := tsize
  unfold keyOf
  simp only [Tryz.underlying115]
  rw [if_pos (by simp [kt115, Value.formed, Tryz.underlying115, cellsOf115]), hm]
  unfold Program.keyLits
  simp only [Tryz.underlying115, Value.cells]
  rw [if_pos ⟨by rw [cellsOf115]; rfl, by decide +kernel⟩]
  simp [Program.keyLits, Tryz.underlying9, cellsOf9, ha, hb]
theorem key137 {a b : Int} (ha : (Lit.int .i64 a).wf = true) (hb : (Lit.int .i64 b).wf = true) : keyOf Tryz.prog 137 (.agg #[.int .i64 a, .int .i64 b]) = some (.string (keyBytes [.int .i64 a, .int .i64 b])) := by
  obtain ⟨m, hm⟩ := tsize
  unfold keyOf
  simp only [Tryz.underlying137]
  rw [if_pos (by simp [kt137, Value.formed, Tryz.underlying137, cellsOf137]), hm]
  unfold Program.keyLits
  simp only [Tryz.underlying137, Value.cells]
  rw [if_pos ⟨by rw [cellsOf137]; rfl, by decide +kernel⟩]
  simp [Program.keyLits, Tryz.underlying3, cellsOf3, ha, hb]
theorem wf64 {a : Int} (h : I64 a) : (Lit.int .i64 a).wf = true := by
  simp only [Lit.wf, Bool.and_eq_true, decide_eq_true_eq]; exact h
theorem zero3 (w : World) : (zeroValue 3).run Tryz.prog w = .ok (.int .i64 0) w := by simp [zeroValue, typeInfo, info3]; rfl
theorem plain3 {n : Int} (h : I64 n) : plainElem (H := Unit) Tryz.prog 3 (.int .i64 n) = some (.lit (.int .i64 n), []) := by
  unfold plainElem; rw [Tryz.underlying3]; simp [wf64 h]
theorem nodup_le {α : Type} : ∀ {a b : List α}, a.Nodup → (∀ x ∈ a, x ∈ b) → a.length ≤ b.length
  | [], b, _, _ => by simp
  | x :: a, b, hn, hs => by
    have hx : x ∈ b := hs x (by simp)
    obtain ⟨s, t, rfl⟩ := List.append_of_mem hx
    rw [List.nodup_cons] at hn
    have := nodup_le (b := s ++ t) hn.2 (fun y hy => by
      have := hs y (by simp [hy])
      simp only [List.mem_append, List.mem_cons] at this ⊢
      rcases this with h | rfl | h
      · exact .inl h
      · exact absurd hy hn.1
      · exact .inr h)
    simp only [List.length_append, List.length_cons] at this ⊢
    omega
theorem IdOk.room {S U : List Tr} {f : Value → Option Value} (hU : U.length ≤ 100) (h : IdOk S f) (hs : ∀ x ∈ S, x ∈ U) {t : Tr} (ht : t ∈ U) (hn : t ∉ S) : S.length < 100 := by
  have := nodup_le (a := t :: S) (b := U) (List.nodup_cons.2 ⟨hn, h.nodup⟩) (fun x hx => by
    rcases List.mem_cons.1 hx with rfl | hx
    · exact ht
    · exact hs x hx)
  simp only [List.length_cons] at this
  omega
theorem idx_new {S : List Tr} {t : Tr} (ht : t ∉ S) : (S ++ [t]).idxOf t = S.length := by
  rw [List.idxOf_append, if_neg ht]; simp
theorem meas_key {S X : List Tr} {ks : List Tr} {k : Nat} {x : Tr} (hx : ks[k]? = some x) (ht : ∀ y ∈ ks.take k, y ∈ S) :
    bb (keyL ((ks.take k).map S.idxOf)) ++ (bb (decL ((S ++ X).idxOf x)) ++ ⟨#[44]⟩) = bb (keyL ((ks.take (k + 1)).map (S ++ X).idxOf)) := by
  have e1 : (ks.take k).map S.idxOf = (ks.take k).map (S ++ X).idxOf := List.map_congr_left fun y hy => (idx_ext (ht y hy)).symm
  rw [List.take_add_one, hx, e1, List.map_append, keyL_append, show (⟨#[44]⟩ : ByteArray) = bb [44] from rfl, bb_append, bb_append]
  simp [keyL]
theorem hAt_six {H : Hp} {g : Nat} {a b c d x y : Value} {e : TypeId} {fz : Nat × Nat} (h : ∀ p ∈ ([(g, .cells #[a, b, c, d, x, y] e fz)] : Seg), H p.1 = some p.2) : hAt H g 0 [a, b, c, d, x, y] := by
  have h1 := h _ (List.mem_singleton.2 rfl)
  exact ⟨by simp [cel, h1], by simp [cel, h1], by simp [cel, h1], by simp [cel, h1], by simp [cel, h1], by simp [cel, h1], trivial⟩
end Go.Proofs.YtaomdfcplamenaaGreatDoor.K

namespace Go.Proofs.YtaomdfcplamenaaGreatDoor.K
open Go Go.RowKit Go.Proofs

/-- The set from which all numbered trees come. -/
structure Uni (U : List Tr) : Prop where
  len : U.length ≤ 100
  kid : ∀ x ∈ U, ∀ k ∈ x.kids, k ∈ U
  lab : ∀ x ∈ U, x.lab.size ≤ 1000000
theorem measure_n {U : List Tr} (hU : Uni U) (k : Nat) : ∀ (t : Tr), t.size ≤ k → k ≤ 1000000 → t ∈ U → ∀ {w0 : World} {H : Hp} {own : List Seg} {S : List Tr} {f : Value → Option Value} {gi gc gd : Nat} {oi : Obj} {a0 a1 : Value},
    IdOk S f → (∀ x ∈ S, x ∈ U) → MapG Tryz.prog 115 3 oi S.length f → hAt H gd 0 [.map (some gi), .map (some gc)] → RdL H t.d [a0, a1] →
    Fn Tryz.prog 30 [.pointer (some ⟨gd, 0, none⟩), .agg #[a0, a1]] w0 H ([(gi, oi)] :: own) (fun r own' H' => ∃ Xa f' oi', IdOk (S ++ Xa) f' ∧ (∀ x ∈ S ++ Xa, x ∈ U) ∧ t ∈ S ++ Xa ∧ MapG Tryz.prog 115 3 oi' (S ++ Xa).length f' ∧ szP H' (S ++ Xa) t r ∧ own' = [(gi, oi')] :: own ∧ Le H H') := by
  induction k with
  | zero => intro t h; have := t.size_pos; omega
  | succ k ih =>
    rintro ⟨l, ks⟩ hk hlim hmem w0 H own S f gi gc gd oi a0 a1 hid hsub hmap hgd ht
    have ht0 := ht
    obtain ⟨rfl, A, c, rfl, hc1, hc2, hA⟩ := tr_cells ht
    have hks : ks.length ≤ 1000000 := by have := Tr.len_le ks; simp only [Tr.size] at hk; omega
    have hsz : Tr.sizes ks ≤ 1000000 := by simp only [Tr.size] at hk; omega
    have hlab : l.size ≤ 1000000 := hU.lab _ hmem
    have hmax : (2000000 : Nat) < 9223372036854775807 := by decide
    refine Fn.enter Tryz.func30 rfl Tryz.ntmps30 rfl ?_; have hL := Le.refl H; refine Qj (Qh ?_)
    refine Zx (c := #[_, _]) rfl rfl rfl ?_; intro g3; refine Qe rfl rfl (Q3 (Qg rfl rfl (Qk 0 0 rfl rfl rfl rfl rfl ?_))); refine Qm 0 0 [_, _] rfl rfl rfl ⟨rfl, rfl, trivial⟩ rfl rfl ?_; refine Q8 [(0, [_]), (2, [_]), (4, [_, _])] ⟨rfl, ⟨_, rfl, rfl⟩, rfl, ⟨_, rfl, rfl⟩, rfl, ⟨_, rfl, rfl⟩, trivial⟩ rfl rfl ?_
    refine Zx (c := #[_, _, _, _, _, _]) rfl rfl rfl ?_; intro g16; refine Qe rfl rfl (Q3 (Qe rfl rfl (Qi (Qc (Qj ?_))))); refine Qj (Z4 (Qh (Qg rfl rfl (Qk 2 0 rfl rfl rfl rfl rfl (Qn rfl rfl ?_))))); refine Qb rfl rfl (Qi (Qc (Q6 ?_)))
    refine Zv (fun n env' own' H' => ∃ k' Xa f1 oi1 v xs seg, n = ks.length - k' ∧ k' ≤ ks.length ∧ IdOk (S ++ Xa) f1 ∧ (∀ x ∈ S ++ Xa, x ∈ U) ∧ (∀ x ∈ ks.take k', x ∈ S ++ Xa) ∧ MapG Tryz.prog 115 3 oi1 (S ++ Xa).length f1 ∧ Row 76 1 v k' xs seg ∧ SzL H' (S ++ Xa) (ks.take k') xs ∧ env' = [(0, .pointer (some ⟨gd, 0, none⟩)), (3, .pointer (some ⟨g3, 0, none⟩)), (5, .pointer (some ⟨g16, 0, none⟩)), (6, .string (bb (keyL ((ks.take k').map (S ++ Xa).idxOf)))), (18, .slice A ks.length c), (19, .int .i64 (ks.length : Int)), (20, .int .i64 (k' : Int))] ∧ own' = seg :: [(g16, .cells #[.string l, .int .i64 0, .int .i64 ((Tr.sizes (ks.take k') + 1 : Nat) : Int), v, .string l, .slice A ks.length c] 105 (0, 0))] :: [(g3, .cells #[.string l, .slice A ks.length c] 26 (0, 0))] :: [(gi, oi1)] :: own ∧ Le H H') ks.length [(0, _), (3, _), (5, _), (6, _), (18, _), (19, _), (20, _)] ⟨rfl, rfl, rfl, rfl, rfl, rfl, rfl, trivial⟩ ⟨0, [], f, oi, _, [], [], by omega, by omega, by simpa using hid, by simpa using hsub, by simp, by simpa using hmap, Row.nil 76 1, trivial, by rfl, by simp [Tr.sizes], Le.refl _⟩ ?_
    clear hid hsub hmap
    rintro n _ _ H1 ⟨k', Xa, f1, oi1, v, xs, seg, rfl, hk1, hid, hsub, htk, hmap, hrow, hxs, rfl, rfl, hle0⟩
    have hb1 := Tr.sizes_take_le ks k'; have hL := Le.trans hL hle0; have hA := rd.mono hle0 hA; have hgd := hAt.mono hle0 hgd; refine Qj (Qh ?_)
    refine Zz rfl rfl rfl (fun hlt => ?_) (fun hlt => ?_)
    ·
     obtain ⟨x, hx⟩ : ∃ x, ks[k']? = some x := ⟨_, List.getElem?_eq_getElem (by omega)⟩
     have hxs' := Tr.size_mem (List.mem_of_getElem? hx)
     have hsz1 := Tr.sizes_take ks k' x hx
     have hsz2 := Tr.sizes_take_le ks (k' + 1)
     obtain ⟨b1, o1, p0, p1, rfl, hp, hpr⟩ := trs_at hA hx
     refine Qi (Qc (Qj (Qv rfl (Q2 (Qc ?_))))); refine Qj (Q6 (Qj (Qh ?_))); refine Qo (k') rfl rfl rfl (by omega) rfl ?_; refine Zd rfl (hp) rfl rfl ?_
     refine Zc rfl ?_; intro g8; refine Qq 0 0 (c' := #[_, _]) (own' := [(_, .cells #[_, _] _ _)] :: _) rfl rfl rfl rfl rfl (tr_ones hpr) (by simp) rfl rfl rfl (Q3 (Qb rfl rfl ?_)); refine Qm 0 0 [_, _] rfl rfl rfl ⟨rfl, rfl, trivial⟩ rfl rfl ?_
     refine TL.sel 5 [4, 0, 1, 2, 3] rfl (fun o ho => ?_)
     simp only [K.sel, nrm] at ho; subst ho
     refine Qs (ih x (Tr.size_kid (List.mem_of_getElem? hx) hk) (by omega) (hU.kid _ hmem x (List.mem_of_getElem? hx)) hid hsub hmap hgd hpr) ⟨rfl, rfl, trivial⟩ rfl ?_
     rintro _ _ H2 ⟨Xb, f2, oi2, hid2, hsub2, hmem2, hmap2, hr, rfl, hle2⟩
     rw [List.append_assoc] at hid2 hsub2 hmem2 hmap2 hr
     have hL := Le.trans hL hle2; have hle0 := Le.trans hle0 hle2; have hxs := SzL.mono hle2 hxs
     replace hxs := SzL.ext (X := Xb) hid.closed htk hxs
     rw [List.append_assoc] at hxs
     obtain ⟨gx, vx, x0, x1, rfl, hpx, _, _⟩ := hr.open
     have hi100 : (S ++ (Xa ++ Xb)).idxOf x < 100 := Nat.lt_of_lt_of_le (List.idxOf_lt_length_of_mem hmem2) hid2.len
     refine Qe rfl rfl (Q3 (Qb rfl rfl (Qb rfl rfl (Qt rfl rfl (Qg rfl rfl ?_))))); refine Qk 3 0 rfl rfl rfl rfl rfl (Qb rfl rfl ?_)
     refine Zg (r := [_]) [(0, [_])] ⟨rfl, ⟨_, rfl, rfl⟩, trivial⟩ rfl rfl rfl rfl ?_; intro g33; refine Zh 3 rfl rfl rfl hrow (Src.ofOwn 0 0 rfl rfl rfl (Ones.all (show Ones [_] from ⟨by rfl, trivial⟩)) ⟨rfl, trivial⟩) (by omega) (by omega) rfl ?_; intro v' seg' hrow'; refine Qt rfl rfl (Qg rfl rfl ?_); refine Zq 4 0 (c' := #[_, _, _, _, _, _]) (own' := _ :: _ :: _ :: _ :: [(_, .cells #[_, _, _, _, _, _] _ _)] :: _) rfl rfl rfl rfl hrow'.one (by simp) rfl rfl rfl (Qi (Qc (Qj ?_))); refine Q4 8  [(0, _), (3, _), (5, _), (6, _), (18, _), (19, _), (20, _), (8, _), (9, _)] follows_mixed ⟨rfl, rfl, rfl, rfl, rfl, rfl, rfl, rfl, rfl, trivial⟩ ?_; refine Qa (some 37) [] (fun _ _ _ _ hF => Qb rfl rfl (Qd hF)) ?_
     refine Qa (some 38) [(0, 0)] (fun _ _ _ _ hF => Qt rfl rfl (Qd hF)) ?_; refine Qa (some 39) [(1, 0)] (fun _ _ _ _ hF => Qg rfl rfl (Qd hF)) ?_
     refine Qa (some 40) [(2, 0)] (by
      intro H' X F hle; have hL := Le.trans hL hle; intro hF; refine Qk 4 0 rfl rfl rfl rfl rfl ?_
      exact Qd hF) ?_
     refine Qa (some 41) [] (fun _ _ _ _ hF => Qb rfl rfl (Qd hF)) ?_; refine Qa (some 42) [(4, 0)] (fun _ _ _ _ hF => Qt rfl rfl (Qd hF)) ?_; refine Qa (some 43) [(5, 0)] (fun _ _ _ _ hF => Qg rfl rfl (Qd hF)) ?_
     refine Qa (some 44) [(6, 0)] (by
      intro H' X F hle; have hL := Le.trans hL hle; have hpx := hAt.mono hle hpx; intro hF; refine Qp rfl (hpx.2.2.1) rfl ?_
      exact Qd hF) ?_
     refine ⟨by kernel_rfl, .refl _, ?_⟩
     ·
      intro H1 hle; have hL := Le.trans hL hle; have hle0 := Le.trans hle0 hle; have hxs := SzL.mono hle hxs; have hr := szP.mono hle hr; have hpx := hAt.mono hle hpx; refine Qw (own' := _ :: _ :: _ :: _ :: _ :: _ :: own) rfl ?_; refine Zi (env' := [(0, _), (3, _), (5, _), (6, _), (18, _), (19, _), (20, _), (8, _), (9, _), (37, _), (40, _), (44, _)]) ⟨rfl, rfl, rfl, rfl, rfl, rfl, rfl, rfl, rfl, rfl, rfl, rfl, trivial⟩ ?_; refine Zb rfl rfl rfl ⟨by omega, by omega⟩ (Qt rfl rfl (Qg rfl rfl ?_)); refine Zq 4 0 (c' := #[_, _, _, _, _, _]) (own' := _ :: _ :: _ :: _ :: [(_, .cells #[_, _, _, _, _, _] _ _)] :: _) rfl rfl rfl rfl rfl (by simp) rfl rfl rfl (Qi (Qc ?_))
      have hk3 := keyL_len ((ks.take k').map (S ++ Xa).idxOf)
      have hk4 := decL_len ((S ++ (Xa ++ Xb)).idxOf x)
      have hk5 : ((ks.take k').map (S ++ Xa).idxOf).length ≤ 1000000 := by rw [List.length_map, List.length_take]; omega
      refine Qh (Qb rfl rfl (Qb rfl rfl (Qt rfl rfl (Qg rfl rfl ?_)))); refine Qp rfl (hpx.2.1) rfl ?_; refine Qs (decimal_n hi100) ⟨rfl, trivial⟩ rfl ?_
      rintro _ own H3 ⟨rfl, rfl, hle3⟩
      have hL := Le.trans hL hle3; have hle0 := Le.trans hle0 hle3; have hxs := SzL.mono hle3 hxs; have hr := szP.mono hle3 hr; refine TL.addS rfl rfl rfl (by rw [bb_size]; show _ + 1 ≤ _; omega) ?_
      refine TL.addS rfl rfl rfl (by rw [ByteArray.size_append, bb_size, bb_size]; show _ + (_ + 1) ≤ _; omega) ?_
      refine Qe rfl rfl (Qi (Ze (Qc (Qh ?_)))); refine Zb rfl rfl rfl ⟨by omega, by omega⟩ (Qb rfl rfl (Qi ?_))
      refine Zj 6 [3, 4, 5, 1] rfl (fun o ho => ?_)
      simp only [K.sel, nrm] at ho; subst ho
      refine Zf (ks.length - (k' + 1)) [(0, _), (3, _), (5, _), (6, _), (18, _), (19, _), (20, _)] (by omega) ⟨rfl, rfl, rfl, rfl, rfl, rfl, rfl, trivial⟩ ⟨k' + 1, Xa ++ Xb, f2, oi2, v', _, seg', rfl, by omega, hid2, hsub2, ?_, hmap2, hrow', ?_, ?_, ?_, hle0⟩
      · intro y hy
        rw [List.take_add_one, hx] at hy
        rcases List.mem_append.1 hy with hy | hy
        · have := htk y hy
          rw [← List.append_assoc]; exact List.mem_append_left _ this
        · simp at hy; subst hy; exact hmem2
      · rw [List.take_add_one, hx]
        exact SzL.snoc hr hxs
      · have e := meas_key (S := S ++ Xa) (X := Xb) hx htk
        rw [List.append_assoc] at e
        rw [← e]
        simp
      · have e : ((Tr.sizes (ks.take k') + 1 : Nat) : Int) + (x.size : Int) = ((Tr.sizes (ks.take k') + x.size + 1 : Nat) : Int) := by omega
        rw [Tr.sizes_take ks k' x hx, ← e]
        try rfl
    ·
     refine Qi (Qc (Qj (Qr rfl (Zo (Q1 ?_))))); refine Q1 (Zp (Qc (Qj ?_)))
     obtain rfl : k' = ks.length := by omega
     simp only [List.take_length] at hxs htk ⊢
     have hkk : keyOf Tryz.prog 115 (shapeV (S ++ Xa) (.node l ks)) = _ := key115 (a := l) (b := bb (keyL (ks.map (S ++ Xa).idxOf))) (Nat.le_trans hlab (by decide)) (by
       rw [bb_size]
       have := keyL_len (ks.map (S ++ Xa).idxOf)
       rw [List.length_map] at this
       show _ ≤ 9223372036854775807
       omega)
     by_cases hin : Tr.node l ks ∈ S ++ Xa
     ·
      refine Q4 13  [(0, _), (3, _), (5, _), (6, _), (18, _), (19, _), (20, _)] follows_mixed ⟨rfl, rfl, rfl, rfl, rfl, rfl, rfl, trivial⟩ ?_; refine Qa (some 58) [] (fun _ _ _ _ hF => Qb rfl rfl (Qd hF)) ?_; refine Qa (some 59) [(0, 0)] (fun _ _ _ _ hF => Qt rfl rfl (Qd hF)) ?_; refine Qa (some 60) [(1, 0)] (fun _ _ _ _ hF => Qg rfl rfl (Qd hF)) ?_
      refine Qa (some 61) [(2, 0)] (by
       intro H' X F hle; have hL := Le.trans hL hle; have hgd := hAt.mono hle hgd; intro hF; refine Qp rfl (hgd.1) rfl ?_
       exact Qd hF) ?_
      refine Qa (some 62) [] (fun _ _ _ _ hF => Qg rfl rfl (Qd hF)) ?_
      refine Qa (some 63) [(4, 0)] (by
       intro H' X F hle; have hL := Le.trans hL hle; intro hF; refine Qk 2 0 rfl rfl rfl rfl rfl ?_
       exact Qd hF) ?_
      refine Qa (some 64) [] (fun _ _ _ _ hF => Qb rfl rfl (Qd hF)) ?_
      refine Qa (some 65) [(5, 1), (6, 0)] (by
       intro H' X F hle; have hL := Le.trans hL hle; intro hF; refine Q8 [(0, [_]), (1, [_])] ⟨rfl, ⟨_, rfl, rfl⟩, rfl, ⟨_, rfl, rfl⟩, trivial⟩ rfl rfl ?_
       exact Qd hF) ?_
      refine Qa (some 66) [(3, 4), (7, 0)] (by
       intro H' X F hle; have hL := Le.trans hL hle; intro hF; refine TL.lookG (key := shapeV (S ++ Xa) (.node l ks)) 3 0 rfl rfl rfl rfl K115 hmap hkk zero3 rfl ?_
       rw [hid.get hin]
       simp only [if_true, Option.getD_some, Option.getD_none, Option.isSome_some, Option.isSome_none]
       exact Qd hF) ?_
      refine Qa (some 57) [(8, 0)] (fun _ _ _ _ hF => Qb rfl rfl (Qd hF)) ?_; refine Qa (some 67) [(9, 0)] (fun _ _ _ _ hF => Qu rfl rfl rfl (Qd hF)) ?_
      refine Qa (some 68) [(9, 1)] (by
       intro H' X F hle; have hL := Le.trans hL hle; intro hF; refine Qu rfl rfl rfl ?_
       exact Qd hF) ?_
      refine Qa (some 10) [(10, 1)] (fun _ _ _ _ hF => Qe rfl rfl (Qd hF)) ?_
      refine ⟨by kernel_rfl, .refl _, ?_⟩
      ·
       intro H2 hle; have hL := Le.trans hL hle; have hxs := SzL.mono hle hxs; refine Qw (own' := _ :: _ :: _ :: _ :: own) rfl ?_; refine Zi (env' := [(0, _), (3, _), (5, _), (6, _), (18, _), (19, _), (20, _), (68, _), (10, _)]) ⟨rfl, rfl, rfl, rfl, rfl, rfl, rfl, rfl, rfl, trivial⟩ (Qe rfl rfl (Qi (Qc (Qj (Qj ?_))))); refine Qh (Qb rfl rfl (Z1 rfl rfl (Qi (Qc (Qr rfl ?_))))); refine Q2 (Zm (Qb rfl rfl (Qb rfl rfl (Qt rfl rfl (Qg rfl rfl ?_))))); refine Zq 1 0 (c' := #[_, _, _, _, _, _]) (own' := _ :: [(_, .cells #[_, _, _, _, _, _] _ _)] :: _) rfl rfl rfl rfl rfl (by simp) rfl rfl rfl (Q3 (Qb rfl rfl ?_))
       refine Qe rfl rfl (Qi (Qc (Qy ?_)))
       refine Zs (fun H3 hle hz_row => ?_)
       have hL := Le.trans hL hle; have hxs := SzL.mono hle hxs
       refine Zs (fun H4 hle hz_g16 => ?_)
       have hL := Le.trans hL hle; have hxs := SzL.mono hle hxs; have hz_row := hz.mono hle hz_row
       refine Zj 2 [1] rfl (fun o ho => ?_)
       simp only [K.sel, nrm] at ho; subst ho
       refine Q5 0 rfl rfl ?_; have hrs := szS.ofRow hrow hz_row hxs; have hh := hAt_six hz_g16
       exact ⟨Xa, f1, _, hid, hsub, hin, hmap, szP.mk hh (ht0.mono hL) hrs, rfl, hL⟩
     ·
      have hroom := hid.room hU.len hsub hmem hin; have hroom2 := hid.len; refine Q4 13  [(0, _), (3, _), (5, _), (6, _), (18, _), (19, _), (20, _)] follows_mixed ⟨rfl, rfl, rfl, rfl, rfl, rfl, rfl, trivial⟩ ?_; refine Qa (some 58) [] (fun _ _ _ _ hF => Qb rfl rfl (Qd hF)) ?_; refine Qa (some 59) [(0, 0)] (fun _ _ _ _ hF => Qt rfl rfl (Qd hF)) ?_; refine Qa (some 60) [(1, 0)] (fun _ _ _ _ hF => Qg rfl rfl (Qd hF)) ?_
      refine Qa (some 61) [(2, 0)] (by
       intro H' X F hle; have hL := Le.trans hL hle; have hgd := hAt.mono hle hgd; intro hF; refine Qp rfl (hgd.1) rfl ?_
       exact Qd hF) ?_
      refine Qa (some 62) [] (fun _ _ _ _ hF => Qg rfl rfl (Qd hF)) ?_
      refine Qa (some 63) [(4, 0)] (by
       intro H' X F hle; have hL := Le.trans hL hle; intro hF; refine Qk 2 0 rfl rfl rfl rfl rfl ?_
       exact Qd hF) ?_
      refine Qa (some 64) [] (fun _ _ _ _ hF => Qb rfl rfl (Qd hF)) ?_
      refine Qa (some 65) [(5, 1), (6, 0)] (by
       intro H' X F hle; have hL := Le.trans hL hle; intro hF; refine Q8 [(0, [_]), (1, [_])] ⟨rfl, ⟨_, rfl, rfl⟩, rfl, ⟨_, rfl, rfl⟩, trivial⟩ rfl rfl ?_
       exact Qd hF) ?_
      refine Qa (some 66) [(3, 4), (7, 0)] (by
       intro H' X F hle; have hL := Le.trans hL hle; intro hF; refine TL.lookG (key := shapeV (S ++ Xa) (.node l ks)) 3 0 rfl rfl rfl rfl K115 hmap hkk zero3 rfl ?_
       rw [hid.miss hin htk]
       simp only [if_true, Option.getD_some, Option.getD_none, Option.isSome_some, Option.isSome_none]
       exact Qd hF) ?_
      refine Qa (some 57) [(8, 0)] (fun _ _ _ _ hF => Qb rfl rfl (Qd hF)) ?_; refine Qa (some 67) [(9, 0)] (fun _ _ _ _ hF => Qu rfl rfl rfl (Qd hF)) ?_
      refine Qa (some 68) [(9, 1)] (by
       intro H' X F hle; have hL := Le.trans hL hle; intro hF; refine Qu rfl rfl rfl ?_
       exact Qd hF) ?_
      refine Qa (some 10) [(10, 1)] (fun _ _ _ _ hF => Qe rfl rfl (Qd hF)) ?_
      refine ⟨by kernel_rfl, .refl _, ?_⟩
      ·
       intro H5 hle; have hL := Le.trans hL hle; have hgd := hAt.mono hle hgd; have hxs := SzL.mono hle hxs; refine Qw (own' := _ :: _ :: _ :: _ :: own) rfl ?_; refine Zi (env' := [(0, _), (3, _), (5, _), (6, _), (18, _), (19, _), (20, _), (68, _), (10, _)]) ⟨rfl, rfl, rfl, rfl, rfl, rfl, rfl, rfl, rfl, trivial⟩ (Qe rfl rfl (Qi (Qc (Qj (Qj ?_))))); refine Qh (Qb rfl rfl (Z1 rfl rfl (Qi (Qc (Qv rfl ?_))))); refine Qj (Qh (Qb rfl rfl (Qt rfl rfl (Qg rfl rfl ?_)))); refine Qp rfl (hgd.1) rfl ?_; refine TL.lenMap 3 0 rfl rfl rfl hmap rfl (Qe rfl rfl (Qi (Qc ?_)))
       refine Q4 9  [(0, _), (3, _), (5, _), (6, _), (18, _), (19, _), (20, _), (10, _), (11, _)] follows_mixed ⟨rfl, rfl, rfl, rfl, rfl, rfl, rfl, rfl, rfl, trivial⟩ ?_; refine Qa (some 76) [] (fun _ _ _ _ hF => Qb rfl rfl (Qd hF)) ?_; refine Qa (some 77) [(0, 0)] (fun _ _ _ _ hF => Qt rfl rfl (Qd hF)) ?_; refine Qa (some 78) [(1, 0)] (fun _ _ _ _ hF => Qg rfl rfl (Qd hF)) ?_
       refine Qa (some 79) [(2, 0)] (by
        intro H' X F hle; have hL := Le.trans hL hle; have hgd := hAt.mono hle hgd; intro hF; refine Qp rfl (hgd.1) rfl ?_
        exact Qd hF) ?_
       refine Qa (some 80) [] (fun _ _ _ _ hF => Qg rfl rfl (Qd hF)) ?_
       refine Qa (some 81) [(4, 0)] (by
        intro H' X F hle; have hL := Le.trans hL hle; intro hF; refine Qk 2 0 rfl rfl rfl rfl rfl ?_
        exact Qd hF) ?_
       refine Qa (some 82) [] (fun _ _ _ _ hF => Qb rfl rfl (Qd hF)) ?_
       refine Qa (some 83) [(5, 1), (6, 0)] (by
        intro H' X F hle; have hL := Le.trans hL hle; intro hF; refine Q8 [(0, [_]), (1, [_])] ⟨rfl, ⟨_, rfl, rfl⟩, rfl, ⟨_, rfl, rfl⟩, trivial⟩ rfl rfl ?_
        exact Qd hF) ?_
       refine Qa (some 84) [] (fun _ _ _ _ hF => Qb rfl rfl (Qd hF)) ?_
       refine ⟨by kernel_rfl, .refl _, ?_⟩
       ·
        intro H6 hle; have hL := Le.trans hL hle; have hxs := SzL.mono hle hxs; refine Qw (own' := _ :: _ :: _ :: _ :: own) rfl ?_; refine Zi (env' := [(0, _), (3, _), (5, _), (6, _), (18, _), (19, _), (20, _), (10, _), (11, _), (79, _), (83, _), (84, _)]) ⟨rfl, rfl, rfl, rfl, rfl, rfl, rfl, rfl, rfl, rfl, rfl, rfl, trivial⟩ ?_; refine TL.mapSetG (key := shapeV (S ++ Xa) (.node l ks)) 3 0 (putF f1 (shapeV (S ++ Xa) (.node l ks)) (.int .i64 ((S ++ Xa).length : Int))) rfl rfl rfl rfl rfl K115 hmap (Nat.lt_trans hroom (by decide)) hkk (plain3 ⟨by omega, by omega⟩) (hid.miss hin htk) (putF_same _ _ _) (fun s hs => putF_other _ _ _ _ hs) rfl ?_; intro oi2 hmap2; refine Qw (own' := _ :: _ :: _ :: [(gi, oi2)] :: own) rfl (Q3 (Qb rfl rfl (Qb rfl rfl (Qt rfl rfl (Qg rfl rfl ?_)))))
        refine Zq 1 0 (c' := #[_, _, _, _, _, _]) (own' := _ :: [(_, .cells #[_, _, _, _, _, _] _ _)] :: _) rfl rfl rfl rfl rfl (by simp) rfl rfl rfl (Q3 (Qb rfl rfl (Qe rfl rfl (Qi (Qc ?_))))); refine Qy ?_
        refine Zs (fun H7 hle hz_row => ?_)
        have hL := Le.trans hL hle; have hxs := SzL.mono hle hxs
        refine Zs (fun H8 hle hz_g16 => ?_)
        have hL := Le.trans hL hle; have hxs := SzL.mono hle hxs; have hz_row := hz.mono hle hz_row
        refine Zj 2 [1] rfl (fun o ho => ?_)
        simp only [K.sel, nrm] at ho; subst ho
        refine Q5 0 rfl rfl ?_; have hrs := szS.ofRow hrow hz_row hxs; have hh := hAt_six hz_g16; have hid2 := hid.add hin htk hroom
        refine ⟨Xa ++ [.node l ks], putF f1 (shapeV (S ++ Xa) (.node l ks)) (.int .i64 ((S ++ Xa).length : Int)), oi2, ?_⟩
        rw [← List.append_assoc]
        refine ⟨hid2, ?_, by simp, by rw [List.length_append]; exact hmap2, ?_, rfl, hL⟩
        · intro x hx
          rcases List.mem_append.1 hx with hx | hx
          · exact hsub x hx
          · simp at hx; subst hx; exact hmem
        · have e := idx_new hin
          refine szP.mk (by rw [e]; exact hh) (ht0.mono hL) ?_
          exact szS.ext hid.closed htk hrs

end Go.Proofs.YtaomdfcplamenaaGreatDoor.K

namespace Go.Proofs.YtaomdfcplamenaaGreatDoor.K
open Go Go.RowKit Go.Proofs

def fro : List Tr → List Tr → Nat
  | x :: a, y :: b => if x = y then fro a b + 1 else 0
  | _, _ => 0
theorem fro_is : ∀ {a b : List Tr} {i : Nat}, i ≤ a.length → i ≤ b.length → a.take i = b.take i → (a.length ≤ i ∨ b.length ≤ i ∨ a[i]? ≠ b[i]?) → fro a b = i
  | [], b, i, h1, _, _, _ => by simp at h1; subst h1; cases b <;> rfl
  | x :: a, [], i, _, h2, _, _ => by simp at h2; subst h2; rfl
  | x :: a, y :: b, 0, _, _, _, h => by
    simp at h
    simp only [fro]
    rw [if_neg h]
  | x :: a, y :: b, i + 1, h1, h2, h3, h => by
    simp only [List.take_succ_cons, List.cons.injEq] at h3
    simp only [fro]
    rw [if_pos h3.1, fro_is (by simpa using h1) (by simpa using h2) h3.2 (by simpa using h)]
theorem fro_le : ∀ (a b : List Tr), fro a b ≤ a.length ∧ fro a b ≤ b.length
  | [], b => by cases b <;> simp [fro]
  | x :: a, [] => by simp [fro]
  | x :: a, y :: b => by
    have := fro_le a b
    simp only [fro]
    split
    · simp; omega
    · simp
theorem fro_take : ∀ (a b : List Tr), a.take (fro a b) = b.take (fro a b)
  | [], b => by cases b <;> simp [fro]
  | x :: a, [] => by simp [fro]
  | x :: a, y :: b => by
    have := fro_take a b
    simp only [fro]
    split
    · rename_i h; simp [h, this]
    · simp
theorem take_step {a b : List Tr} {i : Nat} {x : Tr} (h : a.take i = b.take i) (hx : a[i]? = some x) (hy : b[i]? = some x) : a.take (i + 1) = b.take (i + 1) := by
  rw [List.take_add_one, List.take_add_one, h, hx, hy]
/-- The common end, behind the first f. -/
def rv (f : Nat) (a : List Tr) : List Tr := (a.drop f).reverse
def bak (f : Nat) (a b : List Tr) : Nat := fro (rv f a) (rv f b)
theorem rv_len (f : Nat) (a : List Tr) : (rv f a).length = a.length - f := by simp [rv]
theorem rv_at {f : Nat} {a : List Tr} {k : Nat} (h : k < a.length - f) : (rv f a)[k]? = a[a.length - 1 - k]? := by
  have h1 : k < (a.drop f).length := by simp; omega
  unfold rv
  rw [List.getElem?_reverse h1, List.getElem?_drop, List.length_drop]
  congr 1
  omega
theorem idx_eq {S : List Tr} {x y : Tr} (hx : x ∈ S) (hy : y ∈ S) : ((S.idxOf x : Int) = (S.idxOf y : Int)) ↔ x = y :=
  ⟨fun h => idx_inj hx hy (by omega), fun h => by rw [h]⟩
end Go.Proofs.YtaomdfcplamenaaGreatDoor.K

namespace Go.Proofs.YtaomdfcplamenaaGreatDoor.K
open Go Go.RowKit Go.Proofs

theorem trim_n {S : List Tr} {a b : List Tr} (ha : ∀ x ∈ a, x ∈ S) (hb : ∀ x ∈ b, x ∈ S) (hla : a.length ≤ 1000000) (hlb : b.length ≤ 1000000) {w0 : World} {H : Hp} {own : List Seg} {va vb : Value} (hA : szS H S a va) (hB : szS H S b vb) :
    Fn Tryz.prog 48 [va, vb] w0 H own (fun r own' H' => r = .tuple #[.int .i64 (fro a b : Int), .int .i64 (bak (fro a b) a b : Int)] ∧ own' = own ∧ Le H H') := by
  obtain ⟨A, ca, rfl, hca1, hca2⟩ := hA.len
  obtain ⟨B, cb, rfl, hcb1, hcb2⟩ := hB.len
  refine Fn.enter Tryz.func48 rfl Tryz.ntmps48 rfl ?_; have hL := Le.refl H; refine Qj (Qh (Qe rfl rfl (Qe rfl rfl (Qi (Qc ?_)))))
  refine TC.cut (fun env' own' H' => ∃ f : Nat, f = fro a b ∧ env' = [(0, .slice A a.length ca), (1, .slice B b.length cb), (4, .int .i64 (f : Int)), (5, .int .i64 0)] ∧ own' = own ∧ Le H H') ?_ ?_
  ·
   have hcut := Le.refl H; refine Q6 ?_; refine Zv (fun n env' own' H' => ∃ i : Nat, n = a.length - i ∧ i ≤ a.length ∧ i ≤ b.length ∧ a.take i = b.take i ∧ env' = [(0, .slice A a.length ca), (1, .slice B b.length cb), (4, .int .i64 (i : Int)), (5, .int .i64 0)] ∧ own' = own ∧ Le H H') a.length [(0, _), (1, _), (4, _), (5, _)] ⟨rfl, rfl, rfl, rfl, trivial⟩ ⟨0, by omega, by omega, by omega, by simp, rfl, rfl, Le.refl _⟩ ?_
   rintro n _ own H1 ⟨i, rfl, hi, hj, hij, rfl, rfl, hle0⟩
   have hL := Le.trans hL hle0; have hA := szS.mono hle0 hA; have hB := szS.mono hle0 hB; have hcut := Le.trans hcut hle0; refine Qj (Qj ?_)
   have hcase : a.length ≤ i ∨ (i < a.length ∧ b.length ≤ i) ∨ (∃ x y, a[i]? = some x ∧ b[i]? = some y ∧ x = y ∧ (i < a.length ∧ i < b.length)) ∨ (∃ x y, a[i]? = some x ∧ b[i]? = some y ∧ x ≠ y ∧ (i < a.length ∧ i < b.length)) := by
     rcases Nat.lt_or_ge i a.length with h1 | h1
     · rcases Nat.lt_or_ge i b.length with h2 | h2
       · by_cases e : a[i] = b[i]
         · exact .inr (.inr (.inl ⟨_, _, List.getElem?_eq_getElem h1, List.getElem?_eq_getElem h2, e, h1, h2⟩))
         · exact .inr (.inr (.inr ⟨_, _, List.getElem?_eq_getElem h1, List.getElem?_eq_getElem h2, e, h1, h2⟩))
       · exact .inr (.inl ⟨h1, h2⟩)
     · exact .inl h1
   rcases hcase with h | h | ⟨x, y, hx, hy, e, h⟩ | ⟨x, y, hx, hy, e, h⟩
   ·
    refine Q4 25  [(0, _), (1, _), (4, _), (5, _)] follows_mixed ⟨rfl, rfl, rfl, rfl, trivial⟩ ?_; refine Qa (some 6) [] (fun _ _ _ _ hF => Qb rfl rfl (Qd hF)) ?_; refine Qa (some 7) [] (fun _ _ _ _ hF => Qb rfl rfl (Qd hF)) ?_
    refine Qa (some 8) [(1, 0)] (by
     intro H' X F hle; have hL := Le.trans hL hle; intro hF; refine Qn rfl rfl ?_
     exact Qd hF) ?_
    refine Qa (some 9) [(0, 2), (2, 0)] (by
     intro H' X F hle; have hL := Le.trans hL hle; intro hF; refine Zl rfl rfl rfl ?_
     rw [decide_eq_false (by omega)]
     exact Qd hF) ?_
    refine Qa (some 10) [(3, 0)] (fun _ _ _ _ hF => Qb rfl rfl (Qd hF)) ?_
    refine Qa (some 11) [(4, 0)] (by
     intro H' X F hle hF; refine Ql rfl rfl rfl rfl ?_
     exact Qd hF) ?_
    refine Qa (some 12) [(4, 1)] (by
     intro H' X F hle hF; refine Ql rfl rfl rfl rfl ?_
     exact Qd hF) ?_
    refine Qa (some 13) [(6, 0), (4, 2)] (by
     intro H' X F hle hF; refine Ql rfl rfl rfl rfl ?_
     exact Qd hF) ?_
    refine Qa (some 14) [(5, 2), (7, 0), (4, 3)] (by
     intro H' X F hle hF; refine Ql rfl rfl rfl rfl ?_
     exact Qd hF) ?_
    refine Qa (some 15) [(4, 4), (8, 0)] (fun _ _ _ _ hF => Qx rfl rfl rfl rfl (Qd hF)) ?_; refine Qa (some 16) [(9, 0)] (fun _ _ _ _ hF => Qb rfl rfl (Qd hF)) ?_
    refine Qa (some 17) [(10, 0)] (by
     intro H' X F hle hF; refine Ql rfl rfl rfl rfl ?_
     exact Qd hF) ?_
    refine Qa (some 18) [(10, 1)] (by
     intro H' X F hle hF; refine Ql rfl rfl rfl rfl ?_
     exact Qd hF) ?_
    refine Qa (some 19) [(11, 1), (12, 0), (10, 2)] (by
     intro H' X F hle hF; refine Ql rfl rfl rfl rfl ?_
     exact Qd hF) ?_
    refine Qa (some 20) [(13, 0), (10, 3)] (by
     intro H' X F hle hF; refine Ql rfl rfl rfl rfl ?_
     exact Qd hF) ?_
    refine Qa (some 21) [(14, 0), (10, 4)] (by
     intro H' X F hle hF; refine Ql rfl rfl rfl rfl ?_
     exact Qd hF) ?_
    refine Qa (some 22) [(15, 0), (10, 5)] (by
     intro H' X F hle hF; refine Ql rfl rfl rfl rfl ?_
     exact Qd hF) ?_
    refine Qa (some 23) [(16, 0), (10, 6)] (by
     intro H' X F hle hF; refine Ql rfl rfl rfl rfl ?_
     exact Qd hF) ?_
    refine Qa (some 24) [(10, 7)] (by
     intro H' X F hle hF; refine Ql rfl rfl rfl rfl ?_
     exact Qd hF) ?_
    refine Qa (some 25) [(10, 8)] (by
     intro H' X F hle hF; refine Ql rfl rfl rfl rfl ?_
     exact Qd hF) ?_
    refine Qa (some 26) [(18, 1), (19, 0), (10, 9)] (by
     intro H' X F hle hF; refine Ql rfl rfl rfl rfl ?_
     exact Qd hF) ?_
    refine Qa (some 27) [(20, 0), (10, 10)] (by
     intro H' X F hle hF; refine Ql rfl rfl rfl rfl ?_
     exact Qd hF) ?_
    refine Qa (some 28) [(21, 0), (10, 11)] (by
     intro H' X F hle hF; refine Ql rfl rfl rfl rfl ?_
     exact Qd hF) ?_
    refine Qa (some 29) [(22, 0), (10, 12)] (by
     intro H' X F hle hF; refine Ql rfl rfl rfl rfl ?_
     exact Qd hF) ?_
    refine Qa (some 30) [(23, 0), (10, 13)] (by
     intro H' X F hle hF; refine Ql rfl rfl rfl rfl ?_
     exact Qd hF) ?_
    refine ⟨by kernel_rfl, .refl _, ?_⟩
    ·
     intro H1 hle; have hL := Le.trans hL hle; have hcut := Le.trans hcut hle; refine Qw (own' := own) rfl ?_; refine Zi (env' := [(0, _), (1, _), (4, _), (5, _), (16, _), (23, _), (30, _)]) ⟨rfl, rfl, rfl, rfl, rfl, rfl, rfl, trivial⟩ ?_; refine Ql rfl rfl rfl rfl ?_; refine Qx rfl rfl rfl rfl (Qi (Qc (Qr rfl (Zo (Q1 ?_))))); refine Q1 (Zp ?_); refine Zn (own' := own) rfl ?_
     refine TQ.mid [(0, _), (1, _), (4, _), (5, _)] ⟨rfl, rfl, rfl, rfl, trivial⟩ ⟨i, (fro_is hi hj hij (.inl h)).symm, rfl, rfl, hcut⟩
   ·
    refine Q4 25  [(0, _), (1, _), (4, _), (5, _)] follows_mixed ⟨rfl, rfl, rfl, rfl, trivial⟩ ?_; refine Qa (some 6) [] (fun _ _ _ _ hF => Qb rfl rfl (Qd hF)) ?_; refine Qa (some 7) [] (fun _ _ _ _ hF => Qb rfl rfl (Qd hF)) ?_
    refine Qa (some 8) [(1, 0)] (by
     intro H' X F hle; have hL := Le.trans hL hle; intro hF; refine Qn rfl rfl ?_
     exact Qd hF) ?_
    refine Qa (some 9) [(0, 2), (2, 0)] (by
     intro H' X F hle; have hL := Le.trans hL hle; intro hF; refine Zl rfl rfl rfl ?_
     rw [decide_eq_true (by omega)]
     exact Qd hF) ?_
    refine Qa (some 10) [(3, 0)] (fun _ _ _ _ hF => Qb rfl rfl (Qd hF)) ?_
    refine Qa (some 11) [(4, 0)] (by
     intro H' X F hle hF; refine Qf rfl rfl rfl (Qb rfl rfl ?_)
     exact Qd hF) ?_
    refine Qa (some 12) [(4, 1)] (by
     intro H' X F hle hF; refine Qf rfl rfl rfl (Qb rfl rfl ?_)
     exact Qd hF) ?_
    refine Qa (some 13) [(6, 0), (4, 2)] (by
     intro H' X F hle; have hL := Le.trans hL hle; intro hF; refine Qf rfl rfl rfl (Qn rfl rfl ?_)
     exact Qd hF) ?_
    refine Qa (some 14) [(5, 2), (7, 0), (4, 3)] (by
     intro H' X F hle; have hL := Le.trans hL hle; intro hF; refine Qf rfl rfl rfl (Zl rfl rfl rfl ?_)
     rw [decide_eq_false (by omega)]
     exact Qd hF) ?_
    refine Qa (some 15) [(4, 4), (8, 0)] (fun _ _ _ _ hF => Qz rfl rfl rfl rfl (Qd hF)) ?_; refine Qa (some 16) [(9, 0)] (fun _ _ _ _ hF => Qb rfl rfl (Qd hF)) ?_
    refine Qa (some 17) [(10, 0)] (by
     intro H' X F hle hF; refine Ql rfl rfl rfl rfl ?_
     exact Qd hF) ?_
    refine Qa (some 18) [(10, 1)] (by
     intro H' X F hle hF; refine Ql rfl rfl rfl rfl ?_
     exact Qd hF) ?_
    refine Qa (some 19) [(11, 1), (12, 0), (10, 2)] (by
     intro H' X F hle hF; refine Ql rfl rfl rfl rfl ?_
     exact Qd hF) ?_
    refine Qa (some 20) [(13, 0), (10, 3)] (by
     intro H' X F hle hF; refine Ql rfl rfl rfl rfl ?_
     exact Qd hF) ?_
    refine Qa (some 21) [(14, 0), (10, 4)] (by
     intro H' X F hle hF; refine Ql rfl rfl rfl rfl ?_
     exact Qd hF) ?_
    refine Qa (some 22) [(15, 0), (10, 5)] (by
     intro H' X F hle hF; refine Ql rfl rfl rfl rfl ?_
     exact Qd hF) ?_
    refine Qa (some 23) [(16, 0), (10, 6)] (by
     intro H' X F hle hF; refine Ql rfl rfl rfl rfl ?_
     exact Qd hF) ?_
    refine Qa (some 24) [(10, 7)] (by
     intro H' X F hle hF; refine Ql rfl rfl rfl rfl ?_
     exact Qd hF) ?_
    refine Qa (some 25) [(10, 8)] (by
     intro H' X F hle hF; refine Ql rfl rfl rfl rfl ?_
     exact Qd hF) ?_
    refine Qa (some 26) [(18, 1), (19, 0), (10, 9)] (by
     intro H' X F hle hF; refine Ql rfl rfl rfl rfl ?_
     exact Qd hF) ?_
    refine Qa (some 27) [(20, 0), (10, 10)] (by
     intro H' X F hle hF; refine Ql rfl rfl rfl rfl ?_
     exact Qd hF) ?_
    refine Qa (some 28) [(21, 0), (10, 11)] (by
     intro H' X F hle hF; refine Ql rfl rfl rfl rfl ?_
     exact Qd hF) ?_
    refine Qa (some 29) [(22, 0), (10, 12)] (by
     intro H' X F hle hF; refine Ql rfl rfl rfl rfl ?_
     exact Qd hF) ?_
    refine Qa (some 30) [(23, 0), (10, 13)] (by
     intro H' X F hle hF; refine Ql rfl rfl rfl rfl ?_
     exact Qd hF) ?_
    refine ⟨by kernel_rfl, .refl _, ?_⟩
    ·
     intro H2 hle; have hL := Le.trans hL hle; have hcut := Le.trans hcut hle; refine Qw (own' := own) rfl ?_; refine Zi (env' := [(0, _), (1, _), (4, _), (5, _), (16, _), (23, _), (30, _)]) ⟨rfl, rfl, rfl, rfl, rfl, rfl, rfl, trivial⟩ ?_; refine Ql rfl rfl rfl rfl ?_; refine Qx rfl rfl rfl rfl (Qi (Qc (Qr rfl (Zo (Q1 ?_))))); refine Q1 (Zp ?_); refine Zn (own' := own) rfl ?_
     refine TQ.mid [(0, _), (1, _), (4, _), (5, _)] ⟨rfl, rfl, rfl, rfl, trivial⟩ ⟨i, (fro_is hi hj hij (.inr (.inl h.2))).symm, rfl, rfl, hcut⟩
   ·
    obtain ⟨b1, o1, u1, rfl, hc1, hz1⟩ := hA.at hx
    obtain ⟨b2, o2, u2, rfl, hc2, hz2⟩ := hB.at hy
    obtain ⟨g1, v1, x0, x1, rfl, hp1, _, _⟩ := hz1.open
    obtain ⟨g2, v2, y0, y1, rfl, hp2, _, _⟩ := hz2.open
    have hxS := ha x (List.mem_of_getElem? hx)
    have hyS := hb y (List.mem_of_getElem? hy)
    obtain ⟨hi1, hi2⟩ := h
    refine Q4 25  [(0, _), (1, _), (4, _), (5, _)] follows_mixed ⟨rfl, rfl, rfl, rfl, trivial⟩ ?_; refine Qa (some 6) [] (fun _ _ _ _ hF => Qb rfl rfl (Qd hF)) ?_; refine Qa (some 7) [] (fun _ _ _ _ hF => Qb rfl rfl (Qd hF)) ?_
    refine Qa (some 8) [(1, 0)] (by
     intro H' X F hle; have hL := Le.trans hL hle; intro hF; refine Qn rfl rfl ?_
     exact Qd hF) ?_
    refine Qa (some 9) [(0, 2), (2, 0)] (by
     intro H' X F hle; have hL := Le.trans hL hle; intro hF; refine Zl rfl rfl rfl ?_
     rw [decide_eq_true (by omega)]
     exact Qd hF) ?_
    refine Qa (some 10) [(3, 0)] (fun _ _ _ _ hF => Qb rfl rfl (Qd hF)) ?_
    refine Qa (some 11) [(4, 0)] (by
     intro H' X F hle hF; refine Qf rfl rfl rfl (Qb rfl rfl ?_)
     exact Qd hF) ?_
    refine Qa (some 12) [(4, 1)] (by
     intro H' X F hle hF; refine Qf rfl rfl rfl (Qb rfl rfl ?_)
     exact Qd hF) ?_
    refine Qa (some 13) [(6, 0), (4, 2)] (by
     intro H' X F hle; have hL := Le.trans hL hle; intro hF; refine Qf rfl rfl rfl (Qn rfl rfl ?_)
     exact Qd hF) ?_
    refine Qa (some 14) [(5, 2), (7, 0), (4, 3)] (by
     intro H' X F hle; have hL := Le.trans hL hle; intro hF; refine Qf rfl rfl rfl (Zl rfl rfl rfl ?_)
     rw [decide_eq_true (by omega)]
     exact Qd hF) ?_
    refine Qa (some 15) [(4, 4), (8, 0)] (fun _ _ _ _ hF => Qz rfl rfl rfl rfl (Qd hF)) ?_; refine Qa (some 16) [(9, 0)] (fun _ _ _ _ hF => Qb rfl rfl (Qd hF)) ?_
    refine Qa (some 17) [(10, 0)] (by
     intro H' X F hle hF; refine Qf rfl rfl rfl (Qb rfl rfl ?_)
     exact Qd hF) ?_
    refine Qa (some 18) [(10, 1)] (by
     intro H' X F hle hF; refine Qf rfl rfl rfl (Qb rfl rfl ?_)
     exact Qd hF) ?_
    refine Qa (some 19) [(11, 1), (12, 0), (10, 2)] (by
     intro H' X F hle hF; refine Qf rfl rfl rfl ?_; refine Qo (i) rfl rfl rfl (by omega) rfl ?_
     exact Qd hF) ?_
    refine Qa (some 20) [(13, 0), (10, 3)] (by
     intro H' X F hle; have hL := Le.trans hL hle; have hc1 := cel_le hle hc1; intro hF; refine Qf rfl rfl rfl ?_; refine Qp rfl (hc1) rfl ?_
     exact Qd hF) ?_
    refine Qa (some 21) [(14, 0), (10, 4)] (by
     intro H' X F hle hF; refine Qf rfl rfl rfl (Qt rfl rfl ?_)
     exact Qd hF) ?_
    refine Qa (some 22) [(15, 0), (10, 5)] (by
     intro H' X F hle hF; refine Qf rfl rfl rfl (Qg rfl rfl ?_)
     exact Qd hF) ?_
    refine Qa (some 23) [(16, 0), (10, 6)] (by
     intro H' X F hle; have hL := Le.trans hL hle; have hp1 := hAt.mono hle hp1; intro hF; refine Qf rfl rfl rfl ?_; refine Qp rfl (hp1.2.1) rfl ?_
     exact Qd hF) ?_
    refine Qa (some 24) [(10, 7)] (by
     intro H' X F hle hF; refine Qf rfl rfl rfl (Qb rfl rfl ?_)
     exact Qd hF) ?_
    refine Qa (some 25) [(10, 8)] (by
     intro H' X F hle hF; refine Qf rfl rfl rfl (Qb rfl rfl ?_)
     exact Qd hF) ?_
    refine Qa (some 26) [(18, 1), (19, 0), (10, 9)] (by
     intro H' X F hle hF; refine Qf rfl rfl rfl ?_; refine Qo (i) rfl rfl rfl (by omega) rfl ?_
     exact Qd hF) ?_
    refine Qa (some 27) [(20, 0), (10, 10)] (by
     intro H' X F hle; have hL := Le.trans hL hle; have hc2 := cel_le hle hc2; intro hF; refine Qf rfl rfl rfl ?_; refine Qp rfl (hc2) rfl ?_
     exact Qd hF) ?_
    refine Qa (some 28) [(21, 0), (10, 11)] (by
     intro H' X F hle hF; refine Qf rfl rfl rfl (Qt rfl rfl ?_)
     exact Qd hF) ?_
    refine Qa (some 29) [(22, 0), (10, 12)] (by
     intro H' X F hle hF; refine Qf rfl rfl rfl (Qg rfl rfl ?_)
     exact Qd hF) ?_
    refine Qa (some 30) [(23, 0), (10, 13)] (by
     intro H' X F hle; have hL := Le.trans hL hle; have hp2 := hAt.mono hle hp2; intro hF; refine Qf rfl rfl rfl ?_; refine Qp rfl (hp2.2.1) rfl ?_
     exact Qd hF) ?_
    refine ⟨by kernel_rfl, .refl _, ?_⟩
    ·
     intro H3 hle; have hL := Le.trans hL hle; have hle0 := Le.trans hle0 hle; refine Qw (own' := own) rfl ?_; refine Zi (env' := [(0, _), (1, _), (4, _), (5, _), (16, _), (23, _), (30, _)]) ⟨rfl, rfl, rfl, rfl, rfl, rfl, rfl, trivial⟩ ?_; refine Qf rfl rfl rfl (Za rfl rfl rfl ?_)
     rw [decide_eq_true ((idx_eq hxS hyS).2 e)]
     refine Qz rfl rfl rfl rfl (Qi (Qc (Qv rfl (Q2 (Qc ?_))))); refine Q6 (Qh (Qb rfl rfl ?_)); refine Zb rfl rfl rfl ⟨by omega, by omega⟩ (Qe rfl rfl (Qi (Ze ?_))); refine Zn (own' := own) rfl ?_
     refine Zf (a.length - (i + 1)) [(0, _), (1, _), (4, _), (5, _)] (by omega) ⟨rfl, rfl, rfl, rfl, trivial⟩ ⟨i + 1, rfl, by omega, by omega, take_step hij hx (by rw [e]; exact hy), by simp, rfl, hle0⟩
   ·
    obtain ⟨b1, o1, u1, rfl, hc1, hz1⟩ := hA.at hx
    obtain ⟨b2, o2, u2, rfl, hc2, hz2⟩ := hB.at hy
    obtain ⟨g1, v1, x0, x1, rfl, hp1, _, _⟩ := hz1.open
    obtain ⟨g2, v2, y0, y1, rfl, hp2, _, _⟩ := hz2.open
    have hxS := ha x (List.mem_of_getElem? hx)
    have hyS := hb y (List.mem_of_getElem? hy)
    obtain ⟨hi1, hi2⟩ := h
    refine Q4 25  [(0, _), (1, _), (4, _), (5, _)] follows_mixed ⟨rfl, rfl, rfl, rfl, trivial⟩ ?_; refine Qa (some 6) [] (fun _ _ _ _ hF => Qb rfl rfl (Qd hF)) ?_; refine Qa (some 7) [] (fun _ _ _ _ hF => Qb rfl rfl (Qd hF)) ?_
    refine Qa (some 8) [(1, 0)] (by
     intro H' X F hle; have hL := Le.trans hL hle; intro hF; refine Qn rfl rfl ?_
     exact Qd hF) ?_
    refine Qa (some 9) [(0, 2), (2, 0)] (by
     intro H' X F hle; have hL := Le.trans hL hle; intro hF; refine Zl rfl rfl rfl ?_
     rw [decide_eq_true (by omega)]
     exact Qd hF) ?_
    refine Qa (some 10) [(3, 0)] (fun _ _ _ _ hF => Qb rfl rfl (Qd hF)) ?_
    refine Qa (some 11) [(4, 0)] (by
     intro H' X F hle hF; refine Qf rfl rfl rfl (Qb rfl rfl ?_)
     exact Qd hF) ?_
    refine Qa (some 12) [(4, 1)] (by
     intro H' X F hle hF; refine Qf rfl rfl rfl (Qb rfl rfl ?_)
     exact Qd hF) ?_
    refine Qa (some 13) [(6, 0), (4, 2)] (by
     intro H' X F hle; have hL := Le.trans hL hle; intro hF; refine Qf rfl rfl rfl (Qn rfl rfl ?_)
     exact Qd hF) ?_
    refine Qa (some 14) [(5, 2), (7, 0), (4, 3)] (by
     intro H' X F hle; have hL := Le.trans hL hle; intro hF; refine Qf rfl rfl rfl (Zl rfl rfl rfl ?_)
     rw [decide_eq_true (by omega)]
     exact Qd hF) ?_
    refine Qa (some 15) [(4, 4), (8, 0)] (fun _ _ _ _ hF => Qz rfl rfl rfl rfl (Qd hF)) ?_; refine Qa (some 16) [(9, 0)] (fun _ _ _ _ hF => Qb rfl rfl (Qd hF)) ?_
    refine Qa (some 17) [(10, 0)] (by
     intro H' X F hle hF; refine Qf rfl rfl rfl (Qb rfl rfl ?_)
     exact Qd hF) ?_
    refine Qa (some 18) [(10, 1)] (by
     intro H' X F hle hF; refine Qf rfl rfl rfl (Qb rfl rfl ?_)
     exact Qd hF) ?_
    refine Qa (some 19) [(11, 1), (12, 0), (10, 2)] (by
     intro H' X F hle hF; refine Qf rfl rfl rfl ?_; refine Qo (i) rfl rfl rfl (by omega) rfl ?_
     exact Qd hF) ?_
    refine Qa (some 20) [(13, 0), (10, 3)] (by
     intro H' X F hle; have hL := Le.trans hL hle; have hc1 := cel_le hle hc1; intro hF; refine Qf rfl rfl rfl ?_; refine Qp rfl (hc1) rfl ?_
     exact Qd hF) ?_
    refine Qa (some 21) [(14, 0), (10, 4)] (by
     intro H' X F hle hF; refine Qf rfl rfl rfl (Qt rfl rfl ?_)
     exact Qd hF) ?_
    refine Qa (some 22) [(15, 0), (10, 5)] (by
     intro H' X F hle hF; refine Qf rfl rfl rfl (Qg rfl rfl ?_)
     exact Qd hF) ?_
    refine Qa (some 23) [(16, 0), (10, 6)] (by
     intro H' X F hle; have hL := Le.trans hL hle; have hp1 := hAt.mono hle hp1; intro hF; refine Qf rfl rfl rfl ?_; refine Qp rfl (hp1.2.1) rfl ?_
     exact Qd hF) ?_
    refine Qa (some 24) [(10, 7)] (by
     intro H' X F hle hF; refine Qf rfl rfl rfl (Qb rfl rfl ?_)
     exact Qd hF) ?_
    refine Qa (some 25) [(10, 8)] (by
     intro H' X F hle hF; refine Qf rfl rfl rfl (Qb rfl rfl ?_)
     exact Qd hF) ?_
    refine Qa (some 26) [(18, 1), (19, 0), (10, 9)] (by
     intro H' X F hle hF; refine Qf rfl rfl rfl ?_; refine Qo (i) rfl rfl rfl (by omega) rfl ?_
     exact Qd hF) ?_
    refine Qa (some 27) [(20, 0), (10, 10)] (by
     intro H' X F hle; have hL := Le.trans hL hle; have hc2 := cel_le hle hc2; intro hF; refine Qf rfl rfl rfl ?_; refine Qp rfl (hc2) rfl ?_
     exact Qd hF) ?_
    refine Qa (some 28) [(21, 0), (10, 11)] (by
     intro H' X F hle hF; refine Qf rfl rfl rfl (Qt rfl rfl ?_)
     exact Qd hF) ?_
    refine Qa (some 29) [(22, 0), (10, 12)] (by
     intro H' X F hle hF; refine Qf rfl rfl rfl (Qg rfl rfl ?_)
     exact Qd hF) ?_
    refine Qa (some 30) [(23, 0), (10, 13)] (by
     intro H' X F hle; have hL := Le.trans hL hle; have hp2 := hAt.mono hle hp2; intro hF; refine Qf rfl rfl rfl ?_; refine Qp rfl (hp2.2.1) rfl ?_
     exact Qd hF) ?_
    refine ⟨by kernel_rfl, .refl _, ?_⟩
    ·
     intro H4 hle; have hL := Le.trans hL hle; have hcut := Le.trans hcut hle; refine Qw (own' := own) rfl ?_; refine Zi (env' := [(0, _), (1, _), (4, _), (5, _), (16, _), (23, _), (30, _)]) ⟨rfl, rfl, rfl, rfl, rfl, rfl, rfl, trivial⟩ ?_; refine Qf rfl rfl rfl (Za rfl rfl rfl ?_)
     rw [decide_eq_false (fun h => e ((idx_eq hxS hyS).1 h))]
     refine Qz rfl rfl rfl rfl (Qi (Qc (Qr rfl (Zo (Q1 ?_))))); refine Q1 (Zp ?_); refine Zn (own' := own) rfl ?_
     refine TQ.mid [(0, _), (1, _), (4, _), (5, _)] ⟨rfl, rfl, rfl, rfl, trivial⟩ ⟨i, (fro_is hi hj hij (.inr (.inr (by rw [hx, hy]; simp only [ne_eq, Option.some.injEq]; exact e)))).symm, rfl, rfl, hcut⟩
  rintro _ own H5 ⟨f, hf, rfl, rfl, hle5⟩
  rw [← hf]
  have hf12 := fro_le a b
  rw [← hf] at hf12
  obtain ⟨hf1, hf2⟩ := hf12
  have hL := Le.trans hL hle5; have hA := szS.mono hle5 hA; have hB := szS.mono hle5 hB; refine Qj (Q6 ?_); refine Zv (fun n env' own' H' => ∃ k : Nat, n = a.length - k ∧ k ≤ a.length - f ∧ k ≤ b.length - f ∧ (rv f a).take k = (rv f b).take k ∧ env' = [(0, .slice A a.length ca), (1, .slice B b.length cb), (4, .int .i64 (f : Int)), (5, .int .i64 (k : Int))] ∧ own' = own ∧ Le H5 H') a.length [(0, _), (1, _), (4, _), (5, _)] ⟨rfl, rfl, rfl, rfl, trivial⟩ ⟨0, by omega, by omega, by omega, by simp, rfl, rfl, Le.refl _⟩ ?_
  rintro n _ own H6 ⟨k, rfl, hk1, hk2, hk3, rfl, rfl, hle6⟩
  have hL := Le.trans hL hle6; have hA := szS.mono hle6 hA; have hB := szS.mono hle6 hB; refine Qj (Qj ?_)
  have hcase : a.length - f ≤ k ∨ (k < a.length - f ∧ b.length - f ≤ k) ∨ (∃ x y, a[a.length - 1 - k]? = some x ∧ b[b.length - 1 - k]? = some y ∧ x = y ∧ (k < a.length - f ∧ k < b.length - f)) ∨ (∃ x y, a[a.length - 1 - k]? = some x ∧ b[b.length - 1 - k]? = some y ∧ x ≠ y ∧ (k < a.length - f ∧ k < b.length - f)) := by
    rcases Nat.lt_or_ge k (a.length - f) with h1 | h1
    · rcases Nat.lt_or_ge k (b.length - f) with h2 | h2
      · have h3 : a.length - 1 - k < a.length := by omega
        have h4 : b.length - 1 - k < b.length := by omega
        by_cases e : a[a.length - 1 - k] = b[b.length - 1 - k]
        · exact .inr (.inr (.inl ⟨_, _, List.getElem?_eq_getElem h3, List.getElem?_eq_getElem h4, e, h1, h2⟩))
        · exact .inr (.inr (.inr ⟨_, _, List.getElem?_eq_getElem h3, List.getElem?_eq_getElem h4, e, h1, h2⟩))
      · exact .inr (.inl ⟨h1, h2⟩)
    · exact .inl h1
  rcases hcase with h | h | ⟨x, y, hx, hy, e, h⟩ | ⟨x, y, hx, hy, e, h⟩
  ·
   refine Q4 37  [(0, _), (1, _), (4, _), (5, _)] follows_mixed ⟨rfl, rfl, rfl, rfl, trivial⟩ ?_; refine Qa (some 35) [] (fun _ _ _ _ hF => Qb rfl rfl (Qd hF)) ?_; refine Qa (some 36) [] (fun _ _ _ _ hF => Qb rfl rfl (Qd hF)) ?_
   refine Qa (some 37) [(1, 0)] (by
    intro H' X F hle; have hL := Le.trans hL hle; intro hF; refine Qn rfl rfl ?_
    exact Qd hF) ?_
   refine Qa (some 38) [] (fun _ _ _ _ hF => Qb rfl rfl (Qd hF)) ?_; refine Qa (some 39) [(2, 1), (3, 0)] (fun _ _ _ _ hF => Zu rfl rfl rfl ⟨by omega, by omega⟩ (Qd hF)) ?_
   refine Qa (some 40) [(0, 4), (4, 0)] (by
    intro H' X F hle; have hL := Le.trans hL hle; intro hF; refine Zl rfl rfl rfl ?_
    rw [decide_eq_false (by omega)]
    exact Qd hF) ?_
   refine Qa (some 41) [(5, 0)] (fun _ _ _ _ hF => Qb rfl rfl (Qd hF)) ?_
   refine Qa (some 42) [(6, 0)] (by
    intro H' X F hle hF; refine Ql rfl rfl rfl rfl ?_
    exact Qd hF) ?_
   refine Qa (some 43) [(6, 1)] (by
    intro H' X F hle hF; refine Ql rfl rfl rfl rfl ?_
    exact Qd hF) ?_
   refine Qa (some 44) [(8, 0), (6, 2)] (by
    intro H' X F hle hF; refine Ql rfl rfl rfl rfl ?_
    exact Qd hF) ?_
   refine Qa (some 45) [(6, 3)] (by
    intro H' X F hle hF; refine Ql rfl rfl rfl rfl ?_
    exact Qd hF) ?_
   refine Qa (some 46) [(9, 1), (10, 0), (6, 4)] (by
    intro H' X F hle hF; refine Ql rfl rfl rfl rfl ?_
    exact Qd hF) ?_
   refine Qa (some 47) [(7, 4), (11, 0), (6, 5)] (by
    intro H' X F hle hF; refine Ql rfl rfl rfl rfl ?_
    exact Qd hF) ?_
   refine Qa (some 48) [(6, 6), (12, 0)] (fun _ _ _ _ hF => Qx rfl rfl rfl rfl (Qd hF)) ?_; refine Qa (some 49) [(13, 0)] (fun _ _ _ _ hF => Qb rfl rfl (Qd hF)) ?_
   refine Qa (some 50) [(14, 0)] (by
    intro H' X F hle hF; refine Ql rfl rfl rfl rfl ?_
    exact Qd hF) ?_
   refine Qa (some 51) [(14, 1)] (by
    intro H' X F hle hF; refine Ql rfl rfl rfl rfl ?_
    exact Qd hF) ?_
   refine Qa (some 52) [(16, 0), (14, 2)] (by
    intro H' X F hle hF; refine Ql rfl rfl rfl rfl ?_
    exact Qd hF) ?_
   refine Qa (some 53) [(17, 0), (14, 3)] (by
    intro H' X F hle hF; refine Ql rfl rfl rfl rfl ?_
    exact Qd hF) ?_
   refine Qa (some 54) [(14, 4)] (by
    intro H' X F hle hF; refine Ql rfl rfl rfl rfl ?_
    exact Qd hF) ?_
   refine Qa (some 55) [(18, 1), (19, 0), (14, 5)] (by
    intro H' X F hle hF; refine Ql rfl rfl rfl rfl ?_
    exact Qd hF) ?_
   refine Qa (some 56) [(15, 5), (20, 0), (14, 6)] (by
    intro H' X F hle hF; refine Ql rfl rfl rfl rfl ?_
    exact Qd hF) ?_
   refine Qa (some 57) [(21, 0), (14, 7)] (by
    intro H' X F hle hF; refine Ql rfl rfl rfl rfl ?_
    exact Qd hF) ?_
   refine Qa (some 58) [(22, 0), (14, 8)] (by
    intro H' X F hle hF; refine Ql rfl rfl rfl rfl ?_
    exact Qd hF) ?_
   refine Qa (some 59) [(23, 0), (14, 9)] (by
    intro H' X F hle hF; refine Ql rfl rfl rfl rfl ?_
    exact Qd hF) ?_
   refine Qa (some 60) [(24, 0), (14, 10)] (by
    intro H' X F hle hF; refine Ql rfl rfl rfl rfl ?_
    exact Qd hF) ?_
   refine Qa (some 61) [(14, 11)] (by
    intro H' X F hle hF; refine Ql rfl rfl rfl rfl ?_
    exact Qd hF) ?_
   refine Qa (some 62) [(14, 12)] (by
    intro H' X F hle hF; refine Ql rfl rfl rfl rfl ?_
    exact Qd hF) ?_
   refine Qa (some 63) [(27, 0), (14, 13)] (by
    intro H' X F hle hF; refine Ql rfl rfl rfl rfl ?_
    exact Qd hF) ?_
   refine Qa (some 64) [(28, 0), (14, 14)] (by
    intro H' X F hle hF; refine Ql rfl rfl rfl rfl ?_
    exact Qd hF) ?_
   refine Qa (some 65) [(14, 15)] (by
    intro H' X F hle hF; refine Ql rfl rfl rfl rfl ?_
    exact Qd hF) ?_
   refine Qa (some 66) [(29, 1), (30, 0), (14, 16)] (by
    intro H' X F hle hF; refine Ql rfl rfl rfl rfl ?_
    exact Qd hF) ?_
   refine Qa (some 67) [(26, 5), (31, 0), (14, 17)] (by
    intro H' X F hle hF; refine Ql rfl rfl rfl rfl ?_
    exact Qd hF) ?_
   refine Qa (some 68) [(32, 0), (14, 18)] (by
    intro H' X F hle hF; refine Ql rfl rfl rfl rfl ?_
    exact Qd hF) ?_
   refine Qa (some 69) [(33, 0), (14, 19)] (by
    intro H' X F hle hF; refine Ql rfl rfl rfl rfl ?_
    exact Qd hF) ?_
   refine Qa (some 70) [(34, 0), (14, 20)] (by
    intro H' X F hle hF; refine Ql rfl rfl rfl rfl ?_
    exact Qd hF) ?_
   refine Qa (some 71) [(35, 0), (14, 21)] (by
    intro H' X F hle hF; refine Ql rfl rfl rfl rfl ?_
    exact Qd hF) ?_
   refine ⟨by kernel_rfl, .refl _, ?_⟩
   ·
    intro H5 hle; have hL := Le.trans hL hle; refine Qw (own' := own) rfl ?_; refine Zi (env' := [(0, _), (1, _), (4, _), (5, _), (49, _), (60, _), (71, _)]) ⟨rfl, rfl, rfl, rfl, rfl, rfl, rfl, trivial⟩ ?_; refine Ql rfl rfl rfl rfl ?_; refine Qx rfl rfl rfl rfl (Qi (Qc (Qr rfl (Zo (Q1 ?_))))); refine Q1 (Zp (Zm (Qb rfl rfl (Qb rfl rfl (Qe rfl rfl ?_))))); refine Qe rfl rfl (Qi (Qc (Qy (TQ.ret2 0 rfl rfl rfl ?_))))
    refine ⟨?_, rfl, hL⟩
    have hbk : bak f a b = k := fro_is (by rw [rv_len]; omega) (by rw [rv_len]; omega) hk3 (.inl (by rw [rv_len]; omega))
    rw [hbk]
  ·
   refine Q4 37  [(0, _), (1, _), (4, _), (5, _)] follows_mixed ⟨rfl, rfl, rfl, rfl, trivial⟩ ?_; refine Qa (some 35) [] (fun _ _ _ _ hF => Qb rfl rfl (Qd hF)) ?_; refine Qa (some 36) [] (fun _ _ _ _ hF => Qb rfl rfl (Qd hF)) ?_
   refine Qa (some 37) [(1, 0)] (by
    intro H' X F hle; have hL := Le.trans hL hle; intro hF; refine Qn rfl rfl ?_
    exact Qd hF) ?_
   refine Qa (some 38) [] (fun _ _ _ _ hF => Qb rfl rfl (Qd hF)) ?_; refine Qa (some 39) [(2, 1), (3, 0)] (fun _ _ _ _ hF => Zu rfl rfl rfl ⟨by omega, by omega⟩ (Qd hF)) ?_
   refine Qa (some 40) [(0, 4), (4, 0)] (by
    intro H' X F hle; have hL := Le.trans hL hle; intro hF; refine Zl rfl rfl rfl ?_
    rw [decide_eq_true (by omega)]
    exact Qd hF) ?_
   refine Qa (some 41) [(5, 0)] (fun _ _ _ _ hF => Qb rfl rfl (Qd hF)) ?_
   refine Qa (some 42) [(6, 0)] (by
    intro H' X F hle hF; refine Qf rfl rfl rfl (Qb rfl rfl ?_)
    exact Qd hF) ?_
   refine Qa (some 43) [(6, 1)] (by
    intro H' X F hle hF; refine Qf rfl rfl rfl (Qb rfl rfl ?_)
    exact Qd hF) ?_
   refine Qa (some 44) [(8, 0), (6, 2)] (by
    intro H' X F hle; have hL := Le.trans hL hle; intro hF; refine Qf rfl rfl rfl (Qn rfl rfl ?_)
    exact Qd hF) ?_
   refine Qa (some 45) [(6, 3)] (by
    intro H' X F hle hF; refine Qf rfl rfl rfl (Qb rfl rfl ?_)
    exact Qd hF) ?_
   refine Qa (some 46) [(9, 1), (10, 0), (6, 4)] (by
    intro H' X F hle hF; refine Qf rfl rfl rfl ?_; refine Zu rfl rfl rfl ⟨by omega, by omega⟩ ?_
    exact Qd hF) ?_
   refine Qa (some 47) [(7, 4), (11, 0), (6, 5)] (by
    intro H' X F hle; have hL := Le.trans hL hle; intro hF; refine Qf rfl rfl rfl (Zl rfl rfl rfl ?_)
    rw [decide_eq_false (by omega)]
    exact Qd hF) ?_
   refine Qa (some 48) [(6, 6), (12, 0)] (fun _ _ _ _ hF => Qz rfl rfl rfl rfl (Qd hF)) ?_; refine Qa (some 49) [(13, 0)] (fun _ _ _ _ hF => Qb rfl rfl (Qd hF)) ?_
   refine Qa (some 50) [(14, 0)] (by
    intro H' X F hle hF; refine Ql rfl rfl rfl rfl ?_
    exact Qd hF) ?_
   refine Qa (some 51) [(14, 1)] (by
    intro H' X F hle hF; refine Ql rfl rfl rfl rfl ?_
    exact Qd hF) ?_
   refine Qa (some 52) [(16, 0), (14, 2)] (by
    intro H' X F hle hF; refine Ql rfl rfl rfl rfl ?_
    exact Qd hF) ?_
   refine Qa (some 53) [(17, 0), (14, 3)] (by
    intro H' X F hle hF; refine Ql rfl rfl rfl rfl ?_
    exact Qd hF) ?_
   refine Qa (some 54) [(14, 4)] (by
    intro H' X F hle hF; refine Ql rfl rfl rfl rfl ?_
    exact Qd hF) ?_
   refine Qa (some 55) [(18, 1), (19, 0), (14, 5)] (by
    intro H' X F hle hF; refine Ql rfl rfl rfl rfl ?_
    exact Qd hF) ?_
   refine Qa (some 56) [(15, 5), (20, 0), (14, 6)] (by
    intro H' X F hle hF; refine Ql rfl rfl rfl rfl ?_
    exact Qd hF) ?_
   refine Qa (some 57) [(21, 0), (14, 7)] (by
    intro H' X F hle hF; refine Ql rfl rfl rfl rfl ?_
    exact Qd hF) ?_
   refine Qa (some 58) [(22, 0), (14, 8)] (by
    intro H' X F hle hF; refine Ql rfl rfl rfl rfl ?_
    exact Qd hF) ?_
   refine Qa (some 59) [(23, 0), (14, 9)] (by
    intro H' X F hle hF; refine Ql rfl rfl rfl rfl ?_
    exact Qd hF) ?_
   refine Qa (some 60) [(24, 0), (14, 10)] (by
    intro H' X F hle hF; refine Ql rfl rfl rfl rfl ?_
    exact Qd hF) ?_
   refine Qa (some 61) [(14, 11)] (by
    intro H' X F hle hF; refine Ql rfl rfl rfl rfl ?_
    exact Qd hF) ?_
   refine Qa (some 62) [(14, 12)] (by
    intro H' X F hle hF; refine Ql rfl rfl rfl rfl ?_
    exact Qd hF) ?_
   refine Qa (some 63) [(27, 0), (14, 13)] (by
    intro H' X F hle hF; refine Ql rfl rfl rfl rfl ?_
    exact Qd hF) ?_
   refine Qa (some 64) [(28, 0), (14, 14)] (by
    intro H' X F hle hF; refine Ql rfl rfl rfl rfl ?_
    exact Qd hF) ?_
   refine Qa (some 65) [(14, 15)] (by
    intro H' X F hle hF; refine Ql rfl rfl rfl rfl ?_
    exact Qd hF) ?_
   refine Qa (some 66) [(29, 1), (30, 0), (14, 16)] (by
    intro H' X F hle hF; refine Ql rfl rfl rfl rfl ?_
    exact Qd hF) ?_
   refine Qa (some 67) [(26, 5), (31, 0), (14, 17)] (by
    intro H' X F hle hF; refine Ql rfl rfl rfl rfl ?_
    exact Qd hF) ?_
   refine Qa (some 68) [(32, 0), (14, 18)] (by
    intro H' X F hle hF; refine Ql rfl rfl rfl rfl ?_
    exact Qd hF) ?_
   refine Qa (some 69) [(33, 0), (14, 19)] (by
    intro H' X F hle hF; refine Ql rfl rfl rfl rfl ?_
    exact Qd hF) ?_
   refine Qa (some 70) [(34, 0), (14, 20)] (by
    intro H' X F hle hF; refine Ql rfl rfl rfl rfl ?_
    exact Qd hF) ?_
   refine Qa (some 71) [(35, 0), (14, 21)] (by
    intro H' X F hle hF; refine Ql rfl rfl rfl rfl ?_
    exact Qd hF) ?_
   refine ⟨by kernel_rfl, .refl _, ?_⟩
   ·
    intro H6 hle; have hL := Le.trans hL hle; refine Qw (own' := own) rfl ?_; refine Zi (env' := [(0, _), (1, _), (4, _), (5, _), (49, _), (60, _), (71, _)]) ⟨rfl, rfl, rfl, rfl, rfl, rfl, rfl, trivial⟩ ?_; refine Ql rfl rfl rfl rfl ?_; refine Qx rfl rfl rfl rfl (Qi (Qc (Qr rfl (Zo (Q1 ?_))))); refine Q1 (Zp (Zm (Qb rfl rfl (Qb rfl rfl (Qe rfl rfl ?_))))); refine Qe rfl rfl (Qi (Qc (Qy (TQ.ret2 0 rfl rfl rfl ?_))))
    refine ⟨?_, rfl, hL⟩
    have hbk : bak f a b = k := fro_is (by rw [rv_len]; omega) (by rw [rv_len]; omega) hk3 (.inr (.inl (by rw [rv_len]; omega)))
    rw [hbk]
  ·
   obtain ⟨b1, o1, u1, rfl, hc1, hz1⟩ := hA.at hx
   obtain ⟨b2, o2, u2, rfl, hc2, hz2⟩ := hB.at hy
   obtain ⟨g1, v1, x0, x1, rfl, hp1, _, _⟩ := hz1.open
   obtain ⟨g2, v2, y0, y1, rfl, hp2, _, _⟩ := hz2.open
   have hxS := ha x (List.mem_of_getElem? hx)
   have hyS := hb y (List.mem_of_getElem? hy)
   obtain ⟨hi1, hi2⟩ := h
   refine Q4 37  [(0, _), (1, _), (4, _), (5, _)] follows_mixed ⟨rfl, rfl, rfl, rfl, trivial⟩ ?_; refine Qa (some 35) [] (fun _ _ _ _ hF => Qb rfl rfl (Qd hF)) ?_; refine Qa (some 36) [] (fun _ _ _ _ hF => Qb rfl rfl (Qd hF)) ?_
   refine Qa (some 37) [(1, 0)] (by
    intro H' X F hle; have hL := Le.trans hL hle; intro hF; refine Qn rfl rfl ?_
    exact Qd hF) ?_
   refine Qa (some 38) [] (fun _ _ _ _ hF => Qb rfl rfl (Qd hF)) ?_; refine Qa (some 39) [(2, 1), (3, 0)] (fun _ _ _ _ hF => Zu rfl rfl rfl ⟨by omega, by omega⟩ (Qd hF)) ?_
   refine Qa (some 40) [(0, 4), (4, 0)] (by
    intro H' X F hle; have hL := Le.trans hL hle; intro hF; refine Zl rfl rfl rfl ?_
    rw [decide_eq_true (by omega)]
    exact Qd hF) ?_
   refine Qa (some 41) [(5, 0)] (fun _ _ _ _ hF => Qb rfl rfl (Qd hF)) ?_
   refine Qa (some 42) [(6, 0)] (by
    intro H' X F hle hF; refine Qf rfl rfl rfl (Qb rfl rfl ?_)
    exact Qd hF) ?_
   refine Qa (some 43) [(6, 1)] (by
    intro H' X F hle hF; refine Qf rfl rfl rfl (Qb rfl rfl ?_)
    exact Qd hF) ?_
   refine Qa (some 44) [(8, 0), (6, 2)] (by
    intro H' X F hle; have hL := Le.trans hL hle; intro hF; refine Qf rfl rfl rfl (Qn rfl rfl ?_)
    exact Qd hF) ?_
   refine Qa (some 45) [(6, 3)] (by
    intro H' X F hle hF; refine Qf rfl rfl rfl (Qb rfl rfl ?_)
    exact Qd hF) ?_
   refine Qa (some 46) [(9, 1), (10, 0), (6, 4)] (by
    intro H' X F hle hF; refine Qf rfl rfl rfl ?_; refine Zu rfl rfl rfl ⟨by omega, by omega⟩ ?_
    exact Qd hF) ?_
   refine Qa (some 47) [(7, 4), (11, 0), (6, 5)] (by
    intro H' X F hle; have hL := Le.trans hL hle; intro hF; refine Qf rfl rfl rfl (Zl rfl rfl rfl ?_)
    rw [decide_eq_true (by omega)]
    exact Qd hF) ?_
   refine Qa (some 48) [(6, 6), (12, 0)] (fun _ _ _ _ hF => Qz rfl rfl rfl rfl (Qd hF)) ?_; refine Qa (some 49) [(13, 0)] (fun _ _ _ _ hF => Qb rfl rfl (Qd hF)) ?_
   refine Qa (some 50) [(14, 0)] (by
    intro H' X F hle hF; refine Qf rfl rfl rfl (Qb rfl rfl ?_)
    exact Qd hF) ?_
   refine Qa (some 51) [(14, 1)] (by
    intro H' X F hle hF; refine Qf rfl rfl rfl (Qb rfl rfl ?_)
    exact Qd hF) ?_
   refine Qa (some 52) [(16, 0), (14, 2)] (by
    intro H' X F hle; have hL := Le.trans hL hle; intro hF; refine Qf rfl rfl rfl (Qn rfl rfl ?_)
    exact Qd hF) ?_
   refine Qa (some 53) [(17, 0), (14, 3)] (by
    intro H' X F hle hF; refine Qf rfl rfl rfl ?_; refine Zu rfl rfl rfl ⟨by omega, by omega⟩ ?_
    exact Qd hF) ?_
   refine Qa (some 54) [(14, 4)] (by
    intro H' X F hle hF; refine Qf rfl rfl rfl (Qb rfl rfl ?_)
    exact Qd hF) ?_
   refine Qa (some 55) [(18, 1), (19, 0), (14, 5)] (by
    intro H' X F hle hF; refine Qf rfl rfl rfl ?_; refine Zu rfl rfl rfl ⟨by omega, by omega⟩ ?_
    exact Qd hF) ?_
   refine Qa (some 56) [(15, 5), (20, 0), (14, 6)] (by
    intro H' X F hle hF; refine Qf rfl rfl rfl ?_; refine Qo (a.length - 1 - k) rfl rfl (by omega) (by omega) rfl ?_
    exact Qd hF) ?_
   refine Qa (some 57) [(21, 0), (14, 7)] (by
    intro H' X F hle; have hL := Le.trans hL hle; have hc1 := cel_le hle hc1; intro hF; refine Qf rfl rfl rfl ?_; refine Qp rfl (hc1) rfl ?_
    exact Qd hF) ?_
   refine Qa (some 58) [(22, 0), (14, 8)] (by
    intro H' X F hle hF; refine Qf rfl rfl rfl (Qt rfl rfl ?_)
    exact Qd hF) ?_
   refine Qa (some 59) [(23, 0), (14, 9)] (by
    intro H' X F hle hF; refine Qf rfl rfl rfl (Qg rfl rfl ?_)
    exact Qd hF) ?_
   refine Qa (some 60) [(24, 0), (14, 10)] (by
    intro H' X F hle; have hL := Le.trans hL hle; have hp1 := hAt.mono hle hp1; intro hF; refine Qf rfl rfl rfl ?_; refine Qp rfl (hp1.2.1) rfl ?_
    exact Qd hF) ?_
   refine Qa (some 61) [(14, 11)] (by
    intro H' X F hle hF; refine Qf rfl rfl rfl (Qb rfl rfl ?_)
    exact Qd hF) ?_
   refine Qa (some 62) [(14, 12)] (by
    intro H' X F hle hF; refine Qf rfl rfl rfl (Qb rfl rfl ?_)
    exact Qd hF) ?_
   refine Qa (some 63) [(27, 0), (14, 13)] (by
    intro H' X F hle; have hL := Le.trans hL hle; intro hF; refine Qf rfl rfl rfl (Qn rfl rfl ?_)
    exact Qd hF) ?_
   refine Qa (some 64) [(28, 0), (14, 14)] (by
    intro H' X F hle hF; refine Qf rfl rfl rfl ?_; refine Zu rfl rfl rfl ⟨by omega, by omega⟩ ?_
    exact Qd hF) ?_
   refine Qa (some 65) [(14, 15)] (by
    intro H' X F hle hF; refine Qf rfl rfl rfl (Qb rfl rfl ?_)
    exact Qd hF) ?_
   refine Qa (some 66) [(29, 1), (30, 0), (14, 16)] (by
    intro H' X F hle hF; refine Qf rfl rfl rfl ?_; refine Zu rfl rfl rfl ⟨by omega, by omega⟩ ?_
    exact Qd hF) ?_
   refine Qa (some 67) [(26, 5), (31, 0), (14, 17)] (by
    intro H' X F hle hF; refine Qf rfl rfl rfl ?_; refine Qo (b.length - 1 - k) rfl rfl (by omega) (by omega) rfl ?_
    exact Qd hF) ?_
   refine Qa (some 68) [(32, 0), (14, 18)] (by
    intro H' X F hle; have hL := Le.trans hL hle; have hc2 := cel_le hle hc2; intro hF; refine Qf rfl rfl rfl ?_; refine Qp rfl (hc2) rfl ?_
    exact Qd hF) ?_
   refine Qa (some 69) [(33, 0), (14, 19)] (by
    intro H' X F hle hF; refine Qf rfl rfl rfl (Qt rfl rfl ?_)
    exact Qd hF) ?_
   refine Qa (some 70) [(34, 0), (14, 20)] (by
    intro H' X F hle hF; refine Qf rfl rfl rfl (Qg rfl rfl ?_)
    exact Qd hF) ?_
   refine Qa (some 71) [(35, 0), (14, 21)] (by
    intro H' X F hle; have hL := Le.trans hL hle; have hp2 := hAt.mono hle hp2; intro hF; refine Qf rfl rfl rfl ?_; refine Qp rfl (hp2.2.1) rfl ?_
    exact Qd hF) ?_
   refine ⟨by kernel_rfl, .refl _, ?_⟩
   ·
    intro H7 hle; have hL := Le.trans hL hle; have hle6 := Le.trans hle6 hle; refine Qw (own' := own) rfl ?_; refine Zi (env' := [(0, _), (1, _), (4, _), (5, _), (49, _), (60, _), (71, _)]) ⟨rfl, rfl, rfl, rfl, rfl, rfl, rfl, trivial⟩ ?_; refine Qf rfl rfl rfl (Za rfl rfl rfl ?_)
    rw [decide_eq_true ((idx_eq hxS hyS).2 e)]
    refine Qz rfl rfl rfl rfl (Qi (Qc (Qv rfl (Q2 (Qc ?_))))); refine Q6 (Qh (Qb rfl rfl ?_)); refine Zb rfl rfl rfl ⟨by omega, by omega⟩ (Qe rfl rfl (Qi (Ze ?_))); refine Zn (own' := own) rfl ?_
    refine Zf (a.length - (k + 1)) [(0, _), (1, _), (4, _), (5, _)] (by omega) ⟨rfl, rfl, rfl, rfl, trivial⟩ ⟨k + 1, rfl, by omega, by omega, take_step hk3 (by rw [rv_at hi1]; exact hx) (by rw [rv_at hi2, e]; exact hy), by simp, rfl, hle6⟩
  ·
   obtain ⟨b1, o1, u1, rfl, hc1, hz1⟩ := hA.at hx
   obtain ⟨b2, o2, u2, rfl, hc2, hz2⟩ := hB.at hy
   obtain ⟨g1, v1, x0, x1, rfl, hp1, _, _⟩ := hz1.open
   obtain ⟨g2, v2, y0, y1, rfl, hp2, _, _⟩ := hz2.open
   have hxS := ha x (List.mem_of_getElem? hx)
   have hyS := hb y (List.mem_of_getElem? hy)
   obtain ⟨hi1, hi2⟩ := h
   refine Q4 37  [(0, _), (1, _), (4, _), (5, _)] follows_mixed ⟨rfl, rfl, rfl, rfl, trivial⟩ ?_; refine Qa (some 35) [] (fun _ _ _ _ hF => Qb rfl rfl (Qd hF)) ?_; refine Qa (some 36) [] (fun _ _ _ _ hF => Qb rfl rfl (Qd hF)) ?_
   refine Qa (some 37) [(1, 0)] (by
    intro H' X F hle; have hL := Le.trans hL hle; intro hF; refine Qn rfl rfl ?_
    exact Qd hF) ?_
   refine Qa (some 38) [] (fun _ _ _ _ hF => Qb rfl rfl (Qd hF)) ?_; refine Qa (some 39) [(2, 1), (3, 0)] (fun _ _ _ _ hF => Zu rfl rfl rfl ⟨by omega, by omega⟩ (Qd hF)) ?_
   refine Qa (some 40) [(0, 4), (4, 0)] (by
    intro H' X F hle; have hL := Le.trans hL hle; intro hF; refine Zl rfl rfl rfl ?_
    rw [decide_eq_true (by omega)]
    exact Qd hF) ?_
   refine Qa (some 41) [(5, 0)] (fun _ _ _ _ hF => Qb rfl rfl (Qd hF)) ?_
   refine Qa (some 42) [(6, 0)] (by
    intro H' X F hle hF; refine Qf rfl rfl rfl (Qb rfl rfl ?_)
    exact Qd hF) ?_
   refine Qa (some 43) [(6, 1)] (by
    intro H' X F hle hF; refine Qf rfl rfl rfl (Qb rfl rfl ?_)
    exact Qd hF) ?_
   refine Qa (some 44) [(8, 0), (6, 2)] (by
    intro H' X F hle; have hL := Le.trans hL hle; intro hF; refine Qf rfl rfl rfl (Qn rfl rfl ?_)
    exact Qd hF) ?_
   refine Qa (some 45) [(6, 3)] (by
    intro H' X F hle hF; refine Qf rfl rfl rfl (Qb rfl rfl ?_)
    exact Qd hF) ?_
   refine Qa (some 46) [(9, 1), (10, 0), (6, 4)] (by
    intro H' X F hle hF; refine Qf rfl rfl rfl ?_; refine Zu rfl rfl rfl ⟨by omega, by omega⟩ ?_
    exact Qd hF) ?_
   refine Qa (some 47) [(7, 4), (11, 0), (6, 5)] (by
    intro H' X F hle; have hL := Le.trans hL hle; intro hF; refine Qf rfl rfl rfl (Zl rfl rfl rfl ?_)
    rw [decide_eq_true (by omega)]
    exact Qd hF) ?_
   refine Qa (some 48) [(6, 6), (12, 0)] (fun _ _ _ _ hF => Qz rfl rfl rfl rfl (Qd hF)) ?_; refine Qa (some 49) [(13, 0)] (fun _ _ _ _ hF => Qb rfl rfl (Qd hF)) ?_
   refine Qa (some 50) [(14, 0)] (by
    intro H' X F hle hF; refine Qf rfl rfl rfl (Qb rfl rfl ?_)
    exact Qd hF) ?_
   refine Qa (some 51) [(14, 1)] (by
    intro H' X F hle hF; refine Qf rfl rfl rfl (Qb rfl rfl ?_)
    exact Qd hF) ?_
   refine Qa (some 52) [(16, 0), (14, 2)] (by
    intro H' X F hle; have hL := Le.trans hL hle; intro hF; refine Qf rfl rfl rfl (Qn rfl rfl ?_)
    exact Qd hF) ?_
   refine Qa (some 53) [(17, 0), (14, 3)] (by
    intro H' X F hle hF; refine Qf rfl rfl rfl ?_; refine Zu rfl rfl rfl ⟨by omega, by omega⟩ ?_
    exact Qd hF) ?_
   refine Qa (some 54) [(14, 4)] (by
    intro H' X F hle hF; refine Qf rfl rfl rfl (Qb rfl rfl ?_)
    exact Qd hF) ?_
   refine Qa (some 55) [(18, 1), (19, 0), (14, 5)] (by
    intro H' X F hle hF; refine Qf rfl rfl rfl ?_; refine Zu rfl rfl rfl ⟨by omega, by omega⟩ ?_
    exact Qd hF) ?_
   refine Qa (some 56) [(15, 5), (20, 0), (14, 6)] (by
    intro H' X F hle hF; refine Qf rfl rfl rfl ?_; refine Qo (a.length - 1 - k) rfl rfl (by omega) (by omega) rfl ?_
    exact Qd hF) ?_
   refine Qa (some 57) [(21, 0), (14, 7)] (by
    intro H' X F hle; have hL := Le.trans hL hle; have hc1 := cel_le hle hc1; intro hF; refine Qf rfl rfl rfl ?_; refine Qp rfl (hc1) rfl ?_
    exact Qd hF) ?_
   refine Qa (some 58) [(22, 0), (14, 8)] (by
    intro H' X F hle hF; refine Qf rfl rfl rfl (Qt rfl rfl ?_)
    exact Qd hF) ?_
   refine Qa (some 59) [(23, 0), (14, 9)] (by
    intro H' X F hle hF; refine Qf rfl rfl rfl (Qg rfl rfl ?_)
    exact Qd hF) ?_
   refine Qa (some 60) [(24, 0), (14, 10)] (by
    intro H' X F hle; have hL := Le.trans hL hle; have hp1 := hAt.mono hle hp1; intro hF; refine Qf rfl rfl rfl ?_; refine Qp rfl (hp1.2.1) rfl ?_
    exact Qd hF) ?_
   refine Qa (some 61) [(14, 11)] (by
    intro H' X F hle hF; refine Qf rfl rfl rfl (Qb rfl rfl ?_)
    exact Qd hF) ?_
   refine Qa (some 62) [(14, 12)] (by
    intro H' X F hle hF; refine Qf rfl rfl rfl (Qb rfl rfl ?_)
    exact Qd hF) ?_
   refine Qa (some 63) [(27, 0), (14, 13)] (by
    intro H' X F hle; have hL := Le.trans hL hle; intro hF; refine Qf rfl rfl rfl (Qn rfl rfl ?_)
    exact Qd hF) ?_
   refine Qa (some 64) [(28, 0), (14, 14)] (by
    intro H' X F hle hF; refine Qf rfl rfl rfl ?_; refine Zu rfl rfl rfl ⟨by omega, by omega⟩ ?_
    exact Qd hF) ?_
   refine Qa (some 65) [(14, 15)] (by
    intro H' X F hle hF; refine Qf rfl rfl rfl (Qb rfl rfl ?_)
    exact Qd hF) ?_
   refine Qa (some 66) [(29, 1), (30, 0), (14, 16)] (by
    intro H' X F hle hF; refine Qf rfl rfl rfl ?_; refine Zu rfl rfl rfl ⟨by omega, by omega⟩ ?_
    exact Qd hF) ?_
   refine Qa (some 67) [(26, 5), (31, 0), (14, 17)] (by
    intro H' X F hle hF; refine Qf rfl rfl rfl ?_; refine Qo (b.length - 1 - k) rfl rfl (by omega) (by omega) rfl ?_
    exact Qd hF) ?_
   refine Qa (some 68) [(32, 0), (14, 18)] (by
    intro H' X F hle; have hL := Le.trans hL hle; have hc2 := cel_le hle hc2; intro hF; refine Qf rfl rfl rfl ?_; refine Qp rfl (hc2) rfl ?_
    exact Qd hF) ?_
   refine Qa (some 69) [(33, 0), (14, 19)] (by
    intro H' X F hle hF; refine Qf rfl rfl rfl (Qt rfl rfl ?_)
    exact Qd hF) ?_
   refine Qa (some 70) [(34, 0), (14, 20)] (by
    intro H' X F hle hF; refine Qf rfl rfl rfl (Qg rfl rfl ?_)
    exact Qd hF) ?_
   refine Qa (some 71) [(35, 0), (14, 21)] (by
    intro H' X F hle; have hL := Le.trans hL hle; have hp2 := hAt.mono hle hp2; intro hF; refine Qf rfl rfl rfl ?_; refine Qp rfl (hp2.2.1) rfl ?_
    exact Qd hF) ?_
   refine ⟨by kernel_rfl, .refl _, ?_⟩
   ·
    intro H8 hle; have hL := Le.trans hL hle; refine Qw (own' := own) rfl ?_; refine Zi (env' := [(0, _), (1, _), (4, _), (5, _), (49, _), (60, _), (71, _)]) ⟨rfl, rfl, rfl, rfl, rfl, rfl, rfl, trivial⟩ ?_; refine Qf rfl rfl rfl (Za rfl rfl rfl ?_)
    rw [decide_eq_false (fun h => e ((idx_eq hxS hyS).1 h))]
    refine Qz rfl rfl rfl rfl (Qi (Qc (Qr rfl (Zo (Q1 ?_))))); refine Q1 (Zp (Zm (Qb rfl rfl (Qb rfl rfl (Qe rfl rfl ?_))))); refine Qe rfl rfl (Qi (Qc (Qy (TQ.ret2 0 rfl rfl rfl ?_))))
    refine ⟨?_, rfl, hL⟩
    have hbk : bak f a b = k := fro_is (by rw [rv_len]; omega) (by rw [rv_len]; omega) hk3 (.inr (.inr (by rw [rv_at hi1, rv_at hi2, hx, hy]; simp only [ne_eq, Option.some.injEq]; exact e)))
    rw [hbk]

end Go.Proofs.YtaomdfcplamenaaGreatDoor.K

namespace Go.Proofs.YtaomdfcplamenaaGreatDoor.K
open Go Go.RowKit Go.Proofs

def midA (a b : List Tr) : List Tr := (a.drop (fro a b)).take (a.length - bak (fro a b) a b - fro a b)
def midB (a b : List Tr) : List Tr := (b.drop (fro a b)).take (b.length - bak (fro a b) a b - fro a b)
def alD (d : Tr → Tr → Nat) : List Tr → List Tr → Nat
  | [], b => Tr.sizes b
  | x :: a, [] => Tr.sizes (x :: a)
  | x :: a, y :: b => min (min (alD d a b + d x y) (alD d a (y :: b) + x.size)) (alD d (x :: a) b + y.size)
termination_by a b => a.length + b.length
theorem alD_nil (d : Tr → Tr → Nat) (b : List Tr) : alD d [] b = Tr.sizes b := by rw [alD]
theorem alD_nil2 (d : Tr → Tr → Nat) (a : List Tr) : alD d a [] = Tr.sizes a := by cases a <;> rw [alD]
theorem alD_cons (d : Tr → Tr → Nat) (x y : Tr) (a b : List Tr) : alD d (x :: a) (y :: b) = min (min (alD d a b + d x y) (alD d a (y :: b) + x.size)) (alD d (x :: a) b + y.size) := by rw [alD]
theorem alD_congr {d d' : Tr → Tr → Nat} : ∀ (a b : List Tr), (∀ x ∈ a, ∀ y ∈ b, d x y = d' x y) → alD d a b = alD d' a b
  | [], b, _ => by rw [alD_nil, alD_nil]
  | x :: a, [], _ => by rw [alD_nil2, alD_nil2]
  | x :: a, y :: b, h => by
    rw [alD_cons, alD_cons, h x (by simp) y (by simp), alD_congr a b (fun u hu v hv => h u (by simp [hu]) v (by simp [hv])), alD_congr a (y :: b) (fun u hu v hv => h u (by simp [hu]) v hv), alD_congr (x :: a) b (fun u hu v hv => h u hu v (by simp [hv]))]
termination_by a b => a.length + b.length
theorem alD_le (d : Tr → Tr → Nat) : ∀ (a b : List Tr), alD d a b ≤ Tr.sizes a + Tr.sizes b
  | [], b => by rw [alD_nil]; omega
  | x :: a, [] => by rw [alD_nil2]; omega
  | x :: a, y :: b => by
    have := alD_le d a (y :: b)
    rw [alD_cons]
    simp only [Tr.sizes] at this ⊢
    omega
def distK : Nat → Tr → Tr → Nat
  | 0, _, _ => 0
  | k + 1, x, y => if x = y then 0 else if x.lab ≠ y.lab then x.size + y.size else alD (distK k) (midA x.kids y.kids) (midB x.kids y.kids)
theorem mem_mid {x : Tr} {a : List Tr} {f n : Nat} (h : x ∈ (a.drop f).take n) : x ∈ a := List.mem_of_mem_drop (List.mem_of_mem_take h)
theorem kid_size {x c : Tr} (h : c ∈ x.kids) : c.size < x.size := by
  obtain ⟨l, ks⟩ := x
  have := Tr.size_mem h
  simp only [Tr.kids] at this
  simp only [Tr.size]; omega
theorem distK_eq : ∀ (k k' : Nat) (x y : Tr), x.size ≤ k → x.size ≤ k' → distK k x y = distK k' x y
  | 0, _, x, _, h, _ => by have := x.size_pos; omega
  | _ + 1, 0, x, _, _, h => by have := x.size_pos; omega
  | k + 1, k' + 1, x, y, h1, h2 => by
    simp only [distK]
    rw [alD_congr (d := distK k) (d' := distK k')]
    intro c hc e _
    have := kid_size (mem_mid hc)
    exact distK_eq k k' c e (by omega) (by omega)
def dist (x y : Tr) : Nat := distK x.size x y
theorem dist_eq (x y : Tr) : dist x y = if x = y then 0 else if x.lab ≠ y.lab then x.size + y.size else alD dist (midA x.kids y.kids) (midB x.kids y.kids) := by
  obtain ⟨k, hk⟩ : ∃ k, x.size = k + 1 := ⟨x.size - 1, by have := x.size_pos; omega⟩
  have e1 : alD (distK k) (midA x.kids y.kids) (midB x.kids y.kids) = alD dist (midA x.kids y.kids) (midB x.kids y.kids) := by
    refine alD_congr _ _ ?_
    intro c hc e _
    have := kid_size (mem_mid hc)
    exact distK_eq _ _ c e (by omega) (by omega)
  show distK x.size x y = _
  rw [← e1]
  rw [show distK x.size x y = distK (k + 1) x y by rw [hk]]
  simp only [distK]
theorem sizes_take_le (a : List Tr) (n : Nat) : Tr.sizes (a.take n) ≤ Tr.sizes a := Tr.sizes_take_le a n
theorem sizes_drop_le : ∀ (a : List Tr) (n : Nat), Tr.sizes (a.drop n) ≤ Tr.sizes a
  | [], n => by simp
  | x :: a, 0 => by simp
  | x :: a, n + 1 => by
    have := sizes_drop_le a n
    simp only [List.drop_succ_cons, Tr.sizes]; omega
theorem sizes_mid (a : List Tr) (f n : Nat) : Tr.sizes ((a.drop f).take n) ≤ Tr.sizes a := Nat.le_trans (sizes_take_le _ _) (sizes_drop_le _ _)
theorem size_kids (x : Tr) : x.size = Tr.sizes x.kids + 1 := by obtain ⟨l, ks⟩ := x; rfl
theorem dist_le (x y : Tr) : dist x y ≤ x.size + y.size := by
  rw [dist_eq]
  split
  · omega
  · split
    · omega
    · have h1 := alD_le dist (midA x.kids y.kids) (midB x.kids y.kids)
      have h2 := sizes_mid x.kids (fro x.kids y.kids) (x.kids.length - bak (fro x.kids y.kids) x.kids y.kids - fro x.kids y.kids)
      have h3 := sizes_mid y.kids (fro x.kids y.kids) (y.kids.length - bak (fro x.kids y.kids) x.kids y.kids - fro x.kids y.kids)
      have h4 := size_kids x
      have h5 := size_kids y
      unfold midA midB at *
      omega
/-! the table in memory -/
theorem outR_get {m k q : Nat} {gs : List Nat} {g : Nat} (h : gs[q]? = some g) : lget (List.replicate k (Value.slice none 0 0) ++ outL m gs).toArray.toList (0 + (k + q) * 1) = some (.slice (some ⟨g, 0, none⟩) (m + 1) (m + 1)) := by
  rw [lget_eq]
  simp only [Nat.zero_add, Nat.mul_one]
  rw [List.getElem?_append_right (by simp)]
  simp [outL, h]
theorem outR_set {m k : Nat} {gs : List Nat} {g : Nat} : ((List.replicate (k + 1) (Value.slice none 0 0) ++ outL m gs).toArray).setIfInBounds (0 + k * 1) (.slice (some ⟨g, 0, none⟩) (m + 1) (m + 1)) = (List.replicate k (Value.slice none 0 0) ++ outL m (g :: gs)).toArray := by
  simp only [Nat.zero_add, Nat.mul_one, List.setIfInBounds_toArray]
  congr 1
  rw [List.replicate_succ', List.append_assoc, List.set_append_right _ _ (by simp)]
  simp [outL]
def rz (T : Nat → Nat → Int) (i : Nat) : Nat → Nat → Int := fun i' j' => if i' = i then 0 else T i' j'
theorem rows_new {m : Nat} {T : Nat → Nat → Int} {i g : Nat} {gs : List Nat} : (g, Obj.cells (rowC m (fun _ => 0)) 3 (0, 0)) :: rowsFrom m T (i + 1) gs = rowsFrom m (rz T i) i (g :: gs) := by
  simp only [rowsFrom]
  rw [show rz T i i = fun _ => 0 from by funext q; simp [rz], rows_congr (T := T) (T' := rz T i)]
  intro q h1 _
  funext z
  simp only [rz]
  rw [if_neg (by omega)]
theorem rows_setH {m : Nat} {T : Nat → Nat → Int} {i j g : Nat} {gs : List Nat} {v : Int} (hj : j ≤ m) :
    (rowsFrom m T i (g :: gs)).set 0 (g, .cells ((rowC m (T i)).setIfInBounds (0 + j * 1) (.int .i64 v)) 3 (0, 0)) = rowsFrom m (upd T i j v) i (g :: gs) := by
  have := rows_set (T := T) (v := v) hj (gs := g :: gs) (k := i) (i := 0) (g := g) rfl
  simpa using this
theorem own_set1 {x a b b' : Seg} {r : List Seg} (h : b = b') : (x :: a :: r).set 1 b = x :: b' :: r := by rw [h]; rfl
def OkA (a b : List Tr) (T : Nat → Nat → Int) (k q : Nat) : Prop := ∀ i j, i ≤ a.length → j ≤ b.length → (k ≤ i ∨ (i + 1 = k ∧ q ≤ j)) → T i j = (alD dist (a.drop i) (b.drop j) : Int)
theorem OkA.init (a b : List Tr) (T : Nat → Nat → Int) : OkA a b T (a.length + 1) (b.length + 1) := by
  intro i j h1 h2 h3; omega
theorem OkA.row {a b : List Tr} {T : Nat → Nat → Int} {i : Nat} (h : OkA a b T (i + 1) (b.length + 1)) : OkA a b (rz T i) (i + 1) (b.length + 1) := by
  intro i' j h1 h2 h3
  rw [← h i' j h1 h2 h3]
  simp only [rz]
  rw [if_neg (by omega)]
theorem OkA.leave {a b : List Tr} {T : Nat → Nat → Int} {i : Nat} (h : OkA a b T (i + 1) 0) : OkA a b T i (b.length + 1) := by
  intro i' j h1 h2 h3
  exact h i' j h1 h2 (by omega)
theorem OkA.set {a b : List Tr} {T : Nat → Nat → Int} {i j : Nat} {v : Int} (h : OkA a b T (i + 1) (j + 1)) (hv : v = (alD dist (a.drop i) (b.drop j) : Int)) : OkA a b (upd T i j v) (i + 1) j := by
  intro i' j' h1 h2 h3
  by_cases he : i' = i ∧ j' = j
  · obtain ⟨rfl, rfl⟩ := he
    rw [upd_same, hv]
  · rw [upd_ne T v he]
    exact h i' j' h1 h2 (by omega)
theorem OkA.keep {a b : List Tr} {T : Nat → Nat → Int} {i j : Nat} (h : OkA a b T (i + 1) (j + 1)) (hv : T i j = (alD dist (a.drop i) (b.drop j) : Int)) : OkA a b T (i + 1) j := by
  intro i' j' h1 h2 h3
  by_cases he : i' = i ∧ j' = j
  · obtain ⟨rfl, rfl⟩ := he
    exact hv
  · exact h i' j' h1 h2 (by omega)
def TabAt (H : Hp) (a b : List Tr) (v : Value) : Prop := ∃ g, v = .slice (some ⟨g, 0, none⟩) (a.length + 1) (a.length + 1) ∧ ∀ i, i ≤ a.length → ∃ gi, cel H g (0 + i * 1) = some (.slice (some ⟨gi, 0, none⟩) (b.length + 1) (b.length + 1)) ∧
  ∀ j, j ≤ b.length → cel H gi (0 + j * 1) = some (.int .i64 (alD dist (a.drop i) (b.drop j) : Int))
theorem TabAt.mono {H H' : Hp} (hl : Le H H') {a b : List Tr} {v : Value} (h : TabAt H a b v) : TabAt H' a b v := by
  obtain ⟨g, h1, h2⟩ := h
  refine ⟨g, h1, fun i hi => ?_⟩
  obtain ⟨gi, h3, h4⟩ := h2 i hi
  exact ⟨gi, cel_le hl h3, fun j hj => cel_le hl (h4 j hj)⟩
theorem tab_mk {H : Hp} {a b : List Tr} {T : Nat → Nat → Int} {gs : List Nat} {g : Nat} {e : TypeId} (hl : gs.length = a.length + 1) (hok : OkA a b T 0 (b.length + 1))
    (h1 : ∀ p ∈ ([(g, .cells (List.replicate 0 (Value.slice none 0 0) ++ outL b.length gs).toArray e (0, 0))] : Seg), H p.1 = some p.2) (h2 : ∀ p ∈ rowsFrom b.length T 0 gs, H p.1 = some p.2) : TabAt H a b (.slice (some ⟨g, 0, none⟩) (a.length + 1) (a.length + 1)) := by
  refine ⟨g, rfl, fun i hi => ?_⟩
  obtain ⟨gi, hgi⟩ : ∃ x, gs[i]? = some x := ⟨_, List.getElem?_eq_getElem (by omega)⟩
  refine ⟨gi, ?_, fun j hj => ?_⟩
  · have e1 := h1 _ (List.mem_singleton.2 rfl)
    have e2 := outR_get (m := b.length) (k := 0) hgi
    rw [lget_eq] at e2
    unfold cel
    rw [e1]
    simpa using e2
  · have e1 := h2 _ (List.mem_of_getElem? (rows_get0 hgi))
    have e2 := rowC_get (f := T i) hj
    rw [lget_eq] at e2
    rw [← hok i j hi hj (.inl (by omega))]
    unfold cel
    rw [e1]
    simpa using e2
/-! what is remembered -/
def pairV (S : List Tr) (x y : Tr) : Value := .agg #[.int .i64 (S.idxOf x : Int), .int .i64 (S.idxOf y : Int)]
structure Memo (S : List Tr) (D : List (Tr × Tr)) (m : Value → Option Value) : Prop where
  nodup : D.Nodup
  mem : ∀ p ∈ D, p.1 ∈ S ∧ p.2 ∈ S
  has : ∀ x ∈ S, ∀ y ∈ S, (x, y) ∈ D → m (pairV S x y) = some (.int .i64 (dist x y : Int))
  none : ∀ x ∈ S, ∀ y ∈ S, (x, y) ∉ D → m (pairV S x y) = none
theorem Memo.nil (S : List Tr) : Memo S [] (fun _ => Option.none) := ⟨List.nodup_nil, by simp, by simp, fun _ _ _ _ _ => rfl⟩
theorem prod_len (T : List Tr) : ∀ S : List Tr, (S.flatMap fun x => T.map fun y => (x, y)).length = S.length * T.length
  | [] => by simp
  | x :: S => by
    simp only [List.flatMap_cons, List.length_append, List.length_map, prod_len T S, List.length_cons, Nat.add_mul]; omega
theorem Memo.len {S : List Tr} {D : List (Tr × Tr)} {m : Value → Option Value} (h : Memo S D m) (hS : S.length ≤ 100) : D.length ≤ 10000 := by
  have h1 := nodup_le (b := S.flatMap fun x => S.map fun y => (x, y)) h.nodup (fun p hp => by
    obtain ⟨h1, h2⟩ := h.mem p hp
    simp only [List.mem_flatMap, List.mem_map]
    exact ⟨p.1, h1, p.2, h2, rfl⟩)
  rw [prod_len] at h1
  have := Nat.mul_le_mul hS hS
  omega
theorem pairV_inj {S : List Tr} {x y x' y' : Tr} (hx : x ∈ S) (hy : y ∈ S) (hx' : x' ∈ S) (hy' : y' ∈ S) (h : pairV S x y = pairV S x' y') : x = x' ∧ y = y' := by
  simp only [pairV, Value.agg.injEq, Array.mk.injEq, List.cons.injEq, Value.int.injEq, true_and, and_true] at h
  exact ⟨idx_inj hx hx' (by omega), idx_inj hy hy' (by omega)⟩
theorem Memo.put {S : List Tr} {D : List (Tr × Tr)} {m : Value → Option Value} (h : Memo S D m) {x y : Tr} (hx : x ∈ S) (hy : y ∈ S) (hn : (x, y) ∉ D) : Memo S ((x, y) :: D) (putF m (pairV S x y) (.int .i64 (dist x y : Int))) := by
  refine ⟨List.nodup_cons.2 ⟨hn, h.nodup⟩, ?_, ?_, ?_⟩
  · intro p hp
    rcases List.mem_cons.1 hp with rfl | hp
    · exact ⟨hx, hy⟩
    · exact h.mem p hp
  · intro x' hx' y' hy' hp
    by_cases e : pairV S x' y' = pairV S x y
    · obtain ⟨rfl, rfl⟩ := pairV_inj hx' hy' hx hy e
      rw [putF_same]
    · rw [putF_other _ _ _ _ e]
      rcases List.mem_cons.1 hp with hp | hp
      · injection hp with h1 h2
        subst h1 h2
        exact absurd rfl e
      · exact h.has x' hx' y' hy' hp
  · intro x' hx' y' hy' hp
    rw [putF_other]
    · exact h.none x' hx' y' hy' (fun h1 => hp (List.mem_cons_of_mem _ h1))
    · intro e
      obtain ⟨rfl, rfl⟩ := pairV_inj hx' hy' hx hy e
      exact hp (by simp)
section
variable {P : Program} {w0 : World} {N : Nat} {Q : Exit → Act → World → Prop} {env : Env} {own : List Seg} {H : Hp} {ops : Array Oper} {rest : List Oper}
variable {d : Option Tmp} {ty : TypeId} {pos : String} {af : Array Edge}
theorem TL.min3 {x y z : Operand} {tys : Array TypeId} {k : IntKind} {m n q : Int} (hx : ev env x = some (.int k m)) (hy : ev env y = some (.int k n)) (hz : ev env z = some (.int k q)) (hd : okD N d = true) (h : TL P w0 N Q ops rest (putE d (.int k (min (min m n) q)) env) own H) :
    TL P w0 N Q ops ({ dst := d, op := .call { callee := .builtin .min, args := #[x, y, z], argTypes := tys }, type := ty, pos := pos, after := af, guard := none } :: rest) env own H :=
  Zt hd (fun a ha w => by
    simp [execOp, resolve, invoke, builtin, Builtin.min_, Builtin.min2, ha.ev hx, ha.ev hy, ha.ev hz]
    omega) h
end
end Go.Proofs.YtaomdfcplamenaaGreatDoor.K

namespace Go.Proofs.YtaomdfcplamenaaGreatDoor.K
open Go Go.RowKit Go.Proofs

theorem alD_bd (a b : List Tr) (i j : Nat) : alD dist (a.drop i) (b.drop j) ≤ Tr.sizes a + Tr.sizes b := by
  have h1 := alD_le dist (a.drop i) (b.drop j)
  have h2 := sizes_drop_le a i; have h3 := sizes_drop_le b j
  omega
theorem bak_le (f : Nat) (a b : List Tr) : bak f a b ≤ a.length - f ∧ bak f a b ≤ b.length - f := by
  have := fro_le (rv f a) (rv f b)
  rw [rv_len, rv_len] at this
  exact this
def DistC (S : List Tr) (Kz : Nat) : Prop := ∀ x y : Tr, x ∈ S → y ∈ S → x.size ≤ Kz → x.size + y.size ≤ 1000000 → ∀ {w0 : World} {H : Hp} {own : List Seg} {gi gc gd : Nat} {oc : Obj} {D : List (Tr × Tr)} {m : Value → Option Value} {v1 v2 : Value},
    hAt H gd 0 [.map (some gi), .map (some gc)] → Memo S D m → MapG Tryz.prog 137 3 oc D.length m → szP H S x v1 → szP H S y v2 →
    Fn Tryz.prog 50 [.pointer (some ⟨gd, 0, none⟩), v1, v2] w0 H ([(gc, oc)] :: own) (fun r own' H' => r = .int .i64 (dist x y : Int) ∧ ∃ D' m' oc', Memo S D' m' ∧ (∀ p ∈ D', p ∈ D ∨ p.1.size ≤ x.size) ∧ MapG Tryz.prog 137 3 oc' D'.length m' ∧ own' = [(gc, oc')] :: own ∧ Le H H')
theorem DistC.le {S : List Tr} {Kz Kz' : Nat} (h : DistC S Kz) (hk : Kz' ≤ Kz) : DistC S Kz' := fun x y hx hy hxk => h x y hx hy (by omega)
theorem table_n {S : List Tr} {Kz : Nat} (ih : DistC S Kz) {a b : List Tr} (ha : ∀ x ∈ a, x ∈ S ∧ x.size ≤ Kz) (hb : ∀ y ∈ b, y ∈ S) (hsz : Tr.sizes a + Tr.sizes b ≤ 1000000) {w0 : World} {H : Hp} {own : List Seg} {gi gc gd : Nat} {oc : Obj} {D : List (Tr × Tr)} {m : Value → Option Value} {va vb : Value}
    (hgd : hAt H gd 0 [.map (some gi), .map (some gc)]) (hM : Memo S D m) (hG : MapG Tryz.prog 137 3 oc D.length m) (hA : szS H S a va) (hB : szS H S b vb) :
    Fn Tryz.prog 49 [.pointer (some ⟨gd, 0, none⟩), va, vb] w0 H ([(gc, oc)] :: own) (fun r own' H' => ∃ D' m' oc', Memo S D' m' ∧ (∀ p ∈ D', p ∈ D ∨ p.1.size ≤ Kz) ∧ MapG Tryz.prog 137 3 oc' D'.length m' ∧ TabAt H' a b r ∧ own' = [(gc, oc')] :: own ∧ Le H H') := by
  have hla := Tr.len_le a; have hlb := Tr.len_le b
  obtain ⟨A, ca, rfl, hca1, hca2⟩ := hA.len
  obtain ⟨B, cb, rfl, hcb1, hcb2⟩ := hB.len
  refine Fn.enter Tryz.func49 rfl Tryz.ntmps49 rfl ?_; have hL := Le.refl H; refine Qj (Qh (Qe rfl rfl (Q3 (Qb rfl rfl (Qn rfl rfl ?_))))); refine Zb rfl rfl rfl ⟨by omega, by omega⟩ ?_
  refine TL.makeSlice (a.length + 1) rfl rfl (by omega) (by omega) (by omega) rfl ?_; intro g13; refine Qe rfl rfl (Qi (Qc (Qj (Qj (Z4 ?_)))))
  refine Z2 3 [2, 0, 1] rfl (fun o ho => ?_)
  simp only [K.sel, nrm] at ho; subst ho
  refine Qh (Qb rfl rfl (Qn rfl rfl (Qe rfl rfl (Qi (Qc ?_))))); refine Q6 ?_
  refine Zv (fun n env' own' H' => ∃ (z : Nat) (T : Nat → Nat → Int) (gs : List Nat) (D1 : List (Tr × Tr)) (m1 : Value → Option Value) (oc1 : Obj), z = n ∧ gs.length + z = a.length + 1 ∧ OkA a b T z (b.length + 1) ∧ Memo S D1 m1 ∧ (∀ p ∈ D1, p ∈ D ∨ p.1.size ≤ Kz) ∧ MapG Tryz.prog 137 3 oc1 D1.length m1 ∧ env' = [(0, .pointer (some ⟨gd, 0, none⟩)), (1, .slice A a.length ca), (2, .slice B b.length cb), (7, .slice (some ⟨g13, 0, none⟩) (a.length + 1) (a.length + 1)), (8, .int .i64 ((z : Int) - 1))] ∧ own' = [(gc, oc1)] :: rowsFrom b.length T z gs :: [(g13, .cells (List.replicate z (Value.slice none 0 0) ++ outL b.length gs).toArray 22 (0, 0))] :: own ∧ Le H H') (a.length + 1) [(0, _), (1, _), (2, _), (7, _), (8, _)] ⟨rfl, rfl, rfl, rfl, rfl, trivial⟩ ⟨a.length + 1, fun _ _ => 0, [], D, m, oc, rfl, by simp, OkA.init a b _, hM, fun p h => .inl h, hG, by rw [show ((a.length + 1 : Nat) : Int) - 1 = (a.length : Int) by omega], by rw [made_out (m := b.length) rfl]; simp [outL, rowsFrom], Le.refl _⟩ ?_
  rintro n _ _ H1 ⟨z, T, gs, D1, m1, oc1, rfl, hgl, hok, hM1, hD1, hG1, rfl, rfl, hle0⟩
  have hL := Le.trans hL hle0; have hA := szS.mono hle0 hA; have hB := szS.mono hle0 hB; have hgd := hAt.mono hle0 hgd; refine Qj (Qj (Qh (Qb rfl rfl ?_)))
  refine TL.geqB rfl rfl rfl (fun hge => ?_) (fun hge => ?_)
  ·
   obtain ⟨i, rfl⟩ : ∃ i, z = i + 1 := ⟨z - 1, by omega⟩
   refine Qi (Qc (Qv rfl (Q2 (Qc (Qj ?_))))); refine Q6 (Qj (Qh (Qb rfl rfl (Qb rfl rfl (Qb rfl rfl ?_))))); refine Qn rfl rfl ?_; refine Zb rfl rfl rfl ⟨by omega, by omega⟩ ?_
   refine TL.makeSlice (b.length + 1) rfl rfl (by omega) (by omega) (by omega) rfl ?_; intro g25; refine Qo (i) rfl rfl (by omega) (by omega) rfl ?_; refine Zq 3 0 (c' := _) (own' := _ :: _ :: _ :: _ :: _) rfl rfl rfl rfl rfl (by simp [outL]; omega) rfl rfl rfl ?_
   refine Qi (Qc (Qj ?_))
   refine Z2 4 [2, 0, 1, 3] rfl (fun o ho => ?_)
   simp only [K.sel, nrm] at ho; subst ho
   refine TC.flat join_perm ?_
   refine Z2 3 [1, 0, 2] rfl (fun o ho => ?_)
   simp only [K.sel, nrm] at ho; subst ho
   refine Qh (Qb rfl rfl (Qn rfl rfl (Qe rfl rfl (Qi (Qc ?_))))); refine Q6 ?_
   refine Zv (fun n env' own' H' => ∃ (q : Nat) (T2 : Nat → Nat → Int) (D2 : List (Tr × Tr)) (m2 : Value → Option Value) (oc2 : Obj), q = n ∧ q ≤ b.length + 1 ∧ OkA a b T2 (i + 1) q ∧ (∀ j, j < q → T2 i j = 0) ∧ Memo S D2 m2 ∧ (∀ p ∈ D2, p ∈ D ∨ p.1.size ≤ Kz) ∧ MapG Tryz.prog 137 3 oc2 D2.length m2 ∧ env' = [(0, .pointer (some ⟨gd, 0, none⟩)), (1, .slice A a.length ca), (2, .slice B b.length cb), (7, .slice (some ⟨g13, 0, none⟩) (a.length + 1) (a.length + 1)), (8, .int .i64 (((i + 1 : Nat) : Int) - 1)), (9, .int .i64 ((q : Int) - 1))] ∧ own' = [(gc, oc2)] :: rowsFrom b.length T2 i (g25 :: gs) :: [(g13, .cells (List.replicate i (Value.slice none 0 0) ++ outL b.length (g25 :: gs)).toArray 22 (0, 0))] :: own ∧ Le H1 H') (b.length + 1) [(0, _), (1, _), (2, _), (7, _), (8, _), (9, _)] ⟨rfl, rfl, rfl, rfl, rfl, rfl, trivial⟩ ⟨b.length + 1, rz T i, D1, m1, oc1, rfl, Nat.le_refl _, hok.row, fun j _ => by simp [rz], hM1, hD1, hG1, by rw [show ((b.length + 1 : Nat) : Int) - 1 = (b.length : Int) by omega], by rw [made_row rfl, rows_new, outR_set], Le.refl _⟩ ?_
   rintro n _ _ H3 ⟨q, T2, D2, m2, oc2, rfl, hq2, hok2, hzz, hM2, hD2, hG2, rfl, rfl, hle2⟩
   have hL := Le.trans hL hle2; have hA := szS.mono hle2 hA; have hB := szS.mono hle2 hB; have hgd := hAt.mono hle2 hgd; have hle0 := Le.trans hle0 hle2; refine Qj (Qj (Qh (Qb rfl rfl ?_)))
   refine TL.geqB rfl rfl rfl (fun hq => ?_) (fun hq => ?_)
   ·
    obtain ⟨j, rfl⟩ : ∃ j, q = j + 1 := ⟨q - 1, by omega⟩
    refine Qi (Qc (Qv rfl (Q2 (Qc (Qj ?_))))); refine Q6 (Q6 (Qj ?_))
    have hcase : (i = a.length ∧ j = b.length) ∨ (∃ y, b[j]? = some y ∧ i = a.length ∧ j < b.length) ∨ (∃ x, a[i]? = some x ∧ j = b.length ∧ i < a.length) ∨ (∃ x y, a[i]? = some x ∧ b[j]? = some y ∧ i < a.length ∧ j < b.length) := by
      rcases Nat.lt_or_ge i a.length with h1 | h1
      · rcases Nat.lt_or_ge j b.length with h2 | h2
        · exact .inr (.inr (.inr ⟨_, _, List.getElem?_eq_getElem h1, List.getElem?_eq_getElem h2, h1, h2⟩))
        · exact .inr (.inr (.inl ⟨_, List.getElem?_eq_getElem h1, by omega, h1⟩))
      · rcases Nat.lt_or_ge j b.length with h2 | h2
        · exact .inr (.inl ⟨_, List.getElem?_eq_getElem h2, by omega, h2⟩)
        · exact .inl ⟨by omega, by omega⟩
    rcases hcase with h | ⟨y, hy, hi, hj⟩ | ⟨x, hx, hj, hi⟩ | ⟨x, y, hx, hy, hi, hj⟩
    ·
     refine Qh (Qb rfl rfl (Qb rfl rfl (Qn rfl rfl (Za rfl rfl rfl ?_))))
     rw [decide_eq_true (by omega)]
     refine Qb rfl rfl ?_; refine Qf rfl rfl rfl (Qb rfl rfl ?_); refine Qf rfl rfl rfl (Qb rfl rfl ?_); refine Qf rfl rfl rfl (Qn rfl rfl ?_); refine Qf rfl rfl rfl (Za rfl rfl rfl ?_)
     rw [decide_eq_true (by omega)]
     refine Qz rfl rfl rfl rfl (Qe rfl rfl (Qi (Qc (Qv rfl (Q2 ?_))))); refine Ze (Ze (Qc (Qh (Qb rfl rfl ?_)))); refine Zu rfl rfl rfl ⟨by omega, by omega⟩ (Qe rfl rfl (Qi ?_)); refine Zn (own' := _ :: _ :: _ :: own) rfl ?_
     refine Zf j [(0, _), (1, _), (2, _), (7, _), (8, _), (9, _)] (by omega) ⟨rfl, rfl, rfl, rfl, rfl, rfl, trivial⟩ ⟨j, T2, D2, m2, oc2, rfl, by omega, hok2.keep (by rw [hzz j (by omega), h.1, h.2, List.drop_length, List.drop_length, alD_nil]; rfl), fun j' h => hzz j' (by omega), hM2, hD2, hG2, by rw [show (((j + 1 : Nat) : Int) - 1 - 1) = (j : Int) - 1 by omega], rfl, hle2⟩
    ·
     obtain ⟨b2, o2, u2, rfl, hc2, hz2⟩ := hB.at hy
     obtain ⟨g2, v2, y0, y1, rfl, hp2, _, _⟩ := hz2.open
     have hys := Tr.size_mem (List.mem_of_getElem? hy)
     have e1 := hok2 i (j + 1) (by omega) (by omega) (.inr ⟨rfl, by omega⟩)
     have d1 := alD_bd a b i (j + 1)
     refine Qh (Qb rfl rfl (Qb rfl rfl (Qn rfl rfl (Za rfl rfl rfl ?_))))
     rw [decide_eq_true (by omega)]
     refine Qb rfl rfl ?_; refine Qf rfl rfl rfl (Qb rfl rfl ?_); refine Qf rfl rfl rfl (Qb rfl rfl ?_); refine Qf rfl rfl rfl (Qn rfl rfl ?_); refine Qf rfl rfl rfl (Za rfl rfl rfl ?_)
     rw [decide_eq_false (by omega)]
     refine Qz rfl rfl rfl rfl (Qe rfl rfl (Qi (Qc (Qr rfl (Qj ?_))))); refine Qh (Qb rfl rfl (Qb rfl rfl (Qn rfl rfl (Za rfl rfl rfl ?_))))
     rw [decide_eq_true (by omega)]
     refine Qe rfl rfl (Qi (Qc (Qv rfl ?_))); refine Q4 21  [(0, _), (1, _), (2, _), (7, _), (8, _), (9, _)] follows_mixed ⟨rfl, rfl, rfl, rfl, rfl, rfl, trivial⟩ ?_; refine Qa (some 108) [] (fun _ _ _ _ hF => Qb rfl rfl (Qd hF)) ?_; refine Qa (some 109) [] (fun _ _ _ _ hF => Qb rfl rfl (Qd hF)) ?_; refine Qa (some 110) [(0, 1), (1, 0)] (fun _ _ _ _ hF => Qo (i) rfl rfl (by omega) (by omega) rfl (Qd hF)) ?_
     refine Qa (some 111) [(2, 0)] (by
      intro H' X F hle; have hL := Le.trans hL hle; intro hF; refine Qk 2 0 rfl rfl rfl (outR_get (q := 0) rfl) rfl ?_
      exact Qd hF) ?_
     refine Qa (some 112) [] (fun _ _ _ _ hF => Qb rfl rfl (Qd hF)) ?_; refine Qa (some 113) [] (fun _ _ _ _ hF => Qb rfl rfl (Qd hF)) ?_; refine Qa (some 114) [] (fun _ _ _ _ hF => Qb rfl rfl (Qd hF)) ?_; refine Qa (some 115) [(5, 1), (6, 0)] (fun _ _ _ _ hF => Qo (i) rfl rfl (by omega) (by omega) rfl (Qd hF)) ?_
     refine Qa (some 116) [(7, 0)] (by
      intro H' X F hle; have hL := Le.trans hL hle; intro hF; refine Qk 2 0 rfl rfl rfl (outR_get (q := 0) rfl) rfl ?_
      exact Qd hF) ?_
     refine Qa (some 117) [] (fun _ _ _ _ hF => Qb rfl rfl (Qd hF)) ?_; refine Qa (some 118) [(9, 0)] (fun _ _ _ _ hF => Zb rfl rfl rfl ⟨by omega, by omega⟩ (Qd hF)) ?_; refine Qa (some 119) [(8, 2), (10, 0)] (fun _ _ _ _ hF => Qo (j + 1) rfl rfl (by omega) (by omega) rfl (Qd hF)) ?_
     refine Qa (some 120) [(11, 0)] (by
      intro H' X F hle; have hL := Le.trans hL hle; intro hF; refine Qk 1 0 rfl rfl rfl (rowC_get (by omega)) rfl ?_
      exact Qd hF) ?_
     refine Qa (some 121) [] (fun _ _ _ _ hF => Qb rfl rfl (Qd hF)) ?_; refine Qa (some 122) [] (fun _ _ _ _ hF => Qb rfl rfl (Qd hF)) ?_; refine Qa (some 123) [(13, 1), (14, 0)] (fun _ _ _ _ hF => Qo (j) rfl rfl (by omega) (by omega) rfl (Qd hF)) ?_
     refine Qa (some 124) [(15, 0)] (by
      intro H' X F hle; have hL := Le.trans hL hle; have hc2 := cel_le hle hc2; intro hF; refine Qp rfl (hc2) rfl ?_
      exact Qd hF) ?_
     refine Qa (some 125) [(16, 0)] (fun _ _ _ _ hF => Qt rfl rfl (Qd hF)) ?_; refine Qa (some 126) [(17, 0)] (fun _ _ _ _ hF => Qg rfl rfl (Qd hF)) ?_
     refine Qa (some 127) [(18, 0)] (by
      intro H' X F hle; have hL := Le.trans hL hle; have hp2 := hAt.mono hle hp2; intro hF; refine Qp rfl (hp2.2.2.1) rfl ?_
      exact Qd hF) ?_
     refine Qa (some 128) [(12, 7), (19, 0)] (fun _ _ _ _ hF => Zb rfl rfl rfl ⟨by omega, by omega⟩ (Qd hF)) ?_
     refine ⟨by kernel_rfl, .refl _, ?_⟩
     ·
      intro H1 hle; have hL := Le.trans hL hle; have hle2 := Le.trans hle2 hle; refine Qw (own' := _ :: _ :: _ :: own) rfl ?_; refine Zi (env' := [(0, _), (1, _), (2, _), (7, _), (8, _), (9, _), (111, _), (112, _), (128, _)]) ⟨rfl, rfl, rfl, rfl, rfl, rfl, rfl, rfl, rfl, trivial⟩ ?_; refine Qo (j) rfl rfl (by omega) (by omega) rfl ?_; refine Zq 1 0 (c' := _) (own' := _ :: rowsFrom b.length (upd T2 i j (T2 i (j + 1) + (y.size : Int))) i (g25 :: _) :: _) rfl rfl rfl rfl rfl (by rw [rowC_size]; omega) rfl (own_set1 (rows_setH (m := b.length) (j := j) (by omega))) rfl ?_
      refine Qi (Ze (Ze (Qc (Qh (Qb rfl rfl ?_))))); refine Zu rfl rfl rfl ⟨by omega, by omega⟩ (Qe rfl rfl (Qi ?_)); refine Zn (own' := _ :: _ :: _ :: own) rfl ?_
      refine Zf j [(0, _), (1, _), (2, _), (7, _), (8, _), (9, _)] (by omega) ⟨rfl, rfl, rfl, rfl, rfl, rfl, trivial⟩ ⟨j, upd T2 i j (T2 i (j + 1) + (y.size : Int)), D2, m2, oc2, rfl, by omega, hok2.set (by rw [e1, hi, List.drop_length, alD_nil, alD_nil, drop_cons hy]; simp only [Tr.sizes]; omega), fun j' h => by rw [upd_ne _ _ (by omega)]; exact hzz j' (by omega), hM2, hD2, hG2, by rw [show (((j + 1 : Nat) : Int) - 1 - 1) = (j : Int) - 1 by omega], rfl, hle2⟩
    ·
     obtain ⟨b1, o1, u1, rfl, hc1, hz1⟩ := hA.at hx
     obtain ⟨g1, v1, x0, x1, rfl, hp1, _, _⟩ := hz1.open
     have hxs := Tr.size_mem (List.mem_of_getElem? hx)
     obtain ⟨gr, gs, rfl⟩ : ∃ g r, gs = g :: r := by
       cases gs with
       | nil => simp at hgl; omega
       | cons g r => exact ⟨g, r, rfl⟩
     have e1 := hok2 (i + 1) j (by omega) (by omega) (.inl (by omega))
     have d1 := alD_bd a b (i + 1) j
     refine Qh (Qb rfl rfl (Qb rfl rfl (Qn rfl rfl (Za rfl rfl rfl ?_))))
     rw [decide_eq_false (by omega)]
     refine Qb rfl rfl ?_; refine Ql rfl rfl rfl rfl ?_; refine Ql rfl rfl rfl rfl ?_; refine Ql rfl rfl rfl rfl ?_; refine Ql rfl rfl rfl rfl ?_; refine Qx rfl rfl rfl rfl (Qe rfl rfl (Qi (Qc (Qr rfl (Qj ?_))))); refine Qh (Qb rfl rfl (Qb rfl rfl (Qn rfl rfl (Za rfl rfl rfl ?_))))
     rw [decide_eq_false (by omega)]
     refine Qe rfl rfl (Qi (Qc (Qr rfl (Qj (Qh ?_))))); refine Qb rfl rfl (Qb rfl rfl (Qn rfl rfl (Za rfl rfl rfl ?_)))
     rw [decide_eq_true (by omega)]
     refine Qe rfl rfl (Qi (Qc (Qv rfl ?_))); refine Q4 21  [(0, _), (1, _), (2, _), (7, _), (8, _), (9, _)] follows_mixed ⟨rfl, rfl, rfl, rfl, rfl, rfl, trivial⟩ ?_; refine Qa (some 135) [] (fun _ _ _ _ hF => Qb rfl rfl (Qd hF)) ?_; refine Qa (some 136) [] (fun _ _ _ _ hF => Qb rfl rfl (Qd hF)) ?_; refine Qa (some 137) [(0, 1), (1, 0)] (fun _ _ _ _ hF => Qo (i) rfl rfl (by omega) (by omega) rfl (Qd hF)) ?_
     refine Qa (some 138) [(2, 0)] (by
      intro H' X F hle; have hL := Le.trans hL hle; intro hF; refine Qk 2 0 rfl rfl rfl (outR_get (q := 0) rfl) rfl ?_
      exact Qd hF) ?_
     refine Qa (some 139) [] (fun _ _ _ _ hF => Qb rfl rfl (Qd hF)) ?_; refine Qa (some 140) [] (fun _ _ _ _ hF => Qb rfl rfl (Qd hF)) ?_; refine Qa (some 141) [] (fun _ _ _ _ hF => Qb rfl rfl (Qd hF)) ?_; refine Qa (some 142) [(6, 0)] (fun _ _ _ _ hF => Zb rfl rfl rfl ⟨by omega, by omega⟩ (Qd hF)) ?_; refine Qa (some 143) [(5, 2), (7, 0)] (fun _ _ _ _ hF => Qo (i + 1) rfl rfl (by omega) (by omega) rfl (Qd hF)) ?_
     refine Qa (some 144) [(8, 0)] (by
      intro H' X F hle; have hL := Le.trans hL hle; intro hF; refine Qk 2 0 rfl rfl rfl (outR_get (q := 1) rfl) rfl ?_
      exact Qd hF) ?_
     refine Qa (some 145) [] (fun _ _ _ _ hF => Qb rfl rfl (Qd hF)) ?_; refine Qa (some 146) [(9, 1), (10, 0)] (fun _ _ _ _ hF => Qo (j) rfl rfl (by omega) (by omega) rfl (Qd hF)) ?_
     refine Qa (some 147) [(11, 0)] (by
      intro H' X F hle; have hL := Le.trans hL hle; intro hF; refine Qk 1 1 rfl rfl rfl (rowC_get (by omega)) rfl ?_
      exact Qd hF) ?_
     refine Qa (some 148) [] (fun _ _ _ _ hF => Qb rfl rfl (Qd hF)) ?_; refine Qa (some 149) [] (fun _ _ _ _ hF => Qb rfl rfl (Qd hF)) ?_; refine Qa (some 150) [(13, 1), (14, 0)] (fun _ _ _ _ hF => Qo (i) rfl rfl (by omega) (by omega) rfl (Qd hF)) ?_
     refine Qa (some 151) [(15, 0)] (by
      intro H' X F hle; have hL := Le.trans hL hle; have hc1 := cel_le hle hc1; intro hF; refine Qp rfl (hc1) rfl ?_
      exact Qd hF) ?_
     refine Qa (some 152) [(16, 0)] (fun _ _ _ _ hF => Qt rfl rfl (Qd hF)) ?_; refine Qa (some 153) [(17, 0)] (fun _ _ _ _ hF => Qg rfl rfl (Qd hF)) ?_
     refine Qa (some 154) [(18, 0)] (by
      intro H' X F hle; have hL := Le.trans hL hle; have hp1 := hAt.mono hle hp1; intro hF; refine Qp rfl (hp1.2.2.1) rfl ?_
      exact Qd hF) ?_
     refine Qa (some 155) [(12, 7), (19, 0)] (fun _ _ _ _ hF => Zb rfl rfl rfl ⟨by omega, by omega⟩ (Qd hF)) ?_
     refine ⟨by kernel_rfl, .refl _, ?_⟩
     ·
      intro H2 hle; have hL := Le.trans hL hle; have hle2 := Le.trans hle2 hle; refine Qw (own' := _ :: _ :: _ :: own) rfl ?_; refine Zi (env' := [(0, _), (1, _), (2, _), (7, _), (8, _), (9, _), (138, _), (139, _), (155, _)]) ⟨rfl, rfl, rfl, rfl, rfl, rfl, rfl, rfl, rfl, trivial⟩ ?_; refine Qo (j) rfl rfl (by omega) (by omega) rfl ?_; refine Zq 1 0 (c' := _) (own' := _ :: rowsFrom b.length (upd T2 i j (T2 (i + 1) j + (x.size : Int))) i (g25 :: _) :: _) rfl rfl rfl rfl rfl (by rw [rowC_size]; omega) rfl (own_set1 (rows_setH (m := b.length) (j := j) (by omega))) rfl ?_
      refine Qi (Ze (Ze (Qc (Qh (Qb rfl rfl ?_))))); refine Zu rfl rfl rfl ⟨by omega, by omega⟩ (Qe rfl rfl (Qi ?_)); refine Zn (own' := _ :: _ :: _ :: own) rfl ?_
      refine Zf j [(0, _), (1, _), (2, _), (7, _), (8, _), (9, _)] (by omega) ⟨rfl, rfl, rfl, rfl, rfl, rfl, trivial⟩ ⟨j, upd T2 i j (T2 (i + 1) j + (x.size : Int)), D2, m2, oc2, rfl, by omega, hok2.set (by rw [e1, hj, List.drop_length, alD_nil2, alD_nil2, drop_cons hx]; simp only [Tr.sizes]; omega), fun j' h => by rw [upd_ne _ _ (by omega)]; exact hzz j' (by omega), hM2, hD2, hG2, by rw [show (((j + 1 : Nat) : Int) - 1 - 1) = (j : Int) - 1 by omega], rfl, hle2⟩
    ·
     obtain ⟨b1, o1, u1, rfl, hc1, hz1⟩ := hA.at hx
     obtain ⟨g1, v1, x0, x1, rfl, hp1, _, _⟩ := hz1.open
     have hxs := Tr.size_mem (List.mem_of_getElem? hx)
     obtain ⟨gr, gs, rfl⟩ : ∃ g r, gs = g :: r := by
       cases gs with
       | nil => simp at hgl; omega
       | cons g r => exact ⟨g, r, rfl⟩
     obtain ⟨b2, o2, u2, rfl, hc2, hz2⟩ := hB.at hy
     obtain ⟨g2, v2, y0, y1, rfl, hp2, _, _⟩ := hz2.open
     have hys := Tr.size_mem (List.mem_of_getElem? hy)
     have e1 := hok2 (i + 1) (j + 1) (by omega) (by omega) (.inl (by omega))
     have d1 := alD_bd a b (i + 1) (j + 1)
     have e2 := hok2 (i + 1) j (by omega) (by omega) (.inl (by omega))
     have d2 := alD_bd a b (i + 1) j
     have e3 := hok2 i (j + 1) (by omega) (by omega) (.inr ⟨rfl, by omega⟩)
     have d3 := alD_bd a b i (j + 1)
     have d4 := dist_le x y
     refine Qh (Qb rfl rfl (Qb rfl rfl (Qn rfl rfl (Za rfl rfl rfl ?_))))
     rw [decide_eq_false (by omega)]
     refine Qb rfl rfl ?_; refine Ql rfl rfl rfl rfl ?_; refine Ql rfl rfl rfl rfl ?_; refine Ql rfl rfl rfl rfl ?_; refine Ql rfl rfl rfl rfl ?_; refine Qx rfl rfl rfl rfl (Qe rfl rfl (Qi (Qc (Qr rfl (Qj ?_))))); refine Qh (Qb rfl rfl (Qb rfl rfl (Qn rfl rfl (Za rfl rfl rfl ?_))))
     rw [decide_eq_false (by omega)]
     refine Qe rfl rfl (Qi (Qc (Qr rfl (Qj (Qh ?_))))); refine Qb rfl rfl (Qb rfl rfl (Qn rfl rfl (Za rfl rfl rfl ?_)))
     rw [decide_eq_false (by omega)]
     refine Qe rfl rfl (Qi (Qc (Qr rfl ?_))); refine TC.drawCV 58  [(0, _), (1, _), (2, _), (7, _), (8, _), (9, _)] follows_mixed ⟨rfl, rfl, rfl, rfl, rfl, rfl, trivial⟩ ?_; refine Qa (some 33) [] (fun _ _ _ _ hF => Qb rfl rfl (Qd hF)) ?_; refine Qa (some 34) [] (fun _ _ _ _ hF => Qb rfl rfl (Qd hF)) ?_; refine Qa (some 35) [(0, 1), (1, 0)] (fun _ _ _ _ hF => Qo (i) rfl rfl (by omega) (by omega) rfl (Qd hF)) ?_
     refine Qa (some 36) [(2, 0)] (by
      intro H' X F hle; have hL := Le.trans hL hle; intro hF; refine Qk 1 0 rfl rfl rfl (outR_get (q := 0) rfl) rfl ?_
      exact Qd hF) ?_
     refine Qa (some 37) [] (fun _ _ _ _ hF => Qb rfl rfl (Qd hF)) ?_; refine Qa (some 38) [] (fun _ _ _ _ hF => Qb rfl rfl (Qd hF)) ?_; refine Qa (some 39) [] (fun _ _ _ _ hF => Qb rfl rfl (Qd hF)) ?_; refine Qa (some 40) [(6, 0)] (fun _ _ _ _ hF => Zb rfl rfl rfl ⟨by omega, by omega⟩ (Qd hF)) ?_; refine Qa (some 41) [(5, 2), (7, 0)] (fun _ _ _ _ hF => Qo (i + 1) rfl rfl (by omega) (by omega) rfl (Qd hF)) ?_
     refine Qa (some 42) [(8, 0)] (by
      intro H' X F hle; have hL := Le.trans hL hle; intro hF; refine Qk 1 0 rfl rfl rfl (outR_get (q := 1) rfl) rfl ?_
      exact Qd hF) ?_
     refine Qa (some 43) [] (fun _ _ _ _ hF => Qb rfl rfl (Qd hF)) ?_; refine Qa (some 44) [(10, 0)] (fun _ _ _ _ hF => Zb rfl rfl rfl ⟨by omega, by omega⟩ (Qd hF)) ?_; refine Qa (some 45) [(9, 2), (11, 0)] (fun _ _ _ _ hF => Qo (j + 1) rfl rfl (by omega) (by omega) rfl (Qd hF)) ?_
     refine Qa (some 46) [(12, 0)] (by
      intro H' X F hle; have hL := Le.trans hL hle; intro hF; refine Qk 0 1 rfl rfl rfl (rowC_get (by omega)) rfl ?_
      exact Qd hF) ?_
     refine Qa (some 47) [] (fun _ _ _ _ hF => Qb rfl rfl (Qd hF)) ?_; refine Qa (some 48) [] (fun _ _ _ _ hF => Qb rfl rfl (Qd hF)) ?_; refine Qa (some 49) [] (fun _ _ _ _ hF => Qb rfl rfl (Qd hF)) ?_; refine Qa (some 50) [(15, 1), (16, 0)] (fun _ _ _ _ hF => Qo (i) rfl rfl (by omega) (by omega) rfl (Qd hF)) ?_
     refine Qa (some 51) [(17, 0)] (by
      intro H' X F hle; have hL := Le.trans hL hle; have hc1 := cel_le hle hc1; intro hF; refine Qp rfl (hc1) rfl ?_
      exact Qd hF) ?_
     refine Qa (some 52) [] (fun _ _ _ _ hF => Qb rfl rfl (Qd hF)) ?_; refine Qa (some 53) [] (fun _ _ _ _ hF => Qb rfl rfl (Qd hF)) ?_; refine Qa (some 54) [(19, 1), (20, 0)] (fun _ _ _ _ hF => Qo (j) rfl rfl (by omega) (by omega) rfl (Qd hF)) ?_
     refine Qa (some 55) [(21, 0)] (by
      intro H' X F hle; have hL := Le.trans hL hle; have hc2 := cel_le hle hc2; intro hF; refine Qp rfl (hc2) rfl ?_
      exact Qd hF) ?_
     refine Q9 (some 56) [(14, 8), (18, 4), (22, 0)] ([[(gc, oc2)]]) (fun _ => fun u s H => u = .int .i64 (dist x y : Int) ∧ ∃ D' m' oc', Memo S D' m' ∧ (∀ p ∈ D', p ∈ D2 ∨ p.1.size ≤ x.size) ∧ MapG Tryz.prog 137 3 oc' D'.length m' ∧ s = [[(gc, oc')]]) (by
      intro H' X F hle; have hL := Le.trans hL hle; have hgd := hAt.mono hle hgd; have hz1 := szP.mono hle hz1; have hz2 := szP.mono hle hz2; intro hF; refine Qs (ih x y (ha x (List.mem_of_getElem? hx)).1 (hb y (List.mem_of_getElem? hy)) (ha x (List.mem_of_getElem? hx)).2 (by omega) hgd hM2 hG2 hz1 hz2) ⟨rfl, rfl, rfl, trivial⟩ rfl ?_
      rintro _ _ H5 ⟨rfl, D3, m3, oc3, hM3, hD3, hG3, rfl, hle5⟩
      refine Qi ?_
      exact Q7 [_] hF hle5 ⟨rfl, D3, m3, oc3, hM3, hD3, hG3, rfl⟩) ?_
     refine Qa (some 57) [(13, 10), (23, 0)] (by
      intro H' X F hle; intro _
      rintro _ _ Hr hler ⟨rfl, D3, m3, oc3, hM3, hD3, hG3, rfl⟩
      intro hF; refine Zb rfl rfl rfl ⟨by omega, by omega⟩ ?_
      exact Qd hF) ?_
     refine Qa (some 58) [] (fun _ _ _ _ hF => Qb rfl rfl (Qd hF)) ?_; refine Qa (some 59) [] (fun _ _ _ _ hF => Qb rfl rfl (Qd hF)) ?_; refine Qa (some 60) [(26, 0)] (fun _ _ _ _ hF => Zb rfl rfl rfl ⟨by omega, by omega⟩ (Qd hF)) ?_; refine Qa (some 61) [(25, 2), (27, 0)] (fun _ _ _ _ hF => Qo (i + 1) rfl rfl (by omega) (by omega) rfl (Qd hF)) ?_
     refine Qa (some 62) [(28, 0)] (by
      intro H' X F hle; have hL := Le.trans hL hle; intro hF; refine Qk 1 0 rfl rfl rfl (outR_get (q := 1) rfl) rfl ?_
      exact Qd hF) ?_
     refine Qa (some 63) [] (fun _ _ _ _ hF => Qb rfl rfl (Qd hF)) ?_; refine Qa (some 64) [(29, 1), (30, 0)] (fun _ _ _ _ hF => Qo (j) rfl rfl (by omega) (by omega) rfl (Qd hF)) ?_
     refine Qa (some 65) [(31, 0)] (by
      intro H' X F hle; have hL := Le.trans hL hle; intro hF; refine Qk 0 1 rfl rfl rfl (rowC_get (by omega)) rfl ?_
      exact Qd hF) ?_
     refine Qa (some 66) [] (fun _ _ _ _ hF => Qb rfl rfl (Qd hF)) ?_; refine Qa (some 67) [] (fun _ _ _ _ hF => Qb rfl rfl (Qd hF)) ?_; refine Qa (some 68) [(33, 1), (34, 0)] (fun _ _ _ _ hF => Qo (i) rfl rfl (by omega) (by omega) rfl (Qd hF)) ?_
     refine Qa (some 69) [(35, 0)] (by
      intro H' X F hle; have hL := Le.trans hL hle; have hc1 := cel_le hle hc1; intro hF; refine Qp rfl (hc1) rfl ?_
      exact Qd hF) ?_
     refine Qa (some 70) [(36, 0)] (fun _ _ _ _ hF => Qt rfl rfl (Qd hF)) ?_; refine Qa (some 71) [(37, 0)] (fun _ _ _ _ hF => Qg rfl rfl (Qd hF)) ?_
     refine Qa (some 72) [(38, 0)] (by
      intro H' X F hle; have hL := Le.trans hL hle; have hp1 := hAt.mono hle hp1; intro hF; refine Qp rfl (hp1.2.2.1) rfl ?_
      exact Qd hF) ?_
     refine Qa (some 73) [(32, 7), (39, 0)] (fun _ _ _ _ hF => Zb rfl rfl rfl ⟨by omega, by omega⟩ (Qd hF)) ?_; refine Qa (some 74) [] (fun _ _ _ _ hF => Qb rfl rfl (Qd hF)) ?_; refine Qa (some 75) [] (fun _ _ _ _ hF => Qb rfl rfl (Qd hF)) ?_; refine Qa (some 76) [(41, 1), (42, 0)] (fun _ _ _ _ hF => Qo (i) rfl rfl (by omega) (by omega) rfl (Qd hF)) ?_
     refine Qa (some 77) [(43, 0)] (by
      intro H' X F hle; have hL := Le.trans hL hle; intro hF; refine Qk 1 0 rfl rfl rfl (outR_get (q := 0) rfl) rfl ?_
      exact Qd hF) ?_
     refine Qa (some 78) [] (fun _ _ _ _ hF => Qb rfl rfl (Qd hF)) ?_; refine Qa (some 79) [(45, 0)] (fun _ _ _ _ hF => Zb rfl rfl rfl ⟨by omega, by omega⟩ (Qd hF)) ?_; refine Qa (some 80) [(44, 2), (46, 0)] (fun _ _ _ _ hF => Qo (j + 1) rfl rfl (by omega) (by omega) rfl (Qd hF)) ?_
     refine Qa (some 81) [(47, 0)] (by
      intro H' X F hle; have hL := Le.trans hL hle; intro hF; refine Qk 0 0 rfl rfl rfl (rowC_get (by omega)) rfl ?_
      exact Qd hF) ?_
     refine Qa (some 82) [] (fun _ _ _ _ hF => Qb rfl rfl (Qd hF)) ?_; refine Qa (some 83) [] (fun _ _ _ _ hF => Qb rfl rfl (Qd hF)) ?_; refine Qa (some 84) [(49, 1), (50, 0)] (fun _ _ _ _ hF => Qo (j) rfl rfl (by omega) (by omega) rfl (Qd hF)) ?_
     refine Qa (some 85) [(51, 0)] (by
      intro H' X F hle; have hL := Le.trans hL hle; have hc2 := cel_le hle hc2; intro hF; refine Qp rfl (hc2) rfl ?_
      exact Qd hF) ?_
     refine Qa (some 86) [(52, 0)] (fun _ _ _ _ hF => Qt rfl rfl (Qd hF)) ?_; refine Qa (some 87) [(53, 0)] (fun _ _ _ _ hF => Qg rfl rfl (Qd hF)) ?_
     refine Qa (some 88) [(54, 0)] (by
      intro H' X F hle; have hL := Le.trans hL hle; have hp2 := hAt.mono hle hp2; intro hF; refine Qp rfl (hp2.2.2.1) rfl ?_
      exact Qd hF) ?_
     refine Qa (some 89) [(48, 7), (55, 0)] (fun _ _ _ _ hF => Zb rfl rfl rfl ⟨by omega, by omega⟩ (Qd hF)) ?_
     refine Qa (some 90) [(24, 32), (40, 16), (56, 0)] (by
      intro H' X F hle; have hL := Le.trans hL hle; intro hF; refine TL.min3 rfl rfl rfl rfl ?_
      exact Qd hF) ?_
     refine ⟨by kernel_rfl, .refl _, ?_⟩
     ·
      intro H3 hle
      rintro _ _ Hr hler ⟨rfl, D3, m3, oc3, hM3, hD3, hG3, rfl⟩
      have hL := Le.trans hL hle; have hle2 := Le.trans hle2 hle; refine Qw (own' := _ :: _ :: _ :: own) rfl ?_; refine Zi (env' := [(0, _), (1, _), (2, _), (7, _), (8, _), (9, _), (36, _), (37, _), (90, _)]) ⟨rfl, rfl, rfl, rfl, rfl, rfl, rfl, rfl, rfl, trivial⟩ ?_; refine Qo (j) rfl rfl (by omega) (by omega) rfl ?_; refine Zq 1 0 (c' := _) (own' := _ :: rowsFrom b.length (upd T2 i j (min (min (T2 (i + 1) (j + 1) + (dist x y : Int)) (T2 (i + 1) j + (x.size : Int))) (T2 i (j + 1) + (y.size : Int)))) i (g25 :: _) :: _) rfl rfl rfl rfl rfl (by rw [rowC_size]; omega) rfl (own_set1 (rows_setH (m := b.length) (j := j) (by omega))) rfl ?_
      refine Qi (Ze (Ze (Qc ?_)))
      have hD3' : ∀ p ∈ D3, p ∈ D ∨ p.1.size ≤ Kz := by
        intro p hp
        have hxk := (ha x (List.mem_of_getElem? hx)).2
        rcases hD3 p hp with h | h
        · exact hD2 p h
        · exact .inr (by omega)
      refine Qh (Qb rfl rfl ?_); refine Zu rfl rfl rfl ⟨by omega, by omega⟩ (Qe rfl rfl (Qi ?_)); refine Zn (own' := _ :: _ :: _ :: own) rfl ?_
      refine Zf j [(0, _), (1, _), (2, _), (7, _), (8, _), (9, _)] (by omega) ⟨rfl, rfl, rfl, rfl, rfl, rfl, trivial⟩ ⟨j, upd T2 i j (min (min (T2 (i + 1) (j + 1) + (dist x y : Int)) (T2 (i + 1) j + (x.size : Int))) (T2 i (j + 1) + (y.size : Int))), D3, m3, oc3, rfl, by omega, hok2.set (by rw [e1, e2, e3, drop_cons hx, drop_cons hy, alD_cons]; omega), fun j' h => by rw [upd_ne _ _ (by omega)]; exact hzz j' (by omega), hM3, hD3', hG3, by rw [show (((j + 1 : Nat) : Int) - 1 - 1) = (j : Int) - 1 by omega], rfl, hle2⟩
   ·
    have hq0 : q = 0 := by omega
    subst hq0
    refine Qi (Qc (Qr rfl (Zo (Q1 (Q1 ?_))))); refine Zp (Ze (Qc (Qh (Qb rfl rfl ?_)))); refine Zu rfl rfl rfl ⟨by omega, by omega⟩ (Qe rfl rfl (Qi ?_)); refine Zn (own' := _ :: _ :: _ :: own) rfl ?_
    refine Zf i [(0, _), (1, _), (2, _), (7, _), (8, _)] (by omega) ⟨rfl, rfl, rfl, rfl, rfl, trivial⟩ ⟨i, T2, g25 :: _, D2, m2, oc2, rfl, by simp; omega, hok2.leave, hM2, hD2, hG2, by rw [show (((i + 1 : Nat) : Int) - 1 - 1) = (i : Int) - 1 by omega], rfl, hle0⟩
  ·
   have hz0 : z = 0 := by omega
   subst hz0
   refine Qi (Qc (Qr rfl (Zo (Q1 (Q1 ?_))))); refine Zp (Zm (Qb rfl rfl (Qe rfl rfl (Qi (Qc ?_))))); refine Qy ?_
   refine Zj 3 [1, 0, 2] rfl (fun o ho => ?_)
   simp only [K.sel, nrm] at ho; subst ho
   refine Zs (fun H4 hle hz_rows => ?_)
   have hL := Le.trans hL hle
   refine Zj 2 [1, 0] rfl (fun o ho => ?_)
   simp only [K.sel, nrm] at ho; subst ho
   refine Zs (fun H5 hle hz_g13 => ?_)
   have hL := Le.trans hL hle; have hz_rows := hz.mono hle hz_rows; refine Zn (own' := _ :: own) rfl (Q5 0 rfl rfl ?_)
   exact ⟨D1, m1, oc1, hM1, hD1, hG1, tab_mk (by omega) hok hz_g13 hz_rows, rfl, hL⟩
theorem distance_n {S : List Tr} (hcl : ∀ t ∈ S, ∀ k ∈ t.kids, k ∈ S) (hS : S.length ≤ 100) (Kz : Nat) : DistC S Kz := by
  induction Kz with
  | zero => intro x y _ _ h; have := x.size_pos; omega
  | succ Kz ih =>
    intro x y hx hy hk hsz w0 H own gi gc gd oc D m v1 v2 hgd hM hG h1 h2
    obtain ⟨g1, vk1, x0, x1, rfl, hp1, hd1, hs1⟩ := h1.open
    obtain ⟨g2, vk2, y0, y1, rfl, hp2, hd2, hs2⟩ := h2.open
    obtain ⟨A, ca, rfl, hca1, hca2⟩ := hs1.len
    obtain ⟨B, cb, rfl, hcb1, hcb2⟩ := hs2.len
    have hx6 := size_kids x; have hy6 := size_kids y; have hla := Tr.len_le x.kids; have hlb := Tr.len_le y.kids; have hf := fro_le x.kids y.kids
    have hb := bak_le (fro x.kids y.kids) x.kids y.kids
    have hMl := hM.len hS
    have hix : S.idxOf x < 100 := Nat.lt_of_lt_of_le (List.idxOf_lt_length_of_mem hx) hS
    have hiy : S.idxOf y < 100 := Nat.lt_of_lt_of_le (List.idxOf_lt_length_of_mem hy) hS
    have hkk : keyOf Tryz.prog 137 (pairV S x y) = _ := key137 (a := S.idxOf x) (b := S.idxOf y) (wf64 ⟨by omega, by omega⟩) (wf64 ⟨by omega, by omega⟩)
    have hsl := hcl x hx; have hsr := hcl y hy; refine Fn.enter Tryz.func50 rfl Tryz.ntmps50 rfl ?_; have hL := Le.refl H; refine Qj (Qh (Qe rfl rfl (Qi (Qc (Qj ?_))))); refine Qj ?_
    have hcase : x = y ∨ (x ≠ y ∧ x.lab ≠ y.lab) ∨ (x ≠ y ∧ x.lab = y.lab ∧ (x, y) ∈ D) ∨ (x ≠ y ∧ x.lab = y.lab ∧ (x, y) ∉ D) := by
      by_cases e1 : x = y
      · exact .inl e1
      · by_cases e2 : x.lab = y.lab
        · by_cases e3 : (x, y) ∈ D
          · exact .inr (.inr (.inl ⟨e1, e2, e3⟩))
          · exact .inr (.inr (.inr ⟨e1, e2, e3⟩))
        · exact .inr (.inl ⟨e1, e2⟩)
    have hde := dist_eq x y
    rcases hcase with hxy | ⟨hxy, hl⟩ | ⟨hxy, hl, hc⟩ | ⟨hxy, hl, hc⟩
    ·
     rw [if_pos hxy] at hde
     refine Q4 8  [(0, _), (1, _), (2, _), (6, _)] follows_mixed ⟨rfl, rfl, rfl, rfl, trivial⟩ ?_; refine Qa (some 13) [] (fun _ _ _ _ hF => Qb rfl rfl (Qd hF)) ?_; refine Qa (some 14) [(0, 0)] (fun _ _ _ _ hF => Qt rfl rfl (Qd hF)) ?_; refine Qa (some 15) [(1, 0)] (fun _ _ _ _ hF => Qg rfl rfl (Qd hF)) ?_
     refine Qa (some 16) [(2, 0)] (by
      intro H' X F hle; have hL := Le.trans hL hle; have hp1 := hAt.mono hle hp1; intro hF; refine Qp rfl (hp1.2.1) rfl ?_
      exact Qd hF) ?_
     refine Qa (some 17) [] (fun _ _ _ _ hF => Qb rfl rfl (Qd hF)) ?_; refine Qa (some 18) [(4, 0)] (fun _ _ _ _ hF => Qt rfl rfl (Qd hF)) ?_; refine Qa (some 19) [(5, 0)] (fun _ _ _ _ hF => Qg rfl rfl (Qd hF)) ?_
     refine Qa (some 20) [(6, 0)] (by
      intro H' X F hle; have hL := Le.trans hL hle; have hp2 := hAt.mono hle hp2; intro hF; refine Qp rfl (hp2.2.1) rfl ?_
      exact Qd hF) ?_
     refine ⟨by kernel_rfl, .refl _, ?_⟩
     ·
      intro H1 hle; have hL := Le.trans hL hle; refine Qw (own' := _ :: own) rfl ?_; refine Zi (env' := [(0, _), (1, _), (2, _), (6, _), (16, _), (20, _)]) ⟨rfl, rfl, rfl, rfl, rfl, rfl, trivial⟩ (Za rfl rfl rfl ?_)
      rw [decide_eq_true ((idx_eq hx hy).2 hxy)]
      refine Qi (Qc (Qv rfl (Qj (Qh (Qe rfl rfl ?_))))); refine Qi (Qc (Qy (Q0 ?_))); refine Zn (own' := _ :: own) rfl (Q5 0 rfl rfl ?_)
      exact ⟨by rw [hde]; rfl, D, m, oc, hM, fun p h => .inl h, hG, rfl, hL⟩
    ·
     rw [if_neg hxy, if_pos hl] at hde
     refine Q4 8  [(0, _), (1, _), (2, _), (6, _)] follows_mixed ⟨rfl, rfl, rfl, rfl, trivial⟩ ?_; refine Qa (some 13) [] (fun _ _ _ _ hF => Qb rfl rfl (Qd hF)) ?_; refine Qa (some 14) [(0, 0)] (fun _ _ _ _ hF => Qt rfl rfl (Qd hF)) ?_; refine Qa (some 15) [(1, 0)] (fun _ _ _ _ hF => Qg rfl rfl (Qd hF)) ?_
     refine Qa (some 16) [(2, 0)] (by
      intro H' X F hle; have hL := Le.trans hL hle; have hp1 := hAt.mono hle hp1; intro hF; refine Qp rfl (hp1.2.1) rfl ?_
      exact Qd hF) ?_
     refine Qa (some 17) [] (fun _ _ _ _ hF => Qb rfl rfl (Qd hF)) ?_; refine Qa (some 18) [(4, 0)] (fun _ _ _ _ hF => Qt rfl rfl (Qd hF)) ?_; refine Qa (some 19) [(5, 0)] (fun _ _ _ _ hF => Qg rfl rfl (Qd hF)) ?_
     refine Qa (some 20) [(6, 0)] (by
      intro H' X F hle; have hL := Le.trans hL hle; have hp2 := hAt.mono hle hp2; intro hF; refine Qp rfl (hp2.2.1) rfl ?_
      exact Qd hF) ?_
     refine ⟨by kernel_rfl, .refl _, ?_⟩
     ·
      intro H2 hle; have hL := Le.trans hL hle; have hp1 := hAt.mono hle hp1; have hp2 := hAt.mono hle hp2; refine Qw (own' := _ :: own) rfl ?_; refine Zi (env' := [(0, _), (1, _), (2, _), (6, _), (16, _), (20, _)]) ⟨rfl, rfl, rfl, rfl, rfl, rfl, trivial⟩ (Za rfl rfl rfl ?_)
      rw [decide_eq_false (fun h => hxy ((idx_eq hx hy).1 h))]
      refine Qi (Qc (Qr rfl (Q2 (Qc (Qj ?_))))); refine Qj ?_; refine Q4 8  [(0, _), (1, _), (2, _), (6, _)] follows_mixed ⟨rfl, rfl, rfl, rfl, trivial⟩ ?_; refine Qa (some 22) [] (fun _ _ _ _ hF => Qb rfl rfl (Qd hF)) ?_; refine Qa (some 23) [(0, 0)] (fun _ _ _ _ hF => Qt rfl rfl (Qd hF)) ?_; refine Qa (some 24) [(1, 0)] (fun _ _ _ _ hF => Qg rfl rfl (Qd hF)) ?_
      refine Qa (some 25) [(2, 0)] (by
       intro H' X F hle; have hL := Le.trans hL hle; have hp1 := hAt.mono hle hp1; intro hF; refine Qp rfl (hp1.1) rfl ?_
       exact Qd hF) ?_
      refine Qa (some 26) [] (fun _ _ _ _ hF => Qb rfl rfl (Qd hF)) ?_; refine Qa (some 27) [(4, 0)] (fun _ _ _ _ hF => Qt rfl rfl (Qd hF)) ?_; refine Qa (some 28) [(5, 0)] (fun _ _ _ _ hF => Qg rfl rfl (Qd hF)) ?_
      refine Qa (some 29) [(6, 0)] (by
       intro H' X F hle; have hL := Le.trans hL hle; have hp2 := hAt.mono hle hp2; intro hF; refine Qp rfl (hp2.1) rfl ?_
       exact Qd hF) ?_
      refine ⟨by kernel_rfl, .refl _, ?_⟩
      ·
       intro H3 hle; have hL := Le.trans hL hle; have hp1 := hAt.mono hle hp1; have hp2 := hAt.mono hle hp2; refine Qw (own' := _ :: own) rfl ?_; refine Zi (env' := [(0, _), (1, _), (2, _), (6, _), (25, _), (29, _)]) ⟨rfl, rfl, rfl, rfl, rfl, rfl, trivial⟩ (TL.neqS rfl rfl rfl ?_)
       rw [decide_eq_true hl]
       refine Qi (Qc (Qv rfl (Qj ?_))); refine Q4 8  [(0, _), (1, _), (2, _), (6, _)] follows_mixed ⟨rfl, rfl, rfl, rfl, trivial⟩ ?_; refine Qa (some 31) [] (fun _ _ _ _ hF => Qb rfl rfl (Qd hF)) ?_; refine Qa (some 32) [(0, 0)] (fun _ _ _ _ hF => Qt rfl rfl (Qd hF)) ?_; refine Qa (some 33) [(1, 0)] (fun _ _ _ _ hF => Qg rfl rfl (Qd hF)) ?_
       refine Qa (some 34) [(2, 0)] (by
        intro H' X F hle; have hL := Le.trans hL hle; have hp1 := hAt.mono hle hp1; intro hF; refine Qp rfl (hp1.2.2.1) rfl ?_
        exact Qd hF) ?_
       refine Qa (some 35) [] (fun _ _ _ _ hF => Qb rfl rfl (Qd hF)) ?_; refine Qa (some 36) [(4, 0)] (fun _ _ _ _ hF => Qt rfl rfl (Qd hF)) ?_; refine Qa (some 37) [(5, 0)] (fun _ _ _ _ hF => Qg rfl rfl (Qd hF)) ?_
       refine Qa (some 38) [(6, 0)] (by
        intro H' X F hle; have hL := Le.trans hL hle; have hp2 := hAt.mono hle hp2; intro hF; refine Qp rfl (hp2.2.2.1) rfl ?_
        exact Qd hF) ?_
       refine ⟨by kernel_rfl, .refl _, ?_⟩
       ·
        intro H4 hle; have hL := Le.trans hL hle; refine Qw (own' := _ :: own) rfl ?_; refine Zi (env' := [(0, _), (1, _), (2, _), (6, _), (34, _), (38, _)]) ⟨rfl, rfl, rfl, rfl, rfl, rfl, trivial⟩ ?_; refine Zb rfl rfl rfl ⟨by omega, by omega⟩ (Qe rfl rfl (Qi (Qc (Qy (Q0 ?_))))); refine Zn (own' := _ :: own) rfl (Q5 0 rfl rfl ?_)
        exact ⟨by rw [hde]; simp, D, m, oc, hM, fun p h => .inl h, hG, rfl, hL⟩
    ·
     refine Q4 8  [(0, _), (1, _), (2, _), (6, _)] follows_mixed ⟨rfl, rfl, rfl, rfl, trivial⟩ ?_; refine Qa (some 13) [] (fun _ _ _ _ hF => Qb rfl rfl (Qd hF)) ?_; refine Qa (some 14) [(0, 0)] (fun _ _ _ _ hF => Qt rfl rfl (Qd hF)) ?_; refine Qa (some 15) [(1, 0)] (fun _ _ _ _ hF => Qg rfl rfl (Qd hF)) ?_
     refine Qa (some 16) [(2, 0)] (by
      intro H' X F hle; have hL := Le.trans hL hle; have hp1 := hAt.mono hle hp1; intro hF; refine Qp rfl (hp1.2.1) rfl ?_
      exact Qd hF) ?_
     refine Qa (some 17) [] (fun _ _ _ _ hF => Qb rfl rfl (Qd hF)) ?_; refine Qa (some 18) [(4, 0)] (fun _ _ _ _ hF => Qt rfl rfl (Qd hF)) ?_; refine Qa (some 19) [(5, 0)] (fun _ _ _ _ hF => Qg rfl rfl (Qd hF)) ?_
     refine Qa (some 20) [(6, 0)] (by
      intro H' X F hle; have hL := Le.trans hL hle; have hp2 := hAt.mono hle hp2; intro hF; refine Qp rfl (hp2.2.1) rfl ?_
      exact Qd hF) ?_
     refine ⟨by kernel_rfl, .refl _, ?_⟩
     ·
      intro H5 hle; have hL := Le.trans hL hle; have hgd := hAt.mono hle hgd; have hp1 := hAt.mono hle hp1; have hp2 := hAt.mono hle hp2; refine Qw (own' := _ :: own) rfl ?_; refine Zi (env' := [(0, _), (1, _), (2, _), (6, _), (16, _), (20, _)]) ⟨rfl, rfl, rfl, rfl, rfl, rfl, trivial⟩ (Za rfl rfl rfl ?_)
      rw [decide_eq_false (fun h => hxy ((idx_eq hx hy).1 h))]
      refine Qi (Qc (Qr rfl (Q2 (Qc (Qj ?_))))); refine Qj ?_; refine Q4 8  [(0, _), (1, _), (2, _), (6, _)] follows_mixed ⟨rfl, rfl, rfl, rfl, trivial⟩ ?_; refine Qa (some 22) [] (fun _ _ _ _ hF => Qb rfl rfl (Qd hF)) ?_; refine Qa (some 23) [(0, 0)] (fun _ _ _ _ hF => Qt rfl rfl (Qd hF)) ?_; refine Qa (some 24) [(1, 0)] (fun _ _ _ _ hF => Qg rfl rfl (Qd hF)) ?_
      refine Qa (some 25) [(2, 0)] (by
       intro H' X F hle; have hL := Le.trans hL hle; have hp1 := hAt.mono hle hp1; intro hF; refine Qp rfl (hp1.1) rfl ?_
       exact Qd hF) ?_
      refine Qa (some 26) [] (fun _ _ _ _ hF => Qb rfl rfl (Qd hF)) ?_; refine Qa (some 27) [(4, 0)] (fun _ _ _ _ hF => Qt rfl rfl (Qd hF)) ?_; refine Qa (some 28) [(5, 0)] (fun _ _ _ _ hF => Qg rfl rfl (Qd hF)) ?_
      refine Qa (some 29) [(6, 0)] (by
       intro H' X F hle; have hL := Le.trans hL hle; have hp2 := hAt.mono hle hp2; intro hF; refine Qp rfl (hp2.1) rfl ?_
       exact Qd hF) ?_
      refine ⟨by kernel_rfl, .refl _, ?_⟩
      ·
       intro H6 hle; have hL := Le.trans hL hle; have hgd := hAt.mono hle hgd; have hp1 := hAt.mono hle hp1; have hp2 := hAt.mono hle hp2; refine Qw (own' := _ :: own) rfl ?_; refine Zi (env' := [(0, _), (1, _), (2, _), (6, _), (25, _), (29, _)]) ⟨rfl, rfl, rfl, rfl, rfl, rfl, trivial⟩ (TL.neqS rfl rfl rfl ?_)
       rw [decide_eq_false (fun h => h hl)]
       refine Qi (Qc (Qr rfl (Q2 (Qc (Qj ?_))))); refine Q4 10  [(0, _), (1, _), (2, _), (6, _)] follows_mixed ⟨rfl, rfl, rfl, rfl, trivial⟩ ?_; refine Qa (some 40) [] (fun _ _ _ _ hF => Qb rfl rfl (Qd hF)) ?_; refine Qa (some 41) [(0, 0)] (fun _ _ _ _ hF => Qt rfl rfl (Qd hF)) ?_; refine Qa (some 42) [(1, 0)] (fun _ _ _ _ hF => Qg rfl rfl (Qd hF)) ?_
       refine Qa (some 43) [(2, 0)] (by
        intro H' X F hle; have hL := Le.trans hL hle; have hp1 := hAt.mono hle hp1; intro hF; refine Qp rfl (hp1.2.1) rfl ?_
        exact Qd hF) ?_
       refine Qa (some 44) [] (fun _ _ _ _ hF => Qb rfl rfl (Qd hF)) ?_; refine Qa (some 45) [(4, 0)] (fun _ _ _ _ hF => Qt rfl rfl (Qd hF)) ?_; refine Qa (some 46) [(5, 0)] (fun _ _ _ _ hF => Qg rfl rfl (Qd hF)) ?_
       refine Qa (some 47) [(6, 0)] (by
        intro H' X F hle; have hL := Le.trans hL hle; have hp2 := hAt.mono hle hp2; intro hF; refine Qp rfl (hp2.2.1) rfl ?_
        exact Qd hF) ?_
       refine Qa (some 48) [(3, 4), (7, 0)] (by
        intro H' X F hle; have hL := Le.trans hL hle; intro hF; refine Q8 [(0, [_]), (1, [_])] ⟨rfl, ⟨_, rfl, rfl⟩, rfl, ⟨_, rfl, rfl⟩, trivial⟩ rfl rfl ?_
        exact Qd hF) ?_
       refine Q9 (some 7) [] ([]) (fun _ => fun u s H => ∃ g, u = .pointer (some ⟨g, 0, none⟩) ∧ s = [[(g, .cells #[.int .i64 0, .int .i64 0] 137 (0, 0))]]) (by
        intro H' X F hle; have hL := Le.trans hL hle; intro hF
        refine Zc rfl ?_; intro g7; refine Qi ?_
        exact Q7 [_] hF (Le.refl _) ⟨_, rfl, rfl⟩) ?_
       refine ⟨by kernel_rfl, .refl _, ?_⟩
       ·
        intro H7 hle
        rintro _ _ Hr hler ⟨g7, rfl, rfl⟩
        have hL := Le.trans hL hle; have hgd := hAt.mono hle hgd; refine Qw (own' := _ :: _ :: own) rfl ?_; refine Zi (env' := [(0, _), (1, _), (2, _), (6, _), (48, _), (7, _)]) ⟨rfl, rfl, rfl, rfl, rfl, rfl, trivial⟩ ?_; refine Qq 0 0 (c' := #[_, _]) (own' := [(_, .cells #[_, _] _ _)] :: _) rfl rfl rfl rfl rfl ⟨rfl, rfl, trivial⟩ (by simp [putC]) rfl rfl rfl ?_; refine Qi (Qc (Qj ?_)); refine Q4 10  [(0, _), (1, _), (2, _), (6, _), (7, _)] follows_mixed ⟨rfl, rfl, rfl, rfl, rfl, trivial⟩ ?_; refine Qa (some 50) [] (fun _ _ _ _ hF => Qb rfl rfl (Qd hF)) ?_; refine Qa (some 51) [(0, 0)] (fun _ _ _ _ hF => Qt rfl rfl (Qd hF)) ?_; refine Qa (some 52) [(1, 0)] (fun _ _ _ _ hF => Qg rfl rfl (Qd hF)) ?_
        refine Qa (some 53) [(2, 0)] (by
         intro H' X F hle; have hL := Le.trans hL hle; have hgd := hAt.mono hle hgd; intro hF; refine Qp rfl (hgd.2.1) rfl ?_
         exact Qd hF) ?_
        refine Qa (some 54) [] (by
         intro H' X F hle; have hL := Le.trans hL hle; intro hF; refine Qm 0 0 [_, _] rfl rfl rfl ⟨rfl, rfl, trivial⟩ rfl rfl ?_
         exact Qd hF) ?_
        refine Qa (some 55) [(3, 1), (4, 0)] (by
         intro H' X F hle; have hL := Le.trans hL hle; intro hF; refine TL.lookG (key := pairV S x y) 1 0 rfl rfl rfl rfl K137 hG hkk zero3 rfl ?_
         rw [hM.has x hx y hy hc]
         simp only [if_true, Option.getD_some, Option.getD_none, Option.isSome_some, Option.isSome_none]
         exact Qd hF) ?_
        refine Qa (some 49) [(5, 0)] (fun _ _ _ _ hF => Qb rfl rfl (Qd hF)) ?_; refine Qa (some 56) [(6, 0)] (fun _ _ _ _ hF => Qu rfl rfl rfl (Qd hF)) ?_
        refine Qa (some 57) [(6, 1)] (by
         intro H' X F hle; have hL := Le.trans hL hle; intro hF; refine Qu rfl rfl rfl ?_
         exact Qd hF) ?_
        refine Qa (some 8) [(7, 1)] (fun _ _ _ _ hF => Qe rfl rfl (Qd hF)) ?_
        refine ⟨by kernel_rfl, .refl _, ?_⟩
        ·
         intro H8 hle; have hL := Le.trans hL hle; refine Qw (own' := _ :: _ :: own) rfl ?_; refine Zi (env' := [(0, _), (1, _), (2, _), (6, _), (7, _), (57, _), (8, _)]) ⟨rfl, rfl, rfl, rfl, rfl, rfl, rfl, trivial⟩ (Qe rfl rfl (Qi (Qc (Qj (Qj ?_))))); refine Qh (Qb rfl rfl (Z1 rfl rfl (Qi (Qc (Qr rfl ?_))))); refine Q2 (Zm (Qb rfl rfl (Qe rfl rfl (Qi (Qc ?_))))); refine Qy ?_
         refine Zj 2 [1] rfl (fun o ho => ?_)
         simp only [K.sel, nrm] at ho; subst ho
         refine Q5 0 rfl rfl ?_
         exact ⟨rfl, D, m, oc, hM, fun p h => .inl h, hG, rfl, hL⟩
    ·
     rw [if_neg hxy, if_neg (fun h => h hl)] at hde
     refine Q4 8  [(0, _), (1, _), (2, _), (6, _)] follows_mixed ⟨rfl, rfl, rfl, rfl, trivial⟩ ?_; refine Qa (some 13) [] (fun _ _ _ _ hF => Qb rfl rfl (Qd hF)) ?_; refine Qa (some 14) [(0, 0)] (fun _ _ _ _ hF => Qt rfl rfl (Qd hF)) ?_; refine Qa (some 15) [(1, 0)] (fun _ _ _ _ hF => Qg rfl rfl (Qd hF)) ?_
     refine Qa (some 16) [(2, 0)] (by
      intro H' X F hle; have hL := Le.trans hL hle; have hp1 := hAt.mono hle hp1; intro hF; refine Qp rfl (hp1.2.1) rfl ?_
      exact Qd hF) ?_
     refine Qa (some 17) [] (fun _ _ _ _ hF => Qb rfl rfl (Qd hF)) ?_; refine Qa (some 18) [(4, 0)] (fun _ _ _ _ hF => Qt rfl rfl (Qd hF)) ?_; refine Qa (some 19) [(5, 0)] (fun _ _ _ _ hF => Qg rfl rfl (Qd hF)) ?_
     refine Qa (some 20) [(6, 0)] (by
      intro H' X F hle; have hL := Le.trans hL hle; have hp2 := hAt.mono hle hp2; intro hF; refine Qp rfl (hp2.2.1) rfl ?_
      exact Qd hF) ?_
     refine ⟨by kernel_rfl, .refl _, ?_⟩
     ·
      intro H9 hle; have hL := Le.trans hL hle; have hgd := hAt.mono hle hgd; have hp1 := hAt.mono hle hp1; have hp2 := hAt.mono hle hp2; have hs1 := szS.mono hle hs1; have hs2 := szS.mono hle hs2; refine Qw (own' := _ :: own) rfl ?_; refine Zi (env' := [(0, _), (1, _), (2, _), (6, _), (16, _), (20, _)]) ⟨rfl, rfl, rfl, rfl, rfl, rfl, trivial⟩ (Za rfl rfl rfl ?_)
      rw [decide_eq_false (fun h => hxy ((idx_eq hx hy).1 h))]
      refine Qi (Qc (Qr rfl (Q2 (Qc (Qj ?_))))); refine Qj ?_; refine Q4 8  [(0, _), (1, _), (2, _), (6, _)] follows_mixed ⟨rfl, rfl, rfl, rfl, trivial⟩ ?_; refine Qa (some 22) [] (fun _ _ _ _ hF => Qb rfl rfl (Qd hF)) ?_; refine Qa (some 23) [(0, 0)] (fun _ _ _ _ hF => Qt rfl rfl (Qd hF)) ?_; refine Qa (some 24) [(1, 0)] (fun _ _ _ _ hF => Qg rfl rfl (Qd hF)) ?_
      refine Qa (some 25) [(2, 0)] (by
       intro H' X F hle; have hL := Le.trans hL hle; have hp1 := hAt.mono hle hp1; intro hF; refine Qp rfl (hp1.1) rfl ?_
       exact Qd hF) ?_
      refine Qa (some 26) [] (fun _ _ _ _ hF => Qb rfl rfl (Qd hF)) ?_; refine Qa (some 27) [(4, 0)] (fun _ _ _ _ hF => Qt rfl rfl (Qd hF)) ?_; refine Qa (some 28) [(5, 0)] (fun _ _ _ _ hF => Qg rfl rfl (Qd hF)) ?_
      refine Qa (some 29) [(6, 0)] (by
       intro H' X F hle; have hL := Le.trans hL hle; have hp2 := hAt.mono hle hp2; intro hF; refine Qp rfl (hp2.1) rfl ?_
       exact Qd hF) ?_
      refine ⟨by kernel_rfl, .refl _, ?_⟩
      ·
       intro H10 hle; have hL := Le.trans hL hle; have hgd := hAt.mono hle hgd; have hp1 := hAt.mono hle hp1; have hp2 := hAt.mono hle hp2; have hs1 := szS.mono hle hs1; have hs2 := szS.mono hle hs2; refine Qw (own' := _ :: own) rfl ?_; refine Zi (env' := [(0, _), (1, _), (2, _), (6, _), (25, _), (29, _)]) ⟨rfl, rfl, rfl, rfl, rfl, rfl, trivial⟩ (TL.neqS rfl rfl rfl ?_)
       rw [decide_eq_false (fun h => h hl)]
       refine Qi (Qc (Qr rfl (Q2 (Qc (Qj ?_))))); refine Q4 10  [(0, _), (1, _), (2, _), (6, _)] follows_mixed ⟨rfl, rfl, rfl, rfl, trivial⟩ ?_; refine Qa (some 40) [] (fun _ _ _ _ hF => Qb rfl rfl (Qd hF)) ?_; refine Qa (some 41) [(0, 0)] (fun _ _ _ _ hF => Qt rfl rfl (Qd hF)) ?_; refine Qa (some 42) [(1, 0)] (fun _ _ _ _ hF => Qg rfl rfl (Qd hF)) ?_
       refine Qa (some 43) [(2, 0)] (by
        intro H' X F hle; have hL := Le.trans hL hle; have hp1 := hAt.mono hle hp1; intro hF; refine Qp rfl (hp1.2.1) rfl ?_
        exact Qd hF) ?_
       refine Qa (some 44) [] (fun _ _ _ _ hF => Qb rfl rfl (Qd hF)) ?_; refine Qa (some 45) [(4, 0)] (fun _ _ _ _ hF => Qt rfl rfl (Qd hF)) ?_; refine Qa (some 46) [(5, 0)] (fun _ _ _ _ hF => Qg rfl rfl (Qd hF)) ?_
       refine Qa (some 47) [(6, 0)] (by
        intro H' X F hle; have hL := Le.trans hL hle; have hp2 := hAt.mono hle hp2; intro hF; refine Qp rfl (hp2.2.1) rfl ?_
        exact Qd hF) ?_
       refine Qa (some 48) [(3, 4), (7, 0)] (by
        intro H' X F hle; have hL := Le.trans hL hle; intro hF; refine Q8 [(0, [_]), (1, [_])] ⟨rfl, ⟨_, rfl, rfl⟩, rfl, ⟨_, rfl, rfl⟩, trivial⟩ rfl rfl ?_
        exact Qd hF) ?_
       refine Q9 (some 7) [] ([]) (fun _ => fun u s H => ∃ g, u = .pointer (some ⟨g, 0, none⟩) ∧ s = [[(g, .cells #[.int .i64 0, .int .i64 0] 137 (0, 0))]]) (by
        intro H' X F hle; have hL := Le.trans hL hle; intro hF
        refine Zc rfl ?_; intro g7; refine Qi ?_
        exact Q7 [_] hF (Le.refl _) ⟨_, rfl, rfl⟩) ?_
       refine ⟨by kernel_rfl, .refl _, ?_⟩
       ·
        intro H11 hle
        rintro _ _ Hr hler ⟨g7, rfl, rfl⟩
        have hL := Le.trans hL hle; have hgd := hAt.mono hle hgd; have hp1 := hAt.mono hle hp1; have hp2 := hAt.mono hle hp2; have hs1 := szS.mono hle hs1; have hs2 := szS.mono hle hs2; refine Qw (own' := _ :: _ :: own) rfl ?_; refine Zi (env' := [(0, _), (1, _), (2, _), (6, _), (48, _), (7, _)]) ⟨rfl, rfl, rfl, rfl, rfl, rfl, trivial⟩ ?_; refine Qq 0 0 (c' := #[_, _]) (own' := [(_, .cells #[_, _] _ _)] :: _) rfl rfl rfl rfl rfl ⟨rfl, rfl, trivial⟩ (by simp [putC]) rfl rfl rfl ?_; refine Qi (Qc (Qj ?_)); refine Q4 10  [(0, _), (1, _), (2, _), (6, _), (7, _)] follows_mixed ⟨rfl, rfl, rfl, rfl, rfl, trivial⟩ ?_; refine Qa (some 50) [] (fun _ _ _ _ hF => Qb rfl rfl (Qd hF)) ?_; refine Qa (some 51) [(0, 0)] (fun _ _ _ _ hF => Qt rfl rfl (Qd hF)) ?_
        refine Qa (some 52) [(1, 0)] (fun _ _ _ _ hF => Qg rfl rfl (Qd hF)) ?_
        refine Qa (some 53) [(2, 0)] (by
         intro H' X F hle; have hL := Le.trans hL hle; have hgd := hAt.mono hle hgd; intro hF; refine Qp rfl (hgd.2.1) rfl ?_
         exact Qd hF) ?_
        refine Qa (some 54) [] (by
         intro H' X F hle; have hL := Le.trans hL hle; intro hF; refine Qm 0 0 [_, _] rfl rfl rfl ⟨rfl, rfl, trivial⟩ rfl rfl ?_
         exact Qd hF) ?_
        refine Qa (some 55) [(3, 1), (4, 0)] (by
         intro H' X F hle; have hL := Le.trans hL hle; intro hF; refine TL.lookG (key := pairV S x y) 1 0 rfl rfl rfl rfl K137 hG hkk zero3 rfl ?_
         rw [hM.none x hx y hy hc]
         simp only [if_true, Option.getD_some, Option.getD_none, Option.isSome_some, Option.isSome_none]
         exact Qd hF) ?_
        refine Qa (some 49) [(5, 0)] (fun _ _ _ _ hF => Qb rfl rfl (Qd hF)) ?_; refine Qa (some 56) [(6, 0)] (fun _ _ _ _ hF => Qu rfl rfl rfl (Qd hF)) ?_
        refine Qa (some 57) [(6, 1)] (by
         intro H' X F hle; have hL := Le.trans hL hle; intro hF; refine Qu rfl rfl rfl ?_
         exact Qd hF) ?_
        refine Qa (some 8) [(7, 1)] (fun _ _ _ _ hF => Qe rfl rfl (Qd hF)) ?_
        refine ⟨by kernel_rfl, .refl _, ?_⟩
        ·
         intro H12 hle; have hL := Le.trans hL hle; have hgd := hAt.mono hle hgd; have hp1 := hAt.mono hle hp1; have hp2 := hAt.mono hle hp2; have hs1 := szS.mono hle hs1; have hs2 := szS.mono hle hs2; refine Qw (own' := _ :: _ :: own) rfl ?_; refine Zi (env' := [(0, _), (1, _), (2, _), (6, _), (7, _), (57, _), (8, _)]) ⟨rfl, rfl, rfl, rfl, rfl, rfl, rfl, trivial⟩ (Qe rfl rfl (Qi (Qc (Qj (Qj ?_))))); refine Qh (Qb rfl rfl (Z1 rfl rfl (Qi (Qc (Qv rfl ?_))))); refine Qj ?_; refine Q4 13  [(0, _), (1, _), (2, _), (6, _), (7, _), (8, _), (9, _)] follows_mixed ⟨rfl, rfl, rfl, rfl, rfl, rfl, rfl, trivial⟩ ?_; refine Qa (some 61) [] (fun _ _ _ _ hF => Qb rfl rfl (Qd hF)) ?_
         refine Qa (some 62) [(0, 0)] (fun _ _ _ _ hF => Qt rfl rfl (Qd hF)) ?_; refine Qa (some 63) [(1, 0)] (fun _ _ _ _ hF => Qg rfl rfl (Qd hF)) ?_
         refine Qa (some 64) [(2, 0)] (by
          intro H' X F hle; have hL := Le.trans hL hle; have hp1 := hAt.mono hle hp1; intro hF; refine Qp rfl (hp1.2.2.2.1) rfl ?_
          exact Qd hF) ?_
         refine Qa (some 65) [] (fun _ _ _ _ hF => Qb rfl rfl (Qd hF)) ?_; refine Qa (some 66) [(4, 0)] (fun _ _ _ _ hF => Qt rfl rfl (Qd hF)) ?_; refine Qa (some 67) [(5, 0)] (fun _ _ _ _ hF => Qg rfl rfl (Qd hF)) ?_
         refine Qa (some 68) [(6, 0)] (by
          intro H' X F hle; have hL := Le.trans hL hle; have hp2 := hAt.mono hle hp2; intro hF; refine Qp rfl (hp2.2.2.2.1) rfl ?_
          exact Qd hF) ?_
         refine Qa (some 69) [(3, 4), (7, 0)] (by
          intro H' X F hle; have hL := Le.trans hL hle; have hs1 := szS.mono hle hs1; have hs2 := szS.mono hle hs2; intro hF; refine Qs (trim_n hsl hsr (by omega) (by omega) hs1 hs2) ⟨rfl, rfl, trivial⟩ rfl ?_
          rintro _ _ H5 ⟨rfl, rfl, hle5⟩
          have hL := Le.trans hL hle5; refine Qi ?_
          exact Q7 [] hF hle5 ⟨rfl, rfl⟩) ?_
         refine Qa (some 60) [(8, 0)] (fun _ _ _ _ hF => Qb rfl rfl (Qd hF)) ?_; refine Qa (some 70) [(9, 0)] (fun _ _ _ _ hF => Qu rfl rfl rfl (Qd hF)) ?_; refine Qa (some 71) [(9, 1)] (fun _ _ _ _ hF => Qu rfl rfl rfl (Qd hF)) ?_; refine Qa (some 10) [(10, 1)] (fun _ _ _ _ hF => Qe rfl rfl (Qd hF)) ?_
         refine ⟨by kernel_rfl, .refl _, ?_⟩
         ·
          intro H13 hle; have hL := Le.trans hL hle; have hgd := hAt.mono hle hgd; have hp1 := hAt.mono hle hp1; have hp2 := hAt.mono hle hp2; have hs1 := szS.mono hle hs1; have hs2 := szS.mono hle hs2; refine Qw (own' := _ :: _ :: own) rfl ?_; refine Zi (env' := [(0, _), (1, _), (2, _), (6, _), (7, _), (8, _), (9, _), (71, _), (10, _)]) ⟨rfl, rfl, rfl, rfl, rfl, rfl, rfl, rfl, rfl, trivial⟩ (Qe rfl rfl (Qi (Qc (Qj ?_))))
          have hmid : Tr.sizes (midA x.kids y.kids) + Tr.sizes (midB x.kids y.kids) ≤ 1000000 := by
            have h2 := sizes_mid x.kids (fro x.kids y.kids) (x.kids.length - bak (fro x.kids y.kids) x.kids y.kids - fro x.kids y.kids)
            have h3 := sizes_mid y.kids (fro x.kids y.kids) (y.kids.length - bak (fro x.kids y.kids) x.kids y.kids - fro x.kids y.kids)
            unfold midA midB
            omega
          refine Q4 27  [(0, _), (1, _), (2, _), (6, _), (7, _), (8, _), (9, _), (10, _), (11, _)] follows_mixed ⟨rfl, rfl, rfl, rfl, rfl, rfl, rfl, rfl, rfl, trivial⟩ ?_; refine Qa (some 72) [] (fun _ _ _ _ hF => Qb rfl rfl (Qd hF)) ?_; refine Qa (some 73) [] (fun _ _ _ _ hF => Qb rfl rfl (Qd hF)) ?_; refine Qa (some 74) [(1, 0)] (fun _ _ _ _ hF => Qt rfl rfl (Qd hF)) ?_; refine Qa (some 75) [(2, 0)] (fun _ _ _ _ hF => Qg rfl rfl (Qd hF)) ?_
          refine Qa (some 76) [(3, 0)] (by
           intro H' X F hle; have hL := Le.trans hL hle; have hp1 := hAt.mono hle hp1; intro hF; refine Qp rfl (hp1.2.2.2.1) rfl ?_
           exact Qd hF) ?_
          refine Qa (some 77) [] (fun _ _ _ _ hF => Qb rfl rfl (Qd hF)) ?_; refine Qa (some 78) [] (fun _ _ _ _ hF => Qb rfl rfl (Qd hF)) ?_; refine Qa (some 79) [(6, 0)] (fun _ _ _ _ hF => Qt rfl rfl (Qd hF)) ?_; refine Qa (some 80) [(7, 0)] (fun _ _ _ _ hF => Qg rfl rfl (Qd hF)) ?_
          refine Qa (some 81) [(8, 0)] (by
           intro H' X F hle; have hL := Le.trans hL hle; have hp1 := hAt.mono hle hp1; intro hF; refine Qp rfl (hp1.2.2.2.1) rfl ?_
           exact Qd hF) ?_
          refine Qa (some 82) [(9, 0)] (by
           intro H' X F hle; have hL := Le.trans hL hle; intro hF; refine Qn rfl rfl ?_
           exact Qd hF) ?_
          refine Qa (some 83) [] (fun _ _ _ _ hF => Qb rfl rfl (Qd hF)) ?_; refine Qa (some 84) [(10, 1), (11, 0)] (fun _ _ _ _ hF => Zu rfl rfl rfl ⟨by omega, by omega⟩ (Qd hF)) ?_
          refine Qa (some 85) [(4, 8), (5, 7), (12, 0)] (by
           intro H' X F hle; have hL := Le.trans hL hle; intro hF; refine Z3 (fro x.kids y.kids) (x.kids.length - bak (fro x.kids y.kids) x.kids y.kids) rfl ⟨_, _, rfl, rfl⟩ ⟨_, _, rfl, rfl⟩ rfl (by show (_ : Int) - _ = _; omega) (by omega) (by omega) rfl ?_
           exact Qd hF) ?_
          refine Qa (some 86) [] (fun _ _ _ _ hF => Qb rfl rfl (Qd hF)) ?_; refine Qa (some 87) [(14, 0)] (fun _ _ _ _ hF => Qt rfl rfl (Qd hF)) ?_; refine Qa (some 88) [(15, 0)] (fun _ _ _ _ hF => Qg rfl rfl (Qd hF)) ?_
          refine Qa (some 89) [(16, 0)] (by
           intro H' X F hle; have hL := Le.trans hL hle; have hp2 := hAt.mono hle hp2; intro hF; refine Qp rfl (hp2.2.2.2.1) rfl ?_
           exact Qd hF) ?_
          refine Qa (some 90) [] (fun _ _ _ _ hF => Qb rfl rfl (Qd hF)) ?_; refine Qa (some 91) [] (fun _ _ _ _ hF => Qb rfl rfl (Qd hF)) ?_; refine Qa (some 92) [(19, 0)] (fun _ _ _ _ hF => Qt rfl rfl (Qd hF)) ?_; refine Qa (some 93) [(20, 0)] (fun _ _ _ _ hF => Qg rfl rfl (Qd hF)) ?_
          refine Qa (some 94) [(21, 0)] (by
           intro H' X F hle; have hL := Le.trans hL hle; have hp2 := hAt.mono hle hp2; intro hF; refine Qp rfl (hp2.2.2.2.1) rfl ?_
           exact Qd hF) ?_
          refine Qa (some 95) [(22, 0)] (by
           intro H' X F hle; have hL := Le.trans hL hle; intro hF; refine Qn rfl rfl ?_
           exact Qd hF) ?_
          refine Qa (some 96) [] (fun _ _ _ _ hF => Qb rfl rfl (Qd hF)) ?_; refine Qa (some 97) [(23, 1), (24, 0)] (fun _ _ _ _ hF => Zu rfl rfl rfl ⟨by omega, by omega⟩ (Qd hF)) ?_
          refine Qa (some 98) [(17, 8), (18, 7), (25, 0)] (by
           intro H' X F hle; have hL := Le.trans hL hle; intro hF; refine Z3 (fro x.kids y.kids) (y.kids.length - bak (fro x.kids y.kids) x.kids y.kids) rfl ⟨_, _, rfl, rfl⟩ ⟨_, _, rfl, rfl⟩ rfl (by show (_ : Int) - _ = _; omega) (by omega) (by omega) rfl ?_
           exact Qd hF) ?_
          refine ⟨by kernel_rfl, .refl _, ?_⟩
          ·
           intro H14 hle; have hL := Le.trans hL hle; have hgd := hAt.mono hle hgd; have hs1 := szS.mono hle hs1; have hs2 := szS.mono hle hs2; refine Qw (own' := _ :: _ :: own) rfl ?_; refine Zi (env' := [(0, _), (1, _), (2, _), (6, _), (7, _), (8, _), (9, _), (72, _), (85, _), (98, _)]) ⟨rfl, rfl, rfl, rfl, rfl, rfl, rfl, rfl, rfl, rfl, trivial⟩ ?_
           refine TL.sel 2 [1, 0] rfl (fun o ho => ?_)
           simp only [K.sel, nrm] at ho; subst ho
           refine Qs (table_n (Kz := x.size - 1) (ih.le (by omega)) (a := midA x.kids y.kids) (b := midB x.kids y.kids) (fun c hc => ⟨hsl c (mem_mid hc), by have := kid_size (mem_mid hc); omega⟩) (fun c hc => hsr c (mem_mid hc)) hmid hgd hM hG (hs1.cut (by omega) (by omega)) (hs2.cut (by omega) (by omega))) ⟨rfl, rfl, rfl, trivial⟩ rfl ?_
           rintro _ _ H7 ⟨D2, m2, oc2, hM2, hD2, hG2, ⟨g99, rfl, htab⟩, rfl, hle7⟩
           obtain ⟨gi0, hci, hcj⟩ := htab 0 (by omega)
           replace hcj := hcj 0 (by omega)
           rw [List.drop_zero, List.drop_zero, ← hde] at hcj
           have hL := Le.trans hL hle7; have hgd := hAt.mono hle7 hgd
           have hc2 : (x, y) ∉ D2 := fun hh => by
             rcases hD2 _ hh with h | h
             · exact hc h
             · simp only at h; have := x.size_pos; omega
           have hdl := dist_le x y; refine Qe rfl rfl (Q3 (Qb rfl rfl ?_)); refine Qo (0) rfl rfl rfl (by omega) rfl ?_; refine Qp rfl (hci) rfl ?_; refine Qo (0) rfl rfl rfl (by omega) rfl ?_; refine Qp rfl (hcj) rfl (Qe rfl rfl (Qi (Qc ?_))); refine Q4 6  [(0, _), (1, _), (2, _), (6, _), (7, _), (8, _), (9, _), (12, _)] follows_mixed ⟨rfl, rfl, rfl, rfl, rfl, rfl, rfl, rfl, trivial⟩ ?_; refine Qa (some 105) [] (fun _ _ _ _ hF => Qb rfl rfl (Qd hF)) ?_; refine Qa (some 106) [(0, 0)] (fun _ _ _ _ hF => Qt rfl rfl (Qd hF)) ?_; refine Qa (some 107) [(1, 0)] (fun _ _ _ _ hF => Qg rfl rfl (Qd hF)) ?_
           refine Qa (some 108) [(2, 0)] (by
            intro H' X F hle; have hL := Le.trans hL hle; have hgd := hAt.mono hle hgd; intro hF; refine Qp rfl (hgd.2.1) rfl ?_
            exact Qd hF) ?_
           refine Qa (some 109) [] (by
            intro H' X F hle; have hL := Le.trans hL hle; intro hF; refine Qm 1 0 [_, _] rfl rfl rfl ⟨rfl, rfl, trivial⟩ rfl rfl ?_
            exact Qd hF) ?_
           refine Qa (some 110) [] (fun _ _ _ _ hF => Qb rfl rfl (Qd hF)) ?_
           refine ⟨by kernel_rfl, .refl _, ?_⟩
           ·
            intro H15 hle; have hL := Le.trans hL hle; refine Qw (own' := _ :: _ :: own) rfl ?_; refine Zi (env' := [(0, _), (1, _), (2, _), (6, _), (7, _), (8, _), (9, _), (12, _), (108, _), (109, _), (110, _)]) ⟨rfl, rfl, rfl, rfl, rfl, rfl, rfl, rfl, rfl, rfl, rfl, trivial⟩ ?_; refine TL.mapSetG (key := pairV S x y) 0 0 (putF m2 (pairV S x y) (.int .i64 (dist x y : Int))) rfl rfl rfl rfl rfl K137 hG2 (Nat.lt_of_le_of_lt (hM2.len hS) (by decide)) hkk (plain3 ⟨by omega, by omega⟩) (hM2.none x hx y hy hc2) (putF_same _ _ _) (fun s hs => putF_other _ _ _ _ hs) rfl ?_; intro oc3 hG3; refine Qw (own' := [(gc, oc3)] :: _ :: own) rfl (Q3 (Qb rfl rfl (Qe rfl rfl (Qi (Qc ?_))))); refine Qy ?_
            refine Zj 2 [0] rfl (fun o ho => ?_)
            simp only [K.sel, nrm] at ho; subst ho
            refine Q5 0 rfl rfl ?_
            exact ⟨rfl, (x, y) :: D2, _, oc3, hM2.put hx hy hc2, fun p hp => by
              rcases List.mem_cons.1 hp with rfl | hp
              · exact .inr (Nat.le_refl _)
              · rcases hD2 p hp with h | h
                · exact .inl h
                · exact .inr (by omega), hG3, rfl, hL⟩

end Go.Proofs.YtaomdfcplamenaaGreatDoor.K

namespace Go.Proofs.YtaomdfcplamenaaGreatDoor.K
open Go Go.RowKit Go.Proofs

structure Ed where
  op : Int
  path : Path
  tree : Tr
def Ed.d (e : Ed) : List D := [.c (.int .i64 e.op), pD e.path] ++ e.tree.d
def edD (l : List Ed) : List D := l.flatMap Ed.d
/-- The cells of a list of edits; the paths' rows are ours. -/
def ownE (H : Hp) : List Ed → List Value → Seg → Prop
  | [], xs, s => xs = [] ∧ s = []
  | e :: r, xs, s => ∃ vp t0 t1 ys sp s2, xs = .int .i64 e.op :: vp :: t0 :: t1 :: ys ∧ s.Perm (sp ++ s2) ∧ Row 3 1 vp e.path.length (pV e.path) sp ∧ RdL H e.tree.d [t0, t1] ∧ ownE H r ys s2
theorem ownE.mono {H H' : Hp} (hl : Le H H') : ∀ {es : List Ed} {xs : List Value} {s : Seg}, ownE H es xs s → ownE H' es xs s
  | [], _, _, h => h
  | e :: r, _, _, ⟨vp, t0, t1, ys, sp, s2, h1, h2, h3, h4, h5⟩ => ⟨vp, t0, t1, ys, sp, s2, h1, h2, h3, h4.mono hl, h5.mono hl⟩
theorem ownE.snoc {H : Hp} {e : Ed} {vp t0 t1 : Value} {sp : Seg} (h3 : Row 3 1 vp e.path.length (pV e.path) sp) (h4 : RdL H e.tree.d [t0, t1]) : ∀ {es : List Ed} {xs : List Value} {s : Seg}, ownE H es xs s → ownE H (es ++ [e]) (xs ++ [.int .i64 e.op, vp, t0, t1]) (s ++ sp)
  | [], _, _, ⟨h1, h2⟩ => ⟨vp, t0, t1, [], sp, [], by rw [h1]; rfl, by rw [h2]; simp, h3, h4, rfl, rfl⟩
  | e' :: r, _, _, ⟨vp', t0', t1', ys, sp', s2, h1, h2, h3', h4', h5⟩ => ⟨vp', t0', t1', _, sp', _, by rw [h1]; rfl, by rw [← List.append_assoc]; exact h2.append_right _, h3', h4', ownE.snoc h3 h4 h5⟩
theorem ownE.rd {H : Hp} : ∀ {es : List Ed} {xs : List Value} {s : Seg}, ownE H es xs s → (∀ p ∈ s, H p.1 = some p.2) → RdL H (edD es) xs
  | [], _, _, ⟨h1, _⟩, _ => by rw [h1]; trivial
  | e :: r, _, _, ⟨vp, t0, t1, ys, sp, s2, h1, h2, h3, h4, h5⟩, hz => by
    rw [h1]
    have hp : K.rd H (pD e.path) vp := by
      have := K.rd.ofRow h3 (fun p hp => hz p (h2.mem_iff.2 (List.mem_append_left _ hp))) (RdL.vals _) (Le.refl _)
      simpa [pD, pV] using this
    have hr := ownE.rd h5 (fun p hp => hz p (h2.mem_iff.2 (List.mem_append_right _ hp)))
    have he : RdL H e.d [.int .i64 e.op, vp, t0, t1] := ⟨by simp [K.rd], hp, h4⟩
    exact he.append hr
def EdLog (H : Hp) (u : Value) (es : List Ed) (seg : Seg) : Prop := ∃ xs rs ps, Row 46 4 u es.length xs rs ∧ seg.Perm (rs ++ ps) ∧ ownE H es xs ps
theorem EdLog.mono {H H' : Hp} (hl : Le H H') {u : Value} {es : List Ed} {seg : Seg} : EdLog H u es seg → EdLog H' u es seg := fun ⟨xs, rs, ps, h1, h2, h3⟩ => ⟨xs, rs, ps, h1, h2, h3.mono hl⟩
theorem EdLog.nil (H : Hp) : EdLog H (.slice none 0 0) [] [] := ⟨[], [], [], Row.nil 46 4, by simp, rfl, rfl⟩
theorem EdLog.put {H : Hp} {es : List Ed} {e : Ed} {v vp t0 t1 : Value} {xs : List Value} {rs ps sp : Seg} (h1 : Row 46 4 v (es.length + 1) (xs ++ [.int .i64 e.op, vp, t0, t1]) rs) (h2 : ownE H es xs ps) (h3 : Row 3 1 vp e.path.length (pV e.path) sp) (h4 : RdL H e.tree.d [t0, t1]) :
    EdLog H v (es ++ [e]) (rs ++ (ps ++ sp)) := ⟨_, rs, ps ++ sp, by simpa using h1, .refl _, h2.snoc h3 h4⟩
theorem EdLog.rd {H H' : Hp} {u : Value} {es : List Ed} {seg : Seg} (h : EdLog H u es seg) (hz : ∀ p ∈ seg, H' p.1 = some p.2) (hl : Le H H') : rd H' (.s 4 (edD es)) u := by
  obtain ⟨xs, rs, ps, h1, h2, h3⟩ := h
  exact rd.ofRow h1 (fun p hp => hz p (h2.mem_iff.2 (List.mem_append_left _ hp))) ((h3.mono hl).rd (fun p hp => hz p (h2.mem_iff.2 (List.mem_append_right _ hp)))) (Le.refl _)
theorem split2 {A B Q : Seg} {own : List Seg} (h : Q.Perm (A ++ B)) : (A :: B :: own).flatten.Perm (Q :: own).flatten := by
  simp only [List.flatten_cons, ← List.append_assoc]
  exact h.symm.append_right _
theorem join4 {G A B C : Seg} {own : List Seg} : (G :: (A ++ (B ++ C)) :: own).flatten.Perm (G :: A :: B :: C :: own).flatten := by
  simp only [List.flatten_cons, List.append_assoc]; exact .refl _
theorem row_path {p : Path} {q : Nat} {v : Value} {n : Nat} {seg : Seg} (h : Row 3 1 v n (pV p ++ [.int .i64 (q : Int)]) seg) (hn : n = (p ++ [q]).length) : Row 3 1 v (p ++ [q]).length (pV (p ++ [q])) seg := by
  subst hn; simpa [pV] using h
theorem zero_rd (H : Hp) : RdL H Tr.zero.d [.string ⟨#[]⟩, .slice none 0 0] := ⟨by simp [rd], rd.nil _ _, trivial⟩
/-- The edits between two lists of kids; e: those between two kids. -/
def wk (e : Tr → Tr → Path → List Ed) (p : Path) : List Tr → List Tr → Nat → List Ed
  | [], [], _ => []
  | _ :: a, [], q => ⟨2, p ++ [q], Tr.zero⟩ :: wk e p a [] q
  | [], y :: b, q => ⟨1, p ++ [q], y⟩ :: wk e p [] b (q + 1)
  | x :: a, y :: b, q =>
    if alD dist (x :: a) (y :: b) = alD dist a b + dist x y then e x y (p ++ [q]) ++ wk e p a b (q + 1)
    else if alD dist (x :: a) (y :: b) = alD dist a (y :: b) + x.size then ⟨2, p ++ [q], Tr.zero⟩ :: wk e p a (y :: b) q
    else ⟨1, p ++ [q], y⟩ :: wk e p (x :: a) b (q + 1)
termination_by a b => a.length + b.length
theorem wk_nn (e : Tr → Tr → Path → List Ed) (p : Path) (q : Nat) : wk e p [] [] q = [] := by rw [wk]
theorem wk_cn (e : Tr → Tr → Path → List Ed) (p : Path) (x : Tr) (a : List Tr) (q : Nat) : wk e p (x :: a) [] q = ⟨2, p ++ [q], Tr.zero⟩ :: wk e p a [] q := by rw [wk]
theorem wk_nc (e : Tr → Tr → Path → List Ed) (p : Path) (y : Tr) (b : List Tr) (q : Nat) : wk e p [] (y :: b) q = ⟨1, p ++ [q], y⟩ :: wk e p [] b (q + 1) := by rw [wk]
theorem wk_cc (e : Tr → Tr → Path → List Ed) (p : Path) (x y : Tr) (a b : List Tr) (q : Nat) : wk e p (x :: a) (y :: b) q =
    if alD dist (x :: a) (y :: b) = alD dist a b + dist x y then e x y (p ++ [q]) ++ wk e p a b (q + 1)
    else if alD dist (x :: a) (y :: b) = alD dist a (y :: b) + x.size then ⟨2, p ++ [q], Tr.zero⟩ :: wk e p a (y :: b) q
    else ⟨1, p ++ [q], y⟩ :: wk e p (x :: a) b (q + 1) := by rw [wk]
theorem wk_congr {e e' : Tr → Tr → Path → List Ed} {p : Path} : ∀ (a b : List Tr) (q : Nat), (∀ x ∈ a, ∀ y ∈ b, ∀ p, e x y p = e' x y p) → wk e p a b q = wk e' p a b q
  | [], [], q, _ => by rw [wk_nn, wk_nn]
  | x :: a, [], q, _ => by rw [wk_cn, wk_cn, wk_congr a [] q (by simp)]
  | [], y :: b, q, _ => by rw [wk_nc, wk_nc, wk_congr [] b (q + 1) (by simp)]
  | x :: a, y :: b, q, h => by
    rw [wk_cc, wk_cc, h x (by simp) y (by simp), wk_congr a b (q + 1) (fun u hu v hv => h u (by simp [hu]) v (by simp [hv])), wk_congr a (y :: b) q (fun u hu v hv => h u (by simp [hu]) v hv), wk_congr (x :: a) b (q + 1) (fun u hu v hv => h u hu v (by simp [hv]))]
termination_by a b => a.length + b.length
theorem wk_len {e : Tr → Tr → Path → List Ed} {p : Path} : ∀ (a b : List Tr) (q : Nat), (∀ x ∈ a, ∀ y ∈ b, ∀ p, (e x y p).length ≤ x.size + y.size) → (wk e p a b q).length ≤ Tr.sizes a + Tr.sizes b
  | [], [], q, _ => by rw [wk_nn]; simp
  | x :: a, [], q, _ => by
    have := wk_len (e := e) (p := p) a [] q (by simp)
    have := x.size_pos
    rw [wk_cn]; simp only [List.length_cons, Tr.sizes] at *; omega
  | [], y :: b, q, _ => by
    have := wk_len (e := e) (p := p) [] b (q + 1) (by simp)
    have := y.size_pos
    rw [wk_nc]; simp only [List.length_cons, Tr.sizes] at *; omega
  | x :: a, y :: b, q, h => by
    have h0 := h x (by simp) y (by simp) (p ++ [q])
    have h1 := wk_len (e := e) (p := p) a b (q + 1) (fun u hu v hv => h u (by simp [hu]) v (by simp [hv]))
    have h2 := wk_len (e := e) (p := p) a (y :: b) q (fun u hu v hv => h u (by simp [hu]) v hv)
    have h3 := wk_len (e := e) (p := p) (x :: a) b (q + 1) (fun u hu v hv => h u hu v (by simp [hv]))
    have := x.size_pos
    have := y.size_pos
    rw [wk_cc]
    split
    · simp only [List.length_append, Tr.sizes] at *; omega
    · split
      · simp only [List.length_cons, Tr.sizes] at *; omega
      · simp only [List.length_cons, Tr.sizes] at *; omega
termination_by a b => a.length + b.length
def edK : Nat → Tr → Tr → Path → List Ed
  | 0, _, _, _ => []
  | k + 1, x, y, p => if x = y then [] else if x.lab ≠ y.lab then [⟨3, p, y⟩] else wk (edK k) p (midA x.kids y.kids) (midB x.kids y.kids) (fro x.kids y.kids)
theorem edK_eq : ∀ (k k' : Nat) (x y : Tr) (p : Path), x.size ≤ k → x.size ≤ k' → edK k x y p = edK k' x y p
  | 0, _, x, _, _, h, _ => by have := x.size_pos; omega
  | _ + 1, 0, x, _, _, _, h => by have := x.size_pos; omega
  | k + 1, k' + 1, x, y, p, h1, h2 => by
    simp only [edK]
    rw [wk_congr (e := edK k) (e' := edK k')]
    intro c hc d _ p
    have := kid_size (mem_mid hc)
    exact edK_eq k k' c d p (by omega) (by omega)
/-- The edits from x to y, where x stands at p. -/
def edT (x y : Tr) (p : Path) : List Ed := edK x.size x y p
theorem edT_eq (x y : Tr) (p : Path) : edT x y p = if x = y then [] else if x.lab ≠ y.lab then [⟨3, p, y⟩] else wk edT p (midA x.kids y.kids) (midB x.kids y.kids) (fro x.kids y.kids) := by
  obtain ⟨k, hk⟩ : ∃ k, x.size = k + 1 := ⟨x.size - 1, by have := x.size_pos; omega⟩
  have e1 : wk (edK k) p (midA x.kids y.kids) (midB x.kids y.kids) (fro x.kids y.kids) = wk edT p (midA x.kids y.kids) (midB x.kids y.kids) (fro x.kids y.kids) := by
    refine wk_congr _ _ _ ?_
    intro c hc d _ p
    have := kid_size (mem_mid hc)
    exact edK_eq _ _ c d p (by omega) (by omega)
  show edK x.size x y p = _
  rw [← e1]
  rw [show edK x.size x y p = edK (k + 1) x y p by rw [hk]]
  simp only [edK]
theorem edT_len (n : Nat) : ∀ (x y : Tr) (p : Path), x.size ≤ n → (edT x y p).length ≤ x.size + y.size := by
  induction n with
  | zero => intro x y p h; have := x.size_pos; omega
  | succ n ih =>
    intro x y p h
    rw [edT_eq]
    split
    · simp
    · split
      · have := x.size_pos; simp; omega
      · have h1 := wk_len (e := edT) (p := p) (midA x.kids y.kids) (midB x.kids y.kids) (fro x.kids y.kids) (fun c hc d _ p => ih c d p (by have := kid_size (mem_mid hc); omega))
        have h2 := sizes_mid x.kids (fro x.kids y.kids) (x.kids.length - bak (fro x.kids y.kids) x.kids y.kids - fro x.kids y.kids)
        have h3 := sizes_mid y.kids (fro x.kids y.kids) (y.kids.length - bak (fro x.kids y.kids) x.kids y.kids - fro x.kids y.kids)
        have h4 := size_kids x
        have h5 := size_kids y
        unfold midA midB at *
        omega
end Go.Proofs.YtaomdfcplamenaaGreatDoor.K

namespace Go.Proofs.YtaomdfcplamenaaGreatDoor.K
open Go Go.RowKit Go.Proofs

section
variable {e : Tr → Tr → Path → List Ed} {p : Path} {a b : List Tr} {i j q : Nat} {c d : Tr}
theorem wk_mt (hx : a[i]? = some c) (hy : b[j]? = some d) (h : alD dist (a.drop i) (b.drop j) = alD dist (a.drop (i + 1)) (b.drop (j + 1)) + dist c d) :
    wk e p (a.drop i) (b.drop j) q = e c d (p ++ [q]) ++ wk e p (a.drop (i + 1)) (b.drop (j + 1)) (q + 1) := by
  rw [drop_cons hx, drop_cons hy] at h ⊢
  rw [wk_cc, if_pos h]
theorem wk_ds (hx : a[i]? = some c) (hy : b[j]? = some d) (h : ¬ alD dist (a.drop i) (b.drop j) = alD dist (a.drop (i + 1)) (b.drop (j + 1)) + dist c d) (h2 : alD dist (a.drop i) (b.drop j) = alD dist (a.drop (i + 1)) (b.drop j) + c.size) :
    wk e p (a.drop i) (b.drop j) q = ⟨2, p ++ [q], Tr.zero⟩ :: wk e p (a.drop (i + 1)) (b.drop j) q := by
  rw [drop_cons hx, drop_cons hy] at h h2 ⊢
  rw [wk_cc, if_neg h, if_pos h2]
theorem wk_is (hx : a[i]? = some c) (hy : b[j]? = some d) (h : ¬ alD dist (a.drop i) (b.drop j) = alD dist (a.drop (i + 1)) (b.drop (j + 1)) + dist c d) (h2 : ¬ alD dist (a.drop i) (b.drop j) = alD dist (a.drop (i + 1)) (b.drop j) + c.size) :
    wk e p (a.drop i) (b.drop j) q = ⟨1, p ++ [q], d⟩ :: wk e p (a.drop i) (b.drop (j + 1)) (q + 1) := by
  rw [drop_cons hx, drop_cons hy] at h h2 ⊢
  rw [wk_cc, if_neg h, if_neg h2]
theorem wk_d (hx : a[i]? = some c) (hj : j = b.length) : wk e p (a.drop i) (b.drop j) q = ⟨2, p ++ [q], Tr.zero⟩ :: wk e p (a.drop (i + 1)) (b.drop j) q := by
  rw [drop_cons hx, hj, List.drop_length, wk_cn]
theorem wk_i (hi : i = a.length) (hy : b[j]? = some d) : wk e p (a.drop i) (b.drop j) q = ⟨1, p ++ [q], d⟩ :: wk e p (a.drop i) (b.drop (j + 1)) (q + 1) := by
  rw [drop_cons hy, hi, List.drop_length, wk_nc]
theorem wk_end (hi : i = a.length) (hj : j = b.length) : wk e p (a.drop i) (b.drop j) q = [] := by
  rw [hi, hj, List.drop_length, List.drop_length, wk_nn]
theorem alD_d (hx : a[i]? = some c) (hj : j = b.length) : alD dist (a.drop i) (b.drop j) = alD dist (a.drop (i + 1)) (b.drop j) + c.size := by
  rw [drop_cons hx, hj, List.drop_length, alD_nil2, alD_nil2]; simp only [Tr.sizes]; omega
end
theorem TabAt.sl {H : Hp} {a b : List Tr} {v : Value} (h : TabAt H a b v) : ∃ g, v = .slice (some ⟨g, 0, none⟩) (a.length + 1) (a.length + 1) := by
  obtain ⟨g, h, _⟩ := h; exact ⟨g, h⟩
theorem TabAt.row {H : Hp} {a b : List Tr} {g n c : Nat} (h : TabAt H a b (.slice (some ⟨g, 0, none⟩) n c)) {i : Nat} (hi : i ≤ a.length) : ∃ gi, cel H g (0 + i * 1) = some (.slice (some ⟨gi, 0, none⟩) (b.length + 1) (b.length + 1)) ∧
    ∀ j, j ≤ b.length → cel H gi (0 + j * 1) = some (.int .i64 (alD dist (a.drop i) (b.drop j) : Int)) := by
  obtain ⟨g', h1, h2⟩ := h
  injection h1 with h1
  injection h1 with h1
  injection h1 with h1
  subst h1
  exact h2 i hi
theorem Tr.ones_d (t : Tr) : ∀ d ∈ t.d, D.One d := by
  obtain ⟨l, ks⟩ := t
  intro d hd
  simp only [Tr.d, List.mem_cons, List.not_mem_nil, or_false] at hd
  rcases hd with rfl | rfl
  · rfl
  · trivial
theorem Ed.d_len (e : Ed) : e.d.length = 4 := by simp [Ed.d, Tr.d_len]
theorem path_rd {H' : Hp} {p : Path} {q : Nat} {v : Value} {n : Nat} {seg : Seg} (h : Row 3 1 v n (pV p ++ [.int .i64 (q : Int)]) seg) (hz : ∀ s ∈ seg, H' s.1 = some s.2) : rd H' (pD (p ++ [q])) v := by
  have := rd.ofRow h hz (RdL.vals _) (Le.refl _)
  simpa [pD, pV] using this
theorem Fn.froze {P : Program} {f : FuncId} {args : List Value} {w0 : World} {H : Hp} {own : List Seg} {R : Value → Seg → Hp → Prop} {S : Value → Hp → Prop}
    (h : Fn P f args w0 H own (fun v o H' => ∃ seg, R v seg H' ∧ o = seg :: own ∧ Le H H')) (hR : ∀ v seg H' H'', R v seg H' → Le H' H'' → (∀ p ∈ seg, H'' p.1 = some p.2) → S v H'') :
    Fn P f args w0 H own (fun v o H' => S v H' ∧ o = own ∧ Le H H') := fun w hw => by
  refine (h w hw).mono ?_
  rintro e w' ⟨v, o, H', rfl, ⟨seg, h1, rfl, h2⟩, h3⟩
  obtain ⟨k1, k2, k3⟩ := h3.freeze
  exact ⟨v, own, _, rfl, ⟨hR v seg H' _ h1 k2 k3, rfl, h2.trans k2⟩, k1⟩
end Go.Proofs.YtaomdfcplamenaaGreatDoor.K
