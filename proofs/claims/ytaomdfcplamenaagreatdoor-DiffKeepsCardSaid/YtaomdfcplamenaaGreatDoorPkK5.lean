/-
  Part 5 of 6 of the proof that DiffKeeps returns true for every three lists of numbers, and leaves its arguments as they were.. No condition beyond the given statement.
-/
import Derived.DeepKeys4
import Derived.Test.YtaomdfcplamenaaGreatDoorPkK4
set_option linter.unusedVariables false
set_option linter.unusedSimpArgs false
set_option linter.defProp false
set_option maxHeartbeats 4000000
namespace Go.Proofs.YtaomdfcplamenaaGreatDoor.K
open Go Go.RowKit Go.Proofs

/-- The elements of a slice, as cells. -/
theorem elems_at {α : Type} {dx : α → List D} {sz : Nat} (hsz : 0 < sz) (hd : ∀ x, (dx x).length = sz) {H : Hp} {l : List α} {A : Option Addr} {n c : Nat} (h : rd H (.s sz (l.flatMap dx)) (.slice A n c)) {i : Nat} {x : α} (hi : l[i]? = some x) :
    ∃ b o cells, A = some ⟨b, o, none⟩ ∧ hAt H b (o + i * sz) cells ∧ RdL H (dx x) cells ∧ cells.length = sz := by
  have hfl : ∀ l : List α, (l.flatMap dx).length = l.length * sz := by
    intro l
    induction l with
    | nil => simp
    | cons a r ih => simp only [List.flatMap_cons, List.length_append, hd, ih, List.length_cons, Nat.add_mul]; omega
  have hlt : i < l.length := (List.getElem?_eq_some_iff.1 hi).1
  have hn : n = l.length := by
    obtain ⟨A', n', c', e, h1, _⟩ := h.s_len
    injection e with e1 e2 e3
    subst e2
    rw [hfl] at h1
    exact (Nat.eq_of_mul_eq_mul_right hsz h1).symm
  obtain ⟨_, b, o, rfl, hr⟩ := h.s_at (by omega)
  obtain ⟨l1, l2, rfl, rfl⟩ := split_at hi
  have hr' : rds H b (o + l1.length * sz) (dx x) := by
    refine rds.mk fun j y hy => ?_
    have hj : j < (dx x).length := (List.getElem?_eq_some_iff.1 hy).1
    have := hr.get (l1.length * sz + j) y (by
      rw [List.flatMap_append, List.getElem?_append_right (by rw [hfl]; omega), hfl, List.flatMap_cons, List.getElem?_append_left (by omega)]
      rw [← hy]; congr 1; omega)
    obtain ⟨u, h1, h2⟩ := this
    exact ⟨u, by rw [← h1]; congr 1; omega, h2⟩
  obtain ⟨vs, h1, h2⟩ := hr'.cells
  exact ⟨b, o, vs, rfl, h1, h2, by rw [← h2.len, hd]⟩
theorem elems_len {α : Type} {dx : α → List D} {sz : Nat} (hsz : 0 < sz) (hd : ∀ x, (dx x).length = sz) {H : Hp} {l : List α} {v : Value} (h : rd H (.s sz (l.flatMap dx)) v) : ∃ A c, v = .slice A l.length c ∧ l.length ≤ c ∧ c ≤ 9223372036854775807 := by
  have hfl : ∀ l : List α, (l.flatMap dx).length = l.length * sz := by
    intro l
    induction l with
    | nil => simp
    | cons a r ih => simp only [List.flatMap_cons, List.length_append, hd, ih, List.length_cons, Nat.add_mul]; omega
  obtain ⟨A, n, c, rfl, h1, h2, h3⟩ := h.s_len
  rw [hfl] at h1
  have : n = l.length := (Nat.eq_of_mul_eq_mul_right hsz h1).symm
  subst this
  exact ⟨A, c, rfl, h2, h3⟩
/-- Where the first lies that satisfies p. -/
def idxI {α : Type} (p : α → Bool) : List α → Nat → Int
  | [], _ => -1
  | x :: r, k => if p x then (k : Int) else idxI p r (k + 1)
theorem idxI_any {α : Type} (p : α → Bool) : ∀ (l : List α) (k : Nat), decide (0 ≤ idxI p l k) = l.any p
  | [], _ => rfl
  | x :: r, k => by
    have ih := idxI_any p r (k + 1)
    rcases Bool.eq_false_or_eq_true (p x) with h | h
    · simp [idxI, h]
    · simp only [idxI, h, List.any_cons, Bool.false_or, Bool.false_eq_true, if_false]
      exact ih
theorem list_1 {α : Type} {l : List α} (h : l.length = 1) : ∃ c0, l = [c0] := by
  match l, h with
  | [c0], _ => exact ⟨c0, rfl⟩
theorem list_3 {α : Type} {l : List α} (h : l.length = 3) : ∃ c0 c1 c2, l = [c0, c1, c2] := by
  match l, h with
  | [c0, c1, c2], _ => exact ⟨c0, c1, c2, rfl⟩
theorem list_4 {α : Type} {l : List α} (h : l.length = 4) : ∃ c0 c1 c2 c3, l = [c0, c1, c2, c3] := by
  match l, h with
  | [c0, c1, c2, c3], _ => exact ⟨c0, c1, c2, c3, rfl⟩
theorem list_5 {α : Type} {l : List α} (h : l.length = 5) : ∃ c0 c1 c2 c3 c4, l = [c0, c1, c2, c3, c4] := by
  match l, h with
  | [c0, c1, c2, c3, c4], _ => exact ⟨c0, c1, c2, c3, c4, rfl⟩
theorem list_8 {α : Type} {l : List α} (h : l.length = 8) : ∃ c0 c1 c2 c3 c4 c5 c6 c7, l = [c0, c1, c2, c3, c4, c5, c6, c7] := by
  match l, h with
  | [c0, c1, c2, c3, c4, c5, c6, c7], _ => exact ⟨c0, c1, c2, c3, c4, c5, c6, c7, rfl⟩
theorem list_10 {α : Type} {l : List α} (h : l.length = 10) : ∃ c0 c1 c2 c3 c4 c5 c6 c7 c8 c9, l = [c0, c1, c2, c3, c4, c5, c6, c7, c8, c9] := by
  match l, h with
  | [c0, c1, c2, c3, c4, c5, c6, c7, c8, c9], _ => exact ⟨c0, c1, c2, c3, c4, c5, c6, c7, c8, c9, rfl⟩
theorem list_11 {α : Type} {l : List α} (h : l.length = 11) : ∃ c0 c1 c2 c3 c4 c5 c6 c7 c8 c9 c10, l = [c0, c1, c2, c3, c4, c5, c6, c7, c8, c9, c10] := by
  match l, h with
  | [c0, c1, c2, c3, c4, c5, c6, c7, c8, c9, c10], _ => exact ⟨c0, c1, c2, c3, c4, c5, c6, c7, c8, c9, c10, rfl⟩
theorem index_TypeDef {α : Type} {dx : α → List D} (hd : ∀ x, (dx x).length = 3) {p : α → Bool} {l : List α} {w0 : World} {H : Hp} {own : List Seg} {fc : FuncId} [Callable Tryz.prog fc] {gc : Nat} {v : Value} (hA : rd H (.s 3 (l.flatMap dx)) v) (hcl : ∀ x ∈ l, ∀ (c0 c1 c2 : Value) (H1 : Hp) (own1 : List Seg), Le H H1 → RdL H1 (dx x) [c0, c1, c2] → Fn Tryz.prog fc [.agg #[c0, c1, c2], .pointer (some ⟨gc, 0, none⟩)] w0 H1 own1 (fun r o H' => r = .bool ((p) x) ∧ o = own1 ∧ Le H1 H')) :
    Fn Tryz.prog 88 [v, .func (.func fc) #[] #[.pointer (some ⟨gc, 0, none⟩)]] w0 H own (fun r o H' => r = .int .i64 (idxI p l 0) ∧ o = own ∧ Le H H') := by
  obtain ⟨A, c, rfl, hc1, hc2⟩ := elems_len (by omega) hd hA
  refine Fn.enter Tryz.func88 rfl Tryz.ntmps88 rfl ?_; have hL := Le.refl H; refine Qj ?_; refine Qh ?_; refine Qe rfl rfl ?_; refine Qi ?_; refine Qc ?_; refine Qj ?_; refine Qj ?_; refine Qh ?_; refine Qb rfl rfl ?_; refine Qn rfl rfl ?_; refine Qb rfl rfl ?_; refine Qi ?_; refine Qc ?_; refine Q6 ?_; refine Zv (fun n env' own' H' => ∃ k, n = l.length - k ∧ k ≤ l.length ∧ idxI p l 0 = idxI p (l.drop k) k ∧ env' = [(0, .slice A l.length c), (1, .func (.func fc) #[] #[.pointer (some ⟨gc, 0, none⟩)]), (7, .int .i64 (l.length : Int)), (8, .int .i64 (k : Int))] ∧ own' = own ∧ Le H H') l.length [(0, _), (1, _), (7, _), (8, _)] ⟨rfl, rfl, rfl, rfl, trivial⟩ ⟨0, by omega, by omega, rfl, rfl, rfl, Le.refl _⟩ ?_
  rintro n _ own H1 ⟨k, rfl, hk1, hix, rfl, rfl, hle0⟩
  have hL := Le.trans hL hle0; have hA := rd.mono hle0 hA; refine Qj ?_; refine Qh ?_
  refine Zz rfl rfl rfl (fun hlt => ?_) (fun hlt => ?_)
  ·
   obtain ⟨x, hx⟩ : ∃ x, l[k]? = some x := ⟨_, List.getElem?_eq_getElem (by omega)⟩
   obtain ⟨b1, o1, cs, rfl, hp, hpr, hcl1⟩ := elems_at (by omega) hd hA hx
   obtain ⟨c0, c1, c2, rfl⟩ := list_3 hcl1
   rw [drop_cons hx] at hix
   refine Qi ?_; refine Qc ?_; refine Qj ?_; refine Qv rfl ?_; refine Q2 ?_; refine Qc ?_; refine Qj ?_; refine Q6 ?_; refine Qj ?_; refine Qh ?_; refine Qb rfl rfl ?_; refine Qe rfl rfl ?_; refine Q3 ?_; refine Qb rfl rfl ?_; refine Qb rfl rfl ?_; refine Qb rfl rfl ?_; refine Qo (k) rfl rfl rfl (by omega) rfl ?_; refine Zd rfl (hp) rfl rfl ?_; refine Z6 (vs := [_]) rfl (hcl x (List.mem_of_getElem? hx) _ _ _ _ _ hL hpr) ⟨rfl, trivial⟩ rfl rfl ?_
   rintro _ own H2 ⟨rfl, rfl, hle2⟩
   have hL := Le.trans hL hle2; have hle0 := Le.trans hle0 hle2
   rcases hpx : p x with _ | _
   rotate_left
   ·
    refine Qi ?_; refine Qc ?_; refine Qv rfl ?_; refine Qj ?_; refine Qh ?_; refine Qb rfl rfl ?_; refine Qe rfl rfl ?_; refine Qi ?_; refine Qc ?_; refine Qy ?_; refine Z0 ?_; refine Q0 ?_; refine Q0 ?_; refine Z0 ?_; refine Q0 ?_; refine Q5 0 rfl rfl ?_
    first
      | exact ⟨by rw [hix]; simp only [idxI, hpx, if_true], rfl, hL⟩
      | exact ⟨by rw [hix, List.drop_of_length_le (by omega)]; rfl, rfl, hL⟩
   ·
    refine Qi ?_; refine Qc ?_; refine Qr rfl ?_; refine Q2 ?_; refine Ze ?_; refine Qc ?_; refine Qh ?_; refine Zb rfl rfl rfl ⟨by omega, by omega⟩ ?_; refine Qb rfl rfl ?_; refine Qi ?_; refine Zn (own' := own) rfl ?_
    refine Zf (l.length - (k + 1)) [(0, _), (1, _), (7, _), (8, _)] (by omega) ⟨rfl, rfl, rfl, rfl, trivial⟩ ⟨k + 1, rfl, by omega, ?_, by simp, rfl, hle0⟩
    rw [hix]
    simp only [idxI, hpx, Bool.false_eq_true, if_false]
  ·
   refine Qi ?_; refine Qc ?_; refine Qj ?_; refine Qr rfl ?_; refine Zo ?_; refine Q1 ?_; refine Q1 ?_; refine Zp ?_; refine Zm ?_; refine Qe rfl rfl ?_; refine Qi ?_; refine Qc ?_; refine Qy ?_; refine Q5 0 rfl rfl ?_
   first
     | exact ⟨by rw [hix]; simp only [idxI, hpx, if_true], rfl, hL⟩
     | exact ⟨by rw [hix, List.drop_of_length_le (by omega)]; rfl, rfl, hL⟩
theorem contains_TypeDef {α : Type} {dx : α → List D} (hd : ∀ x, (dx x).length = 3) {p : α → Bool} {l : List α} {w0 : World} {H : Hp} {own : List Seg} {fc : FuncId} [Callable Tryz.prog fc] {gc : Nat} {v : Value} (hA : rd H (.s 3 (l.flatMap dx)) v) (hcl : ∀ x ∈ l, ∀ (c0 c1 c2 : Value) (H1 : Hp) (own1 : List Seg), Le H H1 → RdL H1 (dx x) [c0, c1, c2] → Fn Tryz.prog fc [.agg #[c0, c1, c2], .pointer (some ⟨gc, 0, none⟩)] w0 H1 own1 (fun r o H' => r = .bool ((p) x) ∧ o = own1 ∧ Le H1 H')) :
    Fn Tryz.prog 71 [v, .func (.func fc) #[] #[.pointer (some ⟨gc, 0, none⟩)]] w0 H own (fun r o H' => r = .bool (l.any p) ∧ o = own ∧ Le H H') := by
  refine Fn.enter Tryz.func71 rfl Tryz.ntmps71 rfl ?_; have hL := Le.refl H; refine Qj ?_; refine Qh ?_; refine Qe rfl rfl ?_; refine Q3 ?_; refine Qb rfl rfl ?_; refine Qb rfl rfl ?_; refine Qs (index_TypeDef hd hA hcl) ⟨rfl, rfl, trivial⟩ rfl ?_
  rintro _ own H2 ⟨rfl, rfl, hle2⟩
  have hL := Le.trans hL hle2; refine TL.geq rfl rfl rfl ?_
  rw [idxI_any]
  refine Qe rfl rfl ?_; refine Qi ?_; refine Qc ?_; refine Qy ?_; refine Q5 0 rfl rfl ?_
  exact ⟨rfl, rfl, hL⟩
theorem notok_TypeDef {α : Type} {dx : α → List D} (hd : ∀ x, (dx x).length = 3) {p : α → Bool} {l : List α} {w0 : World} {H : Hp} {fok : FuncId} [Callable Tryz.prog fok] {gc : Nat} (hgc : cel H gc 0 = some (.func (.func fok) #[] #[])) (hok : ∀ x ∈ l, ∀ (c0 c1 c2 : Value) (H1 : Hp) (own1 : List Seg), Le H H1 → RdL H1 (dx x) [c0, c1, c2] → Fn Tryz.prog fok [.agg #[c0, c1, c2]] w0 H1 own1 (fun r o H' => r = .bool ((p) x) ∧ o = own1 ∧ Le H1 H')) :
    ∀ x ∈ l, ∀ (c0 c1 c2 : Value) (H1 : Hp) (own1 : List Seg), Le H H1 → RdL H1 (dx x) [c0, c1, c2] → Fn Tryz.prog 72 [.agg #[c0, c1, c2], .pointer (some ⟨gc, 0, none⟩)] w0 H1 own1 (fun r o H' => r = .bool ((fun x => !p x) x) ∧ o = own1 ∧ Le H1 H') := by
  intro x hx c0 c1 c2 H1 own1 hle hr; have hgc := cel_le hle hgc; refine Fn.enter Tryz.func72 rfl Tryz.ntmps72 rfl ?_; have hL := Le.refl H1; refine Qj ?_; refine Qh ?_
  refine Zx (c := #[_, _, _]) rfl rfl rfl ?_; intro g2; refine Qe rfl rfl ?_; refine Q3 ?_; refine Qp rfl (hgc) rfl ?_; refine Qm 0 0 [_, _, _] rfl rfl rfl ⟨rfl, rfl, rfl, trivial⟩ rfl rfl ?_; refine Z6 (vs := [_]) rfl (hok x hx _ _ _ _ _ (Le.trans hle hL) hr) ⟨rfl, trivial⟩ rfl rfl ?_
  rintro _ _ H2 ⟨rfl, rfl, hle2⟩
  have hL := Le.trans hL hle2; refine Z1 rfl rfl ?_; refine Qe rfl rfl ?_; refine Qi ?_; refine Qc ?_; refine Qy ?_; refine Q5 1 rfl rfl ?_
  exact ⟨rfl, rfl, hL⟩
theorem every_TypeDef {α : Type} {dx : α → List D} (hd : ∀ x, (dx x).length = 3) {p : α → Bool} {l : List α} {w0 : World} {H : Hp} {own : List Seg} {fok : FuncId} [Callable Tryz.prog fok] {v : Value} (hA : rd H (.s 3 (l.flatMap dx)) v) (hok : ∀ x ∈ l, ∀ (c0 c1 c2 : Value) (H1 : Hp) (own1 : List Seg), Le H H1 → RdL H1 (dx x) [c0, c1, c2] → Fn Tryz.prog fok [.agg #[c0, c1, c2]] w0 H1 own1 (fun r o H' => r = .bool ((p) x) ∧ o = own1 ∧ Le H1 H')) :
    Fn Tryz.prog 55 [v, .func (.func fok) #[] #[]] w0 H own (fun r o H' => r = .bool (l.all p) ∧ o = own ∧ Le H H') := by
  refine Fn.enter Tryz.func55 rfl Tryz.ntmps55 rfl ?_; have hL := Le.refl H; refine Qj ?_; refine Qh ?_
  refine Zx (c := #[_]) rfl rfl rfl ?_; intro g3; refine Qe rfl rfl ?_; refine Q3 ?_
  refine Zy (fun H1 hle hz_g3 => ?_)
  have hL := Le.trans hL hle; have hA := rd.mono hle hA
  have hgc : cel H1 g3 0 = some (.func (.func fok) #[] #[]) := by
    have h := hz_g3 _ (List.mem_singleton.2 rfl)
    simp [cel, h]
  refine Qb rfl rfl ?_; refine TL.makeFunc (vs := []) (us := [_]) trivial ⟨rfl, trivial⟩ rfl ?_; refine Qs (contains_TypeDef hd hA (notok_TypeDef hd hgc (fun x hx c0 c1 c2 H1 own1 hle hr => hok x hx c0 c1 c2 H1 own1 (Le.trans hL hle) hr))) ⟨rfl, rfl, trivial⟩ rfl ?_
  rintro _ own H2 ⟨rfl, rfl, hle2⟩
  have hL := Le.trans hL hle2; refine Z1 rfl rfl ?_; refine Qe rfl rfl ?_; refine Qi ?_; refine Qc ?_; refine Qy ?_; refine Q5 0 rfl rfl ?_
  exact ⟨by rw [← List.not_all_eq_any_not, Bool.not_not], rfl, hL⟩
theorem index_Global {α : Type} {dx : α → List D} (hd : ∀ x, (dx x).length = 8) {p : α → Bool} {l : List α} {w0 : World} {H : Hp} {own : List Seg} {fc : FuncId} [Callable Tryz.prog fc] {gc : Nat} {v : Value} (hA : rd H (.s 8 (l.flatMap dx)) v) (hcl : ∀ x ∈ l, ∀ (c0 c1 c2 c3 c4 c5 c6 c7 : Value) (H1 : Hp) (own1 : List Seg), Le H H1 → RdL H1 (dx x) [c0, c1, c2, c3, c4, c5, c6, c7] → Fn Tryz.prog fc [.agg #[c0, c1, c2, c3, c4, c5, c6, c7], .pointer (some ⟨gc, 0, none⟩)] w0 H1 own1 (fun r o H' => r = .bool ((p) x) ∧ o = own1 ∧ Le H1 H')) :
    Fn Tryz.prog 96 [v, .func (.func fc) #[] #[.pointer (some ⟨gc, 0, none⟩)]] w0 H own (fun r o H' => r = .int .i64 (idxI p l 0) ∧ o = own ∧ Le H H') := by
  obtain ⟨A, c, rfl, hc1, hc2⟩ := elems_len (by omega) hd hA
  refine Fn.enter Tryz.func96 rfl Tryz.ntmps96 rfl ?_; have hL := Le.refl H; refine Qj ?_; refine Qh ?_; refine Qe rfl rfl ?_; refine Qi ?_; refine Qc ?_; refine Qj ?_; refine Qj ?_; refine Qh ?_; refine Qb rfl rfl ?_; refine Qn rfl rfl ?_; refine Qb rfl rfl ?_; refine Qi ?_; refine Qc ?_; refine Q6 ?_; refine Zv (fun n env' own' H' => ∃ k, n = l.length - k ∧ k ≤ l.length ∧ idxI p l 0 = idxI p (l.drop k) k ∧ env' = [(0, .slice A l.length c), (1, .func (.func fc) #[] #[.pointer (some ⟨gc, 0, none⟩)]), (7, .int .i64 (l.length : Int)), (8, .int .i64 (k : Int))] ∧ own' = own ∧ Le H H') l.length [(0, _), (1, _), (7, _), (8, _)] ⟨rfl, rfl, rfl, rfl, trivial⟩ ⟨0, by omega, by omega, rfl, rfl, rfl, Le.refl _⟩ ?_
  rintro n _ own H1 ⟨k, rfl, hk1, hix, rfl, rfl, hle0⟩
  have hL := Le.trans hL hle0; have hA := rd.mono hle0 hA; refine Qj ?_; refine Qh ?_
  refine Zz rfl rfl rfl (fun hlt => ?_) (fun hlt => ?_)
  ·
   obtain ⟨x, hx⟩ : ∃ x, l[k]? = some x := ⟨_, List.getElem?_eq_getElem (by omega)⟩
   obtain ⟨b1, o1, cs, rfl, hp, hpr, hcl1⟩ := elems_at (by omega) hd hA hx
   obtain ⟨c0, c1, c2, c3, c4, c5, c6, c7, rfl⟩ := list_8 hcl1
   rw [drop_cons hx] at hix
   refine Qi ?_; refine Qc ?_; refine Qj ?_; refine Qv rfl ?_; refine Q2 ?_; refine Qc ?_; refine Qj ?_; refine Q6 ?_; refine Qj ?_; refine Qh ?_; refine Qb rfl rfl ?_; refine Qe rfl rfl ?_; refine Q3 ?_; refine Qb rfl rfl ?_; refine Qb rfl rfl ?_; refine Qb rfl rfl ?_; refine Qo (k) rfl rfl rfl (by omega) rfl ?_; refine Zd rfl (hp) rfl rfl ?_; refine Z6 (vs := [_]) rfl (hcl x (List.mem_of_getElem? hx) _ _ _ _ _ _ _ _ _ _ hL hpr) ⟨rfl, trivial⟩ rfl rfl ?_
   rintro _ own H2 ⟨rfl, rfl, hle2⟩
   have hL := Le.trans hL hle2; have hle0 := Le.trans hle0 hle2
   rcases hpx : p x with _ | _
   rotate_left
   ·
    refine Qi ?_; refine Qc ?_; refine Qv rfl ?_; refine Qj ?_; refine Qh ?_; refine Qb rfl rfl ?_; refine Qe rfl rfl ?_; refine Qi ?_; refine Qc ?_; refine Qy ?_; refine Z0 ?_; refine Q0 ?_; refine Q0 ?_; refine Z0 ?_; refine Q0 ?_; refine Q5 0 rfl rfl ?_
    first
      | exact ⟨by rw [hix]; simp only [idxI, hpx, if_true], rfl, hL⟩
      | exact ⟨by rw [hix, List.drop_of_length_le (by omega)]; rfl, rfl, hL⟩
   ·
    refine Qi ?_; refine Qc ?_; refine Qr rfl ?_; refine Q2 ?_; refine Ze ?_; refine Qc ?_; refine Qh ?_; refine Zb rfl rfl rfl ⟨by omega, by omega⟩ ?_; refine Qb rfl rfl ?_; refine Qi ?_; refine Zn (own' := own) rfl ?_
    refine Zf (l.length - (k + 1)) [(0, _), (1, _), (7, _), (8, _)] (by omega) ⟨rfl, rfl, rfl, rfl, trivial⟩ ⟨k + 1, rfl, by omega, ?_, by simp, rfl, hle0⟩
    rw [hix]
    simp only [idxI, hpx, Bool.false_eq_true, if_false]
  ·
   refine Qi ?_; refine Qc ?_; refine Qj ?_; refine Qr rfl ?_; refine Zo ?_; refine Q1 ?_; refine Q1 ?_; refine Zp ?_; refine Zm ?_; refine Qe rfl rfl ?_; refine Qi ?_; refine Qc ?_; refine Qy ?_; refine Q5 0 rfl rfl ?_
   first
     | exact ⟨by rw [hix]; simp only [idxI, hpx, if_true], rfl, hL⟩
     | exact ⟨by rw [hix, List.drop_of_length_le (by omega)]; rfl, rfl, hL⟩
theorem contains_Global {α : Type} {dx : α → List D} (hd : ∀ x, (dx x).length = 8) {p : α → Bool} {l : List α} {w0 : World} {H : Hp} {own : List Seg} {fc : FuncId} [Callable Tryz.prog fc] {gc : Nat} {v : Value} (hA : rd H (.s 8 (l.flatMap dx)) v) (hcl : ∀ x ∈ l, ∀ (c0 c1 c2 c3 c4 c5 c6 c7 : Value) (H1 : Hp) (own1 : List Seg), Le H H1 → RdL H1 (dx x) [c0, c1, c2, c3, c4, c5, c6, c7] → Fn Tryz.prog fc [.agg #[c0, c1, c2, c3, c4, c5, c6, c7], .pointer (some ⟨gc, 0, none⟩)] w0 H1 own1 (fun r o H' => r = .bool ((p) x) ∧ o = own1 ∧ Le H1 H')) :
    Fn Tryz.prog 76 [v, .func (.func fc) #[] #[.pointer (some ⟨gc, 0, none⟩)]] w0 H own (fun r o H' => r = .bool (l.any p) ∧ o = own ∧ Le H H') := by
  refine Fn.enter Tryz.func76 rfl Tryz.ntmps76 rfl ?_; have hL := Le.refl H; refine Qj ?_; refine Qh ?_; refine Qe rfl rfl ?_; refine Q3 ?_; refine Qb rfl rfl ?_; refine Qb rfl rfl ?_; refine Qs (index_Global hd hA hcl) ⟨rfl, rfl, trivial⟩ rfl ?_
  rintro _ own H2 ⟨rfl, rfl, hle2⟩
  have hL := Le.trans hL hle2; refine TL.geq rfl rfl rfl ?_
  rw [idxI_any]
  refine Qe rfl rfl ?_; refine Qi ?_; refine Qc ?_; refine Qy ?_; refine Q5 0 rfl rfl ?_
  exact ⟨rfl, rfl, hL⟩
theorem notok_Global {α : Type} {dx : α → List D} (hd : ∀ x, (dx x).length = 8) {p : α → Bool} {l : List α} {w0 : World} {H : Hp} {fok : FuncId} [Callable Tryz.prog fok] {gc : Nat} (hgc : cel H gc 0 = some (.func (.func fok) #[] #[])) (hok : ∀ x ∈ l, ∀ (c0 c1 c2 c3 c4 c5 c6 c7 : Value) (H1 : Hp) (own1 : List Seg), Le H H1 → RdL H1 (dx x) [c0, c1, c2, c3, c4, c5, c6, c7] → Fn Tryz.prog fok [.agg #[c0, c1, c2, c3, c4, c5, c6, c7]] w0 H1 own1 (fun r o H' => r = .bool ((p) x) ∧ o = own1 ∧ Le H1 H')) :
    ∀ x ∈ l, ∀ (c0 c1 c2 c3 c4 c5 c6 c7 : Value) (H1 : Hp) (own1 : List Seg), Le H H1 → RdL H1 (dx x) [c0, c1, c2, c3, c4, c5, c6, c7] → Fn Tryz.prog 77 [.agg #[c0, c1, c2, c3, c4, c5, c6, c7], .pointer (some ⟨gc, 0, none⟩)] w0 H1 own1 (fun r o H' => r = .bool ((fun x => !p x) x) ∧ o = own1 ∧ Le H1 H') := by
  intro x hx c0 c1 c2 c3 c4 c5 c6 c7 H1 own1 hle hr; have hgc := cel_le hle hgc; refine Fn.enter Tryz.func77 rfl Tryz.ntmps77 rfl ?_; have hL := Le.refl H1; refine Qj ?_; refine Qh ?_
  refine Zx (c := #[_, _, _, _, _, _, _, _]) rfl rfl rfl ?_; intro g2; refine Qe rfl rfl ?_; refine Q3 ?_; refine Qp rfl (hgc) rfl ?_; refine Qm 0 0 [_, _, _, _, _, _, _, _] rfl rfl rfl ⟨rfl, rfl, rfl, rfl, rfl, rfl, rfl, rfl, trivial⟩ rfl rfl ?_; refine Z6 (vs := [_]) rfl (hok x hx _ _ _ _ _ _ _ _ _ _ (Le.trans hle hL) hr) ⟨rfl, trivial⟩ rfl rfl ?_
  rintro _ _ H2 ⟨rfl, rfl, hle2⟩
  have hL := Le.trans hL hle2; refine Z1 rfl rfl ?_; refine Qe rfl rfl ?_; refine Qi ?_; refine Qc ?_; refine Qy ?_; refine Q5 1 rfl rfl ?_
  exact ⟨rfl, rfl, hL⟩
theorem every_Global {α : Type} {dx : α → List D} (hd : ∀ x, (dx x).length = 8) {p : α → Bool} {l : List α} {w0 : World} {H : Hp} {own : List Seg} {fok : FuncId} [Callable Tryz.prog fok] {v : Value} (hA : rd H (.s 8 (l.flatMap dx)) v) (hok : ∀ x ∈ l, ∀ (c0 c1 c2 c3 c4 c5 c6 c7 : Value) (H1 : Hp) (own1 : List Seg), Le H H1 → RdL H1 (dx x) [c0, c1, c2, c3, c4, c5, c6, c7] → Fn Tryz.prog fok [.agg #[c0, c1, c2, c3, c4, c5, c6, c7]] w0 H1 own1 (fun r o H' => r = .bool ((p) x) ∧ o = own1 ∧ Le H1 H')) :
    Fn Tryz.prog 57 [v, .func (.func fok) #[] #[]] w0 H own (fun r o H' => r = .bool (l.all p) ∧ o = own ∧ Le H H') := by
  refine Fn.enter Tryz.func57 rfl Tryz.ntmps57 rfl ?_; have hL := Le.refl H; refine Qj ?_; refine Qh ?_
  refine Zx (c := #[_]) rfl rfl rfl ?_; intro g3; refine Qe rfl rfl ?_; refine Q3 ?_
  refine Zy (fun H1 hle hz_g3 => ?_)
  have hL := Le.trans hL hle; have hA := rd.mono hle hA
  have hgc : cel H1 g3 0 = some (.func (.func fok) #[] #[]) := by
    have h := hz_g3 _ (List.mem_singleton.2 rfl)
    simp [cel, h]
  refine Qb rfl rfl ?_; refine TL.makeFunc (vs := []) (us := [_]) trivial ⟨rfl, trivial⟩ rfl ?_; refine Qs (contains_Global hd hA (notok_Global hd hgc (fun x hx c0 c1 c2 c3 c4 c5 c6 c7 H1 own1 hle hr => hok x hx c0 c1 c2 c3 c4 c5 c6 c7 H1 own1 (Le.trans hL hle) hr))) ⟨rfl, rfl, trivial⟩ rfl ?_
  rintro _ own H2 ⟨rfl, rfl, hle2⟩
  have hL := Le.trans hL hle2; refine Z1 rfl rfl ?_; refine Qe rfl rfl ?_; refine Qi ?_; refine Qc ?_; refine Qy ?_; refine Q5 0 rfl rfl ?_
  exact ⟨by rw [← List.not_all_eq_any_not, Bool.not_not], rfl, hL⟩
theorem index_Func {α : Type} {dx : α → List D} (hd : ∀ x, (dx x).length = 10) {p : α → Bool} {l : List α} {w0 : World} {H : Hp} {own : List Seg} {fc : FuncId} [Callable Tryz.prog fc] {gc : Nat} {v : Value} (hA : rd H (.s 10 (l.flatMap dx)) v) (hcl : ∀ x ∈ l, ∀ (c0 c1 c2 c3 c4 c5 c6 c7 c8 c9 : Value) (H1 : Hp) (own1 : List Seg), Le H H1 → RdL H1 (dx x) [c0, c1, c2, c3, c4, c5, c6, c7, c8, c9] → Fn Tryz.prog fc [.agg #[c0, c1, c2, c3, c4, c5, c6, c7, c8, c9], .pointer (some ⟨gc, 0, none⟩)] w0 H1 own1 (fun r o H' => r = .bool ((p) x) ∧ o = own1 ∧ Le H1 H')) :
    Fn Tryz.prog 98 [v, .func (.func fc) #[] #[.pointer (some ⟨gc, 0, none⟩)]] w0 H own (fun r o H' => r = .int .i64 (idxI p l 0) ∧ o = own ∧ Le H H') := by
  obtain ⟨A, c, rfl, hc1, hc2⟩ := elems_len (by omega) hd hA
  refine Fn.enter Tryz.func98 rfl Tryz.ntmps98 rfl ?_; have hL := Le.refl H; refine Qj ?_; refine Qh ?_; refine Qe rfl rfl ?_; refine Qi ?_; refine Qc ?_; refine Qj ?_; refine Qj ?_; refine Qh ?_; refine Qb rfl rfl ?_; refine Qn rfl rfl ?_; refine Qb rfl rfl ?_; refine Qi ?_; refine Qc ?_; refine Q6 ?_; refine Zv (fun n env' own' H' => ∃ k, n = l.length - k ∧ k ≤ l.length ∧ idxI p l 0 = idxI p (l.drop k) k ∧ env' = [(0, .slice A l.length c), (1, .func (.func fc) #[] #[.pointer (some ⟨gc, 0, none⟩)]), (7, .int .i64 (l.length : Int)), (8, .int .i64 (k : Int))] ∧ own' = own ∧ Le H H') l.length [(0, _), (1, _), (7, _), (8, _)] ⟨rfl, rfl, rfl, rfl, trivial⟩ ⟨0, by omega, by omega, rfl, rfl, rfl, Le.refl _⟩ ?_
  rintro n _ own H1 ⟨k, rfl, hk1, hix, rfl, rfl, hle0⟩
  have hL := Le.trans hL hle0; have hA := rd.mono hle0 hA; refine Qj ?_; refine Qh ?_
  refine Zz rfl rfl rfl (fun hlt => ?_) (fun hlt => ?_)
  ·
   obtain ⟨x, hx⟩ : ∃ x, l[k]? = some x := ⟨_, List.getElem?_eq_getElem (by omega)⟩
   obtain ⟨b1, o1, cs, rfl, hp, hpr, hcl1⟩ := elems_at (by omega) hd hA hx
   obtain ⟨c0, c1, c2, c3, c4, c5, c6, c7, c8, c9, rfl⟩ := list_10 hcl1
   rw [drop_cons hx] at hix
   refine Qi ?_; refine Qc ?_; refine Qj ?_; refine Qv rfl ?_; refine Q2 ?_; refine Qc ?_; refine Qj ?_; refine Q6 ?_; refine Qj ?_; refine Qh ?_; refine Qb rfl rfl ?_; refine Qe rfl rfl ?_; refine Q3 ?_; refine Qb rfl rfl ?_; refine Qb rfl rfl ?_; refine Qb rfl rfl ?_; refine Qo (k) rfl rfl rfl (by omega) rfl ?_; refine Zd rfl (hp) rfl rfl ?_; refine Z6 (vs := [_]) rfl (hcl x (List.mem_of_getElem? hx) _ _ _ _ _ _ _ _ _ _ _ _ hL hpr) ⟨rfl, trivial⟩ rfl rfl ?_
   rintro _ own H2 ⟨rfl, rfl, hle2⟩
   have hL := Le.trans hL hle2; have hle0 := Le.trans hle0 hle2
   rcases hpx : p x with _ | _
   rotate_left
   ·
    refine Qi ?_; refine Qc ?_; refine Qv rfl ?_; refine Qj ?_; refine Qh ?_; refine Qb rfl rfl ?_; refine Qe rfl rfl ?_; refine Qi ?_; refine Qc ?_; refine Qy ?_; refine Z0 ?_; refine Q0 ?_; refine Q0 ?_; refine Z0 ?_; refine Q0 ?_; refine Q5 0 rfl rfl ?_
    first
      | exact ⟨by rw [hix]; simp only [idxI, hpx, if_true], rfl, hL⟩
      | exact ⟨by rw [hix, List.drop_of_length_le (by omega)]; rfl, rfl, hL⟩
   ·
    refine Qi ?_; refine Qc ?_; refine Qr rfl ?_; refine Q2 ?_; refine Ze ?_; refine Qc ?_; refine Qh ?_; refine Zb rfl rfl rfl ⟨by omega, by omega⟩ ?_; refine Qb rfl rfl ?_; refine Qi ?_; refine Zn (own' := own) rfl ?_
    refine Zf (l.length - (k + 1)) [(0, _), (1, _), (7, _), (8, _)] (by omega) ⟨rfl, rfl, rfl, rfl, trivial⟩ ⟨k + 1, rfl, by omega, ?_, by simp, rfl, hle0⟩
    rw [hix]
    simp only [idxI, hpx, Bool.false_eq_true, if_false]
  ·
   refine Qi ?_; refine Qc ?_; refine Qj ?_; refine Qr rfl ?_; refine Zo ?_; refine Q1 ?_; refine Q1 ?_; refine Zp ?_; refine Zm ?_; refine Qe rfl rfl ?_; refine Qi ?_; refine Qc ?_; refine Qy ?_; refine Q5 0 rfl rfl ?_
   first
     | exact ⟨by rw [hix]; simp only [idxI, hpx, if_true], rfl, hL⟩
     | exact ⟨by rw [hix, List.drop_of_length_le (by omega)]; rfl, rfl, hL⟩
theorem contains_Func {α : Type} {dx : α → List D} (hd : ∀ x, (dx x).length = 10) {p : α → Bool} {l : List α} {w0 : World} {H : Hp} {own : List Seg} {fc : FuncId} [Callable Tryz.prog fc] {gc : Nat} {v : Value} (hA : rd H (.s 10 (l.flatMap dx)) v) (hcl : ∀ x ∈ l, ∀ (c0 c1 c2 c3 c4 c5 c6 c7 c8 c9 : Value) (H1 : Hp) (own1 : List Seg), Le H H1 → RdL H1 (dx x) [c0, c1, c2, c3, c4, c5, c6, c7, c8, c9] → Fn Tryz.prog fc [.agg #[c0, c1, c2, c3, c4, c5, c6, c7, c8, c9], .pointer (some ⟨gc, 0, none⟩)] w0 H1 own1 (fun r o H' => r = .bool ((p) x) ∧ o = own1 ∧ Le H1 H')) :
    Fn Tryz.prog 79 [v, .func (.func fc) #[] #[.pointer (some ⟨gc, 0, none⟩)]] w0 H own (fun r o H' => r = .bool (l.any p) ∧ o = own ∧ Le H H') := by
  refine Fn.enter Tryz.func79 rfl Tryz.ntmps79 rfl ?_; have hL := Le.refl H; refine Qj ?_; refine Qh ?_; refine Qe rfl rfl ?_; refine Q3 ?_; refine Qb rfl rfl ?_; refine Qb rfl rfl ?_; refine Qs (index_Func hd hA hcl) ⟨rfl, rfl, trivial⟩ rfl ?_
  rintro _ own H2 ⟨rfl, rfl, hle2⟩
  have hL := Le.trans hL hle2; refine TL.geq rfl rfl rfl ?_
  rw [idxI_any]
  refine Qe rfl rfl ?_; refine Qi ?_; refine Qc ?_; refine Qy ?_; refine Q5 0 rfl rfl ?_
  exact ⟨rfl, rfl, hL⟩
theorem notok_Func {α : Type} {dx : α → List D} (hd : ∀ x, (dx x).length = 10) {p : α → Bool} {l : List α} {w0 : World} {H : Hp} {fok : FuncId} [Callable Tryz.prog fok] {gc : Nat} (hgc : cel H gc 0 = some (.func (.func fok) #[] #[])) (hok : ∀ x ∈ l, ∀ (c0 c1 c2 c3 c4 c5 c6 c7 c8 c9 : Value) (H1 : Hp) (own1 : List Seg), Le H H1 → RdL H1 (dx x) [c0, c1, c2, c3, c4, c5, c6, c7, c8, c9] → Fn Tryz.prog fok [.agg #[c0, c1, c2, c3, c4, c5, c6, c7, c8, c9]] w0 H1 own1 (fun r o H' => r = .bool ((p) x) ∧ o = own1 ∧ Le H1 H')) :
    ∀ x ∈ l, ∀ (c0 c1 c2 c3 c4 c5 c6 c7 c8 c9 : Value) (H1 : Hp) (own1 : List Seg), Le H H1 → RdL H1 (dx x) [c0, c1, c2, c3, c4, c5, c6, c7, c8, c9] → Fn Tryz.prog 80 [.agg #[c0, c1, c2, c3, c4, c5, c6, c7, c8, c9], .pointer (some ⟨gc, 0, none⟩)] w0 H1 own1 (fun r o H' => r = .bool ((fun x => !p x) x) ∧ o = own1 ∧ Le H1 H') := by
  intro x hx c0 c1 c2 c3 c4 c5 c6 c7 c8 c9 H1 own1 hle hr; have hgc := cel_le hle hgc; refine Fn.enter Tryz.func80 rfl Tryz.ntmps80 rfl ?_; have hL := Le.refl H1; refine Qj ?_; refine Qh ?_
  refine Zx (c := #[_, _, _, _, _, _, _, _, _, _]) rfl rfl rfl ?_; intro g2; refine Qe rfl rfl ?_; refine Q3 ?_; refine Qp rfl (hgc) rfl ?_; refine Qm 0 0 [_, _, _, _, _, _, _, _, _, _] rfl rfl rfl ⟨rfl, rfl, rfl, rfl, rfl, rfl, rfl, rfl, rfl, rfl, trivial⟩ rfl rfl ?_; refine Z6 (vs := [_]) rfl (hok x hx _ _ _ _ _ _ _ _ _ _ _ _ (Le.trans hle hL) hr) ⟨rfl, trivial⟩ rfl rfl ?_
  rintro _ _ H2 ⟨rfl, rfl, hle2⟩
  have hL := Le.trans hL hle2; refine Z1 rfl rfl ?_; refine Qe rfl rfl ?_; refine Qi ?_; refine Qc ?_; refine Qy ?_; refine Q5 1 rfl rfl ?_
  exact ⟨rfl, rfl, hL⟩
theorem every_Func {α : Type} {dx : α → List D} (hd : ∀ x, (dx x).length = 10) {p : α → Bool} {l : List α} {w0 : World} {H : Hp} {own : List Seg} {fok : FuncId} [Callable Tryz.prog fok] {v : Value} (hA : rd H (.s 10 (l.flatMap dx)) v) (hok : ∀ x ∈ l, ∀ (c0 c1 c2 c3 c4 c5 c6 c7 c8 c9 : Value) (H1 : Hp) (own1 : List Seg), Le H H1 → RdL H1 (dx x) [c0, c1, c2, c3, c4, c5, c6, c7, c8, c9] → Fn Tryz.prog fok [.agg #[c0, c1, c2, c3, c4, c5, c6, c7, c8, c9]] w0 H1 own1 (fun r o H' => r = .bool ((p) x) ∧ o = own1 ∧ Le H1 H')) :
    Fn Tryz.prog 59 [v, .func (.func fok) #[] #[]] w0 H own (fun r o H' => r = .bool (l.all p) ∧ o = own ∧ Le H H') := by
  refine Fn.enter Tryz.func59 rfl Tryz.ntmps59 rfl ?_; have hL := Le.refl H; refine Qj ?_; refine Qh ?_
  refine Zx (c := #[_]) rfl rfl rfl ?_; intro g3; refine Qe rfl rfl ?_; refine Q3 ?_
  refine Zy (fun H1 hle hz_g3 => ?_)
  have hL := Le.trans hL hle; have hA := rd.mono hle hA
  have hgc : cel H1 g3 0 = some (.func (.func fok) #[] #[]) := by
    have h := hz_g3 _ (List.mem_singleton.2 rfl)
    simp [cel, h]
  refine Qb rfl rfl ?_; refine TL.makeFunc (vs := []) (us := [_]) trivial ⟨rfl, trivial⟩ rfl ?_; refine Qs (contains_Func hd hA (notok_Func hd hgc (fun x hx c0 c1 c2 c3 c4 c5 c6 c7 c8 c9 H1 own1 hle hr => hok x hx c0 c1 c2 c3 c4 c5 c6 c7 c8 c9 H1 own1 (Le.trans hL hle) hr))) ⟨rfl, rfl, trivial⟩ rfl ?_
  rintro _ own H2 ⟨rfl, rfl, hle2⟩
  have hL := Le.trans hL hle2; refine Z1 rfl rfl ?_; refine Qe rfl rfl ?_; refine Qi ?_; refine Qc ?_; refine Qy ?_; refine Q5 0 rfl rfl ?_
  exact ⟨by rw [← List.not_all_eq_any_not, Bool.not_not], rfl, hL⟩
theorem index_Field {α : Type} {dx : α → List D} (hd : ∀ x, (dx x).length = 5) {p : α → Bool} {l : List α} {w0 : World} {H : Hp} {own : List Seg} {fc : FuncId} [Callable Tryz.prog fc] {gc : Nat} {v : Value} (hA : rd H (.s 5 (l.flatMap dx)) v) (hcl : ∀ x ∈ l, ∀ (c0 c1 c2 c3 c4 : Value) (H1 : Hp) (own1 : List Seg), Le H H1 → RdL H1 (dx x) [c0, c1, c2, c3, c4] → Fn Tryz.prog fc [.agg #[c0, c1, c2, c3, c4], .pointer (some ⟨gc, 0, none⟩)] w0 H1 own1 (fun r o H' => r = .bool ((p) x) ∧ o = own1 ∧ Le H1 H')) :
    Fn Tryz.prog 108 [v, .func (.func fc) #[] #[.pointer (some ⟨gc, 0, none⟩)]] w0 H own (fun r o H' => r = .int .i64 (idxI p l 0) ∧ o = own ∧ Le H H') := by
  obtain ⟨A, c, rfl, hc1, hc2⟩ := elems_len (by omega) hd hA
  refine Fn.enter Tryz.func108 rfl Tryz.ntmps108 rfl ?_; have hL := Le.refl H; refine Qj ?_; refine Qh ?_; refine Qe rfl rfl ?_; refine Qi ?_; refine Qc ?_; refine Qj ?_; refine Qj ?_; refine Qh ?_; refine Qb rfl rfl ?_; refine Qn rfl rfl ?_; refine Qb rfl rfl ?_; refine Qi ?_; refine Qc ?_; refine Q6 ?_; refine Zv (fun n env' own' H' => ∃ k, n = l.length - k ∧ k ≤ l.length ∧ idxI p l 0 = idxI p (l.drop k) k ∧ env' = [(0, .slice A l.length c), (1, .func (.func fc) #[] #[.pointer (some ⟨gc, 0, none⟩)]), (7, .int .i64 (l.length : Int)), (8, .int .i64 (k : Int))] ∧ own' = own ∧ Le H H') l.length [(0, _), (1, _), (7, _), (8, _)] ⟨rfl, rfl, rfl, rfl, trivial⟩ ⟨0, by omega, by omega, rfl, rfl, rfl, Le.refl _⟩ ?_
  rintro n _ own H1 ⟨k, rfl, hk1, hix, rfl, rfl, hle0⟩
  have hL := Le.trans hL hle0; have hA := rd.mono hle0 hA; refine Qj ?_; refine Qh ?_
  refine Zz rfl rfl rfl (fun hlt => ?_) (fun hlt => ?_)
  ·
   obtain ⟨x, hx⟩ : ∃ x, l[k]? = some x := ⟨_, List.getElem?_eq_getElem (by omega)⟩
   obtain ⟨b1, o1, cs, rfl, hp, hpr, hcl1⟩ := elems_at (by omega) hd hA hx
   obtain ⟨c0, c1, c2, c3, c4, rfl⟩ := list_5 hcl1
   rw [drop_cons hx] at hix
   refine Qi ?_; refine Qc ?_; refine Qj ?_; refine Qv rfl ?_; refine Q2 ?_; refine Qc ?_; refine Qj ?_; refine Q6 ?_; refine Qj ?_; refine Qh ?_; refine Qb rfl rfl ?_; refine Qe rfl rfl ?_; refine Q3 ?_; refine Qb rfl rfl ?_; refine Qb rfl rfl ?_; refine Qb rfl rfl ?_; refine Qo (k) rfl rfl rfl (by omega) rfl ?_; refine Zd rfl (hp) rfl rfl ?_; refine Z6 (vs := [_]) rfl (hcl x (List.mem_of_getElem? hx) _ _ _ _ _ _ _ hL hpr) ⟨rfl, trivial⟩ rfl rfl ?_
   rintro _ own H2 ⟨rfl, rfl, hle2⟩
   have hL := Le.trans hL hle2; have hle0 := Le.trans hle0 hle2
   rcases hpx : p x with _ | _
   rotate_left
   ·
    refine Qi ?_; refine Qc ?_; refine Qv rfl ?_; refine Qj ?_; refine Qh ?_; refine Qb rfl rfl ?_; refine Qe rfl rfl ?_; refine Qi ?_; refine Qc ?_; refine Qy ?_; refine Z0 ?_; refine Q0 ?_; refine Q0 ?_; refine Z0 ?_; refine Q0 ?_; refine Q5 0 rfl rfl ?_
    first
      | exact ⟨by rw [hix]; simp only [idxI, hpx, if_true], rfl, hL⟩
      | exact ⟨by rw [hix, List.drop_of_length_le (by omega)]; rfl, rfl, hL⟩
   ·
    refine Qi ?_; refine Qc ?_; refine Qr rfl ?_; refine Q2 ?_; refine Ze ?_; refine Qc ?_; refine Qh ?_; refine Zb rfl rfl rfl ⟨by omega, by omega⟩ ?_; refine Qb rfl rfl ?_; refine Qi ?_; refine Zn (own' := own) rfl ?_
    refine Zf (l.length - (k + 1)) [(0, _), (1, _), (7, _), (8, _)] (by omega) ⟨rfl, rfl, rfl, rfl, trivial⟩ ⟨k + 1, rfl, by omega, ?_, by simp, rfl, hle0⟩
    rw [hix]
    simp only [idxI, hpx, Bool.false_eq_true, if_false]
  ·
   refine Qi ?_; refine Qc ?_; refine Qj ?_; refine Qr rfl ?_; refine Zo ?_; refine Q1 ?_; refine Q1 ?_; refine Zp ?_; refine Zm ?_; refine Qe rfl rfl ?_; refine Qi ?_; refine Qc ?_; refine Qy ?_; refine Q5 0 rfl rfl ?_
   first
     | exact ⟨by rw [hix]; simp only [idxI, hpx, if_true], rfl, hL⟩
     | exact ⟨by rw [hix, List.drop_of_length_le (by omega)]; rfl, rfl, hL⟩
theorem contains_Field {α : Type} {dx : α → List D} (hd : ∀ x, (dx x).length = 5) {p : α → Bool} {l : List α} {w0 : World} {H : Hp} {own : List Seg} {fc : FuncId} [Callable Tryz.prog fc] {gc : Nat} {v : Value} (hA : rd H (.s 5 (l.flatMap dx)) v) (hcl : ∀ x ∈ l, ∀ (c0 c1 c2 c3 c4 : Value) (H1 : Hp) (own1 : List Seg), Le H H1 → RdL H1 (dx x) [c0, c1, c2, c3, c4] → Fn Tryz.prog fc [.agg #[c0, c1, c2, c3, c4], .pointer (some ⟨gc, 0, none⟩)] w0 H1 own1 (fun r o H' => r = .bool ((p) x) ∧ o = own1 ∧ Le H1 H')) :
    Fn Tryz.prog 94 [v, .func (.func fc) #[] #[.pointer (some ⟨gc, 0, none⟩)]] w0 H own (fun r o H' => r = .bool (l.any p) ∧ o = own ∧ Le H H') := by
  refine Fn.enter Tryz.func94 rfl Tryz.ntmps94 rfl ?_; have hL := Le.refl H; refine Qj ?_; refine Qh ?_; refine Qe rfl rfl ?_; refine Q3 ?_; refine Qb rfl rfl ?_; refine Qb rfl rfl ?_; refine Qs (index_Field hd hA hcl) ⟨rfl, rfl, trivial⟩ rfl ?_
  rintro _ own H2 ⟨rfl, rfl, hle2⟩
  have hL := Le.trans hL hle2; refine TL.geq rfl rfl rfl ?_
  rw [idxI_any]
  refine Qe rfl rfl ?_; refine Qi ?_; refine Qc ?_; refine Qy ?_; refine Q5 0 rfl rfl ?_
  exact ⟨rfl, rfl, hL⟩
theorem notok_Field {α : Type} {dx : α → List D} (hd : ∀ x, (dx x).length = 5) {p : α → Bool} {l : List α} {w0 : World} {H : Hp} {fok : FuncId} [Callable Tryz.prog fok] {gc : Nat} (hgc : cel H gc 0 = some (.func (.func fok) #[] #[])) (hok : ∀ x ∈ l, ∀ (c0 c1 c2 c3 c4 : Value) (H1 : Hp) (own1 : List Seg), Le H H1 → RdL H1 (dx x) [c0, c1, c2, c3, c4] → Fn Tryz.prog fok [.agg #[c0, c1, c2, c3, c4]] w0 H1 own1 (fun r o H' => r = .bool ((p) x) ∧ o = own1 ∧ Le H1 H')) :
    ∀ x ∈ l, ∀ (c0 c1 c2 c3 c4 : Value) (H1 : Hp) (own1 : List Seg), Le H H1 → RdL H1 (dx x) [c0, c1, c2, c3, c4] → Fn Tryz.prog 95 [.agg #[c0, c1, c2, c3, c4], .pointer (some ⟨gc, 0, none⟩)] w0 H1 own1 (fun r o H' => r = .bool ((fun x => !p x) x) ∧ o = own1 ∧ Le H1 H') := by
  intro x hx c0 c1 c2 c3 c4 H1 own1 hle hr; have hgc := cel_le hle hgc; refine Fn.enter Tryz.func95 rfl Tryz.ntmps95 rfl ?_; have hL := Le.refl H1; refine Qj ?_; refine Qh ?_
  refine Zx (c := #[_, _, _, _, _]) rfl rfl rfl ?_; intro g2; refine Qe rfl rfl ?_; refine Q3 ?_; refine Qp rfl (hgc) rfl ?_; refine Qm 0 0 [_, _, _, _, _] rfl rfl rfl ⟨rfl, rfl, rfl, rfl, rfl, trivial⟩ rfl rfl ?_; refine Z6 (vs := [_]) rfl (hok x hx _ _ _ _ _ _ _ (Le.trans hle hL) hr) ⟨rfl, trivial⟩ rfl rfl ?_
  rintro _ _ H2 ⟨rfl, rfl, hle2⟩
  have hL := Le.trans hL hle2; refine Z1 rfl rfl ?_; refine Qe rfl rfl ?_; refine Qi ?_; refine Qc ?_; refine Qy ?_; refine Q5 1 rfl rfl ?_
  exact ⟨rfl, rfl, hL⟩
theorem every_Field {α : Type} {dx : α → List D} (hd : ∀ x, (dx x).length = 5) {p : α → Bool} {l : List α} {w0 : World} {H : Hp} {own : List Seg} {fok : FuncId} [Callable Tryz.prog fok] {v : Value} (hA : rd H (.s 5 (l.flatMap dx)) v) (hok : ∀ x ∈ l, ∀ (c0 c1 c2 c3 c4 : Value) (H1 : Hp) (own1 : List Seg), Le H H1 → RdL H1 (dx x) [c0, c1, c2, c3, c4] → Fn Tryz.prog fok [.agg #[c0, c1, c2, c3, c4]] w0 H1 own1 (fun r o H' => r = .bool ((p) x) ∧ o = own1 ∧ Le H1 H')) :
    Fn Tryz.prog 74 [v, .func (.func fok) #[] #[]] w0 H own (fun r o H' => r = .bool (l.all p) ∧ o = own ∧ Le H H') := by
  refine Fn.enter Tryz.func74 rfl Tryz.ntmps74 rfl ?_; have hL := Le.refl H; refine Qj ?_; refine Qh ?_
  refine Zx (c := #[_]) rfl rfl rfl ?_; intro g3; refine Qe rfl rfl ?_; refine Q3 ?_
  refine Zy (fun H1 hle hz_g3 => ?_)
  have hL := Le.trans hL hle; have hA := rd.mono hle hA
  have hgc : cel H1 g3 0 = some (.func (.func fok) #[] #[]) := by
    have h := hz_g3 _ (List.mem_singleton.2 rfl)
    simp [cel, h]
  refine Qb rfl rfl ?_; refine TL.makeFunc (vs := []) (us := [_]) trivial ⟨rfl, trivial⟩ rfl ?_; refine Qs (contains_Field hd hA (notok_Field hd hgc (fun x hx c0 c1 c2 c3 c4 H1 own1 hle hr => hok x hx c0 c1 c2 c3 c4 H1 own1 (Le.trans hL hle) hr))) ⟨rfl, rfl, trivial⟩ rfl ?_
  rintro _ own H2 ⟨rfl, rfl, hle2⟩
  have hL := Le.trans hL hle2; refine Z1 rfl rfl ?_; refine Qe rfl rfl ?_; refine Qi ?_; refine Qc ?_; refine Qy ?_; refine Q5 0 rfl rfl ?_
  exact ⟨by rw [← List.not_all_eq_any_not, Bool.not_not], rfl, hL⟩
theorem index_Stmt {α : Type} {dx : α → List D} (hd : ∀ x, (dx x).length = 11) {p : α → Bool} {l : List α} {w0 : World} {H : Hp} {own : List Seg} {fc : FuncId} [Callable Tryz.prog fc] {gc : Nat} {v : Value} (hA : rd H (.s 11 (l.flatMap dx)) v) (hcl : ∀ x ∈ l, ∀ (c0 c1 c2 c3 c4 c5 c6 c7 c8 c9 c10 : Value) (H1 : Hp) (own1 : List Seg), Le H H1 → RdL H1 (dx x) [c0, c1, c2, c3, c4, c5, c6, c7, c8, c9, c10] → Fn Tryz.prog fc [.agg #[c0, c1, c2, c3, c4, c5, c6, c7, c8, c9, c10], .pointer (some ⟨gc, 0, none⟩)] w0 H1 own1 (fun r o H' => r = .bool ((p) x) ∧ o = own1 ∧ Le H1 H')) :
    Fn Tryz.prog 124 [v, .func (.func fc) #[] #[.pointer (some ⟨gc, 0, none⟩)]] w0 H own (fun r o H' => r = .int .i64 (idxI p l 0) ∧ o = own ∧ Le H H') := by
  obtain ⟨A, c, rfl, hc1, hc2⟩ := elems_len (by omega) hd hA
  refine Fn.enter Tryz.func124 rfl Tryz.ntmps124 rfl ?_; have hL := Le.refl H; refine Qj ?_; refine Qh ?_; refine Qe rfl rfl ?_; refine Qi ?_; refine Qc ?_; refine Qj ?_; refine Qj ?_; refine Qh ?_; refine Qb rfl rfl ?_; refine Qn rfl rfl ?_; refine Qb rfl rfl ?_; refine Qi ?_; refine Qc ?_; refine Q6 ?_; refine Zv (fun n env' own' H' => ∃ k, n = l.length - k ∧ k ≤ l.length ∧ idxI p l 0 = idxI p (l.drop k) k ∧ env' = [(0, .slice A l.length c), (1, .func (.func fc) #[] #[.pointer (some ⟨gc, 0, none⟩)]), (7, .int .i64 (l.length : Int)), (8, .int .i64 (k : Int))] ∧ own' = own ∧ Le H H') l.length [(0, _), (1, _), (7, _), (8, _)] ⟨rfl, rfl, rfl, rfl, trivial⟩ ⟨0, by omega, by omega, rfl, rfl, rfl, Le.refl _⟩ ?_
  rintro n _ own H1 ⟨k, rfl, hk1, hix, rfl, rfl, hle0⟩
  have hL := Le.trans hL hle0; have hA := rd.mono hle0 hA; refine Qj ?_; refine Qh ?_
  refine Zz rfl rfl rfl (fun hlt => ?_) (fun hlt => ?_)
  ·
   obtain ⟨x, hx⟩ : ∃ x, l[k]? = some x := ⟨_, List.getElem?_eq_getElem (by omega)⟩
   obtain ⟨b1, o1, cs, rfl, hp, hpr, hcl1⟩ := elems_at (by omega) hd hA hx
   obtain ⟨c0, c1, c2, c3, c4, c5, c6, c7, c8, c9, c10, rfl⟩ := list_11 hcl1
   rw [drop_cons hx] at hix
   refine Qi ?_; refine Qc ?_; refine Qj ?_; refine Qv rfl ?_; refine Q2 ?_; refine Qc ?_; refine Qj ?_; refine Q6 ?_; refine Qj ?_; refine Qh ?_; refine Qb rfl rfl ?_; refine Qe rfl rfl ?_; refine Q3 ?_; refine Qb rfl rfl ?_; refine Qb rfl rfl ?_; refine Qb rfl rfl ?_; refine Qo (k) rfl rfl rfl (by omega) rfl ?_; refine Zd rfl (hp) rfl rfl ?_; refine Z6 (vs := [_]) rfl (hcl x (List.mem_of_getElem? hx) _ _ _ _ _ _ _ _ _ _ _ _ _ hL hpr) ⟨rfl, trivial⟩ rfl rfl ?_
   rintro _ own H2 ⟨rfl, rfl, hle2⟩
   have hL := Le.trans hL hle2; have hle0 := Le.trans hle0 hle2
   rcases hpx : p x with _ | _
   rotate_left
   ·
    refine Qi ?_; refine Qc ?_; refine Qv rfl ?_; refine Qj ?_; refine Qh ?_; refine Qb rfl rfl ?_; refine Qe rfl rfl ?_; refine Qi ?_; refine Qc ?_; refine Qy ?_; refine Z0 ?_; refine Q0 ?_; refine Q0 ?_; refine Z0 ?_; refine Q0 ?_; refine Q5 0 rfl rfl ?_
    first
      | exact ⟨by rw [hix]; simp only [idxI, hpx, if_true], rfl, hL⟩
      | exact ⟨by rw [hix, List.drop_of_length_le (by omega)]; rfl, rfl, hL⟩
   ·
    refine Qi ?_; refine Qc ?_; refine Qr rfl ?_; refine Q2 ?_; refine Ze ?_; refine Qc ?_; refine Qh ?_; refine Zb rfl rfl rfl ⟨by omega, by omega⟩ ?_; refine Qb rfl rfl ?_; refine Qi ?_; refine Zn (own' := own) rfl ?_
    refine Zf (l.length - (k + 1)) [(0, _), (1, _), (7, _), (8, _)] (by omega) ⟨rfl, rfl, rfl, rfl, trivial⟩ ⟨k + 1, rfl, by omega, ?_, by simp, rfl, hle0⟩
    rw [hix]
    simp only [idxI, hpx, Bool.false_eq_true, if_false]
  ·
   refine Qi ?_; refine Qc ?_; refine Qj ?_; refine Qr rfl ?_; refine Zo ?_; refine Q1 ?_; refine Q1 ?_; refine Zp ?_; refine Zm ?_; refine Qe rfl rfl ?_; refine Qi ?_; refine Qc ?_; refine Qy ?_; refine Q5 0 rfl rfl ?_
   first
     | exact ⟨by rw [hix]; simp only [idxI, hpx, if_true], rfl, hL⟩
     | exact ⟨by rw [hix, List.drop_of_length_le (by omega)]; rfl, rfl, hL⟩
theorem contains_Stmt {α : Type} {dx : α → List D} (hd : ∀ x, (dx x).length = 11) {p : α → Bool} {l : List α} {w0 : World} {H : Hp} {own : List Seg} {fc : FuncId} [Callable Tryz.prog fc] {gc : Nat} {v : Value} (hA : rd H (.s 11 (l.flatMap dx)) v) (hcl : ∀ x ∈ l, ∀ (c0 c1 c2 c3 c4 c5 c6 c7 c8 c9 c10 : Value) (H1 : Hp) (own1 : List Seg), Le H H1 → RdL H1 (dx x) [c0, c1, c2, c3, c4, c5, c6, c7, c8, c9, c10] → Fn Tryz.prog fc [.agg #[c0, c1, c2, c3, c4, c5, c6, c7, c8, c9, c10], .pointer (some ⟨gc, 0, none⟩)] w0 H1 own1 (fun r o H' => r = .bool ((p) x) ∧ o = own1 ∧ Le H1 H')) :
    Fn Tryz.prog 111 [v, .func (.func fc) #[] #[.pointer (some ⟨gc, 0, none⟩)]] w0 H own (fun r o H' => r = .bool (l.any p) ∧ o = own ∧ Le H H') := by
  refine Fn.enter Tryz.func111 rfl Tryz.ntmps111 rfl ?_; have hL := Le.refl H; refine Qj ?_; refine Qh ?_; refine Qe rfl rfl ?_; refine Q3 ?_; refine Qb rfl rfl ?_; refine Qb rfl rfl ?_; refine Qs (index_Stmt hd hA hcl) ⟨rfl, rfl, trivial⟩ rfl ?_
  rintro _ own H2 ⟨rfl, rfl, hle2⟩
  have hL := Le.trans hL hle2; refine TL.geq rfl rfl rfl ?_
  rw [idxI_any]
  refine Qe rfl rfl ?_; refine Qi ?_; refine Qc ?_; refine Qy ?_; refine Q5 0 rfl rfl ?_
  exact ⟨rfl, rfl, hL⟩
theorem notok_Stmt {α : Type} {dx : α → List D} (hd : ∀ x, (dx x).length = 11) {p : α → Bool} {l : List α} {w0 : World} {H : Hp} {fok : FuncId} [Callable Tryz.prog fok] {gc : Nat} (hgc : cel H gc 0 = some (.func (.func fok) #[] #[])) (hok : ∀ x ∈ l, ∀ (c0 c1 c2 c3 c4 c5 c6 c7 c8 c9 c10 : Value) (H1 : Hp) (own1 : List Seg), Le H H1 → RdL H1 (dx x) [c0, c1, c2, c3, c4, c5, c6, c7, c8, c9, c10] → Fn Tryz.prog fok [.agg #[c0, c1, c2, c3, c4, c5, c6, c7, c8, c9, c10]] w0 H1 own1 (fun r o H' => r = .bool ((p) x) ∧ o = own1 ∧ Le H1 H')) :
    ∀ x ∈ l, ∀ (c0 c1 c2 c3 c4 c5 c6 c7 c8 c9 c10 : Value) (H1 : Hp) (own1 : List Seg), Le H H1 → RdL H1 (dx x) [c0, c1, c2, c3, c4, c5, c6, c7, c8, c9, c10] → Fn Tryz.prog 112 [.agg #[c0, c1, c2, c3, c4, c5, c6, c7, c8, c9, c10], .pointer (some ⟨gc, 0, none⟩)] w0 H1 own1 (fun r o H' => r = .bool ((fun x => !p x) x) ∧ o = own1 ∧ Le H1 H') := by
  intro x hx c0 c1 c2 c3 c4 c5 c6 c7 c8 c9 c10 H1 own1 hle hr; have hgc := cel_le hle hgc; refine Fn.enter Tryz.func112 rfl Tryz.ntmps112 rfl ?_; have hL := Le.refl H1; refine Qj ?_; refine Qh ?_
  refine Zx (c := #[_, _, _, _, _, _, _, _, _, _, _]) rfl rfl rfl ?_; intro g2; refine Qe rfl rfl ?_; refine Q3 ?_; refine Qp rfl (hgc) rfl ?_; refine Qm 0 0 [_, _, _, _, _, _, _, _, _, _, _] rfl rfl rfl ⟨rfl, rfl, rfl, rfl, rfl, rfl, rfl, rfl, rfl, rfl, rfl, trivial⟩ rfl rfl ?_; refine Z6 (vs := [_]) rfl (hok x hx _ _ _ _ _ _ _ _ _ _ _ _ _ (Le.trans hle hL) hr) ⟨rfl, trivial⟩ rfl rfl ?_
  rintro _ _ H2 ⟨rfl, rfl, hle2⟩
  have hL := Le.trans hL hle2; refine Z1 rfl rfl ?_; refine Qe rfl rfl ?_; refine Qi ?_; refine Qc ?_; refine Qy ?_; refine Q5 1 rfl rfl ?_
  exact ⟨rfl, rfl, hL⟩
theorem every_Stmt {α : Type} {dx : α → List D} (hd : ∀ x, (dx x).length = 11) {p : α → Bool} {l : List α} {w0 : World} {H : Hp} {own : List Seg} {fok : FuncId} [Callable Tryz.prog fok] {v : Value} (hA : rd H (.s 11 (l.flatMap dx)) v) (hok : ∀ x ∈ l, ∀ (c0 c1 c2 c3 c4 c5 c6 c7 c8 c9 c10 : Value) (H1 : Hp) (own1 : List Seg), Le H H1 → RdL H1 (dx x) [c0, c1, c2, c3, c4, c5, c6, c7, c8, c9, c10] → Fn Tryz.prog fok [.agg #[c0, c1, c2, c3, c4, c5, c6, c7, c8, c9, c10]] w0 H1 own1 (fun r o H' => r = .bool ((p) x) ∧ o = own1 ∧ Le H1 H')) :
    Fn Tryz.prog 99 [v, .func (.func fok) #[] #[]] w0 H own (fun r o H' => r = .bool (l.all p) ∧ o = own ∧ Le H H') := by
  refine Fn.enter Tryz.func99 rfl Tryz.ntmps99 rfl ?_; have hL := Le.refl H; refine Qj ?_; refine Qh ?_
  refine Zx (c := #[_]) rfl rfl rfl ?_; intro g3; refine Qe rfl rfl ?_; refine Q3 ?_
  refine Zy (fun H1 hle hz_g3 => ?_)
  have hL := Le.trans hL hle; have hA := rd.mono hle hA
  have hgc : cel H1 g3 0 = some (.func (.func fok) #[] #[]) := by
    have h := hz_g3 _ (List.mem_singleton.2 rfl)
    simp [cel, h]
  refine Qb rfl rfl ?_; refine TL.makeFunc (vs := []) (us := [_]) trivial ⟨rfl, trivial⟩ rfl ?_; refine Qs (contains_Stmt hd hA (notok_Stmt hd hgc (fun x hx c0 c1 c2 c3 c4 c5 c6 c7 c8 c9 c10 H1 own1 hle hr => hok x hx c0 c1 c2 c3 c4 c5 c6 c7 c8 c9 c10 H1 own1 (Le.trans hL hle) hr))) ⟨rfl, rfl, trivial⟩ rfl ?_
  rintro _ own H2 ⟨rfl, rfl, hle2⟩
  have hL := Le.trans hL hle2; refine Z1 rfl rfl ?_; refine Qe rfl rfl ?_; refine Qi ?_; refine Qc ?_; refine Qy ?_; refine Q5 0 rfl rfl ?_
  exact ⟨by rw [← List.not_all_eq_any_not, Bool.not_not], rfl, hL⟩
theorem index_Expr {α : Type} {dx : α → List D} (hd : ∀ x, (dx x).length = 4) {p : α → Bool} {l : List α} {w0 : World} {H : Hp} {own : List Seg} {fc : FuncId} [Callable Tryz.prog fc] {gc : Nat} {v : Value} (hA : rd H (.s 4 (l.flatMap dx)) v) (hcl : ∀ x ∈ l, ∀ (c0 c1 c2 c3 : Value) (H1 : Hp) (own1 : List Seg), Le H H1 → RdL H1 (dx x) [c0, c1, c2, c3] → Fn Tryz.prog fc [.agg #[c0, c1, c2, c3], .pointer (some ⟨gc, 0, none⟩)] w0 H1 own1 (fun r o H' => r = .bool ((p) x) ∧ o = own1 ∧ Le H1 H')) :
    Fn Tryz.prog 137 [v, .func (.func fc) #[] #[.pointer (some ⟨gc, 0, none⟩)]] w0 H own (fun r o H' => r = .int .i64 (idxI p l 0) ∧ o = own ∧ Le H H') := by
  obtain ⟨A, c, rfl, hc1, hc2⟩ := elems_len (by omega) hd hA
  refine Fn.enter Tryz.func137 rfl Tryz.ntmps137 rfl ?_; have hL := Le.refl H; refine Qj ?_; refine Qh ?_; refine Qe rfl rfl ?_; refine Qi ?_; refine Qc ?_; refine Qj ?_; refine Qj ?_; refine Qh ?_; refine Qb rfl rfl ?_; refine Qn rfl rfl ?_; refine Qb rfl rfl ?_; refine Qi ?_; refine Qc ?_; refine Q6 ?_; refine Zv (fun n env' own' H' => ∃ k, n = l.length - k ∧ k ≤ l.length ∧ idxI p l 0 = idxI p (l.drop k) k ∧ env' = [(0, .slice A l.length c), (1, .func (.func fc) #[] #[.pointer (some ⟨gc, 0, none⟩)]), (7, .int .i64 (l.length : Int)), (8, .int .i64 (k : Int))] ∧ own' = own ∧ Le H H') l.length [(0, _), (1, _), (7, _), (8, _)] ⟨rfl, rfl, rfl, rfl, trivial⟩ ⟨0, by omega, by omega, rfl, rfl, rfl, Le.refl _⟩ ?_
  rintro n _ own H1 ⟨k, rfl, hk1, hix, rfl, rfl, hle0⟩
  have hL := Le.trans hL hle0; have hA := rd.mono hle0 hA; refine Qj ?_; refine Qh ?_
  refine Zz rfl rfl rfl (fun hlt => ?_) (fun hlt => ?_)
  ·
   obtain ⟨x, hx⟩ : ∃ x, l[k]? = some x := ⟨_, List.getElem?_eq_getElem (by omega)⟩
   obtain ⟨b1, o1, cs, rfl, hp, hpr, hcl1⟩ := elems_at (by omega) hd hA hx
   obtain ⟨c0, c1, c2, c3, rfl⟩ := list_4 hcl1
   rw [drop_cons hx] at hix
   refine Qi ?_; refine Qc ?_; refine Qj ?_; refine Qv rfl ?_; refine Q2 ?_; refine Qc ?_; refine Qj ?_; refine Q6 ?_; refine Qj ?_; refine Qh ?_; refine Qb rfl rfl ?_; refine Qe rfl rfl ?_; refine Q3 ?_; refine Qb rfl rfl ?_; refine Qb rfl rfl ?_; refine Qb rfl rfl ?_; refine Qo (k) rfl rfl rfl (by omega) rfl ?_; refine Zd rfl (hp) rfl rfl ?_; refine Z6 (vs := [_]) rfl (hcl x (List.mem_of_getElem? hx) _ _ _ _ _ _ hL hpr) ⟨rfl, trivial⟩ rfl rfl ?_
   rintro _ own H2 ⟨rfl, rfl, hle2⟩
   have hL := Le.trans hL hle2; have hle0 := Le.trans hle0 hle2
   rcases hpx : p x with _ | _
   rotate_left
   ·
    refine Qi ?_; refine Qc ?_; refine Qv rfl ?_; refine Qj ?_; refine Qh ?_; refine Qb rfl rfl ?_; refine Qe rfl rfl ?_; refine Qi ?_; refine Qc ?_; refine Qy ?_; refine Z0 ?_; refine Q0 ?_; refine Q0 ?_; refine Z0 ?_; refine Q0 ?_; refine Q5 0 rfl rfl ?_
    first
      | exact ⟨by rw [hix]; simp only [idxI, hpx, if_true], rfl, hL⟩
      | exact ⟨by rw [hix, List.drop_of_length_le (by omega)]; rfl, rfl, hL⟩
   ·
    refine Qi ?_; refine Qc ?_; refine Qr rfl ?_; refine Q2 ?_; refine Ze ?_; refine Qc ?_; refine Qh ?_; refine Zb rfl rfl rfl ⟨by omega, by omega⟩ ?_; refine Qb rfl rfl ?_; refine Qi ?_; refine Zn (own' := own) rfl ?_
    refine Zf (l.length - (k + 1)) [(0, _), (1, _), (7, _), (8, _)] (by omega) ⟨rfl, rfl, rfl, rfl, trivial⟩ ⟨k + 1, rfl, by omega, ?_, by simp, rfl, hle0⟩
    rw [hix]
    simp only [idxI, hpx, Bool.false_eq_true, if_false]
  ·
   refine Qi ?_; refine Qc ?_; refine Qj ?_; refine Qr rfl ?_; refine Zo ?_; refine Q1 ?_; refine Q1 ?_; refine Zp ?_; refine Zm ?_; refine Qe rfl rfl ?_; refine Qi ?_; refine Qc ?_; refine Qy ?_; refine Q5 0 rfl rfl ?_
   first
     | exact ⟨by rw [hix]; simp only [idxI, hpx, if_true], rfl, hL⟩
     | exact ⟨by rw [hix, List.drop_of_length_le (by omega)]; rfl, rfl, hL⟩
theorem contains_Expr {α : Type} {dx : α → List D} (hd : ∀ x, (dx x).length = 4) {p : α → Bool} {l : List α} {w0 : World} {H : Hp} {own : List Seg} {fc : FuncId} [Callable Tryz.prog fc] {gc : Nat} {v : Value} (hA : rd H (.s 4 (l.flatMap dx)) v) (hcl : ∀ x ∈ l, ∀ (c0 c1 c2 c3 : Value) (H1 : Hp) (own1 : List Seg), Le H H1 → RdL H1 (dx x) [c0, c1, c2, c3] → Fn Tryz.prog fc [.agg #[c0, c1, c2, c3], .pointer (some ⟨gc, 0, none⟩)] w0 H1 own1 (fun r o H' => r = .bool ((p) x) ∧ o = own1 ∧ Le H1 H')) :
    Fn Tryz.prog 125 [v, .func (.func fc) #[] #[.pointer (some ⟨gc, 0, none⟩)]] w0 H own (fun r o H' => r = .bool (l.any p) ∧ o = own ∧ Le H H') := by
  refine Fn.enter Tryz.func125 rfl Tryz.ntmps125 rfl ?_; have hL := Le.refl H; refine Qj ?_; refine Qh ?_; refine Qe rfl rfl ?_; refine Q3 ?_; refine Qb rfl rfl ?_; refine Qb rfl rfl ?_; refine Qs (index_Expr hd hA hcl) ⟨rfl, rfl, trivial⟩ rfl ?_
  rintro _ own H2 ⟨rfl, rfl, hle2⟩
  have hL := Le.trans hL hle2; refine TL.geq rfl rfl rfl ?_
  rw [idxI_any]
  refine Qe rfl rfl ?_; refine Qi ?_; refine Qc ?_; refine Qy ?_; refine Q5 0 rfl rfl ?_
  exact ⟨rfl, rfl, hL⟩
theorem notok_Expr {α : Type} {dx : α → List D} (hd : ∀ x, (dx x).length = 4) {p : α → Bool} {l : List α} {w0 : World} {H : Hp} {fok : FuncId} [Callable Tryz.prog fok] {gc : Nat} (hgc : cel H gc 0 = some (.func (.func fok) #[] #[])) (hok : ∀ x ∈ l, ∀ (c0 c1 c2 c3 : Value) (H1 : Hp) (own1 : List Seg), Le H H1 → RdL H1 (dx x) [c0, c1, c2, c3] → Fn Tryz.prog fok [.agg #[c0, c1, c2, c3]] w0 H1 own1 (fun r o H' => r = .bool ((p) x) ∧ o = own1 ∧ Le H1 H')) :
    ∀ x ∈ l, ∀ (c0 c1 c2 c3 : Value) (H1 : Hp) (own1 : List Seg), Le H H1 → RdL H1 (dx x) [c0, c1, c2, c3] → Fn Tryz.prog 126 [.agg #[c0, c1, c2, c3], .pointer (some ⟨gc, 0, none⟩)] w0 H1 own1 (fun r o H' => r = .bool ((fun x => !p x) x) ∧ o = own1 ∧ Le H1 H') := by
  intro x hx c0 c1 c2 c3 H1 own1 hle hr; have hgc := cel_le hle hgc; refine Fn.enter Tryz.func126 rfl Tryz.ntmps126 rfl ?_; have hL := Le.refl H1; refine Qj ?_; refine Qh ?_
  refine Zx (c := #[_, _, _, _]) rfl rfl rfl ?_; intro g2; refine Qe rfl rfl ?_; refine Q3 ?_; refine Qp rfl (hgc) rfl ?_; refine Qm 0 0 [_, _, _, _] rfl rfl rfl ⟨rfl, rfl, rfl, rfl, trivial⟩ rfl rfl ?_; refine Z6 (vs := [_]) rfl (hok x hx _ _ _ _ _ _ (Le.trans hle hL) hr) ⟨rfl, trivial⟩ rfl rfl ?_
  rintro _ _ H2 ⟨rfl, rfl, hle2⟩
  have hL := Le.trans hL hle2; refine Z1 rfl rfl ?_; refine Qe rfl rfl ?_; refine Qi ?_; refine Qc ?_; refine Qy ?_; refine Q5 1 rfl rfl ?_
  exact ⟨rfl, rfl, hL⟩
theorem every_Expr {α : Type} {dx : α → List D} (hd : ∀ x, (dx x).length = 4) {p : α → Bool} {l : List α} {w0 : World} {H : Hp} {own : List Seg} {fok : FuncId} [Callable Tryz.prog fok] {v : Value} (hA : rd H (.s 4 (l.flatMap dx)) v) (hok : ∀ x ∈ l, ∀ (c0 c1 c2 c3 : Value) (H1 : Hp) (own1 : List Seg), Le H H1 → RdL H1 (dx x) [c0, c1, c2, c3] → Fn Tryz.prog fok [.agg #[c0, c1, c2, c3]] w0 H1 own1 (fun r o H' => r = .bool ((p) x) ∧ o = own1 ∧ Le H1 H')) :
    Fn Tryz.prog 114 [v, .func (.func fok) #[] #[]] w0 H own (fun r o H' => r = .bool (l.all p) ∧ o = own ∧ Le H H') := by
  refine Fn.enter Tryz.func114 rfl Tryz.ntmps114 rfl ?_; have hL := Le.refl H; refine Qj ?_; refine Qh ?_
  refine Zx (c := #[_]) rfl rfl rfl ?_; intro g3; refine Qe rfl rfl ?_; refine Q3 ?_
  refine Zy (fun H1 hle hz_g3 => ?_)
  have hL := Le.trans hL hle; have hA := rd.mono hle hA
  have hgc : cel H1 g3 0 = some (.func (.func fok) #[] #[]) := by
    have h := hz_g3 _ (List.mem_singleton.2 rfl)
    simp [cel, h]
  refine Qb rfl rfl ?_; refine TL.makeFunc (vs := []) (us := [_]) trivial ⟨rfl, trivial⟩ rfl ?_; refine Qs (contains_Expr hd hA (notok_Expr hd hgc (fun x hx c0 c1 c2 c3 H1 own1 hle hr => hok x hx c0 c1 c2 c3 H1 own1 (Le.trans hL hle) hr))) ⟨rfl, rfl, trivial⟩ rfl ?_
  rintro _ own H2 ⟨rfl, rfl, hle2⟩
  have hL := Le.trans hL hle2; refine Z1 rfl rfl ?_; refine Qe rfl rfl ?_; refine Qi ?_; refine Qc ?_; refine Qy ?_; refine Q5 0 rfl rfl ?_
  exact ⟨by rw [← List.not_all_eq_any_not, Bool.not_not], rfl, hL⟩
theorem index_Block {α : Type} {dx : α → List D} (hd : ∀ x, (dx x).length = 1) {p : α → Bool} {l : List α} {w0 : World} {H : Hp} {own : List Seg} {fc : FuncId} [Callable Tryz.prog fc] {gc : Nat} {v : Value} (hA : rd H (.s 1 (l.flatMap dx)) v) (hcl : ∀ x ∈ l, ∀ (c0 : Value) (H1 : Hp) (own1 : List Seg), Le H H1 → RdL H1 (dx x) [c0] → Fn Tryz.prog fc [c0, .pointer (some ⟨gc, 0, none⟩)] w0 H1 own1 (fun r o H' => r = .bool ((p) x) ∧ o = own1 ∧ Le H1 H')) :
    Fn Tryz.prog 140 [v, .func (.func fc) #[] #[.pointer (some ⟨gc, 0, none⟩)]] w0 H own (fun r o H' => r = .int .i64 (idxI p l 0) ∧ o = own ∧ Le H H') := by
  obtain ⟨A, c, rfl, hc1, hc2⟩ := elems_len (by omega) hd hA
  refine Fn.enter Tryz.func140 rfl Tryz.ntmps140 rfl ?_; have hL := Le.refl H; refine Qj ?_; refine Qh ?_; refine Qe rfl rfl ?_; refine Qi ?_; refine Qc ?_; refine Qj ?_; refine Qj ?_; refine Qh ?_; refine Qb rfl rfl ?_; refine Qn rfl rfl ?_; refine Qb rfl rfl ?_; refine Qi ?_; refine Qc ?_; refine Q6 ?_; refine Zv (fun n env' own' H' => ∃ k, n = l.length - k ∧ k ≤ l.length ∧ idxI p l 0 = idxI p (l.drop k) k ∧ env' = [(0, .slice A l.length c), (1, .func (.func fc) #[] #[.pointer (some ⟨gc, 0, none⟩)]), (7, .int .i64 (l.length : Int)), (8, .int .i64 (k : Int))] ∧ own' = own ∧ Le H H') l.length [(0, _), (1, _), (7, _), (8, _)] ⟨rfl, rfl, rfl, rfl, trivial⟩ ⟨0, by omega, by omega, rfl, rfl, rfl, Le.refl _⟩ ?_
  rintro n _ own H1 ⟨k, rfl, hk1, hix, rfl, rfl, hle0⟩
  have hL := Le.trans hL hle0; have hA := rd.mono hle0 hA; refine Qj ?_; refine Qh ?_
  refine Zz rfl rfl rfl (fun hlt => ?_) (fun hlt => ?_)
  ·
   obtain ⟨x, hx⟩ : ∃ x, l[k]? = some x := ⟨_, List.getElem?_eq_getElem (by omega)⟩
   obtain ⟨b1, o1, cs, rfl, hp, hpr, hcl1⟩ := elems_at (by omega) hd hA hx
   obtain ⟨c0, rfl⟩ := list_1 hcl1
   rw [drop_cons hx] at hix
   refine Qi ?_; refine Qc ?_; refine Qj ?_; refine Qv rfl ?_; refine Q2 ?_; refine Qc ?_; refine Qj ?_; refine Q6 ?_; refine Qj ?_; refine Qh ?_; refine Qb rfl rfl ?_; refine Qe rfl rfl ?_; refine Q3 ?_; refine Qb rfl rfl ?_; refine Qb rfl rfl ?_; refine Qb rfl rfl ?_; refine Qo (k) rfl rfl rfl (by omega) rfl ?_; refine Qp rfl (hp.1) rfl ?_; refine Z6 (vs := [_]) rfl (hcl x (List.mem_of_getElem? hx) _ _ _ hL hpr) ⟨rfl, trivial⟩ rfl rfl ?_
   rintro _ own H2 ⟨rfl, rfl, hle2⟩
   have hL := Le.trans hL hle2; have hle0 := Le.trans hle0 hle2
   rcases hpx : p x with _ | _
   rotate_left
   ·
    refine Qi ?_; refine Qc ?_; refine Qv rfl ?_; refine Qj ?_; refine Qh ?_; refine Qb rfl rfl ?_; refine Qe rfl rfl ?_; refine Qi ?_; refine Qc ?_; refine Qy ?_; refine Z0 ?_; refine Q0 ?_; refine Q0 ?_; refine Z0 ?_; refine Q0 ?_; refine Q5 0 rfl rfl ?_
    first
      | exact ⟨by rw [hix]; simp only [idxI, hpx, if_true], rfl, hL⟩
      | exact ⟨by rw [hix, List.drop_of_length_le (by omega)]; rfl, rfl, hL⟩
   ·
    refine Qi ?_; refine Qc ?_; refine Qr rfl ?_; refine Q2 ?_; refine Ze ?_; refine Qc ?_; refine Qh ?_; refine Zb rfl rfl rfl ⟨by omega, by omega⟩ ?_; refine Qb rfl rfl ?_; refine Qi ?_; refine Zn (own' := own) rfl ?_
    refine Zf (l.length - (k + 1)) [(0, _), (1, _), (7, _), (8, _)] (by omega) ⟨rfl, rfl, rfl, rfl, trivial⟩ ⟨k + 1, rfl, by omega, ?_, by simp, rfl, hle0⟩
    rw [hix]
    simp only [idxI, hpx, Bool.false_eq_true, if_false]
  ·
   refine Qi ?_; refine Qc ?_; refine Qj ?_; refine Qr rfl ?_; refine Zo ?_; refine Q1 ?_; refine Q1 ?_; refine Zp ?_; refine Zm ?_; refine Qe rfl rfl ?_; refine Qi ?_; refine Qc ?_; refine Qy ?_; refine Q5 0 rfl rfl ?_
   first
     | exact ⟨by rw [hix]; simp only [idxI, hpx, if_true], rfl, hL⟩
     | exact ⟨by rw [hix, List.drop_of_length_le (by omega)]; rfl, rfl, hL⟩
theorem contains_Block {α : Type} {dx : α → List D} (hd : ∀ x, (dx x).length = 1) {p : α → Bool} {l : List α} {w0 : World} {H : Hp} {own : List Seg} {fc : FuncId} [Callable Tryz.prog fc] {gc : Nat} {v : Value} (hA : rd H (.s 1 (l.flatMap dx)) v) (hcl : ∀ x ∈ l, ∀ (c0 : Value) (H1 : Hp) (own1 : List Seg), Le H H1 → RdL H1 (dx x) [c0] → Fn Tryz.prog fc [c0, .pointer (some ⟨gc, 0, none⟩)] w0 H1 own1 (fun r o H' => r = .bool ((p) x) ∧ o = own1 ∧ Le H1 H')) :
    Fn Tryz.prog 130 [v, .func (.func fc) #[] #[.pointer (some ⟨gc, 0, none⟩)]] w0 H own (fun r o H' => r = .bool (l.any p) ∧ o = own ∧ Le H H') := by
  refine Fn.enter Tryz.func130 rfl Tryz.ntmps130 rfl ?_; have hL := Le.refl H; refine Qj ?_; refine Qh ?_; refine Qe rfl rfl ?_; refine Q3 ?_; refine Qb rfl rfl ?_; refine Qb rfl rfl ?_; refine Qs (index_Block hd hA hcl) ⟨rfl, rfl, trivial⟩ rfl ?_
  rintro _ own H2 ⟨rfl, rfl, hle2⟩
  have hL := Le.trans hL hle2; refine TL.geq rfl rfl rfl ?_
  rw [idxI_any]
  refine Qe rfl rfl ?_; refine Qi ?_; refine Qc ?_; refine Qy ?_; refine Q5 0 rfl rfl ?_
  exact ⟨rfl, rfl, hL⟩
theorem notok_Block {α : Type} {dx : α → List D} (hd : ∀ x, (dx x).length = 1) {p : α → Bool} {l : List α} {w0 : World} {H : Hp} {fok : FuncId} [Callable Tryz.prog fok] {gc : Nat} (hgc : cel H gc 0 = some (.func (.func fok) #[] #[])) (hok : ∀ x ∈ l, ∀ (c0 : Value) (H1 : Hp) (own1 : List Seg), Le H H1 → RdL H1 (dx x) [c0] → Fn Tryz.prog fok [c0] w0 H1 own1 (fun r o H' => r = .bool ((p) x) ∧ o = own1 ∧ Le H1 H')) :
    ∀ x ∈ l, ∀ (c0 : Value) (H1 : Hp) (own1 : List Seg), Le H H1 → RdL H1 (dx x) [c0] → Fn Tryz.prog 131 [c0, .pointer (some ⟨gc, 0, none⟩)] w0 H1 own1 (fun r o H' => r = .bool ((fun x => !p x) x) ∧ o = own1 ∧ Le H1 H') := by
  intro x hx c0 H1 own1 hle hr; have hgc := cel_le hle hgc; refine Fn.enter Tryz.func131 rfl Tryz.ntmps131 rfl ?_; have hL := Le.refl H1; refine Qj ?_; refine Qh ?_; refine Qe rfl rfl ?_; refine Q3 ?_; refine Qp rfl (hgc) rfl ?_; refine Qb rfl rfl ?_; refine Z6 (vs := [_]) rfl (hok x hx _ _ _ (Le.trans hle hL) hr) ⟨rfl, trivial⟩ rfl rfl ?_
  rintro _ _ H2 ⟨rfl, rfl, hle2⟩
  have hL := Le.trans hL hle2; refine Z1 rfl rfl ?_; refine Qe rfl rfl ?_; refine Qi ?_; refine Qc ?_; refine Qy ?_; refine Q5 0 rfl rfl ?_
  exact ⟨rfl, rfl, hL⟩
theorem every_Block {α : Type} {dx : α → List D} (hd : ∀ x, (dx x).length = 1) {p : α → Bool} {l : List α} {w0 : World} {H : Hp} {own : List Seg} {fok : FuncId} [Callable Tryz.prog fok] {v : Value} (hA : rd H (.s 1 (l.flatMap dx)) v) (hok : ∀ x ∈ l, ∀ (c0 : Value) (H1 : Hp) (own1 : List Seg), Le H H1 → RdL H1 (dx x) [c0] → Fn Tryz.prog fok [c0] w0 H1 own1 (fun r o H' => r = .bool ((p) x) ∧ o = own1 ∧ Le H1 H')) :
    Fn Tryz.prog 117 [v, .func (.func fok) #[] #[]] w0 H own (fun r o H' => r = .bool (l.all p) ∧ o = own ∧ Le H H') := by
  refine Fn.enter Tryz.func117 rfl Tryz.ntmps117 rfl ?_; have hL := Le.refl H; refine Qj ?_; refine Qh ?_
  refine Zx (c := #[_]) rfl rfl rfl ?_; intro g3; refine Qe rfl rfl ?_; refine Q3 ?_
  refine Zy (fun H1 hle hz_g3 => ?_)
  have hL := Le.trans hL hle; have hA := rd.mono hle hA
  have hgc : cel H1 g3 0 = some (.func (.func fok) #[] #[]) := by
    have h := hz_g3 _ (List.mem_singleton.2 rfl)
    simp [cel, h]
  refine Qb rfl rfl ?_; refine TL.makeFunc (vs := []) (us := [_]) trivial ⟨rfl, trivial⟩ rfl ?_; refine Qs (contains_Block hd hA (notok_Block hd hgc (fun x hx c0 H1 own1 hle hr => hok x hx c0 H1 own1 (Le.trans hL hle) hr))) ⟨rfl, rfl, trivial⟩ rfl ?_
  rintro _ own H2 ⟨rfl, rfl, hle2⟩
  have hL := Le.trans hL hle2; refine Z1 rfl rfl ?_; refine Qe rfl rfl ?_; refine Qi ?_; refine Qc ?_; refine Qy ?_; refine Q5 0 rfl rfl ?_
  exact ⟨by rw [← List.not_all_eq_any_not, Bool.not_not], rfl, hL⟩


end Go.Proofs.YtaomdfcplamenaaGreatDoor.K

namespace Go.Proofs.YtaomdfcplamenaaGreatDoor.K
open Go Go.RowKit

inductive Ty4 where
  | mk (k : Int) (nm : ByteArray) (n : Int) (ts : List Ty4)
mutual
def Ty4.d : Ty4 → List D
  | .mk k nm n ts => [.c (.int .i64 k), .c (.string nm), .c (.int .i64 n), .s 4 (Ty4.ds ts)]
def Ty4.ds : List Ty4 → List D
  | [] => []
  | t :: r => t.d ++ Ty4.ds r
end
inductive Ex where
  | mk (k : Int) (nm : ByteArray) (n : Int) (ks : List Ex)
mutual
def Ex.d : Ex → List D
  | .mk k nm n ks => [.c (.int .i64 k), .c (.string nm), .c (.int .u16 n), .s 4 (Ex.ds ks)]
def Ex.ds : List Ex → List D
  | [] => []
  | t :: r => t.d ++ Ex.ds r
end
inductive Sm where
  | mk (k : Int) (nm : ByteArray) (t : Ty4) (n : Int) (xs : List Ex) (b el : List Sm) (cs : List (List Sm))
mutual
def Sm.d : Sm → List D
  | .mk k nm t n xs b el cs => [.c (.int .i64 k), .c (.string nm)] ++ t.d ++ [.c (.int .u16 n), .s 4 (Ex.ds xs), .s 11 (Sm.ds b), .s 11 (Sm.ds el), .s 1 (Sm.cd cs)]
def Sm.ds : List Sm → List D
  | [] => []
  | t :: r => t.d ++ Sm.ds r
def Sm.cd : List (List Sm) → List D
  | [] => []
  | c :: r => .s 11 (Sm.ds c) :: Sm.cd r
end
/-! renaming: to gives the names, lo says which are locals -/
mutual
def renE (to : ByteArray → ByteArray) (lo : ByteArray → Bool) : Ex → Ex
  | .mk k nm n ks => .mk k (if k = 14 ∨ (k = 2 ∧ lo nm = false) then to nm else nm) n (renEs to lo ks)
def renEs (to : ByteArray → ByteArray) (lo : ByteArray → Bool) : List Ex → List Ex
  | [] => []
  | t :: r => renE to lo t :: renEs to lo r
end
mutual
def renS (to : ByteArray → ByteArray) (lo : ByteArray → Bool) : Sm → Sm
  | .mk k nm t n xs b el cs => .mk k nm t n (renEs to lo xs) (renSs to lo b) (renSs to lo el) (renCs to lo cs)
def renSs (to : ByteArray → ByteArray) (lo : ByteArray → Bool) : List Sm → List Sm
  | [] => []
  | t :: r => renS to lo t :: renSs to lo r
def renCs (to : ByteArray → ByteArray) (lo : ByteArray → Bool) : List (List Sm) → List (List Sm)
  | [] => []
  | c :: r => renSs to lo c :: renCs to lo r
end
/-! The names that statements declare. -/
mutual
def decS : Sm → List ByteArray
  | .mk k nm _ _ _ b el cs => (if k = 1 then [nm] else []) ++ decSs b ++ decSs el ++ decCs cs
def decSs : List Sm → List ByteArray
  | [] => []
  | t :: r => decS t ++ decSs r
def decCs : List (List Sm) → List ByteArray
  | [] => []
  | c :: r => decSs c ++ decCs r
end
structure Par where
  nm : ByteArray
  ty : Ty4
def Par.d (f : Par) : List D := .c (.string f.nm) :: f.ty.d
def Par.ds (l : List Par) : List D := l.flatMap Par.d
structure Fu where
  nm : ByteArray
  ps : List Par
  res : Ty4
  body : List Sm
  fl : Bool
  x : Int
  y : Int
def Fu.d (f : Fu) : List D := [.c (.string f.nm), .s 5 (Par.ds f.ps)] ++ f.res.d ++ [.s 11 (Sm.ds f.body), .c (.bool f.fl), .c (.int .i64 f.x), .c (.int .u16 f.y)]
/-! rows of structs: n cells each -/
def dsOf {α : Type} (d : α → List D) (l : List α) : List D := l.flatMap d
theorem dsOf_len {α : Type} {d : α → List D} {n : Nat} (hd : ∀ a, (d a).length = n) : ∀ l : List α, (dsOf d l).length = l.length * n
  | [] => by simp [dsOf]
  | a :: r => by
    have := dsOf_len hd r
    simp only [dsOf, List.flatMap_cons, List.length_append, hd, List.length_cons] at this ⊢
    rw [this, Nat.add_mul]; omega
theorem Ty4.ds_of : ∀ l : List Ty4, Ty4.ds l = dsOf Ty4.d l
  | [] => rfl
  | t :: r => by simp only [Ty4.ds, Ty4.ds_of r, dsOf, List.flatMap_cons]
theorem Ex.ds_of : ∀ l : List Ex, Ex.ds l = dsOf Ex.d l
  | [] => rfl
  | t :: r => by simp only [Ex.ds, Ex.ds_of r, dsOf, List.flatMap_cons]
theorem Sm.ds_of : ∀ l : List Sm, Sm.ds l = dsOf Sm.d l
  | [] => rfl
  | t :: r => by simp only [Sm.ds, Sm.ds_of r, dsOf, List.flatMap_cons]
theorem Ty4.d_len (t : Ty4) : t.d.length = 4 := by cases t; simp [Ty4.d]
theorem Ex.d_len (t : Ex) : t.d.length = 4 := by cases t; simp [Ex.d]
theorem Sm.d_len (t : Sm) : t.d.length = 11 := by cases t; simp [Sm.d, Ty4.d_len]
theorem Par.d_len (f : Par) : f.d.length = 5 := by simp [Par.d, Ty4.d_len]
/-! what the makers make -/
def bs (l : List UInt8) : ByteArray := ⟨l.toArray⟩
end Go.Proofs.YtaomdfcplamenaaGreatDoor.K

namespace Go.Proofs.YtaomdfcplamenaaGreatDoor.K
open Go Go.RowKit Go.Proofs

def letterN (n : Int) : Bool := decide (97 ≤ orI .u8 n 32) && decide (orI .u8 n 32 ≤ 122)
def digitN (n : Int) : Bool := decide (48 ≤ n) && decide (n ≤ 57)
def partN (n : Int) : Bool := letterN n || digitN n || decide (n = 95)
theorem syn_letter {n : Int} {w0 : World} {H : Hp} {own : List Seg} : Fn Tryz.prog 91 [.int .u8 n] w0 H own (fun r o H' => r = .bool (letterN n) ∧ o = own ∧ Le H H') := by
  refine Fn.enter Tryz.func91 rfl Tryz.ntmps91 rfl ?_; have hL := Le.refl H; refine Qj ?_; refine Qh ?_; refine Qe rfl rfl ?_; refine Q3 ?_; refine Qb rfl rfl ?_; refine TL.orW rfl rfl rfl ?_
  refine TL.geqB rfl rfl rfl (fun ha => ?_) (fun ha => ?_)
  ·
   refine Qb rfl rfl ?_; refine Qf rfl rfl rfl ?_; refine Qb rfl rfl ?_; refine Qf rfl rfl rfl ?_; refine TL.orW rfl rfl rfl ?_; refine Qf rfl rfl rfl ?_
   refine TL.leqB rfl rfl rfl (fun hb => ?_) (fun hb => ?_)
   ·
    refine Qz rfl rfl rfl rfl ?_; refine Qe rfl rfl ?_; refine Qi ?_; refine Qc ?_; refine Qy ?_; refine Q5 0 rfl rfl ?_
    refine ⟨?_, rfl, hL⟩
    first
      | (simp [letterN, ha, hb]; done)
      | (simp [letterN, ha]; done)
      | (simp [letterN]; omega)
   ·
    refine Qz rfl rfl rfl rfl ?_; refine Qe rfl rfl ?_; refine Qi ?_; refine Qc ?_; refine Qy ?_; refine Q5 0 rfl rfl ?_
    refine ⟨?_, rfl, hL⟩
    first
      | (simp [letterN, ha, hb]; done)
      | (simp [letterN, ha]; done)
      | (simp [letterN]; omega)
  ·
   refine Qb rfl rfl ?_; refine Ql rfl rfl rfl rfl ?_; refine Ql rfl rfl rfl rfl ?_; refine Ql rfl rfl rfl rfl ?_; refine Qx rfl rfl rfl rfl ?_; refine Qe rfl rfl ?_; refine Qi ?_; refine Qc ?_; refine Qy ?_; refine Q5 0 rfl rfl ?_
   refine ⟨?_, rfl, hL⟩
   first
     | (simp [letterN, ha, hb]; done)
     | (simp [letterN, ha]; done)
     | (simp [letterN]; omega)
theorem syn_digit {n : Int} {w0 : World} {H : Hp} {own : List Seg} : Fn Tryz.prog 107 [.int .u8 n] w0 H own (fun r o H' => r = .bool (digitN n) ∧ o = own ∧ Le H H') := by
  refine Fn.enter Tryz.func107 rfl Tryz.ntmps107 rfl ?_; have hL := Le.refl H; refine Qj ?_; refine Qh ?_; refine Qe rfl rfl ?_; refine Q3 ?_; refine Qb rfl rfl ?_
  refine TL.geqB rfl rfl rfl (fun ha => ?_) (fun ha => ?_)
  ·
   refine Qb rfl rfl ?_; refine Qf rfl rfl rfl ?_; refine Qb rfl rfl ?_; refine Qf rfl rfl rfl ?_
   refine TL.leqB rfl rfl rfl (fun hb => ?_) (fun hb => ?_)
   ·
    refine Qz rfl rfl rfl rfl ?_; refine Qe rfl rfl ?_; refine Qi ?_; refine Qc ?_; refine Qy ?_; refine Q5 0 rfl rfl ?_
    refine ⟨?_, rfl, hL⟩
    first
      | (simp [digitN, ha, hb]; done)
      | (simp [digitN, ha]; done)
      | (simp [digitN]; omega)
   ·
    refine Qz rfl rfl rfl rfl ?_; refine Qe rfl rfl ?_; refine Qi ?_; refine Qc ?_; refine Qy ?_; refine Q5 0 rfl rfl ?_
    refine ⟨?_, rfl, hL⟩
    first
      | (simp [digitN, ha, hb]; done)
      | (simp [digitN, ha]; done)
      | (simp [digitN]; omega)
  ·
   refine Qb rfl rfl ?_; refine Ql rfl rfl rfl rfl ?_; refine Ql rfl rfl rfl rfl ?_; refine Qx rfl rfl rfl rfl ?_; refine Qe rfl rfl ?_; refine Qi ?_; refine Qc ?_; refine Qy ?_; refine Q5 0 rfl rfl ?_
   refine ⟨?_, rfl, hL⟩
   first
     | (simp [digitN, ha, hb]; done)
     | (simp [digitN, ha]; done)
     | (simp [digitN]; omega)
theorem syn_part {n : Int} {w0 : World} {H : Hp} {own : List Seg} : Fn Tryz.prog 93 [.int .u8 n] w0 H own (fun r o H' => r = .bool (partN n) ∧ o = own ∧ Le H H') := by
  refine Fn.enter Tryz.func93 rfl Tryz.ntmps93 rfl ?_; have hL := Le.refl H; refine Qj ?_; refine Qh ?_; refine Qe rfl rfl ?_; refine Q3 ?_; refine Qb rfl rfl ?_; refine Qs (syn_letter) ⟨rfl, trivial⟩ rfl ?_
  rintro _ own H4 ⟨rfl, rfl, hle4⟩
  have hL := Le.trans hL hle4
  rcases ha : letterN n with _ | _
  rotate_left
  ·
   refine Qb rfl rfl ?_; refine Ql rfl rfl rfl rfl ?_; refine Ql rfl rfl rfl rfl ?_; refine Qz rfl rfl rfl rfl ?_; refine Qb rfl rfl ?_; refine Ql rfl rfl rfl rfl ?_; refine Ql rfl rfl rfl rfl ?_; refine Qz rfl rfl rfl rfl ?_; refine Qe rfl rfl ?_; refine Qi ?_; refine Qc ?_; refine Qy ?_; refine Q5 0 rfl rfl ?_
   refine ⟨?_, rfl, hL⟩
   first
     | (simp [partN, ha, hb, hc]; done)
     | (simp [partN, ha, hb]; done)
     | (simp [partN, ha]; done)
  ·
   refine Qb rfl rfl ?_; refine Qf rfl rfl rfl ?_; refine Qb rfl rfl ?_; refine Qf rfl rfl rfl ?_; refine Qs (syn_digit) ⟨rfl, trivial⟩ rfl ?_
   rintro _ own H7 ⟨rfl, rfl, hle7⟩
   have hL := Le.trans hL hle7
   rcases hb : digitN n with _ | _
   rotate_left
   ·
    refine Qx rfl rfl rfl rfl ?_; refine Qb rfl rfl ?_; refine Ql rfl rfl rfl rfl ?_; refine Ql rfl rfl rfl rfl ?_; refine Qz rfl rfl rfl rfl ?_; refine Qe rfl rfl ?_; refine Qi ?_; refine Qc ?_; refine Qy ?_; refine Q5 0 rfl rfl ?_
    refine ⟨?_, rfl, hL⟩
    first
      | (simp [partN, ha, hb, hc]; done)
      | (simp [partN, ha, hb]; done)
      | (simp [partN, ha]; done)
   ·
    refine Qx rfl rfl rfl rfl ?_; refine Qb rfl rfl ?_; refine Qf rfl rfl rfl ?_; refine Qb rfl rfl ?_; refine Qf rfl rfl rfl ?_
    refine TL.eqlB rfl rfl rfl (fun hc => ?_) (fun hc => ?_)
    ·
     refine Qx rfl rfl rfl rfl ?_; refine Qe rfl rfl ?_; refine Qi ?_; refine Qc ?_; refine Qy ?_; refine Q5 0 rfl rfl ?_
     refine ⟨?_, rfl, hL⟩
     first
       | (simp [partN, ha, hb, hc]; done)
       | (simp [partN, ha, hb]; done)
       | (simp [partN, ha]; done)
    ·
     refine Qx rfl rfl rfl rfl ?_; refine Qe rfl rfl ?_; refine Qi ?_; refine Qc ?_; refine Qy ?_; refine Q5 0 rfl rfl ?_
     refine ⟨?_, rfl, hL⟩
     first
       | (simp [partN, ha, hb, hc]; done)
       | (simp [partN, ha, hb]; done)
       | (simp [partN, ha]; done)
def spanN (p : UInt8 → Bool) : List UInt8 → Nat → Nat
  | [], k => k
  | b :: r, k => if p b then spanN p r (k + 1) else k
theorem byte_get (s : ByteArray) (k : Nat) : s[k]? = s.data.toList[k]? := by
  rw [Array.getElem?_toList]
  by_cases h : k < s.size
  · have h2 : k < s.data.size := h
    rw [getElem?_pos s k h, Array.getElem?_eq_getElem h2]; rfl
  · have h2 : ¬ k < s.data.size := h
    rw [getElem?_neg s k h, Array.getElem?_eq_none (by omega)]
theorem syn_span {fp : FuncId} [Callable Tryz.prog fp] {p : UInt8 → Bool} {s : ByteArray} (hs : s.size ≤ 9223372036854775806) {w0 : World} {H : Hp} {own : List Seg}
    (hp : ∀ (b : UInt8) (H1 : Hp) (own1 : List Seg), Fn Tryz.prog fp [.int .u8 (b.toNat : Int)] w0 H1 own1 (fun r o H' => r = .bool (p b) ∧ o = own1 ∧ Le H1 H')) :
    Fn Tryz.prog 92 [.string s, .func (.func fp) #[] #[]] w0 H own (fun r o H' => r = .int .i64 (spanN p s.data.toList 0 : Int) ∧ o = own ∧ Le H H') := by
  have hsz : s.data.toList.length = s.size := rfl
  refine Fn.enter Tryz.func92 rfl Tryz.ntmps92 rfl ?_; have hL := Le.refl H; refine Qj ?_; refine Qh ?_; refine Qe rfl rfl ?_; refine Qi ?_; refine Qc ?_; refine Qj ?_; refine Qj ?_; refine Qh ?_; refine Qb rfl rfl ?_; refine TL.len_string rfl rfl ?_; refine Qb rfl rfl ?_; refine Qi ?_; refine Qc ?_; refine Q6 ?_; refine Zv (fun n env' own' H' => ∃ k, n = s.size - k ∧ k ≤ s.size ∧ spanN p s.data.toList 0 = spanN p (s.data.toList.drop k) k ∧ env' = [(0, .string s), (1, .func (.func fp) #[] #[]), (7, .int .i64 (s.size : Int)), (8, .int .i64 (k : Int))] ∧ own' = own ∧ Le H H') s.size [(0, _), (1, _), (7, _), (8, _)] ⟨rfl, rfl, rfl, rfl, trivial⟩ ⟨0, by omega, by omega, rfl, rfl, rfl, Le.refl _⟩ ?_
  rintro n _ own H1 ⟨k, rfl, hk1, hix, rfl, rfl, hle0⟩
  have hL := Le.trans hL hle0; refine Qj ?_; refine Qh ?_
  refine Zz rfl rfl rfl (fun hlt => ?_) (fun hlt => ?_)
  ·
   obtain ⟨b, hx⟩ : ∃ b, s.data.toList[k]? = some b := ⟨_, List.getElem?_eq_getElem (by omega)⟩
   refine Qi ?_; refine Qc ?_; refine Qj ?_; refine Qv rfl ?_; refine Q2 ?_; refine Qc ?_; refine Qj ?_; refine Q6 ?_; refine Qj ?_; refine Qh ?_; refine Qb rfl rfl ?_; refine Qe rfl rfl ?_; refine Q3 ?_; refine Qb rfl rfl ?_; refine Qb rfl rfl ?_; refine Qb rfl rfl ?_; refine TL.indexS k rfl rfl rfl (by rw [byte_get]; exact hx) rfl ?_
   refine Z6 (vs := [_]) rfl (hp b _ _) ⟨rfl, trivial⟩ rfl rfl ?_
   rintro _ own H2 ⟨rfl, rfl, hle2⟩
   have hL := Le.trans hL hle2; have hle0 := Le.trans hle0 hle2
   rcases hpx : p b with _ | _
   rotate_left
   ·
    refine Z1 rfl rfl ?_; refine Qi ?_; refine Qc ?_; refine Qr rfl ?_; refine Q2 ?_; refine Ze ?_; refine Qc ?_; refine Qh ?_; refine Zb rfl rfl rfl ⟨by omega, by omega⟩ ?_; refine Qb rfl rfl ?_; refine Qi ?_; refine Zn (own' := own) rfl ?_
    refine Zf (s.size - (k + 1)) [(0, _), (1, _), (7, _), (8, _)] (by omega) ⟨rfl, rfl, rfl, rfl, trivial⟩ ⟨k + 1, rfl, by omega, ?_, by simp, rfl, hle0⟩
    rw [hix, drop_cons hx]
    simp only [spanN, hpx, if_true]
   ·
    refine Z1 rfl rfl ?_; refine Qi ?_; refine Qc ?_; refine Qv rfl ?_; refine Qj ?_; refine Qh ?_; refine Qb rfl rfl ?_; refine Qe rfl rfl ?_; refine Qi ?_; refine Qc ?_; refine Qy ?_; refine Z0 ?_; refine Q0 ?_; refine Q0 ?_; refine Z0 ?_; refine Q0 ?_; refine Q5 0 rfl rfl ?_
    refine ⟨?_, rfl, hL⟩
    first
      | (rw [hix, drop_cons hx]; simp [spanN, hpx]; done)
      | (rw [hix, List.drop_of_length_le (by omega)]; simp only [spanN]; rw [show k = s.size by omega])
  ·
   refine Qi ?_; refine Qc ?_; refine Qj ?_; refine Qr rfl ?_; refine Zo ?_; refine Q1 ?_; refine Q1 ?_; refine Zp ?_; refine Zm ?_; refine Qb rfl rfl ?_; refine TL.len_string rfl rfl ?_; refine Qe rfl rfl ?_; refine Qi ?_; refine Qc ?_; refine Qy ?_; refine Q5 0 rfl rfl ?_
   refine ⟨?_, rfl, hL⟩
   first
     | (rw [hix, drop_cons hx]; simp [spanN, hpx]; done)
     | (rw [hix, List.drop_of_length_le (by omega)]; simp only [spanN]; rw [show k = s.size by omega])
theorem cmp_isNaN {s : ByteArray} {w0 : World} {H : Hp} {own : List Seg} : Fn Tryz.prog 122 [.string s] w0 H own (fun r o H' => r = .bool false ∧ o = own ∧ Le H H') := by
  refine Fn.enter Tryz.func122 rfl Tryz.ntmps122 rfl ?_; have hL := Le.refl H; refine Qj ?_; refine Qh ?_; refine Qe rfl rfl ?_; refine Q3 ?_; refine Qb rfl rfl ?_; refine Qb rfl rfl ?_; refine TL.neqS rfl rfl rfl ?_
  rw [decide_eq_false (by simp)]
  refine Qe rfl rfl ?_; refine Qi ?_; refine Qc ?_; refine Qy ?_; refine Q5 0 rfl rfl ?_
  exact ⟨rfl, rfl, hL⟩
theorem slices_isNaN {s : ByteArray} {w0 : World} {H : Hp} {own : List Seg} : Fn Tryz.prog 106 [.string s] w0 H own (fun r o H' => r = .bool false ∧ o = own ∧ Le H H') := by
  refine Fn.enter Tryz.func106 rfl Tryz.ntmps106 rfl ?_; have hL := Le.refl H; refine Qj ?_; refine Qh ?_; refine Qe rfl rfl ?_; refine Q3 ?_; refine Qb rfl rfl ?_; refine Qb rfl rfl ?_; refine TL.neqS rfl rfl rfl ?_
  rw [decide_eq_false (by simp)]
  refine Qe rfl rfl ?_; refine Qi ?_; refine Qc ?_; refine Qy ?_; refine Q5 0 rfl rfl ?_
  exact ⟨rfl, rfl, hL⟩
abbrev lessB (s t : ByteArray) : Bool := Op.bytesLess s.toList t.toList
theorem cmp_Less {s t : ByteArray} {w0 : World} {H : Hp} {own : List Seg} : Fn Tryz.prog 105 [.string s, .string t] w0 H own (fun r o H' => r = .bool (lessB s t) ∧ o = own ∧ Le H H') := by
  refine Fn.enter Tryz.func105 rfl Tryz.ntmps105 rfl ?_; have hL := Le.refl H; refine Qj ?_; refine Qh ?_; refine Qe rfl rfl ?_; refine Q3 ?_; refine Qb rfl rfl ?_; refine Qs (cmp_isNaN) ⟨rfl, trivial⟩ rfl ?_
  rintro _ own H6 ⟨rfl, rfl, hle6⟩
  have hL := Le.trans hL hle6; refine Qb rfl rfl ?_; refine Ql rfl rfl rfl rfl ?_; refine Ql rfl rfl rfl rfl ?_; refine Ql rfl rfl rfl rfl ?_; refine Qx rfl rfl rfl rfl ?_; refine Qb rfl rfl ?_; refine Qf rfl rfl rfl ?_; refine Qb rfl rfl ?_; refine Qf rfl rfl rfl ?_; refine Qb rfl rfl ?_; refine Qf rfl rfl rfl ?_; refine TL.lssS rfl rfl rfl ?_; refine Qx rfl rfl rfl rfl ?_; refine Qe rfl rfl ?_; refine Qi ?_; refine Qc ?_; refine Qy ?_; refine Q5 0 rfl rfl ?_
  exact ⟨rfl, rfl, hL⟩
def strs (l : List ByteArray) : List D := (l.map Value.string).map D.c
theorem binary_search {l : List ByteArray} {s : ByteArray} {k : Nat} (hk : k ≤ l.length) (hlen : l.length ≤ 1000000) (h1 : ∀ i x, l[i]? = some x → i < k → lessB x s = true) (h2 : ∀ i x, l[i]? = some x → k ≤ i → lessB x s = false) {w0 : World} {H : Hp} {own : List Seg} {v : Value} (hA : rd H (.s 1 (strs l)) v) :
    Fn Tryz.prog 89 [v, .string s] w0 H own (fun r o H' => r = .tuple #[.int .i64 (k : Int), .bool (decide (l[k]? = some s))] ∧ o = own ∧ Le H H') := by
  obtain ⟨A, c, rfl, hc1, hc2⟩ := vals_len hA
  simp only [List.length_map] at hA hc1 ⊢
  refine Fn.enter Tryz.func89 rfl Tryz.ntmps89 rfl ?_; have hL := Le.refl H; refine Qj ?_; refine Qh ?_; refine Qe rfl rfl ?_; refine Qe rfl rfl ?_; refine Q3 ?_; refine Qb rfl rfl ?_; refine Qn rfl rfl ?_; refine Qe rfl rfl ?_; refine Q3 ?_; refine Qb rfl rfl ?_; refine Qe rfl rfl ?_; refine Qe rfl rfl ?_; refine Qi ?_; refine Qc ?_; refine Qj ?_; refine Q6 ?_; refine Zv (fun n env' own' H' => ∃ (i j : Nat), n = j - i ∧ i ≤ k ∧ k ≤ j ∧ j ≤ l.length ∧ i ≤ j ∧ env' = [(0, .slice A l.length c), (1, .string s), (6, .int .i64 (l.length : Int)), (7, .int .i64 (i : Int)), (8, .int .i64 (j : Int))] ∧ own' = own ∧ Le H H') l.length [(0, _), (1, _), (6, _), (7, _), (8, _)] ⟨rfl, rfl, rfl, rfl, rfl, trivial⟩ ⟨0, l.length, by omega, by omega, by omega, by omega, by omega, rfl, rfl, Le.refl _⟩ ?_
  rintro n _ own H1 ⟨i, j, rfl, hi1, hj1, hj2, hij, rfl, rfl, hle0⟩
  have hL := Le.trans hL hle0; have hA := rd.mono hle0 hA; refine Qj ?_; refine Qj ?_; refine Qh ?_; refine Qb rfl rfl ?_; refine Qb rfl rfl ?_
  refine Zz rfl rfl rfl (fun hlt => ?_) (fun hlt => ?_)
  ·
   obtain ⟨m, hm⟩ : ∃ m, m = (i + j) / 2 := ⟨_, rfl⟩
   obtain ⟨x, hx⟩ : ∃ x, l[m]? = some x := ⟨_, List.getElem?_eq_getElem (by omega)⟩
   obtain ⟨b1, q1, rfl, hpx⟩ := vals_at hA (i := m) (u := .string x) (by simp [hx])
   have hw1 : IntKind.u64.wrap ((i : Int) + (j : Int)) = ((i + j : Nat) : Int) := by rw [IntWalk.u64_in _ ⟨by omega, by omega⟩]; omega
   have hw2 : ((i + j : Nat) : Int).fdiv (2 ^ (min (1 : Int).toNat IntKind.u64.bits)) = (m : Int) := by
     rw [show (2 : Int) ^ (min (1 : Int).toNat IntKind.u64.bits) = 2 from rfl, Int.fdiv_eq_ediv_of_nonneg _ (by omega)]
     omega
   have hw3 : IntKind.i64.wrap (m : Int) = (m : Int) := wrap_i64 ⟨by omega, by omega⟩
   refine Qi ?_; refine Qc ?_; refine Qv rfl ?_; refine Q2 ?_; refine Qc ?_; refine Q6 ?_; refine Qj ?_; refine Qh ?_; refine Qb rfl rfl ?_; refine Qb rfl rfl ?_; refine Zb rfl rfl rfl ⟨by omega, by omega⟩ ?_; refine TL.convI rfl rfl ?_
   rw [hw1]
   refine TL.shr rfl rfl (by omega) rfl ?_
   rw [hw2]
   refine TL.convI rfl rfl ?_
   rw [hw3]
   refine Qe rfl rfl ?_; refine Q3 ?_; refine Qb rfl rfl ?_; refine Qb rfl rfl ?_; refine Qo (m) rfl rfl rfl (by omega) rfl ?_; refine Qp rfl (hpx) rfl ?_; refine Qb rfl rfl ?_; refine Qs (cmp_Less) ⟨rfl, rfl, trivial⟩ rfl ?_
   rintro _ own H2 ⟨rfl, rfl, hle2⟩
   have hL := Le.trans hL hle2; have hle0 := Le.trans hle0 hle2
   rcases hlx : lessB x s with _ | _
   rotate_left
   ·
    have hmk : m < k := by
      by_cases hq : m < k
      · exact hq
      · have := h2 m x hx (by omega); rw [this] at hlx; cases hlx
    refine Qi ?_; refine Qc ?_; refine Qv rfl ?_; refine Qh ?_; refine Qb rfl rfl ?_; refine Zb rfl rfl rfl ⟨by omega, by omega⟩ ?_; refine Qe rfl rfl ?_; refine Qi ?_; refine Ze ?_; refine Zn (own' := own) rfl ?_
    first
      | exact Zf (j - (m + 1)) [(0, _), (1, _), (6, _), (7, _), (8, _)] (by omega) ⟨rfl, rfl, rfl, rfl, rfl, trivial⟩ ⟨m + 1, j, rfl, by omega, by omega, by omega, by omega, by simp, rfl, hle0⟩
      | exact Zf (m - i) [(0, _), (1, _), (6, _), (7, _), (8, _)] (by omega) ⟨rfl, rfl, rfl, rfl, rfl, trivial⟩ ⟨i, m, rfl, by omega, by omega, by omega, by omega, by simp, rfl, hle0⟩
   ·
    have hmk : k ≤ m := by
      by_cases hq : m < k
      · have := h1 m x hx hq; rw [this] at hlx; cases hlx
      · omega
    refine Qi ?_; refine Qc ?_; refine Qr rfl ?_; refine Qh ?_; refine Qb rfl rfl ?_; refine Qe rfl rfl ?_; refine Qi ?_; refine Ze ?_; refine Zn (own' := own) rfl ?_
    first
      | exact Zf (j - (m + 1)) [(0, _), (1, _), (6, _), (7, _), (8, _)] (by omega) ⟨rfl, rfl, rfl, rfl, rfl, trivial⟩ ⟨m + 1, j, rfl, by omega, by omega, by omega, by omega, by simp, rfl, hle0⟩
      | exact Zf (m - i) [(0, _), (1, _), (6, _), (7, _), (8, _)] (by omega) ⟨rfl, rfl, rfl, rfl, rfl, trivial⟩ ⟨i, m, rfl, by omega, by omega, by omega, by omega, by simp, rfl, hle0⟩
  ·
   refine Qi ?_; refine Qc ?_; refine Qr rfl ?_; refine Zo ?_; refine Q1 ?_; refine Q1 ?_; refine Zp ?_; refine Qc ?_; refine Qj ?_
   obtain rfl : i = k := by omega
   refine Qh ?_; refine Qb rfl rfl ?_; refine Qb rfl rfl ?_; refine Qb rfl rfl ?_
   refine Zz rfl rfl rfl (fun hkl => ?_) (fun hkl => ?_)
   ·
    obtain ⟨x, hx⟩ : ∃ x, l[i]? = some x := ⟨_, List.getElem?_eq_getElem (by omega)⟩
    obtain ⟨b1, q1, rfl, hpx⟩ := vals_at hA (i := i) (u := .string x) (by simp [hx])
    refine Qb rfl rfl ?_; refine Qf rfl rfl rfl ?_; refine Qb rfl rfl ?_; refine Qf rfl rfl rfl ?_; refine Qb rfl rfl ?_; refine Qf rfl rfl rfl ?_; refine Qo (i) rfl rfl rfl (by omega) rfl ?_; refine Qf rfl rfl rfl ?_; refine Qp rfl (hpx) rfl ?_; refine Qf rfl rfl rfl ?_; refine Qb rfl rfl ?_; refine Qf rfl rfl rfl ?_
    refine TL.eqlSB rfl rfl rfl (fun hxs => ?_) (fun hxs => ?_)
    ·
     refine Qf rfl rfl rfl ?_; refine Qb rfl rfl ?_; refine Ql rfl rfl rfl rfl ?_; refine Ql rfl rfl rfl rfl ?_; refine Ql rfl rfl rfl rfl ?_; refine Ql rfl rfl rfl rfl ?_; refine Ql rfl rfl rfl rfl ?_; refine Ql rfl rfl rfl rfl ?_; refine Zk rfl rfl rfl ?_; refine Zk rfl rfl rfl ?_; refine Ql rfl rfl rfl rfl ?_; refine Qf rfl rfl rfl ?_; refine Qz rfl rfl rfl rfl ?_; refine Qz rfl rfl rfl rfl ?_; refine Qe rfl rfl ?_; refine Qe rfl rfl ?_; refine Qi ?_; refine Qc ?_; refine Qy ?_; refine TQ.ret2 0 rfl rfl rfl ?_
     refine ⟨?_, rfl, hL⟩
     first
       | (rw [hx, hxs]; simp; done)
       | (rw [hx]; simp [hxs]; done)
       | (rw [List.getElem?_eq_none (by omega)]; rfl)
    ·
     refine Qf rfl rfl rfl ?_; refine Qb rfl rfl ?_; refine Qf rfl rfl rfl ?_; refine Qb rfl rfl ?_; refine Qf rfl rfl rfl ?_; refine Qb rfl rfl ?_; refine Qf rfl rfl rfl ?_; refine Qo (i) rfl rfl rfl (by omega) rfl ?_; refine Qf rfl rfl rfl ?_; refine Qp rfl (hpx) rfl ?_; refine Qf rfl rfl rfl ?_; refine Qs (slices_isNaN) ⟨rfl, trivial⟩ rfl ?_
     rintro _ own H47 ⟨rfl, rfl, hle47⟩
     have hL := Le.trans hL hle47; refine Qf rfl rfl rfl ?_; refine Qb rfl rfl ?_; refine Ql rfl rfl rfl rfl ?_; refine Ql rfl rfl rfl rfl ?_; refine Qf rfl rfl rfl ?_; refine Qx rfl rfl rfl rfl ?_; refine Qf rfl rfl rfl ?_; refine Qx rfl rfl rfl rfl ?_; refine Qz rfl rfl rfl rfl ?_; refine Qe rfl rfl ?_; refine Qe rfl rfl ?_; refine Qi ?_; refine Qc ?_; refine Qy ?_; refine TQ.ret2 0 rfl rfl rfl ?_
     refine ⟨?_, rfl, hL⟩
     first
       | (rw [hx, hxs]; simp; done)
       | (rw [hx]; simp [hxs]; done)
       | (rw [List.getElem?_eq_none (by omega)]; rfl)
   ·
    refine Qb rfl rfl ?_; refine Ql rfl rfl rfl rfl ?_; refine Ql rfl rfl rfl rfl ?_; refine Ql rfl rfl rfl rfl ?_; refine Ql rfl rfl rfl rfl ?_; refine Ql rfl rfl rfl rfl ?_; refine Ql rfl rfl rfl rfl ?_; refine Ql rfl rfl rfl rfl ?_; refine Zk rfl rfl rfl ?_; refine Zk rfl rfl rfl ?_; refine Zk rfl rfl rfl ?_; refine Zk rfl rfl rfl ?_; refine Zk rfl rfl rfl ?_; refine Zk rfl rfl rfl ?_; refine Zk rfl rfl rfl ?_; refine Zk rfl rfl rfl ?_; refine Zk rfl rfl rfl ?_; refine Ql rfl rfl rfl rfl ?_; refine Qx rfl rfl rfl rfl ?_; refine Qe rfl rfl ?_; refine Qe rfl rfl ?_; refine Qi ?_; refine Qc ?_; refine Qy ?_; refine TQ.ret2 0 rfl rfl rfl ?_
    refine ⟨?_, rfl, hL⟩
    first
      | (rw [hx, hxs]; simp; done)
      | (rw [hx]; simp [hxs]; done)
      | (rw [List.getElem?_eq_none (by omega)]; rfl)
def kws : List ByteArray := [⟨#[97, 116]⟩, ⟨#[98, 108, 111, 99, 107]⟩, ⟨#[98, 114, 101, 97, 107]⟩, ⟨#[99, 97, 115, 101]⟩, ⟨#[99, 111, 110, 115, 116]⟩, ⟨#[99, 111, 110, 116, 105, 110, 117, 101]⟩, ⟨#[100, 101, 102, 97, 117, 108, 116]⟩, ⟨#[101, 108, 115, 101]⟩, ⟨#[101, 120, 116, 101, 114, 110]⟩, ⟨#[102, 110]⟩, ⟨#[104, 97, 108, 116]⟩, ⟨#[105, 102]⟩, ⟨#[105, 110]⟩, ⟨#[108, 101, 116]⟩, ⟨#[108, 111, 111, 112]⟩, ⟨#[109, 101, 109, 49, 54]⟩, ⟨#[109, 101, 109, 56]⟩, ⟨#[111, 117, 116]⟩, ⟨#[112, 111, 108, 108]⟩, ⟨#[114, 101, 116, 117, 114, 110]⟩, ⟨#[114, 111, 109, 49, 54]⟩, ⟨#[114, 111, 109, 56]⟩, ⟨#[115, 49, 54]⟩, ⟨#[115, 116, 114, 117, 99, 116]⟩, ⟨#[115, 119, 105, 116, 99, 104]⟩, ⟨#[117, 49, 54]⟩, ⟨#[117, 56]⟩, ⟨#[117, 110, 105, 111, 110]⟩, ⟨#[118, 97, 114]⟩, ⟨#[119, 104, 105, 108, 101]⟩]
theorem syn_keywords {w0 : World} {H : Hp} {own : List Seg} : Fn Tryz.prog 90 [] w0 H own (fun r o H' => rd H' (.s 1 (strs kws)) r ∧ o = own ∧ Le H H') := by
  refine Fn.enter Tryz.func90 rfl Tryz.ntmps90 rfl ?_; have hL := Le.refl H; refine Qj ?_; refine Qh ?_; refine Qe rfl rfl ?_; refine Q3 ?_
  refine Zg (r := [_, _, _, _, _, _, _, _, _, _, _, _, _, _, _, _, _, _, _, _, _, _, _, _, _, _, _, _, _, _]) [(0, [_]), (1, [_]), (2, [_]), (3, [_]), (4, [_]), (5, [_]), (6, [_]), (7, [_]), (8, [_]), (9, [_]), (10, [_]), (11, [_]), (12, [_]), (13, [_]), (14, [_]), (15, [_]), (16, [_]), (17, [_]), (18, [_]), (19, [_]), (20, [_]), (21, [_]), (22, [_]), (23, [_]), (24, [_]), (25, [_]), (26, [_]), (27, [_]), (28, [_]), (29, [_])] ⟨rfl, ⟨_, rfl, rfl⟩, rfl, ⟨_, rfl, rfl⟩, rfl, ⟨_, rfl, rfl⟩, rfl, ⟨_, rfl, rfl⟩, rfl, ⟨_, rfl, rfl⟩, rfl, ⟨_, rfl, rfl⟩, rfl, ⟨_, rfl, rfl⟩, rfl, ⟨_, rfl, rfl⟩, rfl, ⟨_, rfl, rfl⟩, rfl, ⟨_, rfl, rfl⟩, rfl, ⟨_, rfl, rfl⟩, rfl, ⟨_, rfl, rfl⟩, rfl, ⟨_, rfl, rfl⟩, rfl, ⟨_, rfl, rfl⟩, rfl, ⟨_, rfl, rfl⟩, rfl, ⟨_, rfl, rfl⟩, rfl, ⟨_, rfl, rfl⟩, rfl, ⟨_, rfl, rfl⟩, rfl, ⟨_, rfl, rfl⟩, rfl, ⟨_, rfl, rfl⟩, rfl, ⟨_, rfl, rfl⟩, rfl, ⟨_, rfl, rfl⟩, rfl, ⟨_, rfl, rfl⟩, rfl, ⟨_, rfl, rfl⟩, rfl, ⟨_, rfl, rfl⟩, rfl, ⟨_, rfl, rfl⟩, rfl, ⟨_, rfl, rfl⟩, rfl, ⟨_, rfl, rfl⟩, rfl, ⟨_, rfl, rfl⟩, rfl, ⟨_, rfl, rfl⟩, trivial⟩ rfl rfl rfl rfl ?_; intro g1
  refine Qe rfl rfl ?_; refine Qi ?_; refine Qc ?_; refine Qy ?_
  refine Zs (fun H1 hle hz_g1 => ?_)
  have hL := Le.trans hL hle; refine Q5 0 rfl rfl ?_
  exact ⟨rd.ofRow (Row.lit 9 1 30 g1 _ rfl (by omega)) hz_g1 (RdL.vals _) (Le.refl _), rfl, hL⟩
theorem less_irrefl : ∀ (a : List UInt8), Op.bytesLess a a = false
  | [] => rfl
  | x :: r => by simp [Op.bytesLess, less_irrefl r]
theorem less_trans : ∀ {a b c : List UInt8}, Op.bytesLess a b = true → Op.bytesLess b c = true → Op.bytesLess a c = true
  | _, [], _, h, _ => by simp [Op.bytesLess] at h
  | _, _ :: _, [], _, h => by simp [Op.bytesLess] at h
  | [], _ :: _, _ :: _, _, _ => rfl
  | x :: a, y :: b, z :: c, h, k => by
    simp only [Op.bytesLess, Bool.or_eq_true, decide_eq_true_eq, Bool.and_eq_true, beq_iff_eq] at h k ⊢
    rcases h with h | ⟨rfl, h⟩
    · rcases k with k | ⟨rfl, k⟩
      · exact .inl (UInt8.lt_trans h k)
      · exact .inl h
    · rcases k with k | ⟨rfl, k⟩
      · exact .inl k
      · exact .inr ⟨rfl, less_trans h k⟩
theorem sorted_split (s : ByteArray) : ∀ {l : List ByteArray}, l.Pairwise (fun a b => lessB a b = true) → ∃ k, k ≤ l.length ∧ (∀ i x, l[i]? = some x → i < k → lessB x s = true) ∧ (∀ i x, l[i]? = some x → k ≤ i → lessB x s = false)
  | [], _ => ⟨0, by simp, by simp, by simp⟩
  | a :: r, h => by
    rw [List.pairwise_cons] at h
    rcases Bool.eq_false_or_eq_true (lessB a s) with ha | ha
    · obtain ⟨k, h1, h2, h3⟩ := sorted_split s h.2
      refine ⟨k + 1, by simpa using h1, fun i x hx hi => ?_, fun i x hx hi => ?_⟩
      · cases i with
        | zero => simp at hx; subst hx; exact ha
        | succ i => exact h2 i x (by simpa using hx) (by omega)
      · cases i with
        | zero => omega
        | succ i => exact h3 i x (by simpa using hx) (by omega)
    · refine ⟨0, by simp, fun i x _ hi => by omega, fun i x hx _ => ?_⟩
      cases i with
      | zero => simp at hx; subst hx; exact ha
      | succ i =>
        have hm : x ∈ r := List.mem_of_getElem? (by simpa using hx)
        rcases Bool.eq_false_or_eq_true (lessB x s) with hx2 | hx2
        · have := less_trans (h.1 x hm) hx2
          have ha2 : Op.bytesLess a.toList s.toList = false := ha
          rw [ha2] at this; cases this
        · exact hx2
theorem found_mem {s : ByteArray} {l : List ByteArray} {k : Nat} (hs : l.Pairwise (fun a b => lessB a b = true)) (h1 : ∀ i x, l[i]? = some x → i < k → lessB x s = true) (h2 : ∀ i x, l[i]? = some x → k ≤ i → lessB x s = false) : decide (l[k]? = some s) = (l.any fun x => decide (x = s)) := by
  rw [Bool.eq_iff_iff]
  simp only [decide_eq_true_eq, List.any_eq_true]
  constructor
  · intro h; exact ⟨s, List.mem_of_getElem? h, rfl⟩
  · rintro ⟨_, h, rfl⟩
    obtain ⟨i, hi, hie⟩ := List.getElem_of_mem h
    subst hie
    have hg : l[i]? = some l[i] := List.getElem?_eq_getElem hi
    have hki : k ≤ i := by
      by_cases hq : k ≤ i
      · exact hq
      · have h3 := h1 i _ hg (by omega)
        have h4 := less_irrefl l[i].toList
        have h3' : Op.bytesLess l[i].toList l[i].toList = true := h3
        rw [h4] at h3'; cases h3'
    by_cases hq : k = i
    · subst hq; exact hg
    · have hk : k < l.length := by omega
      have h3 := List.pairwise_iff_getElem.1 hs k i hk hi (by omega)
      have h4 := h2 k _ (List.getElem?_eq_getElem hk) (Nat.le_refl _)
      rw [h4] at h3; cases h3
theorem kws_sorted : kws.Pairwise (fun a b => lessB a b = true) := by decide +kernel
def firstB (s : ByteArray) : Int := match s.data.toList with | [] => 0 | b :: _ => (b.toNat : Int)
def identN (s : ByteArray) : Bool := decide (s ≠ ⟨#[]⟩) && decide (s.size ≤ 24) && !(kws.any fun x => decide (x = s)) && letterN (firstB s) && decide (spanN (fun b => partN (b.toNat : Int)) s.data.toList 0 = s.size)
theorem first_at {s : ByteArray} (h : s ≠ ⟨#[]⟩) : ∃ b : UInt8, s[0]? = some b ∧ firstB s = (b.toNat : Int) := by
  obtain ⟨⟨l⟩⟩ := s
  cases l with
  | nil => exact absurd rfl h
  | cons b r => exact ⟨b, by rw [byte_get]; rfl, rfl⟩
theorem syn_identifier {s : ByteArray} (hs : s.size ≤ 9223372036854775806) {w0 : World} {H : Hp} {own : List Seg} : Fn Tryz.prog 73 [.string s] w0 H own (fun r o H' => r = .bool (identN s) ∧ o = own ∧ Le H H') := by
  obtain ⟨k, hk, hk1, hk2⟩ := sorted_split s kws_sorted
  have hfm := found_mem kws_sorted hk1 hk2
  have hkl : kws.length ≤ 1000000 := by decide
  refine Fn.enter Tryz.func73 rfl Tryz.ntmps73 rfl ?_; have hL := Le.refl H; refine Qj ?_; refine Qh ?_; refine Qe rfl rfl ?_; refine Q3 ?_; refine Qs (syn_keywords) trivial rfl ?_
  rintro vk own H2 ⟨hvk, rfl, hle2⟩
  have hL := Le.trans hL hle2; refine Qb rfl rfl ?_; refine Qs (binary_search hk hkl hk1 hk2 hvk) ⟨rfl, rfl, trivial⟩ rfl ?_
  rintro _ own H3 ⟨rfl, rfl, hle3⟩
  rw [hfm]
  have hL := Le.trans hL hle3; refine Qb rfl rfl ?_; refine Qu rfl rfl rfl ?_; refine Qu rfl rfl rfl ?_; refine Qe rfl rfl ?_; refine Qe rfl rfl ?_; refine Qi ?_; refine Qc ?_; refine Qj ?_
  rcases hin : (kws.any fun x => decide (x = s)) with _ | _
  ·
   refine Qh ?_; refine Qb rfl rfl ?_
   refine TL.neqSB rfl rfl rfl (fun hne => ?_) (fun hne => ?_)
   ·
    obtain ⟨b0, hb0, hf0⟩ := first_at hne
    refine Qb rfl rfl ?_; refine Qf rfl rfl rfl ?_; refine Qb rfl rfl ?_; refine Qf rfl rfl rfl ?_; refine TL.len_string rfl rfl ?_; refine Qf rfl rfl rfl ?_
    refine TL.leqB rfl rfl rfl (fun h24 => ?_) (fun h24 => ?_)
    ·
     refine Qz rfl rfl rfl rfl ?_; refine Qb rfl rfl ?_; refine Qf rfl rfl rfl ?_; refine Qb rfl rfl ?_; refine Qf rfl rfl rfl ?_; refine Z1 rfl rfl ?_; refine Qz rfl rfl rfl rfl ?_; refine Qb rfl rfl ?_; refine Qf rfl rfl rfl ?_; refine Qb rfl rfl ?_; refine Qf rfl rfl rfl ?_; refine TL.indexS 0 rfl rfl rfl hb0 rfl ?_
     rw [← hf0]
     refine Qf rfl rfl rfl ?_; refine Qs (syn_letter) ⟨rfl, trivial⟩ rfl ?_
     rintro _ own H5 ⟨rfl, rfl, hle5⟩
     have hL := Le.trans hL hle5
     rcases hl0 : letterN (firstB s) with _ | _
     rotate_left
     ·
      refine Qz rfl rfl rfl rfl ?_; refine Qb rfl rfl ?_; refine Qf rfl rfl rfl ?_; refine Qb rfl rfl ?_; refine Qf rfl rfl rfl ?_; refine Qs (syn_span (p := fun b => partN (b.toNat : Int)) hs (fun b H1 own1 => syn_part)) ⟨rfl, rfl, trivial⟩ rfl ?_
      rintro _ own H6 ⟨rfl, rfl, hle6⟩
      have hL := Le.trans hL hle6; refine Qf rfl rfl rfl ?_; refine Qb rfl rfl ?_; refine Qf rfl rfl rfl ?_; refine TL.len_string rfl rfl ?_; refine Qf rfl rfl rfl ?_
      refine TL.eqlB rfl rfl rfl (fun hsp => ?_) (fun hsp => ?_)
      ·
       refine Qz rfl rfl rfl rfl ?_; refine Qe rfl rfl ?_; refine Qi ?_; refine Qc ?_; refine Qy ?_; refine Q5 0 rfl rfl ?_
       refine ⟨?_, rfl, hL⟩
       have e : ∀ b c : Bool, b = c → Value.bool b = Value.bool c := fun _ _ h => by rw [h]
       refine e _ _ ?_
       clear e
       unfold identN
       first
         | (rw [decide_eq_true hne, decide_eq_true (show s.size ≤ 24 by omega), hin, hl0, decide_eq_true (show spanN (fun b => partN (b.toNat : Int)) s.data.toList 0 = s.size by omega)]; rfl)
         | (rw [decide_eq_false (show ¬ spanN (fun b => partN (b.toNat : Int)) s.data.toList 0 = s.size by omega), Bool.and_false]; done)
         | (rw [hl0]; simp; done)
         | (rw [hin]; simp; done)
         | (rw [decide_eq_false (show ¬ s.size ≤ 24 by omega)]; simp; done)
         | (rw [decide_eq_false (fun h => h hne)]; simp; done)
      ·
       refine Qz rfl rfl rfl rfl ?_; refine Qe rfl rfl ?_; refine Qi ?_; refine Qc ?_; refine Qy ?_; refine Q5 0 rfl rfl ?_
       refine ⟨?_, rfl, hL⟩
       have e : ∀ b c : Bool, b = c → Value.bool b = Value.bool c := fun _ _ h => by rw [h]
       refine e _ _ ?_
       clear e
       unfold identN
       first
         | (rw [decide_eq_true hne, decide_eq_true (show s.size ≤ 24 by omega), hin, hl0, decide_eq_true (show spanN (fun b => partN (b.toNat : Int)) s.data.toList 0 = s.size by omega)]; rfl)
         | (rw [decide_eq_false (show ¬ spanN (fun b => partN (b.toNat : Int)) s.data.toList 0 = s.size by omega), Bool.and_false]; done)
         | (rw [hl0]; simp; done)
         | (rw [hin]; simp; done)
         | (rw [decide_eq_false (show ¬ s.size ≤ 24 by omega)]; simp; done)
         | (rw [decide_eq_false (fun h => h hne)]; simp; done)
     ·
      refine Qz rfl rfl rfl rfl ?_; refine Qb rfl rfl ?_; refine Ql rfl rfl rfl rfl ?_; refine Ql rfl rfl rfl rfl ?_; refine Ql rfl rfl rfl rfl ?_; refine Ql rfl rfl rfl rfl ?_; refine Ql rfl rfl rfl rfl ?_; refine Qx rfl rfl rfl rfl ?_; refine Qe rfl rfl ?_; refine Qi ?_; refine Qc ?_; refine Qy ?_; refine Q5 0 rfl rfl ?_
      refine ⟨?_, rfl, hL⟩
      have e : ∀ b c : Bool, b = c → Value.bool b = Value.bool c := fun _ _ h => by rw [h]
      refine e _ _ ?_
      clear e
      unfold identN
      first
        | (rw [decide_eq_true hne, decide_eq_true (show s.size ≤ 24 by omega), hin, hl0, decide_eq_true (show spanN (fun b => partN (b.toNat : Int)) s.data.toList 0 = s.size by omega)]; rfl)
        | (rw [decide_eq_false (show ¬ spanN (fun b => partN (b.toNat : Int)) s.data.toList 0 = s.size by omega), Bool.and_false]; done)
        | (rw [hl0]; simp; done)
        | (rw [hin]; simp; done)
        | (rw [decide_eq_false (show ¬ s.size ≤ 24 by omega)]; simp; done)
        | (rw [decide_eq_false (fun h => h hne)]; simp; done)
    ·
     refine Qz rfl rfl rfl rfl ?_; refine Qb rfl rfl ?_; refine Ql rfl rfl rfl rfl ?_; refine Ql rfl rfl rfl rfl ?_; refine Qx rfl rfl rfl rfl ?_; refine Qb rfl rfl ?_; refine Ql rfl rfl rfl rfl ?_; refine Ql rfl rfl rfl rfl ?_; refine Ql rfl rfl rfl rfl ?_; refine Qx rfl rfl rfl rfl ?_; refine Qb rfl rfl ?_; refine Ql rfl rfl rfl rfl ?_; refine Ql rfl rfl rfl rfl ?_; refine Ql rfl rfl rfl rfl ?_; refine Ql rfl rfl rfl rfl ?_; refine Ql rfl rfl rfl rfl ?_; refine Qx rfl rfl rfl rfl ?_; refine Qe rfl rfl ?_; refine Qi ?_; refine Qc ?_; refine Qy ?_; refine Q5 0 rfl rfl ?_
     refine ⟨?_, rfl, hL⟩
     have e : ∀ b c : Bool, b = c → Value.bool b = Value.bool c := fun _ _ h => by rw [h]
     refine e _ _ ?_
     clear e
     unfold identN
     first
       | (rw [decide_eq_true hne, decide_eq_true (show s.size ≤ 24 by omega), hin, hl0, decide_eq_true (show spanN (fun b => partN (b.toNat : Int)) s.data.toList 0 = s.size by omega)]; rfl)
       | (rw [decide_eq_false (show ¬ spanN (fun b => partN (b.toNat : Int)) s.data.toList 0 = s.size by omega), Bool.and_false]; done)
       | (rw [hl0]; simp; done)
       | (rw [hin]; simp; done)
       | (rw [decide_eq_false (show ¬ s.size ≤ 24 by omega)]; simp; done)
       | (rw [decide_eq_false (fun h => h hne)]; simp; done)
   ·
    refine Qb rfl rfl ?_; refine Ql rfl rfl rfl rfl ?_; refine Ql rfl rfl rfl rfl ?_; refine Ql rfl rfl rfl rfl ?_; refine Qx rfl rfl rfl rfl ?_; refine Qb rfl rfl ?_; refine Ql rfl rfl rfl rfl ?_; refine Ql rfl rfl rfl rfl ?_; refine Qx rfl rfl rfl rfl ?_; refine Qb rfl rfl ?_; refine Ql rfl rfl rfl rfl ?_; refine Ql rfl rfl rfl rfl ?_; refine Ql rfl rfl rfl rfl ?_; refine Qx rfl rfl rfl rfl ?_; refine Qb rfl rfl ?_; refine Ql rfl rfl rfl rfl ?_; refine Ql rfl rfl rfl rfl ?_; refine Ql rfl rfl rfl rfl ?_; refine Ql rfl rfl rfl rfl ?_; refine Ql rfl rfl rfl rfl ?_; refine Qx rfl rfl rfl rfl ?_; refine Qe rfl rfl ?_; refine Qi ?_; refine Qc ?_; refine Qy ?_; refine Q5 0 rfl rfl ?_
    refine ⟨?_, rfl, hL⟩
    have e : ∀ b c : Bool, b = c → Value.bool b = Value.bool c := fun _ _ h => by rw [h]
    refine e _ _ ?_
    clear e
    unfold identN
    first
      | (rw [decide_eq_true hne, decide_eq_true (show s.size ≤ 24 by omega), hin, hl0, decide_eq_true (show spanN (fun b => partN (b.toNat : Int)) s.data.toList 0 = s.size by omega)]; rfl)
      | (rw [decide_eq_false (show ¬ spanN (fun b => partN (b.toNat : Int)) s.data.toList 0 = s.size by omega), Bool.and_false]; done)
      | (rw [hl0]; simp; done)
      | (rw [hin]; simp; done)
      | (rw [decide_eq_false (show ¬ s.size ≤ 24 by omega)]; simp; done)
      | (rw [decide_eq_false (fun h => h hne)]; simp; done)
  ·
   refine Qh ?_; refine Qb rfl rfl ?_
   refine TL.neqSB rfl rfl rfl (fun hne => ?_) (fun hne => ?_)
   ·
    obtain ⟨b0, hb0, hf0⟩ := first_at hne
    refine Qb rfl rfl ?_; refine Qf rfl rfl rfl ?_; refine Qb rfl rfl ?_; refine Qf rfl rfl rfl ?_; refine TL.len_string rfl rfl ?_; refine Qf rfl rfl rfl ?_
    refine TL.leqB rfl rfl rfl (fun h24 => ?_) (fun h24 => ?_)
    ·
     refine Qz rfl rfl rfl rfl ?_; refine Qb rfl rfl ?_; refine Qf rfl rfl rfl ?_; refine Qb rfl rfl ?_; refine Qf rfl rfl rfl ?_; refine Z1 rfl rfl ?_; refine Qz rfl rfl rfl rfl ?_; refine Qb rfl rfl ?_; refine Ql rfl rfl rfl rfl ?_; refine Ql rfl rfl rfl rfl ?_; refine Ql rfl rfl rfl rfl ?_; refine Qx rfl rfl rfl rfl ?_; refine Qb rfl rfl ?_; refine Ql rfl rfl rfl rfl ?_; refine Ql rfl rfl rfl rfl ?_; refine Ql rfl rfl rfl rfl ?_; refine Ql rfl rfl rfl rfl ?_; refine Ql rfl rfl rfl rfl ?_; refine Qx rfl rfl rfl rfl ?_; refine Qe rfl rfl ?_; refine Qi ?_; refine Qc ?_; refine Qy ?_; refine Q5 0 rfl rfl ?_
     refine ⟨?_, rfl, hL⟩
     have e : ∀ b c : Bool, b = c → Value.bool b = Value.bool c := fun _ _ h => by rw [h]
     refine e _ _ ?_
     clear e
     unfold identN
     first
       | (rw [decide_eq_true hne, decide_eq_true (show s.size ≤ 24 by omega), hin, hl0, decide_eq_true (show spanN (fun b => partN (b.toNat : Int)) s.data.toList 0 = s.size by omega)]; rfl)
       | (rw [decide_eq_false (show ¬ spanN (fun b => partN (b.toNat : Int)) s.data.toList 0 = s.size by omega), Bool.and_false]; done)
       | (rw [hl0]; simp; done)
       | (rw [hin]; simp; done)
       | (rw [decide_eq_false (show ¬ s.size ≤ 24 by omega)]; simp; done)
       | (rw [decide_eq_false (fun h => h hne)]; simp; done)
    ·
     refine Qz rfl rfl rfl rfl ?_; refine Qb rfl rfl ?_; refine Ql rfl rfl rfl rfl ?_; refine Ql rfl rfl rfl rfl ?_; refine Qx rfl rfl rfl rfl ?_; refine Qb rfl rfl ?_; refine Ql rfl rfl rfl rfl ?_; refine Ql rfl rfl rfl rfl ?_; refine Ql rfl rfl rfl rfl ?_; refine Qx rfl rfl rfl rfl ?_; refine Qb rfl rfl ?_; refine Ql rfl rfl rfl rfl ?_; refine Ql rfl rfl rfl rfl ?_; refine Ql rfl rfl rfl rfl ?_; refine Ql rfl rfl rfl rfl ?_; refine Ql rfl rfl rfl rfl ?_; refine Qx rfl rfl rfl rfl ?_; refine Qe rfl rfl ?_; refine Qi ?_; refine Qc ?_; refine Qy ?_; refine Q5 0 rfl rfl ?_
     refine ⟨?_, rfl, hL⟩
     have e : ∀ b c : Bool, b = c → Value.bool b = Value.bool c := fun _ _ h => by rw [h]
     refine e _ _ ?_
     clear e
     unfold identN
     first
       | (rw [decide_eq_true hne, decide_eq_true (show s.size ≤ 24 by omega), hin, hl0, decide_eq_true (show spanN (fun b => partN (b.toNat : Int)) s.data.toList 0 = s.size by omega)]; rfl)
       | (rw [decide_eq_false (show ¬ spanN (fun b => partN (b.toNat : Int)) s.data.toList 0 = s.size by omega), Bool.and_false]; done)
       | (rw [hl0]; simp; done)
       | (rw [hin]; simp; done)
       | (rw [decide_eq_false (show ¬ s.size ≤ 24 by omega)]; simp; done)
       | (rw [decide_eq_false (fun h => h hne)]; simp; done)
   ·
    refine Qb rfl rfl ?_; refine Ql rfl rfl rfl rfl ?_; refine Ql rfl rfl rfl rfl ?_; refine Ql rfl rfl rfl rfl ?_; refine Qx rfl rfl rfl rfl ?_; refine Qb rfl rfl ?_; refine Ql rfl rfl rfl rfl ?_; refine Ql rfl rfl rfl rfl ?_; refine Qx rfl rfl rfl rfl ?_; refine Qb rfl rfl ?_; refine Ql rfl rfl rfl rfl ?_; refine Ql rfl rfl rfl rfl ?_; refine Ql rfl rfl rfl rfl ?_; refine Qx rfl rfl rfl rfl ?_; refine Qb rfl rfl ?_; refine Ql rfl rfl rfl rfl ?_; refine Ql rfl rfl rfl rfl ?_; refine Ql rfl rfl rfl rfl ?_; refine Ql rfl rfl rfl rfl ?_; refine Ql rfl rfl rfl rfl ?_; refine Qx rfl rfl rfl rfl ?_; refine Qe rfl rfl ?_; refine Qi ?_; refine Qc ?_; refine Qy ?_; refine Q5 0 rfl rfl ?_
    refine ⟨?_, rfl, hL⟩
    have e : ∀ b c : Bool, b = c → Value.bool b = Value.bool c := fun _ _ h => by rw [h]
    refine e _ _ ?_
    clear e
    unfold identN
    first
      | (rw [decide_eq_true hne, decide_eq_true (show s.size ≤ 24 by omega), hin, hl0, decide_eq_true (show spanN (fun b => partN (b.toNat : Int)) s.data.toList 0 = s.size by omega)]; rfl)
      | (rw [decide_eq_false (show ¬ spanN (fun b => partN (b.toNat : Int)) s.data.toList 0 = s.size by omega), Bool.and_false]; done)
      | (rw [hl0]; simp; done)
      | (rw [hin]; simp; done)
      | (rw [decide_eq_false (show ¬ s.size ≤ 24 by omega)]; simp; done)
      | (rw [decide_eq_false (fun h => h hne)]; simp; done)
def blankT (t : Ty4) (k : Int) : Bool := match t with | .mk k' nm n ts => decide (k' = k) && decide (nm = ⟨#[]⟩) && decide (n = 0) && decide (ts.length = 0)
theorem syn_blank {t : Ty4} {k : Int} {w0 : World} {H : Hp} {own : List Seg} {c0 c1 c2 c3 : Value} (ht : RdL H t.d [c0, c1, c2, c3]) : Fn Tryz.prog 81 [.agg #[c0, c1, c2, c3], .int .i64 k] w0 H own (fun r o H' => r = .bool (blankT t k) ∧ o = own ∧ Le H H') := by
  obtain ⟨k', nm, n, ts⟩ := t
  simp only [Ty4.d, RdL] at ht
  obtain ⟨h0, h1, h2, h3, _⟩ := ht
  simp only [rd] at h0 h1 h2
  subst h0 h1 h2
  obtain ⟨A, m, c, rfl, hm1, hm2, hm3⟩ := h3.s_len
  rw [Ty4.ds_of, dsOf_len (n := 4) Ty4.d_len] at hm1
  have hml : m = ts.length := by omega
  subst hml
  refine Fn.enter Tryz.func81 rfl Tryz.ntmps81 rfl ?_; have hL := Le.refl H; refine Qj ?_; refine Qh ?_
  refine Zx (c := #[_, _, _, _]) rfl rfl rfl ?_; intro g2; refine Qe rfl rfl ?_; refine Q3 ?_; refine Qg rfl rfl ?_; refine Qk 0 0 rfl rfl rfl rfl rfl ?_; refine Qb rfl rfl ?_
  refine TL.eqlB rfl rfl rfl (fun ha => ?_) (fun ha => ?_)
  ·
   refine Qb rfl rfl ?_; refine Qf rfl rfl rfl ?_; refine Qg rfl rfl ?_; refine Qf rfl rfl rfl ?_; refine Qk 0 0 rfl rfl rfl rfl rfl ?_; refine Qf rfl rfl rfl ?_
   refine TL.eqlSB rfl rfl rfl (fun hb => ?_) (fun hb => ?_)
   ·
    refine Qz rfl rfl rfl rfl ?_; refine Qb rfl rfl ?_; refine Qf rfl rfl rfl ?_; refine Qg rfl rfl ?_; refine Qf rfl rfl rfl ?_; refine Qk 0 0 rfl rfl rfl rfl rfl ?_; refine Qf rfl rfl rfl ?_
    refine TL.eqlB rfl rfl rfl (fun hc => ?_) (fun hc => ?_)
    ·
     refine Qz rfl rfl rfl rfl ?_; refine Qb rfl rfl ?_; refine Qf rfl rfl rfl ?_; refine Qg rfl rfl ?_; refine Qf rfl rfl rfl ?_; refine Qk 0 0 rfl rfl rfl rfl rfl ?_; refine Qf rfl rfl rfl ?_; refine Qn rfl rfl ?_; refine Qf rfl rfl rfl ?_
     refine TL.eqlB rfl rfl rfl (fun hd => ?_) (fun hd => ?_)
     ·
      refine Qz rfl rfl rfl rfl ?_; refine Qe rfl rfl ?_; refine Qi ?_; refine Qc ?_; refine Qy ?_; refine Q5 1 rfl rfl ?_
      refine ⟨?_, rfl, hL⟩
      have e : ∀ b c : Bool, b = c → Value.bool b = Value.bool c := fun _ _ h => by rw [h]
      refine e _ _ ?_
      clear e
      simp only [blankT]
      first
        | (rw [decide_eq_true ha, decide_eq_true hb, decide_eq_true hc, decide_eq_true (show ts.length = 0 by omega)]; rfl)
        | (rw [decide_eq_false (show ¬ ts.length = 0 by omega), Bool.and_false]; done)
        | (rw [decide_eq_false hc]; simp; done)
        | (rw [decide_eq_false hb]; simp; done)
        | (rw [decide_eq_false ha]; simp; done)
     ·
      refine Qz rfl rfl rfl rfl ?_; refine Qe rfl rfl ?_; refine Qi ?_; refine Qc ?_; refine Qy ?_; refine Q5 1 rfl rfl ?_
      refine ⟨?_, rfl, hL⟩
      have e : ∀ b c : Bool, b = c → Value.bool b = Value.bool c := fun _ _ h => by rw [h]
      refine e _ _ ?_
      clear e
      simp only [blankT]
      first
        | (rw [decide_eq_true ha, decide_eq_true hb, decide_eq_true hc, decide_eq_true (show ts.length = 0 by omega)]; rfl)
        | (rw [decide_eq_false (show ¬ ts.length = 0 by omega), Bool.and_false]; done)
        | (rw [decide_eq_false hc]; simp; done)
        | (rw [decide_eq_false hb]; simp; done)
        | (rw [decide_eq_false ha]; simp; done)
    ·
     refine Qz rfl rfl rfl rfl ?_; refine Qb rfl rfl ?_; refine Ql rfl rfl rfl rfl ?_; refine Ql rfl rfl rfl rfl ?_; refine Ql rfl rfl rfl rfl ?_; refine Ql rfl rfl rfl rfl ?_; refine Qx rfl rfl rfl rfl ?_; refine Qe rfl rfl ?_; refine Qi ?_; refine Qc ?_; refine Qy ?_; refine Q5 1 rfl rfl ?_
     refine ⟨?_, rfl, hL⟩
     have e : ∀ b c : Bool, b = c → Value.bool b = Value.bool c := fun _ _ h => by rw [h]
     refine e _ _ ?_
     clear e
     simp only [blankT]
     first
       | (rw [decide_eq_true ha, decide_eq_true hb, decide_eq_true hc, decide_eq_true (show ts.length = 0 by omega)]; rfl)
       | (rw [decide_eq_false (show ¬ ts.length = 0 by omega), Bool.and_false]; done)
       | (rw [decide_eq_false hc]; simp; done)
       | (rw [decide_eq_false hb]; simp; done)
       | (rw [decide_eq_false ha]; simp; done)
   ·
    refine Qz rfl rfl rfl rfl ?_; refine Qb rfl rfl ?_; refine Ql rfl rfl rfl rfl ?_; refine Ql rfl rfl rfl rfl ?_; refine Ql rfl rfl rfl rfl ?_; refine Qx rfl rfl rfl rfl ?_; refine Qb rfl rfl ?_; refine Ql rfl rfl rfl rfl ?_; refine Ql rfl rfl rfl rfl ?_; refine Ql rfl rfl rfl rfl ?_; refine Ql rfl rfl rfl rfl ?_; refine Qx rfl rfl rfl rfl ?_; refine Qe rfl rfl ?_; refine Qi ?_; refine Qc ?_; refine Qy ?_; refine Q5 1 rfl rfl ?_
    refine ⟨?_, rfl, hL⟩
    have e : ∀ b c : Bool, b = c → Value.bool b = Value.bool c := fun _ _ h => by rw [h]
    refine e _ _ ?_
    clear e
    simp only [blankT]
    first
      | (rw [decide_eq_true ha, decide_eq_true hb, decide_eq_true hc, decide_eq_true (show ts.length = 0 by omega)]; rfl)
      | (rw [decide_eq_false (show ¬ ts.length = 0 by omega), Bool.and_false]; done)
      | (rw [decide_eq_false hc]; simp; done)
      | (rw [decide_eq_false hb]; simp; done)
      | (rw [decide_eq_false ha]; simp; done)
  ·
   refine Qb rfl rfl ?_; refine Ql rfl rfl rfl rfl ?_; refine Ql rfl rfl rfl rfl ?_; refine Ql rfl rfl rfl rfl ?_; refine Qx rfl rfl rfl rfl ?_; refine Qb rfl rfl ?_; refine Ql rfl rfl rfl rfl ?_; refine Ql rfl rfl rfl rfl ?_; refine Ql rfl rfl rfl rfl ?_; refine Qx rfl rfl rfl rfl ?_; refine Qb rfl rfl ?_; refine Ql rfl rfl rfl rfl ?_; refine Ql rfl rfl rfl rfl ?_; refine Ql rfl rfl rfl rfl ?_; refine Ql rfl rfl rfl rfl ?_; refine Qx rfl rfl rfl rfl ?_; refine Qe rfl rfl ?_; refine Qi ?_; refine Qc ?_; refine Qy ?_; refine Q5 1 rfl rfl ?_
   refine ⟨?_, rfl, hL⟩
   have e : ∀ b c : Bool, b = c → Value.bool b = Value.bool c := fun _ _ h => by rw [h]
   refine e _ _ ?_
   clear e
   simp only [blankT]
   first
     | (rw [decide_eq_true ha, decide_eq_true hb, decide_eq_true hc, decide_eq_true (show ts.length = 0 by omega)]; rfl)
     | (rw [decide_eq_false (show ¬ ts.length = 0 by omega), Bool.and_false]; done)
     | (rw [decide_eq_false hc]; simp; done)
     | (rw [decide_eq_false hb]; simp; done)
     | (rw [decide_eq_false ha]; simp; done)

end Go.Proofs.YtaomdfcplamenaaGreatDoor.K

namespace Go.Proofs.YtaomdfcplamenaaGreatDoor.K
open Go Go.RowKit Go.ChangeMaps Go.MapKept Go.WideMaps
open Go.WideElems (Fit rg rd_val)
open Go.Maps (Keyed fit_look fit_store notKey_iff)

/-- A reader that tells nothing. -/
def R0 : Value → Option (DataW Unit × List MemPlace) := fun _ => some (.lit (.bool true), [])
/-- The object is a map of n entries; f says what stands at each key. -/
def MapR (P : Program) (k e : TypeId) (o : Obj) (n : Nat) (f : Value → Option Value) : Prop :=
  ∃ es clock, o = .map es clock ∧ Fit P k R0 es clock ∧ es.size = n ∧ (∀ x ∈ es.toList, f x.key = some x.val) ∧ ∀ key kl, keyOf P k key = some kl → f key ≠ none → ∃ x ∈ es.toList, x.key = key
theorem MapR.nil (P : Program) (k e : TypeId) : MapR P k e (.map #[] 0) 0 (fun _ => none) :=
  ⟨#[], 0, rfl, ⟨by simp, stamped_empty 0, by simp⟩, rfl, by simp, fun _ _ _ h => absurd rfl h⟩
theorem MapR.congr {P : Program} {k e : TypeId} {o : Obj} {n : Nat} {f g : Value → Option Value} (h : MapR P k e o n f) (hfg : ∀ s, f s = g s) : MapR P k e o n g := by
  have : f = g := funext hfg
  rw [← this]; exact h
theorem MapR.look {P : Program} {k e t : TypeId} {w : World} {b n : Nat} {o : Obj} {f : Value → Option Value} (K : Keyed P k) (ht : P.underlying t = some (.map k e))
    {z : Value} (hz : (zeroValue e).run P w = .ok z w) (hb : w.heap[b]? = some o) (h : MapR P k e o n f) {key : Value} {kl : Lit} (hk : keyOf P k key = some kl) (c : Bool) :
    (Instr.lookup t (.map (some b)) key c).run P w = .ok (if c then .tuple #[(f key).getD z, .bool (f key).isSome] else (f key).getD z) w := by
  obtain ⟨es, clock, rfl, F, _, hf, hg⟩ := h
  rcases fit_look c K ht hz hb F hk with ⟨hrun, hno, _⟩ | ⟨e0, y, hm, rfl, hrun, _, _, _⟩
  · rw [hrun]
    cases h1 : f key with
    | none => rfl
    | some v =>
      obtain ⟨x, hx, hxk⟩ := hg key kl hk (by rw [h1]; simp)
      exact absurd hxk (hno x hx)
  · rw [hrun, hf e0 hm]
    rfl
theorem MapR.put {P : Program} {k e t : TypeId} {w : World} {b n : Nat} {o : Obj} {f : Value → Option Value} (K : Keyed P k) (ht : P.underlying t = some (.map k e))
    (hb : w.heap[b]? = some o) (h : MapR P k e o n f) (hn : n < maxLen) {key : Value} {kl : Lit} (hk : keyOf P k key = some kl) {v : Value} {d : DataW Unit} (hv : R0 v = some (d, [])) (hnone : f key = none)
    {g : Value → Option Value} (hg1 : g key = some v) (hg2 : ∀ s, s ≠ key → g s = f s) :
    ∃ o', (Instr.mapUpdate t (.map (some b)) key v).run P w = .ok () (setBlock w b o') ∧ MapR P k e o' (n + 1) g := by
  obtain ⟨es, clock, rfl, F, rfl, hf, hg⟩ := h
  obtain ⟨es', clock', hrun, F', hput, _, _, hwho⟩ := fit_store (R' := R0) K ht hb F hn (fun _ _ _ _ hz => hz) hk hv
  have hno : ∀ x ∈ es.toList, x.key ≠ key := fun x hx he => by
    have := hf x hx
    rw [he, hnone] at this
    cases this
  have hfil : ((es.toList.map (rg P k R0)).foldr DataW.insert []).filter (notKey kl) = (es.toList.map (rg P k R0)).foldr DataW.insert [] := by
    refine List.filter_eq_self.2 fun p hp => ?_
    have hp2 := (WideShapes.sorted_perm _).mem_iff.1 hp
    obtain ⟨x, hx, rfl⟩ := List.mem_map.1 hp2
    obtain ⟨y, hy⟩ := F.reads x hx
    rw [WideElems.rg_of hy]
    refine (notKey_iff (K.key hk)).2 fun e1 => hno x hx ?_
    have m1 := WideElems.rd_key hy
    rw [e1] at m1
    exact K.inj m1 hk
  have hperm : (es'.toList.map (rg P k R0)).Perm ((kl, d) :: es.toList.map (rg P k R0)) := by
    refine (WideShapes.sorted_perm _).symm.trans ?_
    rw [hput]
    unfold putKey
    refine (WideShapes.insert_perm _ _).trans ?_
    rw [hfil]
    exact (WideShapes.sorted_perm _).cons _
  refine ⟨_, hrun, es', clock', rfl, F', ?_, fun x hx => ?_, fun key' kl' hk' hne => ?_⟩
  · have := hperm.length_eq
    simpa using this
  · rcases hwho x hx with ⟨h1, h2⟩ | ⟨h1, h2⟩
    · rw [hg2 _ h2]; exact hf x h1
    · rw [h1, h2, hg1]
  · have key_in : ∀ p ∈ es'.toList.map (rg P k R0), p.1 = kl' → ∃ x ∈ es'.toList, x.key = key' := by
      intro p hp hpk
      obtain ⟨x, hx, rfl⟩ := List.mem_map.1 hp
      obtain ⟨y, hy⟩ := F'.reads x hx
      rw [WideElems.rg_of hy] at hpk
      have m1 := WideElems.rd_key hy
      rw [hpk] at m1
      exact ⟨x, hx, K.inj m1 hk'⟩
    by_cases he : key' = key
    · subst he
      rw [hk] at hk'
      injection hk' with hk'
      subst hk'
      exact key_in (kl, d) (hperm.mem_iff.2 (by simp)) rfl
    · rw [hg2 _ he] at hne
      obtain ⟨x, hx, rfl⟩ := hg key' kl' hk' hne
      obtain ⟨y, hy⟩ := F.reads x hx
      have m1 := WideElems.rd_key hy
      rw [hk'] at m1
      injection m1 with m1
      exact key_in _ (hperm.mem_iff.2 (List.mem_cons_of_mem _ (List.mem_map.2 ⟨x, hx, rfl⟩))) (by rw [WideElems.rg_of hy]; exact m1.symm)
section
variable {P : Program} {w0 : World} {N : Nat} {Q : Exit → Act → World → Prop} {env : Env} {own : List Seg} {H : Hp} {ops : Array Oper} {rest : List Oper}
variable {d : Option Tmp} {ty : TypeId} {pos : String} {af : Array Edge}
theorem TL.insertR (i j : Nat) {t k e : TypeId} {m x y : Operand} {g n : Nat} {seg : Seg} {o : Obj} {f : Value → Option Value} (f' : Value → Option Value) {key v : Value} {kl : Lit} {dd : DataW Unit} (hm : ev env m = some (.map (some g))) (hx : ev env x = some key) (hy : ev env y = some v)
    (hi : own[i]? = some seg) (hj : seg[j]? = some (g, o)) (K : Keyed P k) [ht : Und P t (.map k e)] (ho : MapR P k e o n f) (hn : n < maxLen) (hk : keyOf P k key = some kl) (hv : R0 v = some (dd, [])) (hnone : f key = none)
    (hg1 : f' key = some v) (hg2 : ∀ s, s ≠ key → f' s = f s) (hd : okD N d = true)
    (h : ∀ o', MapR P k e o' (n + 1) f' → TL P w0 N Q ops rest (putE d undef env) (own.set i (seg.set j (g, o'))) H) :
    TL P w0 N Q ops ({ dst := d, op := .insert t m x y, type := ty, pos := pos, after := af, guard := none } :: rest) env own H :=
  fun a w ha hw => by
    have hb := hw.own_blk hi hj
    obtain ⟨o', hrun, ho'⟩ := MapR.put K ht.eq hb ho hn hk hv hnone hg1 hg2
    refine wpList_plain rfl fun K hK => ?_
    unfold Oper.wp
    have hr : (execOp a.eval { dst := d, op := .insert t m x y, type := ty, pos := pos, after := af, guard := none }).run P w = .ok .skip (setBlock w g o') := by
      simp [execOp, ha.ev hm, ha.ev hx, ha.ev hy, hrun, Result.andThen]
    rw [hr]
    exact hK _ _ (h o' ho' _ _ (ha.put hd undef) (hw.setObj hi hj))
theorem TL.lookR (i j : Nat) {t k e : TypeId} {m x : Operand} {g n : Nat} {seg : Seg} {o : Obj} {f : Value → Option Value} {key : Value} {kl : Lit} {c : Bool} {z : Value} (hm : ev env m = some (.map (some g))) (hx : ev env x = some key)
    (hi : own[i]? = some seg) (hj : seg[j]? = some (g, o)) (K : Keyed P k) [ht : Und P t (.map k e)] (ho : MapR P k e o n f) (hk : keyOf P k key = some kl)
    (hz : ∀ w, (zeroValue e).run P w = .ok z w) (hd : okD N d = true) (h : TL P w0 N Q ops rest (putE d (if c then .tuple #[(f key).getD z, .bool (f key).isSome] else (f key).getD z) env) own H) :
    TL P w0 N Q ops ({ dst := d, op := .lookup t m x c, type := ty, pos := pos, after := af, guard := none } :: rest) env own H :=
  TL.val rfl hd (fun a w ha hw => ⟨w, by
    have := MapR.look (w := w) K ht.eq (hz w) (hw.own_blk hi hj) ho hk c
    simp [execOp, ha.ev hm, ha.ev hx, this], hw⟩) h
end
end Go.Proofs.YtaomdfcplamenaaGreatDoor.K

namespace Go.Proofs.YtaomdfcplamenaaGreatDoor.K
open Go Go.RowKit Go.Proofs

theorem plain_fv (v : Value) : R0 v = some (.lit (.bool true), []) := rfl
theorem zero170 (w : World) : (zeroValue 170).run Tryz.prog w = .ok (.agg #[.int .i64 0, .int .i64 0, .bool false, .bool false, .bool false, .bool false, .bool false, .bool false]) w := by simp [zeroValue, typeInfo, info170]; rfl
def formC (k : Int) : List Value :=
  if k = 1 then [.int .i64 1, .int .i64 1, .bool true, .bool false, .bool false, .bool false, .bool false, .bool false]
  else if k = 2 then [.int .i64 2, .int .i64 2, .bool false, .bool false, .bool false, .bool false, .bool false, .bool false]
  else if k = 3 then [.int .i64 1, .int .i64 1, .bool false, .bool false, .bool true, .bool true, .bool false, .bool false]
  else if k = 4 then [.int .i64 1, .int .i64 1, .bool false, .bool true, .bool true, .bool false, .bool false, .bool false]
  else if k = 5 then [.int .i64 0, .int .i64 0, .bool false, .bool true, .bool true, .bool false, .bool false, .bool false]
  else if k = 6 then [.int .i64 0, .int .i64 0, .bool true, .bool false, .bool true, .bool false, .bool false, .bool false]
  else if k = 7 then [.int .i64 0, .int .i64 0, .bool true, .bool false, .bool false, .bool false, .bool false, .bool false]
  else if k = 8 then [.int .i64 0, .int .i64 0, .bool true, .bool false, .bool false, .bool false, .bool false, .bool false]
  else if k = 9 then [.int .i64 1, .int .i64 1, .bool false, .bool false, .bool false, .bool true, .bool true, .bool false]
  else if k = 10 then [.int .i64 0, .int .i64 1, .bool false, .bool false, .bool false, .bool false, .bool false, .bool false]
  else if k = 11 then [.int .i64 1, .int .i64 1, .bool false, .bool false, .bool false, .bool false, .bool false, .bool true]
  else if k = 12 then [.int .i64 0, .int .i64 0, .bool false, .bool false, .bool false, .bool false, .bool false, .bool false]
  else if k = 13 then [.int .i64 0, .int .i64 0, .bool false, .bool false, .bool false, .bool false, .bool false, .bool false]
  else if k = 14 then [.int .i64 1, .int .i64 1, .bool false, .bool false, .bool false, .bool false, .bool false, .bool false]
  else [.int .i64 0, .int .i64 0, .bool false, .bool false, .bool false, .bool false, .bool false, .bool false]
theorem syn_form {k : Int} (hk : I64 k) {w0 : World} {H : Hp} {own : List Seg} : Fn Tryz.prog 113 [.int .i64 k] w0 H own (fun r o H' => r = .tuple #[.agg (formC k).toArray, .bool (decide (1 ≤ k ∧ k ≤ 14))] ∧ o = own ∧ Le H H') := by
  refine Fn.enter Tryz.func113 rfl Tryz.ntmps113 rfl ?_; have hL := Le.refl H; refine Qj ?_; refine Qh ?_
  refine Zc rfl ?_; intro g2; refine Qe rfl rfl ?_; refine Q3 ?_
  refine TL.newMap rfl ?_; intro g7
  have hm0 : MapR Tryz.prog 3 170 (.map #[] 0) 0 (tblF []) := MapR.nil _ _ _
  refine Q8 [(0, [_]), (1, [_]), (2, [_])] ⟨rfl, ⟨_, rfl, rfl⟩, rfl, ⟨_, rfl, rfl⟩, rfl, ⟨_, rfl, rfl⟩, trivial⟩ rfl rfl ?_; refine TL.insertR 0 0 (tblF ((1, .agg #[.int .i64 1, .int .i64 1, .bool true, .bool false, .bool false, .bool false, .bool false, .bool false]) :: [])) rfl rfl rfl rfl rfl K3 hm0 (by decide) (key3 ⟨by omega, by omega⟩) (plain_fv _) (by simp [tblF]) tblF_new (fun s h => tblF_old s h) rfl ?_
  clear hm0
  intro o1 hm1; refine Qw (own' := [(g7, o1)] :: _) rfl ?_; refine Q8 [(0, [_]), (1, [_])] ⟨rfl, ⟨_, rfl, rfl⟩, rfl, ⟨_, rfl, rfl⟩, trivial⟩ rfl rfl ?_; refine TL.insertR 0 0 (tblF ((2, .agg #[.int .i64 2, .int .i64 2, .bool false, .bool false, .bool false, .bool false, .bool false, .bool false]) :: [(1, .agg #[.int .i64 1, .int .i64 1, .bool true, .bool false, .bool false, .bool false, .bool false, .bool false])])) rfl rfl rfl rfl rfl K3 hm1 (by decide) (key3 ⟨by omega, by omega⟩) (plain_fv _) (by simp [tblF]) tblF_new (fun s h => tblF_old s h) rfl ?_
  clear hm1
  intro o2 hm2; refine Qw (own' := [(g7, o2)] :: _) rfl ?_; refine Q8 [(0, [_]), (1, [_]), (4, [_]), (5, [_])] ⟨rfl, ⟨_, rfl, rfl⟩, rfl, ⟨_, rfl, rfl⟩, rfl, ⟨_, rfl, rfl⟩, rfl, ⟨_, rfl, rfl⟩, trivial⟩ rfl rfl ?_; refine TL.insertR 0 0 (tblF ((3, .agg #[.int .i64 1, .int .i64 1, .bool false, .bool false, .bool true, .bool true, .bool false, .bool false]) :: [(2, .agg #[.int .i64 2, .int .i64 2, .bool false, .bool false, .bool false, .bool false, .bool false, .bool false]), (1, .agg #[.int .i64 1, .int .i64 1, .bool true, .bool false, .bool false, .bool false, .bool false, .bool false])])) rfl rfl rfl rfl rfl K3 hm2 (by decide) (key3 ⟨by omega, by omega⟩) (plain_fv _) (by simp [tblF]) tblF_new (fun s h => tblF_old s h) rfl ?_
  clear hm2
  intro o3 hm3; refine Qw (own' := [(g7, o3)] :: _) rfl ?_; refine Q8 [(0, [_]), (1, [_]), (3, [_]), (4, [_])] ⟨rfl, ⟨_, rfl, rfl⟩, rfl, ⟨_, rfl, rfl⟩, rfl, ⟨_, rfl, rfl⟩, rfl, ⟨_, rfl, rfl⟩, trivial⟩ rfl rfl ?_; refine TL.insertR 0 0 (tblF ((4, .agg #[.int .i64 1, .int .i64 1, .bool false, .bool true, .bool true, .bool false, .bool false, .bool false]) :: [(3, .agg #[.int .i64 1, .int .i64 1, .bool false, .bool false, .bool true, .bool true, .bool false, .bool false]), (2, .agg #[.int .i64 2, .int .i64 2, .bool false, .bool false, .bool false, .bool false, .bool false, .bool false]), (1, .agg #[.int .i64 1, .int .i64 1, .bool true, .bool false, .bool false, .bool false, .bool false, .bool false])])) rfl rfl rfl rfl rfl K3 hm3 (by decide) (key3 ⟨by omega, by omega⟩) (plain_fv _) (by simp [tblF]) tblF_new (fun s h => tblF_old s h) rfl ?_
  clear hm3
  intro o4 hm4; refine Qw (own' := [(g7, o4)] :: _) rfl ?_; refine Q8 [(3, [_]), (4, [_])] ⟨rfl, ⟨_, rfl, rfl⟩, rfl, ⟨_, rfl, rfl⟩, trivial⟩ rfl rfl ?_
  refine TL.insertR 0 0 (tblF ((5, .agg #[.int .i64 0, .int .i64 0, .bool false, .bool true, .bool true, .bool false, .bool false, .bool false]) :: [(4, .agg #[.int .i64 1, .int .i64 1, .bool false, .bool true, .bool true, .bool false, .bool false, .bool false]), (3, .agg #[.int .i64 1, .int .i64 1, .bool false, .bool false, .bool true, .bool true, .bool false, .bool false]), (2, .agg #[.int .i64 2, .int .i64 2, .bool false, .bool false, .bool false, .bool false, .bool false, .bool false]), (1, .agg #[.int .i64 1, .int .i64 1, .bool true, .bool false, .bool false, .bool false, .bool false, .bool false])])) rfl rfl rfl rfl rfl K3 hm4 (by decide) (key3 ⟨by omega, by omega⟩) (plain_fv _) (by simp [tblF]) tblF_new (fun s h => tblF_old s h) rfl ?_
  clear hm4
  intro o5 hm5; refine Qw (own' := [(g7, o5)] :: _) rfl ?_; refine Q8 [(2, [_]), (4, [_])] ⟨rfl, ⟨_, rfl, rfl⟩, rfl, ⟨_, rfl, rfl⟩, trivial⟩ rfl rfl ?_
  refine TL.insertR 0 0 (tblF ((6, .agg #[.int .i64 0, .int .i64 0, .bool true, .bool false, .bool true, .bool false, .bool false, .bool false]) :: [(5, .agg #[.int .i64 0, .int .i64 0, .bool false, .bool true, .bool true, .bool false, .bool false, .bool false]), (4, .agg #[.int .i64 1, .int .i64 1, .bool false, .bool true, .bool true, .bool false, .bool false, .bool false]), (3, .agg #[.int .i64 1, .int .i64 1, .bool false, .bool false, .bool true, .bool true, .bool false, .bool false]), (2, .agg #[.int .i64 2, .int .i64 2, .bool false, .bool false, .bool false, .bool false, .bool false, .bool false]), (1, .agg #[.int .i64 1, .int .i64 1, .bool true, .bool false, .bool false, .bool false, .bool false, .bool false])])) rfl rfl rfl rfl rfl K3 hm5 (by decide) (key3 ⟨by omega, by omega⟩) (plain_fv _) (by simp [tblF]) tblF_new (fun s h => tblF_old s h) rfl ?_
  clear hm5
  intro o6 hm6; refine Qw (own' := [(g7, o6)] :: _) rfl ?_; refine Q8 [(2, [_])] ⟨rfl, ⟨_, rfl, rfl⟩, trivial⟩ rfl rfl ?_
  refine TL.insertR 0 0 (tblF ((7, .agg #[.int .i64 0, .int .i64 0, .bool true, .bool false, .bool false, .bool false, .bool false, .bool false]) :: [(6, .agg #[.int .i64 0, .int .i64 0, .bool true, .bool false, .bool true, .bool false, .bool false, .bool false]), (5, .agg #[.int .i64 0, .int .i64 0, .bool false, .bool true, .bool true, .bool false, .bool false, .bool false]), (4, .agg #[.int .i64 1, .int .i64 1, .bool false, .bool true, .bool true, .bool false, .bool false, .bool false]), (3, .agg #[.int .i64 1, .int .i64 1, .bool false, .bool false, .bool true, .bool true, .bool false, .bool false]), (2, .agg #[.int .i64 2, .int .i64 2, .bool false, .bool false, .bool false, .bool false, .bool false, .bool false]), (1, .agg #[.int .i64 1, .int .i64 1, .bool true, .bool false, .bool false, .bool false, .bool false, .bool false])])) rfl rfl rfl rfl rfl K3 hm6 (by decide) (key3 ⟨by omega, by omega⟩) (plain_fv _) (by simp [tblF]) tblF_new (fun s h => tblF_old s h) rfl ?_
  clear hm6
  intro o7 hm7; refine Qw (own' := [(g7, o7)] :: _) rfl ?_; refine Q8 [(2, [_])] ⟨rfl, ⟨_, rfl, rfl⟩, trivial⟩ rfl rfl ?_
  refine TL.insertR 0 0 (tblF ((8, .agg #[.int .i64 0, .int .i64 0, .bool true, .bool false, .bool false, .bool false, .bool false, .bool false]) :: [(7, .agg #[.int .i64 0, .int .i64 0, .bool true, .bool false, .bool false, .bool false, .bool false, .bool false]), (6, .agg #[.int .i64 0, .int .i64 0, .bool true, .bool false, .bool true, .bool false, .bool false, .bool false]), (5, .agg #[.int .i64 0, .int .i64 0, .bool false, .bool true, .bool true, .bool false, .bool false, .bool false]), (4, .agg #[.int .i64 1, .int .i64 1, .bool false, .bool true, .bool true, .bool false, .bool false, .bool false]), (3, .agg #[.int .i64 1, .int .i64 1, .bool false, .bool false, .bool true, .bool true, .bool false, .bool false]), (2, .agg #[.int .i64 2, .int .i64 2, .bool false, .bool false, .bool false, .bool false, .bool false, .bool false]), (1, .agg #[.int .i64 1, .int .i64 1, .bool true, .bool false, .bool false, .bool false, .bool false, .bool false])])) rfl rfl rfl rfl rfl K3 hm7 (by decide) (key3 ⟨by omega, by omega⟩) (plain_fv _) (by simp [tblF]) tblF_new (fun s h => tblF_old s h) rfl ?_
  clear hm7
  intro o8 hm8; refine Qw (own' := [(g7, o8)] :: _) rfl ?_; refine Q8 [(0, [_]), (1, [_]), (5, [_]), (6, [_])] ⟨rfl, ⟨_, rfl, rfl⟩, rfl, ⟨_, rfl, rfl⟩, rfl, ⟨_, rfl, rfl⟩, rfl, ⟨_, rfl, rfl⟩, trivial⟩ rfl rfl ?_
  refine TL.insertR 0 0 (tblF ((9, .agg #[.int .i64 1, .int .i64 1, .bool false, .bool false, .bool false, .bool true, .bool true, .bool false]) :: [(8, .agg #[.int .i64 0, .int .i64 0, .bool true, .bool false, .bool false, .bool false, .bool false, .bool false]), (7, .agg #[.int .i64 0, .int .i64 0, .bool true, .bool false, .bool false, .bool false, .bool false, .bool false]), (6, .agg #[.int .i64 0, .int .i64 0, .bool true, .bool false, .bool true, .bool false, .bool false, .bool false]), (5, .agg #[.int .i64 0, .int .i64 0, .bool false, .bool true, .bool true, .bool false, .bool false, .bool false]), (4, .agg #[.int .i64 1, .int .i64 1, .bool false, .bool true, .bool true, .bool false, .bool false, .bool false]), (3, .agg #[.int .i64 1, .int .i64 1, .bool false, .bool false, .bool true, .bool true, .bool false, .bool false]), (2, .agg #[.int .i64 2, .int .i64 2, .bool false, .bool false, .bool false, .bool false, .bool false, .bool false]), (1, .agg #[.int .i64 1, .int .i64 1, .bool true, .bool false, .bool false, .bool false, .bool false, .bool false])])) rfl rfl rfl rfl rfl K3 hm8 (by decide) (key3 ⟨by omega, by omega⟩) (plain_fv _) (by simp [tblF]) tblF_new (fun s h => tblF_old s h) rfl ?_
  clear hm8
  intro o9 hm9; refine Qw (own' := [(g7, o9)] :: _) rfl ?_; refine Q8 [(1, [_])] ⟨rfl, ⟨_, rfl, rfl⟩, trivial⟩ rfl rfl ?_
  refine TL.insertR 0 0 (tblF ((10, .agg #[.int .i64 0, .int .i64 1, .bool false, .bool false, .bool false, .bool false, .bool false, .bool false]) :: [(9, .agg #[.int .i64 1, .int .i64 1, .bool false, .bool false, .bool false, .bool true, .bool true, .bool false]), (8, .agg #[.int .i64 0, .int .i64 0, .bool true, .bool false, .bool false, .bool false, .bool false, .bool false]), (7, .agg #[.int .i64 0, .int .i64 0, .bool true, .bool false, .bool false, .bool false, .bool false, .bool false]), (6, .agg #[.int .i64 0, .int .i64 0, .bool true, .bool false, .bool true, .bool false, .bool false, .bool false]), (5, .agg #[.int .i64 0, .int .i64 0, .bool false, .bool true, .bool true, .bool false, .bool false, .bool false]), (4, .agg #[.int .i64 1, .int .i64 1, .bool false, .bool true, .bool true, .bool false, .bool false, .bool false]), (3, .agg #[.int .i64 1, .int .i64 1, .bool false, .bool false, .bool true, .bool true, .bool false, .bool false]), (2, .agg #[.int .i64 2, .int .i64 2, .bool false, .bool false, .bool false, .bool false, .bool false, .bool false]), (1, .agg #[.int .i64 1, .int .i64 1, .bool true, .bool false, .bool false, .bool false, .bool false, .bool false])])) rfl rfl rfl rfl rfl K3 hm9 (by decide) (key3 ⟨by omega, by omega⟩) (plain_fv _) (by simp [tblF]) tblF_new (fun s h => tblF_old s h) rfl ?_
  clear hm9
  intro o10 hm10; refine Qw (own' := [(g7, o10)] :: _) rfl ?_; refine Q8 [(0, [_]), (1, [_]), (7, [_])] ⟨rfl, ⟨_, rfl, rfl⟩, rfl, ⟨_, rfl, rfl⟩, rfl, ⟨_, rfl, rfl⟩, trivial⟩ rfl rfl ?_
  refine TL.insertR 0 0 (tblF ((11, .agg #[.int .i64 1, .int .i64 1, .bool false, .bool false, .bool false, .bool false, .bool false, .bool true]) :: [(10, .agg #[.int .i64 0, .int .i64 1, .bool false, .bool false, .bool false, .bool false, .bool false, .bool false]), (9, .agg #[.int .i64 1, .int .i64 1, .bool false, .bool false, .bool false, .bool true, .bool true, .bool false]), (8, .agg #[.int .i64 0, .int .i64 0, .bool true, .bool false, .bool false, .bool false, .bool false, .bool false]), (7, .agg #[.int .i64 0, .int .i64 0, .bool true, .bool false, .bool false, .bool false, .bool false, .bool false]), (6, .agg #[.int .i64 0, .int .i64 0, .bool true, .bool false, .bool true, .bool false, .bool false, .bool false]), (5, .agg #[.int .i64 0, .int .i64 0, .bool false, .bool true, .bool true, .bool false, .bool false, .bool false]), (4, .agg #[.int .i64 1, .int .i64 1, .bool false, .bool true, .bool true, .bool false, .bool false, .bool false]), (3, .agg #[.int .i64 1, .int .i64 1, .bool false, .bool false, .bool true, .bool true, .bool false, .bool false]), (2, .agg #[.int .i64 2, .int .i64 2, .bool false, .bool false, .bool false, .bool false, .bool false, .bool false]), (1, .agg #[.int .i64 1, .int .i64 1, .bool true, .bool false, .bool false, .bool false, .bool false, .bool false])])) rfl rfl rfl rfl rfl K3 hm10 (by decide) (key3 ⟨by omega, by omega⟩) (plain_fv _) (by simp [tblF]) tblF_new (fun s h => tblF_old s h) rfl ?_
  clear hm10
  intro o11 hm11; refine Qw (own' := [(g7, o11)] :: _) rfl ?_; refine Q8 [] trivial rfl rfl ?_
  refine TL.insertR 0 0 (tblF ((12, .agg #[.int .i64 0, .int .i64 0, .bool false, .bool false, .bool false, .bool false, .bool false, .bool false]) :: [(11, .agg #[.int .i64 1, .int .i64 1, .bool false, .bool false, .bool false, .bool false, .bool false, .bool true]), (10, .agg #[.int .i64 0, .int .i64 1, .bool false, .bool false, .bool false, .bool false, .bool false, .bool false]), (9, .agg #[.int .i64 1, .int .i64 1, .bool false, .bool false, .bool false, .bool true, .bool true, .bool false]), (8, .agg #[.int .i64 0, .int .i64 0, .bool true, .bool false, .bool false, .bool false, .bool false, .bool false]), (7, .agg #[.int .i64 0, .int .i64 0, .bool true, .bool false, .bool false, .bool false, .bool false, .bool false]), (6, .agg #[.int .i64 0, .int .i64 0, .bool true, .bool false, .bool true, .bool false, .bool false, .bool false]), (5, .agg #[.int .i64 0, .int .i64 0, .bool false, .bool true, .bool true, .bool false, .bool false, .bool false]), (4, .agg #[.int .i64 1, .int .i64 1, .bool false, .bool true, .bool true, .bool false, .bool false, .bool false]), (3, .agg #[.int .i64 1, .int .i64 1, .bool false, .bool false, .bool true, .bool true, .bool false, .bool false]), (2, .agg #[.int .i64 2, .int .i64 2, .bool false, .bool false, .bool false, .bool false, .bool false, .bool false]), (1, .agg #[.int .i64 1, .int .i64 1, .bool true, .bool false, .bool false, .bool false, .bool false, .bool false])])) rfl rfl rfl rfl rfl K3 hm11 (by decide) (key3 ⟨by omega, by omega⟩) (plain_fv _) (by simp [tblF]) tblF_new (fun s h => tblF_old s h) rfl ?_
  clear hm11
  intro o12 hm12; refine Qw (own' := [(g7, o12)] :: _) rfl ?_; refine Q8 [] trivial rfl rfl ?_
  refine TL.insertR 0 0 (tblF ((13, .agg #[.int .i64 0, .int .i64 0, .bool false, .bool false, .bool false, .bool false, .bool false, .bool false]) :: [(12, .agg #[.int .i64 0, .int .i64 0, .bool false, .bool false, .bool false, .bool false, .bool false, .bool false]), (11, .agg #[.int .i64 1, .int .i64 1, .bool false, .bool false, .bool false, .bool false, .bool false, .bool true]), (10, .agg #[.int .i64 0, .int .i64 1, .bool false, .bool false, .bool false, .bool false, .bool false, .bool false]), (9, .agg #[.int .i64 1, .int .i64 1, .bool false, .bool false, .bool false, .bool true, .bool true, .bool false]), (8, .agg #[.int .i64 0, .int .i64 0, .bool true, .bool false, .bool false, .bool false, .bool false, .bool false]), (7, .agg #[.int .i64 0, .int .i64 0, .bool true, .bool false, .bool false, .bool false, .bool false, .bool false]), (6, .agg #[.int .i64 0, .int .i64 0, .bool true, .bool false, .bool true, .bool false, .bool false, .bool false]), (5, .agg #[.int .i64 0, .int .i64 0, .bool false, .bool true, .bool true, .bool false, .bool false, .bool false]), (4, .agg #[.int .i64 1, .int .i64 1, .bool false, .bool true, .bool true, .bool false, .bool false, .bool false]), (3, .agg #[.int .i64 1, .int .i64 1, .bool false, .bool false, .bool true, .bool true, .bool false, .bool false]), (2, .agg #[.int .i64 2, .int .i64 2, .bool false, .bool false, .bool false, .bool false, .bool false, .bool false]), (1, .agg #[.int .i64 1, .int .i64 1, .bool true, .bool false, .bool false, .bool false, .bool false, .bool false])])) rfl rfl rfl rfl rfl K3 hm12 (by decide) (key3 ⟨by omega, by omega⟩) (plain_fv _) (by simp [tblF]) tblF_new (fun s h => tblF_old s h) rfl ?_
  clear hm12
  intro o13 hm13; refine Qw (own' := [(g7, o13)] :: _) rfl ?_; refine Q8 [(0, [_]), (1, [_])] ⟨rfl, ⟨_, rfl, rfl⟩, rfl, ⟨_, rfl, rfl⟩, trivial⟩ rfl rfl ?_
  refine TL.insertR 0 0 (tblF ((14, .agg #[.int .i64 1, .int .i64 1, .bool false, .bool false, .bool false, .bool false, .bool false, .bool false]) :: [(13, .agg #[.int .i64 0, .int .i64 0, .bool false, .bool false, .bool false, .bool false, .bool false, .bool false]), (12, .agg #[.int .i64 0, .int .i64 0, .bool false, .bool false, .bool false, .bool false, .bool false, .bool false]), (11, .agg #[.int .i64 1, .int .i64 1, .bool false, .bool false, .bool false, .bool false, .bool false, .bool true]), (10, .agg #[.int .i64 0, .int .i64 1, .bool false, .bool false, .bool false, .bool false, .bool false, .bool false]), (9, .agg #[.int .i64 1, .int .i64 1, .bool false, .bool false, .bool false, .bool true, .bool true, .bool false]), (8, .agg #[.int .i64 0, .int .i64 0, .bool true, .bool false, .bool false, .bool false, .bool false, .bool false]), (7, .agg #[.int .i64 0, .int .i64 0, .bool true, .bool false, .bool false, .bool false, .bool false, .bool false]), (6, .agg #[.int .i64 0, .int .i64 0, .bool true, .bool false, .bool true, .bool false, .bool false, .bool false]), (5, .agg #[.int .i64 0, .int .i64 0, .bool false, .bool true, .bool true, .bool false, .bool false, .bool false]), (4, .agg #[.int .i64 1, .int .i64 1, .bool false, .bool true, .bool true, .bool false, .bool false, .bool false]), (3, .agg #[.int .i64 1, .int .i64 1, .bool false, .bool false, .bool true, .bool true, .bool false, .bool false]), (2, .agg #[.int .i64 2, .int .i64 2, .bool false, .bool false, .bool false, .bool false, .bool false, .bool false]), (1, .agg #[.int .i64 1, .int .i64 1, .bool true, .bool false, .bool false, .bool false, .bool false, .bool false])])) rfl rfl rfl rfl rfl K3 hm13 (by decide) (key3 ⟨by omega, by omega⟩) (plain_fv _) (by simp [tblF]) tblF_new (fun s h => tblF_old s h) rfl ?_
  clear hm13
  intro o14 hm14; refine Qw (own' := [(g7, o14)] :: _) rfl ?_; refine Qb rfl rfl ?_; refine Qe rfl rfl ?_; refine Qi ?_; refine Qc ?_; refine Qj ?_
  have hcase : k = 1 ∨ k = 2 ∨ k = 3 ∨ k = 4 ∨ k = 5 ∨ k = 6 ∨ k = 7 ∨ k = 8 ∨ k = 9 ∨ k = 10 ∨ k = 11 ∨ k = 12 ∨ k = 13 ∨ k = 14 ∨ (k < 1 ∨ 14 < k) := by omega
  rcases hcase with rfl | rfl | rfl | rfl | rfl | rfl | rfl | rfl | rfl | rfl | rfl | rfl | rfl | rfl | hk9
  ·
   refine Qh ?_; refine Qb rfl rfl ?_; refine Qb rfl rfl ?_; refine TL.lookR (key := .int .i64 1) 0 0 rfl rfl rfl rfl K3 hm14 (key3 ⟨by omega, by omega⟩) zero170 rfl ?_
   rw [show tblF [(14, .agg #[.int .i64 1, .int .i64 1, .bool false, .bool false, .bool false, .bool false, .bool false, .bool false]), (13, .agg #[.int .i64 0, .int .i64 0, .bool false, .bool false, .bool false, .bool false, .bool false, .bool false]), (12, .agg #[.int .i64 0, .int .i64 0, .bool false, .bool false, .bool false, .bool false, .bool false, .bool false]), (11, .agg #[.int .i64 1, .int .i64 1, .bool false, .bool false, .bool false, .bool false, .bool false, .bool true]), (10, .agg #[.int .i64 0, .int .i64 1, .bool false, .bool false, .bool false, .bool false, .bool false, .bool false]), (9, .agg #[.int .i64 1, .int .i64 1, .bool false, .bool false, .bool false, .bool true, .bool true, .bool false]), (8, .agg #[.int .i64 0, .int .i64 0, .bool true, .bool false, .bool false, .bool false, .bool false, .bool false]), (7, .agg #[.int .i64 0, .int .i64 0, .bool true, .bool false, .bool false, .bool false, .bool false, .bool false]), (6, .agg #[.int .i64 0, .int .i64 0, .bool true, .bool false, .bool true, .bool false, .bool false, .bool false]), (5, .agg #[.int .i64 0, .int .i64 0, .bool false, .bool true, .bool true, .bool false, .bool false, .bool false]), (4, .agg #[.int .i64 1, .int .i64 1, .bool false, .bool true, .bool true, .bool false, .bool false, .bool false]), (3, .agg #[.int .i64 1, .int .i64 1, .bool false, .bool false, .bool true, .bool true, .bool false, .bool false]), (2, .agg #[.int .i64 2, .int .i64 2, .bool false, .bool false, .bool false, .bool false, .bool false, .bool false]), (1, .agg #[.int .i64 1, .int .i64 1, .bool true, .bool false, .bool false, .bool false, .bool false, .bool false])] (.int .i64 1) = some (.agg #[.int .i64 1, .int .i64 1, .bool true, .bool false, .bool false, .bool false, .bool false, .bool false]) from by simp [tblF]]
   simp only [if_true, Option.getD_some, Option.getD_none, Option.isSome_some, Option.isSome_none]
   refine Qb rfl rfl ?_; refine Qu rfl rfl rfl ?_; refine Qu rfl rfl rfl ?_
   refine Zc rfl ?_; intro g5; refine Qq 0 0 (c' := #[_, _, _, _, _, _, _, _]) (own' := [(_, .cells #[_, _, _, _, _, _, _, _] _ _)] :: _) rfl rfl rfl rfl rfl ⟨rfl, rfl, rfl, rfl, rfl, rfl, rfl, rfl, trivial⟩ (by simp) (putC_all rfl) rfl rfl ?_; refine Qe rfl rfl ?_; refine Q3 ?_; refine Qm 0 0 [_, _, _, _, _, _, _, _] rfl rfl rfl ⟨rfl, rfl, rfl, rfl, rfl, rfl, rfl, rfl, trivial⟩ rfl rfl ?_; refine Qb rfl rfl ?_; refine Qq 2 0 (c' := #[_, _, _, _, _, _, _, _]) (own' := _ :: _ :: [(_, .cells #[_, _, _, _, _, _, _, _] _ _)] :: _) rfl rfl rfl rfl rfl ⟨rfl, rfl, rfl, rfl, rfl, rfl, rfl, rfl, trivial⟩ (by simp) (putC_all rfl) rfl rfl ?_; refine Qe rfl rfl ?_; refine Qi ?_; refine Qc ?_; refine Qy ?_; refine Zw 2 0 3 [_, _, _, _, _, _, _, _] rfl rfl rfl rfl rfl ⟨rfl, rfl, rfl, rfl, rfl, rfl, rfl, rfl, trivial⟩ rfl rfl ?_
   exact ⟨rfl, rfl, hL⟩
  ·
   refine Qh ?_; refine Qb rfl rfl ?_; refine Qb rfl rfl ?_; refine TL.lookR (key := .int .i64 2) 0 0 rfl rfl rfl rfl K3 hm14 (key3 ⟨by omega, by omega⟩) zero170 rfl ?_
   rw [show tblF [(14, .agg #[.int .i64 1, .int .i64 1, .bool false, .bool false, .bool false, .bool false, .bool false, .bool false]), (13, .agg #[.int .i64 0, .int .i64 0, .bool false, .bool false, .bool false, .bool false, .bool false, .bool false]), (12, .agg #[.int .i64 0, .int .i64 0, .bool false, .bool false, .bool false, .bool false, .bool false, .bool false]), (11, .agg #[.int .i64 1, .int .i64 1, .bool false, .bool false, .bool false, .bool false, .bool false, .bool true]), (10, .agg #[.int .i64 0, .int .i64 1, .bool false, .bool false, .bool false, .bool false, .bool false, .bool false]), (9, .agg #[.int .i64 1, .int .i64 1, .bool false, .bool false, .bool false, .bool true, .bool true, .bool false]), (8, .agg #[.int .i64 0, .int .i64 0, .bool true, .bool false, .bool false, .bool false, .bool false, .bool false]), (7, .agg #[.int .i64 0, .int .i64 0, .bool true, .bool false, .bool false, .bool false, .bool false, .bool false]), (6, .agg #[.int .i64 0, .int .i64 0, .bool true, .bool false, .bool true, .bool false, .bool false, .bool false]), (5, .agg #[.int .i64 0, .int .i64 0, .bool false, .bool true, .bool true, .bool false, .bool false, .bool false]), (4, .agg #[.int .i64 1, .int .i64 1, .bool false, .bool true, .bool true, .bool false, .bool false, .bool false]), (3, .agg #[.int .i64 1, .int .i64 1, .bool false, .bool false, .bool true, .bool true, .bool false, .bool false]), (2, .agg #[.int .i64 2, .int .i64 2, .bool false, .bool false, .bool false, .bool false, .bool false, .bool false]), (1, .agg #[.int .i64 1, .int .i64 1, .bool true, .bool false, .bool false, .bool false, .bool false, .bool false])] (.int .i64 2) = some (.agg #[.int .i64 2, .int .i64 2, .bool false, .bool false, .bool false, .bool false, .bool false, .bool false]) from by simp [tblF]]
   simp only [if_true, Option.getD_some, Option.getD_none, Option.isSome_some, Option.isSome_none]
   refine Qb rfl rfl ?_; refine Qu rfl rfl rfl ?_; refine Qu rfl rfl rfl ?_
   refine Zc rfl ?_; intro g5; refine Qq 0 0 (c' := #[_, _, _, _, _, _, _, _]) (own' := [(_, .cells #[_, _, _, _, _, _, _, _] _ _)] :: _) rfl rfl rfl rfl rfl ⟨rfl, rfl, rfl, rfl, rfl, rfl, rfl, rfl, trivial⟩ (by simp) (putC_all rfl) rfl rfl ?_; refine Qe rfl rfl ?_; refine Q3 ?_; refine Qm 0 0 [_, _, _, _, _, _, _, _] rfl rfl rfl ⟨rfl, rfl, rfl, rfl, rfl, rfl, rfl, rfl, trivial⟩ rfl rfl ?_; refine Qb rfl rfl ?_; refine Qq 2 0 (c' := #[_, _, _, _, _, _, _, _]) (own' := _ :: _ :: [(_, .cells #[_, _, _, _, _, _, _, _] _ _)] :: _) rfl rfl rfl rfl rfl ⟨rfl, rfl, rfl, rfl, rfl, rfl, rfl, rfl, trivial⟩ (by simp) (putC_all rfl) rfl rfl ?_; refine Qe rfl rfl ?_; refine Qi ?_; refine Qc ?_; refine Qy ?_; refine Zw 2 0 3 [_, _, _, _, _, _, _, _] rfl rfl rfl rfl rfl ⟨rfl, rfl, rfl, rfl, rfl, rfl, rfl, rfl, trivial⟩ rfl rfl ?_
   exact ⟨rfl, rfl, hL⟩
  ·
   refine Qh ?_; refine Qb rfl rfl ?_; refine Qb rfl rfl ?_; refine TL.lookR (key := .int .i64 3) 0 0 rfl rfl rfl rfl K3 hm14 (key3 ⟨by omega, by omega⟩) zero170 rfl ?_
   rw [show tblF [(14, .agg #[.int .i64 1, .int .i64 1, .bool false, .bool false, .bool false, .bool false, .bool false, .bool false]), (13, .agg #[.int .i64 0, .int .i64 0, .bool false, .bool false, .bool false, .bool false, .bool false, .bool false]), (12, .agg #[.int .i64 0, .int .i64 0, .bool false, .bool false, .bool false, .bool false, .bool false, .bool false]), (11, .agg #[.int .i64 1, .int .i64 1, .bool false, .bool false, .bool false, .bool false, .bool false, .bool true]), (10, .agg #[.int .i64 0, .int .i64 1, .bool false, .bool false, .bool false, .bool false, .bool false, .bool false]), (9, .agg #[.int .i64 1, .int .i64 1, .bool false, .bool false, .bool false, .bool true, .bool true, .bool false]), (8, .agg #[.int .i64 0, .int .i64 0, .bool true, .bool false, .bool false, .bool false, .bool false, .bool false]), (7, .agg #[.int .i64 0, .int .i64 0, .bool true, .bool false, .bool false, .bool false, .bool false, .bool false]), (6, .agg #[.int .i64 0, .int .i64 0, .bool true, .bool false, .bool true, .bool false, .bool false, .bool false]), (5, .agg #[.int .i64 0, .int .i64 0, .bool false, .bool true, .bool true, .bool false, .bool false, .bool false]), (4, .agg #[.int .i64 1, .int .i64 1, .bool false, .bool true, .bool true, .bool false, .bool false, .bool false]), (3, .agg #[.int .i64 1, .int .i64 1, .bool false, .bool false, .bool true, .bool true, .bool false, .bool false]), (2, .agg #[.int .i64 2, .int .i64 2, .bool false, .bool false, .bool false, .bool false, .bool false, .bool false]), (1, .agg #[.int .i64 1, .int .i64 1, .bool true, .bool false, .bool false, .bool false, .bool false, .bool false])] (.int .i64 3) = some (.agg #[.int .i64 1, .int .i64 1, .bool false, .bool false, .bool true, .bool true, .bool false, .bool false]) from by simp [tblF]]
   simp only [if_true, Option.getD_some, Option.getD_none, Option.isSome_some, Option.isSome_none]
   refine Qb rfl rfl ?_; refine Qu rfl rfl rfl ?_; refine Qu rfl rfl rfl ?_
   refine Zc rfl ?_; intro g5; refine Qq 0 0 (c' := #[_, _, _, _, _, _, _, _]) (own' := [(_, .cells #[_, _, _, _, _, _, _, _] _ _)] :: _) rfl rfl rfl rfl rfl ⟨rfl, rfl, rfl, rfl, rfl, rfl, rfl, rfl, trivial⟩ (by simp) (putC_all rfl) rfl rfl ?_; refine Qe rfl rfl ?_; refine Q3 ?_; refine Qm 0 0 [_, _, _, _, _, _, _, _] rfl rfl rfl ⟨rfl, rfl, rfl, rfl, rfl, rfl, rfl, rfl, trivial⟩ rfl rfl ?_; refine Qb rfl rfl ?_; refine Qq 2 0 (c' := #[_, _, _, _, _, _, _, _]) (own' := _ :: _ :: [(_, .cells #[_, _, _, _, _, _, _, _] _ _)] :: _) rfl rfl rfl rfl rfl ⟨rfl, rfl, rfl, rfl, rfl, rfl, rfl, rfl, trivial⟩ (by simp) (putC_all rfl) rfl rfl ?_; refine Qe rfl rfl ?_; refine Qi ?_; refine Qc ?_; refine Qy ?_; refine Zw 2 0 3 [_, _, _, _, _, _, _, _] rfl rfl rfl rfl rfl ⟨rfl, rfl, rfl, rfl, rfl, rfl, rfl, rfl, trivial⟩ rfl rfl ?_
   exact ⟨rfl, rfl, hL⟩
  ·
   refine Qh ?_; refine Qb rfl rfl ?_; refine Qb rfl rfl ?_; refine TL.lookR (key := .int .i64 4) 0 0 rfl rfl rfl rfl K3 hm14 (key3 ⟨by omega, by omega⟩) zero170 rfl ?_
   rw [show tblF [(14, .agg #[.int .i64 1, .int .i64 1, .bool false, .bool false, .bool false, .bool false, .bool false, .bool false]), (13, .agg #[.int .i64 0, .int .i64 0, .bool false, .bool false, .bool false, .bool false, .bool false, .bool false]), (12, .agg #[.int .i64 0, .int .i64 0, .bool false, .bool false, .bool false, .bool false, .bool false, .bool false]), (11, .agg #[.int .i64 1, .int .i64 1, .bool false, .bool false, .bool false, .bool false, .bool false, .bool true]), (10, .agg #[.int .i64 0, .int .i64 1, .bool false, .bool false, .bool false, .bool false, .bool false, .bool false]), (9, .agg #[.int .i64 1, .int .i64 1, .bool false, .bool false, .bool false, .bool true, .bool true, .bool false]), (8, .agg #[.int .i64 0, .int .i64 0, .bool true, .bool false, .bool false, .bool false, .bool false, .bool false]), (7, .agg #[.int .i64 0, .int .i64 0, .bool true, .bool false, .bool false, .bool false, .bool false, .bool false]), (6, .agg #[.int .i64 0, .int .i64 0, .bool true, .bool false, .bool true, .bool false, .bool false, .bool false]), (5, .agg #[.int .i64 0, .int .i64 0, .bool false, .bool true, .bool true, .bool false, .bool false, .bool false]), (4, .agg #[.int .i64 1, .int .i64 1, .bool false, .bool true, .bool true, .bool false, .bool false, .bool false]), (3, .agg #[.int .i64 1, .int .i64 1, .bool false, .bool false, .bool true, .bool true, .bool false, .bool false]), (2, .agg #[.int .i64 2, .int .i64 2, .bool false, .bool false, .bool false, .bool false, .bool false, .bool false]), (1, .agg #[.int .i64 1, .int .i64 1, .bool true, .bool false, .bool false, .bool false, .bool false, .bool false])] (.int .i64 4) = some (.agg #[.int .i64 1, .int .i64 1, .bool false, .bool true, .bool true, .bool false, .bool false, .bool false]) from by simp [tblF]]
   simp only [if_true, Option.getD_some, Option.getD_none, Option.isSome_some, Option.isSome_none]
   refine Qb rfl rfl ?_; refine Qu rfl rfl rfl ?_; refine Qu rfl rfl rfl ?_
   refine Zc rfl ?_; intro g5; refine Qq 0 0 (c' := #[_, _, _, _, _, _, _, _]) (own' := [(_, .cells #[_, _, _, _, _, _, _, _] _ _)] :: _) rfl rfl rfl rfl rfl ⟨rfl, rfl, rfl, rfl, rfl, rfl, rfl, rfl, trivial⟩ (by simp) (putC_all rfl) rfl rfl ?_; refine Qe rfl rfl ?_; refine Q3 ?_; refine Qm 0 0 [_, _, _, _, _, _, _, _] rfl rfl rfl ⟨rfl, rfl, rfl, rfl, rfl, rfl, rfl, rfl, trivial⟩ rfl rfl ?_; refine Qb rfl rfl ?_; refine Qq 2 0 (c' := #[_, _, _, _, _, _, _, _]) (own' := _ :: _ :: [(_, .cells #[_, _, _, _, _, _, _, _] _ _)] :: _) rfl rfl rfl rfl rfl ⟨rfl, rfl, rfl, rfl, rfl, rfl, rfl, rfl, trivial⟩ (by simp) (putC_all rfl) rfl rfl ?_; refine Qe rfl rfl ?_; refine Qi ?_; refine Qc ?_; refine Qy ?_; refine Zw 2 0 3 [_, _, _, _, _, _, _, _] rfl rfl rfl rfl rfl ⟨rfl, rfl, rfl, rfl, rfl, rfl, rfl, rfl, trivial⟩ rfl rfl ?_
   exact ⟨rfl, rfl, hL⟩
  ·
   refine Qh ?_; refine Qb rfl rfl ?_; refine Qb rfl rfl ?_; refine TL.lookR (key := .int .i64 5) 0 0 rfl rfl rfl rfl K3 hm14 (key3 ⟨by omega, by omega⟩) zero170 rfl ?_
   rw [show tblF [(14, .agg #[.int .i64 1, .int .i64 1, .bool false, .bool false, .bool false, .bool false, .bool false, .bool false]), (13, .agg #[.int .i64 0, .int .i64 0, .bool false, .bool false, .bool false, .bool false, .bool false, .bool false]), (12, .agg #[.int .i64 0, .int .i64 0, .bool false, .bool false, .bool false, .bool false, .bool false, .bool false]), (11, .agg #[.int .i64 1, .int .i64 1, .bool false, .bool false, .bool false, .bool false, .bool false, .bool true]), (10, .agg #[.int .i64 0, .int .i64 1, .bool false, .bool false, .bool false, .bool false, .bool false, .bool false]), (9, .agg #[.int .i64 1, .int .i64 1, .bool false, .bool false, .bool false, .bool true, .bool true, .bool false]), (8, .agg #[.int .i64 0, .int .i64 0, .bool true, .bool false, .bool false, .bool false, .bool false, .bool false]), (7, .agg #[.int .i64 0, .int .i64 0, .bool true, .bool false, .bool false, .bool false, .bool false, .bool false]), (6, .agg #[.int .i64 0, .int .i64 0, .bool true, .bool false, .bool true, .bool false, .bool false, .bool false]), (5, .agg #[.int .i64 0, .int .i64 0, .bool false, .bool true, .bool true, .bool false, .bool false, .bool false]), (4, .agg #[.int .i64 1, .int .i64 1, .bool false, .bool true, .bool true, .bool false, .bool false, .bool false]), (3, .agg #[.int .i64 1, .int .i64 1, .bool false, .bool false, .bool true, .bool true, .bool false, .bool false]), (2, .agg #[.int .i64 2, .int .i64 2, .bool false, .bool false, .bool false, .bool false, .bool false, .bool false]), (1, .agg #[.int .i64 1, .int .i64 1, .bool true, .bool false, .bool false, .bool false, .bool false, .bool false])] (.int .i64 5) = some (.agg #[.int .i64 0, .int .i64 0, .bool false, .bool true, .bool true, .bool false, .bool false, .bool false]) from by simp [tblF]]
   simp only [if_true, Option.getD_some, Option.getD_none, Option.isSome_some, Option.isSome_none]
   refine Qb rfl rfl ?_; refine Qu rfl rfl rfl ?_; refine Qu rfl rfl rfl ?_
   refine Zc rfl ?_; intro g5; refine Qq 0 0 (c' := #[_, _, _, _, _, _, _, _]) (own' := [(_, .cells #[_, _, _, _, _, _, _, _] _ _)] :: _) rfl rfl rfl rfl rfl ⟨rfl, rfl, rfl, rfl, rfl, rfl, rfl, rfl, trivial⟩ (by simp) (putC_all rfl) rfl rfl ?_; refine Qe rfl rfl ?_; refine Q3 ?_; refine Qm 0 0 [_, _, _, _, _, _, _, _] rfl rfl rfl ⟨rfl, rfl, rfl, rfl, rfl, rfl, rfl, rfl, trivial⟩ rfl rfl ?_; refine Qb rfl rfl ?_; refine Qq 2 0 (c' := #[_, _, _, _, _, _, _, _]) (own' := _ :: _ :: [(_, .cells #[_, _, _, _, _, _, _, _] _ _)] :: _) rfl rfl rfl rfl rfl ⟨rfl, rfl, rfl, rfl, rfl, rfl, rfl, rfl, trivial⟩ (by simp) (putC_all rfl) rfl rfl ?_; refine Qe rfl rfl ?_; refine Qi ?_; refine Qc ?_; refine Qy ?_; refine Zw 2 0 3 [_, _, _, _, _, _, _, _] rfl rfl rfl rfl rfl ⟨rfl, rfl, rfl, rfl, rfl, rfl, rfl, rfl, trivial⟩ rfl rfl ?_
   exact ⟨rfl, rfl, hL⟩
  ·
   refine Qh ?_; refine Qb rfl rfl ?_; refine Qb rfl rfl ?_; refine TL.lookR (key := .int .i64 6) 0 0 rfl rfl rfl rfl K3 hm14 (key3 ⟨by omega, by omega⟩) zero170 rfl ?_
   rw [show tblF [(14, .agg #[.int .i64 1, .int .i64 1, .bool false, .bool false, .bool false, .bool false, .bool false, .bool false]), (13, .agg #[.int .i64 0, .int .i64 0, .bool false, .bool false, .bool false, .bool false, .bool false, .bool false]), (12, .agg #[.int .i64 0, .int .i64 0, .bool false, .bool false, .bool false, .bool false, .bool false, .bool false]), (11, .agg #[.int .i64 1, .int .i64 1, .bool false, .bool false, .bool false, .bool false, .bool false, .bool true]), (10, .agg #[.int .i64 0, .int .i64 1, .bool false, .bool false, .bool false, .bool false, .bool false, .bool false]), (9, .agg #[.int .i64 1, .int .i64 1, .bool false, .bool false, .bool false, .bool true, .bool true, .bool false]), (8, .agg #[.int .i64 0, .int .i64 0, .bool true, .bool false, .bool false, .bool false, .bool false, .bool false]), (7, .agg #[.int .i64 0, .int .i64 0, .bool true, .bool false, .bool false, .bool false, .bool false, .bool false]), (6, .agg #[.int .i64 0, .int .i64 0, .bool true, .bool false, .bool true, .bool false, .bool false, .bool false]), (5, .agg #[.int .i64 0, .int .i64 0, .bool false, .bool true, .bool true, .bool false, .bool false, .bool false]), (4, .agg #[.int .i64 1, .int .i64 1, .bool false, .bool true, .bool true, .bool false, .bool false, .bool false]), (3, .agg #[.int .i64 1, .int .i64 1, .bool false, .bool false, .bool true, .bool true, .bool false, .bool false]), (2, .agg #[.int .i64 2, .int .i64 2, .bool false, .bool false, .bool false, .bool false, .bool false, .bool false]), (1, .agg #[.int .i64 1, .int .i64 1, .bool true, .bool false, .bool false, .bool false, .bool false, .bool false])] (.int .i64 6) = some (.agg #[.int .i64 0, .int .i64 0, .bool true, .bool false, .bool true, .bool false, .bool false, .bool false]) from by simp [tblF]]
   simp only [if_true, Option.getD_some, Option.getD_none, Option.isSome_some, Option.isSome_none]
   refine Qb rfl rfl ?_; refine Qu rfl rfl rfl ?_; refine Qu rfl rfl rfl ?_
   refine Zc rfl ?_; intro g5; refine Qq 0 0 (c' := #[_, _, _, _, _, _, _, _]) (own' := [(_, .cells #[_, _, _, _, _, _, _, _] _ _)] :: _) rfl rfl rfl rfl rfl ⟨rfl, rfl, rfl, rfl, rfl, rfl, rfl, rfl, trivial⟩ (by simp) (putC_all rfl) rfl rfl ?_; refine Qe rfl rfl ?_; refine Q3 ?_; refine Qm 0 0 [_, _, _, _, _, _, _, _] rfl rfl rfl ⟨rfl, rfl, rfl, rfl, rfl, rfl, rfl, rfl, trivial⟩ rfl rfl ?_; refine Qb rfl rfl ?_; refine Qq 2 0 (c' := #[_, _, _, _, _, _, _, _]) (own' := _ :: _ :: [(_, .cells #[_, _, _, _, _, _, _, _] _ _)] :: _) rfl rfl rfl rfl rfl ⟨rfl, rfl, rfl, rfl, rfl, rfl, rfl, rfl, trivial⟩ (by simp) (putC_all rfl) rfl rfl ?_; refine Qe rfl rfl ?_; refine Qi ?_; refine Qc ?_; refine Qy ?_; refine Zw 2 0 3 [_, _, _, _, _, _, _, _] rfl rfl rfl rfl rfl ⟨rfl, rfl, rfl, rfl, rfl, rfl, rfl, rfl, trivial⟩ rfl rfl ?_
   exact ⟨rfl, rfl, hL⟩
  ·
   refine Qh ?_; refine Qb rfl rfl ?_; refine Qb rfl rfl ?_; refine TL.lookR (key := .int .i64 7) 0 0 rfl rfl rfl rfl K3 hm14 (key3 ⟨by omega, by omega⟩) zero170 rfl ?_
   rw [show tblF [(14, .agg #[.int .i64 1, .int .i64 1, .bool false, .bool false, .bool false, .bool false, .bool false, .bool false]), (13, .agg #[.int .i64 0, .int .i64 0, .bool false, .bool false, .bool false, .bool false, .bool false, .bool false]), (12, .agg #[.int .i64 0, .int .i64 0, .bool false, .bool false, .bool false, .bool false, .bool false, .bool false]), (11, .agg #[.int .i64 1, .int .i64 1, .bool false, .bool false, .bool false, .bool false, .bool false, .bool true]), (10, .agg #[.int .i64 0, .int .i64 1, .bool false, .bool false, .bool false, .bool false, .bool false, .bool false]), (9, .agg #[.int .i64 1, .int .i64 1, .bool false, .bool false, .bool false, .bool true, .bool true, .bool false]), (8, .agg #[.int .i64 0, .int .i64 0, .bool true, .bool false, .bool false, .bool false, .bool false, .bool false]), (7, .agg #[.int .i64 0, .int .i64 0, .bool true, .bool false, .bool false, .bool false, .bool false, .bool false]), (6, .agg #[.int .i64 0, .int .i64 0, .bool true, .bool false, .bool true, .bool false, .bool false, .bool false]), (5, .agg #[.int .i64 0, .int .i64 0, .bool false, .bool true, .bool true, .bool false, .bool false, .bool false]), (4, .agg #[.int .i64 1, .int .i64 1, .bool false, .bool true, .bool true, .bool false, .bool false, .bool false]), (3, .agg #[.int .i64 1, .int .i64 1, .bool false, .bool false, .bool true, .bool true, .bool false, .bool false]), (2, .agg #[.int .i64 2, .int .i64 2, .bool false, .bool false, .bool false, .bool false, .bool false, .bool false]), (1, .agg #[.int .i64 1, .int .i64 1, .bool true, .bool false, .bool false, .bool false, .bool false, .bool false])] (.int .i64 7) = some (.agg #[.int .i64 0, .int .i64 0, .bool true, .bool false, .bool false, .bool false, .bool false, .bool false]) from by simp [tblF]]
   simp only [if_true, Option.getD_some, Option.getD_none, Option.isSome_some, Option.isSome_none]
   refine Qb rfl rfl ?_; refine Qu rfl rfl rfl ?_; refine Qu rfl rfl rfl ?_
   refine Zc rfl ?_; intro g5; refine Qq 0 0 (c' := #[_, _, _, _, _, _, _, _]) (own' := [(_, .cells #[_, _, _, _, _, _, _, _] _ _)] :: _) rfl rfl rfl rfl rfl ⟨rfl, rfl, rfl, rfl, rfl, rfl, rfl, rfl, trivial⟩ (by simp) (putC_all rfl) rfl rfl ?_; refine Qe rfl rfl ?_; refine Q3 ?_; refine Qm 0 0 [_, _, _, _, _, _, _, _] rfl rfl rfl ⟨rfl, rfl, rfl, rfl, rfl, rfl, rfl, rfl, trivial⟩ rfl rfl ?_; refine Qb rfl rfl ?_; refine Qq 2 0 (c' := #[_, _, _, _, _, _, _, _]) (own' := _ :: _ :: [(_, .cells #[_, _, _, _, _, _, _, _] _ _)] :: _) rfl rfl rfl rfl rfl ⟨rfl, rfl, rfl, rfl, rfl, rfl, rfl, rfl, trivial⟩ (by simp) (putC_all rfl) rfl rfl ?_; refine Qe rfl rfl ?_; refine Qi ?_; refine Qc ?_; refine Qy ?_; refine Zw 2 0 3 [_, _, _, _, _, _, _, _] rfl rfl rfl rfl rfl ⟨rfl, rfl, rfl, rfl, rfl, rfl, rfl, rfl, trivial⟩ rfl rfl ?_
   exact ⟨rfl, rfl, hL⟩
  ·
   refine Qh ?_; refine Qb rfl rfl ?_; refine Qb rfl rfl ?_; refine TL.lookR (key := .int .i64 8) 0 0 rfl rfl rfl rfl K3 hm14 (key3 ⟨by omega, by omega⟩) zero170 rfl ?_
   rw [show tblF [(14, .agg #[.int .i64 1, .int .i64 1, .bool false, .bool false, .bool false, .bool false, .bool false, .bool false]), (13, .agg #[.int .i64 0, .int .i64 0, .bool false, .bool false, .bool false, .bool false, .bool false, .bool false]), (12, .agg #[.int .i64 0, .int .i64 0, .bool false, .bool false, .bool false, .bool false, .bool false, .bool false]), (11, .agg #[.int .i64 1, .int .i64 1, .bool false, .bool false, .bool false, .bool false, .bool false, .bool true]), (10, .agg #[.int .i64 0, .int .i64 1, .bool false, .bool false, .bool false, .bool false, .bool false, .bool false]), (9, .agg #[.int .i64 1, .int .i64 1, .bool false, .bool false, .bool false, .bool true, .bool true, .bool false]), (8, .agg #[.int .i64 0, .int .i64 0, .bool true, .bool false, .bool false, .bool false, .bool false, .bool false]), (7, .agg #[.int .i64 0, .int .i64 0, .bool true, .bool false, .bool false, .bool false, .bool false, .bool false]), (6, .agg #[.int .i64 0, .int .i64 0, .bool true, .bool false, .bool true, .bool false, .bool false, .bool false]), (5, .agg #[.int .i64 0, .int .i64 0, .bool false, .bool true, .bool true, .bool false, .bool false, .bool false]), (4, .agg #[.int .i64 1, .int .i64 1, .bool false, .bool true, .bool true, .bool false, .bool false, .bool false]), (3, .agg #[.int .i64 1, .int .i64 1, .bool false, .bool false, .bool true, .bool true, .bool false, .bool false]), (2, .agg #[.int .i64 2, .int .i64 2, .bool false, .bool false, .bool false, .bool false, .bool false, .bool false]), (1, .agg #[.int .i64 1, .int .i64 1, .bool true, .bool false, .bool false, .bool false, .bool false, .bool false])] (.int .i64 8) = some (.agg #[.int .i64 0, .int .i64 0, .bool true, .bool false, .bool false, .bool false, .bool false, .bool false]) from by simp [tblF]]
   simp only [if_true, Option.getD_some, Option.getD_none, Option.isSome_some, Option.isSome_none]
   refine Qb rfl rfl ?_; refine Qu rfl rfl rfl ?_; refine Qu rfl rfl rfl ?_
   refine Zc rfl ?_; intro g5; refine Qq 0 0 (c' := #[_, _, _, _, _, _, _, _]) (own' := [(_, .cells #[_, _, _, _, _, _, _, _] _ _)] :: _) rfl rfl rfl rfl rfl ⟨rfl, rfl, rfl, rfl, rfl, rfl, rfl, rfl, trivial⟩ (by simp) (putC_all rfl) rfl rfl ?_; refine Qe rfl rfl ?_; refine Q3 ?_; refine Qm 0 0 [_, _, _, _, _, _, _, _] rfl rfl rfl ⟨rfl, rfl, rfl, rfl, rfl, rfl, rfl, rfl, trivial⟩ rfl rfl ?_; refine Qb rfl rfl ?_; refine Qq 2 0 (c' := #[_, _, _, _, _, _, _, _]) (own' := _ :: _ :: [(_, .cells #[_, _, _, _, _, _, _, _] _ _)] :: _) rfl rfl rfl rfl rfl ⟨rfl, rfl, rfl, rfl, rfl, rfl, rfl, rfl, trivial⟩ (by simp) (putC_all rfl) rfl rfl ?_; refine Qe rfl rfl ?_; refine Qi ?_; refine Qc ?_; refine Qy ?_; refine Zw 2 0 3 [_, _, _, _, _, _, _, _] rfl rfl rfl rfl rfl ⟨rfl, rfl, rfl, rfl, rfl, rfl, rfl, rfl, trivial⟩ rfl rfl ?_
   exact ⟨rfl, rfl, hL⟩
  ·
   refine Qh ?_; refine Qb rfl rfl ?_; refine Qb rfl rfl ?_; refine TL.lookR (key := .int .i64 9) 0 0 rfl rfl rfl rfl K3 hm14 (key3 ⟨by omega, by omega⟩) zero170 rfl ?_
   rw [show tblF [(14, .agg #[.int .i64 1, .int .i64 1, .bool false, .bool false, .bool false, .bool false, .bool false, .bool false]), (13, .agg #[.int .i64 0, .int .i64 0, .bool false, .bool false, .bool false, .bool false, .bool false, .bool false]), (12, .agg #[.int .i64 0, .int .i64 0, .bool false, .bool false, .bool false, .bool false, .bool false, .bool false]), (11, .agg #[.int .i64 1, .int .i64 1, .bool false, .bool false, .bool false, .bool false, .bool false, .bool true]), (10, .agg #[.int .i64 0, .int .i64 1, .bool false, .bool false, .bool false, .bool false, .bool false, .bool false]), (9, .agg #[.int .i64 1, .int .i64 1, .bool false, .bool false, .bool false, .bool true, .bool true, .bool false]), (8, .agg #[.int .i64 0, .int .i64 0, .bool true, .bool false, .bool false, .bool false, .bool false, .bool false]), (7, .agg #[.int .i64 0, .int .i64 0, .bool true, .bool false, .bool false, .bool false, .bool false, .bool false]), (6, .agg #[.int .i64 0, .int .i64 0, .bool true, .bool false, .bool true, .bool false, .bool false, .bool false]), (5, .agg #[.int .i64 0, .int .i64 0, .bool false, .bool true, .bool true, .bool false, .bool false, .bool false]), (4, .agg #[.int .i64 1, .int .i64 1, .bool false, .bool true, .bool true, .bool false, .bool false, .bool false]), (3, .agg #[.int .i64 1, .int .i64 1, .bool false, .bool false, .bool true, .bool true, .bool false, .bool false]), (2, .agg #[.int .i64 2, .int .i64 2, .bool false, .bool false, .bool false, .bool false, .bool false, .bool false]), (1, .agg #[.int .i64 1, .int .i64 1, .bool true, .bool false, .bool false, .bool false, .bool false, .bool false])] (.int .i64 9) = some (.agg #[.int .i64 1, .int .i64 1, .bool false, .bool false, .bool false, .bool true, .bool true, .bool false]) from by simp [tblF]]
   simp only [if_true, Option.getD_some, Option.getD_none, Option.isSome_some, Option.isSome_none]
   refine Qb rfl rfl ?_; refine Qu rfl rfl rfl ?_; refine Qu rfl rfl rfl ?_
   refine Zc rfl ?_; intro g5; refine Qq 0 0 (c' := #[_, _, _, _, _, _, _, _]) (own' := [(_, .cells #[_, _, _, _, _, _, _, _] _ _)] :: _) rfl rfl rfl rfl rfl ⟨rfl, rfl, rfl, rfl, rfl, rfl, rfl, rfl, trivial⟩ (by simp) (putC_all rfl) rfl rfl ?_; refine Qe rfl rfl ?_; refine Q3 ?_; refine Qm 0 0 [_, _, _, _, _, _, _, _] rfl rfl rfl ⟨rfl, rfl, rfl, rfl, rfl, rfl, rfl, rfl, trivial⟩ rfl rfl ?_; refine Qb rfl rfl ?_; refine Qq 2 0 (c' := #[_, _, _, _, _, _, _, _]) (own' := _ :: _ :: [(_, .cells #[_, _, _, _, _, _, _, _] _ _)] :: _) rfl rfl rfl rfl rfl ⟨rfl, rfl, rfl, rfl, rfl, rfl, rfl, rfl, trivial⟩ (by simp) (putC_all rfl) rfl rfl ?_; refine Qe rfl rfl ?_; refine Qi ?_; refine Qc ?_; refine Qy ?_; refine Zw 2 0 3 [_, _, _, _, _, _, _, _] rfl rfl rfl rfl rfl ⟨rfl, rfl, rfl, rfl, rfl, rfl, rfl, rfl, trivial⟩ rfl rfl ?_
   exact ⟨rfl, rfl, hL⟩
  ·
   refine Qh ?_; refine Qb rfl rfl ?_; refine Qb rfl rfl ?_; refine TL.lookR (key := .int .i64 10) 0 0 rfl rfl rfl rfl K3 hm14 (key3 ⟨by omega, by omega⟩) zero170 rfl ?_
   rw [show tblF [(14, .agg #[.int .i64 1, .int .i64 1, .bool false, .bool false, .bool false, .bool false, .bool false, .bool false]), (13, .agg #[.int .i64 0, .int .i64 0, .bool false, .bool false, .bool false, .bool false, .bool false, .bool false]), (12, .agg #[.int .i64 0, .int .i64 0, .bool false, .bool false, .bool false, .bool false, .bool false, .bool false]), (11, .agg #[.int .i64 1, .int .i64 1, .bool false, .bool false, .bool false, .bool false, .bool false, .bool true]), (10, .agg #[.int .i64 0, .int .i64 1, .bool false, .bool false, .bool false, .bool false, .bool false, .bool false]), (9, .agg #[.int .i64 1, .int .i64 1, .bool false, .bool false, .bool false, .bool true, .bool true, .bool false]), (8, .agg #[.int .i64 0, .int .i64 0, .bool true, .bool false, .bool false, .bool false, .bool false, .bool false]), (7, .agg #[.int .i64 0, .int .i64 0, .bool true, .bool false, .bool false, .bool false, .bool false, .bool false]), (6, .agg #[.int .i64 0, .int .i64 0, .bool true, .bool false, .bool true, .bool false, .bool false, .bool false]), (5, .agg #[.int .i64 0, .int .i64 0, .bool false, .bool true, .bool true, .bool false, .bool false, .bool false]), (4, .agg #[.int .i64 1, .int .i64 1, .bool false, .bool true, .bool true, .bool false, .bool false, .bool false]), (3, .agg #[.int .i64 1, .int .i64 1, .bool false, .bool false, .bool true, .bool true, .bool false, .bool false]), (2, .agg #[.int .i64 2, .int .i64 2, .bool false, .bool false, .bool false, .bool false, .bool false, .bool false]), (1, .agg #[.int .i64 1, .int .i64 1, .bool true, .bool false, .bool false, .bool false, .bool false, .bool false])] (.int .i64 10) = some (.agg #[.int .i64 0, .int .i64 1, .bool false, .bool false, .bool false, .bool false, .bool false, .bool false]) from by simp [tblF]]
   simp only [if_true, Option.getD_some, Option.getD_none, Option.isSome_some, Option.isSome_none]
   refine Qb rfl rfl ?_; refine Qu rfl rfl rfl ?_; refine Qu rfl rfl rfl ?_
   refine Zc rfl ?_; intro g5; refine Qq 0 0 (c' := #[_, _, _, _, _, _, _, _]) (own' := [(_, .cells #[_, _, _, _, _, _, _, _] _ _)] :: _) rfl rfl rfl rfl rfl ⟨rfl, rfl, rfl, rfl, rfl, rfl, rfl, rfl, trivial⟩ (by simp) (putC_all rfl) rfl rfl ?_; refine Qe rfl rfl ?_; refine Q3 ?_; refine Qm 0 0 [_, _, _, _, _, _, _, _] rfl rfl rfl ⟨rfl, rfl, rfl, rfl, rfl, rfl, rfl, rfl, trivial⟩ rfl rfl ?_; refine Qb rfl rfl ?_; refine Qq 2 0 (c' := #[_, _, _, _, _, _, _, _]) (own' := _ :: _ :: [(_, .cells #[_, _, _, _, _, _, _, _] _ _)] :: _) rfl rfl rfl rfl rfl ⟨rfl, rfl, rfl, rfl, rfl, rfl, rfl, rfl, trivial⟩ (by simp) (putC_all rfl) rfl rfl ?_; refine Qe rfl rfl ?_; refine Qi ?_; refine Qc ?_; refine Qy ?_; refine Zw 2 0 3 [_, _, _, _, _, _, _, _] rfl rfl rfl rfl rfl ⟨rfl, rfl, rfl, rfl, rfl, rfl, rfl, rfl, trivial⟩ rfl rfl ?_
   exact ⟨rfl, rfl, hL⟩
  ·
   refine Qh ?_; refine Qb rfl rfl ?_; refine Qb rfl rfl ?_; refine TL.lookR (key := .int .i64 11) 0 0 rfl rfl rfl rfl K3 hm14 (key3 ⟨by omega, by omega⟩) zero170 rfl ?_
   rw [show tblF [(14, .agg #[.int .i64 1, .int .i64 1, .bool false, .bool false, .bool false, .bool false, .bool false, .bool false]), (13, .agg #[.int .i64 0, .int .i64 0, .bool false, .bool false, .bool false, .bool false, .bool false, .bool false]), (12, .agg #[.int .i64 0, .int .i64 0, .bool false, .bool false, .bool false, .bool false, .bool false, .bool false]), (11, .agg #[.int .i64 1, .int .i64 1, .bool false, .bool false, .bool false, .bool false, .bool false, .bool true]), (10, .agg #[.int .i64 0, .int .i64 1, .bool false, .bool false, .bool false, .bool false, .bool false, .bool false]), (9, .agg #[.int .i64 1, .int .i64 1, .bool false, .bool false, .bool false, .bool true, .bool true, .bool false]), (8, .agg #[.int .i64 0, .int .i64 0, .bool true, .bool false, .bool false, .bool false, .bool false, .bool false]), (7, .agg #[.int .i64 0, .int .i64 0, .bool true, .bool false, .bool false, .bool false, .bool false, .bool false]), (6, .agg #[.int .i64 0, .int .i64 0, .bool true, .bool false, .bool true, .bool false, .bool false, .bool false]), (5, .agg #[.int .i64 0, .int .i64 0, .bool false, .bool true, .bool true, .bool false, .bool false, .bool false]), (4, .agg #[.int .i64 1, .int .i64 1, .bool false, .bool true, .bool true, .bool false, .bool false, .bool false]), (3, .agg #[.int .i64 1, .int .i64 1, .bool false, .bool false, .bool true, .bool true, .bool false, .bool false]), (2, .agg #[.int .i64 2, .int .i64 2, .bool false, .bool false, .bool false, .bool false, .bool false, .bool false]), (1, .agg #[.int .i64 1, .int .i64 1, .bool true, .bool false, .bool false, .bool false, .bool false, .bool false])] (.int .i64 11) = some (.agg #[.int .i64 1, .int .i64 1, .bool false, .bool false, .bool false, .bool false, .bool false, .bool true]) from by simp [tblF]]
   simp only [if_true, Option.getD_some, Option.getD_none, Option.isSome_some, Option.isSome_none]
   refine Qb rfl rfl ?_; refine Qu rfl rfl rfl ?_; refine Qu rfl rfl rfl ?_
   refine Zc rfl ?_; intro g5; refine Qq 0 0 (c' := #[_, _, _, _, _, _, _, _]) (own' := [(_, .cells #[_, _, _, _, _, _, _, _] _ _)] :: _) rfl rfl rfl rfl rfl ⟨rfl, rfl, rfl, rfl, rfl, rfl, rfl, rfl, trivial⟩ (by simp) (putC_all rfl) rfl rfl ?_; refine Qe rfl rfl ?_; refine Q3 ?_; refine Qm 0 0 [_, _, _, _, _, _, _, _] rfl rfl rfl ⟨rfl, rfl, rfl, rfl, rfl, rfl, rfl, rfl, trivial⟩ rfl rfl ?_; refine Qb rfl rfl ?_; refine Qq 2 0 (c' := #[_, _, _, _, _, _, _, _]) (own' := _ :: _ :: [(_, .cells #[_, _, _, _, _, _, _, _] _ _)] :: _) rfl rfl rfl rfl rfl ⟨rfl, rfl, rfl, rfl, rfl, rfl, rfl, rfl, trivial⟩ (by simp) (putC_all rfl) rfl rfl ?_; refine Qe rfl rfl ?_; refine Qi ?_; refine Qc ?_; refine Qy ?_; refine Zw 2 0 3 [_, _, _, _, _, _, _, _] rfl rfl rfl rfl rfl ⟨rfl, rfl, rfl, rfl, rfl, rfl, rfl, rfl, trivial⟩ rfl rfl ?_
   exact ⟨rfl, rfl, hL⟩
  ·
   refine Qh ?_; refine Qb rfl rfl ?_; refine Qb rfl rfl ?_; refine TL.lookR (key := .int .i64 12) 0 0 rfl rfl rfl rfl K3 hm14 (key3 ⟨by omega, by omega⟩) zero170 rfl ?_
   rw [show tblF [(14, .agg #[.int .i64 1, .int .i64 1, .bool false, .bool false, .bool false, .bool false, .bool false, .bool false]), (13, .agg #[.int .i64 0, .int .i64 0, .bool false, .bool false, .bool false, .bool false, .bool false, .bool false]), (12, .agg #[.int .i64 0, .int .i64 0, .bool false, .bool false, .bool false, .bool false, .bool false, .bool false]), (11, .agg #[.int .i64 1, .int .i64 1, .bool false, .bool false, .bool false, .bool false, .bool false, .bool true]), (10, .agg #[.int .i64 0, .int .i64 1, .bool false, .bool false, .bool false, .bool false, .bool false, .bool false]), (9, .agg #[.int .i64 1, .int .i64 1, .bool false, .bool false, .bool false, .bool true, .bool true, .bool false]), (8, .agg #[.int .i64 0, .int .i64 0, .bool true, .bool false, .bool false, .bool false, .bool false, .bool false]), (7, .agg #[.int .i64 0, .int .i64 0, .bool true, .bool false, .bool false, .bool false, .bool false, .bool false]), (6, .agg #[.int .i64 0, .int .i64 0, .bool true, .bool false, .bool true, .bool false, .bool false, .bool false]), (5, .agg #[.int .i64 0, .int .i64 0, .bool false, .bool true, .bool true, .bool false, .bool false, .bool false]), (4, .agg #[.int .i64 1, .int .i64 1, .bool false, .bool true, .bool true, .bool false, .bool false, .bool false]), (3, .agg #[.int .i64 1, .int .i64 1, .bool false, .bool false, .bool true, .bool true, .bool false, .bool false]), (2, .agg #[.int .i64 2, .int .i64 2, .bool false, .bool false, .bool false, .bool false, .bool false, .bool false]), (1, .agg #[.int .i64 1, .int .i64 1, .bool true, .bool false, .bool false, .bool false, .bool false, .bool false])] (.int .i64 12) = some (.agg #[.int .i64 0, .int .i64 0, .bool false, .bool false, .bool false, .bool false, .bool false, .bool false]) from by simp [tblF]]
   simp only [if_true, Option.getD_some, Option.getD_none, Option.isSome_some, Option.isSome_none]
   refine Qb rfl rfl ?_; refine Qu rfl rfl rfl ?_; refine Qu rfl rfl rfl ?_
   refine Zc rfl ?_; intro g5; refine Qq 0 0 (c' := #[_, _, _, _, _, _, _, _]) (own' := [(_, .cells #[_, _, _, _, _, _, _, _] _ _)] :: _) rfl rfl rfl rfl rfl ⟨rfl, rfl, rfl, rfl, rfl, rfl, rfl, rfl, trivial⟩ (by simp) (putC_all rfl) rfl rfl ?_; refine Qe rfl rfl ?_; refine Q3 ?_; refine Qm 0 0 [_, _, _, _, _, _, _, _] rfl rfl rfl ⟨rfl, rfl, rfl, rfl, rfl, rfl, rfl, rfl, trivial⟩ rfl rfl ?_; refine Qb rfl rfl ?_; refine Qq 2 0 (c' := #[_, _, _, _, _, _, _, _]) (own' := _ :: _ :: [(_, .cells #[_, _, _, _, _, _, _, _] _ _)] :: _) rfl rfl rfl rfl rfl ⟨rfl, rfl, rfl, rfl, rfl, rfl, rfl, rfl, trivial⟩ (by simp) (putC_all rfl) rfl rfl ?_; refine Qe rfl rfl ?_; refine Qi ?_; refine Qc ?_; refine Qy ?_; refine Zw 2 0 3 [_, _, _, _, _, _, _, _] rfl rfl rfl rfl rfl ⟨rfl, rfl, rfl, rfl, rfl, rfl, rfl, rfl, trivial⟩ rfl rfl ?_
   exact ⟨rfl, rfl, hL⟩
  ·
   refine Qh ?_; refine Qb rfl rfl ?_; refine Qb rfl rfl ?_; refine TL.lookR (key := .int .i64 13) 0 0 rfl rfl rfl rfl K3 hm14 (key3 ⟨by omega, by omega⟩) zero170 rfl ?_
   rw [show tblF [(14, .agg #[.int .i64 1, .int .i64 1, .bool false, .bool false, .bool false, .bool false, .bool false, .bool false]), (13, .agg #[.int .i64 0, .int .i64 0, .bool false, .bool false, .bool false, .bool false, .bool false, .bool false]), (12, .agg #[.int .i64 0, .int .i64 0, .bool false, .bool false, .bool false, .bool false, .bool false, .bool false]), (11, .agg #[.int .i64 1, .int .i64 1, .bool false, .bool false, .bool false, .bool false, .bool false, .bool true]), (10, .agg #[.int .i64 0, .int .i64 1, .bool false, .bool false, .bool false, .bool false, .bool false, .bool false]), (9, .agg #[.int .i64 1, .int .i64 1, .bool false, .bool false, .bool false, .bool true, .bool true, .bool false]), (8, .agg #[.int .i64 0, .int .i64 0, .bool true, .bool false, .bool false, .bool false, .bool false, .bool false]), (7, .agg #[.int .i64 0, .int .i64 0, .bool true, .bool false, .bool false, .bool false, .bool false, .bool false]), (6, .agg #[.int .i64 0, .int .i64 0, .bool true, .bool false, .bool true, .bool false, .bool false, .bool false]), (5, .agg #[.int .i64 0, .int .i64 0, .bool false, .bool true, .bool true, .bool false, .bool false, .bool false]), (4, .agg #[.int .i64 1, .int .i64 1, .bool false, .bool true, .bool true, .bool false, .bool false, .bool false]), (3, .agg #[.int .i64 1, .int .i64 1, .bool false, .bool false, .bool true, .bool true, .bool false, .bool false]), (2, .agg #[.int .i64 2, .int .i64 2, .bool false, .bool false, .bool false, .bool false, .bool false, .bool false]), (1, .agg #[.int .i64 1, .int .i64 1, .bool true, .bool false, .bool false, .bool false, .bool false, .bool false])] (.int .i64 13) = some (.agg #[.int .i64 0, .int .i64 0, .bool false, .bool false, .bool false, .bool false, .bool false, .bool false]) from by simp [tblF]]
   simp only [if_true, Option.getD_some, Option.getD_none, Option.isSome_some, Option.isSome_none]
   refine Qb rfl rfl ?_; refine Qu rfl rfl rfl ?_; refine Qu rfl rfl rfl ?_
   refine Zc rfl ?_; intro g5; refine Qq 0 0 (c' := #[_, _, _, _, _, _, _, _]) (own' := [(_, .cells #[_, _, _, _, _, _, _, _] _ _)] :: _) rfl rfl rfl rfl rfl ⟨rfl, rfl, rfl, rfl, rfl, rfl, rfl, rfl, trivial⟩ (by simp) (putC_all rfl) rfl rfl ?_; refine Qe rfl rfl ?_; refine Q3 ?_; refine Qm 0 0 [_, _, _, _, _, _, _, _] rfl rfl rfl ⟨rfl, rfl, rfl, rfl, rfl, rfl, rfl, rfl, trivial⟩ rfl rfl ?_; refine Qb rfl rfl ?_; refine Qq 2 0 (c' := #[_, _, _, _, _, _, _, _]) (own' := _ :: _ :: [(_, .cells #[_, _, _, _, _, _, _, _] _ _)] :: _) rfl rfl rfl rfl rfl ⟨rfl, rfl, rfl, rfl, rfl, rfl, rfl, rfl, trivial⟩ (by simp) (putC_all rfl) rfl rfl ?_; refine Qe rfl rfl ?_; refine Qi ?_; refine Qc ?_; refine Qy ?_; refine Zw 2 0 3 [_, _, _, _, _, _, _, _] rfl rfl rfl rfl rfl ⟨rfl, rfl, rfl, rfl, rfl, rfl, rfl, rfl, trivial⟩ rfl rfl ?_
   exact ⟨rfl, rfl, hL⟩
  ·
   refine Qh ?_; refine Qb rfl rfl ?_; refine Qb rfl rfl ?_; refine TL.lookR (key := .int .i64 14) 0 0 rfl rfl rfl rfl K3 hm14 (key3 ⟨by omega, by omega⟩) zero170 rfl ?_
   rw [show tblF [(14, .agg #[.int .i64 1, .int .i64 1, .bool false, .bool false, .bool false, .bool false, .bool false, .bool false]), (13, .agg #[.int .i64 0, .int .i64 0, .bool false, .bool false, .bool false, .bool false, .bool false, .bool false]), (12, .agg #[.int .i64 0, .int .i64 0, .bool false, .bool false, .bool false, .bool false, .bool false, .bool false]), (11, .agg #[.int .i64 1, .int .i64 1, .bool false, .bool false, .bool false, .bool false, .bool false, .bool true]), (10, .agg #[.int .i64 0, .int .i64 1, .bool false, .bool false, .bool false, .bool false, .bool false, .bool false]), (9, .agg #[.int .i64 1, .int .i64 1, .bool false, .bool false, .bool false, .bool true, .bool true, .bool false]), (8, .agg #[.int .i64 0, .int .i64 0, .bool true, .bool false, .bool false, .bool false, .bool false, .bool false]), (7, .agg #[.int .i64 0, .int .i64 0, .bool true, .bool false, .bool false, .bool false, .bool false, .bool false]), (6, .agg #[.int .i64 0, .int .i64 0, .bool true, .bool false, .bool true, .bool false, .bool false, .bool false]), (5, .agg #[.int .i64 0, .int .i64 0, .bool false, .bool true, .bool true, .bool false, .bool false, .bool false]), (4, .agg #[.int .i64 1, .int .i64 1, .bool false, .bool true, .bool true, .bool false, .bool false, .bool false]), (3, .agg #[.int .i64 1, .int .i64 1, .bool false, .bool false, .bool true, .bool true, .bool false, .bool false]), (2, .agg #[.int .i64 2, .int .i64 2, .bool false, .bool false, .bool false, .bool false, .bool false, .bool false]), (1, .agg #[.int .i64 1, .int .i64 1, .bool true, .bool false, .bool false, .bool false, .bool false, .bool false])] (.int .i64 14) = some (.agg #[.int .i64 1, .int .i64 1, .bool false, .bool false, .bool false, .bool false, .bool false, .bool false]) from by simp [tblF]]
   simp only [if_true, Option.getD_some, Option.getD_none, Option.isSome_some, Option.isSome_none]
   refine Qb rfl rfl ?_; refine Qu rfl rfl rfl ?_; refine Qu rfl rfl rfl ?_
   refine Zc rfl ?_; intro g5; refine Qq 0 0 (c' := #[_, _, _, _, _, _, _, _]) (own' := [(_, .cells #[_, _, _, _, _, _, _, _] _ _)] :: _) rfl rfl rfl rfl rfl ⟨rfl, rfl, rfl, rfl, rfl, rfl, rfl, rfl, trivial⟩ (by simp) (putC_all rfl) rfl rfl ?_; refine Qe rfl rfl ?_; refine Q3 ?_; refine Qm 0 0 [_, _, _, _, _, _, _, _] rfl rfl rfl ⟨rfl, rfl, rfl, rfl, rfl, rfl, rfl, rfl, trivial⟩ rfl rfl ?_; refine Qb rfl rfl ?_; refine Qq 2 0 (c' := #[_, _, _, _, _, _, _, _]) (own' := _ :: _ :: [(_, .cells #[_, _, _, _, _, _, _, _] _ _)] :: _) rfl rfl rfl rfl rfl ⟨rfl, rfl, rfl, rfl, rfl, rfl, rfl, rfl, trivial⟩ (by simp) (putC_all rfl) rfl rfl ?_; refine Qe rfl rfl ?_; refine Qi ?_; refine Qc ?_; refine Qy ?_; refine Zw 2 0 3 [_, _, _, _, _, _, _, _] rfl rfl rfl rfl rfl ⟨rfl, rfl, rfl, rfl, rfl, rfl, rfl, rfl, trivial⟩ rfl rfl ?_
   exact ⟨rfl, rfl, hL⟩
  ·
   refine Qh ?_; refine Qb rfl rfl ?_; refine Qb rfl rfl ?_; refine TL.lookR (key := .int .i64 k) 0 0 rfl rfl rfl rfl K3 hm14 (key3 ⟨by omega, by omega⟩) zero170 rfl ?_
   rw [show tblF [(14, .agg #[.int .i64 1, .int .i64 1, .bool false, .bool false, .bool false, .bool false, .bool false, .bool false]), (13, .agg #[.int .i64 0, .int .i64 0, .bool false, .bool false, .bool false, .bool false, .bool false, .bool false]), (12, .agg #[.int .i64 0, .int .i64 0, .bool false, .bool false, .bool false, .bool false, .bool false, .bool false]), (11, .agg #[.int .i64 1, .int .i64 1, .bool false, .bool false, .bool false, .bool false, .bool false, .bool true]), (10, .agg #[.int .i64 0, .int .i64 1, .bool false, .bool false, .bool false, .bool false, .bool false, .bool false]), (9, .agg #[.int .i64 1, .int .i64 1, .bool false, .bool false, .bool false, .bool true, .bool true, .bool false]), (8, .agg #[.int .i64 0, .int .i64 0, .bool true, .bool false, .bool false, .bool false, .bool false, .bool false]), (7, .agg #[.int .i64 0, .int .i64 0, .bool true, .bool false, .bool false, .bool false, .bool false, .bool false]), (6, .agg #[.int .i64 0, .int .i64 0, .bool true, .bool false, .bool true, .bool false, .bool false, .bool false]), (5, .agg #[.int .i64 0, .int .i64 0, .bool false, .bool true, .bool true, .bool false, .bool false, .bool false]), (4, .agg #[.int .i64 1, .int .i64 1, .bool false, .bool true, .bool true, .bool false, .bool false, .bool false]), (3, .agg #[.int .i64 1, .int .i64 1, .bool false, .bool false, .bool true, .bool true, .bool false, .bool false]), (2, .agg #[.int .i64 2, .int .i64 2, .bool false, .bool false, .bool false, .bool false, .bool false, .bool false]), (1, .agg #[.int .i64 1, .int .i64 1, .bool true, .bool false, .bool false, .bool false, .bool false, .bool false])] (.int .i64 k) = none from by
     simp only [tblF, Value.int.injEq, true_and]
     repeat rw [if_neg (by omega)]]
   simp only [if_true, Option.getD_some, Option.getD_none, Option.isSome_some, Option.isSome_none]
   refine Qb rfl rfl ?_; refine Qu rfl rfl rfl ?_; refine Qu rfl rfl rfl ?_
   refine Zc rfl ?_; intro g5; refine Qq 0 0 (c' := #[_, _, _, _, _, _, _, _]) (own' := [(_, .cells #[_, _, _, _, _, _, _, _] _ _)] :: _) rfl rfl rfl rfl rfl ⟨rfl, rfl, rfl, rfl, rfl, rfl, rfl, rfl, trivial⟩ (by simp) (putC_all rfl) rfl rfl ?_; refine Qe rfl rfl ?_; refine Q3 ?_; refine Qm 0 0 [_, _, _, _, _, _, _, _] rfl rfl rfl ⟨rfl, rfl, rfl, rfl, rfl, rfl, rfl, rfl, trivial⟩ rfl rfl ?_; refine Qb rfl rfl ?_; refine Qq 2 0 (c' := #[_, _, _, _, _, _, _, _]) (own' := _ :: _ :: [(_, .cells #[_, _, _, _, _, _, _, _] _ _)] :: _) rfl rfl rfl rfl rfl ⟨rfl, rfl, rfl, rfl, rfl, rfl, rfl, rfl, trivial⟩ (by simp) (putC_all rfl) rfl rfl ?_; refine Qe rfl rfl ?_; refine Qi ?_; refine Qc ?_; refine Qy ?_; refine Zw 2 0 3 [_, _, _, _, _, _, _, _] rfl rfl rfl rfl rfl ⟨rfl, rfl, rfl, rfl, rfl, rfl, rfl, rfl, trivial⟩ rfl rfl ?_
   refine ⟨?_, rfl, hL⟩
   rw [decide_eq_false (by omega)]
   simp only [formC]
   repeat rw [if_neg (by omega)]
   rfl
theorem none_TypeDef {fok : FuncId} [Callable Tryz.prog fok] {w0 : World} {H : Hp} {own : List Seg} : Fn Tryz.prog 55 [.slice none 0 0, .func (.func fok) #[] #[]] w0 H own (fun r o H' => r = .bool true ∧ o = own ∧ Le H H') :=
  every_TypeDef (α := Unit) (dx := fun _ => List.replicate 3 (.c undef)) (fun _ => rfl) (p := fun _ => true) (l := []) (rd.nil _ _) (fun x hx => by cases hx)

theorem none_Global {fok : FuncId} [Callable Tryz.prog fok] {w0 : World} {H : Hp} {own : List Seg} : Fn Tryz.prog 57 [.slice none 0 0, .func (.func fok) #[] #[]] w0 H own (fun r o H' => r = .bool true ∧ o = own ∧ Le H H') :=
  every_Global (α := Unit) (dx := fun _ => List.replicate 8 (.c undef)) (fun _ => rfl) (p := fun _ => true) (l := []) (rd.nil _ _) (fun x hx => by cases hx)

theorem none_Field {fok : FuncId} [Callable Tryz.prog fok] {w0 : World} {H : Hp} {own : List Seg} : Fn Tryz.prog 74 [.slice none 0 0, .func (.func fok) #[] #[]] w0 H own (fun r o H' => r = .bool true ∧ o = own ∧ Le H H') :=
  every_Field (α := Unit) (dx := fun _ => List.replicate 5 (.c undef)) (fun _ => rfl) (p := fun _ => true) (l := []) (rd.nil _ _) (fun x hx => by cases hx)

theorem none_Stmt {fok : FuncId} [Callable Tryz.prog fok] {w0 : World} {H : Hp} {own : List Seg} : Fn Tryz.prog 99 [.slice none 0 0, .func (.func fok) #[] #[]] w0 H own (fun r o H' => r = .bool true ∧ o = own ∧ Le H H') :=
  every_Stmt (α := Unit) (dx := fun _ => List.replicate 11 (.c undef)) (fun _ => rfl) (p := fun _ => true) (l := []) (rd.nil _ _) (fun x hx => by cases hx)

theorem none_Expr {fok : FuncId} [Callable Tryz.prog fok] {w0 : World} {H : Hp} {own : List Seg} : Fn Tryz.prog 114 [.slice none 0 0, .func (.func fok) #[] #[]] w0 H own (fun r o H' => r = .bool true ∧ o = own ∧ Le H H') :=
  every_Expr (α := Unit) (dx := fun _ => List.replicate 4 (.c undef)) (fun _ => rfl) (p := fun _ => true) (l := []) (rd.nil _ _) (fun x hx => by cases hx)

theorem none_Block {fok : FuncId} [Callable Tryz.prog fok] {w0 : World} {H : Hp} {own : List Seg} : Fn Tryz.prog 117 [.slice none 0 0, .func (.func fok) #[] #[]] w0 H own (fun r o H' => r = .bool true ∧ o = own ∧ Le H H') :=
  every_Block (α := Unit) (dx := fun _ => List.replicate 1 (.c undef)) (fun _ => rfl) (p := fun _ => true) (l := []) (rd.nil _ _) (fun x hx => by cases hx)

theorem block_none {w0 : World} {H : Hp} {own : List Seg} : Fn Tryz.prog 82 [.slice none 0 0] w0 H own (fun r o H' => r = .bool true ∧ o = own ∧ Le H H') := by
  refine Fn.enter Tryz.func82 rfl Tryz.ntmps82 rfl ?_; have hL := Le.refl H; refine Qj ?_; refine Qh ?_; refine Qe rfl rfl ?_; refine Q3 ?_; refine Qb rfl rfl ?_; refine Qs (none_Stmt) ⟨rfl, rfl, trivial⟩ rfl ?_
  rintro _ own H4 ⟨rfl, rfl, hle4⟩
  have hL := Le.trans hL hle4; refine Qe rfl rfl ?_; refine Qi ?_; refine Qc ?_; refine Qy ?_; refine Q5 0 rfl rfl ?_
  exact ⟨rfl, rfl, hL⟩
theorem stmt_poll {w0 : World} {H : Hp} {own : List Seg} : Fn Tryz.prog 100 [.agg #[.int .i64 12, .string ⟨#[]⟩, .int .i64 0, .string ⟨#[]⟩, .int .i64 0, .slice none 0 0, .int .u16 0, .slice none 0 0, .slice none 0 0, .slice none 0 0, .slice none 0 0]] w0 H own (fun r o H' => r = .bool true ∧ o = own ∧ Le H H') := by
  refine Fn.enter Tryz.func100 rfl Tryz.ntmps100 rfl ?_; have hL := Le.refl H; refine Qj ?_; refine Qh ?_
  refine Zx (c := #[_, _, _, _, _, _, _, _, _, _, _]) rfl rfl rfl ?_; intro g1; refine Qe rfl rfl ?_; refine Q3 ?_; refine Qg rfl rfl ?_; refine Qk 0 0 rfl rfl rfl rfl rfl ?_; refine Qs (syn_form (k := 12) ⟨by omega, by omega⟩) ⟨rfl, trivial⟩ rfl ?_
  rintro _ own H12 ⟨rfl, rfl, hle12⟩
  rw [show formC 12 = [.int .i64 0, .int .i64 0, .bool false, .bool false, .bool false, .bool false, .bool false, .bool false] from rfl, show decide ((1 : Int) ≤ 12 ∧ (12 : Int) ≤ 14) = true from rfl]
  have hL := Le.trans hL hle12; refine Qb rfl rfl ?_; refine Qu rfl rfl rfl ?_; refine Qu rfl rfl rfl ?_
  refine Zc rfl ?_; intro g3; refine Qq 0 0 (c' := #[_, _, _, _, _, _, _, _]) (own' := [(_, .cells #[_, _, _, _, _, _, _, _] _ _)] :: _) rfl rfl rfl rfl rfl ⟨rfl, rfl, rfl, rfl, rfl, rfl, rfl, rfl, trivial⟩ (by simp [putC]) (putC_all rfl) rfl rfl ?_; refine Qe rfl rfl ?_; refine Qi ?_; refine Qc ?_; refine Qj ?_; refine Qj ?_; refine Qh ?_; refine Qb rfl rfl ?_; refine Z1 rfl rfl ?_; refine Qb rfl rfl ?_; refine Qf rfl rfl rfl ?_; refine Qg rfl rfl ?_; refine Qf rfl rfl rfl ?_; refine Qk 1 0 rfl rfl rfl rfl rfl ?_; refine Qf rfl rfl rfl ?_; refine Qn rfl rfl ?_; refine Qf rfl rfl rfl ?_; refine Qg rfl rfl ?_; refine Qf rfl rfl rfl ?_; refine Qk 0 0 rfl rfl rfl rfl rfl ?_; refine Qf rfl rfl rfl ?_; refine Zl rfl rfl rfl ?_
  rw [decide_eq_false (by decide)]
  refine Qx rfl rfl rfl rfl ?_; refine Qb rfl rfl ?_; refine Qf rfl rfl rfl ?_; refine Qg rfl rfl ?_; refine Qf rfl rfl rfl ?_; refine Qk 1 0 rfl rfl rfl rfl rfl ?_; refine Qf rfl rfl rfl ?_; refine Qn rfl rfl ?_; refine Qf rfl rfl rfl ?_; refine Qg rfl rfl ?_; refine Qf rfl rfl rfl ?_; refine Qk 0 0 rfl rfl rfl rfl rfl ?_; refine Qf rfl rfl rfl ?_; refine TL.gtr rfl rfl rfl ?_
  rw [decide_eq_false (by decide)]
  refine Qx rfl rfl rfl rfl ?_; refine Qb rfl rfl ?_; refine Qf rfl rfl rfl ?_; refine Qg rfl rfl ?_; refine Qf rfl rfl rfl ?_; refine Qk 1 0 rfl rfl rfl rfl rfl ?_; refine Qf rfl rfl rfl ?_; refine Qs (none_Expr) ⟨rfl, rfl, trivial⟩ rfl ?_
  rintro _ own H36 ⟨rfl, rfl, hle36⟩
  have hL := Le.trans hL hle36; refine Qf rfl rfl rfl ?_; refine Z1 rfl rfl ?_; refine Qx rfl rfl rfl rfl ?_; refine Qi ?_; refine Qc ?_; refine Qr rfl ?_; refine Q2 ?_; refine Zm ?_; refine Qg rfl rfl ?_; refine Qk 0 0 rfl rfl rfl rfl rfl ?_; refine Qb rfl rfl ?_; refine Ql rfl rfl rfl rfl ?_; refine Ql rfl rfl rfl rfl ?_; refine Ql rfl rfl rfl rfl ?_; refine Qx rfl rfl rfl rfl ?_; refine Qb rfl rfl ?_; refine Qf rfl rfl rfl ?_; refine Qg rfl rfl ?_; refine Qf rfl rfl rfl ?_; refine Qk 0 0 rfl rfl rfl rfl rfl ?_; refine Qf rfl rfl rfl ?_; refine Qb rfl rfl ?_; refine Ql rfl rfl rfl rfl ?_; refine Ql rfl rfl rfl rfl ?_; refine Ql rfl rfl rfl rfl ?_; refine Ql rfl rfl rfl rfl ?_; refine Zk rfl rfl rfl ?_; refine Zk rfl rfl rfl ?_
  refine Zk rfl rfl rfl ?_; refine Ql rfl rfl rfl rfl ?_; refine Qf rfl rfl rfl ?_; refine Qx rfl rfl rfl rfl ?_; refine Qx rfl rfl rfl rfl ?_; refine Qb rfl rfl ?_; refine Qf rfl rfl rfl ?_; refine Qg rfl rfl ?_; refine Qf rfl rfl rfl ?_; refine Qk 0 0 rfl rfl rfl rfl rfl ?_; refine Qf rfl rfl rfl ?_; refine Z1 rfl rfl ?_; refine Qf rfl rfl rfl ?_; refine Qb rfl rfl ?_; refine Qf rfl rfl rfl ?_; refine Qg rfl rfl ?_; refine Qf rfl rfl rfl ?_; refine Qk 0 0 rfl rfl rfl rfl rfl ?_; refine Qf rfl rfl rfl ?_; refine Z1 rfl rfl ?_; refine Qf rfl rfl rfl ?_; refine Qz rfl rfl rfl rfl ?_; refine Qf rfl rfl rfl ?_; refine Qb rfl rfl ?_; refine Qf rfl rfl rfl ?_; refine Qg rfl rfl ?_; refine Qf rfl rfl rfl ?_
  refine Qk 1 0 rfl rfl rfl rfl rfl ?_; refine Qf rfl rfl rfl ?_; refine TL.eqlS rfl rfl rfl ?_
  rw [decide_eq_true (by decide)]
  refine Qf rfl rfl rfl ?_; refine Qz rfl rfl rfl rfl ?_; refine Qx rfl rfl rfl rfl ?_; refine Qe rfl rfl ?_; refine Q3 ?_; refine Qg rfl rfl ?_; refine Qm 1 0 [_, _, _, _] rfl rfl rfl ⟨rfl, rfl, rfl, rfl, trivial⟩ rfl rfl ?_; refine Qs (syn_blank (t := .mk 0 ⟨#[]⟩ 0 []) ⟨by simp [rd], by simp [rd], by simp [rd], rd.nil _ _, trivial⟩) ⟨rfl, rfl, trivial⟩ rfl ?_
  rintro _ own H77 ⟨rfl, rfl, hle77⟩
  rw [show blankT (.mk 0 ⟨#[]⟩ 0 []) 0 = true from by simp [blankT]]
  have hL := Le.trans hL hle77; refine Qe rfl rfl ?_; refine Qi ?_; refine Qc ?_; refine Qj ?_; refine Qj ?_; refine Qh ?_; refine Qg rfl rfl ?_; refine Qk 1 0 rfl rfl rfl rfl rfl ?_; refine Za rfl rfl rfl ?_
  rw [decide_eq_false (by decide)]
  refine Qi ?_; refine Qc ?_; refine Qr rfl ?_; refine Q2 ?_; refine Zm ?_; refine Qg rfl rfl ?_; refine Qk 1 0 rfl rfl rfl rfl rfl ?_; refine Za rfl rfl rfl ?_
  rw [decide_eq_true (by decide)]
  refine Qb rfl rfl ?_; refine Ql rfl rfl rfl rfl ?_; refine Ql rfl rfl rfl rfl ?_; refine Ql rfl rfl rfl rfl ?_; refine Zk rfl rfl rfl ?_; refine Zk rfl rfl rfl ?_; refine Zk rfl rfl rfl ?_; refine Ql rfl rfl rfl rfl ?_; refine Qz rfl rfl rfl rfl ?_; refine Qe rfl rfl ?_; refine Q3 ?_; refine Qg rfl rfl ?_; refine Qk 0 0 rfl rfl rfl rfl rfl ?_; refine Qb rfl rfl ?_; refine Qf rfl rfl rfl ?_; refine Qg rfl rfl ?_; refine Qf rfl rfl rfl ?_; refine Qk 1 0 rfl rfl rfl rfl rfl ?_; refine Qf rfl rfl rfl ?_; refine Qn rfl rfl ?_; refine Qf rfl rfl rfl ?_; refine Za rfl rfl rfl ?_
  rw [decide_eq_true (by decide)]
  refine Qx rfl rfl rfl rfl ?_; refine Qb rfl rfl ?_; refine Qf rfl rfl rfl ?_; refine Qg rfl rfl ?_; refine Qf rfl rfl rfl ?_; refine Qk 0 0 rfl rfl rfl rfl rfl ?_; refine Qf rfl rfl rfl ?_; refine Qb rfl rfl ?_; refine Qf rfl rfl rfl ?_; refine Qg rfl rfl ?_; refine Qf rfl rfl rfl ?_; refine Qk 1 0 rfl rfl rfl rfl rfl ?_; refine Qf rfl rfl rfl ?_; refine Qn rfl rfl ?_; refine Qf rfl rfl rfl ?_; refine Za rfl rfl rfl ?_
  rw [decide_eq_true (by decide)]
  refine Qf rfl rfl rfl ?_; refine Qx rfl rfl rfl rfl ?_; refine Qz rfl rfl rfl rfl ?_; refine Qb rfl rfl ?_; refine Qf rfl rfl rfl ?_; refine Qg rfl rfl ?_; refine Qf rfl rfl rfl ?_; refine Qk 0 0 rfl rfl rfl rfl rfl ?_; refine Qf rfl rfl rfl ?_; refine Qb rfl rfl ?_; refine Qf rfl rfl rfl ?_; refine Qg rfl rfl ?_; refine Qf rfl rfl rfl ?_; refine Qk 1 0 rfl rfl rfl rfl rfl ?_; refine Qf rfl rfl rfl ?_; refine Qn rfl rfl ?_; refine Qf rfl rfl rfl ?_; refine Za rfl rfl rfl ?_
  rw [decide_eq_true (by decide)]
  refine Qf rfl rfl rfl ?_; refine Qx rfl rfl rfl rfl ?_; refine Qz rfl rfl rfl rfl ?_; refine Qe rfl rfl ?_; refine Qi ?_; refine Qc ?_; refine Qj ?_; refine Q6 ?_; refine Qj ?_; refine Qj ?_; refine Qh ?_; refine Qg rfl rfl ?_; refine Qk 1 0 rfl rfl rfl rfl rfl ?_; refine Za rfl rfl rfl ?_
  rw [decide_eq_false (by decide)]
  refine Qb rfl rfl ?_; refine Ql rfl rfl rfl rfl ?_; refine Ql rfl rfl rfl rfl ?_; refine Ql rfl rfl rfl rfl ?_; refine Ql rfl rfl rfl rfl ?_; refine Ql rfl rfl rfl rfl ?_; refine Ql rfl rfl rfl rfl ?_; refine Qx rfl rfl rfl rfl ?_; refine Qe rfl rfl ?_; refine Qi ?_; refine Qc ?_; refine Qr rfl ?_; refine Qh ?_; refine Qg rfl rfl ?_; refine Qk 1 0 rfl rfl rfl rfl rfl ?_; refine Za rfl rfl rfl ?_
  rw [decide_eq_false (by decide)]
  refine Qb rfl rfl ?_; refine Ql rfl rfl rfl rfl ?_; refine Ql rfl rfl rfl rfl ?_; refine Ql rfl rfl rfl rfl ?_; refine Ql rfl rfl rfl rfl ?_; refine Ql rfl rfl rfl rfl ?_; refine Ql rfl rfl rfl rfl ?_; refine Qx rfl rfl rfl rfl ?_; refine Qe rfl rfl ?_; refine Qi ?_; refine Qc ?_; refine Qr rfl ?_; refine Q2 ?_; refine Ze ?_; refine Zm ?_; refine Qb rfl rfl ?_; refine Qb rfl rfl ?_; refine Qf rfl rfl rfl ?_; refine Qb rfl rfl ?_; refine Qz rfl rfl rfl rfl ?_; refine Qb rfl rfl ?_; refine Qf rfl rfl rfl ?_; refine Qb rfl rfl ?_; refine Qz rfl rfl rfl rfl ?_; refine Qb rfl rfl ?_; refine Qf rfl rfl rfl ?_; refine Qb rfl rfl ?_; refine Qz rfl rfl rfl rfl ?_; refine Qb rfl rfl ?_; refine Qf rfl rfl rfl ?_; refine Qg rfl rfl ?_
  refine Qf rfl rfl rfl ?_; refine Qk 1 0 rfl rfl rfl rfl rfl ?_; refine Qf rfl rfl rfl ?_; refine Qs (block_none) ⟨rfl, trivial⟩ rfl ?_
  rintro _ own H160 ⟨rfl, rfl, hle160⟩
  have hL := Le.trans hL hle160; refine Qz rfl rfl rfl rfl ?_; refine Qb rfl rfl ?_; refine Qf rfl rfl rfl ?_; refine Qg rfl rfl ?_; refine Qf rfl rfl rfl ?_; refine Qk 1 0 rfl rfl rfl rfl rfl ?_; refine Qf rfl rfl rfl ?_; refine Qs (block_none) ⟨rfl, trivial⟩ rfl ?_
  rintro _ own H165 ⟨rfl, rfl, hle165⟩
  have hL := Le.trans hL hle165; refine Qz rfl rfl rfl rfl ?_; refine Qb rfl rfl ?_; refine Qf rfl rfl rfl ?_; refine Qg rfl rfl ?_; refine Qf rfl rfl rfl ?_; refine Qk 1 0 rfl rfl rfl rfl rfl ?_; refine Qf rfl rfl rfl ?_; refine Qs (none_Block) ⟨rfl, rfl, trivial⟩ rfl ?_
  rintro _ own H170 ⟨rfl, rfl, hle170⟩
  have hL := Le.trans hL hle170; refine Qz rfl rfl rfl rfl ?_; refine Qe rfl rfl ?_; refine Qi ?_; refine Qc ?_; refine Qy ?_; refine Q5 2 rfl rfl ?_
  exact ⟨rfl, rfl, hL⟩
def pollD : List D := ([.int .i64 12, .string ⟨#[]⟩, .int .i64 0, .string ⟨#[]⟩, .int .i64 0, .slice none 0 0, .int .u16 0, .slice none 0 0, .slice none 0 0, .slice none 0 0, .slice none 0 0] : List Value).map D.c
theorem block_poll {w0 : World} {H : Hp} {own : List Seg} {v : Value} (hA : rd H (.s 11 pollD) v) : Fn Tryz.prog 82 [v] w0 H own (fun r o H' => r = .bool true ∧ o = own ∧ Le H H') := by
  have hv := hA.one; refine Fn.enter Tryz.func82 rfl Tryz.ntmps82 rfl ?_; have hL := Le.refl H; refine Qj ?_; refine Qh ?_; refine Qe rfl rfl ?_; refine Q3 ?_; refine Qb rfl rfl ?_
  refine Qs (every_Stmt (α := Unit) (dx := fun _ => pollD) (fun _ => rfl) (p := fun _ => true) (l := [()]) (by simpa using hA) (fun x _ c0 c1 c2 c3 c4 c5 c6 c7 c8 c9 c10 H1 own1 hle hr => by
    have e := RdL.of_vals hr
    simp only [List.cons.injEq, and_true] at e
    obtain ⟨rfl, rfl, rfl, rfl, rfl, rfl, rfl, rfl, rfl, rfl, rfl⟩ := e
    exact stmt_poll)) ⟨rfl, rfl, trivial⟩ rfl ?_
  rintro _ own H4 ⟨rfl, rfl, hle4⟩
  have hL := Le.trans hL hle4; refine Qe rfl rfl ?_; refine Qi ?_; refine Qc ?_; refine Qy ?_; refine Q5 0 rfl rfl ?_
  exact ⟨rfl, rfl, hL⟩
theorem eql_place {w : World} : (binOp .eql 59 (.agg #[.int .i64 0, .int .u16 0]) (.agg #[.int .i64 0, .int .u16 0])).run Tryz.prog w = .ok (.bool true) w := by
  rw [run_eql_struct, run_equalIn_agg _ 9999 59 _ _ (by kernel_rfl) (by kernel_rfl)]
  rw [show (Tryz.prog.fieldsOf 59).toList = [⟨"Bank", 3, 0, false, "", "", 0⟩, ⟨"Addr", 51, 1, false, "", "", 8⟩] from by kernel_rfl]
  simp [Op.eqFields, part, Ty.isAgg (P := Tryz.prog) (t := 3), Ty.isAgg (P := Tryz.prog) (t := 51), run_equalIn_int _ _ _ _ _ _ _ Tryz.underlying3, run_equalIn_int _ _ _ _ _ _ _ Tryz.underlying51]
theorem func_main {w0 : World} {H : Hp} {own : List Seg} {v : Value} (hA : rd H (.s 11 pollD) v) : Fn Tryz.prog 60 [.agg #[.string ⟨#[109, 97, 105, 110]⟩, .slice none 0 0, .int .i64 7, .string ⟨#[]⟩, .int .i64 0, .slice none 0 0, v, .bool false, .int .i64 0, .int .u16 0]] w0 H own (fun r o H' => r = .bool true ∧ o = own ∧ Le H H') := by
  have hv := hA.one; refine Fn.enter Tryz.func60 rfl Tryz.ntmps60 rfl ?_; have hL := Le.refl H; refine Qj ?_; refine Qh ?_
  refine Zx (c := #[_, _, _, _, _, _, _, _, _, _]) rfl rfl rfl ?_; intro g1; refine Qe rfl rfl ?_; refine Qi ?_; refine Qc ?_; refine Qj ?_; refine Qj ?_; refine Qh ?_; refine Qg rfl rfl ?_; refine Qk 0 0 rfl rfl rfl rfl rfl ?_; refine Qs (syn_identifier (by decide)) ⟨rfl, trivial⟩ rfl ?_
  rintro _ own H5 ⟨rfl, rfl, hle5⟩
  rw [show identN ⟨#[109, 97, 105, 110]⟩ = true from by decide +kernel]
  have hL := Le.trans hL hle5; have hA := rd.mono hle5 hA; refine Z1 rfl rfl ?_; refine Qb rfl rfl ?_; refine Qf rfl rfl rfl ?_; refine Qg rfl rfl ?_; refine Qf rfl rfl rfl ?_; refine Qk 0 0 rfl rfl rfl rfl rfl ?_; refine Qf rfl rfl rfl ?_; refine Qs (none_Field) ⟨rfl, rfl, trivial⟩ rfl ?_
  rintro _ own H10 ⟨rfl, rfl, hle10⟩
  have hL := Le.trans hL hle10; have hA := rd.mono hle10 hA; refine Qf rfl rfl rfl ?_; refine Z1 rfl rfl ?_; refine Qx rfl rfl rfl rfl ?_; refine Qb rfl rfl ?_; refine Qf rfl rfl rfl ?_; refine Qg rfl rfl ?_; refine Qf rfl rfl rfl ?_; refine Qm 0 0 [_, _, _, _] rfl rfl rfl ⟨rfl, rfl, rfl, rfl, trivial⟩ rfl rfl ?_; refine Qf rfl rfl rfl ?_; refine Qs (syn_blank (t := .mk 7 ⟨#[]⟩ 0 []) ⟨by simp [rd], by simp [rd], by simp [rd], rd.nil _ _, trivial⟩) ⟨rfl, rfl, trivial⟩ rfl ?_
  rintro _ own H16 ⟨rfl, rfl, hle16⟩
  rw [show blankT (.mk 7 ⟨#[]⟩ 0 []) 7 = true from by simp [blankT]]
  have hL := Le.trans hL hle16; have hA := rd.mono hle16 hA; refine Qf rfl rfl rfl ?_; refine Z1 rfl rfl ?_; refine Qf rfl rfl rfl ?_; refine Qb rfl rfl ?_; refine Ql rfl rfl rfl rfl ?_; refine Ql rfl rfl rfl rfl ?_; refine Ql rfl rfl rfl rfl ?_; refine Ql rfl rfl rfl rfl ?_; refine Qf rfl rfl rfl ?_; refine Qx rfl rfl rfl rfl ?_; refine Qx rfl rfl rfl rfl ?_; refine Qi ?_; refine Qc ?_; refine Qr rfl ?_; refine Q2 ?_; refine Qc ?_; refine Qj ?_; refine Qj ?_; refine Qh ?_; refine Qg rfl rfl ?_; refine Qk 0 0 rfl rfl rfl rfl rfl ?_; refine Qi ?_; refine Qc ?_; refine Qr rfl ?_; refine Q2 ?_; refine Zm ?_; refine Qg rfl rfl ?_; refine Qm 0 0 [_, _] rfl rfl rfl ⟨rfl, rfl, trivial⟩ rfl rfl ?_; refine Q8 [] trivial rfl rfl ?_
  refine Zt (v := .bool true) rfl (fun a ha w => ?_) ?_
  · have e1 := ha.ev (x := .tmp 44) (v := .agg #[.int .i64 0, .int .u16 0]) rfl
    have e2 := ha.ev (x := .tmp 45) (v := .agg #[.int .i64 0, .int .u16 0]) rfl
    simp only [execOp, e1, e2]
    simp [run_eqGuard_agg w .eql 59 (.tmp 44) (.tmp 45) _ _ (show Tryz.prog.eqGuardType Tryz.prog.depth 59 = false from by kernel_rfl), eql_place]
  refine Qb rfl rfl ?_; refine Qf rfl rfl rfl ?_; refine Qg rfl rfl ?_; refine Qf rfl rfl rfl ?_; refine Qk 0 0 rfl rfl rfl rfl rfl ?_; refine Qf rfl rfl rfl ?_; refine Qs (block_poll hA) ⟨rfl, trivial⟩ rfl ?_
  rintro _ own H50 ⟨rfl, rfl, hle50⟩
  have hL := Le.trans hL hle50; refine Qz rfl rfl rfl rfl ?_; refine Qe rfl rfl ?_; refine Qi ?_; refine Qc ?_; refine Qy ?_; refine Q5 1 rfl rfl ?_
  exact ⟨rfl, rfl, hL⟩
def mainD : List D := [.c (.string ⟨#[109, 97, 105, 110]⟩), .c (.slice none 0 0), .c (.int .i64 7), .c (.string ⟨#[]⟩), .c (.int .i64 0), .c (.slice none 0 0), .s 11 pollD, .c (.bool false), .c (.int .i64 0), .c (.int .u16 0)]
theorem main_open {H : Hp} {c0 c1 c2 c3 c4 c5 c6 c7 c8 c9 : Value} (h : RdL H mainD [c0, c1, c2, c3, c4, c5, c6, c7, c8, c9]) : c0 = .string ⟨#[109, 97, 105, 110]⟩ ∧ c1 = .slice none 0 0 ∧ c2 = .int .i64 7 ∧ c3 = .string ⟨#[]⟩ ∧ c4 = .int .i64 0 ∧ c5 = .slice none 0 0 ∧ c7 = .bool false ∧ c8 = .int .i64 0 ∧ c9 = .int .u16 0 ∧ rd H (.s 11 pollD) c6 := by
  simp only [mainD, RdL] at h
  obtain ⟨h0, h1, h2, h3, h4, h5, h6, h7, h8, h9, _⟩ := h
  simp only [rd] at h0 h1 h2 h3 h4 h5 h7 h8 h9
  exact ⟨h0, h1, h2, h3, h4, h5, h7, h8, h9, h6⟩
theorem right_main {w0 : World} {H : Hp} {own : List Seg} {v : Value} (hA : rd H (.s 10 mainD) v) : Fn Tryz.prog 37 [.agg #[.slice none 0 0, .slice none 0 0, v]] w0 H own (fun r o H' => r = .bool true ∧ o = own ∧ Le H H') := by
  have hv := hA.one; refine Fn.enter Tryz.func37 rfl Tryz.ntmps37 rfl ?_; have hL := Le.refl H; refine Qj ?_; refine Qh ?_
  refine Zx (c := #[_, _, _]) rfl rfl rfl ?_; intro g1; refine Qe rfl rfl ?_; refine Q3 ?_; refine Qg rfl rfl ?_; refine Qk 0 0 rfl rfl rfl rfl rfl ?_; refine Qs (none_TypeDef) ⟨rfl, rfl, trivial⟩ rfl ?_
  rintro _ own H5 ⟨rfl, rfl, hle5⟩
  have hL := Le.trans hL hle5; have hA := rd.mono hle5 hA; refine Qb rfl rfl ?_; refine Qf rfl rfl rfl ?_; refine Qg rfl rfl ?_; refine Qf rfl rfl rfl ?_; refine Qk 0 0 rfl rfl rfl rfl rfl ?_; refine Qf rfl rfl rfl ?_; refine Qs (none_Global) ⟨rfl, rfl, trivial⟩ rfl ?_
  rintro _ own H9 ⟨rfl, rfl, hle9⟩
  have hL := Le.trans hL hle9; have hA := rd.mono hle9 hA; refine Qz rfl rfl rfl rfl ?_; refine Qb rfl rfl ?_; refine Qf rfl rfl rfl ?_; refine Qg rfl rfl ?_; refine Qf rfl rfl rfl ?_; refine Qk 0 0 rfl rfl rfl rfl rfl ?_; refine Qf rfl rfl rfl ?_
  refine Qs (every_Func (α := Unit) (dx := fun _ => mainD) (fun _ => rfl) (p := fun _ => true) (l := [()]) (by simpa using hA) (fun x _ c0 c1 c2 c3 c4 c5 c6 c7 c8 c9 H1 own1 hle hr => by
    obtain ⟨rfl, rfl, rfl, rfl, rfl, rfl, rfl, rfl, rfl, h6⟩ := main_open hr
    exact func_main h6)) ⟨rfl, rfl, trivial⟩ rfl ?_
  rintro _ own H14 ⟨rfl, rfl, hle14⟩
  have hL := Le.trans hL hle14; refine Qz rfl rfl rfl rfl ?_; refine Qe rfl rfl ?_; refine Qi ?_; refine Qc ?_; refine Qy ?_; refine Q5 1 rfl rfl ?_
  exact ⟨rfl, rfl, hL⟩

end Go.Proofs.YtaomdfcplamenaaGreatDoor.K

namespace Go.Proofs.YtaomdfcplamenaaGreatDoor.K
open Go Go.RowKit Go.Proofs

theorem pollD_one : ∀ d ∈ pollD, D.One d := by simp [pollD, D.One, Value.oneCell']
theorem mainD_one : ∀ d ∈ mainD, D.One d := by simp [mainD, D.One, Value.oneCell']
def nodeL (w p : ByteArray) : ByteArray := if p = ⟨#[]⟩ then w else w ++ (⟨#[32]⟩ ++ p)
theorem trs_cons {H : Hp} {t : Tr} {c0 c1 : Value} {ks : List Tr} {vs : List Value} (ht : RdL H t.d [c0, c1]) (h : RdL H (Tr.ds ks) vs) : RdL H (Tr.ds (t :: ks)) (c0 :: c1 :: vs) := by
  rw [show Tr.ds (t :: ks) = t.d ++ Tr.ds ks from by simp [Tr.ds]]
  exact ht.append h
theorem diff_node {w p : ByteArray} {ks : List Tr} (hwp : w.size + p.size ≤ 1000000000) {w0 : World} {H : Hp} {own : List Seg} {v : Value} (hA : rd H (.s 2 (Tr.ds ks)) v) : Fn Tryz.prog 38 [.string w, .string p, v] w0 H own (fun r o H' => ∃ c0 c1, r = .agg #[c0, c1] ∧ RdL H' (Tr.node (nodeL w p) ks).d [c0, c1] ∧ o = own ∧ Le H H') := by
  have hv := hA.one; refine Fn.enter Tryz.func38 rfl Tryz.ntmps38 rfl ?_; have hL := Le.refl H; refine Qj ?_; refine Qh ?_
  refine Zc rfl ?_; intro g6; refine Qi ?_; refine Qc ?_; refine Qj ?_; refine Qj ?_; refine Qh ?_; refine Qb rfl rfl ?_
  refine TL.neqSB rfl rfl rfl (fun hp => ?_) (fun hp => ?_)
  ·
   refine Qi ?_; refine Qc ?_; refine Qv rfl ?_; refine Qh ?_; refine Qb rfl rfl ?_; refine Qb rfl rfl ?_; refine TL.addS rfl rfl rfl (by show 1 + p.size ≤ _; omega) ?_
   refine TL.addS rfl rfl rfl (by rw [ByteArray.size_append]; show w.size + (1 + p.size) ≤ _; omega) ?_
   refine Qe rfl rfl ?_; refine Q3 ?_; refine Qb rfl rfl ?_; refine Qb rfl rfl ?_; refine Q8 [(0, [_]), (1, [_])] ⟨rfl, ⟨_, rfl, rfl⟩, rfl, ⟨_, rfl, one_cells hv⟩, trivial⟩ rfl rfl ?_; refine Qq 0 0 (c' := #[_, _]) (own' := [(_, .cells #[_, _] _ _)] :: _) rfl rfl rfl rfl rfl ⟨rfl, hv, trivial⟩ (by simp [putC]) rfl rfl rfl ?_; refine Qi ?_; refine Qc ?_; refine Qy ?_; refine TQ.retC 0 0 1 [_, _] rfl rfl rfl rfl ⟨rfl, rfl, trivial⟩ rfl rfl ?_
   first
     | exact ⟨_, _, rfl, by rw [nodeL, if_neg hp]; exact tr_mk hA, rfl, hL⟩
     | exact ⟨_, _, rfl, by rw [nodeL, if_pos hp]; exact tr_mk hA, rfl, hL⟩
  ·
   refine Qi ?_; refine Qc ?_; refine Qr rfl ?_; refine Q2 ?_; refine Zm ?_; refine Qb rfl rfl ?_; refine Qb rfl rfl ?_; refine Q8 [(0, [_]), (1, [_])] ⟨rfl, ⟨_, rfl, rfl⟩, rfl, ⟨_, rfl, one_cells hv⟩, trivial⟩ rfl rfl ?_; refine Qq 0 0 (c' := #[_, _]) (own' := [(_, .cells #[_, _] _ _)] :: _) rfl rfl rfl rfl rfl ⟨rfl, hv, trivial⟩ (by simp [putC]) rfl rfl rfl ?_; refine Qi ?_; refine Qc ?_; refine Qy ?_; refine TQ.retC 0 0 1 [_, _] rfl rfl rfl rfl ⟨rfl, rfl, trivial⟩ rfl rfl ?_
   first
     | exact ⟨_, _, rfl, by rw [nodeL, if_neg hp]; exact tr_mk hA, rfl, hL⟩
     | exact ⟨_, _, rfl, by rw [nodeL, if_pos hp]; exact tr_mk hA, rfl, hL⟩
theorem each_TypeDef {α : Type} {dx : α → List D} (hd : ∀ x, (dx x).length = 3) (ho : ∀ x, ∀ d ∈ dx x, D.One d) {tr : α → Tr} {l : List α} (hl : l.length ≤ 1000000) {fc : FuncId} [Callable Tryz.prog fc] {caps : List Value} {w0 : World} {H : Hp} {own : List Seg} {v : Value} (hA : rd H (.s 3 (l.flatMap dx)) v)
    (hcl : ∀ x ∈ l, ∀ (c0 c1 c2 : Value) (H1 : Hp) (own1 : List Seg), Le H H1 → RdL H1 (dx x) [c0, c1, c2] → Fn Tryz.prog fc (.agg #[c0, c1, c2] :: caps) w0 H1 own1 (fun r o H' => ∃ c0 c1, r = .agg #[c0, c1] ∧ RdL H' (tr x).d [c0, c1] ∧ o = own1 ∧ Le H1 H')) :
    Fn Tryz.prog 39 [v, .func (.func fc) #[] caps.toArray] w0 H own (fun r o H' => rd H' (.s 2 (Tr.ds (l.map tr))) r ∧ o = own ∧ Le H H') := by
  obtain ⟨A, c, rfl, hc1, hc2⟩ := elems_len (by omega) hd hA
  refine Fn.enter Tryz.func39 rfl Tryz.ntmps39 rfl ?_; have hL := Le.refl H; refine Qj ?_; refine Qh ?_; refine Qe rfl rfl ?_; refine Q3 ?_; refine Qe rfl rfl ?_; refine Qi ?_; refine Qc ?_; refine Qj ?_; refine Qj ?_; refine Z4 ?_; refine Qh ?_; refine Qb rfl rfl ?_; refine Qn rfl rfl ?_; refine Qb rfl rfl ?_; refine Qi ?_; refine Qc ?_; refine Q6 ?_
  refine Zv (fun n env' own' H' => ∃ (k : Nat) (u : Value) (xs : List Value) (seg : Seg), n = l.length - k ∧ k ≤ l.length ∧ Row 26 2 u k xs seg ∧ RdL H' (Tr.ds ((l.take k).map tr)) xs ∧ env' = [(1, .func (.func fc) #[] caps.toArray), (5, u), (8, .slice A l.length c), (9, .int .i64 (l.length : Int)), (10, .int .i64 (k : Int))] ∧ own' = seg :: own ∧ Le H H') l.length [(1, _), (5, _), (8, _), (9, _), (10, _)] ⟨rfl, rfl, rfl, rfl, rfl, trivial⟩ ⟨0, _, [], [], by omega, by omega, Row.nil 26 2, trivial, rfl, rfl, Le.refl _⟩ ?_
  rintro n _ _ H1 ⟨k, u, xs, seg, rfl, hk1, hrow, hxs, rfl, rfl, hle0⟩
  have hL := Le.trans hL hle0; have hA := rd.mono hle0 hA; refine Qj ?_; refine Qh ?_
  refine Zz rfl rfl rfl (fun hlt => ?_) (fun hlt => ?_)
  ·
   obtain ⟨x, hx⟩ : ∃ x, l[k]? = some x := ⟨_, List.getElem?_eq_getElem (by omega)⟩
   obtain ⟨b1, o1, cs, rfl, hp, hpr, hcl1⟩ := elems_at (by omega) hd hA hx
   obtain ⟨c0, c1, c2, rfl⟩ := list_3 hcl1
   refine Qi ?_; refine Qc ?_; refine Qj ?_; refine Qv rfl ?_; refine Q2 ?_; refine Qc ?_; refine Qj ?_; refine Q6 ?_; refine Qj ?_; refine Qh ?_; refine Qo (k) rfl rfl rfl (by omega) rfl ?_; refine Zd rfl (hp) rfl rfl ?_
   refine Zc rfl ?_; intro g7; refine Qq 0 0 (c' := #[_, _, _]) (own' := [(_, .cells #[_, _, _] _ _)] :: _) rfl rfl rfl rfl rfl (RdL.ones hpr (ho x)) (by simp) rfl rfl rfl ?_; refine Qi ?_; refine Qc ?_; refine Qh ?_; refine Qb rfl rfl ?_; refine Qb rfl rfl ?_; refine Qm 0 0 [_, _, _] rfl rfl rfl ⟨rfl, rfl, rfl, trivial⟩ rfl rfl ?_; refine Z6 (first := []) (captured := caps) (vs := [_]) rfl (hcl x (List.mem_of_getElem? hx) _ _ _ _ _ hL hpr) ⟨rfl, trivial⟩ rfl rfl ?_
   rintro _ _ H17 ⟨a17, b17, rfl, hr17, rfl, hle17⟩
   have hL := Le.trans hL hle17; have hle0 := Le.trans hle0 hle17; have hxs := RdL.mono hle17 hxs
   refine Zg (r := [_, _]) [(0, [_, _])] ⟨rfl, ⟨_, rfl, rfl⟩, trivial⟩ rfl rfl rfl rfl ?_; intro g18; refine Zh 2 rfl rfl rfl hrow (Src.ofOwn 0 0 rfl rfl rfl (Ones.all (tr_ones hr17)) ⟨rfl, rfl, trivial⟩) (by omega) (by omega) rfl ?_; intro v' seg' hrow'; refine Qe rfl rfl ?_; refine Qi ?_; refine Ze ?_; refine Qc ?_; refine Qh ?_; refine Zb rfl rfl rfl ⟨by omega, by omega⟩ ?_; refine Qb rfl rfl ?_; refine Qi ?_
   refine Zj 3 [2] rfl (fun o ho => ?_)
   simp only [K.sel, nrm] at ho; subst ho
   refine Zf (l.length - (k + 1)) [(1, _), (5, _), (8, _), (9, _), (10, _)] (by omega) ⟨rfl, rfl, rfl, rfl, rfl, trivial⟩ ⟨k + 1, v', _, seg', rfl, by omega, hrow', ?_, by simp, rfl, hle0⟩
   rw [List.take_add_one, hx, List.map_append]
   exact trs_snoc hxs hr17
  ·
   refine Qi ?_; refine Qc ?_; refine Qj ?_; refine Qr rfl ?_; refine Zo ?_; refine Q1 ?_; refine Q1 ?_; refine Zp ?_; refine Zm ?_; refine Qb rfl rfl ?_; refine Qe rfl rfl ?_; refine Qi ?_; refine Qc ?_; refine Qy ?_
   refine Zs (fun H1 hle hz_row => ?_)
   have hL := Le.trans hL hle; have hxs := RdL.mono hle hxs; refine Q5 0 rfl rfl ?_
   refine ⟨?_, rfl, hL⟩
   rw [List.take_of_length_le (by omega)] at hxs
   exact rd.ofRow (n := (l.map tr).length) (by rw [List.length_map, show l.length = k by omega]; exact hrow) hz_row hxs (Le.refl _)
theorem each_none_TypeDef {fc : FuncId} [Callable Tryz.prog fc] {caps : List Value} {w0 : World} {H : Hp} {own : List Seg} : Fn Tryz.prog 39 [.slice none 0 0, .func (.func fc) #[] caps.toArray] w0 H own (fun r o H' => rd H' (.s 2 (Tr.ds [])) r ∧ o = own ∧ Le H H') :=
  each_TypeDef (α := Unit) (dx := fun _ => List.replicate 3 (.c (.bool true))) (fun _ => rfl) (fun _ d hd => by rw [List.eq_of_mem_replicate hd]; exact (rfl : (Value.bool true).oneCell' = true)) (tr := fun _ => Tr.zero) (l := []) (by simp) (rd.nil _ _) (fun x hx => by cases hx)

theorem each_Global {α : Type} {dx : α → List D} (hd : ∀ x, (dx x).length = 8) (ho : ∀ x, ∀ d ∈ dx x, D.One d) {tr : α → Tr} {l : List α} (hl : l.length ≤ 1000000) {fc : FuncId} [Callable Tryz.prog fc] {caps : List Value} {w0 : World} {H : Hp} {own : List Seg} {v : Value} (hA : rd H (.s 8 (l.flatMap dx)) v)
    (hcl : ∀ x ∈ l, ∀ (c0 c1 c2 c3 c4 c5 c6 c7 : Value) (H1 : Hp) (own1 : List Seg), Le H H1 → RdL H1 (dx x) [c0, c1, c2, c3, c4, c5, c6, c7] → Fn Tryz.prog fc (.agg #[c0, c1, c2, c3, c4, c5, c6, c7] :: caps) w0 H1 own1 (fun r o H' => ∃ c0 c1, r = .agg #[c0, c1] ∧ RdL H' (tr x).d [c0, c1] ∧ o = own1 ∧ Le H1 H')) :
    Fn Tryz.prog 41 [v, .func (.func fc) #[] caps.toArray] w0 H own (fun r o H' => rd H' (.s 2 (Tr.ds (l.map tr))) r ∧ o = own ∧ Le H H') := by
  obtain ⟨A, c, rfl, hc1, hc2⟩ := elems_len (by omega) hd hA
  refine Fn.enter Tryz.func41 rfl Tryz.ntmps41 rfl ?_; have hL := Le.refl H; refine Qj ?_; refine Qh ?_; refine Qe rfl rfl ?_; refine Q3 ?_; refine Qe rfl rfl ?_; refine Qi ?_; refine Qc ?_; refine Qj ?_; refine Qj ?_; refine Z4 ?_; refine Qh ?_; refine Qb rfl rfl ?_; refine Qn rfl rfl ?_; refine Qb rfl rfl ?_; refine Qi ?_; refine Qc ?_; refine Q6 ?_
  refine Zv (fun n env' own' H' => ∃ (k : Nat) (u : Value) (xs : List Value) (seg : Seg), n = l.length - k ∧ k ≤ l.length ∧ Row 26 2 u k xs seg ∧ RdL H' (Tr.ds ((l.take k).map tr)) xs ∧ env' = [(1, .func (.func fc) #[] caps.toArray), (5, u), (8, .slice A l.length c), (9, .int .i64 (l.length : Int)), (10, .int .i64 (k : Int))] ∧ own' = seg :: own ∧ Le H H') l.length [(1, _), (5, _), (8, _), (9, _), (10, _)] ⟨rfl, rfl, rfl, rfl, rfl, trivial⟩ ⟨0, _, [], [], by omega, by omega, Row.nil 26 2, trivial, rfl, rfl, Le.refl _⟩ ?_
  rintro n _ _ H1 ⟨k, u, xs, seg, rfl, hk1, hrow, hxs, rfl, rfl, hle0⟩
  have hL := Le.trans hL hle0; have hA := rd.mono hle0 hA; refine Qj ?_; refine Qh ?_
  refine Zz rfl rfl rfl (fun hlt => ?_) (fun hlt => ?_)
  ·
   obtain ⟨x, hx⟩ : ∃ x, l[k]? = some x := ⟨_, List.getElem?_eq_getElem (by omega)⟩
   obtain ⟨b1, o1, cs, rfl, hp, hpr, hcl1⟩ := elems_at (by omega) hd hA hx
   obtain ⟨c0, c1, c2, c3, c4, c5, c6, c7, rfl⟩ := list_8 hcl1
   refine Qi ?_; refine Qc ?_; refine Qj ?_; refine Qv rfl ?_; refine Q2 ?_; refine Qc ?_; refine Qj ?_; refine Q6 ?_; refine Qj ?_; refine Qh ?_; refine Qo (k) rfl rfl rfl (by omega) rfl ?_; refine Zd rfl (hp) rfl rfl ?_
   refine Zc rfl ?_; intro g7; refine Qq 0 0 (c' := #[_, _, _, _, _, _, _, _]) (own' := [(_, .cells #[_, _, _, _, _, _, _, _] _ _)] :: _) rfl rfl rfl rfl rfl (RdL.ones hpr (ho x)) (by simp [putC]) (putC_all rfl) rfl rfl ?_; refine Qi ?_; refine Qc ?_; refine Qh ?_; refine Qb rfl rfl ?_; refine Qb rfl rfl ?_; refine Qm 0 0 [_, _, _, _, _, _, _, _] rfl rfl rfl ⟨rfl, rfl, rfl, rfl, rfl, rfl, rfl, rfl, trivial⟩ rfl rfl ?_; refine Z6 (first := []) (captured := caps) (vs := [_]) rfl (hcl x (List.mem_of_getElem? hx) _ _ _ _ _ _ _ _ _ _ hL hpr) ⟨rfl, trivial⟩ rfl rfl ?_
   rintro _ _ H17 ⟨a17, b17, rfl, hr17, rfl, hle17⟩
   have hL := Le.trans hL hle17; have hle0 := Le.trans hle0 hle17; have hxs := RdL.mono hle17 hxs
   refine Zg (r := [_, _]) [(0, [_, _])] ⟨rfl, ⟨_, rfl, rfl⟩, trivial⟩ rfl rfl rfl rfl ?_; intro g18; refine Zh 2 rfl rfl rfl hrow (Src.ofOwn 0 0 rfl rfl rfl (Ones.all (tr_ones hr17)) ⟨rfl, rfl, trivial⟩) (by omega) (by omega) rfl ?_; intro v' seg' hrow'; refine Qe rfl rfl ?_; refine Qi ?_; refine Ze ?_; refine Qc ?_; refine Qh ?_; refine Zb rfl rfl rfl ⟨by omega, by omega⟩ ?_; refine Qb rfl rfl ?_; refine Qi ?_
   refine Zj 3 [2] rfl (fun o ho => ?_)
   simp only [K.sel, nrm] at ho; subst ho
   refine Zf (l.length - (k + 1)) [(1, _), (5, _), (8, _), (9, _), (10, _)] (by omega) ⟨rfl, rfl, rfl, rfl, rfl, trivial⟩ ⟨k + 1, v', _, seg', rfl, by omega, hrow', ?_, by simp, rfl, hle0⟩
   rw [List.take_add_one, hx, List.map_append]
   exact trs_snoc hxs hr17
  ·
   refine Qi ?_; refine Qc ?_; refine Qj ?_; refine Qr rfl ?_; refine Zo ?_; refine Q1 ?_; refine Q1 ?_; refine Zp ?_; refine Zm ?_; refine Qb rfl rfl ?_; refine Qe rfl rfl ?_; refine Qi ?_; refine Qc ?_; refine Qy ?_
   refine Zs (fun H1 hle hz_row => ?_)
   have hL := Le.trans hL hle; have hxs := RdL.mono hle hxs; refine Q5 0 rfl rfl ?_
   refine ⟨?_, rfl, hL⟩
   rw [List.take_of_length_le (by omega)] at hxs
   exact rd.ofRow (n := (l.map tr).length) (by rw [List.length_map, show l.length = k by omega]; exact hrow) hz_row hxs (Le.refl _)
theorem each_none_Global {fc : FuncId} [Callable Tryz.prog fc] {caps : List Value} {w0 : World} {H : Hp} {own : List Seg} : Fn Tryz.prog 41 [.slice none 0 0, .func (.func fc) #[] caps.toArray] w0 H own (fun r o H' => rd H' (.s 2 (Tr.ds [])) r ∧ o = own ∧ Le H H') :=
  each_Global (α := Unit) (dx := fun _ => List.replicate 8 (.c (.bool true))) (fun _ => rfl) (fun _ d hd => by rw [List.eq_of_mem_replicate hd]; exact (rfl : (Value.bool true).oneCell' = true)) (tr := fun _ => Tr.zero) (l := []) (by simp) (rd.nil _ _) (fun x hx => by cases hx)

theorem each_Func {α : Type} {dx : α → List D} (hd : ∀ x, (dx x).length = 10) (ho : ∀ x, ∀ d ∈ dx x, D.One d) {tr : α → Tr} {l : List α} (hl : l.length ≤ 1000000) {fc : FuncId} [Callable Tryz.prog fc] {caps : List Value} {w0 : World} {H : Hp} {own : List Seg} {v : Value} (hA : rd H (.s 10 (l.flatMap dx)) v)
    (hcl : ∀ x ∈ l, ∀ (c0 c1 c2 c3 c4 c5 c6 c7 c8 c9 : Value) (H1 : Hp) (own1 : List Seg), Le H H1 → RdL H1 (dx x) [c0, c1, c2, c3, c4, c5, c6, c7, c8, c9] → Fn Tryz.prog fc (.agg #[c0, c1, c2, c3, c4, c5, c6, c7, c8, c9] :: caps) w0 H1 own1 (fun r o H' => ∃ c0 c1, r = .agg #[c0, c1] ∧ RdL H' (tr x).d [c0, c1] ∧ o = own1 ∧ Le H1 H')) :
    Fn Tryz.prog 43 [v, .func (.func fc) #[] caps.toArray] w0 H own (fun r o H' => rd H' (.s 2 (Tr.ds (l.map tr))) r ∧ o = own ∧ Le H H') := by
  obtain ⟨A, c, rfl, hc1, hc2⟩ := elems_len (by omega) hd hA
  refine Fn.enter Tryz.func43 rfl Tryz.ntmps43 rfl ?_; have hL := Le.refl H; refine Qj ?_; refine Qh ?_; refine Qe rfl rfl ?_; refine Q3 ?_; refine Qe rfl rfl ?_; refine Qi ?_; refine Qc ?_; refine Qj ?_; refine Qj ?_; refine Z4 ?_; refine Qh ?_; refine Qb rfl rfl ?_; refine Qn rfl rfl ?_; refine Qb rfl rfl ?_; refine Qi ?_; refine Qc ?_; refine Q6 ?_
  refine Zv (fun n env' own' H' => ∃ (k : Nat) (u : Value) (xs : List Value) (seg : Seg), n = l.length - k ∧ k ≤ l.length ∧ Row 26 2 u k xs seg ∧ RdL H' (Tr.ds ((l.take k).map tr)) xs ∧ env' = [(1, .func (.func fc) #[] caps.toArray), (5, u), (8, .slice A l.length c), (9, .int .i64 (l.length : Int)), (10, .int .i64 (k : Int))] ∧ own' = seg :: own ∧ Le H H') l.length [(1, _), (5, _), (8, _), (9, _), (10, _)] ⟨rfl, rfl, rfl, rfl, rfl, trivial⟩ ⟨0, _, [], [], by omega, by omega, Row.nil 26 2, trivial, rfl, rfl, Le.refl _⟩ ?_
  rintro n _ _ H1 ⟨k, u, xs, seg, rfl, hk1, hrow, hxs, rfl, rfl, hle0⟩
  have hL := Le.trans hL hle0; have hA := rd.mono hle0 hA; refine Qj ?_; refine Qh ?_
  refine Zz rfl rfl rfl (fun hlt => ?_) (fun hlt => ?_)
  ·
   obtain ⟨x, hx⟩ : ∃ x, l[k]? = some x := ⟨_, List.getElem?_eq_getElem (by omega)⟩
   obtain ⟨b1, o1, cs, rfl, hp, hpr, hcl1⟩ := elems_at (by omega) hd hA hx
   obtain ⟨c0, c1, c2, c3, c4, c5, c6, c7, c8, c9, rfl⟩ := list_10 hcl1
   refine Qi ?_; refine Qc ?_; refine Qj ?_; refine Qv rfl ?_; refine Q2 ?_; refine Qc ?_; refine Qj ?_; refine Q6 ?_; refine Qj ?_; refine Qh ?_; refine Qo (k) rfl rfl rfl (by omega) rfl ?_; refine Zd rfl (hp) rfl rfl ?_
   refine Zc rfl ?_; intro g7; refine Qq 0 0 (c' := #[_, _, _, _, _, _, _, _, _, _]) (own' := [(_, .cells #[_, _, _, _, _, _, _, _, _, _] _ _)] :: _) rfl rfl rfl rfl rfl (RdL.ones hpr (ho x)) (by simp [putC]) (putC_all rfl) rfl rfl ?_; refine Qi ?_; refine Qc ?_; refine Qh ?_; refine Qb rfl rfl ?_; refine Qb rfl rfl ?_; refine Qm 0 0 [_, _, _, _, _, _, _, _, _, _] rfl rfl rfl ⟨rfl, rfl, rfl, rfl, rfl, rfl, rfl, rfl, rfl, rfl, trivial⟩ rfl rfl ?_; refine Z6 (first := []) (captured := caps) (vs := [_]) rfl (hcl x (List.mem_of_getElem? hx) _ _ _ _ _ _ _ _ _ _ _ _ hL hpr) ⟨rfl, trivial⟩ rfl rfl ?_
   rintro _ _ H17 ⟨a17, b17, rfl, hr17, rfl, hle17⟩
   have hL := Le.trans hL hle17; have hle0 := Le.trans hle0 hle17; have hxs := RdL.mono hle17 hxs
   refine Zg (r := [_, _]) [(0, [_, _])] ⟨rfl, ⟨_, rfl, rfl⟩, trivial⟩ rfl rfl rfl rfl ?_; intro g18; refine Zh 2 rfl rfl rfl hrow (Src.ofOwn 0 0 rfl rfl rfl (Ones.all (tr_ones hr17)) ⟨rfl, rfl, trivial⟩) (by omega) (by omega) rfl ?_; intro v' seg' hrow'; refine Qe rfl rfl ?_; refine Qi ?_; refine Ze ?_; refine Qc ?_; refine Qh ?_; refine Zb rfl rfl rfl ⟨by omega, by omega⟩ ?_; refine Qb rfl rfl ?_; refine Qi ?_
   refine Zj 3 [2] rfl (fun o ho => ?_)
   simp only [K.sel, nrm] at ho; subst ho
   refine Zf (l.length - (k + 1)) [(1, _), (5, _), (8, _), (9, _), (10, _)] (by omega) ⟨rfl, rfl, rfl, rfl, rfl, trivial⟩ ⟨k + 1, v', _, seg', rfl, by omega, hrow', ?_, by simp, rfl, hle0⟩
   rw [List.take_add_one, hx, List.map_append]
   exact trs_snoc hxs hr17
  ·
   refine Qi ?_; refine Qc ?_; refine Qj ?_; refine Qr rfl ?_; refine Zo ?_; refine Q1 ?_; refine Q1 ?_; refine Zp ?_; refine Zm ?_; refine Qb rfl rfl ?_; refine Qe rfl rfl ?_; refine Qi ?_; refine Qc ?_; refine Qy ?_
   refine Zs (fun H1 hle hz_row => ?_)
   have hL := Le.trans hL hle; have hxs := RdL.mono hle hxs; refine Q5 0 rfl rfl ?_
   refine ⟨?_, rfl, hL⟩
   rw [List.take_of_length_le (by omega)] at hxs
   exact rd.ofRow (n := (l.map tr).length) (by rw [List.length_map, show l.length = k by omega]; exact hrow) hz_row hxs (Le.refl _)
theorem each_Field {α : Type} {dx : α → List D} (hd : ∀ x, (dx x).length = 5) (ho : ∀ x, ∀ d ∈ dx x, D.One d) {tr : α → Tr} {l : List α} (hl : l.length ≤ 1000000) {fc : FuncId} [Callable Tryz.prog fc] {caps : List Value} {w0 : World} {H : Hp} {own : List Seg} {v : Value} (hA : rd H (.s 5 (l.flatMap dx)) v)
    (hcl : ∀ x ∈ l, ∀ (c0 c1 c2 c3 c4 : Value) (H1 : Hp) (own1 : List Seg), Le H H1 → RdL H1 (dx x) [c0, c1, c2, c3, c4] → Fn Tryz.prog fc (.agg #[c0, c1, c2, c3, c4] :: caps) w0 H1 own1 (fun r o H' => ∃ c0 c1, r = .agg #[c0, c1] ∧ RdL H' (tr x).d [c0, c1] ∧ o = own1 ∧ Le H1 H')) :
    Fn Tryz.prog 61 [v, .func (.func fc) #[] caps.toArray] w0 H own (fun r o H' => rd H' (.s 2 (Tr.ds (l.map tr))) r ∧ o = own ∧ Le H H') := by
  obtain ⟨A, c, rfl, hc1, hc2⟩ := elems_len (by omega) hd hA
  refine Fn.enter Tryz.func61 rfl Tryz.ntmps61 rfl ?_; have hL := Le.refl H; refine Qj ?_; refine Qh ?_; refine Qe rfl rfl ?_; refine Q3 ?_; refine Qe rfl rfl ?_; refine Qi ?_; refine Qc ?_; refine Qj ?_; refine Qj ?_; refine Z4 ?_; refine Qh ?_; refine Qb rfl rfl ?_; refine Qn rfl rfl ?_; refine Qb rfl rfl ?_; refine Qi ?_; refine Qc ?_; refine Q6 ?_
  refine Zv (fun n env' own' H' => ∃ (k : Nat) (u : Value) (xs : List Value) (seg : Seg), n = l.length - k ∧ k ≤ l.length ∧ Row 26 2 u k xs seg ∧ RdL H' (Tr.ds ((l.take k).map tr)) xs ∧ env' = [(1, .func (.func fc) #[] caps.toArray), (5, u), (8, .slice A l.length c), (9, .int .i64 (l.length : Int)), (10, .int .i64 (k : Int))] ∧ own' = seg :: own ∧ Le H H') l.length [(1, _), (5, _), (8, _), (9, _), (10, _)] ⟨rfl, rfl, rfl, rfl, rfl, trivial⟩ ⟨0, _, [], [], by omega, by omega, Row.nil 26 2, trivial, rfl, rfl, Le.refl _⟩ ?_
  rintro n _ _ H1 ⟨k, u, xs, seg, rfl, hk1, hrow, hxs, rfl, rfl, hle0⟩
  have hL := Le.trans hL hle0; have hA := rd.mono hle0 hA; refine Qj ?_; refine Qh ?_
  refine Zz rfl rfl rfl (fun hlt => ?_) (fun hlt => ?_)
  ·
   obtain ⟨x, hx⟩ : ∃ x, l[k]? = some x := ⟨_, List.getElem?_eq_getElem (by omega)⟩
   obtain ⟨b1, o1, cs, rfl, hp, hpr, hcl1⟩ := elems_at (by omega) hd hA hx
   obtain ⟨c0, c1, c2, c3, c4, rfl⟩ := list_5 hcl1
   refine Qi ?_; refine Qc ?_; refine Qj ?_; refine Qv rfl ?_; refine Q2 ?_; refine Qc ?_; refine Qj ?_; refine Q6 ?_; refine Qj ?_; refine Qh ?_; refine Qo (k) rfl rfl rfl (by omega) rfl ?_; refine Zd rfl (hp) rfl rfl ?_
   refine Zc rfl ?_; intro g7; refine Qq 0 0 (c' := #[_, _, _, _, _]) (own' := [(_, .cells #[_, _, _, _, _] _ _)] :: _) rfl rfl rfl rfl rfl (RdL.ones hpr (ho x)) (by simp [putC]) (putC_all rfl) rfl rfl ?_; refine Qi ?_; refine Qc ?_; refine Qh ?_; refine Qb rfl rfl ?_; refine Qb rfl rfl ?_; refine Qm 0 0 [_, _, _, _, _] rfl rfl rfl ⟨rfl, rfl, rfl, rfl, rfl, trivial⟩ rfl rfl ?_; refine Z6 (first := []) (captured := caps) (vs := [_]) rfl (hcl x (List.mem_of_getElem? hx) _ _ _ _ _ _ _ hL hpr) ⟨rfl, trivial⟩ rfl rfl ?_
   rintro _ _ H17 ⟨a17, b17, rfl, hr17, rfl, hle17⟩
   have hL := Le.trans hL hle17; have hle0 := Le.trans hle0 hle17; have hxs := RdL.mono hle17 hxs
   refine Zg (r := [_, _]) [(0, [_, _])] ⟨rfl, ⟨_, rfl, rfl⟩, trivial⟩ rfl rfl rfl rfl ?_; intro g18; refine Zh 2 rfl rfl rfl hrow (Src.ofOwn 0 0 rfl rfl rfl (Ones.all (tr_ones hr17)) ⟨rfl, rfl, trivial⟩) (by omega) (by omega) rfl ?_; intro v' seg' hrow'; refine Qe rfl rfl ?_; refine Qi ?_; refine Ze ?_; refine Qc ?_; refine Qh ?_; refine Zb rfl rfl rfl ⟨by omega, by omega⟩ ?_; refine Qb rfl rfl ?_; refine Qi ?_
   refine Zj 3 [2] rfl (fun o ho => ?_)
   simp only [K.sel, nrm] at ho; subst ho
   refine Zf (l.length - (k + 1)) [(1, _), (5, _), (8, _), (9, _), (10, _)] (by omega) ⟨rfl, rfl, rfl, rfl, rfl, trivial⟩ ⟨k + 1, v', _, seg', rfl, by omega, hrow', ?_, by simp, rfl, hle0⟩
   rw [List.take_add_one, hx, List.map_append]
   exact trs_snoc hxs hr17
  ·
   refine Qi ?_; refine Qc ?_; refine Qj ?_; refine Qr rfl ?_; refine Zo ?_; refine Q1 ?_; refine Q1 ?_; refine Zp ?_; refine Zm ?_; refine Qb rfl rfl ?_; refine Qe rfl rfl ?_; refine Qi ?_; refine Qc ?_; refine Qy ?_
   refine Zs (fun H1 hle hz_row => ?_)
   have hL := Le.trans hL hle; have hxs := RdL.mono hle hxs; refine Q5 0 rfl rfl ?_
   refine ⟨?_, rfl, hL⟩
   rw [List.take_of_length_le (by omega)] at hxs
   exact rd.ofRow (n := (l.map tr).length) (by rw [List.length_map, show l.length = k by omega]; exact hrow) hz_row hxs (Le.refl _)
theorem each_none_Field {fc : FuncId} [Callable Tryz.prog fc] {caps : List Value} {w0 : World} {H : Hp} {own : List Seg} : Fn Tryz.prog 61 [.slice none 0 0, .func (.func fc) #[] caps.toArray] w0 H own (fun r o H' => rd H' (.s 2 (Tr.ds [])) r ∧ o = own ∧ Le H H') :=
  each_Field (α := Unit) (dx := fun _ => List.replicate 5 (.c (.bool true))) (fun _ => rfl) (fun _ d hd => by rw [List.eq_of_mem_replicate hd]; exact (rfl : (Value.bool true).oneCell' = true)) (tr := fun _ => Tr.zero) (l := []) (by simp) (rd.nil _ _) (fun x hx => by cases hx)

theorem each_Stmt {α : Type} {dx : α → List D} (hd : ∀ x, (dx x).length = 11) (ho : ∀ x, ∀ d ∈ dx x, D.One d) {tr : α → Tr} {l : List α} (hl : l.length ≤ 1000000) {fc : FuncId} [Callable Tryz.prog fc] {caps : List Value} {w0 : World} {H : Hp} {own : List Seg} {v : Value} (hA : rd H (.s 11 (l.flatMap dx)) v)
    (hcl : ∀ x ∈ l, ∀ (c0 c1 c2 c3 c4 c5 c6 c7 c8 c9 c10 : Value) (H1 : Hp) (own1 : List Seg), Le H H1 → RdL H1 (dx x) [c0, c1, c2, c3, c4, c5, c6, c7, c8, c9, c10] → Fn Tryz.prog fc (.agg #[c0, c1, c2, c3, c4, c5, c6, c7, c8, c9, c10] :: caps) w0 H1 own1 (fun r o H' => ∃ c0 c1, r = .agg #[c0, c1] ∧ RdL H' (tr x).d [c0, c1] ∧ o = own1 ∧ Le H1 H')) :
    Fn Tryz.prog 66 [v, .func (.func fc) #[] caps.toArray] w0 H own (fun r o H' => rd H' (.s 2 (Tr.ds (l.map tr))) r ∧ o = own ∧ Le H H') := by
  obtain ⟨A, c, rfl, hc1, hc2⟩ := elems_len (by omega) hd hA
  refine Fn.enter Tryz.func66 rfl Tryz.ntmps66 rfl ?_; have hL := Le.refl H; refine Qj ?_; refine Qh ?_; refine Qe rfl rfl ?_; refine Q3 ?_; refine Qe rfl rfl ?_; refine Qi ?_; refine Qc ?_; refine Qj ?_; refine Qj ?_; refine Z4 ?_; refine Qh ?_; refine Qb rfl rfl ?_; refine Qn rfl rfl ?_; refine Qb rfl rfl ?_; refine Qi ?_; refine Qc ?_; refine Q6 ?_
  refine Zv (fun n env' own' H' => ∃ (k : Nat) (u : Value) (xs : List Value) (seg : Seg), n = l.length - k ∧ k ≤ l.length ∧ Row 26 2 u k xs seg ∧ RdL H' (Tr.ds ((l.take k).map tr)) xs ∧ env' = [(1, .func (.func fc) #[] caps.toArray), (5, u), (8, .slice A l.length c), (9, .int .i64 (l.length : Int)), (10, .int .i64 (k : Int))] ∧ own' = seg :: own ∧ Le H H') l.length [(1, _), (5, _), (8, _), (9, _), (10, _)] ⟨rfl, rfl, rfl, rfl, rfl, trivial⟩ ⟨0, _, [], [], by omega, by omega, Row.nil 26 2, trivial, rfl, rfl, Le.refl _⟩ ?_
  rintro n _ _ H1 ⟨k, u, xs, seg, rfl, hk1, hrow, hxs, rfl, rfl, hle0⟩
  have hL := Le.trans hL hle0; have hA := rd.mono hle0 hA; refine Qj ?_; refine Qh ?_
  refine Zz rfl rfl rfl (fun hlt => ?_) (fun hlt => ?_)
  ·
   obtain ⟨x, hx⟩ : ∃ x, l[k]? = some x := ⟨_, List.getElem?_eq_getElem (by omega)⟩
   obtain ⟨b1, o1, cs, rfl, hp, hpr, hcl1⟩ := elems_at (by omega) hd hA hx
   obtain ⟨c0, c1, c2, c3, c4, c5, c6, c7, c8, c9, c10, rfl⟩ := list_11 hcl1
   refine Qi ?_; refine Qc ?_; refine Qj ?_; refine Qv rfl ?_; refine Q2 ?_; refine Qc ?_; refine Qj ?_; refine Q6 ?_; refine Qj ?_; refine Qh ?_; refine Qo (k) rfl rfl rfl (by omega) rfl ?_; refine Zd rfl (hp) rfl rfl ?_
   refine Zc rfl ?_; intro g7; refine Qq 0 0 (c' := #[_, _, _, _, _, _, _, _, _, _, _]) (own' := [(_, .cells #[_, _, _, _, _, _, _, _, _, _, _] _ _)] :: _) rfl rfl rfl rfl rfl (RdL.ones hpr (ho x)) (by simp [putC]) (putC_all rfl) rfl rfl ?_; refine Qi ?_; refine Qc ?_; refine Qh ?_; refine Qb rfl rfl ?_; refine Qb rfl rfl ?_; refine Qm 0 0 [_, _, _, _, _, _, _, _, _, _, _] rfl rfl rfl ⟨rfl, rfl, rfl, rfl, rfl, rfl, rfl, rfl, rfl, rfl, rfl, trivial⟩ rfl rfl ?_; refine Z6 (first := []) (captured := caps) (vs := [_]) rfl (hcl x (List.mem_of_getElem? hx) _ _ _ _ _ _ _ _ _ _ _ _ _ hL hpr) ⟨rfl, trivial⟩ rfl rfl ?_
   rintro _ _ H17 ⟨a17, b17, rfl, hr17, rfl, hle17⟩
   have hL := Le.trans hL hle17; have hle0 := Le.trans hle0 hle17; have hxs := RdL.mono hle17 hxs
   refine Zg (r := [_, _]) [(0, [_, _])] ⟨rfl, ⟨_, rfl, rfl⟩, trivial⟩ rfl rfl rfl rfl ?_; intro g18; refine Zh 2 rfl rfl rfl hrow (Src.ofOwn 0 0 rfl rfl rfl (Ones.all (tr_ones hr17)) ⟨rfl, rfl, trivial⟩) (by omega) (by omega) rfl ?_; intro v' seg' hrow'; refine Qe rfl rfl ?_; refine Qi ?_; refine Ze ?_; refine Qc ?_; refine Qh ?_; refine Zb rfl rfl rfl ⟨by omega, by omega⟩ ?_; refine Qb rfl rfl ?_; refine Qi ?_
   refine Zj 3 [2] rfl (fun o ho => ?_)
   simp only [K.sel, nrm] at ho; subst ho
   refine Zf (l.length - (k + 1)) [(1, _), (5, _), (8, _), (9, _), (10, _)] (by omega) ⟨rfl, rfl, rfl, rfl, rfl, trivial⟩ ⟨k + 1, v', _, seg', rfl, by omega, hrow', ?_, by simp, rfl, hle0⟩
   rw [List.take_add_one, hx, List.map_append]
   exact trs_snoc hxs hr17
  ·
   refine Qi ?_; refine Qc ?_; refine Qj ?_; refine Qr rfl ?_; refine Zo ?_; refine Q1 ?_; refine Q1 ?_; refine Zp ?_; refine Zm ?_; refine Qb rfl rfl ?_; refine Qe rfl rfl ?_; refine Qi ?_; refine Qc ?_; refine Qy ?_
   refine Zs (fun H1 hle hz_row => ?_)
   have hL := Le.trans hL hle; have hxs := RdL.mono hle hxs; refine Q5 0 rfl rfl ?_
   refine ⟨?_, rfl, hL⟩
   rw [List.take_of_length_le (by omega)] at hxs
   exact rd.ofRow (n := (l.map tr).length) (by rw [List.length_map, show l.length = k by omega]; exact hrow) hz_row hxs (Le.refl _)
theorem each_none_Stmt {fc : FuncId} [Callable Tryz.prog fc] {caps : List Value} {w0 : World} {H : Hp} {own : List Seg} : Fn Tryz.prog 66 [.slice none 0 0, .func (.func fc) #[] caps.toArray] w0 H own (fun r o H' => rd H' (.s 2 (Tr.ds [])) r ∧ o = own ∧ Le H H') :=
  each_Stmt (α := Unit) (dx := fun _ => List.replicate 11 (.c (.bool true))) (fun _ => rfl) (fun _ d hd => by rw [List.eq_of_mem_replicate hd]; exact (rfl : (Value.bool true).oneCell' = true)) (tr := fun _ => Tr.zero) (l := []) (by simp) (rd.nil _ _) (fun x hx => by cases hx)

theorem each_Expr {α : Type} {dx : α → List D} (hd : ∀ x, (dx x).length = 4) (ho : ∀ x, ∀ d ∈ dx x, D.One d) {tr : α → Tr} {l : List α} (hl : l.length ≤ 1000000) {fc : FuncId} [Callable Tryz.prog fc] {caps : List Value} {w0 : World} {H : Hp} {own : List Seg} {v : Value} (hA : rd H (.s 4 (l.flatMap dx)) v)
    (hcl : ∀ x ∈ l, ∀ (c0 c1 c2 c3 : Value) (H1 : Hp) (own1 : List Seg), Le H H1 → RdL H1 (dx x) [c0, c1, c2, c3] → Fn Tryz.prog fc (.agg #[c0, c1, c2, c3] :: caps) w0 H1 own1 (fun r o H' => ∃ c0 c1, r = .agg #[c0, c1] ∧ RdL H' (tr x).d [c0, c1] ∧ o = own1 ∧ Le H1 H')) :
    Fn Tryz.prog 84 [v, .func (.func fc) #[] caps.toArray] w0 H own (fun r o H' => rd H' (.s 2 (Tr.ds (l.map tr))) r ∧ o = own ∧ Le H H') := by
  obtain ⟨A, c, rfl, hc1, hc2⟩ := elems_len (by omega) hd hA
  refine Fn.enter Tryz.func84 rfl Tryz.ntmps84 rfl ?_; have hL := Le.refl H; refine Qj ?_; refine Qh ?_; refine Qe rfl rfl ?_; refine Q3 ?_; refine Qe rfl rfl ?_; refine Qi ?_; refine Qc ?_; refine Qj ?_; refine Qj ?_; refine Z4 ?_; refine Qh ?_; refine Qb rfl rfl ?_; refine Qn rfl rfl ?_; refine Qb rfl rfl ?_; refine Qi ?_; refine Qc ?_; refine Q6 ?_
  refine Zv (fun n env' own' H' => ∃ (k : Nat) (u : Value) (xs : List Value) (seg : Seg), n = l.length - k ∧ k ≤ l.length ∧ Row 26 2 u k xs seg ∧ RdL H' (Tr.ds ((l.take k).map tr)) xs ∧ env' = [(1, .func (.func fc) #[] caps.toArray), (5, u), (8, .slice A l.length c), (9, .int .i64 (l.length : Int)), (10, .int .i64 (k : Int))] ∧ own' = seg :: own ∧ Le H H') l.length [(1, _), (5, _), (8, _), (9, _), (10, _)] ⟨rfl, rfl, rfl, rfl, rfl, trivial⟩ ⟨0, _, [], [], by omega, by omega, Row.nil 26 2, trivial, rfl, rfl, Le.refl _⟩ ?_
  rintro n _ _ H1 ⟨k, u, xs, seg, rfl, hk1, hrow, hxs, rfl, rfl, hle0⟩
  have hL := Le.trans hL hle0; have hA := rd.mono hle0 hA; refine Qj ?_; refine Qh ?_
  refine Zz rfl rfl rfl (fun hlt => ?_) (fun hlt => ?_)
  ·
   obtain ⟨x, hx⟩ : ∃ x, l[k]? = some x := ⟨_, List.getElem?_eq_getElem (by omega)⟩
   obtain ⟨b1, o1, cs, rfl, hp, hpr, hcl1⟩ := elems_at (by omega) hd hA hx
   obtain ⟨c0, c1, c2, c3, rfl⟩ := list_4 hcl1
   refine Qi ?_; refine Qc ?_; refine Qj ?_; refine Qv rfl ?_; refine Q2 ?_; refine Qc ?_; refine Qj ?_; refine Q6 ?_; refine Qj ?_; refine Qh ?_; refine Qo (k) rfl rfl rfl (by omega) rfl ?_; refine Zd rfl (hp) rfl rfl ?_
   refine Zc rfl ?_; intro g7; refine Qq 0 0 (c' := #[_, _, _, _]) (own' := [(_, .cells #[_, _, _, _] _ _)] :: _) rfl rfl rfl rfl rfl (RdL.ones hpr (ho x)) (by simp) rfl rfl rfl ?_; refine Qi ?_; refine Qc ?_; refine Qh ?_; refine Qb rfl rfl ?_; refine Qb rfl rfl ?_; refine Qm 0 0 [_, _, _, _] rfl rfl rfl ⟨rfl, rfl, rfl, rfl, trivial⟩ rfl rfl ?_; refine Z6 (first := []) (captured := caps) (vs := [_]) rfl (hcl x (List.mem_of_getElem? hx) _ _ _ _ _ _ hL hpr) ⟨rfl, trivial⟩ rfl rfl ?_
   rintro _ _ H17 ⟨a17, b17, rfl, hr17, rfl, hle17⟩
   have hL := Le.trans hL hle17; have hle0 := Le.trans hle0 hle17; have hxs := RdL.mono hle17 hxs
   refine Zg (r := [_, _]) [(0, [_, _])] ⟨rfl, ⟨_, rfl, rfl⟩, trivial⟩ rfl rfl rfl rfl ?_; intro g18; refine Zh 2 rfl rfl rfl hrow (Src.ofOwn 0 0 rfl rfl rfl (Ones.all (tr_ones hr17)) ⟨rfl, rfl, trivial⟩) (by omega) (by omega) rfl ?_; intro v' seg' hrow'; refine Qe rfl rfl ?_; refine Qi ?_; refine Ze ?_; refine Qc ?_; refine Qh ?_; refine Zb rfl rfl rfl ⟨by omega, by omega⟩ ?_; refine Qb rfl rfl ?_; refine Qi ?_
   refine Zj 3 [2] rfl (fun o ho => ?_)
   simp only [K.sel, nrm] at ho; subst ho
   refine Zf (l.length - (k + 1)) [(1, _), (5, _), (8, _), (9, _), (10, _)] (by omega) ⟨rfl, rfl, rfl, rfl, rfl, trivial⟩ ⟨k + 1, v', _, seg', rfl, by omega, hrow', ?_, by simp, rfl, hle0⟩
   rw [List.take_add_one, hx, List.map_append]
   exact trs_snoc hxs hr17
  ·
   refine Qi ?_; refine Qc ?_; refine Qj ?_; refine Qr rfl ?_; refine Zo ?_; refine Q1 ?_; refine Q1 ?_; refine Zp ?_; refine Zm ?_; refine Qb rfl rfl ?_; refine Qe rfl rfl ?_; refine Qi ?_; refine Qc ?_; refine Qy ?_
   refine Zs (fun H1 hle hz_row => ?_)
   have hL := Le.trans hL hle; have hxs := RdL.mono hle hxs; refine Q5 0 rfl rfl ?_
   refine ⟨?_, rfl, hL⟩
   rw [List.take_of_length_le (by omega)] at hxs
   exact rd.ofRow (n := (l.map tr).length) (by rw [List.length_map, show l.length = k by omega]; exact hrow) hz_row hxs (Le.refl _)
theorem each_none_Expr {fc : FuncId} [Callable Tryz.prog fc] {caps : List Value} {w0 : World} {H : Hp} {own : List Seg} : Fn Tryz.prog 84 [.slice none 0 0, .func (.func fc) #[] caps.toArray] w0 H own (fun r o H' => rd H' (.s 2 (Tr.ds [])) r ∧ o = own ∧ Le H H') :=
  each_Expr (α := Unit) (dx := fun _ => List.replicate 4 (.c (.bool true))) (fun _ => rfl) (fun _ d hd => by rw [List.eq_of_mem_replicate hd]; exact (rfl : (Value.bool true).oneCell' = true)) (tr := fun _ => Tr.zero) (l := []) (by simp) (rd.nil _ _) (fun x hx => by cases hx)

theorem diff_fieldTree {w : ByteArray} {w0 : World} {H : Hp} {own : List Seg} : Fn Tryz.prog 62 [.string w] w0 H own (fun r o H' => ∃ g, r = .func (.func 83) #[] #[.pointer (some ⟨g, 0, none⟩)] ∧ cel H' g 0 = some (.string w) ∧ o = own ∧ Le H H') := by
  refine Fn.enter Tryz.func62 rfl Tryz.ntmps62 rfl ?_; have hL := Le.refl H; refine Qj ?_; refine Qh ?_
  refine Zx (c := #[_]) rfl rfl rfl ?_; intro g1; refine Qe rfl rfl ?_; refine Q3 ?_; refine TL.makeFunc (vs := []) (us := [_]) trivial ⟨rfl, trivial⟩ rfl ?_; refine Qe rfl rfl ?_; refine Qi ?_; refine Qc ?_; refine Qy ?_
  refine Zs (fun H1 hle hz_g1 => ?_)
  have hL := Le.trans hL hle; refine Q5 0 rfl rfl ?_
  exact ⟨g1, rfl, by have h := hz_g1 _ (List.mem_singleton.2 rfl); simp [cel, h], rfl, hL⟩
theorem type_void {w0 : World} {H : Hp} {own : List Seg} : Fn Tryz.prog 64 [.agg #[.int .i64 7, .string ⟨#[]⟩, .int .i64 0, .slice none 0 0]] w0 H own (fun r o H' => ∃ c0 c1, r = .agg #[c0, c1] ∧ RdL H' (Tr.node (nodeL ⟨#[118, 111, 105, 100]⟩ ⟨#[]⟩) []).d [c0, c1] ∧ o = own ∧ Le H H') := by
  refine Fn.enter Tryz.func64 rfl Tryz.ntmps64 rfl ?_; have hL := Le.refl H; refine Qj ?_; refine Qh ?_
  refine Zx (c := #[_, _, _, _]) rfl rfl rfl ?_; intro g1
  refine Zc rfl ?_; intro g2; refine Qi ?_; refine Qc ?_; refine Qj ?_; refine Qj ?_; refine Qh ?_; refine Qg rfl rfl ?_; refine Qk 1 0 rfl rfl rfl rfl rfl ?_; refine Qi ?_; refine Qc ?_; refine Q6 ?_; refine Qj ?_; refine Qh ?_; refine Za rfl rfl rfl ?_
  rw [decide_eq_false (by decide)]
  refine Qe rfl rfl ?_; refine Qi ?_; refine Qc ?_; refine Qr rfl ?_; refine Qj ?_; refine Qh ?_; refine Za rfl rfl rfl ?_
  rw [decide_eq_false (by decide)]
  refine Qe rfl rfl ?_; refine Qi ?_; refine Qc ?_; refine Qr rfl ?_; refine Qj ?_; refine Qh ?_; refine Za rfl rfl rfl ?_
  rw [decide_eq_false (by decide)]
  refine Qe rfl rfl ?_; refine Qi ?_; refine Qc ?_; refine Qr rfl ?_; refine Qj ?_; refine Qh ?_; refine Za rfl rfl rfl ?_
  rw [decide_eq_true (by decide)]
  refine Qe rfl rfl ?_; refine Qi ?_; refine Qc ?_; refine Qv rfl ?_; refine Qj ?_; refine Qh ?_; refine Qs (diff_node (ks := []) (by decide) (rd.nil _ _)) ⟨rfl, rfl, rfl, trivial⟩ rfl ?_
  rintro _ own H16 ⟨a16, b16, rfl, hr16, rfl, hle16⟩
  have hL := Le.trans hL hle16; refine Qq 0 0 (c' := #[_, _]) (own' := [(_, .cells #[_, _] _ _)] :: _) rfl rfl rfl rfl rfl (tr_ones hr16) (by simp) rfl rfl rfl ?_; refine Qi ?_; refine Qc ?_; refine Qy ?_; refine Z0 ?_; refine Q0 ?_; refine TQ.retC 0 0 2 [_, _] rfl rfl rfl rfl ⟨rfl, rfl, trivial⟩ rfl rfl ?_
  exact ⟨_, _, rfl, hr16, rfl, hL⟩
theorem stmt_tree {w0 : World} {H : Hp} {own : List Seg} : Fn Tryz.prog 67 [.agg #[.int .i64 12, .string ⟨#[]⟩, .int .i64 0, .string ⟨#[]⟩, .int .i64 0, .slice none 0 0, .int .u16 0, .slice none 0 0, .slice none 0 0, .slice none 0 0, .slice none 0 0]] w0 H own (fun r o H' => ∃ c0 c1, r = .agg #[c0, c1] ∧ RdL H' (Tr.node (nodeL ⟨#[112, 111, 108, 108]⟩ ⟨#[]⟩) []).d [c0, c1] ∧ o = own ∧ Le H H') := by
  refine Fn.enter Tryz.func67 rfl Tryz.ntmps67 rfl ?_; have hL := Le.refl H; refine Qj ?_; refine Qh ?_
  refine Zx (c := #[_, _, _, _, _, _, _, _, _, _, _]) rfl rfl rfl ?_; intro g1
  refine Zc rfl ?_; intro g2; refine Q3 ?_; refine Qg rfl rfl ?_; refine Qk 1 0 rfl rfl rfl rfl rfl ?_; refine Qs (each_none_Expr (caps := [])) ⟨rfl, rfl, trivial⟩ rfl ?_
  rintro v9 own H9 ⟨hr9, rfl, hle9⟩
  have hL := Le.trans hL hle9; refine Qe rfl rfl ?_; refine Q3 ?_; refine Qg rfl rfl ?_; refine Qk 1 0 rfl rfl rfl rfl rfl ?_; refine Qs (each_none_Stmt (caps := [])) ⟨rfl, rfl, trivial⟩ rfl ?_
  rintro v12 own H12 ⟨hr12, rfl, hle12⟩
  have hL := Le.trans hL hle12; refine Qe rfl rfl ?_; refine Qi ?_; refine Qc ?_; refine Qj ?_; refine Qj ?_; refine Qh ?_; refine Qg rfl rfl ?_; refine Qk 1 0 rfl rfl rfl rfl rfl ?_; refine Qi ?_; refine Qc ?_; refine Q6 ?_; refine Qj ?_; refine Qh ?_; refine Za rfl rfl rfl ?_
  rw [decide_eq_false (by decide)]
  refine Qe rfl rfl ?_; refine Qi ?_; refine Qc ?_; refine Qr rfl ?_; refine Qj ?_; refine Qh ?_; refine Za rfl rfl rfl ?_
  rw [decide_eq_false (by decide)]
  refine Qe rfl rfl ?_; refine Qi ?_; refine Qc ?_; refine Qr rfl ?_; refine Qj ?_; refine Qh ?_; refine Za rfl rfl rfl ?_
  rw [decide_eq_false (by decide)]
  refine Qe rfl rfl ?_; refine Qi ?_; refine Qc ?_; refine Qr rfl ?_; refine Qj ?_; refine Qh ?_; refine Za rfl rfl rfl ?_
  rw [decide_eq_false (by decide)]
  refine Qe rfl rfl ?_; refine Qi ?_; refine Qc ?_; refine Qr rfl ?_; refine Qj ?_; refine Qh ?_; refine Za rfl rfl rfl ?_
  rw [decide_eq_false (by decide)]
  refine Qe rfl rfl ?_; refine Qi ?_; refine Qc ?_; refine Qr rfl ?_; refine Qj ?_; refine Qh ?_; refine Za rfl rfl rfl ?_
  rw [decide_eq_false (by decide)]
  refine Qe rfl rfl ?_; refine Qi ?_; refine Qc ?_; refine Qr rfl ?_; refine Qj ?_; refine Qh ?_; refine Za rfl rfl rfl ?_
  rw [decide_eq_false (by decide)]
  refine Qe rfl rfl ?_; refine Qi ?_; refine Qc ?_; refine Qr rfl ?_; refine Qj ?_; refine Qh ?_; refine Za rfl rfl rfl ?_
  rw [decide_eq_false (by decide)]
  refine Qe rfl rfl ?_; refine Qi ?_; refine Qc ?_; refine Qr rfl ?_; refine Qj ?_; refine Qh ?_; refine Za rfl rfl rfl ?_
  rw [decide_eq_false (by decide)]
  refine Qe rfl rfl ?_; refine Qi ?_; refine Qc ?_; refine Qr rfl ?_; refine Qj ?_; refine Qh ?_; refine Za rfl rfl rfl ?_
  rw [decide_eq_false (by decide)]
  refine Qe rfl rfl ?_; refine Qi ?_; refine Qc ?_; refine Qr rfl ?_; refine Qj ?_; refine Qh ?_; refine Za rfl rfl rfl ?_
  rw [decide_eq_false (by decide)]
  refine Qe rfl rfl ?_; refine Qi ?_; refine Qc ?_; refine Qr rfl ?_; refine Qj ?_; refine Qh ?_; refine Za rfl rfl rfl ?_
  rw [decide_eq_true (by decide)]
  refine Qe rfl rfl ?_; refine Qi ?_; refine Qc ?_; refine Qv rfl ?_; refine Qj ?_; refine Qh ?_; refine Qs (diff_node (ks := []) (by decide) (rd.nil _ _)) ⟨rfl, rfl, rfl, trivial⟩ rfl ?_
  rintro _ own H114 ⟨a114, b114, rfl, hr114, rfl, hle114⟩
  have hL := Le.trans hL hle114; refine Qq 0 0 (c' := #[_, _]) (own' := [(_, .cells #[_, _] _ _)] :: _) rfl rfl rfl rfl rfl (tr_ones hr114) (by simp) rfl rfl rfl ?_; refine Qi ?_; refine Qc ?_; refine Qy ?_; refine Z0 ?_; refine Q0 ?_; refine TQ.retC 0 0 2 [_, _] rfl rfl rfl rfl ⟨rfl, rfl, trivial⟩ rfl rfl ?_
  exact ⟨_, _, rfl, hr114, rfl, hL⟩
theorem func_tree {w0 : World} {H : Hp} {own : List Seg} {v : Value} (hA : rd H (.s 11 pollD) v) : Fn Tryz.prog 44 [.agg #[.string ⟨#[109, 97, 105, 110]⟩, .slice none 0 0, .int .i64 7, .string ⟨#[]⟩, .int .i64 0, .slice none 0 0, v, .bool false, .int .i64 0, .int .u16 0]] w0 H own (fun r o H' => ∃ c0 c1, r = .agg #[c0, c1] ∧ RdL H' (Tr.node (nodeL ⟨#[102, 110]⟩ ⟨#[109, 97, 105, 110]⟩) [(Tr.node (nodeL ⟨#[112, 97, 114, 97, 109, 115]⟩ ⟨#[]⟩) []), (Tr.node (nodeL ⟨#[114, 101, 115, 117, 108, 116]⟩ ⟨#[]⟩) [(Tr.node (nodeL ⟨#[118, 111, 105, 100]⟩ ⟨#[]⟩) [])]), (Tr.node (nodeL ⟨#[98, 111, 100, 121]⟩ ⟨#[]⟩) [(Tr.node (nodeL ⟨#[112, 111, 108, 108]⟩ ⟨#[]⟩) [])])]).d [c0, c1] ∧ o = own ∧ Le H H') := by
  have hv := hA.one; refine Fn.enter Tryz.func44 rfl Tryz.ntmps44 rfl ?_; have hL := Le.refl H; refine Qj ?_; refine Qh ?_
  refine Zx (c := #[_, _, _, _, _, _, _, _, _, _]) rfl rfl rfl ?_; intro g1
  refine Zc rfl ?_; intro g2; refine Qi ?_; refine Qc ?_; refine Qj ?_; refine Q4 6  [(0, _), (1, _), (2, _)] follows_mixed ⟨rfl, rfl, rfl, trivial⟩ ?_; refine Qa (some 5) [] (fun _ _ _ _ hF => Qg rfl rfl (Qd hF)) ?_
  refine Qa (some 6) [(0, 0)] (by
   intro H' X F hle; have hL := Le.trans hL hle; intro hF; refine Qk 1 0 rfl rfl rfl rfl rfl ?_
   exact Qd hF) ?_
  refine Q9 (some 7) [] ([]) (fun _ => fun u sg H => ∃ g, u = .func (.func 83) #[] #[.pointer (some ⟨g, 0, none⟩)] ∧ sg = []) (by
   intro H' X F hle; have hL := Le.trans hL hle; intro hF; refine Qs (diff_fieldTree) ⟨rfl, trivial⟩ rfl ?_
   rintro _ own H7 ⟨gf, rfl, hgf, rfl, hle7⟩
   have hL := Le.trans hL hle7; refine Qi ?_
   exact Q7 [] hF hle7 ⟨gf, rfl, rfl⟩) ?_
  refine Q9 (some 8) [(1, 1), (2, 0)] ([]) (fun _ => fun u sg H => rd H (.s 2 (Tr.ds [])) u ∧ sg = []) (by
   intro H' X F hle; have hL := Le.trans hL hle; intro _
   rintro _ _ Hi7 hle7 ⟨gf, rfl, rfl⟩
   intro hF; refine Qs (each_none_Field (caps := [_])) ⟨rfl, rfl, trivial⟩ rfl ?_
   rintro v8 own H8 ⟨hr8, rfl, hle8⟩
   have hL := Le.trans hL hle8; refine Qi ?_
   exact Q7 [] hF hle8 ⟨hr8, rfl⟩) ?_
  refine Q9 (some 9) [(3, 0)] ([]) (fun _ => fun u sg H => ∃ d0 d1, u = .agg #[d0, d1] ∧ RdL H (Tr.node (nodeL ⟨#[112, 97, 114, 97, 109, 115]⟩ ⟨#[]⟩) []).d [d0, d1] ∧ sg = []) (by
   intro H' X F hle; have hL := Le.trans hL hle; intro _
   rintro v8 _ Hi8 hle8 ⟨hr8, rfl⟩
   replace hr8 := rd.mono hle8 hr8
   intro hF; refine Qs (diff_node (ks := []) (by decide) hr8) ⟨rfl, rfl, rfl, trivial⟩ rfl ?_
   rintro _ own H9 ⟨a9, b9, rfl, hr9, rfl, hle9⟩
   have hL := Le.trans hL hle9; refine Qi ?_
   exact Q7 [] hF hle9 ⟨a9, b9, rfl, hr9, rfl⟩) ?_
  refine Q9 (some 3) [] ([]) (fun _ => fun u sg H => ∃ g, u = .pointer (some ⟨g, 0, none⟩) ∧ sg = [[(g, .cells #[.string ⟨#[]⟩, .slice none 0 0] 26 (0, 0))]]) (by
   intro H' X F hle; have hL := Le.trans hL hle; intro hF
   refine Zc rfl ?_; intro g3; refine Qi ?_
   exact Q7 [_] hF (Le.refl _) ⟨_, rfl, rfl⟩) ?_
  refine ⟨by kernel_rfl, .refl _, ?_⟩
  ·
   intro H1 hle
   rintro _ _ Hi7 hle7 ⟨gf, rfl, rfl⟩
   rintro v8 _ Hi8 hle8 ⟨hr8, rfl⟩
   rintro _ _ Hi9 hle9 ⟨a9, b9, rfl, hr9, rfl⟩
   replace hr9 := RdL.mono hle9 hr9
   rintro _ _ Hr hler ⟨g3, rfl, rfl⟩
   have hL := Le.trans hL hle; have hA := rd.mono hle hA; refine Qw (own' := _ :: _ :: _ :: own) rfl ?_; refine Zi (env' := [(0, _), (1, _), (2, _), (9, _), (3, _)]) ⟨rfl, rfl, rfl, rfl, rfl, trivial⟩ ?_; refine Qq 0 0 (c' := #[_, _]) (own' := [(_, .cells #[_, _] _ _)] :: _) rfl rfl rfl rfl rfl (tr_ones hr9) (by simp) rfl rfl rfl ?_; refine Q3 ?_; refine Qg rfl rfl ?_; refine Qm 2 0 [_, _, _, _] rfl rfl rfl ⟨rfl, rfl, rfl, rfl, trivial⟩ rfl rfl ?_; refine Qs (type_void) ⟨rfl, trivial⟩ rfl ?_
   rintro _ own H12 ⟨a12, b12, rfl, hr12, rfl, hle12⟩
   have hL := Le.trans hL hle12; have hA := rd.mono hle12 hA; have hr9 := RdL.mono hle12 hr9
   refine Zg (r := [_, _]) [(0, [_, _])] ⟨rfl, ⟨_, rfl, rfl⟩, trivial⟩ rfl rfl rfl rfl ?_; intro g13
   refine Zy (fun H2 hle hz_g13 => ?_)
   have hL := Le.trans hL hle; have hA := rd.mono hle hA; have hr9 := RdL.mono hle hr9; have hr12 := RdL.mono hle hr12
   have hr13 : rd H2 (.s 2 (Tr.ds [(Tr.node (nodeL ⟨#[118, 111, 105, 100]⟩ ⟨#[]⟩) [])])) _ := rd.ofRow (Row.lit 26 2 1 _ _ rfl (by omega)) hz_g13 (trs_cons hr12 (trivial)) (Le.refl _)
   refine Qs (diff_node (ks := [(Tr.node (nodeL ⟨#[118, 111, 105, 100]⟩ ⟨#[]⟩) [])]) (by decide) hr13) ⟨rfl, rfl, rfl, trivial⟩ rfl ?_
   rintro _ own H14 ⟨a14, b14, rfl, hr14, rfl, hle14⟩
   have hL := Le.trans hL hle14; have hA := rd.mono hle14 hA; have hr9 := RdL.mono hle14 hr9
   refine Zc rfl ?_; intro g4; refine Qq 0 0 (c' := #[_, _]) (own' := [(_, .cells #[_, _] _ _)] :: _) rfl rfl rfl rfl rfl (tr_ones hr14) (by simp) rfl rfl rfl ?_; refine Qi ?_; refine Qc ?_; refine Qj ?_; refine Qj ?_; refine Qh ?_; refine Qg rfl rfl ?_; refine Qk 3 0 rfl rfl rfl rfl rfl ?_; refine Qi ?_; refine Qc ?_; refine Qr rfl ?_; refine Q2 ?_; refine Qc ?_; refine Qj ?_; refine Q4 9  [(0, _), (1, _), (2, _), (3, _), (4, _)] follows_mixed ⟨rfl, rfl, rfl, rfl, rfl, trivial⟩ ?_; refine Qa (some 33) [] (fun _ _ _ _ hF => Qg rfl rfl (Qd hF)) ?_
   refine Qa (some 34) [(0, 0)] (by
    intro H' X F hle; have hL := Le.trans hL hle; intro hF; refine Qk 3 0 rfl rfl rfl rfl rfl ?_
    exact Qd hF) ?_
   refine Qa (some 35) [] (by
    intro H' X F hle; have hL := Le.trans hL hle; intro hF; refine Qm 1 0 [_, _] rfl rfl rfl ⟨rfl, rfl, trivial⟩ rfl rfl ?_
    exact Qd hF) ?_
   refine Qa (some 36) [] (by
    intro H' X F hle; have hL := Le.trans hL hle; intro hF; refine Qm 0 0 [_, _] rfl rfl rfl ⟨rfl, rfl, trivial⟩ rfl rfl ?_
    exact Qd hF) ?_
   refine Qa (some 37) [] (fun _ _ _ _ hF => Qg rfl rfl (Qd hF)) ?_
   refine Qa (some 38) [(4, 0)] (by
    intro H' X F hle; have hL := Le.trans hL hle; intro hF; refine Qk 3 0 rfl rfl rfl rfl rfl ?_
    exact Qd hF) ?_
   refine Q9 (some 39) [(5, 0)] ([]) (fun _ => fun u sg H => rd H (.s 2 (Tr.ds [(Tr.node (nodeL ⟨#[112, 111, 108, 108]⟩ ⟨#[]⟩) [])])) u ∧ sg = []) (by
    intro H' X F hle; have hL := Le.trans hL hle; have hA := rd.mono hle hA; intro hF
    refine Qs (each_Stmt (α := Unit) (dx := fun _ => pollD) (fun _ => rfl) (fun _ => pollD_one) (tr := fun _ => (Tr.node (nodeL ⟨#[112, 111, 108, 108]⟩ ⟨#[]⟩) [])) (l := [()]) (by simp) (caps := []) (by simpa using hA) (fun x _ c0 c1 c2 c3 c4 c5 c6 c7 c8 c9 c10 H1 own1 hle hr => by
      have e := RdL.of_vals hr
      simp only [List.cons.injEq, and_true] at e
      obtain ⟨rfl, rfl, rfl, rfl, rfl, rfl, rfl, rfl, rfl, rfl, rfl⟩ := e
      exact stmt_tree)) ⟨rfl, rfl, trivial⟩ rfl ?_
    rintro v39 own H39 ⟨hr39, rfl, hle39⟩
    have hL := Le.trans hL hle39; refine Qi ?_
    exact Q7 [] hF hle39 ⟨hr39, rfl⟩) ?_
   refine Q9 (some 40) [(6, 0)] ([]) (fun _ => fun u sg H => ∃ d0 d1, u = .agg #[d0, d1] ∧ RdL H (Tr.node (nodeL ⟨#[98, 111, 100, 121]⟩ ⟨#[]⟩) [(Tr.node (nodeL ⟨#[112, 111, 108, 108]⟩ ⟨#[]⟩) [])]).d [d0, d1] ∧ sg = []) (by
    intro H' X F hle; have hL := Le.trans hL hle; intro _
    rintro v39 _ Hi39 hle39 ⟨hr39, rfl⟩
    replace hr39 := rd.mono hle39 hr39
    intro hF; refine Qs (diff_node (ks := [(Tr.node (nodeL ⟨#[112, 111, 108, 108]⟩ ⟨#[]⟩) [])]) (by decide) hr39) ⟨rfl, rfl, rfl, trivial⟩ rfl ?_
    rintro _ own H40 ⟨a40, b40, rfl, hr40, rfl, hle40⟩
    have hL := Le.trans hL hle40; refine Qi ?_
    exact Q7 [] hF hle40 ⟨a40, b40, rfl, hr40, rfl⟩) ?_
   refine Q9 (some 41) [(2, 5), (3, 4), (7, 0)] ([]) (fun _ => fun u sg H => rd H (.s 2 (Tr.ds [(Tr.node (nodeL ⟨#[112, 97, 114, 97, 109, 115]⟩ ⟨#[]⟩) []), (Tr.node (nodeL ⟨#[114, 101, 115, 117, 108, 116]⟩ ⟨#[]⟩) [(Tr.node (nodeL ⟨#[118, 111, 105, 100]⟩ ⟨#[]⟩) [])]), (Tr.node (nodeL ⟨#[98, 111, 100, 121]⟩ ⟨#[]⟩) [(Tr.node (nodeL ⟨#[112, 111, 108, 108]⟩ ⟨#[]⟩) [])])])) u ∧ sg = []) (by
    intro H' X F hle; have hL := Le.trans hL hle; have hr9 := RdL.mono hle hr9; have hr14 := RdL.mono hle hr14; intro _
    rintro _ _ Hi40 hle40 ⟨a40, b40, rfl, hr40, rfl⟩
    replace hr40 := RdL.mono hle40 hr40
    intro hF
    refine Zg (r := [_, _, _, _, _, _]) [(0, [_, _]), (1, [_, _]), (2, [_, _])] ⟨rfl, ⟨_, rfl, rfl⟩, rfl, ⟨_, rfl, rfl⟩, rfl, ⟨_, rfl, rfl⟩, trivial⟩ rfl rfl rfl rfl ?_; intro g41; refine Qi ?_
    refine Zs (fun H9 hle9 hz => ?_)
    exact Q7 [] hF hle9 ⟨rd.ofRow (Row.lit 26 2 3 _ _ rfl (by omega)) hz (trs_cons hr9 (trs_cons hr14 (trs_cons hr40 (trivial)))) hle9, rfl⟩) ?_
   refine ⟨by kernel_rfl, .refl _, ?_⟩
   ·
    intro H3 hle
    rintro v39 _ Hi39 hle39 ⟨hr39, rfl⟩
    rintro _ _ Hi40 hle40 ⟨a40, b40, rfl, hr40, rfl⟩
    rintro v41 _ Hi41 hle41 ⟨hr41, rfl⟩
    replace hr41 := rd.mono hle41 hr41
    have hL := Le.trans hL hle; refine Qw (own' := _ :: _ :: _ :: _ :: own) rfl ?_; refine Zi (env' := [(0, _), (1, _), (2, _), (3, _), (4, _), (34, _), (41, _)]) ⟨rfl, rfl, rfl, rfl, rfl, rfl, rfl, trivial⟩ ?_; refine Qs (diff_node (ks := [(Tr.node (nodeL ⟨#[112, 97, 114, 97, 109, 115]⟩ ⟨#[]⟩) []), (Tr.node (nodeL ⟨#[114, 101, 115, 117, 108, 116]⟩ ⟨#[]⟩) [(Tr.node (nodeL ⟨#[118, 111, 105, 100]⟩ ⟨#[]⟩) [])]), (Tr.node (nodeL ⟨#[98, 111, 100, 121]⟩ ⟨#[]⟩) [(Tr.node (nodeL ⟨#[112, 111, 108, 108]⟩ ⟨#[]⟩) [])])]) (by decide) hr41) ⟨rfl, rfl, rfl, trivial⟩ rfl ?_
    rintro _ own H42 ⟨a42, b42, rfl, hr42, rfl, hle42⟩
    have hL := Le.trans hL hle42; refine Qq 2 0 (c' := #[_, _]) (own' := _ :: _ :: [(_, .cells #[_, _] _ _)] :: _) rfl rfl rfl rfl rfl (tr_ones hr42) (by simp) rfl rfl rfl ?_; refine Qi ?_; refine Qc ?_; refine Qy ?_; refine TQ.retC 2 0 4 [_, _] rfl rfl rfl rfl ⟨rfl, rfl, trivial⟩ rfl rfl ?_
    exact ⟨_, _, rfl, hr42, rfl, hL⟩
def mainT : Tr := .node ⟨#[112, 114, 111, 103, 114, 97, 109]⟩ [.node ⟨#[116, 121, 112, 101, 115]⟩ [], .node ⟨#[103, 108, 111, 98, 97, 108, 115]⟩ [], .node ⟨#[102, 117, 110, 99, 115]⟩ [.node ⟨#[102, 110, 32, 109, 97, 105, 110]⟩ [.node ⟨#[112, 97, 114, 97, 109, 115]⟩ [], .node ⟨#[114, 101, 115, 117, 108, 116]⟩ [.node ⟨#[118, 111, 105, 100]⟩ []], .node ⟨#[98, 111, 100, 121]⟩ [.node ⟨#[112, 111, 108, 108]⟩ []]]]]
theorem diff_ToTree {w0 : World} {H : Hp} {own : List Seg} {v : Value} (hA : rd H (.s 10 mainD) v) : Fn Tryz.prog 26 [.agg #[.slice none 0 0, .slice none 0 0, v]] w0 H own (fun r o H' => ∃ c0 c1, r = .agg #[c0, c1] ∧ RdL H' mainT.d [c0, c1] ∧ o = own ∧ Le H H') := by
  have hv := hA.one; refine Fn.enter Tryz.func26 rfl Tryz.ntmps26 rfl ?_; have hL := Le.refl H; refine Qj ?_; refine Qh ?_
  refine Zx (c := #[_, _, _]) rfl rfl rfl ?_; intro g1
  refine Zc rfl ?_; intro g2; refine Qi ?_; refine Qc ?_; refine Qj ?_; refine Qj ?_; refine Qh ?_; refine Qm 1 0 [_, _, _] rfl rfl rfl ⟨rfl, rfl, rfl, trivial⟩ rfl rfl ?_; refine Qs (right_main hA) ⟨rfl, trivial⟩ rfl ?_
  rintro _ own H4 ⟨rfl, rfl, hle4⟩
  have hL := Le.trans hL hle4; have hA := rd.mono hle4 hA; refine Z1 rfl rfl ?_; refine Qi ?_; refine Qc ?_; refine Qr rfl ?_; refine Q2 ?_; refine Qc ?_; refine Qj ?_; refine Q4 10  [(0, _), (1, _), (2, _)] follows_mixed ⟨rfl, rfl, rfl, trivial⟩ ?_; refine Qa (some 7) [] (fun _ _ _ _ hF => Qg rfl rfl (Qd hF)) ?_
  refine Qa (some 8) [(0, 0)] (by
   intro H' X F hle; have hL := Le.trans hL hle; intro hF; refine Qk 1 0 rfl rfl rfl rfl rfl ?_
   exact Qd hF) ?_
  refine Q9 (some 9) [(1, 0)] ([]) (fun _ => fun u sg H => rd H (.s 2 (Tr.ds [])) u ∧ sg = []) (by
   intro H' X F hle; have hL := Le.trans hL hle; intro hF; refine Qs (each_none_TypeDef (caps := [])) ⟨rfl, rfl, trivial⟩ rfl ?_
   rintro v9 own H9 ⟨hr9, rfl, hle9⟩
   have hL := Le.trans hL hle9; refine Qi ?_
   exact Q7 [] hF hle9 ⟨hr9, rfl⟩) ?_
  refine Q9 (some 10) [(2, 0)] ([]) (fun _ => fun u sg H => ∃ d0 d1, u = .agg #[d0, d1] ∧ RdL H (Tr.node (nodeL ⟨#[116, 121, 112, 101, 115]⟩ ⟨#[]⟩) []).d [d0, d1] ∧ sg = []) (by
   intro H' X F hle; have hL := Le.trans hL hle; intro _
   rintro v9 _ Hi9 hle9 ⟨hr9, rfl⟩
   replace hr9 := rd.mono hle9 hr9
   intro hF; refine Qs (diff_node (ks := []) (by decide) hr9) ⟨rfl, rfl, rfl, trivial⟩ rfl ?_
   rintro _ own H10 ⟨a10, b10, rfl, hr10, rfl, hle10⟩
   have hL := Le.trans hL hle10; refine Qi ?_
   exact Q7 [] hF hle10 ⟨a10, b10, rfl, hr10, rfl⟩) ?_
  refine Qa (some 11) [] (fun _ _ _ _ hF => Qg rfl rfl (Qd hF)) ?_
  refine Qa (some 12) [(4, 0)] (by
   intro H' X F hle; have hL := Le.trans hL hle; intro hF; refine Qk 1 0 rfl rfl rfl rfl rfl ?_
   exact Qd hF) ?_
  refine Q9 (some 13) [(5, 0)] ([]) (fun _ => fun u sg H => rd H (.s 2 (Tr.ds [])) u ∧ sg = []) (by
   intro H' X F hle; have hL := Le.trans hL hle; intro hF; refine Qs (each_none_Global (caps := [])) ⟨rfl, rfl, trivial⟩ rfl ?_
   rintro v13 own H13 ⟨hr13, rfl, hle13⟩
   have hL := Le.trans hL hle13; refine Qi ?_
   exact Q7 [] hF hle13 ⟨hr13, rfl⟩) ?_
  refine Q9 (some 14) [(6, 0)] ([]) (fun _ => fun u sg H => ∃ d0 d1, u = .agg #[d0, d1] ∧ RdL H (Tr.node (nodeL ⟨#[103, 108, 111, 98, 97, 108, 115]⟩ ⟨#[]⟩) []).d [d0, d1] ∧ sg = []) (by
   intro H' X F hle; have hL := Le.trans hL hle; intro _
   rintro v13 _ Hi13 hle13 ⟨hr13, rfl⟩
   replace hr13 := rd.mono hle13 hr13
   intro hF; refine Qs (diff_node (ks := []) (by decide) hr13) ⟨rfl, rfl, rfl, trivial⟩ rfl ?_
   rintro _ own H14 ⟨a14, b14, rfl, hr14, rfl, hle14⟩
   have hL := Le.trans hL hle14; refine Qi ?_
   exact Q7 [] hF hle14 ⟨a14, b14, rfl, hr14, rfl⟩) ?_
  refine Qa (some 15) [] (fun _ _ _ _ hF => Qg rfl rfl (Qd hF)) ?_
  refine Qa (some 16) [(8, 0)] (by
   intro H' X F hle; have hL := Le.trans hL hle; intro hF; refine Qk 1 0 rfl rfl rfl rfl rfl ?_
   exact Qd hF) ?_
  refine ⟨by kernel_rfl, .refl _, ?_⟩
  ·
   intro H1 hle
   rintro v9 _ Hi9 hle9 ⟨hr9, rfl⟩
   rintro _ _ Hi10 hle10 ⟨a10, b10, rfl, hr10, rfl⟩
   replace hr10 := RdL.mono hle10 hr10
   rintro v13 _ Hi13 hle13 ⟨hr13, rfl⟩
   rintro _ _ Hi14 hle14 ⟨a14, b14, rfl, hr14, rfl⟩
   replace hr14 := RdL.mono hle14 hr14
   have hL := Le.trans hL hle; have hA := rd.mono hle hA; refine Qw (own' := _ :: _ :: own) rfl ?_; refine Zi (env' := [(0, _), (1, _), (2, _), (10, _), (14, _), (16, _)]) ⟨rfl, rfl, rfl, rfl, rfl, rfl, trivial⟩ ?_
   refine Qs (each_Func (α := Unit) (dx := fun _ => mainD) (fun _ => rfl) (fun _ => mainD_one) (tr := fun _ => (Tr.node (nodeL ⟨#[102, 110]⟩ ⟨#[109, 97, 105, 110]⟩) [(Tr.node (nodeL ⟨#[112, 97, 114, 97, 109, 115]⟩ ⟨#[]⟩) []), (Tr.node (nodeL ⟨#[114, 101, 115, 117, 108, 116]⟩ ⟨#[]⟩) [(Tr.node (nodeL ⟨#[118, 111, 105, 100]⟩ ⟨#[]⟩) [])]), (Tr.node (nodeL ⟨#[98, 111, 100, 121]⟩ ⟨#[]⟩) [(Tr.node (nodeL ⟨#[112, 111, 108, 108]⟩ ⟨#[]⟩) [])])])) (l := [()]) (by simp) (caps := []) (by simpa using hA) (fun x _ c0 c1 c2 c3 c4 c5 c6 c7 c8 c9 H1 own1 hle hr => by
     obtain ⟨rfl, rfl, rfl, rfl, rfl, rfl, rfl, rfl, rfl, h6⟩ := main_open hr
     exact func_tree h6)) ⟨rfl, rfl, trivial⟩ rfl ?_
   rintro v17 own H17 ⟨hr17, rfl, hle17⟩
   have hL := Le.trans hL hle17; have hr10 := RdL.mono hle17 hr10; have hr14 := RdL.mono hle17 hr14; refine Qs (diff_node (ks := [(Tr.node (nodeL ⟨#[102, 110]⟩ ⟨#[109, 97, 105, 110]⟩) [(Tr.node (nodeL ⟨#[112, 97, 114, 97, 109, 115]⟩ ⟨#[]⟩) []), (Tr.node (nodeL ⟨#[114, 101, 115, 117, 108, 116]⟩ ⟨#[]⟩) [(Tr.node (nodeL ⟨#[118, 111, 105, 100]⟩ ⟨#[]⟩) [])]), (Tr.node (nodeL ⟨#[98, 111, 100, 121]⟩ ⟨#[]⟩) [(Tr.node (nodeL ⟨#[112, 111, 108, 108]⟩ ⟨#[]⟩) [])])])]) (by decide) hr17) ⟨rfl, rfl, rfl, trivial⟩ rfl ?_
   rintro _ own H18 ⟨a18, b18, rfl, hr18, rfl, hle18⟩
   have hL := Le.trans hL hle18; have hr10 := RdL.mono hle18 hr10; have hr14 := RdL.mono hle18 hr14
   refine Zg (r := [_, _, _, _, _, _]) [(0, [_, _]), (1, [_, _]), (2, [_, _])] ⟨rfl, ⟨_, rfl, rfl⟩, rfl, ⟨_, rfl, rfl⟩, rfl, ⟨_, rfl, rfl⟩, trivial⟩ rfl rfl rfl rfl ?_; intro g19
   refine Zy (fun H2 hle hz_g19 => ?_)
   have hL := Le.trans hL hle; have hr10 := RdL.mono hle hr10; have hr14 := RdL.mono hle hr14; have hr18 := RdL.mono hle hr18
   have hr19 : rd H2 (.s 2 (Tr.ds [(Tr.node (nodeL ⟨#[116, 121, 112, 101, 115]⟩ ⟨#[]⟩) []), (Tr.node (nodeL ⟨#[103, 108, 111, 98, 97, 108, 115]⟩ ⟨#[]⟩) []), (Tr.node (nodeL ⟨#[102, 117, 110, 99, 115]⟩ ⟨#[]⟩) [(Tr.node (nodeL ⟨#[102, 110]⟩ ⟨#[109, 97, 105, 110]⟩) [(Tr.node (nodeL ⟨#[112, 97, 114, 97, 109, 115]⟩ ⟨#[]⟩) []), (Tr.node (nodeL ⟨#[114, 101, 115, 117, 108, 116]⟩ ⟨#[]⟩) [(Tr.node (nodeL ⟨#[118, 111, 105, 100]⟩ ⟨#[]⟩) [])]), (Tr.node (nodeL ⟨#[98, 111, 100, 121]⟩ ⟨#[]⟩) [(Tr.node (nodeL ⟨#[112, 111, 108, 108]⟩ ⟨#[]⟩) [])])])])])) _ := rd.ofRow (Row.lit 26 2 3 _ _ rfl (by omega)) hz_g19 (trs_cons hr10 (trs_cons hr14 (trs_cons hr18 (trivial)))) (Le.refl _)
   refine Qs (diff_node (ks := [(Tr.node (nodeL ⟨#[116, 121, 112, 101, 115]⟩ ⟨#[]⟩) []), (Tr.node (nodeL ⟨#[103, 108, 111, 98, 97, 108, 115]⟩ ⟨#[]⟩) []), (Tr.node (nodeL ⟨#[102, 117, 110, 99, 115]⟩ ⟨#[]⟩) [(Tr.node (nodeL ⟨#[102, 110]⟩ ⟨#[109, 97, 105, 110]⟩) [(Tr.node (nodeL ⟨#[112, 97, 114, 97, 109, 115]⟩ ⟨#[]⟩) []), (Tr.node (nodeL ⟨#[114, 101, 115, 117, 108, 116]⟩ ⟨#[]⟩) [(Tr.node (nodeL ⟨#[118, 111, 105, 100]⟩ ⟨#[]⟩) [])]), (Tr.node (nodeL ⟨#[98, 111, 100, 121]⟩ ⟨#[]⟩) [(Tr.node (nodeL ⟨#[112, 111, 108, 108]⟩ ⟨#[]⟩) [])])])])]) (by decide) hr19) ⟨rfl, rfl, rfl, trivial⟩ rfl ?_
   rintro _ own H20 ⟨a20, b20, rfl, hr20, rfl, hle20⟩
   have hL := Le.trans hL hle20; refine Qq 0 0 (c' := #[_, _]) (own' := [(_, .cells #[_, _] _ _)] :: _) rfl rfl rfl rfl rfl (tr_ones hr20) (by simp) rfl rfl rfl ?_; refine Qi ?_; refine Qc ?_; refine Qy ?_; refine TQ.retC 0 0 2 [_, _] rfl rfl rfl rfl ⟨rfl, rfl, trivial⟩ rfl rfl ?_
   refine ⟨_, _, rfl, ?_, rfl, hL⟩
   rw [show mainT = (Tr.node (nodeL ⟨#[112, 114, 111, 103, 114, 97, 109]⟩ ⟨#[]⟩) [(Tr.node (nodeL ⟨#[116, 121, 112, 101, 115]⟩ ⟨#[]⟩) []), (Tr.node (nodeL ⟨#[103, 108, 111, 98, 97, 108, 115]⟩ ⟨#[]⟩) []), (Tr.node (nodeL ⟨#[102, 117, 110, 99, 115]⟩ ⟨#[]⟩) [(Tr.node (nodeL ⟨#[102, 110]⟩ ⟨#[109, 97, 105, 110]⟩) [(Tr.node (nodeL ⟨#[112, 97, 114, 97, 109, 115]⟩ ⟨#[]⟩) []), (Tr.node (nodeL ⟨#[114, 101, 115, 117, 108, 116]⟩ ⟨#[]⟩) [(Tr.node (nodeL ⟨#[118, 111, 105, 100]⟩ ⟨#[]⟩) [])]), (Tr.node (nodeL ⟨#[98, 111, 100, 121]⟩ ⟨#[]⟩) [(Tr.node (nodeL ⟨#[112, 111, 108, 108]⟩ ⟨#[]⟩) [])])])])]) from by decide +kernel]
   exact hr20

end Go.Proofs.YtaomdfcplamenaaGreatDoor.K

namespace Go.Proofs.YtaomdfcplamenaaGreatDoor.K
open Go Go.RowKit Go.Proofs

/-- The tree that numbers make. -/
def madeT (l : List Int) : Tr := (growT l 3 0).1
theorem madeT_size (l : List Int) : (madeT l).size ≤ 64 := growT_size l 3 0
theorem ref_Made {l : List Int} (hl : ∀ n ∈ l, I64 n) {w0 : World} {H : Hp} {own : List Seg} {v : Value} (hA : rd H (.s 1 (ints l)) v) :
    Fn Tryz.prog 27 [v] w0 H own (fun r own' H' => ∃ c0 c1, r = .agg #[c0, c1] ∧ RdL H' (madeT l).d [c0, c1] ∧ own' = own ∧ Le H H') := by
  have hv := hA.one; refine Fn.enter Tryz.func27 rfl Tryz.ntmps27 rfl ?_; have hL := Le.refl H; refine Qj ?_; refine Qh ?_
  refine Zc rfl ?_; intro g2; refine Q3 ?_; refine Qb rfl rfl ?_; refine Q8 [(0, [_])] ⟨rfl, ⟨_, rfl, one_cells hv⟩, trivial⟩ rfl rfl ?_
  refine Zx (c := #[_, _]) rfl rfl rfl ?_; intro g6; refine Qe rfl rfl ?_; refine Q3 ?_; refine Qb rfl rfl ?_; refine Qs (ref_tree hl 3 (at_ := 0) rfl (by omega) (by omega) hA) ⟨rfl, rfl, trivial⟩ rfl ?_
  rintro _ _ H2 ⟨c0, c1, rfl, hr, rfl, hle2⟩
  have hL := Le.trans hL hle2; refine Qq 1 0 (c' := #[_, _]) (own' := _ :: [(_, .cells #[_, _] _ _)] :: _) rfl rfl rfl rfl rfl (tr_ones hr) (by simp) rfl rfl rfl ?_; refine Qi ?_; refine Qc ?_; refine Qy ?_; refine TQ.retC 1 0 2 [_, _] rfl rfl rfl rfl ⟨rfl, rfl, trivial⟩ rfl rfl ?_
  exact ⟨_, _, rfl, hr, rfl, hL⟩
theorem law_made {l : List Int} (hl : ∀ n ∈ l, I64 n) {w0 : World} {H : Hp} {own : List Seg} {v : Value} (hA : rd H (.s 1 (ints l)) v) (hlen : l.length ≤ 9223372036854775807) :
    Fn Tryz.prog 11 [v] w0 H own (fun r own' H' => ∃ c0 c1, r = .agg #[c0, c1] ∧ RdL H' (madeT (l.take 150)).d [c0, c1] ∧ own' = own ∧ Le H H') := by
  obtain ⟨A, c, rfl, hc1, hc2⟩ := vals_len hA
  simp only [List.length_map] at hA hc1 ⊢
  obtain ⟨m, hm⟩ : ∃ m, m = min l.length 150 := ⟨_, rfl⟩
  have hcut : l.take 150 = l.take m := by
    rw [hm]
    rcases Nat.le_total l.length 150 with h | h
    · rw [Nat.min_eq_left h, List.take_of_length_le h, List.take_of_length_le (Nat.le_refl _)]
    · rw [Nat.min_eq_right h]
  rw [hcut]
  have hl2 : ∀ n ∈ l.take m, I64 n := fun n hn => hl n (List.mem_of_mem_take hn)
  refine Fn.enter Tryz.func11 rfl Tryz.ntmps11 rfl ?_; have hL := Le.refl H; refine Qj ?_; refine Qh ?_
  refine Zc rfl ?_; intro g2; refine Q3 ?_; refine Qb rfl rfl ?_; refine Qb rfl rfl ?_; refine Qn rfl rfl ?_; refine TL.min2 rfl rfl rfl ?_
  rw [show min ((l.length : Nat) : Int) 150 = (m : Int) by omega]
  refine Z3 (0) (m) rfl rfl ⟨_, _, rfl, rfl⟩ rfl rfl (by omega) (by omega) rfl ?_
  refine Qs (ref_Made hl2 (by
    have h := rd.cut hA (l := 0) (r := m) (by omega) (by omega)
    rw [show ((ints l).drop (0 * 1)).take ((m - 0) * 1) = ints (l.take m) from by simp [ints]] at h
    exact h)) ⟨rfl, trivial⟩ rfl ?_
  rintro _ own H2 ⟨c0, c1, rfl, hr, rfl, hle2⟩
  have hL := Le.trans hL hle2; refine Qq 0 0 (c' := #[_, _]) (own' := [(_, .cells #[_, _] _ _)] :: _) rfl rfl rfl rfl rfl (tr_ones hr) (by simp) rfl rfl rfl ?_; refine Qi ?_; refine Qc ?_; refine Qy ?_; refine TQ.retC 0 0 1 [_, _] rfl rfl rfl rfl ⟨rfl, rfl, trivial⟩ rfl rfl ?_
  exact ⟨_, _, rfl, hr, rfl, hL⟩
theorem law_tree {t : Tr} {w0 : World} {H : Hp} {own : List Seg} {v : Value} (hA : rd H (.s 2 (Tr.ds t.kids)) v) :
    Fn Tryz.prog 25 [.string t.lab, v] w0 H own (fun r own' H' => ∃ c0 c1, r = .agg #[c0, c1] ∧ RdL H' t.d [c0, c1] ∧ own' = own ∧ Le H H') := by
  have hv := hA.one
  obtain ⟨l, ks⟩ := t
  simp only [Tr.lab, Tr.kids] at *
  refine Fn.enter Tryz.func25 rfl Tryz.ntmps25 rfl ?_; have hL := Le.refl H; refine Qj ?_; refine Qh ?_
  refine Zc rfl ?_; intro g4; refine Q3 ?_; refine Qb rfl rfl ?_; refine Qb rfl rfl ?_; refine Q8 [(0, [_]), (1, [_])] ⟨rfl, ⟨_, rfl, rfl⟩, rfl, ⟨_, rfl, one_cells hv⟩, trivial⟩ rfl rfl ?_; refine Qq 0 0 (c' := #[_, _]) (own' := [(_, .cells #[_, _] _ _)] :: _) rfl rfl rfl rfl rfl ⟨rfl, hv, trivial⟩ (by simp [putC]) rfl rfl rfl ?_; refine Qi ?_; refine Qc ?_; refine Qy ?_; refine TQ.retC 0 0 1 [_, _] rfl rfl rfl rfl ⟨rfl, rfl, trivial⟩ rfl rfl ?_
  exact ⟨_, _, rfl, tr_mk hA, rfl, hL⟩

end Go.Proofs.YtaomdfcplamenaaGreatDoor.K
