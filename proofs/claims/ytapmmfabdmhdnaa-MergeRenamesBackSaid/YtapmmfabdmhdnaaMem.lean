/-
  Memory under the judgement of Core: owned segments, loads, stores, new blocks, append, calls, the return.
  Everything here is a lemma over an arbitrary program P; no condition beyond those typed.
-/
import Derived.Test.YtapmmfabdmhdnaaOps
import Derived.Maps.AppendAt
import Derived.Laws.Cells
set_option linter.unusedVariables false
set_option linter.unusedSimpArgs false
namespace Go.Proofs.Ytapmmfabdmhdnaa.K
open Go Go.RowKit

/-! draws are never undone -/
theorem view_drawn {p : Program} {w : World} {at_ : Addr} {u : TypeId} {k : Addr} {v : Value} {m : Bool} {r : World × List Addr} (h : w.viewStore p at_ u k v m = .ok r) : r.1.drawn = w.drawn := by
  unfold World.viewStore at h
  simp only [bind, Except.bind, pure, Except.pure] at h
  repeat' (split at h <;> try cases h)
  all_goals first | rfl | (injection h with h; subst h; rfl)
theorem far_drawn {p : Program} {w : World} {a : Addr} {v : Value} {m : Bool} {w2 : World} {l : List Addr} (h : w.farStore p a v m = .ok (w2, l)) : w2.drawn = w.drawn := by
  unfold World.farStore at h
  split at h
  · split at h
    · rename_i hv
      injection h with h
      have := view_drawn hv
      rw [h] at this
      exact this
    · cases h
  · cases h
theorem ask_drawn {α : Type} : ∀ (q : Ask α) (w : World), w.drawn ≤ (w.ask q).2.drawn
  | .done a, w => Nat.le_refl _
  | .ask what range k, w => by
    simp only [World.ask]
    split
    · exact ask_drawn _ w
    · exact Nat.le_trans (Nat.le_succ _) (ask_drawn _ { w with drawn := w.drawn + 1 })
theorem sys_drawn (w : World) (c : Sys) : w.drawn ≤ (w.sys c).2.drawn := by
  have := ask_drawn (Kernel.perform c w.os) w
  unfold World.sys
  split
  · exact Nat.le_refl _
  · rename_i h; rw [h] at this; exact this
theorem run_drawn {P : Program} {α : Type} : ∀ (m : Sem α) (w w' : World) (v : α), m.run P w = .ok v w' → w.drawn ≤ w'.drawn := by
  intro m
  induction m with
  | pure a => intro w w' v h; simp only [Sem.run] at h; injection h with _ h; subst h; exact Nat.le_refl _
  | load md a k ih =>
    intro w w' v h
    simp only [Sem.run] at h
    split at h
    · exact ih _ _ _ _ h
    · split at h
      · exact ih _ _ _ _ h
      · cases h
  | store md a u k ih =>
    intro w w' v h
    cases u <;> simp only [Sem.run] at h <;> first
      | (cases h; done)
      | (split at h
         · split at h
           · cases h
           · have := ih _ _ _ h; exact this
         · split at h
           · rename_i hf
             have := ih _ _ _ h
             rw [far_drawn hf] at this
             exact this
           · cases h)
  | new o k ih => intro w w' v h; have := ih _ _ _ _ h; exact this
  | shape r k ih => intro w w' v h; exact ih _ _ _ _ h
  | freeze a n k ih =>
    intro w w' v h
    have := ih _ _ _ h
    unfold World.freeze at this
    split at this <;> exact this
  | frozen a k ih => intro w w' v h; exact ih _ _ _ _ h
  | getObj r k ih =>
    intro w w' v h
    simp only [Sem.run] at h
    split at h
    · cases h
    · exact ih _ _ _ _ h
    · cases h
  | setObj r o k ih =>
    intro w w' v h
    simp only [Sem.run] at h
    split at h
    · cases h
    · have := ih _ _ _ h; exact this
    · cases h
  | choose q k ih =>
    intro w w' v h
    simp only [Sem.run] at h
    split at h
    · exact ih _ _ _ _ h
    · exact Nat.le_trans (Nat.le_succ _) (ih _ _ _ _ h)
  | sys c k ih => intro w w' v h; exact Nat.le_trans (sys_drawn w c) (ih _ _ _ _ h)
  | program k ih => intro w w' v h; exact ih _ _ _ _ h
  | mark md k ih => intro w w' v h; exact ih _ _ _ h
  | halt h => intro w w' v h; cases h

section st
variable {P : Program} {w0 w w' : World} {own : List Seg} {H : Hp}

theorem St.h_lt (h : St w0 H own w) {b : Nat} {o : Obj} (hb : H b = some o) : b < w.heap.size :=
  (Array.getElem?_eq_some_iff.1 (h.imm b o hb)).1
theorem St.key_lt (h : St w0 H own w) {p : Nat × Obj} (hp : p ∈ own.flatten) : p.1 < w.heap.size :=
  (Array.getElem?_eq_some_iff.1 (h.own_at p hp)).1
theorem St.new_none (h : St w0 H own w) {b : Nat} (hb : w.heap.size ≤ b) : H b = none := by
  cases hc : H b with
  | none => rfl
  | some o => have := h.h_lt hc; omega

theorem split_at {α : Type} {l : List α} {i : Nat} {x : α} (hi : l[i]? = some x) : ∃ l1 l2, l = l1 ++ x :: l2 ∧ l1.length = i := by
  obtain ⟨hlt, rfl⟩ := List.getElem?_eq_some_iff.1 hi
  exact ⟨l.take i, l.drop (i + 1), by rw [List.getElem_cons_drop, List.take_append_drop], by rw [List.length_take]; omega⟩

theorem St.mem_at (_h : St w0 H own w) {i : Nat} {seg : Seg} (hi : own[i]? = some seg) {p : Nat × Obj} (hp : p ∈ seg) : p ∈ own.flatten :=
  List.mem_flatten.2 ⟨seg, List.mem_of_getElem? hi, hp⟩

theorem St.own_blk (h : St w0 H own w) {i j : Nat} {seg : Seg} (hi : own[i]? = some seg) {g : Nat} {o : Obj} (hj : seg[j]? = some (g, o)) : w.heap[g]? = some o :=
  h.own_at (g, o) (h.mem_at hi (List.mem_of_getElem? hj))

/-- One segment is exchanged for another: its old blocks and new ones. -/
theorem St.upd (h : St w0 H own w) {i : Nat} {seg seg' : Seg} (hi : own[i]? = some seg) (hos : w'.os = w.os) (htp : w'.tape = w.tape ∧ w.drawn ≤ w'.drawn) (hout : w'.output = w.output)
    (hold : ∀ b, b < w.heap.size → b ∉ seg.map (·.1) → w'.heap[b]? = w.heap[b]?) (hnew : ∀ p ∈ seg', w'.heap[p.1]? = some p.2) (hnd : (seg'.map (·.1)).Nodup)
    (hk : ∀ p ∈ seg', p.1 ∈ seg.map (·.1) ∨ w.heap.size ≤ p.1) : St w0 H (own.set i seg') w' := by
  obtain ⟨l1, l2, rfl, rfl⟩ := split_at hi
  have hset : (l1 ++ seg :: l2).set l1.length seg' = l1 ++ seg' :: l2 := by simp
  rw [hset]
  have hn := h.nodup
  simp only [List.flatten_append, List.flatten_cons, List.map_append, List.nodup_append, List.mem_append] at hn
  obtain ⟨n1, ⟨n2, n3, n4⟩, n5⟩ := hn
  have hm1 : ∀ p, p ∈ l1.flatten → p ∈ (l1 ++ seg :: l2).flatten := fun p hp => by simp [List.flatten_append]; left; simpa using hp
  have hm2 : ∀ p, p ∈ seg → p ∈ (l1 ++ seg :: l2).flatten := fun p hp => by simp only [List.flatten_append, List.flatten_cons, List.mem_append]; exact .inr (.inl hp)
  have hm3 : ∀ p, p ∈ l2.flatten → p ∈ (l1 ++ seg :: l2).flatten := fun p hp => by simp only [List.flatten_append, List.flatten_cons, List.mem_append]; exact .inr (.inr hp)
  have key : ∀ p : Nat × Obj, p ∈ l1.flatten ∨ p ∈ l2.flatten → p.1 < w.heap.size ∧ p.1 ∉ seg.map (·.1) := by
    intro p hp
    rcases hp with hp | hp
    · exact ⟨h.key_lt (hm1 p hp), fun hc => n5 p.1 (List.mem_map.2 ⟨p, hp, rfl⟩) p.1 (.inl hc) rfl⟩
    · exact ⟨h.key_lt (hm3 p hp), fun hc => n4 p.1 hc p.1 (List.mem_map.2 ⟨p, hp, rfl⟩) rfl⟩
  refine ⟨hos.trans h.os, ⟨htp.1.trans h.tape.1, Nat.le_trans h.tape.2 htp.2⟩, hout.trans h.output, fun b o hb => ?_, fun p hp => ?_, fun p hp => ?_, ?_⟩
  · rw [hold b (h.h_lt hb) (fun hc => ?_)]
    · exact h.imm b o hb
    · obtain ⟨p, hp, rfl⟩ := List.mem_map.1 hc
      rw [h.apart p (hm2 p hp)] at hb
      cases hb
  · simp only [List.flatten_append, List.flatten_cons, List.mem_append] at hp
    rcases hp with hp | hp | hp
    · obtain ⟨k1, k2⟩ := key p (.inl hp)
      rw [hold _ k1 k2]; exact h.own_at p (hm1 p hp)
    · exact hnew p hp
    · obtain ⟨k1, k2⟩ := key p (.inr hp)
      rw [hold _ k1 k2]; exact h.own_at p (hm3 p hp)
  · simp only [List.flatten_append, List.flatten_cons, List.mem_append] at hp
    rcases hp with hp | hp | hp
    · exact h.apart p (hm1 p hp)
    · rcases hk p hp with hc | hc
      · obtain ⟨q, hq, hqp⟩ := List.mem_map.1 hc
        rw [← hqp]; exact h.apart q (hm2 q hq)
      · exact h.new_none hc
    · exact h.apart p (hm3 p hp)
  · simp only [List.flatten_append, List.flatten_cons, List.map_append, List.nodup_append, List.mem_append]
    have hx : ∀ a ∈ seg'.map (·.1), ∀ q : Nat × Obj, q ∈ l1.flatten ∨ q ∈ l2.flatten → q.1 ≠ a := by
      intro a ha q hq he
      obtain ⟨p, hp, rfl⟩ := List.mem_map.1 ha
      obtain ⟨k1, k2⟩ := key q hq
      rcases hk p hp with hc | hc
      · exact k2 (he ▸ hc)
      · omega
    refine ⟨n1, ⟨hnd, n3, ?_⟩, ?_⟩
    · intro a ha b hb he
      obtain ⟨q, hq, rfl⟩ := List.mem_map.1 hb
      exact hx a ha q (.inr hq) he.symm
    · intro a ha b hb he
      obtain ⟨q, hq, rfl⟩ := List.mem_map.1 ha
      rcases hb with hb | hb
      · exact hx b hb q (.inl hq) he
      · exact n5 q.1 (List.mem_map.2 ⟨q, hq, rfl⟩) b (.inr hb) he

theorem St.nil_seg (h : St w0 H own w) : St w0 H ([] :: own) w := ⟨h.os, h.tape, h.output, h.imm, by simpa using h.own_at, by simpa using h.apart, by simpa using h.nodup⟩
theorem St.tail {s : Seg} (h : St w0 H (s :: own) w) : St w0 H own w :=
  ⟨h.os, h.tape, h.output, h.imm, fun p hp => h.own_at p (by simp only [List.flatten_cons, List.mem_append]; exact .inr hp), fun p hp => h.apart p (by simp only [List.flatten_cons, List.mem_append]; exact .inr hp), by
    have := h.nodup
    simp only [List.flatten_cons, List.map_append, List.nodup_append] at this
    exact this.2.1⟩
theorem St.drop (k : Nat) (h : St w0 H own w) : St w0 H (own.drop k) w := by
  induction k generalizing own with
  | zero => simpa using h
  | succ k ih =>
    cases own with
    | nil => simpa using h
    | cons s r => simpa using ih h.tail

theorem St.new (h : St w0 H own w) (o : Obj) : St w0 H ([(w.heap.size, o)] :: own) (w.alloc o) := by
  have := h.nil_seg.upd (i := 0) (seg := []) (seg' := [(w.heap.size, o)]) (w' := w.alloc o) rfl rfl ⟨rfl, Nat.le_refl _⟩ rfl (fun b hb _ => Below.heap_alloc w o b hb)
    (fun p hp => by simp only [List.mem_singleton] at hp; subst hp; exact heap_alloc_new w o) (by simp) (fun p hp => by simp only [List.mem_singleton] at hp; subst hp; exact .inr (Nat.le_refl _))
  simpa using this
theorem St.drew (h : St w0 H own w) : St w0 H own w.drew := ⟨h.os, ⟨h.tape.1, Nat.le_succ_of_le h.tape.2⟩, h.output, h.imm, h.own_at, h.apart, h.nodup⟩

/-- Segments in another order. -/
theorem St.perm {own' : List Seg} (h : St w0 H own w) (hp : own'.Perm own) : St w0 H own' w := by
  have hf := hp.flatten
  exact ⟨h.os, h.tape, h.output, h.imm, fun p hq => h.own_at p (hf.mem_iff.1 hq), fun p hq => h.apart p (hf.mem_iff.1 hq), ((hf.map _).nodup_iff).2 h.nodup⟩

def bring {α : Type} (i : Nat) (l : List α) : List α := match l[i]? with | some x => x :: l.eraseIdx i | none => l
theorem bring_perm {α : Type} (i : Nat) (l : List α) : (bring i l).Perm l := by
  unfold bring
  split
  · rename_i x hx
    obtain ⟨l1, l2, rfl, rfl⟩ := split_at hx
    have : (l1 ++ x :: l2).eraseIdx l1.length = l1 ++ l2 := by simp [List.eraseIdx_append_of_length_le]
    rw [this]
    exact List.perm_middle.symm
  · exact .refl _

def addH (H : Hp) (seg : Seg) : Hp := fun b => match seg.find? (fun p => p.1 == b) with | some p => some p.2 | none => H b

/-- The first segment is kept as it is from now on. -/
theorem St.freeze {seg : Seg} (h : St w0 H (seg :: own) w) : St w0 (addH H seg) own w ∧ Le H (addH H seg) ∧ ∀ p ∈ seg, addH H seg p.1 = some p.2 := by
  have hn := h.nodup
  simp only [List.flatten_cons, List.map_append, List.nodup_append] at hn
  obtain ⟨n1, n2, n3⟩ := hn
  have hin : ∀ p ∈ seg, p ∈ (seg :: own).flatten := fun p hp => by simp only [List.flatten_cons, List.mem_append]; exact .inl hp
  have hin2 : ∀ p ∈ own.flatten, p ∈ (seg :: own).flatten := fun p hp => by simp only [List.flatten_cons, List.mem_append]; exact .inr hp
  have hfind : ∀ p ∈ seg, seg.find? (fun q => q.1 == p.1) = some p := by
    intro p hp
    clear h n2 n3 hin hin2
    induction seg with
    | nil => cases hp
    | cons q r ih =>
      simp only [List.map_cons, List.nodup_cons] at n1
      by_cases he : q.1 = p.1
      · rcases List.mem_cons.1 hp with rfl | hp
        · simp
        · exact absurd (List.mem_map.2 ⟨p, hp, he.symm⟩) n1.1
      · rcases List.mem_cons.1 hp with rfl | hp
        · exact absurd rfl he
        · rw [List.find?_cons_of_neg (by simpa using he)]
          exact ih n1.2 hp
  have hadd : ∀ p ∈ seg, addH H seg p.1 = some p.2 := fun p hp => by unfold addH; rw [hfind p hp]
  have hnot : ∀ b, b ∉ seg.map (·.1) → addH H seg b = H b := by
    intro b hb
    unfold addH
    rw [List.find?_eq_none.2]
    intro p hp he
    exact hb (List.mem_map.2 ⟨p, hp, by simpa using he⟩)
  refine ⟨⟨h.os, h.tape, h.output, fun b o hb => ?_, fun p hp => h.own_at p (hin2 p hp), fun p hp => ?_, n2⟩, fun b o hb => ?_, hadd⟩
  · by_cases hc : b ∈ seg.map (·.1)
    · obtain ⟨p, hp, rfl⟩ := List.mem_map.1 hc
      rw [hadd p hp] at hb
      injection hb with hb
      subst hb
      exact h.own_at p (hin p hp)
    · rw [hnot b hc] at hb; exact h.imm b o hb
  · rw [hnot p.1 (fun hc => n3 p.1 hc p.1 (List.mem_map.2 ⟨p, hp, rfl⟩) rfl)]
    exact h.apart p (hin2 p hp)
  · rw [hnot b (fun hc => ?_)]
    · exact hb
    · obtain ⟨p, hp, rfl⟩ := List.mem_map.1 hc
      rw [h.apart p (hin p hp)] at hb
      cases hb
end st

/-! cells -/
def lget : List Value → Nat → Option Value
  | [], _ => none
  | v :: _, 0 => some v
  | _ :: r, n + 1 => lget r n
theorem lget_eq : ∀ (l : List Value) (n : Nat), lget l n = l[n]?
  | [], _ => by simp [lget]
  | _ :: _, 0 => rfl
  | _ :: r, n + 1 => by simp [lget, lget_eq r n]
theorem lget_arr (c : Array Value) (n : Nat) : lget c.toList n = c[n]? := by rw [lget_eq]; simp
def cel (H : Hp) (b o : Nat) : Option Value := match H b with | some (.cells c _ _) => c[o]? | _ => none
def cAt (c : Array Value) : Nat → List Value → Prop
  | _, [] => True
  | o, v :: r => lget c.toList o = some v ∧ cAt c (o + 1) r
def hAt (H : Hp) (b : Nat) : Nat → List Value → Prop
  | _, [] => True
  | o, v :: r => cel H b o = some v ∧ hAt H b (o + 1) r
def mkV (agg : Bool) (vs : List Value) : Option Value := if agg then some (.agg vs.toArray) else match vs with | [v] => some v | _ => none

theorem cAt.get {c : Array Value} : ∀ {vs : List Value} {o : Nat}, cAt c o vs → ∀ j v, vs[j]? = some v → c[o + j]? = some v
  | [], _, _, j, v, hv => by simp at hv
  | u :: r, o, h, 0, v, hv => by simp at hv; subst hv; rw [← lget_arr]; exact h.1
  | u :: r, o, h, j + 1, v, hv => by
    have := cAt.get h.2 j v (by simpa using hv)
    rw [← this]; congr 1; omega
theorem hAt.get {H : Hp} {b : Nat} : ∀ {vs : List Value} {o : Nat}, hAt H b o vs → ∀ j v, vs[j]? = some v → cel H b (o + j) = some v
  | [], _, _, j, v, hv => by simp at hv
  | u :: r, o, h, 0, v, hv => by simp at hv; subst hv; exact h.1
  | u :: r, o, h, j + 1, v, hv => by
    have := hAt.get h.2 j v (by simpa using hv)
    rw [← this]; congr 1; omega

theorem add_off (b o j : Nat) : (⟨b, o, none⟩ : Addr).add j = ⟨b, o + j, none⟩ := by unfold Addr.add; split <;> simp_all

theorem cell_of_cells {w : World} {g : Nat} {c : Array Value} {e : TypeId} {fz : Nat × Nat} (h : w.heap[g]? = some (.cells c e fz)) (o : Nat) : w.cell? ⟨g, o, none⟩ = c[o]? := by
  simp [World.cell?, h]
theorem St.cel {w0 w : World} {H : Hp} {own : List Seg} (h : St w0 H own w) {b o : Nat} {v : Value} (hc : cel H b o = some v) : w.cell? ⟨b, o, none⟩ = some v := by
  unfold K.cel at hc
  split at hc
  · rename_i c e fz hb
    rw [cell_of_cells (h.imm _ _ hb)]; exact hc
  · cases hc

theorem run_loadVar {P : Program} {w : World} {t : TypeId} {agg : Bool} {n : Nat} {b o : Nat} {vs : List Value} {v : Value} (ht : Ty P t agg n) (hn : vs.length = n) (hv : mkV agg vs = some v)
    (hc : ∀ j u, vs[j]? = some u → w.cell? ⟨b, o + j, none⟩ = some u) : (loadVar t ⟨b, o, none⟩).run P w = .ok v w := by
  unfold loadVar
  simp only [Sem.run_bind, ht.isAgg, Result.andThen_ok]
  cases agg with
  | true =>
    simp only [mkV, if_true, Option.some.injEq] at hv
    subst hv; subst hn
    have := run_loadCells_list (P := P) w ⟨b, o, none⟩ vs (fun j u hu => by rw [add_off]; exact hc j u hu)
    simp [ht.size, this]
  | false =>
    match vs, hv with
    | [u], hv =>
      simp only [mkV, Bool.false_eq_true, if_false, Option.some.injEq] at hv
      subst hv
      have := hc 0 u rfl
      simp only [Nat.add_zero] at this
      simp [run_load, this]

section mem
variable {P : Program} {w0 : World} {N : Nat} {Q : Exit → Act → World → Prop} {env : Env} {own : List Seg} {H : Hp} {ops : Array Oper} {rest : List Oper}
variable {d : Option Tmp} {ty : TypeId} {pos : String} {af : Array Edge}

/-- A load out of a block of our own: one cell; a struct or array. -/
theorem TL.load_own (i j : Nat) {t : TypeId} {x : Operand} {g o : Nat} {seg : Seg} {c : Array Value} {e : TypeId} {fz : Nat × Nat} {v : Value}
    (hx : ev env x = some (.pointer (some ⟨g, o, none⟩))) (hi : own[i]? = some seg) (hj : seg[j]? = some (g, .cells c e fz)) [ht : Ty P t false 1] (hc : lget c.toList o = some v)
    (hd : okD N d = true) (h : TL P w0 N Q ops rest (putE d v env) own H) :
    TL P w0 N Q ops ({ dst := d, op := .load t x, type := ty, pos := pos, after := af, guard := none } :: rest) env own H :=
  TL.val rfl hd (fun a w ha hw => ⟨w, by
    have hb := hw.own_blk hi hj
    have := run_loadVar (P := P) (w := w) (b := g) (o := o) (vs := [v]) ht rfl rfl (fun k u hu => by
      rw [cell_of_cells hb]
      exact (cAt.get (o := o) (vs := [v]) ⟨hc, trivial⟩ k u hu))
    simp [execOp, Instr.loadAt, Instr.sureAddr, ha.ev hx, this], hw⟩) h
theorem TL.load_ownA (i j : Nat) {t : TypeId} {x : Operand} {g o : Nat} {seg : Seg} {c : Array Value} {e : TypeId} {fz : Nat × Nat} {n : Nat} (vs : List Value)
    (hx : ev env x = some (.pointer (some ⟨g, o, none⟩))) (hi : own[i]? = some seg) (hj : seg[j]? = some (g, .cells c e fz)) [ht : Ty P t true n] (hc : cAt c o vs) (hn : vs.length = n)
    (hd : okD N d = true) (h : TL P w0 N Q ops rest (putE d (.agg vs.toArray) env) own H) :
    TL P w0 N Q ops ({ dst := d, op := .load t x, type := ty, pos := pos, after := af, guard := none } :: rest) env own H :=
  TL.val rfl hd (fun a w ha hw => ⟨w, by
    have hb := hw.own_blk hi hj
    have := run_loadVar (P := P) (w := w) (b := g) (o := o) ht hn rfl (fun k u hu => by rw [cell_of_cells hb]; exact hc.get k u hu)
    simp [execOp, Instr.loadAt, Instr.sureAddr, ha.ev hx, this], hw⟩) h

/-- A load out of a block that stays. -/
theorem TL.load_imm {t : TypeId} {x : Operand} {b o : Nat} {v : Value}
    (hx : ev env x = some (.pointer (some ⟨b, o, none⟩))) [ht : Ty P t false 1] (hc : cel H b o = some v)
    (hd : okD N d = true) (h : TL P w0 N Q ops rest (putE d v env) own H) :
    TL P w0 N Q ops ({ dst := d, op := .load t x, type := ty, pos := pos, after := af, guard := none } :: rest) env own H :=
  TL.val rfl hd (fun a w ha hw => ⟨w, by
    have := run_loadVar (P := P) (w := w) (b := b) (o := o) (vs := [v]) ht rfl rfl (fun k u hu => hw.cel (hAt.get (o := o) (vs := [v]) ⟨hc, trivial⟩ k u hu))
    simp [execOp, Instr.loadAt, Instr.sureAddr, ha.ev hx, this], hw⟩) h
theorem TL.load_immA {t : TypeId} {x : Operand} {b o : Nat} {n : Nat} {vs : List Value}
    (hx : ev env x = some (.pointer (some ⟨b, o, none⟩))) [ht : Ty P t true n] (hc : hAt H b o vs) (hn : vs.length = n)
    (hd : okD N d = true) (h : TL P w0 N Q ops rest (putE d (.agg vs.toArray) env) own H) :
    TL P w0 N Q ops ({ dst := d, op := .load t x, type := ty, pos := pos, after := af, guard := none } :: rest) env own H :=
  TL.val rfl hd (fun a w ha hw => ⟨w, by
    have := run_loadVar (P := P) (w := w) (b := b) (o := o) ht hn rfl (fun k u hu => hw.cel (hc.get k u hu))
    simp [execOp, Instr.loadAt, Instr.sureAddr, ha.ev hx, this], hw⟩) h

/-- A new block for a value. -/
theorem TL.box {t : TypeId} {x : Operand} {v : Value} {c : Array Value} (hx : ev env x = some v) (hc : v.cells = c) (hd : okD N d = true)
    (h : ∀ g, TL P w0 N Q ops rest (putE d (.pointer (some ⟨g, 0, none⟩)) env) ([(g, .cells c t (0, 0))] :: own) H) :
    TL P w0 N Q ops ({ dst := d, op := .box t x, type := ty, pos := pos, after := af, guard := none } :: rest) env own H :=
  TL.valE (φ := fun v own' H' => ∃ g, v = .pointer (some ⟨g, 0, none⟩) ∧ own' = [(g, .cells c t (0, 0))] :: own ∧ H' = H) rfl hd
    (fun a w ha hw => ⟨_, _, _, w.alloc (.cells c t), by simp [execOp, Instr.box, newVar, newRow, ha.ev hx, hc], ⟨w.heap.size, rfl, rfl, rfl⟩, hw.new _⟩)
    (by rintro v own' H' ⟨g, rfl, rfl, rfl⟩; exact h g)

theorem TL.alloc {t : TypeId} {i : TypeInfo} {z : Value} {c : Array Value} [hi : Inf P t i] (hz : i.zero = some z) (hc : z.cells = c) (hd : okD N d = true)
    (h : ∀ g, TL P w0 N Q ops rest (putE d (.pointer (some ⟨g, 0, none⟩)) env) ([(g, .cells c t (0, 0))] :: own) H) :
    TL P w0 N Q ops ({ dst := d, op := .alloc t, type := ty, pos := pos, after := af, guard := none } :: rest) env own H :=
  TL.valE (φ := fun v own' H' => ∃ g, v = .pointer (some ⟨g, 0, none⟩) ∧ own' = [(g, .cells c t (0, 0))] :: own ∧ H' = H) rfl hd
    (fun a w ha hw => ⟨_, _, _, w.alloc (.cells c t), by simp [execOp, Instr.alloc, zeroValue, typeInfo, hi.eq, hz, newVar, newRow, hc], ⟨w.heap.size, rfl, rfl, rfl⟩, hw.new _⟩)
    (by rintro v own' H' ⟨g, rfl, rfl, rfl⟩; exact h g)

/-! addresses -/
theorem TL.fieldAddr {s : TypeId} {x : Operand} {f : Nat} {b o off : Nat} (hx : ev env x = some (.pointer (some ⟨b, o, none⟩))) [hf : Fld P s f off]
    (hd : okD N d = true) (h : TL P w0 N Q ops rest (putE d (.pointer (some ⟨b, o + off, none⟩)) env) own H) :
    TL P w0 N Q ops ({ dst := d, op := .fieldAddr s x f, type := ty, pos := pos, after := af, guard := none } :: rest) env own H :=
  TL.val0 hd (fun a ha w => by
    obtain ⟨fs, fl, agg, n, h1, h2, rfl, h4, h5⟩ := hf.ex
    simp [execOp, Instr.fieldAt, ha.ev hx, run_underlying h1, h2, Instr.sureAddr, fieldPlace, h4.size, h5, add_off]) h

theorem TL.indexAddr {t e : TypeId} {x i : Operand} {b o n c : Nat} {k : IntKind} {iv : Int} {sz by_ : Nat} {z : Value} (j : Nat) (hx : ev env x = some (.slice (some ⟨b, o, none⟩) n c)) (hi : ev env i = some (.int k iv))
    [hU : Sl P t e sz by_ z] (hj : iv = (j : Int)) (hlt : j < n) (hd : okD N d = true) (h : TL P w0 N Q ops rest (putE d (.pointer (some ⟨b, o + j * sz, none⟩)) env) own H) :
    TL P w0 N Q ops ({ dst := d, op := .indexAddr t x i, type := ty, pos := pos, after := af, guard := none } :: rest) env own H :=
  TL.val0 hd (fun a ha w => by
    subst hj
    simp [execOp, Instr.indexAt, ha.ev hx, ha.ev hi, asIntOf, run_underlying hU.und, hU.sizeOf, add_off, hlt]) h
/-- The address of an array's element. -/
theorem TL.indexArr {t e : TypeId} {x i : Operand} {b o n : Nat} {k : IntKind} {iv : Int} {agg : Bool} {sz : Nat} (j : Nat) (hx : ev env x = some (.pointer (some ⟨b, o, none⟩))) (hi : ev env i = some (.int k iv))
    [hu : Und P t (.array n e)] [ht : Ty P e agg sz] (hj : iv = (j : Int)) (hlt : j < n) (hd : okD N d = true) (h : TL P w0 N Q ops rest (putE d (.pointer (some ⟨b, o + j * sz, none⟩)) env) own H) :
    TL P w0 N Q ops ({ dst := d, op := .indexAddr t x i, type := ty, pos := pos, after := af, guard := none } :: rest) env own H :=
  TL.val0 hd (fun a ha w => by
    subst hj
    simp [execOp, Instr.indexAt, Instr.sureAddr, ha.ev hx, ha.ev hi, asIntOf, run_underlying hu.eq, ht.size, add_off, hlt]) h
end mem
end Go.Proofs.Ytapmmfabdmhdnaa.K
