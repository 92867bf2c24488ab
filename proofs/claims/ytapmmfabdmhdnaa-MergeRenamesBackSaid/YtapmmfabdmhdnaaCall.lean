/-
  Calls, the entry of a function and its return, under the judgement of Core; a few operations more.
  Everything here is a lemma over an arbitrary program P; no condition beyond those typed.
-/
import Derived.Test.YtapmmfabdmhdnaaDraw
set_option linter.unusedVariables false
set_option linter.unusedSimpArgs false
namespace Go.Proofs.Ytapmmfabdmhdnaa.K
open Go Go.RowKit

/-- What a call hands back, and the world behind it. -/
def Ret (w0 : World) (φ : Value → List Seg → Hp → Prop) : Ending → World → Prop := fun e w =>
  ∃ v own H, e = .returned v ∧ φ v own H ∧ St w0 H own w

/-- A function's contract at a state. -/
def Fn (P : Program) (f : FuncId) (args : List Value) (w0 : World) (H : Hp) (own : List Seg) (φ : Value → List Seg → Hp → Prop) : Prop :=
  ∀ w, St w0 H own w → Calls P f args.toArray w (Ret w0 φ)

theorem Fn.mono {P : Program} {f : FuncId} {args : List Value} {w0 : World} {H : Hp} {own : List Seg} {φ ψ : Value → List Seg → Hp → Prop} (h : Fn P f args w0 H own φ) (hi : ∀ v own H, φ v own H → ψ v own H) : Fn P f args w0 H own ψ :=
  fun w hw => (h w hw).mono fun _ _ ⟨v, own, H, h1, h2, h3⟩ => ⟨v, own, H, h1, hi _ _ _ h2, h3⟩
theorem Fn.perm {P : Program} {f : FuncId} {args : List Value} {w0 : World} {H : Hp} {own own' : List Seg} {φ : Value → List Seg → Hp → Prop} (h : Fn P f args w0 H own φ) (hp : own.Perm own') : Fn P f args w0 H own' φ :=
  fun w hw => h w (hw.perm hp)

/-- A function with a body of its own. -/
class Callable (P : Program) (f : FuncId) : Prop where
  run : ∀ args w, (callFunc f args).run P w = .ok (.enter f args) w

theorem Callable.of {P : Program} {f : FuncId} {fn : Func} {c : Code} (hf : P.funcs[f]? = some fn) (hn : (fn.name == "runtime.NumGoroutine") = false) (hb : fn.body = some c) : Callable P f :=
  ⟨fun args w => by
    have hn' : ¬ fn.name = "runtime.NumGoroutine" := by simpa using hn
    simp [callFunc, hf, hn', hb]⟩

def envFrom : Nat → List Value → Env
  | _, [] => []
  | i, v :: r => (i, v) :: envFrom (i + 1) r

theorem lk_envFrom (l : List Value) (k i : Nat) (u : Value) (h : lk (envFrom k l) i = some u) : k ≤ i ∧ l[i - k]? = some u := by
  induction l generalizing k with
  | nil => simp [envFrom, lk] at h
  | cons v r ih =>
    simp only [envFrom, lk] at h
    cases hb : Nat.beq k i with
    | true =>
      have e : k = i := Nat.eq_of_beq_eq_true hb
      subst e
      simp only [hb, cond_true, Option.some.injEq] at h
      subst h
      simp
    | false =>
      have e : k ≠ i := Nat.ne_of_beq_eq_false hb
      simp only [hb, cond_false] at h
      obtain ⟨h1, h2⟩ := ih (k + 1) h
      refine ⟨by omega, ?_⟩
      have : i - k = (i - (k + 1)) + 1 := by omega
      rw [this, List.getElem?_cons_succ]
      exact h2

/-- The entry. -/
theorem Fn.enter {P : Program} {f : FuncId} {fn : Func} {c : Code} {args : List Value} {w0 : World} {H : Hp} {own : List Seg} {φ : Value → List Seg → Hp → Prop} {N : Nat} (hf : P.funcs[f]? = some fn) (hb : fn.body = some c) (hN : fn.ntmps = N)
    (hl : Nat.ble args.length N = true) (h : TC P w0 N (bodyPost P fn (Ret w0 φ)) c (envFrom 0 args) own H) : Fn P f args w0 H own φ := fun w hw => by
  have hl' : args.length ≤ N := Nat.le_of_ble_eq_true hl
  refine calls_of_wp hf hb (h _ w ⟨rfl, ?_, fun i v hv => ?_⟩ hw)
  · simp [hN]; omega
  · obtain ⟨_, h2⟩ := lk_envFrom args 0 i v hv
    simp only [Nat.sub_zero] at h2
    have hlt : i < args.length := (List.getElem?_eq_some_iff.1 h2).1
    rw [Array.getElem?_append_left (by simpa using hlt)]
    simpa using h2

section
variable {P : Program} {w0 : World} {N : Nat} {Q : Exit → Act → World → Prop} {env : Env} {own : List Seg} {H : Hp} {ops : Array Oper} {rest : List Oper} {fn : Func} {φ : Value → List Seg → Hp → Prop}
variable {d : Option Tmp} {ty : TypeId} {pos : String} {af : Array Edge}

/-- The return: one result; none; two. The first k segments are let go. -/
theorem TQ.ret1 (k : Nat) {t : Tmp} {v : Value} (hr : fn.results = #[.tmp t]) (hv : lk env t = some v) (h : φ v (own.drop k) H) : TQ w0 N (bodyPost P fn (Ret w0 φ)) .ret env own H :=
  fun a w ha hw => bodyPost_ret (results_tmp hr a.tmps P w) ha.defers ⟨v, own.drop k, H, by
    have := ha.slots t v hv
    simp [Array.getD_eq_getD_getElem?, this], h, hw.drop k⟩
theorem TQ.ret0 (k : Nat) (hr : fn.results = #[]) (h : φ (.tuple #[]) (own.drop k) H) : TQ w0 N (bodyPost P fn (Ret w0 φ)) .ret env own H :=
  fun a w ha hw => bodyPost_ret (results_none hr a.tmps P w) ha.defers ⟨_, own.drop k, H, rfl, h, hw.drop k⟩
theorem TQ.end0 (k : Nat) (hr : fn.results = #[]) (h : φ (.tuple #[]) (own.drop k) H) : TQ w0 N (bodyPost P fn (Ret w0 φ)) .normal env own H :=
  fun a w ha hw => bodyPost_end (results_none hr a.tmps P w) ha.defers ⟨_, own.drop k, H, rfl, h, hw.drop k⟩
theorem TQ.ret2 (k : Nat) {t u : Tmp} {v x : Value} (hr : fn.results = #[.tmp t, .tmp u]) (hv : lk env t = some v) (hx : lk env u = some x) (h : φ (.tuple #[v, x]) (own.drop k) H) : TQ w0 N (bodyPost P fn (Ret w0 φ)) .ret env own H :=
  fun a w ha hw => bodyPost_ret (results_tmp2 hr a.tmps P w) ha.defers ⟨.tuple #[v, x], own.drop k, H, by
    have h1 := ha.slots t v hv
    have h2 := ha.slots u x hx
    simp [Array.getD_eq_getD_getElem?, h1, h2], h, hw.drop k⟩

/-- A result that lies in a block of our own. -/
theorem TQ.retC (i j k : Nat) {t : Tmp} {ty : TypeId} {g o : Nat} {seg : Seg} {c : Array Value} {e : TypeId} {fz : Nat × Nat} {agg : Bool} {n : Nat} {v : Value} (vs : List Value) (hr : fn.results = #[.cell t ty])
    (hv : lk env t = some (.pointer (some ⟨g, o, none⟩))) (hi : own[i]? = some seg) (hj : seg[j]? = some (g, .cells c e fz)) [ht : Ty P ty agg n] (hc : cAt c o vs) (hn : vs.length = n) (hm : mkV agg vs = some v)
    (h : φ v (own.drop k) H) : TQ w0 N (bodyPost P fn (Ret w0 φ)) .ret env own H := fun a w ha hw => by
  have hb := hw.own_blk hi hj
  have hl := run_loadVar (P := P) (w := w) (b := g) (o := o) ht hn hm (fun k u hu => by rw [cell_of_cells hb]; exact hc.get k u hu)
  refine bodyPost_ret (v := v) ?_ ha.defers ⟨v, own.drop k, H, rfl, h, hw.drop k⟩
  have h1 := ha.slots t _ hv
  simp [results, hr, Array.getD_eq_getD_getElem?, h1, asAddr, hl]

/-- The same, and a second result in a slot. -/
theorem TQ.retC1 (i j k : Nat) {t u : Tmp} {ty : TypeId} {g o : Nat} {seg : Seg} {c : Array Value} {e : TypeId} {fz : Nat × Nat} {agg : Bool} {n : Nat} {v x : Value} (vs : List Value) (hr : fn.results = #[.cell t ty, .tmp u])
    (hv : lk env t = some (.pointer (some ⟨g, o, none⟩))) (hx : lk env u = some x) (hi : own[i]? = some seg) (hj : seg[j]? = some (g, .cells c e fz)) [ht : Ty P ty agg n] (hc : cAt c o vs) (hn : vs.length = n) (hm : mkV agg vs = some v)
    (h : φ (.tuple #[v, x]) (own.drop k) H) : TQ w0 N (bodyPost P fn (Ret w0 φ)) .ret env own H := fun a w ha hw => by
  have hb := hw.own_blk hi hj
  have hl := run_loadVar (P := P) (w := w) (b := g) (o := o) ht hn hm (fun k u hu => by rw [cell_of_cells hb]; exact hc.get k u hu)
  refine bodyPost_ret (v := .tuple #[v, x]) ?_ ha.defers ⟨.tuple #[v, x], own.drop k, H, rfl, h, hw.drop k⟩
  have h1 := ha.slots t _ hv
  have h2 := ha.slots u _ hx
  simp [results, hr, Array.getD_eq_getD_getElem?, h1, h2, asAddr, hl]

def Evs (env : Env) : List Operand → List Value → Prop
  | [], [] => True
  | x :: xs, v :: vs => ev env x = some v ∧ Evs env xs vs
  | _, _ => False

theorem Evs.map {a : Act} (ha : At N env a) : ∀ {xs : List Operand} {vs : List Value}, Evs env xs vs → xs.map a.eval = vs
  | [], [], _ => rfl
  | x :: xs, v :: vs, h => by simp [ha.ev h.1, Evs.map ha h.2]
  | [], _ :: _, h => h.elim
  | _ :: _, [], h => h.elim

/-- A call of a function. -/
theorem TL.call {f : FuncId} {xs : List Operand} {vs : List Value} {tys : Array TypeId} {φ : Value → List Seg → Hp → Prop} [hc : Callable P f] (h : Fn P f vs w0 H own φ) (hx : Evs env xs vs) (hd : okD N d = true)
    (hn : ∀ v own' H', φ v own' H' → TL P w0 N Q ops rest (putE d v env) own' H') :
    TL P w0 N Q ops ({ dst := d, op := .call { callee := .value (.func f), args := xs.toArray, argTypes := tys }, type := ty, pos := pos, after := af, guard := none } :: rest) env own H := fun a w ha hw => by
  refine wpList_plain rfl fun K hK => ?_
  have hm := Evs.map ha hx
  have hrun : (execOp a.eval { dst := d, op := .call { callee := .value (.func f), args := xs.toArray, argTypes := tys }, type := ty, pos := pos, after := af, guard := none }).run P w = .ok (.enter f vs.toArray) w := by
    simp [execOp, resolve, Deferred.ofValue, invoke, Act.eval, hm, hc.run]
  unfold Oper.wp
  rw [hrun]
  refine (h w hw).mono ?_
  rintro e w' ⟨v, own', H', rfl, hp, hw'⟩
  exact hK _ _ (hn v own' H' hp _ _ (ha.put hd v) hw')

/-- A call of a closure. -/
theorem TL.callV {f : FuncId} {x : Operand} {first captured : List Value} {xs : List Operand} {vs as_ : List Value} {tys : Array TypeId} {φ : Value → List Seg → Hp → Prop} [hc : Callable P f] (hf : ev env x = some (.func (.func f) first.toArray captured.toArray))
    (h : Fn P f as_ w0 H own φ) (hx : Evs env xs vs) (ha_ : first ++ vs ++ captured = as_) (hd : okD N d = true)
    (hn : ∀ v own' H', φ v own' H' → TL P w0 N Q ops rest (putE d v env) own' H') :
    TL P w0 N Q ops ({ dst := d, op := .call { callee := .value x, args := xs.toArray, argTypes := tys }, type := ty, pos := pos, after := af, guard := none } :: rest) env own H := fun a w ha hw => by
  refine wpList_plain rfl fun K hK => ?_
  have hm := Evs.map ha hx
  have hrun : (execOp a.eval { dst := d, op := .call { callee := .value x, args := xs.toArray, argTypes := tys }, type := ty, pos := pos, after := af, guard := none }).run P w = .ok (.enter f as_.toArray) w := by
    subst ha_
    simp [execOp, resolve, Deferred.ofValue, invoke, ha.ev hf, hm, hc.run]
  unfold Oper.wp
  rw [hrun]
  refine (h w hw).mono ?_
  rintro e w' ⟨v, own', H', rfl, hp, hw'⟩
  exact hK _ _ (hn v own' H' hp _ _ (ha.put hd v) hw')

theorem TL.makeFunc {f : FuncId} {xs ys : List Operand} {vs us : List Value} (hx : Evs env xs vs) (hy : Evs env ys us) (hd : okD N d = true) (h : TL P w0 N Q ops rest (putE d (.func (.func f) vs.toArray us.toArray) env) own H) :
    TL P w0 N Q ops ({ dst := d, op := .makeFunc (.func f) xs.toArray ys.toArray, type := ty, pos := pos, after := af, guard := none } :: rest) env own H :=
  TL.val0 hd (fun a ha w => by simp [execOp, Instr.makeFunc, Evs.map ha hx, Evs.map ha hy]) h

theorem TL.nilCheck {x : Operand} {p : Addr} (hx : ev env x = some (.pointer (some p))) (hd : okD N d = true) (h : TL P w0 N Q ops rest (putE d (.pointer (some p)) env) own H) :
    TL P w0 N Q ops ({ dst := d, op := .nilCheck x, type := ty, pos := pos, after := af, guard := none } :: rest) env own H :=
  TL.val0 hd (fun a ha w => by simp [execOp, ha.ev hx]) h

theorem TL.max2 {x y : Operand} {tys : Array TypeId} {k : IntKind} {m n : Int} (hx : ev env x = some (.int k m)) (hy : ev env y = some (.int k n)) (hd : okD N d = true) (h : TL P w0 N Q ops rest (putE d (.int k (max m n)) env) own H) :
    TL P w0 N Q ops ({ dst := d, op := .call { callee := .builtin .max, args := #[x, y], argTypes := tys }, type := ty, pos := pos, after := af, guard := none } :: rest) env own H :=
  TL.val0 hd (fun a ha w => by
    have e : (if n > m then n else m) = max m n := by omega
    simp [execOp, resolve, invoke, builtin, Builtin.max_, Builtin.max2, ha.ev hx, ha.ev hy]
    omega) h
theorem TL.min2 {x y : Operand} {tys : Array TypeId} {k : IntKind} {m n : Int} (hx : ev env x = some (.int k m)) (hy : ev env y = some (.int k n)) (hd : okD N d = true) (h : TL P w0 N Q ops rest (putE d (.int k (min m n)) env) own H) :
    TL P w0 N Q ops ({ dst := d, op := .call { callee := .builtin .min, args := #[x, y], argTypes := tys }, type := ty, pos := pos, after := af, guard := none } :: rest) env own H :=
  TL.val0 hd (fun a ha w => by
    simp [execOp, resolve, invoke, builtin, Builtin.min_, Builtin.min2, ha.ev hx, ha.ev hy]
    omega) h

/-- int to another kind; bytes of our own to a string. -/
theorem TL.convI {s t : TypeId} {ds : TypeDesc} {x : Operand} {k k' : IntKind} {n : Int} (hx : ev env x = some (.int k n)) [hs : Und P s ds] [ht : Und P t (.int k')] (hd : okD N d = true) (h : TL P w0 N Q ops rest (putE d (.int k' (k'.wrap n)) env) own H) :
    TL P w0 N Q ops ({ dst := d, op := .convert s t x, type := ty, pos := pos, after := af, guard := none } :: rest) env own H :=
  TL.val0 hd (fun a ha w => by simp [execOp, convert, run_underlying hs.eq, run_underlying ht.eq, ha.ev hx, Conv.intToInt]) h

/-- Some of the first n segments, in an order that is told; the others of them let go. -/
def sel (n : Nat) (is : List Nat) (own : List Seg) : List Seg := is.map (fun i => own.getD i []) ++ own.drop n
theorem take_flat : ∀ (own : List Seg) (n : Nat), (List.range n).flatMap (fun i => own.getD i []) = (own.take n).flatten
  | own, 0 => by simp
  | [], n + 1 => by simp
  | s :: r, n + 1 => by
    rw [List.range_succ_eq_map, List.flatMap_cons, List.flatMap_map, List.take_succ_cons, List.flatten_cons, ← take_flat r n]
    simp
theorem St.sel {w0 w : World} {H : Hp} {own : List Seg} (h : St w0 H own w) (n : Nat) (is : List Nat) (hB : (nodupB is && is.all fun i => Nat.blt i n) = true) : St w0 H (sel n is own) w := by
  simp only [Bool.and_eq_true, List.all_eq_true, Nat.blt_eq] at hB
  have h1 := flat_out (f := fun i => own.getD i []) (List.nodup_range (n := n)) (nodup_of hB.1) (fun j hj => List.mem_range.2 (hB.2 j hj))
  rw [take_flat] at h1
  have e : own.flatten = (own.take n).flatten ++ (own.drop n).flatten := by rw [← List.flatten_append, List.take_append_drop]
  have h2 : ((((List.range n).flatMap fun k => if k ∈ is then [] else own.getD k []) :: K.sel n is own).flatten).Perm own.flatten := by
    rw [e]
    refine List.Perm.symm ((h1.append_right _).trans ?_)
    simp only [List.flatten_cons, K.sel, List.flatten_append, List.append_assoc, List.flatMap_def]
    rw [← List.append_assoc, ← List.append_assoc]
    exact List.Perm.append_right _ List.perm_append_comm
  have hf := h2
  have h3 : St w0 H (((List.range n).flatMap fun k => if k ∈ is then [] else own.getD k []) :: K.sel n is own) w :=
    ⟨h.os, h.tape, h.output, h.imm, fun p hq => h.own_at p (hf.mem_iff.1 hq), fun p hq => h.apart p (hf.mem_iff.1 hq), ((hf.map _).nodup_iff).2 h.nodup⟩
  exact h3.tail
theorem TL.sel (n : Nat) (is : List Nat) (hB : (nodupB is && is.all fun i => Nat.blt i n) = true) (h : ∀ o, o = K.sel n is own → TL P w0 N Q ops rest env o H) : TL P w0 N Q ops rest env own H := fun a w ha hw => h _ rfl a w ha (hw.sel n is hB)
theorem TC.sel (n : Nat) (is : List Nat) (hB : (nodupB is && is.all fun i => Nat.blt i n) = true) {c : Code} (h : ∀ o, o = K.sel n is own → TC P w0 N Q c env o H) : TC P w0 N Q c env own H := fun a w ha hw => h _ rfl a w ha (hw.sel n is hB)
theorem TQ.sel (n : Nat) (is : List Nat) (hB : (nodupB is && is.all fun i => Nat.blt i n) = true) {e : Exit} (h : ∀ o, o = K.sel n is own → TQ w0 N Q e env o H) : TQ w0 N Q e env own H := fun a w ha hw => h _ rfl a w ha (hw.sel n is hB)
/-- Segments in another order; some let go. -/
theorem TL.perm {own' : List Seg} (hp : own'.Perm own) (h : TL P w0 N Q ops rest env own' H) : TL P w0 N Q ops rest env own H := fun a w ha hw => h a w ha (hw.perm hp)
theorem TC.perm {c : Code} {own' : List Seg} (hp : own'.Perm own) (h : TC P w0 N Q c env own' H) : TC P w0 N Q c env own H := fun a w ha hw => h a w ha (hw.perm hp)
theorem TQ.perm {e : Exit} {own' : List Seg} (hp : own'.Perm own) (h : TQ w0 N Q e env own' H) : TQ w0 N Q e env own H := fun a w ha hw => h a w ha (hw.perm hp)
theorem TL.bring (i : Nat) (h : TL P w0 N Q ops rest env (bring i own) H) : TL P w0 N Q ops rest env own H := TL.perm (bring_perm i own) h
theorem TC.bring (i : Nat) {c : Code} (h : TC P w0 N Q c env (bring i own) H) : TC P w0 N Q c env own H := TC.perm (bring_perm i own) h
theorem TQ.bring (i : Nat) {e : Exit} (h : TQ w0 N Q e env (bring i own) H) : TQ w0 N Q e env own H := TQ.perm (bring_perm i own) h
theorem TL.drop (k : Nat) (h : TL P w0 N Q ops rest env (own.drop k) H) : TL P w0 N Q ops rest env own H := fun a w ha hw => h a w ha (hw.drop k)
theorem TC.drop (k : Nat) {c : Code} (h : TC P w0 N Q c env (own.drop k) H) : TC P w0 N Q c env own H := fun a w ha hw => h a w ha (hw.drop k)
theorem TQ.drop (k : Nat) {e : Exit} (h : TQ w0 N Q e env (own.drop k) H) : TQ w0 N Q e env own H := fun a w ha hw => h a w ha (hw.drop k)
theorem TC.freeze {c : Code} {seg : Seg} (h : ∀ H', Le H H' → (∀ p ∈ seg, H' p.1 = some p.2) → TC P w0 N Q c env own H') : TC P w0 N Q c env (seg :: own) H :=
  fun a w ha hw => let ⟨h1, h2, h3⟩ := hw.freeze; h _ h2 h3 a w ha h1
theorem TL.freeze {seg : Seg} (h : ∀ H', Le H H' → (∀ p ∈ seg, H' p.1 = some p.2) → TL P w0 N Q ops rest env own H') : TL P w0 N Q ops rest env (seg :: own) H :=
  fun a w ha hw => let ⟨h1, h2, h3⟩ := hw.freeze; h _ h2 h3 a w ha h1
theorem TQ.freeze {e : Exit} {seg : Seg} (h : ∀ H', Le H H' → (∀ p ∈ seg, H' p.1 = some p.2) → TQ w0 N Q e env own H') : TQ w0 N Q e env (seg :: own) H :=
  fun a w ha hw => let ⟨h1, h2, h3⟩ := hw.freeze; h _ h2 h3 a w ha h1

theorem TL.toOwn {own' : List Seg} (he : own = own') (h : TL P w0 N Q ops rest env own' H) : TL P w0 N Q ops rest env own H := he ▸ h
theorem TC.toOwn {c : Code} {own' : List Seg} (he : own = own') (h : TC P w0 N Q c env own' H) : TC P w0 N Q c env own H := he ▸ h
theorem TQ.toOwn {e : Exit} {own' : List Seg} (he : own = own') (h : TQ w0 N Q e env own' H) : TQ w0 N Q e env own H := he ▸ h
theorem TC.nilseg {c : Code} (h : TC P w0 N Q c env ([] :: own) H) : TC P w0 N Q c env own H := fun a w ha hw => h a w ha hw.nil_seg
theorem TL.nilseg (h : TL P w0 N Q ops rest env ([] :: own) H) : TL P w0 N Q ops rest env own H := fun a w ha hw => h a w ha hw.nil_seg
theorem hz.mono {H H' : Hp} (hl : Le H H') {seg : Seg} (h : ∀ p ∈ seg, H p.1 = some p.2) : ∀ p ∈ seg, H' p.1 = some p.2 := fun p hp => hl _ _ (h p hp)
/-- A cut: what holds between two pieces of code. -/
def Mid (w0 : World) (N : Nat) (J : Env → List Seg → Hp → Prop) (a : Act) (w : World) : Prop := ∃ env own H, J env own H ∧ At N env a ∧ St w0 H own w
theorem TC.cut {x y : Code} (J : Env → List Seg → Hp → Prop) (hx : TC P w0 N (Exit.then (Mid w0 N J) Q) x env own H) (hy : ∀ env own H, J env own H → TC P w0 N Q y env own H) : TC P w0 N Q (.seq x y) env own H := fun a w ha hw => by
  refine wp_seq (wp_mono (hx a w ha hw) ?_)
  intro e a' w' hq
  cases e with
  | normal => obtain ⟨env', own', H', hJ, ha', hw'⟩ := hq; exact hy env' own' H' hJ a' w' ha' hw'
  | exit id => exact hq
  | goto l => exact hq
  | ret => exact hq
  | panic ch => exact hq
  | outgrown => exact hq
theorem TQ.mid {J : Env → List Seg → Hp → Prop} (env' : Env) (hs : SubL env' env) (hJ : J env' own H) : TQ w0 N (Exit.then (Mid w0 N J) Q) .normal env own H :=
  fun _ _ ha hw => ⟨env', own, H, hJ, ha.sub hs, hw⟩
end
end Go.Proofs.Ytapmmfabdmhdnaa.K
