/-
  Part 1 of 6 of the proof that DiffTrees returns true for every list of numbers and every two triples, and leaves its arguments as they were. No condition beyond the given statement.
-/
import Derived.Tactics
import Derived.Calls
import Derived.Laws.AppendOwn
import Derived.Laws.OwnMore
import Derived.Laws.MakeOwn
import Derived.Laws.NewBlocks
import Derived.Deep.LoopGhost
import Derived.Deep.Quiet
import Derived.Below
import Derived.IntWalk
import Derived.WideShapes
import Derived.Laws.Strings
import Derived.Maps.AppendAt
import Derived.Laws.Cells
import Derived.Laws.CopyRow
import Derived.Laws.IdiomStrings
import Derived.StillTail
import Derived.Laws.Cover3
import Derived.Maps.Own
import Derived.Maps.Views
import Derived.StringKeys
import Derived.DeepKeys4
import Derived.Test.YtlmahofogapkgaaGreatDoorProg
import Derived.KernelRfl
set_option linter.unusedVariables false
set_option linter.unusedSimpArgs false
set_option linter.defProp false
namespace Go.Proofs.YtlmahofogapkgaaGreatDoor.K
open Go Go.RowKit
abbrev Hp := Nat → Option Obj
abbrev Seg := List (Nat × Obj)
abbrev Env := List (Nat × Value)
def lk : Env → Nat → Option Value
  | [], _ => none
  | (j, v) :: r, i => bif Nat.beq j i then some v else lk r i
def ev (env : Env) : Operand → Option Value
  | .tmp t => lk env t
  | .const v => some v
  | .global g => some (.pointer (some ⟨g, 0, none⟩))
  | .func f => some (.func (.func f) #[] #[])
structure At (N : Nat) (env : Env) (a : Act) : Prop where
  defers : a.defers = []
  size : a.tmps.size = N
  slots : ∀ i v, lk env i = some v → a.tmps[i]? = some v
theorem At.ev {N : Nat} {env : Env} {a : Act} (h : At N env a) {x : Operand} {v : Value} (hx : ev env x = some v) : a.eval x = v := by
  cases x with
  | tmp t => have h1 := h.slots t v hx; simp [Act.eval, Array.getD_eq_getD_getElem?, h1]
  | const u => simpa [K.ev, Act.eval] using hx
  | global g => simpa [K.ev, Act.eval] using hx
  | func f => simpa [K.ev, Act.eval] using hx
def ab (d : Option Tmp) (v : Value) (env : Env) : Env := match d with | some d => (d, v) :: env | none => env
def okD (N : Nat) (d : Option Tmp) : Bool := match d with | some d => Nat.blt d N | none => true
theorem At.put {N : Nat} {env : Env} {a : Act} (h : At N env a) {d : Option Tmp} (hd : okD N d = true) (v : Value) : At N (ab d v env) (a.put d v) := by
  cases d with
  | none => exact h
  | some d =>
    have hlt : d < N := by simpa [okD, Nat.blt_eq] using hd
    refine ⟨h.defers, by simpa [Act.put] using h.size, fun i u hu => ?_⟩
    simp only [ab, lk] at hu
    cases hb : Nat.beq d i with
    | true =>
      have e : d = i := Nat.eq_of_beq_eq_true hb
      subst e
      simp only [hb, cond_true, Option.some.injEq] at hu
      subst hu
      have : d < a.tmps.size := by rw [h.size]; exact hlt
      simp [Act.put, this]
    | false =>
      have e : d ≠ i := Nat.ne_of_beq_eq_false hb
      simp only [hb, cond_false] at hu
      simp [Act.put, e, h.slots i u hu]
def SubL : Env → Env → Prop
  | [], _ => True
  | (i, v) :: r, e => lk e i = some v ∧ SubL r e
theorem SubL.lk {env env' : Env} (h : SubL env' env) : ∀ i v, lk env' i = some v → K.lk env i = some v := by
  induction env' with
  | nil => intro i v hv; cases hv
  | cons p r ih =>
    obtain ⟨j, u⟩ := p
    intro i v hv
    simp only [K.lk] at hv
    cases hb : Nat.beq j i with
    | true =>
      have e : j = i := Nat.eq_of_beq_eq_true hb
      subst e
      simp only [hb, cond_true, Option.some.injEq] at hv
      subst hv
      exact h.1
    | false => simp only [hb, cond_false] at hv; exact ih h.2 i v hv
theorem At.sub {N : Nat} {env env' : Env} {a : Act} (h : At N env a) (hs : SubL env' env) : At N env' a := ⟨h.defers, h.size, fun i v hv => h.slots i v (hs.lk i v hv)⟩
structure St (w0 : World) (H : Hp) (own : List Seg) (w : World) : Prop where
  os : w.os = w0.os
  tape : w.tape = w0.tape ∧ w0.drawn ≤ w.drawn
  output : w.output = w0.output
  imm : ∀ b o, H b = some o → w.heap[b]? = some o
  own_at : ∀ p ∈ own.flatten, w.heap[p.1]? = some p.2
  apart : ∀ p ∈ own.flatten, H p.1 = none
  nodup : (own.flatten.map (·.1)).Nodup
def Le (H H' : Hp) : Prop := ∀ b o, H b = some o → H' b = some o
theorem Le.refl (H : Hp) : Le H H := fun _ _ h => h
theorem Le.trans {a b c : Hp} (h : Le a b) (k : Le b c) : Le a c := fun x o hx => k x o (h x o hx)
def TL (P : Program) (w0 : World) (N : Nat) (Q : Exit → Act → World → Prop) (ops : Array Oper) (l : List Oper) (env : Env) (own : List Seg) (H : Hp) : Prop :=
  ∀ a w, At N env a → St w0 H own w → wpList P ops Q l a w
def TC (P : Program) (w0 : World) (N : Nat) (Q : Exit → Act → World → Prop) (c : Code) (env : Env) (own : List Seg) (H : Hp) : Prop :=
  ∀ a w, At N env a → St w0 H own w → c.wp P Q a w
def TQ (w0 : World) (N : Nat) (Q : Exit → Act → World → Prop) (e : Exit) (env : Env) (own : List Seg) (H : Hp) : Prop :=
  ∀ a w, At N env a → St w0 H own w → Q e a w
section code
variable {P : Program} {w0 : World} {N : Nat} {Q : Exit → Act → World → Prop} {env : Env} {own : List Seg} {H : Hp} {ops : Array Oper} {rest : List Oper}
theorem TC.seq {x y : Code} (h : TC P w0 N (Exit.then (y.wp P Q) Q) x env own H) : TC P w0 N Q (.seq x y) env own H :=
  fun a w ha hw => wp_seq (h a w ha hw)
theorem TC.skip (h : TQ w0 N Q .normal env own H) : TC P w0 N Q .skip env own H := fun a w ha hw => wp_skip (h a w ha hw)
theorem TC.ret (h : TQ w0 N Q .ret env own H) : TC P w0 N Q .ret env own H := fun a w ha hw => wp_ret (h a w ha hw)
theorem TC.exit {i : Nat} (h : TQ w0 N Q (.exit i) env own H) : TC P w0 N Q (.exit i) env own H := fun a w ha hw => wp_exit (h a w ha hw)
theorem TC.block {i : Nat} {c : Code} (h : TC P w0 N (Exit.inBlock i Q) c env own H) : TC P w0 N Q (.block i c) env own H := fun a w ha hw => wp_block (h a w ha hw)
theorem TC.region {i : Nat} {l : List Oper} (h : TL P w0 N Q l.toArray l env own H) : TC P w0 N Q (.region i l.toArray false) env own H :=
  fun a w ha hw => wp_region_lit (h a w ha hw)
theorem TL.nil (h : TQ w0 N Q .normal env own H) : TL P w0 N Q ops [] env own H := fun a w ha hw => wpList_nil (h a w ha hw)
theorem TC.cond {c : Operand} {x y : Code} {b : Bool} (hc : ev env c = some (.bool b)) (ht : b = true → TC P w0 N Q x env own H) (hf : b = false → TC P w0 N Q y env own H) :
    TC P w0 N Q (.cond c x y) env own H := fun a w ha hw => by
  refine wp_cond_split (ha.ev hc) (fun h => ht h a w ha hw) (fun h => hf h a w ha hw)
theorem TC.cond_t {c : Operand} {x y : Code} (hc : ev env c = some (.bool true)) (ht : TC P w0 N Q x env own H) : TC P w0 N Q (.cond c x y) env own H :=
  fun a w ha hw => wp_cond_true (ha.ev hc) (ht a w ha hw)
theorem TC.cond_f {c : Operand} {x y : Code} (hc : ev env c = some (.bool false)) (ht : TC P w0 N Q y env own H) : TC P w0 N Q (.cond c x y) env own H :=
  fun a w ha hw => wp_cond_false (ha.ev hc) (ht a w ha hw)
theorem TQ.then_n {y : Code} (h : TC P w0 N Q y env own H) : TQ w0 N (Exit.then (y.wp P Q) Q) .normal env own H := h
theorem TQ.then_e {nx : Act → World → Prop} {i : Nat} (h : TQ w0 N Q (.exit i) env own H) : TQ w0 N (Exit.then nx Q) (.exit i) env own H := h
theorem TQ.then_r {nx : Act → World → Prop} (h : TQ w0 N Q .ret env own H) : TQ w0 N (Exit.then nx Q) .ret env own H := h
theorem TQ.in_n {i : Nat} (h : TQ w0 N Q .normal env own H) : TQ w0 N (Exit.inBlock i Q) .normal env own H := h
theorem TQ.in_r {i : Nat} (h : TQ w0 N Q .ret env own H) : TQ w0 N (Exit.inBlock i Q) .ret env own H := h
theorem TQ.in_e {i : Nat} (h : TQ w0 N Q .normal env own H) : TQ w0 N (Exit.inBlock i Q) (.exit i) env own H :=
  fun a w ha hw => by simpa only [Exit.inBlock, if_true] using h a w ha hw
theorem TQ.in_o {i j : Nat} (hne : Nat.beq j i = false) (h : TQ w0 N Q (.exit j) env own H) : TQ w0 N (Exit.inBlock i Q) (.exit j) env own H :=
  fun a w ha hw => by simpa only [Exit.inBlock, if_neg (Nat.ne_of_beq_eq_false hne)] using h a w ha hw
theorem TL.wk {l : List Oper} {env' : Env} (hs : SubL env' env) (h : TL P w0 N Q ops l env' own H) : TL P w0 N Q ops l env own H := fun a w ha hw => h a w (ha.sub hs) hw
def Nx (w0 : World) (N : Nat) (J : Nat → Env → List Seg → Hp → Prop) (n : Nat) (a : Act) (w : World) : Prop :=
  ∃ n' env own H, n' < n ∧ J n' env own H ∧ At N env a ∧ St w0 H own w
theorem TC.loop {c : Code} (J : Nat → Env → List Seg → Hp → Prop) (n : Nat) (env' : Env) (hs : SubL env' env) (h0 : J n env' own H)
    (round : ∀ n env own H, J n env own H → TC P w0 N (Exit.then (Nx w0 N J n) Q) c env own H) : TC P w0 N Q (.loop c) env own H := fun a w ha hw => by
  refine wp_loop_ghost (fun n a w => ∃ env own H, J n env own H ∧ At N env a ∧ St w0 H own w) n ⟨env', own, H, h0, ha.sub hs, hw⟩ ?_
  rintro n a w ⟨env, own, H, hJ, ha, hw⟩
  refine wp_mono (round n env own H hJ a w ha hw) ?_
  intro e a' w' hq
  cases e with
  | normal => obtain ⟨n', env, own, H, hlt, hJ', ha', hw'⟩ := hq; exact ⟨n', hlt, env, own, H, hJ', ha', hw'⟩
  | exit id => exact hq
  | goto l => exact hq
  | ret => exact hq
  | panic ch => exact hq
  | outgrown => exact hq
theorem TQ.next {J : Nat → Env → List Seg → Hp → Prop} {n : Nat} (n' : Nat) (env' : Env) (hlt : n' < n) (hs : SubL env' env) (hJ : J n' env' own H) :
    TQ w0 N (Exit.then (Nx w0 N J n) Q) .normal env own H := fun _ _ ha hw => ⟨n', env', own, H, hlt, hJ, ha.sub hs, hw⟩
theorem TL.val {o : Oper} {v : Value} {own' : List Seg} {H' : Hp} (hg : o.guard = none) (hd : okD N o.dst = true)
    (hrun : ∀ a w, At N env a → St w0 H own w → ∃ w', (execOp a.eval o).run P w = .ok (.value v) w' ∧ St w0 H' own' w')
    (h : TL P w0 N Q ops rest (ab o.dst v env) own' H') : TL P w0 N Q ops (o :: rest) env own H := fun a w ha hw => by
  refine wpList_plain hg fun K hK => ?_
  obtain ⟨w', hr, hw'⟩ := hrun a w ha hw
  unfold Oper.wp
  rw [hr]
  exact hK _ _ (h _ _ (ha.put hd v) hw')
theorem TL.valE {o : Oper} {φ : Value → List Seg → Hp → Prop} (hg : o.guard = none) (hd : okD N o.dst = true)
    (hrun : ∀ a w, At N env a → St w0 H own w → ∃ v own' H' w', (execOp a.eval o).run P w = .ok (.value v) w' ∧ φ v own' H' ∧ St w0 H' own' w')
    (h : ∀ v own' H', φ v own' H' → TL P w0 N Q ops rest (ab o.dst v env) own' H') : TL P w0 N Q ops (o :: rest) env own H := fun a w ha hw => by
  refine wpList_plain hg fun K hK => ?_
  obtain ⟨v, own', H', w', hr, hp, hw'⟩ := hrun a w ha hw
  unfold Oper.wp
  rw [hr]
  exact hK _ _ (h v own' H' hp _ _ (ha.put hd v) hw')
theorem TL.skp {o : Oper} {own' : List Seg} {H' : Hp} (hg : o.guard = none) (hd : okD N o.dst = true)
    (hrun : ∀ a w, At N env a → St w0 H own w → ∃ w', (execOp a.eval o).run P w = .ok .skip w' ∧ St w0 H' own' w')
    (h : TL P w0 N Q ops rest (ab o.dst undef env) own' H') : TL P w0 N Q ops (o :: rest) env own H := fun a w ha hw => by
  refine wpList_plain hg fun K hK => ?_
  obtain ⟨w', hr, hw'⟩ := hrun a w ha hw
  unfold Oper.wp
  rw [hr]
  exact hK _ _ (h _ _ (ha.put hd undef) hw')
theorem TL.guard {d : Option Tmp} {op : Op} {ty : TypeId} {pos : String} {af : Array Edge} {j : Nat} {want b : Bool} {t : Tmp} (hj : (ops[j]?).bind (·.dst) = some t) (ht : lk env t = some (.bool b)) (hd : okD N d = true)
    (hyes : b = want → TL P w0 N Q ops ({ dst := d, op := op, type := ty, pos := pos, after := af, guard := none } :: rest) env own H)
    (hno : b = !want → TL P w0 N Q ops rest (ab d undef env) own H) :
    TL P w0 N Q ops ({ dst := d, op := op, type := ty, pos := pos, after := af, guard := some (j, want) } :: rest) env own H := fun a w ha hw => by
  have hy : yielded ops a.tmps j = some b := by
    unfold yielded
    rw [hj]
    have h1 := ha.slots t _ ht
    simp [h1]
  by_cases hb : b = want
  · subst hb
    have h1 := hyes rfl a w ha hw
    simp only [wpList, Region.wanted, if_true] at h1
    simp only [wpList, Region.wanted, hy, beq_self_eq_true, if_true]
    exact h1
  · have hb' : b = !want := by cases b <;> cases want <;> simp_all
    have h1 := hno hb' _ w (ha.put hd undef) hw
    simp only [wpList, Region.wanted, hy]
    rw [if_neg (by subst hb'; cases want <;> simp)]
    exact h1
end code
class Ty (P : Program) (t : TypeId) (agg : outParam Bool) (n : outParam Nat) : Prop where
  isAgg : ∀ w, (isAgg t).run P w = .ok agg w
  size : ∀ w, (sizeOf t).run P w = .ok n w
def lm : TypeDesc → Bool
  | .struct _ | .array _ _ => true
  | _ => false
theorem Ty.of {P : Program} {t : TypeId} {d : TypeDesc} {i : TypeInfo} (hu : P.underlying t = some d) (hi : P.info? t = some i) : Ty P t (lm d) i.size := by
  refine ⟨fun w => ?_, fun w => ?_⟩
  · simp only [Go.isAgg, Sem.run_bind, run_underlying hu, Result.andThen_ok]
    cases d <;> rfl
  · simp [sizeOf, typeInfo, hi]
class Und (P : Program) (t : TypeId) (d : outParam TypeDesc) : Prop where
  eq : P.underlying t = some d
class Inf (P : Program) (t : TypeId) (i : outParam TypeInfo) : Prop where
  eq : P.info? t = some i
class Fld (P : Program) (s : TypeId) (f : Nat) (off : outParam Nat) : Prop where
  ex : ∃ fs fl agg n, P.underlying s = some (.struct fs) ∧ fs[f]? = some fl ∧ fl.offset = off ∧ Ty P fl.type agg n ∧ n ≠ 0
theorem Fld.of {P : Program} {s : TypeId} {f : Nat} {fs : Array Field} {fl : Field} {agg : Bool} {n : Nat} (h : P.underlying s = some (.struct fs)) (hf : fs[f]? = some fl) (ht : Ty P fl.type agg n) (hn : Nat.beq n 0 = false) : Fld P s f fl.offset :=
  ⟨fs, fl, agg, n, h, hf, rfl, ht, Nat.ne_of_beq_eq_false hn⟩
class Sl (P : Program) (t : TypeId) (e : outParam TypeId) (sz by_ : outParam Nat) (z : outParam Value) : Prop where
  und : P.underlying t = some (.slice e)
  ex : ∃ i, P.info? e = some i ∧ i.zero = some z ∧ i.size = sz ∧ i.bytes = by_
  zs : z.cells.size = sz
  pos : 0 < sz
theorem Sl.of {P : Program} {t e : TypeId} {i : TypeInfo} {z : Value} (h : P.underlying t = some (.slice e)) (hi : P.info? e = some i) (hz : i.zero = some z) (hs : z.cells.size = i.size) (hp : Nat.blt 0 i.size = true) : Sl P t e i.size i.bytes z :=
  ⟨h, ⟨i, hi, hz, rfl, rfl⟩, hs, by simpa [Nat.blt_eq] using hp⟩
theorem Sl.sizeOf {P : Program} {t e : TypeId} {sz b : Nat} {z : Value} (h : Sl P t e sz b z) (w : World) : (Go.sizeOf e).run P w = .ok sz w := by
  obtain ⟨i, hi, _, hs, _⟩ := h.ex
  simp [Go.sizeOf, typeInfo, hi, hs]
abbrev I64 (n : Int) : Prop := -9223372036854775808 ≤ n ∧ n ≤ 9223372036854775807
theorem fF {n : Int} (h : I64 n) : IntKind.i64.wrap n = n := IntWalk.i64_in _ h
section ops
variable {P : Program} {w0 : World} {N : Nat} {Q : Exit → Act → World → Prop} {env : Env} {own : List Seg} {H : Hp} {ops : Array Oper} {rest : List Oper}
variable {d : Option Tmp} {ty : TypeId} {pos : String} {af : Array Edge}
theorem Qd {op : Op} {v : Value} (hd : okD N d = true) (hrun : ∀ a, At N env a → ∀ w, (execOp a.eval { dst := d, op := op, type := ty, pos := pos, after := af, guard := none }).run P w = .ok (.value v) w)
    (h : TL P w0 N Q ops rest (ab d v env) own H) : TL P w0 N Q ops ({ dst := d, op := op, type := ty, pos := pos, after := af, guard := none } :: rest) env own H :=
  TL.val rfl hd (fun a w ha hw => ⟨w, hrun a ha w, hw⟩) h
theorem TL.move {x : Operand} {v : Value} (hx : ev env x = some v) (hd : okD N d = true) (h : TL P w0 N Q ops rest (ab d v env) own H) :
    TL P w0 N Q ops ({ dst := d, op := .move x, type := ty, pos := pos, after := af, guard := none } :: rest) env own H :=
  Qd hd (fun a ha w => by simp [execOp, ha.ev hx]) h
theorem TL.assign {x : Operand} {v : Value} (hx : ev env x = some v) (hd : okD N d = true) (h : TL P w0 N Q ops rest (ab d v env) own H) :
    TL P w0 N Q ops ({ dst := d, op := .assign x, type := ty, pos := pos, after := af, guard := none } :: rest) env own H :=
  Qd hd (fun a ha w => by simp [execOp, ha.ev hx]) h
theorem TL.pick {c x y : Operand} {b : Bool} {u v : Value} (hc : ev env c = some (.bool b)) (hx : ev env x = some u) (hy : ev env y = some v) (hd : okD N d = true)
    (h : TL P w0 N Q ops rest (ab d (if b then u else v) env) own H) :
    TL P w0 N Q ops ({ dst := d, op := .pick c x y, type := ty, pos := pos, after := af, guard := none } :: rest) env own H :=
  Qd hd (fun a ha w => by simp [execOp, ha.ev hc, ha.ev hx, ha.ev hy, asBool]) h
theorem TL.add {x y : Operand} {tx t' : TypeId} {m n : Int} (hx : ev env x = some (.int .i64 m)) (hy : ev env y = some (.int .i64 n)) (hd : okD N d = true) (hr : I64 (m + n))
    (h : TL P w0 N Q ops rest (ab d (.int .i64 (m + n)) env) own H) :
    TL P w0 N Q ops ({ dst := d, op := .binOp .add tx x y t', type := ty, pos := pos, after := af, guard := none } :: rest) env own H :=
  Qd hd (fun a ha w => by simp [execOp, eqGuard, binOp, Op.intArith, ha.ev hx, ha.ev hy, fF hr]) h
theorem TL.sub {x y : Operand} {tx t' : TypeId} {m n : Int} (hx : ev env x = some (.int .i64 m)) (hy : ev env y = some (.int .i64 n)) (hd : okD N d = true) (hr : I64 (m - n))
    (h : TL P w0 N Q ops rest (ab d (.int .i64 (m - n)) env) own H) :
    TL P w0 N Q ops ({ dst := d, op := .binOp .sub tx x y t', type := ty, pos := pos, after := af, guard := none } :: rest) env own H :=
  Qd hd (fun a ha w => by simp [execOp, eqGuard, binOp, Op.intArith, ha.ev hx, ha.ev hy, fF hr]) h
theorem TL.mul {x y : Operand} {tx t' : TypeId} {m n : Int} (hx : ev env x = some (.int .i64 m)) (hy : ev env y = some (.int .i64 n)) (hd : okD N d = true) (hr : I64 (m * n))
    (h : TL P w0 N Q ops rest (ab d (.int .i64 (m * n)) env) own H) :
    TL P w0 N Q ops ({ dst := d, op := .binOp .mul tx x y t', type := ty, pos := pos, after := af, guard := none } :: rest) env own H :=
  Qd hd (fun a ha w => by simp [execOp, eqGuard, binOp, Op.intArith, ha.ev hx, ha.ev hy, fF hr]) h
theorem TL.addW {x y : Operand} {tx t' : TypeId} {k : IntKind} {m n : Int} (hx : ev env x = some (.int k m)) (hy : ev env y = some (.int k n)) (hd : okD N d = true)
    (h : TL P w0 N Q ops rest (ab d (.int k (k.wrap (m + n))) env) own H) :
    TL P w0 N Q ops ({ dst := d, op := .binOp .add tx x y t', type := ty, pos := pos, after := af, guard := none } :: rest) env own H :=
  Qd hd (fun a ha w => by simp [execOp, eqGuard, binOp, Op.intArith, ha.ev hx, ha.ev hy]) h
theorem TL.subW {x y : Operand} {tx t' : TypeId} {k : IntKind} {m n : Int} (hx : ev env x = some (.int k m)) (hy : ev env y = some (.int k n)) (hd : okD N d = true)
    (h : TL P w0 N Q ops rest (ab d (.int k (k.wrap (m - n))) env) own H) :
    TL P w0 N Q ops ({ dst := d, op := .binOp .sub tx x y t', type := ty, pos := pos, after := af, guard := none } :: rest) env own H :=
  Qd hd (fun a ha w => by simp [execOp, eqGuard, binOp, Op.intArith, ha.ev hx, ha.ev hy]) h
theorem TL.mulW {x y : Operand} {tx t' : TypeId} {k : IntKind} {m n : Int} (hx : ev env x = some (.int k m)) (hy : ev env y = some (.int k n)) (hd : okD N d = true)
    (h : TL P w0 N Q ops rest (ab d (.int k (k.wrap (m * n))) env) own H) :
    TL P w0 N Q ops ({ dst := d, op := .binOp .mul tx x y t', type := ty, pos := pos, after := af, guard := none } :: rest) env own H :=
  Qd hd (fun a ha w => by simp [execOp, eqGuard, binOp, Op.intArith, ha.ev hx, ha.ev hy]) h
theorem TL.quo {x y : Operand} {tx t' : TypeId} {k : IntKind} {m n : Int} (hx : ev env x = some (.int k m)) (hy : ev env y = some (.int k n)) (hd : okD N d = true) (hn : n ≠ 0)
    (h : TL P w0 N Q ops rest (ab d (.int k (k.wrap (m.tdiv n))) env) own H) :
    TL P w0 N Q ops ({ dst := d, op := .binOp .quo tx x y t', type := ty, pos := pos, after := af, guard := none } :: rest) env own H :=
  Qd hd (fun a ha w => by simp [execOp, eqGuard, binOp, Op.intDiv, ha.ev hx, ha.ev hy, hn]) h
theorem TL.rem {x y : Operand} {tx t' : TypeId} {k : IntKind} {m n : Int} (hx : ev env x = some (.int k m)) (hy : ev env y = some (.int k n)) (hd : okD N d = true) (hn : n ≠ 0)
    (h : TL P w0 N Q ops rest (ab d (.int k (m.tmod n)) env) own H) :
    TL P w0 N Q ops ({ dst := d, op := .binOp .rem tx x y t', type := ty, pos := pos, after := af, guard := none } :: rest) env own H :=
  Qd hd (fun a ha w => by simp [execOp, eqGuard, binOp, Op.intDiv, ha.ev hx, ha.ev hy, hn]) h
theorem TL.lss {x y : Operand} {tx t' : TypeId} {k : IntKind} {m n : Int} (hx : ev env x = some (.int k m)) (hy : ev env y = some (.int k n)) (hd : okD N d = true)
    (h : TL P w0 N Q ops rest (ab d (.bool (decide (m < n))) env) own H) :
    TL P w0 N Q ops ({ dst := d, op := .binOp .lss tx x y t', type := ty, pos := pos, after := af, guard := none } :: rest) env own H :=
  Qd hd (fun a ha w => by simp [execOp, eqGuard, binOp, Op.intCmp, ha.ev hx, ha.ev hy]) h
theorem TL.leq {x y : Operand} {tx t' : TypeId} {k : IntKind} {m n : Int} (hx : ev env x = some (.int k m)) (hy : ev env y = some (.int k n)) (hd : okD N d = true)
    (h : TL P w0 N Q ops rest (ab d (.bool (decide (m ≤ n))) env) own H) :
    TL P w0 N Q ops ({ dst := d, op := .binOp .leq tx x y t', type := ty, pos := pos, after := af, guard := none } :: rest) env own H :=
  Qd hd (fun a ha w => by simp [execOp, eqGuard, binOp, Op.intCmp, ha.ev hx, ha.ev hy]) h
theorem TL.gtr {x y : Operand} {tx t' : TypeId} {k : IntKind} {m n : Int} (hx : ev env x = some (.int k m)) (hy : ev env y = some (.int k n)) (hd : okD N d = true)
    (h : TL P w0 N Q ops rest (ab d (.bool (decide (n < m))) env) own H) :
    TL P w0 N Q ops ({ dst := d, op := .binOp .gtr tx x y t', type := ty, pos := pos, after := af, guard := none } :: rest) env own H :=
  Qd hd (fun a ha w => by simp [execOp, eqGuard, binOp, Op.intCmp, ha.ev hx, ha.ev hy]) h
theorem TL.geq {x y : Operand} {tx t' : TypeId} {k : IntKind} {m n : Int} (hx : ev env x = some (.int k m)) (hy : ev env y = some (.int k n)) (hd : okD N d = true)
    (h : TL P w0 N Q ops rest (ab d (.bool (decide (n ≤ m))) env) own H) :
    TL P w0 N Q ops ({ dst := d, op := .binOp .geq tx x y t', type := ty, pos := pos, after := af, guard := none } :: rest) env own H :=
  Qd hd (fun a ha w => by simp [execOp, eqGuard, binOp, Op.intCmp, ha.ev hx, ha.ev hy]) h
theorem TL.eql {x y : Operand} {tx t' : TypeId} {k : IntKind} {m n : Int} (hx : ev env x = some (.int k m)) (hy : ev env y = some (.int k n)) (hd : okD N d = true)
    (h : TL P w0 N Q ops rest (ab d (.bool (decide (m = n))) env) own H) :
    TL P w0 N Q ops ({ dst := d, op := .binOp .eql tx x y t', type := ty, pos := pos, after := af, guard := none } :: rest) env own H :=
  Qd hd (fun a ha w => by simp [execOp, eqGuard, binOp, Op.intCmp, ha.ev hx, ha.ev hy]; rfl) h
theorem TL.neq {x y : Operand} {tx t' : TypeId} {k : IntKind} {m n : Int} (hx : ev env x = some (.int k m)) (hy : ev env y = some (.int k n)) (hd : okD N d = true)
    (h : TL P w0 N Q ops rest (ab d (.bool (decide (m ≠ n))) env) own H) :
    TL P w0 N Q ops ({ dst := d, op := .binOp .neq tx x y t', type := ty, pos := pos, after := af, guard := none } :: rest) env own H :=
  Qd hd (fun a ha w => by
    have e : (m != n) = decide (m ≠ n) := by rw [Bool.eq_iff_iff]; simp
    simp [execOp, eqGuard, binOp, Op.intCmp, ha.ev hx, ha.ev hy, e]) h
theorem iV (s t : ByteArray) : (s.toList == t.toList) = decide (s = t) := by
  rw [Bool.eq_iff_iff]
  simp only [beq_iff_eq, decide_eq_true_eq, ByteArray.toList_eq]
  exact ⟨fun h => WideShapes.bytes_inj h, fun h => by rw [h]⟩
theorem TL.eqlS {x y : Operand} {tx t' : TypeId} {s t : ByteArray} (hx : ev env x = some (.string s)) (hy : ev env y = some (.string t)) (hd : okD N d = true)
    (h : TL P w0 N Q ops rest (ab d (.bool (decide (s = t))) env) own H) :
    TL P w0 N Q ops ({ dst := d, op := .binOp .eql tx x y t', type := ty, pos := pos, after := af, guard := none } :: rest) env own H :=
  Qd hd (fun a ha w => by simp only [execOp, eqGuard, binOp, Op.stringOp, ha.ev hx, ha.ev hy, iV]; rfl) h
theorem TL.neqS {x y : Operand} {tx t' : TypeId} {s t : ByteArray} (hx : ev env x = some (.string s)) (hy : ev env y = some (.string t)) (hd : okD N d = true)
    (h : TL P w0 N Q ops rest (ab d (.bool (decide (s ≠ t))) env) own H) :
    TL P w0 N Q ops ({ dst := d, op := .binOp .neq tx x y t', type := ty, pos := pos, after := af, guard := none } :: rest) env own H :=
  Qd hd (fun a ha w => by
    have e : (!decide (s = t)) = decide (s ≠ t) := by rw [Bool.eq_iff_iff]; simp
    simp only [execOp, eqGuard, binOp, Op.stringOp, ha.ev hx, ha.ev hy, iV, e]; rfl) h
theorem TL.addS {x y : Operand} {tx t' : TypeId} {s t : ByteArray} (hx : ev env x = some (.string s)) (hy : ev env y = some (.string t)) (hd : okD N d = true) (hr : s.size + t.size ≤ 9223372036854775807)
    (h : TL P w0 N Q ops rest (ab d (.string (s ++ t)) env) own H) :
    TL P w0 N Q ops ({ dst := d, op := .binOp .add tx x y t', type := ty, pos := pos, after := af, guard := none } :: rest) env own H :=
  Qd hd (fun a ha w => by
    have e : ¬ (((s.size + t.size : Nat) : Int) > IntKind.i64.max) := by
      have : IntKind.i64.max = 9223372036854775807 := by decide
      rw [this]; omega
    simp only [execOp, eqGuard, binOp, Op.stringOp, ha.ev hx, ha.ev hy, if_neg e]; rfl) h
theorem TL.not {x : Operand} {tx : TypeId} {b : Bool} (hx : ev env x = some (.bool b)) (hd : okD N d = true) (h : TL P w0 N Q ops rest (ab d (.bool (!b)) env) own H) :
    TL P w0 N Q ops ({ dst := d, op := .unOp .not tx x, type := ty, pos := pos, after := af, guard := none } :: rest) env own H :=
  Qd hd (fun a ha w => by simp [execOp, Op.unary, ha.ev hx]) h
theorem TL.extract {x : Operand} {i : Nat} {vs : Array Value} {v : Value} (hx : ev env x = some (.tuple vs)) (hv : vs[i]? = some v) (hd : okD N d = true) (h : TL P w0 N Q ops rest (ab d v env) own H) :
    TL P w0 N Q ops ({ dst := d, op := .extract x i, type := ty, pos := pos, after := af, guard := none } :: rest) env own H :=
  Qd hd (fun a ha w => by simp [execOp, Instr.extract, ha.ev hx, hv]) h
theorem TL.len_slice {x : Operand} {t : TypeId} {e : TypeId} {A : Option Addr} {n c : Nat} (hx : ev env x = some (.slice A n c)) (hd : okD N d = true) [hU : Und P t (.slice e)]
    (h : TL P w0 N Q ops rest (ab d (.int .i64 (n : Int)) env) own H) :
    TL P w0 N Q ops ({ dst := d, op := .call { callee := .builtin .len, args := #[x], argTypes := #[t] }, type := ty, pos := pos, after := af, guard := none } :: rest) env own H :=
  Qd hd (fun a ha w => by simp [execOp, resolve, invoke, builtin, Builtin.len_, ha.ev hx, run_underlying hU.eq, goInt]) h
theorem TL.len_string {x : Operand} {t : TypeId} {s : ByteArray} (hx : ev env x = some (.string s)) (hd : okD N d = true) [hU : Und P t .string]
    (h : TL P w0 N Q ops rest (ab d (.int .i64 (s.size : Int)) env) own H) :
    TL P w0 N Q ops ({ dst := d, op := .call { callee := .builtin .len, args := #[x], argTypes := #[t] }, type := ty, pos := pos, after := af, guard := none } :: rest) env own H :=
  Qd hd (fun a ha w => by simp [execOp, resolve, invoke, builtin, Builtin.len_, ha.ev hx, run_underlying hU.eq, goInt]) h
end ops
theorem ol {p : Program} {w : World} {at_ : Addr} {u : TypeId} {k : Addr} {v : Value} {m : Bool} {r : World × List Addr} (h : w.viewStore p at_ u k v m = .ok r) : r.1.drawn = w.drawn := by
  unfold World.viewStore at h
  simp only [bind, Except.bind, pure, Except.pure] at h
  repeat' (split at h <;> try cases h)
  all_goals first | rfl | (injection h with h; subst h; rfl)
theorem far_drawn {p : Program} {w : World} {a : Addr} {v : Value} {m : Bool} {w2 : World} {l : List Addr} (h : w.farStore p a v m = .ok (w2, l)) : w2.drawn = w.drawn := by
  unfold World.farStore at h
  split at h
  · split at h
    · rename_i hv
      injection h with h
      have := ol hv
      rw [h] at this
      exact this
    · cases h
  · cases h
theorem gK {α : Type} : ∀ (q : Ask α) (w : World), w.drawn ≤ (w.ask q).2.drawn
  | .done a, w => Nat.le_refl _
  | .ask what range k, w => by
    simp only [World.ask]
    split
    · exact gK _ w
    · exact Nat.le_trans (Nat.le_succ _) (gK _ { w with drawn := w.drawn + 1 })
theorem sys_drawn (w : World) (c : Sys) : w.drawn ≤ (w.sys c).2.drawn := by
  have := gK (Kernel.perform c w.os) w
  unfold World.sys
  split
  · exact Nat.le_refl _
  · rename_i h; rw [h] at this; exact this
theorem ku {P : Program} {α : Type} : ∀ (m : Sem α) (w w' : World) (v : α), m.run P w = .ok v w' → w.drawn ≤ w'.drawn := by
  intro m
  induction m with
  | pure a => intro w w' v h; simp only [Sem.run] at h; injection h with _ h; subst h; exact Nat.le_refl _
  | load md a k ih =>
    intro w w' v h
    simp only [Sem.run] at h
    split at h
    · exact ih _ _ _ _ h
    · split at h
      · exact ih _ _ _ _ h
      · cases h
  | store md a u k ih =>
    intro w w' v h
    cases u <;> simp only [Sem.run] at h <;> first
      | (cases h; done)
      | (split at h
         · split at h
           · cases h
           · have := ih _ _ _ h; exact this
         · split at h
           · rename_i hf
             have := ih _ _ _ h
             rw [far_drawn hf] at this
             exact this
           · cases h)
  | new o k ih => intro w w' v h; have := ih _ _ _ _ h; exact this
  | shape r k ih => intro w w' v h; exact ih _ _ _ _ h
  | freeze a n k ih =>
    intro w w' v h
    have := ih _ _ _ h
    unfold World.freeze at this
    split at this <;> exact this
  | frozen a k ih => intro w w' v h; exact ih _ _ _ _ h
  | getObj r k ih =>
    intro w w' v h
    simp only [Sem.run] at h
    split at h
    · cases h
    · exact ih _ _ _ _ h
    · cases h
  | setObj r o k ih =>
    intro w w' v h
    simp only [Sem.run] at h
    split at h
    · cases h
    · have := ih _ _ _ h; exact this
    · cases h
  | choose q k ih =>
    intro w w' v h
    simp only [Sem.run] at h
    split at h
    · exact ih _ _ _ _ h
    · exact Nat.le_trans (Nat.le_succ _) (ih _ _ _ _ h)
  | sys c k ih => intro w w' v h; exact Nat.le_trans (sys_drawn w c) (ih _ _ _ _ h)
  | program k ih => intro w w' v h; exact ih _ _ _ _ h
  | mark md k ih => intro w w' v h; exact ih _ _ _ h
  | halt h => intro w w' v h; cases h
section st
variable {P : Program} {w0 w w' : World} {own : List Seg} {H : Hp}
theorem St.h_lt (h : St w0 H own w) {b : Nat} {o : Obj} (hb : H b = some o) : b < w.heap.size :=
  (Array.getElem?_eq_some_iff.1 (h.imm b o hb)).1
theorem St.key_lt (h : St w0 H own w) {p : Nat × Obj} (hp : p ∈ own.flatten) : p.1 < w.heap.size :=
  (Array.getElem?_eq_some_iff.1 (h.own_at p hp)).1
theorem St.new_none (h : St w0 H own w) {b : Nat} (hb : w.heap.size ≤ b) : H b = none := by
  cases hc : H b with
  | none => rfl
  | some o => have := h.h_lt hc; omega
theorem bp {α : Type} {l : List α} {i : Nat} {x : α} (hi : l[i]? = some x) : ∃ l1 l2, l = l1 ++ x :: l2 ∧ l1.length = i := by
  obtain ⟨hlt, rfl⟩ := List.getElem?_eq_some_iff.1 hi
  exact ⟨l.take i, l.drop (i + 1), by rw [List.getElem_cons_drop, List.take_append_drop], by rw [List.length_take]; omega⟩
theorem St.mem_at (_h : St w0 H own w) {i : Nat} {seg : Seg} (hi : own[i]? = some seg) {p : Nat × Obj} (hp : p ∈ seg) : p ∈ own.flatten :=
  List.mem_flatten.2 ⟨seg, List.mem_of_getElem? hi, hp⟩
theorem St.own_blk (h : St w0 H own w) {i j : Nat} {seg : Seg} (hi : own[i]? = some seg) {g : Nat} {o : Obj} (hj : seg[j]? = some (g, o)) : w.heap[g]? = some o :=
  h.own_at (g, o) (h.mem_at hi (List.mem_of_getElem? hj))
theorem St.upd (h : St w0 H own w) {i : Nat} {seg seg' : Seg} (hi : own[i]? = some seg) (hos : w'.os = w.os) (htp : w'.tape = w.tape ∧ w.drawn ≤ w'.drawn) (hout : w'.output = w.output)
    (hold : ∀ b, b < w.heap.size → b ∉ seg.map (·.1) → w'.heap[b]? = w.heap[b]?) (hnew : ∀ p ∈ seg', w'.heap[p.1]? = some p.2) (hnd : (seg'.map (·.1)).Nodup)
    (hk : ∀ p ∈ seg', p.1 ∈ seg.map (·.1) ∨ w.heap.size ≤ p.1) : St w0 H (own.set i seg') w' := by
  obtain ⟨l1, l2, rfl, rfl⟩ := bp hi
  have aF : (l1 ++ seg :: l2).set l1.length seg' = l1 ++ seg' :: l2 := by simp
  rw [aF]
  have hn := h.nodup
  simp only [List.flatten_append, List.flatten_cons, List.map_append, List.nodup_append, List.mem_append] at hn
  obtain ⟨n1, ⟨n2, n3, n4⟩, n5⟩ := hn
  have hm1 : ∀ p, p ∈ l1.flatten → p ∈ (l1 ++ seg :: l2).flatten := fun p hp => by simp [List.flatten_append]; left; simpa using hp
  have hm2 : ∀ p, p ∈ seg → p ∈ (l1 ++ seg :: l2).flatten := fun p hp => by simp only [List.flatten_append, List.flatten_cons, List.mem_append]; exact .inr (.inl hp)
  have hm3 : ∀ p, p ∈ l2.flatten → p ∈ (l1 ++ seg :: l2).flatten := fun p hp => by simp only [List.flatten_append, List.flatten_cons, List.mem_append]; exact .inr (.inr hp)
  have key : ∀ p : Nat × Obj, p ∈ l1.flatten ∨ p ∈ l2.flatten → p.1 < w.heap.size ∧ p.1 ∉ seg.map (·.1) := by
    intro p hp
    rcases hp with hp | hp
    · exact ⟨h.key_lt (hm1 p hp), fun hc => n5 p.1 (List.mem_map.2 ⟨p, hp, rfl⟩) p.1 (.inl hc) rfl⟩
    · exact ⟨h.key_lt (hm3 p hp), fun hc => n4 p.1 hc p.1 (List.mem_map.2 ⟨p, hp, rfl⟩) rfl⟩
  refine ⟨hos.trans h.os, ⟨htp.1.trans h.tape.1, Nat.le_trans h.tape.2 htp.2⟩, hout.trans h.output, fun b o hb => ?_, fun p hp => ?_, fun p hp => ?_, ?_⟩
  · rw [hold b (h.h_lt hb) (fun hc => ?_)]
    · exact h.imm b o hb
    · obtain ⟨p, hp, rfl⟩ := List.mem_map.1 hc
      rw [h.apart p (hm2 p hp)] at hb
      cases hb
  · simp only [List.flatten_append, List.flatten_cons, List.mem_append] at hp
    rcases hp with hp | hp | hp
    · obtain ⟨k1, k2⟩ := key p (.inl hp)
      rw [hold _ k1 k2]; exact h.own_at p (hm1 p hp)
    · exact hnew p hp
    · obtain ⟨k1, k2⟩ := key p (.inr hp)
      rw [hold _ k1 k2]; exact h.own_at p (hm3 p hp)
  · simp only [List.flatten_append, List.flatten_cons, List.mem_append] at hp
    rcases hp with hp | hp | hp
    · exact h.apart p (hm1 p hp)
    · rcases hk p hp with hc | hc
      · obtain ⟨q, hq, hqp⟩ := List.mem_map.1 hc
        rw [← hqp]; exact h.apart q (hm2 q hq)
      · exact h.new_none hc
    · exact h.apart p (hm3 p hp)
  · simp only [List.flatten_append, List.flatten_cons, List.map_append, List.nodup_append, List.mem_append]
    have hx : ∀ a ∈ seg'.map (·.1), ∀ q : Nat × Obj, q ∈ l1.flatten ∨ q ∈ l2.flatten → q.1 ≠ a := by
      intro a ha q hq he
      obtain ⟨p, hp, rfl⟩ := List.mem_map.1 ha
      obtain ⟨k1, k2⟩ := key q hq
      rcases hk p hp with hc | hc
      · exact k2 (he ▸ hc)
      · omega
    refine ⟨n1, ⟨hnd, n3, ?_⟩, ?_⟩
    · intro a ha b hb he
      obtain ⟨q, hq, rfl⟩ := List.mem_map.1 hb
      exact hx a ha q (.inr hq) he.symm
    · intro a ha b hb he
      obtain ⟨q, hq, rfl⟩ := List.mem_map.1 ha
      rcases hb with hb | hb
      · exact hx b hb q (.inl hq) he
      · exact n5 q.1 (List.mem_map.2 ⟨q, hq, rfl⟩) b (.inr hb) he
theorem St.nil_seg (h : St w0 H own w) : St w0 H ([] :: own) w := ⟨h.os, h.tape, h.output, h.imm, by simpa using h.own_at, by simpa using h.apart, by simpa using h.nodup⟩
theorem St.tail {s : Seg} (h : St w0 H (s :: own) w) : St w0 H own w :=
  ⟨h.os, h.tape, h.output, h.imm, fun p hp => h.own_at p (by simp only [List.flatten_cons, List.mem_append]; exact .inr hp), fun p hp => h.apart p (by simp only [List.flatten_cons, List.mem_append]; exact .inr hp), by
    have := h.nodup
    simp only [List.flatten_cons, List.map_append, List.nodup_append] at this
    exact this.2.1⟩
theorem St.drop (k : Nat) (h : St w0 H own w) : St w0 H (own.drop k) w := by
  induction k generalizing own with
  | zero => simpa using h
  | succ k ih =>
    cases own with
    | nil => simpa using h
    | cons s r => simpa using ih h.tail
theorem St.new (h : St w0 H own w) (o : Obj) : St w0 H ([(w.heap.size, o)] :: own) (w.alloc o) := by
  have := h.nil_seg.upd (i := 0) (seg := []) (seg' := [(w.heap.size, o)]) (w' := w.alloc o) rfl rfl ⟨rfl, Nat.le_refl _⟩ rfl (fun b hb _ => Below.heap_alloc w o b hb)
    (fun p hp => by simp only [List.mem_singleton] at hp; subst hp; exact heap_alloc_new w o) (by simp) (fun p hp => by simp only [List.mem_singleton] at hp; subst hp; exact .inr (Nat.le_refl _))
  simpa using this
theorem St.drew (h : St w0 H own w) : St w0 H own w.drew := ⟨h.os, ⟨h.tape.1, Nat.le_succ_of_le h.tape.2⟩, h.output, h.imm, h.own_at, h.apart, h.nodup⟩
theorem St.perm {own' : List Seg} (h : St w0 H own w) (hp : own'.Perm own) : St w0 H own' w := by
  have hf := hp.flatten
  exact ⟨h.os, h.tape, h.output, h.imm, fun p hq => h.own_at p (hf.mem_iff.1 hq), fun p hq => h.apart p (hf.mem_iff.1 hq), ((hf.map _).nodup_iff).2 h.nodup⟩
def addH (H : Hp) (seg : Seg) : Hp := fun b => match seg.find? (fun p => p.1 == b) with | some p => some p.2 | none => H b
theorem St.freeze {seg : Seg} (h : St w0 H (seg :: own) w) : St w0 (addH H seg) own w ∧ Le H (addH H seg) ∧ ∀ p ∈ seg, addH H seg p.1 = some p.2 := by
  have hn := h.nodup
  simp only [List.flatten_cons, List.map_append, List.nodup_append] at hn
  obtain ⟨n1, n2, n3⟩ := hn
  have hin : ∀ p ∈ seg, p ∈ (seg :: own).flatten := fun p hp => by simp only [List.flatten_cons, List.mem_append]; exact .inl hp
  have hin2 : ∀ p ∈ own.flatten, p ∈ (seg :: own).flatten := fun p hp => by simp only [List.flatten_cons, List.mem_append]; exact .inr hp
  have hfind : ∀ p ∈ seg, seg.find? (fun q => q.1 == p.1) = some p := by
    intro p hp
    clear h n2 n3 hin hin2
    induction seg with
    | nil => cases hp
    | cons q r ih =>
      simp only [List.map_cons, List.nodup_cons] at n1
      by_cases he : q.1 = p.1
      · rcases List.mem_cons.1 hp with rfl | hp
        · simp
        · exact absurd (List.mem_map.2 ⟨p, hp, he.symm⟩) n1.1
      · rcases List.mem_cons.1 hp with rfl | hp
        · exact absurd rfl he
        · rw [List.find?_cons_of_neg (by simpa using he)]
          exact ih n1.2 hp
  have hadd : ∀ p ∈ seg, addH H seg p.1 = some p.2 := fun p hp => by unfold addH; rw [hfind p hp]
  have hnot : ∀ b, b ∉ seg.map (·.1) → addH H seg b = H b := by
    intro b hb
    unfold addH
    rw [List.find?_eq_none.2]
    intro p hp he
    exact hb (List.mem_map.2 ⟨p, hp, by simpa using he⟩)
  refine ⟨⟨h.os, h.tape, h.output, fun b o hb => ?_, fun p hp => h.own_at p (hin2 p hp), fun p hp => ?_, n2⟩, fun b o hb => ?_, hadd⟩
  · by_cases hc : b ∈ seg.map (·.1)
    · obtain ⟨p, hp, rfl⟩ := List.mem_map.1 hc
      rw [hadd p hp] at hb
      injection hb with hb
      subst hb
      exact h.own_at p (hin p hp)
    · rw [hnot b hc] at hb; exact h.imm b o hb
  · rw [hnot p.1 (fun hc => n3 p.1 hc p.1 (List.mem_map.2 ⟨p, hp, rfl⟩) rfl)]
    exact h.apart p (hin2 p hp)
  · rw [hnot b (fun hc => ?_)]
    · exact hb
    · obtain ⟨p, hp, rfl⟩ := List.mem_map.1 hc
      rw [h.apart p (hin p hp)] at hb
      cases hb
end st
def lget : List Value → Nat → Option Value
  | [], _ => none
  | v :: _, 0 => some v
  | _ :: r, n + 1 => lget r n
theorem cR : ∀ (l : List Value) (n : Nat), lget l n = l[n]?
  | [], _ => by simp [lget]
  | _ :: _, 0 => rfl
  | _ :: r, n + 1 => by simp [lget, cR r n]
theorem lget_arr (c : Array Value) (n : Nat) : lget c.toList n = c[n]? := by rw [cR]; simp
def cel (H : Hp) (b o : Nat) : Option Value := match H b with | some (.cells c _ _) => c[o]? | _ => none
def cAt (c : Array Value) : Nat → List Value → Prop
  | _, [] => True
  | o, v :: r => lget c.toList o = some v ∧ cAt c (o + 1) r
def hAt (H : Hp) (b : Nat) : Nat → List Value → Prop
  | _, [] => True
  | o, v :: r => cel H b o = some v ∧ hAt H b (o + 1) r
def mkV (agg : Bool) (vs : List Value) : Option Value := if agg then some (.agg vs.toArray) else match vs with | [v] => some v | _ => none
theorem cAt.get {c : Array Value} : ∀ {vs : List Value} {o : Nat}, cAt c o vs → ∀ j v, vs[j]? = some v → c[o + j]? = some v
  | [], _, _, j, v, hv => by simp at hv
  | u :: r, o, h, 0, v, hv => by simp at hv; subst hv; rw [← lget_arr]; exact h.1
  | u :: r, o, h, j + 1, v, hv => by
    have := cAt.get h.2 j v (by simpa using hv)
    rw [← this]; congr 1; omega
theorem hAt.get {H : Hp} {b : Nat} : ∀ {vs : List Value} {o : Nat}, hAt H b o vs → ∀ j v, vs[j]? = some v → cel H b (o + j) = some v
  | [], _, _, j, v, hv => by simp at hv
  | u :: r, o, h, 0, v, hv => by simp at hv; subst hv; exact h.1
  | u :: r, o, h, j + 1, v, hv => by
    have := hAt.get h.2 j v (by simpa using hv)
    rw [← this]; congr 1; omega
theorem bB (b o j : Nat) : (⟨b, o, none⟩ : Addr).add j = ⟨b, o + j, none⟩ := by unfold Addr.add; split <;> simp_all
theorem aL {w : World} {g : Nat} {c : Array Value} {e : TypeId} {fz : Nat × Nat} (h : w.heap[g]? = some (.cells c e fz)) (o : Nat) : w.cell? ⟨g, o, none⟩ = c[o]? := by
  simp [World.cell?, h]
theorem St.cel {w0 w : World} {H : Hp} {own : List Seg} (h : St w0 H own w) {b o : Nat} {v : Value} (hc : cel H b o = some v) : w.cell? ⟨b, o, none⟩ = some v := by
  unfold K.cel at hc
  split at hc
  · rename_i c e fz hb
    rw [aL (h.imm _ _ hb)]; exact hc
  · cases hc
theorem bv {P : Program} {w : World} {t : TypeId} {agg : Bool} {n : Nat} {b o : Nat} {vs : List Value} {v : Value} (ht : Ty P t agg n) (hn : vs.length = n) (hv : mkV agg vs = some v)
    (hc : ∀ j u, vs[j]? = some u → w.cell? ⟨b, o + j, none⟩ = some u) : (loadVar t ⟨b, o, none⟩).run P w = .ok v w := by
  unfold loadVar
  simp only [Sem.run_bind, ht.isAgg, Result.andThen_ok]
  cases agg with
  | true =>
    simp only [mkV, if_true, Option.some.injEq] at hv
    subst hv; subst hn
    have := run_loadCells_list (P := P) w ⟨b, o, none⟩ vs (fun j u hu => by rw [bB]; exact hc j u hu)
    simp [ht.size, this]
  | false =>
    match vs, hv with
    | [u], hv =>
      simp only [mkV, Bool.false_eq_true, if_false, Option.some.injEq] at hv
      subst hv
      have := hc 0 u rfl
      simp only [Nat.add_zero] at this
      simp [run_load, this]
section mem
variable {P : Program} {w0 : World} {N : Nat} {Q : Exit → Act → World → Prop} {env : Env} {own : List Seg} {H : Hp} {ops : Array Oper} {rest : List Oper}
variable {d : Option Tmp} {ty : TypeId} {pos : String} {af : Array Edge}
theorem Qf (i j : Nat) {t : TypeId} {x : Operand} {g o : Nat} {seg : Seg} {c : Array Value} {e : TypeId} {fz : Nat × Nat} {v : Value}
    (hx : ev env x = some (.pointer (some ⟨g, o, none⟩))) (hi : own[i]? = some seg) (hj : seg[j]? = some (g, .cells c e fz)) [ht : Ty P t false 1] (hc : lget c.toList o = some v)
    (hd : okD N d = true) (h : TL P w0 N Q ops rest (ab d v env) own H) :
    TL P w0 N Q ops ({ dst := d, op := .load t x, type := ty, pos := pos, after := af, guard := none } :: rest) env own H :=
  TL.val rfl hd (fun a w ha hw => ⟨w, by
    have hb := hw.own_blk hi hj
    have := bv (P := P) (w := w) (b := g) (o := o) (vs := [v]) ht rfl rfl (fun k u hu => by
      rw [aL hb]
      exact (cAt.get (o := o) (vs := [v]) ⟨hc, trivial⟩ k u hu))
    simp [execOp, Instr.loadAt, Instr.sureAddr, ha.ev hx, this], hw⟩) h
theorem Qb (i j : Nat) {t : TypeId} {x : Operand} {g o : Nat} {seg : Seg} {c : Array Value} {e : TypeId} {fz : Nat × Nat} {n : Nat} (vs : List Value)
    (hx : ev env x = some (.pointer (some ⟨g, o, none⟩))) (hi : own[i]? = some seg) (hj : seg[j]? = some (g, .cells c e fz)) [ht : Ty P t true n] (hc : cAt c o vs) (hn : vs.length = n)
    (hd : okD N d = true) (h : TL P w0 N Q ops rest (ab d (.agg vs.toArray) env) own H) :
    TL P w0 N Q ops ({ dst := d, op := .load t x, type := ty, pos := pos, after := af, guard := none } :: rest) env own H :=
  TL.val rfl hd (fun a w ha hw => ⟨w, by
    have hb := hw.own_blk hi hj
    have := bv (P := P) (w := w) (b := g) (o := o) ht hn rfl (fun k u hu => by rw [aL hb]; exact hc.get k u hu)
    simp [execOp, Instr.loadAt, Instr.sureAddr, ha.ev hx, this], hw⟩) h
theorem TL.load_imm {t : TypeId} {x : Operand} {b o : Nat} {v : Value}
    (hx : ev env x = some (.pointer (some ⟨b, o, none⟩))) [ht : Ty P t false 1] (hc : cel H b o = some v)
    (hd : okD N d = true) (h : TL P w0 N Q ops rest (ab d v env) own H) :
    TL P w0 N Q ops ({ dst := d, op := .load t x, type := ty, pos := pos, after := af, guard := none } :: rest) env own H :=
  TL.val rfl hd (fun a w ha hw => ⟨w, by
    have := bv (P := P) (w := w) (b := b) (o := o) (vs := [v]) ht rfl rfl (fun k u hu => hw.cel (hAt.get (o := o) (vs := [v]) ⟨hc, trivial⟩ k u hu))
    simp [execOp, Instr.loadAt, Instr.sureAddr, ha.ev hx, this], hw⟩) h
theorem TL.load_immA {t : TypeId} {x : Operand} {b o : Nat} {n : Nat} {vs : List Value}
    (hx : ev env x = some (.pointer (some ⟨b, o, none⟩))) [ht : Ty P t true n] (hc : hAt H b o vs) (hn : vs.length = n)
    (hd : okD N d = true) (h : TL P w0 N Q ops rest (ab d (.agg vs.toArray) env) own H) :
    TL P w0 N Q ops ({ dst := d, op := .load t x, type := ty, pos := pos, after := af, guard := none } :: rest) env own H :=
  TL.val rfl hd (fun a w ha hw => ⟨w, by
    have := bv (P := P) (w := w) (b := b) (o := o) ht hn rfl (fun k u hu => hw.cel (hc.get k u hu))
    simp [execOp, Instr.loadAt, Instr.sureAddr, ha.ev hx, this], hw⟩) h
theorem TL.box {t : TypeId} {x : Operand} {v : Value} {c : Array Value} (hx : ev env x = some v) (hc : v.cells = c) (hd : okD N d = true)
    (h : ∀ g, TL P w0 N Q ops rest (ab d (.pointer (some ⟨g, 0, none⟩)) env) ([(g, .cells c t (0, 0))] :: own) H) :
    TL P w0 N Q ops ({ dst := d, op := .box t x, type := ty, pos := pos, after := af, guard := none } :: rest) env own H :=
  TL.valE (φ := fun v own' H' => ∃ g, v = .pointer (some ⟨g, 0, none⟩) ∧ own' = [(g, .cells c t (0, 0))] :: own ∧ H' = H) rfl hd
    (fun a w ha hw => ⟨_, _, _, w.alloc (.cells c t), by simp [execOp, Instr.box, newVar, newRow, ha.ev hx, hc], ⟨w.heap.size, rfl, rfl, rfl⟩, hw.new _⟩)
    (by rintro v own' H' ⟨g, rfl, rfl, rfl⟩; exact h g)
theorem TL.alloc {t : TypeId} {i : TypeInfo} {z : Value} {c : Array Value} [hi : Inf P t i] (hz : i.zero = some z) (hc : z.cells = c) (hd : okD N d = true)
    (h : ∀ g, TL P w0 N Q ops rest (ab d (.pointer (some ⟨g, 0, none⟩)) env) ([(g, .cells c t (0, 0))] :: own) H) :
    TL P w0 N Q ops ({ dst := d, op := .alloc t, type := ty, pos := pos, after := af, guard := none } :: rest) env own H :=
  TL.valE (φ := fun v own' H' => ∃ g, v = .pointer (some ⟨g, 0, none⟩) ∧ own' = [(g, .cells c t (0, 0))] :: own ∧ H' = H) rfl hd
    (fun a w ha hw => ⟨_, _, _, w.alloc (.cells c t), by simp [execOp, Instr.alloc, zeroValue, typeInfo, hi.eq, hz, newVar, newRow, hc], ⟨w.heap.size, rfl, rfl, rfl⟩, hw.new _⟩)
    (by rintro v own' H' ⟨g, rfl, rfl, rfl⟩; exact h g)
theorem TL.fieldAddr {s : TypeId} {x : Operand} {f : Nat} {b o off : Nat} (hx : ev env x = some (.pointer (some ⟨b, o, none⟩))) [hf : Fld P s f off]
    (hd : okD N d = true) (h : TL P w0 N Q ops rest (ab d (.pointer (some ⟨b, o + off, none⟩)) env) own H) :
    TL P w0 N Q ops ({ dst := d, op := .fieldAddr s x f, type := ty, pos := pos, after := af, guard := none } :: rest) env own H :=
  Qd hd (fun a ha w => by
    obtain ⟨fs, fl, agg, n, h1, h2, rfl, h4, h5⟩ := hf.ex
    simp [execOp, Instr.fieldAt, ha.ev hx, run_underlying h1, h2, Instr.sureAddr, fieldPlace, h4.size, h5, bB]) h
theorem Qg {t e : TypeId} {x i : Operand} {b o n c : Nat} {k : IntKind} {iv : Int} {sz by_ : Nat} {z : Value} (j : Nat) (hx : ev env x = some (.slice (some ⟨b, o, none⟩) n c)) (hi : ev env i = some (.int k iv))
    [hU : Sl P t e sz by_ z] (hj : iv = (j : Int)) (hlt : j < n) (hd : okD N d = true) (h : TL P w0 N Q ops rest (ab d (.pointer (some ⟨b, o + j * sz, none⟩)) env) own H) :
    TL P w0 N Q ops ({ dst := d, op := .indexAddr t x i, type := ty, pos := pos, after := af, guard := none } :: rest) env own H :=
  Qd hd (fun a ha w => by
    subst hj
    simp [execOp, Instr.indexAt, ha.ev hx, ha.ev hi, asIntOf, run_underlying hU.und, hU.sizeOf, bB, hlt]) h
theorem TL.indexArr {t e : TypeId} {x i : Operand} {b o n : Nat} {k : IntKind} {iv : Int} {agg : Bool} {sz : Nat} (j : Nat) (hx : ev env x = some (.pointer (some ⟨b, o, none⟩))) (hi : ev env i = some (.int k iv))
    [hu : Und P t (.array n e)] [ht : Ty P e agg sz] (hj : iv = (j : Int)) (hlt : j < n) (hd : okD N d = true) (h : TL P w0 N Q ops rest (ab d (.pointer (some ⟨b, o + j * sz, none⟩)) env) own H) :
    TL P w0 N Q ops ({ dst := d, op := .indexAddr t x i, type := ty, pos := pos, after := af, guard := none } :: rest) env own H :=
  Qd hd (fun a ha w => by
    subst hj
    simp [execOp, Instr.indexAt, Instr.sureAddr, ha.ev hx, ha.ev hi, asIntOf, run_underlying hu.eq, ht.size, bB, hlt]) h
end mem
def ba (c : Array Value) : Nat → List Value → Array Value
  | _, [] => c
  | o, v :: r => ba (c.setIfInBounds o v) (o + 1) r
theorem cX {P : Program} (g o : Nat) (e : TypeId) : ∀ (vs : List Value) (i : Nat) (c : Array Value) (w : World), w.heap[g]? = some (.cells c e (0, 0)) → o + i + vs.length ≤ c.size → (∀ v ∈ vs, v.oneCell' = true) →
    (storeCells ⟨g, o, none⟩ vs i).run P w = .ok () (w.setRow g (ba c (o + i) vs))
  | [], i, c, w, hg, _, _ => by
    simp only [storeCells, ba]
    rw [setRow_self w g c e (0, 0) hg]; rfl
  | v :: r, i, c, w, hg, hl, h1 => by
    have hi : o + i < c.size := by simp at hl; omega
    have hcell : w.cell? ⟨g, o + i, none⟩ = some c[o + i] := by simp [World.cell?, hg, hi]
    have hfro : w.frozen? ⟨g, o + i, none⟩ = false := by simp [World.frozen?, hg]
    have hst : (store ((⟨g, o, none⟩ : Addr).add i) v).run P w = .ok () (w.setRow g (c.setIfInBounds (o + i) v)) := by
      rw [bB, run_store P w _ v _ (h1 v (by simp)), hcell]
      simp [hfro, setCell_eq_setRow w g (o + i) c e (0, 0) v hg]
    have ih := cX (P := P) g o e r (i + 1) (c.setIfInBounds (o + i) v) (w.setRow g (c.setIfInBounds (o + i) v)) (setRow_heap w g c _ e _ hg) (by simp at hl ⊢; omega) (fun x hx => h1 x (by simp [hx]))
    simp only [storeCells, Sem.run_bind, hst, Result.andThen_ok, ih, setRow_setRow, ba]
    rfl
theorem St.setRow {w0 w : World} {own : List Seg} {H : Hp} (h : St w0 H own w) {i j : Nat} {seg : Seg} (hi : own[i]? = some seg) {g : Nat} {c c' : Array Value} {e : TypeId} {fz : Nat × Nat} (hj : seg[j]? = some (g, .cells c e fz)) :
    St w0 H (own.set i (seg.set j (g, .cells c' e fz))) (w.setRow g c') := by
  obtain ⟨l1, l2, rfl, rfl⟩ := bp hj
  have aF : (l1 ++ (g, Obj.cells c e fz) :: l2).set l1.length (g, .cells c' e fz) = l1 ++ (g, .cells c' e fz) :: l2 := by simp
  rw [aF]
  have hb := h.own_blk hi hj
  have hk : (l1 ++ (g, Obj.cells c' e fz) :: l2).map (·.1) = (l1 ++ (g, Obj.cells c e fz) :: l2).map (·.1) := by simp
  have hnd : ((l1 ++ (g, Obj.cells c e fz) :: l2).map (·.1)).Nodup := by
    have hn := h.nodup
    obtain ⟨m1, m2, rfl, _⟩ := bp hi
    simp only [List.flatten_append, List.flatten_cons, List.map_append, List.nodup_append] at hn
    simpa only [List.map_append, List.nodup_append] using hn.2.1.1
  refine h.upd hi rfl ⟨rfl, Nat.le_refl _⟩ rfl (fun b hbl hnb => setRow_other w g b _ (fun he => hnb (by subst he; simp))) (fun p hp => ?_) (by rw [hk]; exact hnd) (fun p hp => .inl (by rw [← hk]; exact List.mem_map.2 ⟨p, hp, rfl⟩))
  by_cases hpg : p.1 = g
  · have : p = (g, .cells c' e fz) := by
      have hn2 := hnd
      rw [← hk] at hn2
      simp only [List.map_append, List.map_cons, List.nodup_append, List.nodup_cons, List.mem_cons] at hn2
      obtain ⟨n1, ⟨n2, n3⟩, n4⟩ := hn2
      rcases List.mem_append.1 hp with hq | hq
      · exact absurd hpg (n4 p.1 (List.mem_map.2 ⟨p, hq, rfl⟩) g (.inl rfl))
      · rcases List.mem_cons.1 hq with rfl | hq
        · rfl
        · exact absurd (List.mem_map.2 ⟨p, hq, hpg⟩) n2
    subst this
    exact setRow_heap w g c c' e fz hb
  · rw [setRow_other w g p.1 _ hpg]
    refine h.own_at p (h.mem_at hi ?_)
    rcases List.mem_append.1 hp with hq | hq
    · exact List.mem_append.2 (.inl hq)
    · rcases List.mem_cons.1 hq with rfl | hq
      · exact absurd rfl hpg
      · exact List.mem_append.2 (.inr (List.mem_cons_of_mem _ hq))
section mem
variable {P : Program} {w0 : World} {N : Nat} {Q : Exit → Act → World → Prop} {env : Env} {own : List Seg} {H : Hp} {ops : Array Oper} {rest : List Oper}
variable {d : Option Tmp} {ty : TypeId} {pos : String} {af : Array Edge}
theorem TL.store (i j : Nat) {t : TypeId} {x y : Operand} {g o : Nat} {seg : Seg} {c c' : Array Value} {e : TypeId} {agg : Bool} {n : Nat} {v : Value} {vs : List Value} {own' : List Seg}
    (hx : ev env x = some (.pointer (some ⟨g, o, none⟩))) (hy : ev env y = some v) (hi : own[i]? = some seg) (hj : seg[j]? = some (g, .cells c e (0, 0))) [ht : Ty P t agg n] (hv : v.cells = vs.toArray) (hn : vs.length = n)
    (h1 : ∀ u ∈ vs, u.oneCell' = true) (hf : o + vs.length ≤ c.size) (hc : ba c o vs = c') (ho : own.set i (seg.set j (g, .cells c' e (0, 0))) = own') (hd : okD N d = true)
    (h : TL P w0 N Q ops rest (ab d undef env) own' H) :
    TL P w0 N Q ops ({ dst := d, op := .store t x y, type := ty, pos := pos, after := af, guard := none } :: rest) env own H :=
  TL.skp rfl hd (fun a w ha hw => ⟨w.setRow g c', by
    have hb := hw.own_blk hi hj
    have hr := cX (P := P) g o e vs 0 c w hb (by simpa using hf) h1
    simp only [Nat.add_zero, hc] at hr
    simp [execOp, Instr.storeAt, Instr.sureAddr, storeVar, ha.ev hx, ha.ev hy, ht.size, hv, hn, hr], by rw [← ho]; exact hw.setRow hi hj⟩) h
theorem TL.makeSlice {t e : TypeId} {x y : Operand} {sz by_ : Nat} {z : Value} {kl kc : IntKind} {l : Int} (n : Nat) [hU : Sl P t e sz by_ z]
    (hx : ev env x = some (.int kl l)) (hy : ev env y = some (.int kc l)) (hl : l = (n : Int)) (hb : by_ * n ≤ 281474976710656) (hm : n ≤ 9223372036854775807) (hd : okD N d = true)
    (h : ∀ g, TL P w0 N Q ops rest (ab d (.slice (some ⟨g, 0, none⟩) n n) env) ([(g, .cells (madeCells z.cells (n * sz)) e (0, 0))] :: own) H) :
    TL P w0 N Q ops ({ dst := d, op := .makeSlice t x y, type := ty, pos := pos, after := af, guard := none } :: rest) env own H :=
  TL.valE (φ := fun v own' H' => ∃ g, v = .slice (some ⟨g, 0, none⟩) n n ∧ own' = [(g, .cells (madeCells z.cells (n * sz)) e (0, 0))] :: own ∧ H' = H) rfl hd
    (fun a w ha hw => by
      obtain ⟨i, hi, hz, rfl, rfl⟩ := hU.ex
      subst hl
      have hbi : (i.bytes : Int) * (n : Int) ≤ 281474976710656 := by
        have : ((i.bytes * n : Nat) : Int) ≤ 281474976710656 := by omega
        rwa [Int.natCast_mul] at this
      have hr := run_make (P := P) w t e i z hU.und hi hz kl kc (n : Int) (n : Int) (by omega) (Int.le_refl _) hbi (by omega)
      simp only [Int.toNat_natCast] at hr
      exact ⟨_, _, _, w.alloc (.cells (madeCells z.cells (n * i.size)) e), by simp [execOp, ha.ev hx, ha.ev hy, hr], ⟨w.heap.size, rfl, rfl, rfl⟩, hw.new _⟩)
    (by rintro v own' H' ⟨g, rfl, rfl, rfl⟩; exact h g)
def Row (e : TypeId) (sz : Nat) (v : Value) (n : Nat) (xs : List Value) (seg : Seg) : Prop :=
  xs.length = n * sz ∧ ((v = .slice none 0 0 ∧ n = 0 ∧ seg = []) ∨
    ∃ g cap cur, v = .slice (some ⟨g, 0, none⟩) n cap ∧ seg = [(g, .cells cur e (0, 0))] ∧ n ≤ cap ∧ cap ≤ maxLen ∧ cur.size = cap * sz ∧ cur.toList.take (n * sz) = xs)
theorem Row.nil (e : TypeId) (sz : Nat) : Row e sz (.slice none 0 0) 0 [] [] := ⟨by simp, .inl ⟨rfl, rfl, rfl⟩⟩
theorem Row.lit (e : TypeId) (sz n g : Nat) (c : Array Value) (hs : c.size = n * sz) (hm : n ≤ 9223372036854775807) : Row e sz (.slice (some ⟨g, 0, none⟩) n n) n c.toList [(g, .cells c e (0, 0))] :=
  ⟨by simp [hs], .inr ⟨g, n, c, rfl, rfl, Nat.le_refl _, hm, hs, by rw [← hs, ← Array.length_toList, List.take_length]⟩⟩
theorem Row.owns {e : TypeId} {sz : Nat} {v : Value} {n : Nat} {xs : List Value} {seg : Seg} (h : Row e sz v n xs seg) {w0 w : World} {H : Hp} {own : List Seg} (hw : St w0 H own w) {i : Nat} (hi : own[i]? = some seg) : w.ownsRow 0 e sz v n xs := by
  refine ⟨h.1, ?_⟩
  rcases h.2 with ⟨rfl, rfl, _⟩ | ⟨g, cap, cur, rfl, rfl, h1, h2, h3, h4⟩
  · exact .inl ⟨rfl, rfl⟩
  · exact .inr ⟨g, cap, cur, rfl, Nat.zero_le _, hw.own_blk hi (j := 0) rfl, h1, h2, h3, h4⟩
def Src (w0 : World) (H : Hp) (own : List Seg) (A : Option Addr) (sz m : Nat) (news : List Value) : Prop :=
  news.length = m * sz ∧ (∀ u ∈ news, u.oneCell' = true) ∧ (m = 0 ∧ news = [] ∨ ∃ b o, A = some ⟨b, o, none⟩ ∧ ∀ W, St w0 H own W → ∀ j u, news[j]? = some u → W.cell? ⟨b, o + j, none⟩ = some u)
theorem Src.ofOwn (i j : Nat) {w0 : World} {H : Hp} {own : List Seg} {seg : Seg} {g o sz m : Nat} {c : Array Value} {e : TypeId} {fz : Nat × Nat} {news : List Value} (hi : own[i]? = some seg) (hj : seg[j]? = some (g, .cells c e fz))
    (hl : news.length = m * sz) (h1 : ∀ u ∈ news, u.oneCell' = true) (hc : cAt c o news) : Src w0 H own (some ⟨g, o, none⟩) sz m news :=
  ⟨hl, h1, .inr ⟨g, o, rfl, fun _ hw k u hu => by rw [aL (hw.own_blk hi hj)]; exact hc.get k u hu⟩⟩
theorem Src.imm {w0 : World} {H : Hp} {own : List Seg} {b o sz m : Nat} {news : List Value}
    (hl : news.length = m * sz) (h1 : ∀ u ∈ news, u.oneCell' = true) (hc : hAt H b o news) : Src w0 H own (some ⟨b, o, none⟩) sz m news :=
  ⟨hl, h1, .inr ⟨b, o, rfl, fun _ hw k u hu => hw.cel (hc.get k u hu)⟩⟩
theorem Src.nil {w0 : World} {H : Hp} {own : List Seg} {A : Option Addr} {sz : Nat} : Src w0 H own A sz 0 [] := ⟨by simp, by simp, .inl ⟨rfl, rfl⟩⟩
theorem ft {P : Program} (w : World) (t ty e : TypeId) (i : TypeInfo) (size : Nat) (ht : P.underlying t = some (.slice e)) (hi : P.info? e = some i)
    (v : Value) (n : Nat) (xs : List Value) (hown : w.ownsRow 0 e size v n xs) (c : Nat) : (Builtin.append_ #[t, t] ty #[v, .slice none 0 c]).run P w = .ok v w := by
  rcases hown.2 with ⟨rfl, rfl⟩ | ⟨g, cap, cur, rfl, _, _, hnc, _⟩
  · simp [Builtin.append_, run_underlying ht, sizeOf, typeInfo, hi, Builtin.lenOf, Builtin.firstCells]
  · simp [Builtin.append_, run_underlying ht, sizeOf, typeInfo, hi, Builtin.lenOf, Builtin.firstCells, hnc, storeCells]
theorem iW {P : Program} {w0 w : World} {H : Hp} {own : List Seg} (hw : St w0 H own w) {t ty e : TypeId} {i : TypeInfo} {z : Value} {size : Nat} (ht : P.underlying t = some (.slice e)) (hi : P.info? e = some i) (hz : i.zero = some z)
    (hsize : i.size = size) (hzs : z.cells.size = size) (hsz : 0 < size) {k : Nat} {seg : Seg} (hk : own[k]? = some seg)
    {v : Value} {n : Nat} {xs : List Value} (hrow : Row e size v n xs seg) {A : Option Addr} {m c : Nat} {news : List Value} (hsrc : Src w0 H own A size m news)
    (h63 : n + m ≤ 9223372036854775807) (hbytes : (n + m) * i.bytes ≤ 140737488355328) :
    ∃ v' seg' w', (Builtin.append_ #[t, t] ty #[v, .slice A m c]).run P w = .ok v' w' ∧ Row e size v' (n + m) (xs ++ news) seg' ∧ St w0 H (own.set k seg') w' := by
  have hown := hrow.owns hw hk
  have key : ∀ (a : Addr), (∀ j u, news[j]? = some u → w.cell? (a.add j) = some u) → ∃ v' seg' w', (Builtin.append_ #[t, t] ty #[v, .slice (some a) m c]).run P w = .ok v' w' ∧ Row e size v' (n + m) (xs ++ news) seg' ∧ St w0 H (own.set k seg') w' := by
    intro a hnews
    obtain ⟨v', w', hr, hown', hg, _, hat⟩ := run_append_own_at (P := P) w 0 t ty e i z size i.bytes ht hi hz hsize rfl hzs hsz v n xs hown a m c news hsrc.1 hnews hsrc.2.1 h63 hbytes (Nat.zero_le _)
    rcases hown'.2 with ⟨rfl, hn0⟩ | ⟨g, cap, cur, rfl, _, hg', q1, q2, q3, q4⟩
    · refine ⟨_, [], w', hr, ⟨hown'.1, .inl ⟨rfl, hn0, rfl⟩⟩, ?_⟩
      refine hw.upd hk hg.os ⟨hg.tape, ku _ _ _ _ hr⟩ hg.output (fun b hb hnb => hg.block b hb ?_) (by simp) (by simp) (by simp)
      intro he
      rcases hrow.2 with ⟨rfl, _, _⟩ | ⟨g, cap, cur, rfl, rfl, _⟩
      · simp [Value.ownBlock] at he
      · simp [Value.ownBlock] at he; subst he; simp at hnb
    · refine ⟨_, [(g, .cells cur e (0, 0))], w', hr, ⟨hown'.1, .inr ⟨g, cap, cur, rfl, rfl, q1, q2, q3, q4⟩⟩, ?_⟩
      refine hw.upd hk hg.os ⟨hg.tape, ku _ _ _ _ hr⟩ hg.output (fun b hb hnb => hg.block b hb ?_) (by simpa using hg') (by simp) ?_
      · intro he
        rcases hrow.2 with ⟨rfl, _, _⟩ | ⟨g, cap, cur, rfl, rfl, _⟩
        · simp [Value.ownBlock] at he
        · simp [Value.ownBlock] at he; subst he; simp at hnb
      · intro p hp
        simp only [List.mem_singleton] at hp
        subst hp
        simp only [Value.ownBlock] at hat
        rcases hat with hat | hat
        · rcases hrow.2 with ⟨rfl, _, _⟩ | ⟨g2, cap2, cur2, rfl, rfl, _⟩
          · simp at hat
          · simp at hat; subst hat; left; simp
        · simp at hat; right; simp [hat]
  obtain ⟨hl, h1, hs⟩ := hsrc
  rcases hs with ⟨rfl, rfl⟩ | ⟨b, o, rfl, hcells⟩
  · rcases A with _ | a
    · refine ⟨v, seg, w, ft w t ty e i size ht hi v n xs hown c, by simpa using hrow, ?_⟩
      have : own.set k seg = own := by
        obtain ⟨l1, l2, rfl, rfl⟩ := bp hk
        simp
      rw [this]; exact hw
    · exact key a (by simp)
  · exact key _ (fun j u hu => by rw [bB]; exact hcells w hw j u hu)
theorem TL.append (k : Nat) {t e : TypeId} {x y : Operand} {size by_ : Nat} {z : Value} [hU : Sl P t e size by_ z] {seg : Seg} {v : Value} {A : Option Addr} {n m c : Nat} {xs news : List Value} (hx : ev env x = some v) (hy : ev env y = some (.slice A m c)) (hk : own[k]? = some seg)
    (hrow : Row e size v n xs seg) (hsrc : Src w0 H own A size m news) (h63 : n + m ≤ 9223372036854775807) (hbytes : (n + m) * by_ ≤ 140737488355328) (hd : okD N d = true)
    (h : ∀ v' seg', Row e size v' (n + m) (xs ++ news) seg' → TL P w0 N Q ops rest (ab d v' env) (own.set k seg') H) :
    TL P w0 N Q ops ({ dst := d, op := .call { callee := .builtin .append, args := #[x, y], argTypes := #[t, t] }, type := ty, pos := pos, after := af, guard := none } :: rest) env own H :=
  TL.valE (φ := fun v own' H' => ∃ seg', Row e size v (n + m) (xs ++ news) seg' ∧ own' = own.set k seg' ∧ H' = H) rfl hd
    (fun a w ha hw => by
      obtain ⟨i, hi, hz, hs, hb⟩ := hU.ex
      obtain ⟨v', seg', w', hr, h1, h2⟩ := iW (P := P) (ty := ty) (c := c) hw hU.und hi hz hs hU.zs hU.pos hk hrow hsrc h63 (by rw [hb]; exact hbytes)
      exact ⟨v', _, _, w', by simp [execOp, resolve, invoke, builtin, ha.ev hx, ha.ev hy, hr], ⟨seg', h1, rfl, rfl⟩, h2⟩)
    (by rintro v own' H' ⟨seg', h1, rfl, rfl⟩; exact h v seg' h1)
def optI (env : Env) : Option Operand → Option Int → Prop
  | none, r => r = none
  | some x, r => ∃ k n, r = some n ∧ ev env x = some (.int k n)
theorem TL.slice {t e : TypeId} {x : Operand} {lo hi : Option Operand} {A : Option Addr} {n c : Nat} {sz by_ : Nat} {z : Value} {li ri : Option Int} (l r : Nat) (hx : ev env x = some (.slice A n c)) [hU : Sl P t e sz by_ z]
    (h1 : optI env lo li) (h2 : optI env hi ri) (hl : li.getD 0 = (l : Int)) (hr : ri.getD (n : Int) = (r : Int)) (hlr : l ≤ r) (hrc : r ≤ c) (hd : okD N d = true)
    (h : TL P w0 N Q ops rest (ab d (.slice (if c = l then A else A.map (·.add (l * sz))) (r - l) (c - l)) env) own H) :
    TL P w0 N Q ops ({ dst := d, op := .slice t x lo hi none, type := ty, pos := pos, after := af, guard := none } :: rest) env own H :=
  Qd hd (fun a ha w => by
    have hb : (Instr.sliceBounds true n c (lo.map a.eval) (hi.map a.eval) none).run P w = .ok (l, r, c) w := by
      cases lo with
      | none =>
        simp only [optI] at h1
        subst h1
        have e1 : l = 0 := by simp at hl; omega
        subst e1
        cases hi with
        | none =>
          simp only [optI] at h2
          subst h2
          have e2 : n = r := by simp at hr; omega
          subst e2
          simp [Instr.sliceBounds]
        | some y2 =>
          obtain ⟨k2, q2, rfl, hq2⟩ := h2
          have e2 : q2 = (r : Int) := by simpa using hr
          subst e2
          simp [Instr.sliceBounds, Instr.sliceBound, asIntOf, ha.ev hq2, hrc]
      | some y1 =>
        obtain ⟨k1, q1, rfl, hq1⟩ := h1
        have e1 : q1 = (l : Int) := by simpa using hl
        subst e1
        cases hi with
        | none =>
          simp only [optI] at h2
          subst h2
          have e2 : n = r := by simp at hr; omega
          subst e2
          simp [Instr.sliceBounds, Instr.sliceBound, asIntOf, ha.ev hq1, hlr]
        | some y2 =>
          obtain ⟨k2, q2, rfl, hq2⟩ := h2
          have e2 : q2 = (r : Int) := by simpa using hr
          subst e2
          simp [Instr.sliceBounds, Instr.sliceBound, asIntOf, ha.ev hq1, ha.ev hq2, hrc, hlr]
    simp [execOp, Instr.sliceAt, Instr.slice, run_underlying hU.und, ha.ev hx, hb, hU.sizeOf]) h
end mem
structure OpSpec where
  deps : List Nat
  T : List Nat
  C : List Seg
  R : List Value → Value → List Seg → Hp → Prop
def OpSpec.tks (s : OpSpec) : List Nat := s.deps.filter fun j => s.T.contains j
def OpSpec.q (deps : List Nat) (v : Value) : OpSpec := ⟨deps, [], [], fun _ u s _ => u = v ∧ s = []⟩
def OpSpec.RM (s : OpSpec) (vs : List Value) (v : Value) (sg : List Seg) (H : Hp) : Prop := ∃ H1, Le H1 H ∧ s.R vs v sg H1
theorem OpSpec.RM.mono {s : OpSpec} {vs : List Value} {v : Value} {sg : List Seg} {H H' : Hp} (h : s.RM vs v sg H) (hl : Le H H') : s.RM vs v sg H' :=
  let ⟨H1, h1, h2⟩ := h
  ⟨H1, h1.trans hl, h2⟩
def aO (ops : Array Oper) (i : Nat) : Option Tmp := (ops[i]?).bind (·.dst)
def cJ (a : Act) : Env := a.tmps.toList.zipIdx.map fun (v, i) => (i, v)
theorem gL (e1 e2 : Env) (i : Nat) : lk (e1 ++ e2) i = match lk e1 i with | some v => some v | none => lk e2 i := by
  induction e1 with
  | nil => rfl
  | cons p r ih =>
    obtain ⟨j, u⟩ := p
    simp only [List.cons_append, lk]
    cases hb : Nat.beq j i <;> simp [ih]
theorem lk_zip (l : List Value) (k i : Nat) : lk ((l.zipIdx k).map fun (v, i) => (i, v)) i = if k ≤ i then l[i - k]? else none := by
  induction l generalizing k with
  | nil => simp [lk]
  | cons v r ih =>
    simp only [List.zipIdx_cons, List.map_cons, lk]
    cases hb : Nat.beq k i with
    | true =>
      have e : k = i := Nat.eq_of_beq_eq_true hb
      subst e
      simp
    | false =>
      have e : k ≠ i := Nat.ne_of_beq_eq_false hb
      simp only [cond_false, ih]
      by_cases h : k ≤ i
      · rw [if_pos h, if_pos (by omega)]
        have : i - k = (i - (k + 1)) + 1 := by omega
        rw [this, List.getElem?_cons_succ]
      · rw [if_neg h, if_neg (by omega)]
theorem bk (a : Act) (i : Nat) : lk (cJ a) i = a.tmps[i]? := by
  unfold cJ
  rw [lk_zip]
  simp
section
variable {P : Program} {w0 : World} {N : Nat} {Q : Exit → Act → World → Prop} {env : Env} {own : List Seg} {H : Hp} {l : List Oper}
def One (w0 : World) (N : Nat) (Q : Exit → Act → World → Prop) (s : OpSpec) (vs : List Value) (d : Option Tmp) (F : Env) (R : List Seg → Prop) (H : Hp) : Exit → Act → World → Prop
  | .normal, a, w => ∃ v sg H' o, At N (ab d v F) a ∧ s.RM vs v sg H' ∧ Le H H' ∧ R o ∧ St w0 H' (sg ++ o) w
  | e, a, w => Q e a w
inductive KM where
  | fix (K : List Seg)
  | inv (I : List Seg → Prop)
def KM.all (m : KM) (p : List Seg → Prop) : Prop := match m with | .fix K => p K | .inv I => ∀ K, I K → p K
def KM.has (m : KM) (o : List Seg) : Prop := match m with | .fix K => o = K | .inv I => I o
def KM.begins (m : KM) (C own : List Seg) : Prop := match m with | .fix K => (C ++ K).Perm own | .inv I => I own ∧ C = []
theorem KM.begin {m : KM} {C own : List Seg} (h : m.begins C own) : ∃ K, m.has K ∧ (C ++ K).Perm own := by
  cases m with
  | fix K => exact ⟨K, rfl, h⟩
  | inv I => obtain ⟨h1, rfl⟩ := h; exact ⟨own, h1, .refl _⟩
def KM.R (m : KM) (X o : List Seg) : Prop := match m with | .fix K => o = K ++ X | .inv I => ∃ K, I K ∧ o = K ++ X
theorem KM.elim {m : KM} {p : List Seg → Prop} (h : m.all p) {K : List Seg} (hK : m.has K) : p K := by
  cases m with
  | fix K' => cases hK; exact h
  | inv I => exact h K hK
theorem KM.intro {m : KM} {p : List Seg → Prop} (h : ∀ K, m.has K → p K) : m.all p := by
  cases m with
  | fix K' => exact h _ rfl
  | inv I => exact h
theorem KM.out {m : KM} {X o : List Seg} (h : m.R X o) : ∃ K, m.has K ∧ o = K ++ X := by
  cases m with
  | fix K' => exact ⟨K', rfl, h⟩
  | inv I => exact h
theorem Qc {s : OpSpec} {vs : List Value} {d : Option Tmp} {F E : Env} {KX : List Seg} {H' : Hp} {v : Value} (sg : List Seg) (hF : ∀ i u, lk E i = some u → lk F i = some u) (hle : Le H H') (hR : s.R vs v sg H') :
    TQ w0 N (One w0 N Q s vs d F (fun o => o = KX) H) .normal (ab d v (E ++ F)) (sg ++ KX) H' := fun a w ha hw => by
  refine ⟨v, sg, H', KX, ⟨ha.defers, ha.size, fun i u hu => ha.slots i u ?_⟩, ⟨H', Le.refl _, hR⟩, hle, rfl, hw⟩
  have key : ∀ u, lk F i = some u → lk (E ++ F) i = some u := by
    intro u hu
    rw [gL]
    cases he : lk E i with
    | none => exact hu
    | some x => rw [hF i x he] at hu; exact hu
  cases d with
  | none => exact key u hu
  | some d =>
    simp only [ab, lk] at hu ⊢
    cases hb : Nat.beq d i with
    | true => simpa [hb] using hu
    | false => simp only [hb, cond_false] at hu ⊢; exact key u hu
def Lnk (ops : Array Oper) (F : Env) (ds : List Nat) (us : List Value) : Prop := ∀ (k j : Nat) (d : Tmp), ds[k]? = some j → aO ops j = some d → lk F d = us[k]?
theorem Lnk.at {ops : Array Oper} {F E : Env} {ds : List Nat} {us : List Value} (h : Lnk ops F ds us) (hF : ∀ i u, lk E i = some u → lk F i = some u) (k j d : Nat) {v : Value} (h1 : ds[k]? = some j) (h2 : aO ops j = some d) (hv : lk E d = some v) : us[k]? = some v := by rw [← h k j d h1 h2, hF d v hv]
def Deps (ops : Array Oper) (specs : List OpSpec) (F : Env) (H : Hp) (T : List Nat) : List Nat → (List Value → Env → List Seg → Prop) → Prop
  | [], k => k [] [] []
  | j :: js, k => ∀ (us : {us : List Value // Lnk ops F (specs.getD j (OpSpec.q [] undef)).deps us}) v sg H1, Le H1 H → (specs.getD j (OpSpec.q [] undef)).R us.1 v sg H1 → Deps ops specs F H T js (fun vs E S => k (v :: vs) (ab (aO ops j) v E) (if T.contains j then sg ++ S else S))
def ln (P : Program) (w0 : World) (N : Nat) (Q : Exit → Act → World → Prop) (l : List Oper) (specs : List OpSpec) (env : Env) (K : KM) (H : Hp) (i : Nat) (s : OpSpec) : Prop :=
  K.all fun o => ∀ H' X F, Le H H' → Deps l.toArray specs F H' s.T s.deps (fun vs E S => (∀ j u, lk (E ++ env) j = some u → lk F j = some u) →
    TL P w0 N (One w0 N Q s vs (aO l.toArray i) F (K.R X) H') l.toArray ((l.drop i).take 1) ((E ++ env) ++ F) (S ++ (s.C ++ (o ++ X))) H')
def Steps (P : Program) (w0 : World) (N : Nat) (Q : Exit → Act → World → Prop) (l : List Oper) (specs : List OpSpec) (env : Env) (K : KM) (H : Hp) : Nat → List OpSpec → Prop
  | _, [] => True
  | i, s :: r => ln P w0 N Q l specs env K H i s ∧ Steps P w0 N Q l specs env K H (i + 1) r
def Fin (P : Program) (w0 : World) (N : Nat) (Q : Exit → Act → World → Prop) (l : List Oper) (n : Nat) (tk : Nat → Bool) (H : Hp) : Nat → List OpSpec → List Value → Env → List Seg → Prop
  | _, [], _, env, own => TL P w0 N Q l.toArray (l.drop n) env own H
  | i, s :: r, vs, env, own => ∀ v sg H1, Le H1 H → s.R (s.deps.map fun j => vs.getD j undef) v sg H1 → Fin P w0 N Q l n tk H (i + 1) r (vs ++ [v]) (ab (aO l.toArray i) v env) ((if tk i then [] else sg) ++ own)
def depsB (ops : Array Oper) (specs : List OpSpec) : Bool :=
  (List.range specs.length).all fun i => (specs.getD i (OpSpec.q [] undef)).deps.all fun j => decide (j < i) && Region.waitsFor .any ops i j
def cY (specs : List OpSpec) : List Nat := specs.flatMap OpSpec.tks
def bc : List Nat → Bool
  | [] => true
  | a :: r => !r.contains a && bc r
theorem cZ : ∀ {l : List Nat}, bc l = true → l.Nodup
  | [], _ => List.nodup_nil
  | a :: r, h => by
    simp only [bc, Bool.and_eq_true, Bool.not_eq_true', List.contains_eq_mem, decide_eq_false_iff_not] at h
    exact List.nodup_cons.2 ⟨h.1, cZ h.2⟩
def takeB (specs : List OpSpec) : Bool := bc (cY specs)
def backB (ops : Array Oper) : Bool := (List.range ops.size).all fun i => (ops.getD i default).after.all fun e => !Region.binds .any e || decide (e.on < i)
def dstB (N n : Nat) (ops : Array Oper) (keys : List Nat) : Bool :=
  (List.range n).all fun i => match aO ops i with
    | none => true
    | some d => Nat.blt d N && !keys.contains d && (List.range n).all fun j => decide (j = i) || !(aO ops j == some d)
def iX (ops : Array Oper) (n : Nat) : Bool :=
  (decide (n = ops.size)) || (decide (n < ops.size) && Region.sinkB .any ops n && Region.chainB .any ops n && Region.seqB .any ops (ops.size - n) n (Array.replicate n true ++ Array.replicate (ops.size - n) false))
end
section main
variable {P : Program} {w0 : World} {N : Nat} {Q : Exit → Act → World → Prop} {env : Env} {own : List Seg} {H : Hp} {l : List Oper}
def aj (specs : List OpSpec) (i : Nat) : OpSpec := specs.getD i (OpSpec.q [] undef)
theorem Deps.elim {ops : Array Oper} {specs : List OpSpec} {F : Env} {H : Hp} {T : List Nat} {vals : Nat → Value} {sgs : Nat → List Seg} :
    ∀ {js : List Nat} {k : List Value → Env → List Seg → Prop}, Deps ops specs F H T js k → (∀ j ∈ js, ∃ us, Lnk ops F (aj specs j).deps us ∧ (aj specs j).RM us (vals j) (sgs j) H) →
      k (js.map vals) (js.foldr (fun j E => ab (aO ops j) (vals j) E) []) ((js.filter fun j => T.contains j).flatMap sgs)
  | [], _, h, _ => h
  | j :: r, k, h, hv => by
    obtain ⟨us, hus, H1, h1, h2⟩ := hv j (by simp)
    have := Deps.elim (js := r) (k := fun vs E S => k (vals j :: vs) (ab (aO ops j) (vals j) E) (if T.contains j then sgs j ++ S else S)) (h ⟨us, hus⟩ _ _ H1 h1 h2) (fun i hi => hv i (by simp [hi]))
    have e : ((j :: r).filter fun j => T.contains j).flatMap sgs = if T.contains j = true then sgs j ++ (r.filter fun j => T.contains j).flatMap sgs else (r.filter fun j => T.contains j).flatMap sgs := by
      rw [List.filter_cons]
      split <;> rfl
    rw [e]
    exact this
theorem iY {ops : Array Oper} {vals : Nat → Value} {a : Act} : ∀ {js : List Nat}, (∀ j ∈ js, ∀ d, aO ops j = some d → a.tmps[d]? = some (vals j)) →
    ∀ i u, lk (js.foldr (fun j E => ab (aO ops j) (vals j) E) []) i = some u → a.tmps[i]? = some u
  | [], _, i, u, hu => by simp [lk] at hu
  | j :: r, h, i, u, hu => by
    simp only [List.foldr_cons] at hu
    cases hd : aO ops j with
    | none => rw [hd] at hu; exact iY (js := r) (fun k hk => h k (by simp [hk])) i u hu
    | some d =>
      rw [hd] at hu
      simp only [ab, lk] at hu
      cases hb : Nat.beq d i with
      | true =>
        have e : d = i := Nat.eq_of_beq_eq_true hb
        subst e
        simp only [hb, cond_true, Option.some.injEq] at hu
        subst hu
        exact h j (by simp) d hd
      | false =>
        simp only [hb, cond_false] at hu
        exact iY (js := r) (fun k hk => h k (by simp [hk])) i u hu
theorem Fin.elim {n : Nat} {tk : Nat → Bool} {H : Hp} {vals : Nat → Value} {sgs : Nat → List Seg} : ∀ {r : List OpSpec} {i : Nat} {vs : List Value} {env : Env} {own : List Seg}, Fin P w0 N Q l n tk H i r vs env own →
    vs = (List.range i).map vals → (∀ k, k < r.length → ∀ j ∈ (r.getD k (OpSpec.q [] undef)).deps, j < i + k) →
    (∀ k, k < r.length → (r.getD k (OpSpec.q [] undef)).RM ((r.getD k (OpSpec.q [] undef)).deps.map vals) (vals (i + k)) (sgs (i + k)) H) →
    TL P w0 N Q l.toArray (l.drop n) ((List.range' i r.length).foldl (fun E j => ab (aO l.toArray j) (vals j) E) env) ((List.range' i r.length).foldl (fun o j => (if tk j then [] else sgs j) ++ o) own) H
  | [], _, _, _, _, h, _, _, _ => h
  | s :: r, i, vs, env, own, h, hvs, hd, hv => by
    obtain ⟨H1, h1, h2⟩ := hv 0 (by simp)
    have hd0 := hd 0 (by simp)
    simp only [List.getD_cons_zero, Nat.add_zero] at h2 hd0
    have e : (s.deps.map fun j => vs.getD j undef) = s.deps.map vals := by
      refine List.map_congr_left fun j hj => ?_
      have := hd0 j hj
      rw [hvs, List.getD_eq_getElem?_getD]
      simp [this]
    have := Fin.elim (r := r) (i := i + 1) (vals := vals) (sgs := sgs) (h _ _ H1 h1 (by rw [e]; exact h2)) (by rw [hvs, List.range_succ]; simp) (fun k hk j hj => by
      have := hd (k + 1) (by simp; omega) j (by simpa using hj)
      omega) (fun k hk => by
      have := hv (k + 1) (by simp; omega)
      rw [show i + 1 + k = i + (k + 1) by omega]
      simpa using this)
    simpa [List.range'_succ] using this
theorem Steps.get {specs : List OpSpec} {K : KM} : ∀ {r : List OpSpec} {i : Nat}, Steps P w0 N Q l specs env K H i r → ∀ k, k < r.length → ln P w0 N Q l specs env K H (i + k) (r.getD k (OpSpec.q [] undef))
  | [], _, _, k, hk => by simp at hk
  | s :: r, i, h, 0, _ => h.1
  | s :: r, i, h, k + 1, hk => by
    have := Steps.get (r := r) h.2 k (by simpa using hk)
    rw [show i + (k + 1) = i + 1 + k by omega]
    simpa using this
def gone (specs : List OpSpec) (n : Nat) (listed : Array Bool) (j : Nat) : Bool := (List.range n).any fun k => listed.getD k false && (aj specs k).tks.contains j
def comp (specs : List OpSpec) (n : Nat) (sgs : Nat → List Seg) (listed : Array Bool) (i : Nat) : List Seg := if listed.getD i false = true then (if gone specs n listed i then [] else sgs i) else (aj specs i).C
theorem tks_sub {s : OpSpec} {j : Nat} (h : j ∈ s.tks) : j ∈ s.deps := (List.mem_filter.1 h).1
theorem iZ : ∀ {specs : List OpSpec} (_ : (cY specs).Nodup) {i k j : Nat}, j ∈ (aj specs i).tks → j ∈ (aj specs k).tks → i = k
  | [], _, i, k, j, hi, _ => by simp [aj, OpSpec.q, OpSpec.tks] at hi
  | s :: r, h, i, k, j, hi, hk => by
    have h' := h
    simp only [cY, List.flatMap_cons, List.nodup_append] at h'
    obtain ⟨_, h2, h3⟩ := h'
    have hin : ∀ {i}, j ∈ (aj r i).tks → j ∈ r.flatMap OpSpec.tks := by
      intro i hi
      have hlt : i < r.length := by
        rcases Nat.lt_or_ge i r.length with hl | hl
        · exact hl
        · simp [aj, List.getD_eq_getElem?_getD, List.getElem?_eq_none hl, OpSpec.q, OpSpec.tks] at hi
      refine List.mem_flatMap.2 ⟨r[i], List.getElem_mem hlt, ?_⟩
      simpa [aj, List.getD_eq_getElem?_getD, List.getElem?_eq_getElem hlt] using hi
    cases i with
    | zero =>
      cases k with
      | zero => rfl
      | succ k => exact absurd rfl (h3 j hi j (hin hk))
    | succ i =>
      cases k with
      | zero => exact absurd rfl (h3 j hk j (hin hi))
      | succ k => exact congrArg (· + 1) (iZ (specs := r) h2 hi hk)
theorem kv : ∀ {specs : List OpSpec} (_ : (cY specs).Nodup) (i : Nat), (aj specs i).tks.Nodup
  | [], _, i => by simp [aj, OpSpec.q, OpSpec.tks]
  | s :: r, h, i => by
    simp only [cY, List.flatMap_cons, List.nodup_append] at h
    cases i with
    | zero => exact h.1
    | succ i => exact kv (specs := r) h.2.1 i
theorem kx {α : Type} {f : Nat → List α} {j : Nat} : ∀ {L : List Nat}, L.Nodup → j ∈ L → (L.flatMap f).Perm (f j ++ L.flatMap fun k => if k = j then [] else f k)
  | k :: L, hn, hj => by
    have hn' := List.nodup_cons.1 hn
    simp only [List.flatMap_cons]
    rcases List.mem_cons.1 hj with rfl | hj
    · have e : (L.flatMap fun k => if k = j then [] else f k) = L.flatMap f := by
        have : ∀ x ∈ L, (if x = j then [] else f x) = f x := fun x hx => if_neg (fun he : x = j => hn'.1 (he ▸ hx))
        rw [List.flatMap_def, List.flatMap_def, List.map_congr_left this]
      rw [if_pos rfl, e]
      exact .refl _
    · have hkj : k ≠ j := fun he => hn'.1 (he ▸ hj)
      rw [if_neg hkj]
      refine ((kx hn'.2 hj).append_left (f k)).trans ?_
      rw [← List.append_assoc, ← List.append_assoc]
      exact List.Perm.append_right _ List.perm_append_comm
theorem fG {α : Type} {f : Nat → List α} {L : List Nat} (hL : L.Nodup) : ∀ {S : List Nat}, S.Nodup → (∀ j ∈ S, j ∈ L) → (L.flatMap f).Perm (S.flatMap f ++ L.flatMap fun k => if k ∈ S then [] else f k)
  | [], _, _ => by simp
  | j :: S, hS, hj => by
    have hS' := List.nodup_cons.1 hS
    have ih := fG (f := f) hL hS'.2 (fun x hx => hj x (by simp [hx]))
    refine ih.trans ?_
    have h1 := kx (f := fun k => if k ∈ S then [] else f k) hL (hj j (by simp))
    simp only [if_neg hS'.1] at h1
    simp only [List.flatMap_cons]
    refine (h1.append_left _).trans ?_
    rw [List.append_assoc, ← List.append_assoc (S.flatMap f)]
    have e : (L.flatMap fun k => if k = j then [] else if k ∈ S then [] else f k) = L.flatMap fun k => if k ∈ j :: S then [] else f k := by
      have : ∀ x ∈ L, (if x = j then [] else if x ∈ S then [] else f x) = if x ∈ j :: S then [] else f x := by
        intro x _
        by_cases h2 : x = j
        · simp [h2]
        · by_cases h3 : x ∈ S <;> simp [h2, h3]
      rw [List.flatMap_def, List.flatMap_def, List.map_congr_left this]
    rw [e, ← List.append_assoc (f j)]
    exact List.Perm.append_right _ List.perm_append_comm
structure Inv (w0 : World) (N n : Nat) (ops : Array Oper) (specs : List OpSpec) (env : Env) (K : List Seg) (H : Hp) (listed : Array Bool) (a : Act) (w : World) (vals : Nat → Value) (sgs : Nat → List Seg) (H' : Hp) : Prop where
  at_ : At N env a
  slot : ∀ i, i < n → listed.getD i false = true → ∀ d, aO ops i = some d → a.tmps[d]? = some (vals i)
  rel : ∀ i, i < n → listed.getD i false = true → (aj specs i).RM ((aj specs i).deps.map vals) (vals i) (sgs i) H' ∧ ∀ j ∈ (aj specs i).deps, listed.getD j false = true
  le : Le H H'
  st : St w0 H' (K ++ (List.range n).flatMap (comp specs n sgs listed)) w
theorem lk_mem {env : Env} {d : Nat} {u : Value} (hu : lk env d = some u) : d ∈ env.map (·.1) := by
  induction env with
  | nil => cases hu
  | cons p r ih =>
    obtain ⟨j, x⟩ := p
    simp only [lk] at hu
    cases hb : Nat.beq j d with
    | true => have := Nat.eq_of_beq_eq_true hb; simp [this]
    | false => simp only [hb, cond_false] at hu; exact List.mem_cons_of_mem _ (ih hu)
theorem m9 {n i : Nat} (hi : i < n) : ∃ l1 l2, List.range n = l1 ++ i :: l2 ∧ i ∉ l1 ∧ i ∉ l2 := by
  obtain ⟨l1, l2, h1, _⟩ := bp (l := List.range n) (i := i) (x := i) (by simp [hi])
  have hn := List.nodup_range (n := n)
  rw [h1] at hn
  simp only [List.nodup_append, List.nodup_cons, List.mem_cons] at hn
  obtain ⟨_, ⟨n2, _⟩, n4⟩ := hn
  exact ⟨l1, l2, h1, fun hc => n4 i hc i (.inl rfl) rfl, n2⟩
theorem bw {α β : Type} {l : List α} {f g : α → List β} (h : ∀ x ∈ l, f x = g x) : l.flatMap f = l.flatMap g := by
  induction l with
  | nil => rfl
  | cons x r ih => simp only [List.flatMap_cons]; rw [h x (by simp), ih (fun y hy => h y (by simp [hy]))]
theorem na {n : Nat} {ops : Array Oper} {keys : List Nat} (h : dstB N n ops keys = true) {i : Nat} (hi : i < n) {d : Tmp} (hd : aO ops i = some d) : d < N ∧ d ∉ keys ∧ ∀ j, j < n → j ≠ i → aO ops j ≠ some d := by
  have h1 := List.all_eq_true.1 h i (List.mem_range.2 hi)
  rw [hd] at h1
  simp only [Bool.and_eq_true, Bool.not_eq_true', List.all_eq_true, Bool.or_eq_true, decide_eq_true_eq, List.mem_range] at h1
  refine ⟨by simpa [Nat.blt_eq] using h1.1.1, by simpa using h1.1.2, fun j hj hne hc => ?_⟩
  rcases h1.2 j hj with h2 | h2
  · exact hne h2
  · simp [hc] at h2
theorem draw_step {n i : Nat} {specs : List OpSpec} {M : KM} {K : List Seg} {listed : Array Bool} {a : Act} {w : World} {vals : Nat → Value} {sgs : Nat → List Seg} {H' : Hp}
    (hlen : specs.length = n) (hd : depsB l.toArray specs = true) (htk : takeB specs = true) (hdst : dstB N n l.toArray (env.map (·.1)) = true) (hsteps : Steps P w0 N Q l specs env M H 0 specs) (hK : M.has K)
    (hinv : Inv w0 N n l.toArray specs env K H listed a w vals sgs H') (hsz : listed.size = l.toArray.size) (hi : i ∈ Region.ready .any l.toArray listed) (hin : i < n) :
    wpOp P l.toArray Q i (fun a' w' => ∃ vals' sgs' H'' K', M.has K' ∧ Inv w0 N n l.toArray specs env K' H (listed.setIfInBounds i true) a' w' vals' sgs' H'') a w := by
  obtain ⟨hun, oi, hoi, aP⟩ := mem_ready.1 hi
  have hil : i < l.length := by simpa using (Array.getElem?_eq_some_iff.1 hoi).1
  have hunf : listed.getD i false = false := getD_both hun
  have hdeps : ∀ j ∈ (aj specs i).deps, j < n ∧ listed.getD j false = true := by
    intro j hj
    have h1 := List.all_eq_true.1 (List.all_eq_true.1 hd i (List.mem_range.2 (by omega))) j hj
    simp only [Bool.and_eq_true, decide_eq_true_eq] at h1
    refine ⟨by omega, ?_⟩
    obtain ⟨oj, hoj, e, he, hb, hon⟩ := Region.waitsFor_spec h1.2
    have : oj = oi := Option.some.inj (hoj.symm.trans hoi)
    subst this
    have := aP e he hb
    rwa [hon] at this
  have hnd : (cY specs).Nodup := cZ htk
  have hL := List.nodup_range (n := n)
  have hT : ∀ j ∈ (aj specs i).tks, j < n ∧ listed.getD j false = true ∧ gone specs n listed j = false := by
    intro j hj
    obtain ⟨h1, h2⟩ := hdeps j (tks_sub hj)
    refine ⟨h1, h2, ?_⟩
    cases hg : gone specs n listed j with
    | false => rfl
    | true =>
      obtain ⟨k, hk, hk2⟩ := List.any_eq_true.1 hg
      simp only [Bool.and_eq_true, List.contains_iff_mem] at hk2
      have := iZ hnd hj hk2.2
      subst this
      rw [hunf] at hk2
      exact absurd hk2.1 (by simp)
  have hiT : i ∉ (aj specs i).tks := fun h => by
    have := (hT i h).2.1
    rw [hunf] at this
    cases this
  let S := (aj specs i).tks ++ [i]
  have hS : S.Nodup := by
    simp only [S, List.nodup_append]
    refine ⟨kv hnd i, by simp, fun a ha b hb he => ?_⟩
    simp only [List.mem_singleton] at hb
    subst hb; subst he
    exact hiT ha
  have hSL : ∀ j ∈ S, j ∈ List.range n := by
    intro j hj
    rcases List.mem_append.1 hj with h | h
    · exact List.mem_range.2 (hT j h).1
    · simp only [List.mem_singleton] at h; subst h; exact List.mem_range.2 hin
  let X := (List.range n).flatMap fun k => if k ∈ S then [] else comp specs n sgs listed k
  have hX : ((List.range n).flatMap (comp specs n sgs listed)).Perm ((aj specs i).tks.flatMap sgs ++ ((aj specs i).C ++ X)) := by
    refine (fG (f := comp specs n sgs listed) hL hS hSL).trans ?_
    have e1 : (aj specs i).tks.flatMap (comp specs n sgs listed) = (aj specs i).tks.flatMap sgs := bw fun j hj => by
      have := hT j hj
      simp only [comp, this.2.1, this.2.2, if_true, Bool.false_eq_true, if_false]
    have e2 : comp specs n sgs listed i = (aj specs i).C := by simp only [comp, hunf, Bool.false_eq_true, if_false]
    simp only [S, List.flatMap_append, List.flatMap_cons, List.flatMap_nil, List.append_nil, e1, e2, List.append_assoc]
    exact .refl _
  have hst : St w0 H' ((aj specs i).tks.flatMap sgs ++ ((aj specs i).C ++ (K ++ X))) w := by
    refine hinv.st.perm ?_
    refine List.Perm.symm ((hX.append_left K).trans ?_)
    rw [← List.append_assoc K]
    refine (List.Perm.append_right _ List.perm_append_comm).trans ?_
    rw [List.append_assoc, ← List.append_assoc K]
    refine List.Perm.append_left _ ?_
    rw [← List.append_assoc (aj specs i).C K]
    exact List.Perm.append_right _ List.perm_append_comm
  have hob : ln P w0 N Q l specs env M H i (aj specs i) := by
    have := Steps.get hsteps i (by omega)
    rw [Nat.zero_add] at this
    exact this
  have h1 := Deps.elim (vals := vals) (sgs := sgs) (KM.elim hob hK H' X (cJ a) hinv.le) (fun j hj => ⟨_, fun k j' d hk hd' => by
    have hj2 := (hinv.rel j (hdeps j hj).1 (hdeps j hj).2).2 j' (List.mem_of_getElem? hk)
    have h1 := List.all_eq_true.1 (List.all_eq_true.1 hd j (List.mem_range.2 (by rw [hlen]; exact (hdeps j hj).1))) j' (List.mem_of_getElem? hk)
    simp only [Bool.and_eq_true, decide_eq_true_eq] at h1
    rw [bk, hinv.slot j' (by have := (hdeps j hj).1; omega) hj2 d hd', List.getElem?_map, hk]; rfl, (hinv.rel j (hdeps j hj).1 (hdeps j hj).2).1⟩)
  have hF : ∀ j u, lk ((aj specs i).deps.foldr (fun j E => ab (aO l.toArray j) (vals j) E) [] ++ env) j = some u → lk (cJ a) j = some u := by
    intro j u hu
    rw [bk]
    rw [gL] at hu
    cases he : lk ((aj specs i).deps.foldr (fun j E => ab (aO l.toArray j) (vals j) E) []) j with
    | none => rw [he] at hu; exact hinv.at_.slots j u hu
    | some x =>
      rw [he] at hu
      injection hu with hu
      subst hu
      exact iY (fun k hk d hd => hinv.slot k (hdeps k hk).1 (hdeps k hk).2 d hd) j x he
  have h2 := h1 hF a w ⟨hinv.at_.defers, hinv.at_.size, fun j u hu => ?_⟩ hst
  · have hdrop : (l.drop i).take 1 = [oi] := by
      have : l[i]? = some oi := by simpa using hoi
      obtain ⟨hlt, he⟩ := List.getElem?_eq_some_iff.1 this
      rw [List.drop_eq_getElem_cons hlt]
      simp [he]
    rw [hdrop] at h2
    have hdo : aO l.toArray i = oi.dst := by simp only [aO, hoi, Option.bind_some]
    have fin : ∀ a' w', One w0 N Q (aj specs i) ((aj specs i).deps.map vals) (aO l.toArray i) (cJ a) (M.R X) H' .normal a' w' →
        ∃ vals' sgs' H'' K', M.has K' ∧ Inv w0 N n l.toArray specs env K' H (listed.setIfInBounds i true) a' w' vals' sgs' H'' := by
      rintro a' w' ⟨v, sg, H2, o, ha', hR, hle, ho, hw'⟩
      obtain ⟨K', hK', rfl⟩ := KM.out ho
      have hmore : ∀ j, listed.getD j false = true → (listed.setIfInBounds i true).getD j false = true := by
        intro j hj
        have hji : i ≠ j := by
          rintro rfl
          rw [hunf] at hj
          cases hj
        rw [getD_set_ne false hji]
        exact hj
      have hother : ∀ k u, (∀ d, aO l.toArray i = some d → d ≠ k) → a.tmps[k]? = some u → a'.tmps[k]? = some u := by
        intro k u hk hu
        refine ha'.slots k u ?_
        cases hdd : aO l.toArray i with
        | none => simpa [ab, bk] using hu
        | some d =>
          have hne := hk d hdd
          have hb : Nat.beq d k = false := by
            cases hb : Nat.beq d k with
            | false => rfl
            | true => exact absurd (Nat.eq_of_beq_eq_true hb) hne
          simp only [ab, lk, hb, cond_false, bk]
          exact hu
      refine ⟨fun k => if k = i then v else vals k, fun k => if k = i then sg else sgs k, H2, K', hK', ⟨⟨ha'.defers, ha'.size, fun k u hu => ?_⟩, fun k hk hl d hdk => ?_, fun k hk hl => ?_, hinv.le.trans hle, ?_⟩⟩
      · refine hother k u (fun d hdd he => ?_) (hinv.at_.slots k u hu)
        have := (na hdst hin hdd).2.1
        subst he
        exact this (lk_mem hu)
      · by_cases hki : k = i
        · subst hki
          refine ha'.slots d _ ?_
          simp [hdk, ab, lk]
        · simp only [if_neg hki]
          rw [getD_set_ne false (fun h => hki h.symm)] at hl
          exact hother d _ (fun d' hd' he => (na hdst hin hd').2.2 k hk hki (he ▸ hdk)) (hinv.slot k hk hl d hdk)
      · have hcl : ∀ js : List Nat, (∀ j ∈ js, listed.getD j false = true) → (js.map fun k => if k = i then v else vals k) = js.map vals := by
          intro js hjs
          refine List.map_congr_left fun j hj => ?_
          have hji : j ≠ i := by
            rintro rfl
            have := hjs j hj
            rw [hunf] at this
            cases this
          simp [hji]
        by_cases hki : k = i
        · subst hki
          refine ⟨?_, fun j hj => hmore j (hdeps j hj).2⟩
          rw [hcl _ (fun j hj => (hdeps j hj).2)]
          simpa using hR
        · simp only [if_neg hki]
          rw [getD_set_ne false (fun h => hki h.symm)] at hl
          have hk2 := hinv.rel k hk hl
          refine ⟨?_, fun j hj => hmore j (hk2.2 j hj)⟩
          rw [hcl _ hk2.2]
          exact hk2.1.mono hle
      · refine hw'.perm ?_
        have hgi : (listed.setIfInBounds i true).getD i false = true := by
          have : i < listed.size := by rw [hsz]; simpa using hil
          simp [this]
        have hgn : ∀ k, gone specs n (listed.setIfInBounds i true) k = (gone specs n listed k || (aj specs i).tks.contains k) := by
          intro k
          rw [Bool.eq_iff_iff]
          simp only [gone, Bool.or_eq_true, List.any_eq_true, Bool.and_eq_true, List.mem_range]
          constructor
          · rintro ⟨q, hq, h1, h2⟩
            by_cases hqi : q = i
            · rw [hqi] at h2; exact .inr h2
            · rw [getD_set_ne false (fun h => hqi h.symm)] at h1
              exact .inl ⟨q, hq, h1, h2⟩
          · rintro (⟨q, hq, h1, h2⟩ | h)
            · exact ⟨q, hq, hmore q h1, h2⟩
            · exact ⟨i, hin, hgi, h⟩
        have hgni : gone specs n listed i = false := by
          cases hg : gone specs n listed i with
          | false => rfl
          | true =>
            obtain ⟨k, hk, hk2⟩ := List.any_eq_true.1 hg
            simp only [Bool.and_eq_true, List.contains_iff_mem] at hk2
            have := (hinv.rel k (List.mem_range.1 hk) hk2.1).2 i (tks_sub hk2.2)
            rw [hunf] at this
            cases this
        refine ((fG (f := comp specs n (fun k => if k = i then sg else sgs k) (listed.setIfInBounds i true)) hL hS hSL).append_left K').trans ?_
        have e1 : (aj specs i).tks.flatMap (comp specs n (fun k => if k = i then sg else sgs k) (listed.setIfInBounds i true)) = [] := by
          refine List.flatMap_eq_nil_iff.2 fun j hj => ?_
          simp only [comp, hmore j (hT j hj).2.1, hgn, List.contains_iff_mem.2 hj, Bool.or_true, if_true]
        have e2 : comp specs n (fun k => if k = i then sg else sgs k) (listed.setIfInBounds i true) i = sg := by
          have hc : (aj specs i).tks.contains i = false := by
            cases hc : (aj specs i).tks.contains i with
            | false => rfl
            | true => exact absurd (List.contains_iff_mem.1 hc) hiT
          simp only [comp, hgi, hgn, hgni, hc, Bool.or_false, if_true, Bool.false_eq_true, if_false]
        have e3 : ((List.range n).flatMap fun k => if k ∈ S then [] else comp specs n (fun k => if k = i then sg else sgs k) (listed.setIfInBounds i true) k) = X := by
          refine bw fun k _ => ?_
          by_cases hk : k ∈ S
          · simp [hk]
          · rw [if_neg hk, if_neg hk]
            have hki : k ≠ i := fun he => hk (by simp [S, he])
            have hkT : (aj specs i).tks.contains k = false := by
              cases hc : (aj specs i).tks.contains k with
              | false => rfl
              | true => exact absurd (List.mem_append_left _ (List.contains_iff_mem.1 hc)) hk
            simp only [comp, hgn, hkT, Bool.or_false, if_neg hki]
            rw [getD_set_ne false (fun h => hki h.symm)]
        rw [e3]
        simp only [S, List.flatMap_append, List.flatMap_cons, List.flatMap_nil, List.append_nil, e1, e2, List.nil_append]
        rw [← List.append_assoc, ← List.append_assoc]
        exact List.Perm.append_right _ List.perm_append_comm
    have hQ : ∀ r K', oi.upon P a K' (One w0 N Q (aj specs i) ((aj specs i).deps.map vals) (aO l.toArray i) (cJ a) (M.R X) H') r → oi.upon P a K' Q r := by
      intro r K' hr
      cases r with
      | ok nx w' =>
        cases nx with
        | enter f args => exact Calls.mono hr (fun e w'' he => by cases e <;> exact he)
        | _ => exact hr
      | halt h w' => cases h <;> exact hr
    unfold wpOp
    simp only [hoi]
    simp only [wpList] at h2
    split
    · rename_i hw
      simp only [hw, if_true] at h2
      rcases h2 with h2 | ⟨h2, h3⟩
      · refine .inl (Oper.wp_mono fin (hQ _ _ h2))
      · exact .inr ⟨h2, h3⟩
    · rename_i hw
      simp only [hw] at h2
      exact fin _ _ h2
  · rw [gL] at hu
    cases he : lk ((aj specs i).deps.foldr (fun j E => ab (aO l.toArray j) (vals j) E) [] ++ env) j with
    | none => rw [he] at hu; simpa [bk] using hu
    | some x =>
      rw [he] at hu
      injection hu with hu
      subst hu
      have := hF j x he
      rwa [bk] at this
theorem iz {n m i : Nat} (b : Bool) : (Array.replicate n true ++ Array.replicate m false).getD i b = if i < n then true else if i < n + m then false else b := by
  simp only [Array.getD_eq_getD_getElem?, Array.getElem?_append, Array.size_replicate, Array.getElem?_replicate]
  by_cases h1 : i < n
  · simp [h1]
  · by_cases h2 : i < n + m
    · simp [h1, h2, show i - n < m by omega]
    · simp [h1, h2, show ¬ i - n < m by omega]
theorem i7 {a b : Array Bool} (hs : a.size = b.size) (h : ∀ i, i < a.size → a.getD i false = b.getD i false) : a = b := by
  apply Array.ext hs
  intro i h1 h2
  have := h i h1
  simpa [h1, h2] using this
def left (listed : Array Bool) (n : Nat) : Nat := ((List.range n).filter fun i => !listed.getD i false).length
theorem ei {listed : Array Bool} {n i : Nat} (hi : i < n) (hu : listed.getD i false = false) (hs : i < listed.size) : left listed n = left (listed.setIfInBounds i true) n + 1 := by
  obtain ⟨l1, l2, hr, hn1, hn2⟩ := m9 hi
  have key : ∀ lx : List Nat, i ∉ lx → lx.filter (fun i => !listed.getD i false) = lx.filter (fun j => !(listed.setIfInBounds i true).getD j false) := by
    intro lx hnx
    refine List.filter_congr fun k hk => ?_
    have hik : i ≠ k := fun h => hnx (by rw [h]; exact hk)
    rw [getD_set_ne false hik]
  unfold left
  rw [hr, List.filter_append, List.filter_append, List.filter_cons, List.filter_cons, key l1 hn1, key l2 hn2]
  have h1 : (listed.setIfInBounds i true).getD i false = true := by simp [hs]
  simp [hu, h1]
  omega
theorem draw_all {n : Nat} {specs : List OpSpec} {M : KM}
    (hlen : specs.length = n) (hb : backB l.toArray = true) (hd : depsB l.toArray specs = true) (htk : takeB specs = true) (hdst : dstB N n l.toArray (env.map (·.1)) = true) (ht : iX l.toArray n = true)
    (hsteps : Steps P w0 N Q l specs env M H 0 specs) (hfin : M.all fun K => ∀ H', Le H H' → Fin P w0 N Q l n (fun j => (cY specs).contains j) H' 0 specs [] env K) :
    ∀ (c : Nat) (listed : Array Bool) (a : Act) (w : World) (vals : Nat → Value) (sgs : Nat → List Seg) (H' : Hp) (K : List Seg), M.has K → left listed n = c → HeadInv .any l.toArray n listed →
      Inv w0 N n l.toArray specs env K H listed a w vals sgs H' → wpAny P .any l.toArray Q (c + (l.length - n)) listed a w := by
  have hn : n ≤ l.length := by
    simp only [iX, Bool.or_eq_true, Bool.and_eq_true, decide_eq_true_eq, List.size_toArray] at ht
    omega
  intro c
  induction c with
  | zero =>
    intro listed a w vals sgs H' K hK hc inv hI
    have aP : ∀ i, i < n → listed.getD i false = true := by
      intro i hi
      cases hx : listed.getD i false with
      | true => rfl
      | false =>
        have : i ∈ (List.range n).filter fun i => !listed.getD i false := List.mem_filter.2 ⟨List.mem_range.2 hi, by simp [hx]⟩
        unfold left at hc
        rw [List.length_eq_zero_iff.1 hc] at this
        cases this
    have hsz : listed.size = l.length := by simpa using inv.size
    have hlisted : listed = Array.replicate n true ++ Array.replicate (l.length - n) false := by
      refine i7 (by simp [hsz]; omega) fun i hi => ?_
      rw [iz]
      by_cases h1 : i < n
      · rw [if_pos h1]; exact aP i h1
      · rw [if_neg h1, if_pos (by omega)]
        exact getD_both (inv.tail i (by omega) (by simpa using (by omega : i < l.length)))
    have hT := Fin.elim (vals := vals) (sgs := sgs) (KM.elim hfin hK H' hI.le) rfl (fun k hk j hj => by
      have h1 := List.all_eq_true.1 (List.all_eq_true.1 hd k (List.mem_range.2 (by omega))) j hj
      simp only [Bool.and_eq_true, decide_eq_true_eq] at h1
      omega) (fun k hk => by
      have := (hI.rel k (by omega) (aP k (by omega))).1
      rw [Nat.zero_add]; exact this)
    have hAt : At N ((List.range' 0 specs.length).foldl (fun E j => ab (aO l.toArray j) (vals j) E) env) a := by
      refine ⟨hI.at_.defers, hI.at_.size, ?_⟩
      have gen : ∀ (ls : List Nat) (E : Env), (∀ j ∈ ls, j < n) → (∀ i u, lk E i = some u → a.tmps[i]? = some u) → ∀ i u, lk (ls.foldl (fun E j => ab (aO l.toArray j) (vals j) E) E) i = some u → a.tmps[i]? = some u := by
        intro ls
        induction ls with
        | nil => intro E _ h; exact h
        | cons j r ih =>
          intro E hl h
          refine ih _ (fun k hk => hl k (by simp [hk])) ?_
          intro i u hu
          dsimp only at hu
          cases hdd : aO l.toArray j with
          | none => rw [hdd] at hu; exact h i u hu
          | some d =>
            rw [hdd] at hu
            simp only [ab, lk] at hu
            cases hbq : Nat.beq d i with
            | true =>
              have e : d = i := Nat.eq_of_beq_eq_true hbq
              subst e
              simp only [hbq, cond_true, Option.some.injEq] at hu
              subst hu
              exact hI.slot j (hl j (by simp)) (aP j (hl j (by simp))) d hdd
            | false => simp only [hbq, cond_false] at hu; exact h i u hu
      exact gen _ _ (fun j hj => by have := List.mem_range'_1.1 hj; omega) hI.at_.slots
    have hgone : ∀ k, gone specs n listed k = (cY specs).contains k := by
      intro k
      rw [Bool.eq_iff_iff]
      simp only [gone, List.any_eq_true, Bool.and_eq_true, List.mem_range, List.contains_iff_mem, cY, List.mem_flatMap]
      constructor
      · rintro ⟨q, hq, _, h2⟩
        have hlt : q < specs.length := by omega
        exact ⟨specs[q], List.getElem_mem hlt, by simpa [aj, List.getD_eq_getElem?_getD, List.getElem?_eq_getElem hlt] using h2⟩
      · rintro ⟨sp, hsp, h2⟩
        obtain ⟨q, hq, rfl⟩ := List.mem_iff_getElem.1 hsp
        exact ⟨q, by omega, aP q (by omega), by simpa [aj, List.getD_eq_getElem?_getD, List.getElem?_eq_getElem hq] using h2⟩
    have hSt : St w0 H' ((List.range' 0 specs.length).foldl (fun o j => (if (cY specs).contains j then [] else sgs j) ++ o) K) w := by
      refine hI.st.perm ?_
      have e1 : (List.range n).flatMap (comp specs n sgs listed) = (List.range n).flatMap (fun j => if (cY specs).contains j then [] else sgs j) := bw fun k hk => by simp only [comp, aP k (List.mem_range.1 hk), hgone, if_true]
      rw [e1, hlen, ← List.range_eq_range']
      have gen : ∀ (sgs : Nat → List Seg) (ls : List Nat) (o : List Seg), (ls.foldl (fun o j => sgs j ++ o) o).Perm (o ++ ls.flatMap sgs) := by
        intro sgs ls
        induction ls with
        | nil => intro o; simp
        | cons j r ih =>
          intro o
          simp only [List.foldl_cons, List.flatMap_cons]
          refine (ih _).trans ?_
          rw [← List.append_assoc]
          exact List.Perm.append_right _ List.perm_append_comm
      exact gen (fun j => if (cY specs).contains j = true then [] else sgs j) _ _
    have hw := hT a w hAt hSt
    simp only [iX, Bool.or_eq_true, Bool.and_eq_true, decide_eq_true_eq, List.size_toArray] at ht
    rcases ht with ht | ⟨⟨⟨ht, hs⟩, hch⟩, hseq⟩
    · have hd0 : l.drop n = [] := by rw [ht]; simp
      rw [hd0] at hw
      have h0 : 0 + (l.length - n) = 0 := by omega
      rw [h0]
      refine ⟨?_, by simpa [wpList] using hw⟩
      have : ∀ i, i ∉ Region.ready .any l.toArray listed := by
        intro i hi
        obtain ⟨hun, oi, hoi, _⟩ := mem_ready.1 hi
        have hil : i < l.length := by simpa using (Array.getElem?_eq_some_iff.1 hoi).1
        have := aP i (by omega)
        rw [getD_both hun] at this
        cases this
      exact List.eq_nil_iff_forall_not_mem.2 this
    · have h0 : 0 + (l.length - n) = (l.drop n).length := by simp
      rw [h0]
      refine wpAny_of_seq (md := .any) (l.drop n) n listed a w (fun j => by simp [List.getElem?_drop]) ?_ hw
      rw [hlisted]
      simpa using hseq
  | succ c ih =>
    intro listed a w vals sgs H' K hK hc inv hI
    have hsz : listed.size = l.length := by simpa using inv.size
    have hready : Region.ready .any l.toArray listed ≠ [] ∧ ∀ j ∈ Region.ready .any l.toArray listed, j < n := by
      have hex : ∃ i, i < n ∧ listed.getD i false = false := by
        have : (List.range n).filter (fun i => !listed.getD i false) ≠ [] := by
          intro h0
          unfold left at hc
          rw [h0] at hc
          simp at hc
        obtain ⟨i, hi⟩ := List.exists_mem_of_ne_nil _ this
        have := List.mem_filter.1 hi
        exact ⟨i, List.mem_range.1 this.1, by simpa using this.2⟩
      obtain ⟨i, ⟨hin, hun⟩, hmin⟩ := exists_least (p := fun i => i < n ∧ listed.getD i false = false) hex
      have hunt : listed.getD i true = false := getD_in (by omega) hun
      have hil : i < l.length := by omega
      refine ⟨fun h0 => ?_, fun j hj => ?_⟩
      · have : i ∈ Region.ready .any l.toArray listed := by
          refine mem_ready.2 ⟨hunt, l[i], by simp [hil], fun e he hbd => ?_⟩
          have h1 := List.all_eq_true.1 hb i (by simp [hil])
          have h2 : (l.toArray.getD i default) = l[i] := by simp [hil]
          rw [h2] at h1
          have h3 := Array.all_eq_true'.1 h1 e he
          simp only [hbd, Bool.not_true, Bool.false_or, decide_eq_true_eq] at h3
          cases hx : listed.getD e.on false with
          | true => rfl
          | false => have := hmin e.on ⟨by omega, hx⟩; omega
        rw [h0] at this
        cases this
      · obtain ⟨_, oj, hoj, _⟩ := mem_ready.1 hj
        have hjl : j < l.length := by simpa using (Array.getElem?_eq_some_iff.1 hoj).1
        simp only [iX, Bool.or_eq_true, Bool.and_eq_true, decide_eq_true_eq, List.size_toArray] at ht
        rcases ht with ht | ⟨⟨⟨ht, hs⟩, hch⟩, hseq⟩
        · omega
        · rcases Nat.lt_or_ge j n with h | h
          · exact h
          · exact absurd hj (tail_waits hs hch (by simpa using ht) inv _ i rfl hin hunt j h)
    rw [show c + 1 + (l.length - n) = (c + (l.length - n)) + 1 by omega]
    refine ⟨fun h0 => absurd h0 hready.1, fun i hi => ?_⟩
    have hin := hready.2 i hi
    have hunf := getD_both (mem_ready.1 hi).1
    refine wpOp_mono ?_ (draw_step hlen hd htk hdst hsteps hK hI inv.size hi hin)
    rintro a' w' ⟨vals', sgs', H2, K', hK', hI'⟩
    refine ih _ a' w' vals' sgs' H2 K' hK' ?_ (inv.set hi hin) hI'
    have := ei (listed := listed) hin hunf (by omega)
    omega
theorem TC.draw {id : Nat} (n : Nat) (specs : List OpSpec) (M : KM) (K : List Seg) (hK : M.has K) (env' : Env) (hm : P.follows .mixedOrders = true) (henv : SubL env' env) (hlen : specs.length = n)
    (hB : (backB l.toArray && depsB l.toArray specs && dstB N n l.toArray (env'.map (·.1)) && iX l.toArray n) = true) (htk : takeB specs = true) (hown : (specs.flatMap (·.C) ++ K).Perm own)
    (hsteps : Steps P w0 N Q l specs env' M H 0 specs) (hfin : M.all fun K => ∀ H', Le H H' → Fin P w0 N Q l n (fun j => (cY specs).contains j) H' 0 specs [] env' K) :
    TC P w0 N Q (.region id l.toArray true) env own H := fun a w ha hw => by
  simp only [Bool.and_eq_true] at hB
  obtain ⟨⟨⟨hb, hd⟩, hdst⟩, ht⟩ := hB
  refine wp_region_any hm ?_
  have hn : n ≤ l.length := by
    have := ht
    simp only [iX, Bool.or_eq_true, Bool.and_eq_true, decide_eq_true_eq, List.size_toArray] at this
    omega
  have hleft : left (Array.replicate l.toArray.size false) n = n := by
    unfold left
    rw [List.filter_eq_self.2 (fun i _ => by rw [getD_replicate_false]; rfl)]
    simp
  have hcomp : (List.range n).flatMap (comp specs n (fun _ => []) (Array.replicate l.toArray.size false)) = specs.flatMap (·.C) := by
    have e1 : (List.range n).flatMap (comp specs n (fun _ => []) (Array.replicate l.toArray.size false)) = (List.range n).flatMap (fun i => (aj specs i).C) :=
      bw fun k _ => by simp only [comp, getD_replicate_false, Bool.false_eq_true, if_false]
    rw [e1, ← hlen]
    have gen : ∀ (r : List OpSpec) (k : Nat), (∀ j, j < r.length → aj specs (k + j) = r.getD j (OpSpec.q [] undef)) → (List.range' k r.length).flatMap (fun i => (aj specs i).C) = r.flatMap (·.C) := by
      intro r
      induction r with
      | nil => intro k _; rfl
      | cons s r ih =>
        intro k h
        simp only [List.length_cons, List.range'_succ, List.flatMap_cons]
        rw [ih (k + 1) (fun j hj => by have := h (j + 1) (by simp; omega); rw [show k + 1 + j = k + (j + 1) by omega]; simpa using this)]
        have h0 := h 0 (by simp)
        simp only [Nat.add_zero] at h0
        rw [h0]
        rfl
    rw [List.range_eq_range']
    exact gen specs 0 (fun j _ => by simp [aj])
  have := draw_all hlen hb hd htk hdst ht hsteps hfin n (Array.replicate l.toArray.size false) a { w with drawn := w.drawn + 1 } (fun _ => undef) (fun _ => []) H K hK hleft
    ⟨by simp, fun j oj _ hl => (by rw [getD_replicate_false] at hl; cases hl), fun t _ ht => getD_in (by simpa using ht) (getD_replicate_false _ _)⟩
    ⟨ha.sub henv, fun i _ hl => (by rw [getD_replicate_false] at hl; cases hl), fun i _ hl => (by rw [getD_replicate_false] at hl; cases hl), Le.refl _, by
      rw [hcomp]
      exact (hw.drew).perm (List.perm_append_comm.trans hown)⟩
  have e : n + (l.length - n) = l.toArray.size := by simp; omega
  rwa [e] at this
theorem Steps.of {specs : List OpSpec} {K : KM} : ∀ {r : List OpSpec} {i : Nat}, (∀ k, k < r.length → ln P w0 N Q l specs env K H (i + k) (r.getD k (OpSpec.q [] undef))) → Steps P w0 N Q l specs env K H i r
  | [], _, _ => trivial
  | s :: r, i, h => ⟨h 0 (by simp), Steps.of fun k hk => by
      have := h (k + 1) (by simp; omega)
      rw [show i + 1 + k = i + (k + 1) by omega]
      simpa using this⟩
inductive OS where
  | q (d : Option Tmp) (deps : List (Nat × Nat)) (v : Value)
  | r (d : Option Tmp) (deps : List (Nat × Nat)) (C : List Seg) (R : List Value → Value → List Seg → Hp → Prop)
  | t (m : Bool) (T : List Nat) (d : Option Tmp) (deps : List (Nat × Nat)) (C : List Seg) (R : List Value → Value → List Seg → Hp → Prop)
def OS.d : OS → Option Tmp | .q d _ _ => d | .r d _ _ _ => d | .t _ _ d _ _ _ => d
def OS.deps : OS → List (Nat × Nat) | .q _ l _ => l | .r _ l _ _ => l | .t _ _ _ l _ _ => l
def OS.spec : OS → OpSpec | .q _ l v => OpSpec.q (l.map (·.1)) v | .r _ l C R => ⟨l.map (·.1), [], C, R⟩ | .t _ T _ l C R => ⟨l.map (·.1), T, C, R⟩
def OS.C : OS → List Seg | .q _ _ _ => [] | .r _ _ C _ => C | .t _ _ _ _ C _ => C
def OS.T : OS → List Nat | .q _ _ _ => [] | .r _ _ _ _ => [] | .t _ T _ _ _ _ => T
theorem OS.spec_T (s : OS) : s.spec.T = s.T := by cases s <;> rfl
theorem OS.spec_C (s : OS) : s.spec.C = s.C := by cases s <;> rfl
theorem OS.spec_deps (s : OS) : s.spec.deps = s.deps.map (·.1) := by cases s <;> rfl
def nth : List OS → Nat → OS
  | [], _ => .q none [] undef
  | s :: _, 0 => s
  | _ :: r, n + 1 => nth r n
theorem nth_eq : ∀ (l : List OS) (i : Nat) (s : OS), l[i]? = some s → nth l i = s
  | [], _, _, h => by simp at h
  | a :: r, 0, s, h => by simp at h; simp [nth, h]
  | a :: r, i + 1, s, h => by simpa [nth] using nth_eq r i s (by simpa using h)
def nthV : List Value → Nat → Value
  | [], _ => undef
  | s :: _, 0 => s
  | _ :: r, n + 1 => nthV r n
theorem lp : ∀ (l : List Value) (i : Nat), nthV l i = l.getD i undef
  | [], _ => by simp [nthV]
  | a :: r, 0 => by simp [nthV]
  | a :: r, i + 1 => by simpa [nthV] using lp r i
def Dp (ops : Array Oper) (F : Env) (dn : List OS) (H : Hp) (T : List Nat) : List (Nat × Nat) → (List Value → Env → List Seg → Prop) → Prop
  | [], k => k [] [] []
  | p :: js, k => match nth dn p.2 with
    | .q d _ v => Dp ops F dn H T js (fun vs E S => k (v :: vs) (ab d v E) S)
    | .r d ds _ R => ∀ (us : {us : List Value // Lnk ops F (ds.map (·.1)) us}) v sg H1, Le H1 H → R us.1 v sg H1 → Dp ops F dn H T js (fun vs E S => k (v :: vs) (ab d v E) S)
    | .t _ _ d ds _ R => ∀ (us : {us : List Value // Lnk ops F (ds.map (·.1)) us}) v sg H1, Le H1 H → R us.1 v sg H1 → Dp ops F dn H T js (fun vs E S => k (v :: vs) (ab d v E) (if T.contains p.1 then sg ++ S else S))
def FinV (H : Hp) (env : Env) (own : List Seg) : List OS → (List Value → Env → List Seg → Prop) → Prop
  | [], k => k [] env own
  | .q d _ v :: r, k => FinV H env own r (fun rv env own => k (v :: rv) (ab d v env) own)
  | .r d ds _ R :: r, k => FinV H env own r (fun rv env own => ∀ v sg H1, Le H1 H → R (ds.map fun p => nthV rv p.2) v sg H1 → k (v :: rv) (ab d v env) (sg ++ own))
  | .t m _ d ds _ R :: r, k => FinV H env own r (fun rv env own => ∀ v sg H1, Le H1 H → R (ds.map fun p => nthV rv p.2) v sg H1 → k (v :: rv) (ab d v env) (if m then own else sg ++ own))
def ky (P : Program) (w0 : World) (N : Nat) (Q : Exit → Act → World → Prop) (ops : Array Oper) (env : Env) (K : KM) (H : Hp) (dn : List OS) (o : Oper) (s : OS) : Prop :=
  K.all fun K0 => ∀ H' X F, Le H H' → Dp ops F dn H' s.T s.deps (fun vs E S => (∀ j u, lk (E ++ env) j = some u → lk F j = some u) →
    TL P w0 N (One w0 N Q s.spec vs s.d F (K.R X) H') ops [o] ((E ++ env) ++ F) (S ++ (s.C ++ (K0 ++ X))) H')
def OS.isT : OS → Bool | .q _ _ _ => true | .r _ _ _ _ => false | .t _ _ _ _ _ _ => true
def okV (ops : Array Oper) : List OS → Bool
  | [] => true
  | s :: r => (aO ops r.length == s.d) && s.deps.all (fun p => Nat.beq (p.1 + p.2 + 1) r.length && (!s.T.contains p.1 || (nth r p.2).isT)) && okV ops r
def OS.mB (tk : Bool) : OS → Bool | .q _ _ _ => true | .r _ _ _ _ => !tk | .t m _ _ _ _ _ => tk == m
def mOk (tk : Nat → Bool) : List OS → Bool
  | [] => true
  | s :: r => s.mB (tk r.length) && mOk tk r
def aV (dn : List OS) : List OpSpec := dn.reverse.map OS.spec
def ChainV (P : Program) (w0 : World) (N : Nat) (Q : Exit → Act → World → Prop) (l : List Oper) (env : Env) (own : List Seg) (K : KM) (H : Hp) : Nat → List OS → List Oper → Prop
  | 0, dn, rest => (okV l.toArray dn && backB l.toArray && depsB l.toArray (aV dn) && dstB N dn.length l.toArray (env.map (·.1)) && iX l.toArray dn.length && takeB (aV dn) && mOk (fun j => (cY (aV dn)).contains j) dn) = true ∧ K.begins (dn.reverse.flatMap (·.C)) own ∧
      K.all fun K0 => ∀ H', Le H H' → FinV H' env K0 dn (fun _ env own => TL P w0 N Q l.toArray rest env own H')
  | _ + 1, _, [] => False
  | k + 1, dn, o :: rest => ∃ s, ky P w0 N Q l.toArray env K H dn o s ∧ ChainV P w0 N Q l env own K H k (s :: dn) rest
theorem ChainV.specs {K : KM} : ∀ {k : Nat} {dn : List OS} {rest : List Oper}, rest = l.drop dn.length → ChainV P w0 N Q l env own K H k dn rest →
    ∃ more, more.length = k ∧ ChainV P w0 N Q l env own K H 0 (more ++ dn) (l.drop (more ++ dn).length) ∧
      ∀ m1 s m2, more = m1 ++ s :: m2 → ∃ o, l[(m2 ++ dn).length]? = some o ∧ ky P w0 N Q l.toArray env K H (m2 ++ dn) o s
  | 0, dn, rest, hr, h => ⟨[], rfl, by subst hr; simpa using h, fun m1 s m2 he => by simp at he⟩
  | k + 1, dn, [], hr, h => h.elim
  | k + 1, dn, o :: rest, hr, h => by
    obtain ⟨s, h1, h2⟩ := h
    have ho : l[dn.length]? = some o := by
      have : (l.drop dn.length)[0]? = some o := by rw [← hr]; rfl
      simpa using this
    have hr2 : rest = l.drop (s :: dn).length := by
      have : (l.drop dn.length).drop 1 = rest := by rw [← hr]; rfl
      rw [← this, List.drop_drop]
      rfl
    obtain ⟨more, hl, h3, h4⟩ := ChainV.specs hr2 h2
    refine ⟨more ++ [s], by simp [hl], by simpa using h3, fun m1 s' m2 he => ?_⟩
    rcases List.eq_nil_or_concat m2 with rfl | ⟨m2', x, rfl⟩
    · have : more = m1 ∧ s = s' := by
        have := List.append_inj' (s₁ := more) (t₁ := [s]) (s₂ := m1) (t₂ := [s']) he rfl
        exact ⟨this.1, by simpa using this.2⟩
      obtain ⟨_, rfl⟩ := this
      exact ⟨o, by simpa using ho, h1⟩
    · have e : more = m1 ++ s' :: m2' ∧ s = x := by
        have : more ++ [s] = (m1 ++ s' :: m2') ++ [x] := by simpa using he
        have := List.append_inj' this rfl
        exact ⟨this.1, by simpa using this.2⟩
      obtain ⟨rfl, rfl⟩ := e
      obtain ⟨o', h5, h6⟩ := h4 m1 s' m2' rfl
      exact ⟨o', by simpa using h5, by simpa using h6⟩
theorem lq {ops : Array Oper} : ∀ {m1 m2 : List OS} {s : OS}, okV ops (m1 ++ s :: m2) = true → aO ops m2.length = s.d ∧ (∀ p ∈ s.deps, p.1 + p.2 + 1 = m2.length ∧ (s.T.contains p.1 = true → (nth m2 p.2).isT = true)) ∧ okV ops m2 = true
  | [], m2, s, h => by
    simp only [List.nil_append, okV, Bool.and_eq_true, beq_iff_eq, List.all_eq_true] at h
    refine ⟨h.1.1, fun p hp => ⟨Nat.eq_of_beq_eq_true (h.1.2 p hp).1, fun ht => ?_⟩, h.2⟩
    have := (h.1.2 p hp).2
    rw [ht] at this
    simpa using this
  | a :: m1, m2, s, h => by
    simp only [List.cons_append, okV, Bool.and_eq_true] at h
    exact lq h.2
theorem Dp.to {ops : Array Oper} {F : Env} {m2 : List OS} {specs : List OpSpec} {H : Hp} {T : List Nat} (hs : ∀ j q, j + q + 1 = m2.length → specs.getD j (OpSpec.q [] undef) = (nth m2 q).spec) (hd : ∀ j q, j + q + 1 = m2.length → aO ops j = (nth m2 q).d) :
    ∀ {js : List (Nat × Nat)} {k : List Value → Env → List Seg → Prop}, (∀ p ∈ js, p.1 + p.2 + 1 = m2.length ∧ (T.contains p.1 = true → (nth m2 p.2).isT = true)) → Dp ops F m2 H T js k → Deps ops specs F H T (js.map (·.1)) k
  | [], _, _, h => h
  | (j, q) :: js, k, hj, h => by
    obtain ⟨hjq, hjt⟩ := hj (j, q) (by simp)
    simp only [Dp] at h
    simp only [List.map_cons, Deps]
    rintro ⟨us, hus⟩ v sg H1 hle hR
    dsimp only at hR
    rw [hs j q hjq] at hR hus
    rw [hd j q hjq]
    cases hn : nth m2 q with
    | q d l u =>
      rw [hn] at h hR hus
      obtain ⟨rfl, rfl⟩ := hR
      have := Dp.to hs hd (fun p hp => hj p (by simp [hp])) h
      simpa [OS.d] using this
    | r d l C R =>
      rw [hn] at h hR hus
      simp only at hjt
      rw [hn] at hjt
      have hT : T.contains j = false := by
        cases hc : T.contains j with
        | false => rfl
        | true => exact absurd (hjt hc) (by simp [OS.isT])
      have := Dp.to hs hd (fun p hp => hj p (by simp [hp])) (h ⟨us, hus⟩ v sg H1 hle hR)
      simp only [hT, Bool.false_eq_true, if_false]
      exact this
    | t m T' d l C R =>
      rw [hn] at h hR hus
      exact Dp.to hs hd (fun p hp => hj p (by simp [hp])) (h ⟨us, hus⟩ v sg H1 hle hR)
theorem FinV.to {n : Nat} {tk : Nat → Bool} {H : Hp} : ∀ {dn : List OS} {tail : List OpSpec} {k : List Value → Env → List Seg → Prop} {env : Env} {own : List Seg}, okV l.toArray dn = true → mOk tk dn = true → FinV H env own dn k →
    (∀ rv env own, rv.length = dn.length → k rv env own → Fin P w0 N Q l n tk H dn.length tail rv.reverse env own) → Fin P w0 N Q l n tk H 0 (aV dn ++ tail) [] env own
  | [], tail, k, env, own, _, _, h, hk => by simpa [aV] using hk _ _ _ rfl h
  | s :: r, tail, k, env, own, ho, hm, h, hk => by
    have ho' := lq (m1 := []) ho
    have e : aV (s :: r) ++ tail = aV r ++ (s.spec :: tail) := by simp [aV]
    rw [e]
    simp only [mOk, Bool.and_eq_true] at hm
    cases s with
    | q d ld v =>
      refine FinV.to ho'.2.2 hm.2 h ?_
      intro rv env own hl h v' sg H1 hle hR
      obtain ⟨rfl, rfl⟩ := hR
      rw [ho'.1]
      have := hk (v' :: rv) _ _ (by simp [hl]) h
      simpa [OS.d] using this
    | r d ld C R =>
      refine FinV.to ho'.2.2 hm.2 h ?_
      intro rv env own hl h v' sg H1 hle hR
      rw [ho'.1]
      have e2 : ((OS.r d ld C R).spec.deps.map fun j => rv.reverse.getD j undef) = ld.map fun p => nthV rv p.2 := by
        rw [OS.spec_deps, List.map_map]
        refine List.map_congr_left fun p hp => ?_
        have := (ho'.2.1 p hp).1
        simp only [Function.comp, lp, List.getD_eq_getElem?_getD]
        rw [List.getElem?_reverse (by omega), show rv.length - 1 - p.1 = p.2 by omega]
      rw [e2] at hR
      have := hk (v' :: rv) _ _ (by simp [hl]) (h v' sg H1 hle hR)
      have htk : tk r.length = false := by simpa [OS.mB] using hm.1
      simpa [OS.d, htk] using this
    | t m T d ld C R =>
      refine FinV.to ho'.2.2 hm.2 h ?_
      intro rv env own hl h v' sg H1 hle hR
      rw [ho'.1]
      have e2 : ((OS.t m T d ld C R).spec.deps.map fun j => rv.reverse.getD j undef) = ld.map fun p => nthV rv p.2 := by
        rw [OS.spec_deps, List.map_map]
        refine List.map_congr_left fun p hp => ?_
        have := (ho'.2.1 p hp).1
        simp only [Function.comp, lp, List.getD_eq_getElem?_getD]
        rw [List.getElem?_reverse (by omega), show rv.length - 1 - p.1 = p.2 by omega]
      rw [e2] at hR
      have := hk (v' :: rv) _ _ (by simp [hl]) (h v' sg H1 hle hR)
      have htk : tk r.length = m := by simpa [OS.mB] using hm.1
      cases m <;> simpa [OS.d, htk] using this
theorem TC.drawMV {id : Nat} (n : Nat) (K : KM) (env' : Env) (hm : P.follows .mixedOrders = true) (henv : SubL env' env) (h : ChainV P w0 N Q l env' own K H n [] l) :
    TC P w0 N Q (.region id l.toArray true) env own H := by
  obtain ⟨dn, hlen, hfin, hst⟩ := ChainV.specs (by simp) h
  simp only [List.append_nil] at hfin hst
  obtain ⟨hB, hbeg, hF⟩ := hfin
  obtain ⟨K0, hK0, hown⟩ := KM.begin hbeg
  simp only [Bool.and_eq_true] at hB
  obtain ⟨⟨⟨⟨⟨⟨ho, hb⟩, hd⟩, hdst⟩, ht⟩, htk⟩, hmo⟩ := hB
  have hsl : (aV dn).length = dn.length := by simp [aV]
  have hC : (aV dn).flatMap (·.C) = dn.reverse.flatMap (·.C) := by
    simp only [aV, List.flatMap_map]
    exact bw fun s _ => s.spec_C
  refine TC.draw dn.length (aV dn) K K0 hK0 env' hm henv hsl (by simp only [Bool.and_eq_true]; exact ⟨⟨⟨hb, hd⟩, hdst⟩, ht⟩) htk (by rw [hC]; exact hown) (Steps.of fun i hi => ?_) (KM.intro fun K1 hK1 H' hle => ?_)
  · rw [Nat.zero_add]
    have hi' : i < dn.length := by rw [← hsl]; exact hi
    obtain ⟨m1, s, m2, rfl, hm2⟩ : ∃ m1 s m2, dn = m1 ++ s :: m2 ∧ m2.length = i := by
      obtain ⟨l1, l2, h1, h2⟩ := bp (l := dn) (i := dn.length - 1 - i) (x := dn[dn.length - 1 - i]) (by simp)
      refine ⟨l1, _, l2, h1, ?_⟩
      have := congrArg List.length h1
      simp at this
      omega
    subst hm2
    have ah : ∀ (j : Nat) (x : OS), (m1 ++ s :: m2)[m1.length + 1 + m2.length - 1 - j]? = some x → j < m1.length + 1 + m2.length → (aV (m1 ++ s :: m2)).getD j (OpSpec.q [] undef) = x.spec := by
      intro j x hx hj
      rw [List.getD_eq_getElem?_getD]
      simp only [aV, List.getElem?_map]
      rw [List.getElem?_reverse (by simp; omega)]
      have e : (m1 ++ s :: m2).length - 1 - j = m1.length + 1 + m2.length - 1 - j := by simp only [List.length_append, List.length_cons]; omega
      rw [e, hx]
      rfl
    have hs : (aV (m1 ++ s :: m2)).getD m2.length (OpSpec.q [] undef) = s.spec := by
      refine ah _ s ?_ (by omega)
      rw [show m1.length + 1 + m2.length - 1 - m2.length = m1.length by omega]
      simp
    rw [hs]
    obtain ⟨o1, o2, o3⟩ := lq ho
    obtain ⟨o, hol, hstep⟩ := hst m1 s m2 rfl
    have hlt : m2.length < l.length := (List.getElem?_eq_some_iff.1 hol).1
    refine KM.intro fun K1 hK1 H' X F hle => ?_
    have h1 := KM.elim hstep hK1 H' X F hle
    rw [s.spec_deps, s.spec_T]
    refine Dp.to (m2 := m2) (fun j q hj => ?_) (fun j q hj => ?_) o2 ?_
    · have hx : m2[q]? = some m2[q] := by simp
      rw [nth_eq m2 q _ hx]
      refine ah j _ ?_ (by omega)
      rw [show m1.length + 1 + m2.length - 1 - j = m1.length + (q + 1) by omega, List.getElem?_append_right (by omega), show m1.length + (q + 1) - m1.length = q + 1 by omega, List.getElem?_cons_succ]
      exact hx
    · obtain ⟨l1, l2, h3, h4⟩ := bp (l := m2) (i := q) (x := m2[q]) (by simp)
      have hx : m2[q]? = some m2[q] := by simp
      rw [nth_eq m2 q _ hx]
      have o4 := o3
      rw [h3] at o4
      have := (lq o4).1
      rw [← this]
      congr 1
      have := congrArg List.length h3
      simp at this
      omega
    · have hdrop : (l.drop m2.length).take 1 = [o] := by
        obtain ⟨hlt', he⟩ := List.getElem?_eq_some_iff.1 hol
        rw [List.drop_eq_getElem_cons hlt']
        simp [he]
      rw [hdrop, s.spec_C, o1]
      exact h1
  · have := FinV.to (P := P) (w0 := w0) (N := N) (Q := Q) (n := dn.length) (tk := fun j => (cY (aV dn)).contains j) (tail := []) ho hmo (KM.elim hF hK1 H' hle) (fun rv env own _ h => h)
    simpa using this
theorem TC.drawQV {id : Nat} (n : Nat) (env' : Env) (hm : P.follows .mixedOrders = true) (henv : SubL env' env) (h : ChainV P w0 N Q l env' own (.fix own) H n [] l) :
    TC P w0 N Q (.region id l.toArray true) env own H := TC.drawMV n (.fix own) env' hm henv h
theorem TC.drawCV {id : Nat} (n : Nat) (env' : Env) {c : Seg} {K : List Seg} (hm : P.follows .mixedOrders = true) (henv : SubL env' env) (h : ChainV P w0 N Q l env' (c :: K) (.fix K) H n [] l) :
    TC P w0 N Q (.region id l.toArray true) env (c :: K) H := TC.drawMV n (.fix K) env' hm henv h
theorem TC.drawC2V {id : Nat} (n : Nat) (env' : Env) {c c' : Seg} {K : List Seg} (hm : P.follows .mixedOrders = true) (henv : SubL env' env) (h : ChainV P w0 N Q l env' (c :: c' :: K) (.fix K) H n [] l) :
    TC P w0 N Q (.region id l.toArray true) env (c :: c' :: K) H := TC.drawMV n (.fix K) env' hm henv h
theorem Qa {K : KM} {k : Nat} {dn : List OS} {o : Oper} {rest : List Oper} (d : Option Tmp) (deps : List (Nat × Nat)) {v : Value} (h : ky P w0 N Q l.toArray env K H dn o (.q d deps v)) (hn : ChainV P w0 N Q l env own K H k (.q d deps v :: dn) rest) : ChainV P w0 N Q l env own K H (k + 1) dn (o :: rest) := ⟨_, h, hn⟩
theorem Qk {K : KM} {k : Nat} {dn : List OS} {o : Oper} {rest : List Oper} (m : Bool) (T : List Nat) (d : Option Tmp) (deps : List (Nat × Nat)) (C : List Seg) (R : List Value → Value → List Seg → Hp → Prop) (h : ky P w0 N Q l.toArray env K H dn o (.t m T d deps C R)) (hn : ChainV P w0 N Q l env own K H k (.t m T d deps C R :: dn) rest) : ChainV P w0 N Q l env own K H (k + 1) dn (o :: rest) := ⟨_, h, hn⟩
theorem Qh {K : KM} {k : Nat} {dn : List OS} {o : Oper} {rest : List Oper} (d : Option Tmp) (deps : List (Nat × Nat)) (C : List Seg) (R : List Value → Value → List Seg → Hp → Prop) (h : ky P w0 N Q l.toArray env K H dn o (.r d deps C R)) (hn : ChainV P w0 N Q l env own K H k (.r d deps C R :: dn) rest) : ChainV P w0 N Q l env own K H (k + 1) dn (o :: rest) := ⟨_, h, hn⟩
end main
theorem Qi {P : Program} {w0 : World} {N : Nat} {Q : Exit → Act → World → Prop} {ops : Array Oper} {deps : List Nat} {v : Value} {vs : List Value} {d : Option Tmp} {F E : Env} {KX : List Seg} {H : Hp} (hF : ∀ i u, lk E i = some u → lk F i = some u) :
    TL P w0 N (One w0 N Q (OpSpec.q deps v) vs d F (fun o => o = KX) H) ops [] (ab d v (E ++ F)) ([] ++ KX) H := TL.nil (Qc [] hF (Le.refl _) ⟨rfl, rfl⟩)
def Ret (w0 : World) (φ : Value → List Seg → Hp → Prop) : Ending → World → Prop := fun e w =>
  ∃ v own H, e = .returned v ∧ φ v own H ∧ St w0 H own w
def Fn (P : Program) (f : FuncId) (args : List Value) (w0 : World) (H : Hp) (own : List Seg) (φ : Value → List Seg → Hp → Prop) : Prop :=
  ∀ w, St w0 H own w → Calls P f args.toArray w (Ret w0 φ)
theorem Fn.mono {P : Program} {f : FuncId} {args : List Value} {w0 : World} {H : Hp} {own : List Seg} {φ ψ : Value → List Seg → Hp → Prop} (h : Fn P f args w0 H own φ) (hi : ∀ v own H, φ v own H → ψ v own H) : Fn P f args w0 H own ψ :=
  fun w hw => (h w hw).mono fun _ _ ⟨v, own, H, h1, h2, h3⟩ => ⟨v, own, H, h1, hi _ _ _ h2, h3⟩
class Callable (P : Program) (f : FuncId) : Prop where
  run : ∀ args w, (callFunc f args).run P w = .ok (.enter f args) w
theorem Callable.of {P : Program} {f : FuncId} {fn : Func} {c : Code} (hf : P.funcs[f]? = some fn) (hn : (fn.name == "runtime.NumGoroutine") = false) (hb : fn.body = some c) : Callable P f :=
  ⟨fun args w => by
    have hn' : ¬ fn.name = "runtime.NumGoroutine" := by simpa using hn
    simp [callFunc, hf, hn', hb]⟩
def cB : Nat → List Value → Env
  | _, [] => []
  | i, v :: r => (i, v) :: cB (i + 1) r
theorem i8 (l : List Value) (k i : Nat) (u : Value) (h : lk (cB k l) i = some u) : k ≤ i ∧ l[i - k]? = some u := by
  induction l generalizing k with
  | nil => simp [cB, lk] at h
  | cons v r ih =>
    simp only [cB, lk] at h
    cases hb : Nat.beq k i with
    | true =>
      have e : k = i := Nat.eq_of_beq_eq_true hb
      subst e
      simp only [hb, cond_true, Option.some.injEq] at h
      subst h
      simp
    | false =>
      have e : k ≠ i := Nat.ne_of_beq_eq_false hb
      simp only [hb, cond_false] at h
      obtain ⟨h1, h2⟩ := ih (k + 1) h
      refine ⟨by omega, ?_⟩
      have : i - k = (i - (k + 1)) + 1 := by omega
      rw [this, List.getElem?_cons_succ]
      exact h2
theorem Fn.enter {P : Program} {f : FuncId} {fn : Func} {c : Code} {args : List Value} {w0 : World} {H : Hp} {own : List Seg} {φ : Value → List Seg → Hp → Prop} {N : Nat} (hf : P.funcs[f]? = some fn) (hb : fn.body = some c) (hN : fn.ntmps = N)
    (hl : Nat.ble args.length N = true) (h : TC P w0 N (bodyPost P fn (Ret w0 φ)) c (cB 0 args) own H) : Fn P f args w0 H own φ := fun w hw => by
  have hl' : args.length ≤ N := Nat.le_of_ble_eq_true hl
  refine calls_of_wp hf hb (h _ w ⟨rfl, ?_, fun i v hv => ?_⟩ hw); {
  simp [hN]; omega}; {
  obtain ⟨_, h2⟩ := i8 args 0 i v hv
  simp only [Nat.sub_zero] at h2
  have hlt : i < args.length := (List.getElem?_eq_some_iff.1 h2).1
  rw [Array.getElem?_append_left (by simpa using hlt)]
  simpa using h2}
section
variable {P : Program} {w0 : World} {N : Nat} {Q : Exit → Act → World → Prop} {env : Env} {own : List Seg} {H : Hp} {ops : Array Oper} {rest : List Oper} {fn : Func} {φ : Value → List Seg → Hp → Prop}
variable {d : Option Tmp} {ty : TypeId} {pos : String} {af : Array Edge}
theorem TQ.ret1 (k : Nat) {t : Tmp} {v : Value} (hr : fn.results = #[.tmp t]) (hv : lk env t = some v) (h : φ v (own.drop k) H) : TQ w0 N (bodyPost P fn (Ret w0 φ)) .ret env own H :=
  fun a w ha hw => bodyPost_ret (results_tmp hr a.tmps P w) ha.defers ⟨v, own.drop k, H, by
    have := ha.slots t v hv
    simp [Array.getD_eq_getD_getElem?, this], h, hw.drop k⟩
theorem TQ.retC (i j k : Nat) {t : Tmp} {ty : TypeId} {g o : Nat} {seg : Seg} {c : Array Value} {e : TypeId} {fz : Nat × Nat} {agg : Bool} {n : Nat} {v : Value} (vs : List Value) (hr : fn.results = #[.cell t ty])
    (hv : lk env t = some (.pointer (some ⟨g, o, none⟩))) (hi : own[i]? = some seg) (hj : seg[j]? = some (g, .cells c e fz)) [ht : Ty P ty agg n] (hc : cAt c o vs) (hn : vs.length = n) (hm : mkV agg vs = some v)
    (h : φ v (own.drop k) H) : TQ w0 N (bodyPost P fn (Ret w0 φ)) .ret env own H := fun a w ha hw => by
  have hb := hw.own_blk hi hj
  have hl := bv (P := P) (w := w) (b := g) (o := o) ht hn hm (fun k u hu => by rw [aL hb]; exact hc.get k u hu)
  refine bodyPost_ret (v := v) ?_ ha.defers ⟨v, own.drop k, H, rfl, h, hw.drop k⟩
  have h1 := ha.slots t _ hv
  simp [results, hr, Array.getD_eq_getD_getElem?, h1, asAddr, hl]
def Evs (env : Env) : List Operand → List Value → Prop
  | [], [] => True
  | x :: xs, v :: vs => ev env x = some v ∧ Evs env xs vs
  | _, _ => False
theorem Evs.map {a : Act} (ha : At N env a) : ∀ {xs : List Operand} {vs : List Value}, Evs env xs vs → xs.map a.eval = vs
  | [], [], _ => rfl
  | x :: xs, v :: vs, h => by simp [ha.ev h.1, Evs.map ha h.2]
  | [], _ :: _, h => h.elim
  | _ :: _, [], h => h.elim
theorem Qe {f : FuncId} {xs : List Operand} {vs : List Value} {tys : Array TypeId} {φ : Value → List Seg → Hp → Prop} [hc : Callable P f] (h : Fn P f vs w0 H own φ) (hx : Evs env xs vs) (hd : okD N d = true)
    (hn : ∀ v own' H', φ v own' H' → TL P w0 N Q ops rest (ab d v env) own' H') :
    TL P w0 N Q ops ({ dst := d, op := .call { callee := .value (.func f), args := xs.toArray, argTypes := tys }, type := ty, pos := pos, after := af, guard := none } :: rest) env own H := fun a w ha hw => by
  refine wpList_plain rfl fun K hK => ?_
  have hm := Evs.map ha hx
  have hrun : (execOp a.eval { dst := d, op := .call { callee := .value (.func f), args := xs.toArray, argTypes := tys }, type := ty, pos := pos, after := af, guard := none }).run P w = .ok (.enter f vs.toArray) w := by
    simp [execOp, resolve, Deferred.ofValue, invoke, Act.eval, hm, hc.run]
  unfold Oper.wp
  rw [hrun]
  refine (h w hw).mono ?_
  rintro e w' ⟨v, own', H', rfl, hp, hw'⟩
  exact hK _ _ (hn v own' H' hp _ _ (ha.put hd v) hw')
theorem TL.makeFunc {f : FuncId} {xs ys : List Operand} {vs us : List Value} (hx : Evs env xs vs) (hy : Evs env ys us) (hd : okD N d = true) (h : TL P w0 N Q ops rest (ab d (.func (.func f) vs.toArray us.toArray) env) own H) :
    TL P w0 N Q ops ({ dst := d, op := .makeFunc (.func f) xs.toArray ys.toArray, type := ty, pos := pos, after := af, guard := none } :: rest) env own H :=
  Qd hd (fun a ha w => by simp [execOp, Instr.makeFunc, Evs.map ha hx, Evs.map ha hy]) h
theorem TL.nilCheck {x : Operand} {p : Addr} (hx : ev env x = some (.pointer (some p))) (hd : okD N d = true) (h : TL P w0 N Q ops rest (ab d (.pointer (some p)) env) own H) :
    TL P w0 N Q ops ({ dst := d, op := .nilCheck x, type := ty, pos := pos, after := af, guard := none } :: rest) env own H :=
  Qd hd (fun a ha w => by simp [execOp, ha.ev hx]) h
theorem TL.min2 {x y : Operand} {tys : Array TypeId} {k : IntKind} {m n : Int} (hx : ev env x = some (.int k m)) (hy : ev env y = some (.int k n)) (hd : okD N d = true) (h : TL P w0 N Q ops rest (ab d (.int k (min m n)) env) own H) :
    TL P w0 N Q ops ({ dst := d, op := .call { callee := .builtin .min, args := #[x, y], argTypes := tys }, type := ty, pos := pos, after := af, guard := none } :: rest) env own H :=
  Qd hd (fun a ha w => by
    simp [execOp, resolve, invoke, builtin, Builtin.min_, Builtin.min2, ha.ev hx, ha.ev hy]
    omega) h
theorem TL.convI {s t : TypeId} {ds : TypeDesc} {x : Operand} {k k' : IntKind} {n : Int} (hx : ev env x = some (.int k n)) [hs : Und P s ds] [ht : Und P t (.int k')] (hd : okD N d = true) (h : TL P w0 N Q ops rest (ab d (.int k' (k'.wrap n)) env) own H) :
    TL P w0 N Q ops ({ dst := d, op := .convert s t x, type := ty, pos := pos, after := af, guard := none } :: rest) env own H :=
  Qd hd (fun a ha w => by simp [execOp, convert, run_underlying hs.eq, run_underlying ht.eq, ha.ev hx, Conv.intToInt]) h
def sel (n : Nat) (is : List Nat) (own : List Seg) : List Seg := is.map (fun i => own.getD i []) ++ own.drop n
theorem kz : ∀ (own : List Seg) (n : Nat), (List.range n).flatMap (fun i => own.getD i []) = (own.take n).flatten
  | own, 0 => by simp
  | [], n + 1 => by simp
  | s :: r, n + 1 => by
    rw [List.range_succ_eq_map, List.flatMap_cons, List.flatMap_map, List.take_succ_cons, List.flatten_cons, ← kz r n]
    simp
theorem St.sel {w0 w : World} {H : Hp} {own : List Seg} (h : St w0 H own w) (n : Nat) (is : List Nat) (hB : (bc is && is.all fun i => Nat.blt i n) = true) : St w0 H (sel n is own) w := by
  simp only [Bool.and_eq_true, List.all_eq_true, Nat.blt_eq] at hB
  have h1 := fG (f := fun i => own.getD i []) (List.nodup_range (n := n)) (cZ hB.1) (fun j hj => List.mem_range.2 (hB.2 j hj))
  rw [kz] at h1
  have e : own.flatten = (own.take n).flatten ++ (own.drop n).flatten := by rw [← List.flatten_append, List.take_append_drop]
  have h2 : ((((List.range n).flatMap fun k => if k ∈ is then [] else own.getD k []) :: K.sel n is own).flatten).Perm own.flatten := by
    rw [e]
    refine List.Perm.symm ((h1.append_right _).trans ?_)
    simp only [List.flatten_cons, K.sel, List.flatten_append, List.append_assoc, List.flatMap_def]
    rw [← List.append_assoc, ← List.append_assoc]
    exact List.Perm.append_right _ List.perm_append_comm
  have hf := h2
  have h3 : St w0 H (((List.range n).flatMap fun k => if k ∈ is then [] else own.getD k []) :: K.sel n is own) w :=
    ⟨h.os, h.tape, h.output, h.imm, fun p hq => h.own_at p (hf.mem_iff.1 hq), fun p hq => h.apart p (hf.mem_iff.1 hq), ((hf.map _).nodup_iff).2 h.nodup⟩
  exact h3.tail
theorem TL.sel (n : Nat) (is : List Nat) (hB : (bc is && is.all fun i => Nat.blt i n) = true) (h : ∀ o, o = K.sel n is own → TL P w0 N Q ops rest env o H) : TL P w0 N Q ops rest env own H := fun a w ha hw => h _ rfl a w ha (hw.sel n is hB)
theorem TC.sel (n : Nat) (is : List Nat) (hB : (bc is && is.all fun i => Nat.blt i n) = true) {c : Code} (h : ∀ o, o = K.sel n is own → TC P w0 N Q c env o H) : TC P w0 N Q c env own H := fun a w ha hw => h _ rfl a w ha (hw.sel n is hB)
theorem TQ.sel (n : Nat) (is : List Nat) (hB : (bc is && is.all fun i => Nat.blt i n) = true) {e : Exit} (h : ∀ o, o = K.sel n is own → TQ w0 N Q e env o H) : TQ w0 N Q e env own H := fun a w ha hw => h _ rfl a w ha (hw.sel n is hB)
theorem nrm : (∀ (α β : Type) (f : α → β) (a : α) (l : List α), List.map f (a :: l) = f a :: List.map f l) ∧ (∀ (α β : Type) (f : α → β), List.map f [] = []) ∧ (∀ (α : Type) (a d : α) (l : List α), (a :: l).getD 0 d = a) ∧
    (∀ (α : Type) (a d : α) (n : Nat) (l : List α), (a :: l).getD (n + 1) d = l.getD n d) ∧ (∀ (α : Type) (a : α) (n : Nat) (l : List α), (a :: l).drop (n + 1) = l.drop n) ∧ (∀ (α : Type) (l : List α), l.drop 0 = l) ∧
    (∀ (α : Type) (a : α) (l m : List α), a :: l ++ m = a :: (l ++ m)) ∧ (∀ (α : Type) (m : List α), [] ++ m = m) ∧ (∀ (α : Type) (a b : α) (l : List α), (a :: l).set 0 b = b :: l) ∧ (∀ (α : Type) (a b : α) (n : Nat) (l : List α), (a :: l).set (n + 1) b = a :: l.set n b) := by
  refine ⟨?_, ?_, ?_, ?_, ?_, ?_, ?_, ?_, ?_, ?_⟩ <;> intros <;> rfl
theorem TL.sv (n : Nat) (is : List Nat) {own' : List Seg} (h : TL P w0 N Q ops rest env own' H) (hB : (bc is && is.all fun i => Nat.blt i n) = true := by rfl) (he : K.sel n is own = own' := by (simp only [K.sel, nrm]; exact rfl)) : TL P w0 N Q ops rest env own H := TL.sel n is hB fun o ho => by rw [ho, he]; exact h
theorem TC.sv (n : Nat) (is : List Nat) {own' : List Seg} {c : Code} (h : TC P w0 N Q c env own' H) (hB : (bc is && is.all fun i => Nat.blt i n) = true := by rfl) (he : K.sel n is own = own' := by (simp only [K.sel, nrm]; exact rfl)) : TC P w0 N Q c env own H := TC.sel n is hB fun o ho => by rw [ho, he]; exact h
theorem TQ.sv (n : Nat) (is : List Nat) {own' : List Seg} {e : Exit} (h : TQ w0 N Q e env own' H) (hB : (bc is && is.all fun i => Nat.blt i n) = true := by rfl) (he : K.sel n is own = own' := by (simp only [K.sel, nrm]; exact rfl)) : TQ w0 N Q e env own H := TQ.sel n is hB fun o ho => by rw [ho, he]; exact h
theorem TQ.drop (k : Nat) {e : Exit} (h : TQ w0 N Q e env (own.drop k) H) : TQ w0 N Q e env own H := fun a w ha hw => h a w ha (hw.drop k)
theorem TC.freeze {c : Code} {seg : Seg} (h : ∀ H', Le H H' → (∀ p ∈ seg, H' p.1 = some p.2) → TC P w0 N Q c env own H') : TC P w0 N Q c env (seg :: own) H :=
  fun a w ha hw => let ⟨h1, h2, h3⟩ := hw.freeze; h _ h2 h3 a w ha h1
theorem TL.freeze {seg : Seg} (h : ∀ H', Le H H' → (∀ p ∈ seg, H' p.1 = some p.2) → TL P w0 N Q ops rest env own H') : TL P w0 N Q ops rest env (seg :: own) H :=
  fun a w ha hw => let ⟨h1, h2, h3⟩ := hw.freeze; h _ h2 h3 a w ha h1
theorem TQ.freeze {e : Exit} {seg : Seg} (h : ∀ H', Le H H' → (∀ p ∈ seg, H' p.1 = some p.2) → TQ w0 N Q e env own H') : TQ w0 N Q e env (seg :: own) H :=
  fun a w ha hw => let ⟨h1, h2, h3⟩ := hw.freeze; h _ h2 h3 a w ha h1
theorem TL.toOwn {own' : List Seg} (he : own = own') (h : TL P w0 N Q ops rest env own' H) : TL P w0 N Q ops rest env own H := he ▸ h
theorem TC.nilseg {c : Code} (h : TC P w0 N Q c env ([] :: own) H) : TC P w0 N Q c env own H := fun a w ha hw => h a w ha hw.nil_seg
theorem hz.mono {H H' : Hp} (hl : Le H H') {seg : Seg} (h : ∀ p ∈ seg, H p.1 = some p.2) : ∀ p ∈ seg, H' p.1 = some p.2 := fun p hp => hl _ _ (h p hp)
def Mid (w0 : World) (N : Nat) (J : Env → List Seg → Hp → Prop) (a : Act) (w : World) : Prop := ∃ env own H, J env own H ∧ At N env a ∧ St w0 H own w
theorem TC.cut {x y : Code} (J : Env → List Seg → Hp → Prop) (hx : TC P w0 N (Exit.then (Mid w0 N J) Q) x env own H) (hy : ∀ env own H, J env own H → TC P w0 N Q y env own H) : TC P w0 N Q (.seq x y) env own H := fun a w ha hw => by
  refine wp_seq (wp_mono (hx a w ha hw) ?_)
  intro e a' w' hq
  cases e with
  | normal => obtain ⟨env', own', H', hJ, ha', hw'⟩ := hq; exact hy env' own' H' hJ a' w' ha' hw'
  | exit id => exact hq
  | goto l => exact hq
  | ret => exact hq
  | panic ch => exact hq
  | outgrown => exact hq
theorem TQ.mid {J : Env → List Seg → Hp → Prop} (env' : Env) (hs : SubL env' env) (hJ : J env' own H) : TQ w0 N (Exit.then (Mid w0 N J) Q) .normal env own H :=
  fun _ _ ha hw => ⟨env', own, H, hJ, ha.sub hs, hw⟩
end
section
variable {P : Program} {w0 : World} {N : Nat} {Q : Exit → Act → World → Prop} {env : Env} {own : List Seg} {H : Hp} {ops : Array Oper}
end
inductive D where
  | c (v : Value)
  | s (sz : Nat) (xs : List D)
mutual
def rd (H : Hp) : D → Value → Prop
  | .c v, u => u = v
  | .s sz xs, u => ∃ A n k, u = .slice A n k ∧ xs.length = n * sz ∧ n ≤ k ∧ k ≤ 9223372036854775807 ∧ (n = 0 ∨ ∃ b o, A = some ⟨b, o, none⟩ ∧ rds H b o xs)
def rds (H : Hp) (b : Nat) : Nat → List D → Prop
  | _, [] => True
  | o, x :: xs => (∃ u, cel H b o = some u ∧ rd H x u) ∧ rds H b (o + 1) xs
end
theorem db {H H' : Hp} (h : Le H H') {b o : Nat} {v : Value} (hc : cel H b o = some v) : cel H' b o = some v := by
  unfold cel at *
  split at hc
  · rename_i hb; rw [h _ _ hb]; exact hc
  · cases hc
theorem hAt.mono {H H' : Hp} (h : Le H H') {b : Nat} : ∀ {vs : List Value} {o : Nat}, hAt H b o vs → hAt H' b o vs
  | [], _, _ => trivial
  | _ :: _, _, hv => ⟨db h hv.1, hAt.mono h hv.2⟩
mutual
theorem rd.mono {H H' : Hp} (h : Le H H') : ∀ {d : D} {u : Value}, rd H d u → rd H' d u
  | .c _, _, hr => by simpa [rd] using hr
  | .s sz xs, u, hr => by
    simp only [rd] at hr ⊢
    obtain ⟨A, n, k, h1, h2, h3, h3', h4⟩ := hr
    refine ⟨A, n, k, h1, h2, h3, h3', ?_⟩
    rcases h4 with h4 | ⟨b, o, h5, h6⟩
    · exact .inl h4
    · exact .inr ⟨b, o, h5, rds.mono h h6⟩
theorem rds.mono {H H' : Hp} (h : Le H H') {b : Nat} : ∀ {xs : List D} {o : Nat}, rds H b o xs → rds H' b o xs
  | [], _, _ => by simp [rds]
  | x :: xs, o, hr => by
    simp only [rds] at hr ⊢
    obtain ⟨⟨u, h1, h2⟩, h3⟩ := hr
    exact ⟨⟨u, db h h1, rd.mono h h2⟩, rds.mono h h3⟩
end
theorem rds.get {H : Hp} {b : Nat} : ∀ {xs : List D} {o : Nat}, rds H b o xs → ∀ i x, xs[i]? = some x → ∃ u, cel H b (o + i) = some u ∧ rd H x u
  | [], _, _, i, x, hx => by simp at hx
  | y :: ys, o, hr, 0, x, hx => by simp only [rds] at hr; simp at hx; subst hx; exact hr.1
  | y :: ys, o, hr, i + 1, x, hx => by
    simp only [rds] at hr
    obtain ⟨u, h1, h2⟩ := rds.get hr.2 i x (by simpa using hx)
    exact ⟨u, by rw [← h1]; congr 1; omega, h2⟩
theorem rds.mk {H : Hp} {b : Nat} : ∀ {xs : List D} {o : Nat}, (∀ i x, xs[i]? = some x → ∃ u, cel H b (o + i) = some u ∧ rd H x u) → rds H b o xs
  | [], _, _ => by simp [rds]
  | y :: ys, o, h => by
    simp only [rds]
    refine ⟨h 0 y rfl, rds.mk fun i x hx => ?_⟩
    have := h (i + 1) x (by simpa using hx)
    rw [show o + 1 + i = o + (i + 1) by omega]
    exact this
def RdL (H : Hp) : List D → List Value → Prop
  | [], [] => True
  | d :: ds, v :: vs => rd H d v ∧ RdL H ds vs
  | _, _ => False
theorem RdL.len {H : Hp} : ∀ {ds : List D} {vs : List Value}, RdL H ds vs → ds.length = vs.length
  | [], [], _ => rfl
  | _ :: _, _ :: _, h => by simp [RdL.len h.2]
  | [], _ :: _, h => h.elim
  | _ :: _, [], h => h.elim
theorem RdL.get {H : Hp} : ∀ {ds : List D} {vs : List Value}, RdL H ds vs → ∀ (i : Nat) (d : D), ds[i]? = some d → ∃ v, vs[i]? = some v ∧ rd H d v
  | [], [], _, i, d, h => by simp at h
  | _ :: _, v :: _, h, 0, d, hd => by simp at hd; subst hd; exact ⟨v, rfl, h.1⟩
  | _ :: ds, _ :: vs, h, i + 1, d, hd => RdL.get h.2 i d (by simpa using hd)
  | [], _ :: _, h, _, _, _ => h.elim
  | _ :: _, [], h, _, _, _ => h.elim
theorem RdL.append {H : Hp} : ∀ {ds es : List D} {vs us : List Value}, RdL H ds vs → RdL H es us → RdL H (ds ++ es) (vs ++ us)
  | [], _, [], _, _, h => h
  | _ :: _, _, _ :: _, _, h, k => ⟨h.1, RdL.append h.2 k⟩
  | [], _, _ :: _, _, h, _ => h.elim
  | _ :: _, _, [], _, h, _ => h.elim
theorem RdL.mono {H H' : Hp} (hl : Le H H') : ∀ {ds : List D} {vs : List Value}, RdL H ds vs → RdL H' ds vs
  | [], [], _ => trivial
  | _ :: _, _ :: _, h => ⟨rd.mono hl h.1, RdL.mono hl h.2⟩
  | [], _ :: _, h => h.elim
  | _ :: _, [], h => h.elim
theorem RdL.split {H : Hp} : ∀ {ds es : List D} {vs : List Value}, RdL H (ds ++ es) vs → ∃ v1 v2, vs = v1 ++ v2 ∧ RdL H ds v1 ∧ RdL H es v2
  | [], _, vs, h => ⟨[], vs, rfl, trivial, h⟩
  | d :: ds, es, v :: vs, h => by
    obtain ⟨v1, v2, h1, h2, h3⟩ := RdL.split (ds := ds) h.2
    exact ⟨v :: v1, v2, by rw [h1]; rfl, ⟨h.1, h2⟩, h3⟩
  | _ :: _, _, [], h => h.elim
theorem rds.cells {H : Hp} {b : Nat} : ∀ {xs : List D} {o : Nat}, rds H b o xs → ∃ vs, hAt H b o vs ∧ RdL H xs vs
  | [], _, _ => ⟨[], trivial, trivial⟩
  | x :: xs, o, h => by
    simp only [rds] at h
    obtain ⟨⟨u, h1, h2⟩, h3⟩ := h
    obtain ⟨vs, h4, h5⟩ := rds.cells h3
    exact ⟨u :: vs, ⟨h1, h4⟩, h2, h5⟩
theorem rd.s_at {H : Hp} {sz : Nat} {xs : List D} {A : Option Addr} {n k : Nat} (h : rd H (.s sz xs) (.slice A n k)) (hn : 0 < n) : xs.length = n * sz ∧ ∃ b o, A = some ⟨b, o, none⟩ ∧ rds H b o xs := by
  simp only [rd] at h
  obtain ⟨A', n', k', h1, h2, _, _, h4⟩ := h
  injection h1 with e1 e2 e3
  subst e1; subst e2
  rcases h4 with h4 | h4
  · omega
  · exact ⟨h2, h4⟩
theorem rd.s_len {H : Hp} {sz : Nat} {xs : List D} {v : Value} (h : rd H (.s sz xs) v) : ∃ A n k, v = .slice A n k ∧ xs.length = n * sz ∧ n ≤ k ∧ k ≤ 9223372036854775807 := by
  simp only [rd] at h
  obtain ⟨A, n, k, h1, h2, h3, h3', _⟩ := h
  exact ⟨A, n, k, h1, h2, h3, h3'⟩
theorem rd.nil (H : Hp) (sz : Nat) : rd H (.s sz []) (.slice none 0 0) := by
  simp only [rd]
  exact ⟨none, 0, 0, rfl, by simp, Nat.le_refl _, by omega, .inl rfl⟩
theorem rd.ofRow {H H' : Hp} {e : TypeId} {sz : Nat} {v : Value} {n : Nat} {xs : List Value} {seg : Seg} {ds : List D} (h : Row e sz v n xs seg) (hH : ∀ p ∈ seg, H' p.1 = some p.2) (hr : RdL H ds xs) (hl : Le H H') : rd H' (.s sz ds) v := by
  obtain ⟨hlen, h⟩ := h
  rcases h with ⟨rfl, rfl, _⟩ | ⟨g, cap, cur, rfl, rfl, h1, h2, h3, h4⟩
  · have : xs = [] := List.eq_nil_of_length_eq_zero (by simpa using hlen)
    subst this
    have : ds = [] := List.eq_nil_of_length_eq_zero (by rw [hr.len]; rfl)
    subst this
    exact rd.nil _ _
  · simp only [rd]
    refine ⟨_, _, _, rfl, by rw [hr.len, hlen], h1, by simpa [maxLen] using h2, .inr ⟨g, 0, rfl, rds.mk fun i d hd => ?_⟩⟩
    obtain ⟨u, hu, hrd⟩ := hr.get i d hd
    refine ⟨u, ?_, hrd.mono hl⟩
    unfold cel
    rw [hH _ (List.mem_singleton.2 rfl)]
    rw [← h4, List.getElem?_take] at hu
    split at hu
    · simpa using hu
    · cases hu
theorem fI {H : Hp} {l : List Value} {v : Value} (h : rd H (.s 1 (l.map D.c)) v) : ∃ A c, v = .slice A l.length c ∧ l.length ≤ c ∧ c ≤ 9223372036854775807 := by
  obtain ⟨A, n, c, rfl, h1, h2, h3⟩ := h.s_len
  have : n = l.length := by simpa using h1.symm
  subst this
  exact ⟨A, c, rfl, h2, h3⟩
theorem vals_at {H : Hp} {l : List Value} {A : Option Addr} {n c : Nat} (h : rd H (.s 1 (l.map D.c)) (.slice A n c)) {i : Nat} {u : Value} (hi : l[i]? = some u) : ∃ b o, A = some ⟨b, o, none⟩ ∧ cel H b (o + i * 1) = some u := by
  have hlt : i < l.length := (List.getElem?_eq_some_iff.1 hi).1
  have hn : n = l.length := by
    obtain ⟨A', c', e, _⟩ := fI h
    injection e
  subst hn
  obtain ⟨_, b, o, rfl, hr⟩ := h.s_at (by omega)
  obtain ⟨u', h1, h2⟩ := hr.get i (.c u) (by simp [hi])
  simp only [rd] at h2
  subst h2
  exact ⟨b, o, rfl, by rw [Nat.mul_one]; exact h1⟩
class Zr (P : Program) (t : TypeId) (c : outParam (Array Value)) : Prop where
  ex : ∃ i z, P.info? t = some i ∧ i.zero = some z ∧ z.cells = c
class Str (P : Program) (t : TypeId) (places : outParam (List (Nat × Nat))) (zero : outParam (Array Value)) : Prop where
  und : ∃ fs : Array Field, P.underlying t = some (.struct fs) ∧ ∀ w, (fs.mapM fun f => Prod.mk f.offset <$> sizeOf f.type).run P w = .ok places.toArray w
  zr : ∃ i z, P.info? t = some i ∧ i.zero = some z ∧ z.cells = zero
theorem om {P : Program} (fs : List Field) (w : World) (h : fs.all (fun f => (P.info? f.type).isSome) = true) :
    (fs.mapM fun f => Prod.mk f.offset <$> sizeOf f.type).run P w = .ok (fs.map fun f => (f.offset, P.cellsOf f.type)) w := by
  induction fs with
  | nil => simp
  | cons f r ih =>
    simp only [List.all_cons, Bool.and_eq_true] at h
    obtain ⟨i, hi⟩ := Option.isSome_iff_exists.1 h.1
    have hsz : (sizeOf f.type).run P w = .ok (P.cellsOf f.type) w := by simp [sizeOf, typeInfo, hi, Program.cellsOf]
    rw [List.mapM_cons]
    simp only [Sem.run_bind, Sem.run_map, hsz, Result.andThen_ok, ih h.2, Sem.run_pure, List.map_cons]
theorem Str.of {P : Program} {t : TypeId} {fs : Array Field} {i : TypeInfo} {z : Value} {c : Array Value} {places : List (Nat × Nat)} (hu : P.underlying t = some (.struct fs)) (hi : P.info? t = some i) (hz : i.zero = some z) (hc : z.cells = c)
    (h1 : fs.toList.all (fun f => (P.info? f.type).isSome) = true) (h2 : (fs.toList.map fun f => (f.offset, P.cellsOf f.type)) = places) : Str P t places c := by
  refine ⟨⟨fs, hu, fun w => ?_⟩, ⟨i, z, hi, hz, hc⟩⟩
  have := om (P := P) fs.toList w h1
  rw [h2] at this
  rw [Array.mapM_eq_mapM_toList]
  simp [this]
theorem bq {v : Value} (h : v.oneCell' = true) : v.cells = #[v] := by cases v <;> simp_all [Value.oneCell', Value.cells]
theorem Row.one {e : TypeId} {sz : Nat} {v : Value} {n : Nat} {xs : List Value} {seg : Seg} (h : Row e sz v n xs seg) : v.oneCell' = true := by
  rcases h.2 with ⟨rfl, _⟩ | ⟨g, cap, cur, rfl, _⟩ <;> rfl
theorem rd.one {H : Hp} {sz : Nat} {xs : List D} {v : Value} (h : rd H (.s sz xs) v) : v.oneCell' = true := by
  obtain ⟨A, n, k, rfl, _⟩ := h.s_len
  rfl
def ig (env : Env) : List (Nat × Operand) → List (Nat × List Value) → Prop
  | [], [] => True
  | (i, x) :: ps, (j, vs) :: pv => i = j ∧ (∃ v, ev env x = some v ∧ v.cells = vs.toArray) ∧ ig env ps pv
  | _, _ => False
def dy (place : Nat → Option (Nat × Nat)) (cells : Array Value) : List (Nat × List Value) → Option (Array Value)
  | [] => some cells
  | (i, vs) :: r => match place i with
    | none => none
    | some (off, size) => if vs.length = size ∧ off + vs.length ≤ cells.size then dy place (ba cells off vs) r else none
theorem kA (off : Nat) : ∀ (vs : List Value) (k : Nat) (cs : Array Value), (vs.zipIdx k).foldl (fun cs (c, j) => cs.setIfInBounds (off + j) c) cs = ba cs (off + k) vs
  | [], _, _ => rfl
  | v :: r, k, cs => by
    simp only [List.zipIdx_cons, List.foldl_cons, ba]
    rw [kA off r (k + 1)]
    rfl
theorem cC {N : Nat} {env : Env} {a : Act} (ha : At N env a) (place : Nat → Option (Nat × Nat)) : ∀ {ps : List (Nat × Operand)} {pv : List (Nat × List Value)} {cells r : Array Value}, ig env ps pv → dy place cells pv = some r →
    Instr.fill place cells (ps.map fun (i, x) => (i, a.eval x)) = some r
  | [], [], _, _, _, h => by simpa [Instr.fill, dy] using h
  | (i, x) :: ps, (j, vs) :: pv, cells, r, hp, h => by
    obtain ⟨rfl, ⟨v, hx, hv⟩, hp⟩ := hp
    simp only [dy] at h
    simp only [List.map_cons, Instr.fill, ha.ev hx]
    cases hpl : place i with
    | none => simp [hpl] at h
    | some q =>
      obtain ⟨off, size⟩ := q
      simp only [hpl] at h
      split at h
      · rename_i hc
        have h1 : ¬ (v.cells.size ≠ size ∨ off + v.cells.size > cells.size) := by rw [hv]; simp; omega
        simp only [decide_not, Bool.or_eq_true, Bool.not_eq_true', decide_eq_false_iff_not, decide_eq_true_eq]
        rw [if_neg (by simpa using h1)]
        have := cC ha place hp h
        rw [hv]
        have e := kA off vs 0 cells
        simp only [Nat.add_zero] at e
        rw [← e] at this
        simpa using this
      · cases h
  | [], _ :: _, _, _, hp, _ => hp.elim
  | _ :: _, [], _, _, hp, _ => hp.elim
section
variable {P : Program} {w0 : World} {N : Nat} {Q : Exit → Act → World → Prop} {env : Env} {own : List Seg} {H : Hp} {ops : Array Oper} {rest : List Oper}
variable {d : Option Tmp} {ty : TypeId} {pos : String} {af : Array Edge}
theorem TL.new {t : TypeId} {c : Array Value} [hz : Zr P t c] (hd : okD N d = true)
    (h : ∀ g, TL P w0 N Q ops rest (ab d (.pointer (some ⟨g, 0, none⟩)) env) ([(g, .cells c t (0, 0))] :: own) H) :
    TL P w0 N Q ops ({ dst := d, op := .alloc t, type := ty, pos := pos, after := af, guard := none } :: rest) env own H := by
  obtain ⟨i, z, hi, hz', hc⟩ := hz.ex
  have : Inf P t i := ⟨hi⟩
  exact TL.alloc hz' hc hd h
theorem Ql {t : TypeId} {places : List (Nat × Nat)} {zero : Array Value} {ps : List (Nat × Operand)} {r : Array Value} [hs : Str P t places zero] (pv : List (Nat × List Value)) (hp : ig env ps pv)
    (hd : okD N d = true) (hf : dy (places.toArray[·]?) zero pv = some r) (h : TL P w0 N Q ops rest (ab d (.agg r) env) own H) :
    TL P w0 N Q ops ({ dst := d, op := .build t ps.toArray, type := ty, pos := pos, after := af, guard := none } :: rest) env own H :=
  Qd hd (fun a ha w => by
    obtain ⟨fs, hu, hm⟩ := hs.und
    obtain ⟨i, z, hi, hz, hc⟩ := hs.zr
    have hfill := cC ha (places.toArray[·]?) hp hf
    simp [execOp, Instr.build, zeroValue, typeInfo, hi, hz, run_underlying hu, hc]
    rw [hm]
    simp at hfill ⊢
    rw [hfill]
    simp) h
theorem TL.array {t e : TypeId} {n sz : Nat} {agg : Bool} {zero : Array Value} {ps : List (Nat × Operand)} {r : Array Value} [hu : Und P t (.array n e)] [hz : Zr P t zero] [ht : Ty P e agg sz] (pv : List (Nat × List Value)) (hp : ig env ps pv)
    (hd : okD N d = true) (hf : dy (fun i => some (i * sz, sz)) zero pv = some r) (h : TL P w0 N Q ops rest (ab d (.agg r) env) own H) :
    TL P w0 N Q ops ({ dst := d, op := .build t ps.toArray, type := ty, pos := pos, after := af, guard := none } :: rest) env own H :=
  Qd hd (fun a ha w => by
    obtain ⟨i, z, hi, hz, hc⟩ := hz.ex
    have hfill := cC ha (fun i => some (i * sz, sz)) hp hf
    simp [execOp, Instr.build, zeroValue, typeInfo, hi, hz, run_underlying hu.eq, ht.size, hc]
    simp at hfill
    rw [hfill]
    simp) h
theorem TL.lit {t e : TypeId} {len sz by_ : Nat} {z : Value} {ps : List (Nat × Operand)} {r : Array Value} [hu : Sl P t e sz by_ z] (pv : List (Nat × List Value)) (hp : ig env ps pv) (hlen : Nat.ble (len * sz) 16777216 = true)
    (hd : okD N d = true) (hf : dy (fun i => some (i * sz, sz)) (madeCells z.cells (len * sz)) pv = some r)
    (h : ∀ g, TL P w0 N Q ops rest (ab d (.slice (some ⟨g, 0, none⟩) len len) env) ([(g, .cells r e (0, 0))] :: own) H) :
    TL P w0 N Q ops ({ dst := d, op := .buildSlice t len ps.toArray, type := ty, pos := pos, after := af, guard := none } :: rest) env own H :=
  TL.valE (φ := fun v own' H' => ∃ g, v = .slice (some ⟨g, 0, none⟩) len len ∧ own' = [(g, .cells r e (0, 0))] :: own ∧ H' = H) rfl hd
    (fun a w ha hw => ⟨_, _, _, w.alloc (.cells r e), by
      obtain ⟨i, hi, hz, hs, _⟩ := hu.ex
      have hfill := cC ha (fun i => some (i * sz, sz)) hp hf
      have hle : ¬ 16777216 < len * sz := by have := Nat.le_of_ble_eq_true hlen; omega
      by_cases h0 : len * sz = 0
      · have e0 : madeCells z.cells (len * sz) = #[] := by rw [h0]; simp [madeCells]
        rw [e0] at hfill
        have e1 : Array.map (fun _ => (default : Value)) (Array.range 0) = #[] := by simp
        simp [execOp, Instr.buildSlice, run_underlying hu.und, hu.sizeOf, h0, newRow]
        rw [e1]
        simp at hfill
        rw [hfill]
        simp
      · simp [execOp, Instr.buildSlice, run_underlying hu.und, hu.sizeOf, hle, h0, zeroValue, typeInfo, hi, hz, newRow]
        simp [madeCells] at hfill
        rw [hfill]
        simp, ⟨w.heap.size, rfl, rfl, rfl⟩, hw.new _⟩)
    (by rintro v own' H' ⟨g, rfl, rfl, rfl⟩; exact h g)
def seqP (sz : Nat) : Nat → List (Nat × List Value) → Bool
  | _, [] => true
  | k, (i, vs) :: r => Nat.beq i k && Nat.beq vs.length sz && seqP sz (k + 1) r
theorem ij (pre junk vs : List Value) (h : vs.length ≤ junk.length) : ba (pre ++ junk).toArray pre.length vs = ((pre ++ vs) ++ junk.drop vs.length).toArray := by
  induction vs generalizing pre junk with
  | nil => simp [ba]
  | cons v r ih =>
    cases junk with
    | nil => simp at h
    | cons j js =>
      have := ih (pre ++ [v]) js (by simpa using h)
      simp only [ba]
      have e : ((pre ++ j :: js).toArray.setIfInBounds pre.length v) = ((pre ++ [v]) ++ js).toArray := by simp
      rw [e]
      have e2 : pre.length + 1 = (pre ++ [v]).length := by simp
      rw [e2, this]
      simp
theorem kB (sz : Nat) : ∀ (pv : List (Nat × List Value)) (k : Nat) (pre junk : List Value), seqP sz k pv = true → pre.length = k * sz → junk.length = pv.length * sz →
    dy (fun i => some (i * sz, sz)) (pre ++ junk).toArray pv = some (pre ++ pv.flatMap (·.2)).toArray
  | [], k, pre, junk, _, _, hj => by
    have : junk = [] := List.eq_nil_of_length_eq_zero (by simpa using hj)
    subst this
    simp [dy]
  | (i, vs) :: r, k, pre, junk, hs, hp, hj => by
    simp only [seqP, Bool.and_eq_true] at hs
    obtain ⟨⟨h1, h2⟩, h3⟩ := hs
    have h1' := Nat.eq_of_beq_eq_true h1
    have h2' := Nat.eq_of_beq_eq_true h2
    subst h1'
    have hj' : junk.length = sz + r.length * sz := by rw [hj, List.length_cons, Nat.add_mul]; omega
    simp only [dy]
    rw [if_pos ⟨h2', by simp; omega⟩]
    rw [← hp, ij pre junk vs (by omega)]
    have := kB sz r (i + 1) (pre ++ vs) (junk.drop vs.length) h3 (by rw [List.length_append, hp, h2', Nat.add_mul]; omega) (by rw [List.length_drop]; omega)
    rw [this]
    simp
theorem TL.litF {t e : TypeId} {len sz by_ : Nat} {z : Value} {ps : List (Nat × Operand)} {r : List Value} [hu : Sl P t e sz by_ z] (pv : List (Nat × List Value)) (hp : ig env ps pv) (hlen : Nat.ble (len * sz) 16777216 = true)
    (hs : (seqP sz 0 pv && Nat.beq pv.length len) = true) (hr : pv.flatMap (·.2) = r) (hd : okD N d = true)
    (h : ∀ g, TL P w0 N Q ops rest (ab d (.slice (some ⟨g, 0, none⟩) len len) env) ([(g, .cells r.toArray e (0, 0))] :: own) H) :
    TL P w0 N Q ops ({ dst := d, op := .buildSlice t len ps.toArray, type := ty, pos := pos, after := af, guard := none } :: rest) env own H := by
  simp only [Bool.and_eq_true] at hs
  have hl := Nat.eq_of_beq_eq_true hs.2
  refine TL.lit pv hp hlen hd ?_ h
  have := kB sz pv 0 [] (madeCells z.cells (len * sz)).toList hs.1 (by simp) (by simp [size_madeCells, hl])
  simp only [List.nil_append] at this
  rw [← hr]
  simpa using this
theorem TL.store1 (i j : Nat) {t : TypeId} {x y : Operand} {g o : Nat} {seg : Seg} {c : Array Value} {e : TypeId} {v : Value} (hx : ev env x = some (.pointer (some ⟨g, o, none⟩))) (hy : ev env y = some v) (hi : own[i]? = some seg) (hj : seg[j]? = some (g, .cells c e (0, 0)))
    [ht : Ty P t false 1] (h1 : v.oneCell' = true) (hf : o < c.size) {c' : Array Value} {own' : List Seg} (hc : c.setIfInBounds o v = c') (ho : own.set i (seg.set j (g, .cells c' e (0, 0))) = own') (hd : okD N d = true) (h : TL P w0 N Q ops rest (ab d undef env) own' H) :
    TL P w0 N Q ops ({ dst := d, op := .store t x y, type := ty, pos := pos, after := af, guard := none } :: rest) env own H :=
  TL.store i j hx hy hi hj (vs := [v]) (bq h1) rfl (by simpa using h1) (by simp only [List.length_singleton]; omega) hc ho hd h
def Ones : List Value → Prop
  | [] => True
  | v :: r => v.oneCell' = true ∧ Ones r
theorem Ones.all : ∀ {vs : List Value}, Ones vs → ∀ u ∈ vs, u.oneCell' = true
  | v :: r, h, u, hu => by
    rcases List.mem_cons.1 hu with rfl | hu
    · exact h.1
    · exact Ones.all h.2 u hu
theorem Qj (i j : Nat) {t : TypeId} {x y : Operand} {g o : Nat} {seg : Seg} {c : Array Value} {e : TypeId} {n : Nat} {vs : List Value} (hx : ev env x = some (.pointer (some ⟨g, o, none⟩))) (hy : ev env y = some (.agg vs.toArray)) (hi : own[i]? = some seg) (hj : seg[j]? = some (g, .cells c e (0, 0)))
    [ht : Ty P t true n] (hn : vs.length = n) (h1 : Ones vs) (hf : o + vs.length ≤ c.size) {c' : Array Value} {own' : List Seg} (hc : ba c o vs = c') (ho : own.set i (seg.set j (g, .cells c' e (0, 0))) = own') (hd : okD N d = true) (h : TL P w0 N Q ops rest (ab d undef env) own' H) :
    TL P w0 N Q ops ({ dst := d, op := .store t x y, type := ty, pos := pos, after := af, guard := none } :: rest) env own H :=
  TL.store i j hx hy hi hj (vs := vs) rfl hn h1.all hf hc ho hd h
theorem TL.lssB {x y : Operand} {tx t' : TypeId} {k : IntKind} {m n : Int} (hx : ev env x = some (.int k m)) (hy : ev env y = some (.int k n)) (hd : okD N d = true)
    (h1 : m < n → TL P w0 N Q ops rest (ab d (.bool true) env) own H) (h0 : n ≤ m → TL P w0 N Q ops rest (ab d (.bool false) env) own H) :
    TL P w0 N Q ops ({ dst := d, op := .binOp .lss tx x y t', type := ty, pos := pos, after := af, guard := none } :: rest) env own H :=
  TL.lss hx hy hd (by
                      by_cases h : m < n
                      · rw [decide_eq_true h]; exact h1 h
                      · rw [decide_eq_false h]; exact h0 (by omega))
theorem TL.leqB {x y : Operand} {tx t' : TypeId} {k : IntKind} {m n : Int} (hx : ev env x = some (.int k m)) (hy : ev env y = some (.int k n)) (hd : okD N d = true)
    (h1 : m ≤ n → TL P w0 N Q ops rest (ab d (.bool true) env) own H) (h0 : n < m → TL P w0 N Q ops rest (ab d (.bool false) env) own H) :
    TL P w0 N Q ops ({ dst := d, op := .binOp .leq tx x y t', type := ty, pos := pos, after := af, guard := none } :: rest) env own H :=
  TL.leq hx hy hd (by
                      by_cases h : m ≤ n
                      · rw [decide_eq_true h]; exact h1 h
                      · rw [decide_eq_false h]; exact h0 (by omega))
theorem TL.eqlB {x y : Operand} {tx t' : TypeId} {k : IntKind} {m n : Int} (hx : ev env x = some (.int k m)) (hy : ev env y = some (.int k n)) (hd : okD N d = true)
    (h1 : m = n → TL P w0 N Q ops rest (ab d (.bool true) env) own H) (h0 : m ≠ n → TL P w0 N Q ops rest (ab d (.bool false) env) own H) :
    TL P w0 N Q ops ({ dst := d, op := .binOp .eql tx x y t', type := ty, pos := pos, after := af, guard := none } :: rest) env own H :=
  TL.eql hx hy hd (by
                      by_cases h : m = n
                      · rw [decide_eq_true h]; exact h1 h
                      · rw [decide_eq_false h]; exact h0 h)
theorem TL.neqB {x y : Operand} {tx t' : TypeId} {k : IntKind} {m n : Int} (hx : ev env x = some (.int k m)) (hy : ev env y = some (.int k n)) (hd : okD N d = true)
    (h1 : m ≠ n → TL P w0 N Q ops rest (ab d (.bool true) env) own H) (h0 : m = n → TL P w0 N Q ops rest (ab d (.bool false) env) own H) :
    TL P w0 N Q ops ({ dst := d, op := .binOp .neq tx x y t', type := ty, pos := pos, after := af, guard := none } :: rest) env own H :=
  TL.neq hx hy hd (by
                      by_cases h : m = n
                      · rw [decide_eq_false (by simpa using h)]; exact h0 h
                      · rw [decide_eq_true h]; exact h1 h)
theorem TL.neqSB {x y : Operand} {tx t' : TypeId} {s t : ByteArray} (hx : ev env x = some (.string s)) (hy : ev env y = some (.string t)) (hd : okD N d = true)
    (h1 : s ≠ t → TL P w0 N Q ops rest (ab d (.bool true) env) own H) (h0 : s = t → TL P w0 N Q ops rest (ab d (.bool false) env) own H) :
    TL P w0 N Q ops ({ dst := d, op := .binOp .neq tx x y t', type := ty, pos := pos, after := af, guard := none } :: rest) env own H :=
  TL.neqS hx hy hd (by
                       by_cases h : s = t
                       · rw [decide_eq_false (by simpa using h)]; exact h0 h
                       · rw [decide_eq_true h]; exact h1 h)
theorem TL.eqlNilB {x y : Operand} {tx t' e : TypeId} {A : Option Addr} {n c : Nat} [hu : Und P tx (.slice e)] (hx : ev env x = some (.slice A n c)) (hy : ev env y = some (.slice none 0 0)) (hd : okD N d = true)
    (h1 : A = none → TL P w0 N Q ops rest (ab d (.bool true) env) own H) (h0 : A ≠ none → TL P w0 N Q ops rest (ab d (.bool false) env) own H) :
    TL P w0 N Q ops ({ dst := d, op := .binOp .eql tx x y t', type := ty, pos := pos, after := af, guard := none } :: rest) env own H := by
  have hr : ∀ a, At N env a → ∀ w, (execOp a.eval { dst := d, op := .binOp .eql tx x y t', type := ty, pos := pos, after := af, guard := none }).run P w = .ok (.value (.bool A.isNone)) w := fun a ha w => by
    have := run_equal_slice_nil (P := P) w tx e A n c hu.eq
    simp only [execOp, eqGuard, binOp, ha.ev hx, ha.ev hy]
    simp [this]
  rcases A with _ | A
  · exact Qd hd hr (h1 rfl)
  · exact Qd hd hr (h0 (by simp))
theorem TL.clear (i j : Nat) {t e : TypeId} {x : Operand} {g o n k : Nat} {seg : Seg} {c : Array Value} {e' : TypeId} {sz by_ : Nat} {z : Value} [hU : Sl P t e sz by_ z] (hx : ev env x = some (.slice (some ⟨g, o, none⟩) n k)) (hi : own[i]? = some seg) (hj : seg[j]? = some (g, .cells c e' (0, 0)))
    (hn : 0 < n) (h1 : ∀ u ∈ (Builtin.zeroCells z.cells n).toList, u.oneCell' = true) (hf : o + (Builtin.zeroCells z.cells n).toList.length ≤ c.size) (hd : okD N d = true)
    (h : TL P w0 N Q ops rest (ab d (.tuple #[]) env) (own.set i (seg.set j (g, .cells (ba c o (Builtin.zeroCells z.cells n).toList) e' (0, 0)))) H) :
    TL P w0 N Q ops ({ dst := d, op := .call { callee := .builtin .clear, args := #[x], argTypes := #[t] }, type := ty, pos := pos, after := af, guard := none } :: rest) env own H :=
  TL.val rfl hd (fun a w ha hw => ⟨w.setRow g (ba c o (Builtin.zeroCells z.cells n).toList), by
    obtain ⟨ii, hii, hz, _, _⟩ := hU.ex
    have hb := hw.own_blk hi hj
    have hr := cX (P := P) g o e' (Builtin.zeroCells z.cells n).toList 0 c w hb (by simpa using hf) h1
    simp only [Nat.add_zero] at hr
    obtain ⟨m, rfl⟩ : ∃ m, n = m + 1 := ⟨n - 1, by omega⟩
    simp [execOp, resolve, invoke, builtin, Builtin.clear_, ha.ev hx, run_underlying hU.und, zeroValue, typeInfo, hii, hz, hr], hw.setRow hi hj⟩) h
theorem TL.pickT {x y : Operand} {c : Operand} {u v : Value} (hc : ev env c = some (.bool true)) (hx : ev env x = some u) (hy : ev env y = some v) (hd : okD N d = true)
    (h : TL P w0 N Q ops rest (ab d u env) own H) : TL P w0 N Q ops ({ dst := d, op := .pick c x y, type := ty, pos := pos, after := af, guard := none } :: rest) env own H :=
  TL.pick hc hx hy hd h
theorem TL.pickF {x y : Operand} {c : Operand} {u v : Value} (hc : ev env c = some (.bool false)) (hx : ev env x = some u) (hy : ev env y = some v) (hd : okD N d = true)
    (h : TL P w0 N Q ops rest (ab d v env) own H) : TL P w0 N Q ops ({ dst := d, op := .pick c x y, type := ty, pos := pos, after := af, guard := none } :: rest) env own H :=
  TL.pick hc hx hy hd h
def ja (b : UInt8) : Value := .int .u8 (b.toNat : Int)
theorem TL.convBS (i j : Nat) {s t e : TypeId} {x : Operand} {g o n k : Nat} {seg : Seg} {c : Array Value} {e' : TypeId} {fz : Nat × Nat} (l : List UInt8) (hx : ev env x = some (.slice (some ⟨g, o, none⟩) n k)) (hi : own[i]? = some seg) (hj : seg[j]? = some (g, .cells c e' fz))
    [hs : Und P s (.slice e)] [he : Und P e (.int .u8)] [ht : Und P t .string] (hn : l.length = n) (hc : cAt c o (l.map ja)) (hd : okD N d = true) (h : TL P w0 N Q ops rest (ab d (.string ⟨l.toArray⟩) env) own H) :
    TL P w0 N Q ops ({ dst := d, op := .convert s t x, type := ty, pos := pos, after := af, guard := none } :: rest) env own H :=
  TL.val rfl hd (fun a w ha hw => ⟨w, by
    subst hn
    have hb := hw.own_blk hi hj
    have hcell : ∀ q (hq : q < l.length), w.cell? ((⟨g, o, none⟩ : Addr).add q) = some (.int .u8 (l[q].toNat : Int)) := fun q hq => by
      rw [bB, aL hb]
      exact hc.get q (.int .u8 (l[q].toNat : Int)) (by simp [hq, ja])
    have hr := run_convert_bytes_back (P := P) w s t e ⟨g, o, none⟩ k l hs.eq he.eq ht.eq hcell
    simp only [execOp, ha.ev hx, Sem.run_bind, hr, Result.andThen_ok]
    rfl, hw⟩) h
theorem TL.gyes {op : Op} {j : Nat} {want : Bool} {t : Tmp} (hj : (ops[j]?).bind (·.dst) = some t) (ht : lk env t = some (.bool want)) (hd : okD N d = true)
    (h : TL P w0 N Q ops ({ dst := d, op := op, type := ty, pos := pos, after := af, guard := none } :: rest) env own H) :
    TL P w0 N Q ops ({ dst := d, op := op, type := ty, pos := pos, after := af, guard := some (j, want) } :: rest) env own H :=
  TL.guard hj ht hd (fun _ => h) (fun hc => by cases want <;> cases hc)
theorem TL.gno {op : Op} {j : Nat} {want b : Bool} {t : Tmp} (hj : (ops[j]?).bind (·.dst) = some t) (ht : lk env t = some (.bool b)) (hb : b = !want) (hd : okD N d = true)
    (h : TL P w0 N Q ops rest (ab d undef env) own H) :
    TL P w0 N Q ops ({ dst := d, op := op, type := ty, pos := pos, after := af, guard := some (j, want) } :: rest) env own H :=
  TL.guard hj ht hd (fun hc => by subst hc; cases b <;> cases hb) (fun _ => h)
theorem TL.gund {op : Op} {j : Nat} {want : Bool} {t : Tmp} (hj : (ops[j]?).bind (·.dst) = some t) (ht : lk env t = some undef) (hd : okD N d = true)
    (h : TL P w0 N Q ops rest (ab d undef env) own H) :
    TL P w0 N Q ops ({ dst := d, op := op, type := ty, pos := pos, after := af, guard := some (j, want) } :: rest) env own H := fun a w ha hw => by
  have hy : yielded ops a.tmps j = none := by
    unfold yielded
    rw [hj]
    have h1 := ha.slots t _ ht
    simp [h1, undef]
  have h1 := h _ w (ha.put hd undef) hw
  simp only [wpList, Region.wanted, hy]
  rw [if_neg (by simp)]
  exact h1
end
def D.One : D → Prop
  | .c v => v.oneCell' = true
  | .s _ _ => True
theorem RdL.ones {H : Hp} : ∀ {ds : List D} {vs : List Value}, RdL H ds vs → (∀ d ∈ ds, D.One d) → Ones vs
  | [], [], _, _ => trivial
  | d :: ds, v :: vs, h, ho => by
    refine ⟨?_, RdL.ones h.2 (fun x hx => ho x (List.mem_cons_of_mem _ hx))⟩
    have hd := ho d (by simp)
    have h1 := h.1
    cases d with
    | c u => simp only [rd] at h1; subst h1; exact hd
    | s sz xs => exact h1.one
  | [], _ :: _, h, _ => h.elim
  | _ :: _, [], h, _ => h.elim
theorem RdL.vals {H : Hp} : ∀ (l : List Value), RdL H (l.map D.c) l
  | [] => trivial
  | v :: r => ⟨by simp [rd], RdL.vals r⟩
theorem rd.src {H : Hp} {sz : Nat} {xs : List D} {A : Option Addr} {n c : Nat} (h : rd H (.s sz xs) (.slice A n c)) (ho : ∀ d ∈ xs, D.One d) : ∃ news, (∀ w0 own, Src w0 H own A sz n news) ∧ RdL H xs news := by
  simp only [rd] at h
  obtain ⟨A', n', k', e, h2, h3, h3', h4⟩ := h
  injection e with e1 e2 e3
  subst e1; subst e2; subst e3
  rcases h4 with h4 | ⟨b, o, rfl, h4⟩
  · subst h4
    have : xs = [] := List.eq_nil_of_length_eq_zero (by simpa using h2)
    subst this
    exact ⟨[], fun _ _ => Src.nil, trivial⟩
  · obtain ⟨vs, h5, h6⟩ := rds.cells h4
    exact ⟨vs, fun _ _ => Src.imm (by rw [← h2, h6.len]) (h6.ones ho).all h5, h6⟩
theorem rd.srcN {H : Hp} {sz m : Nat} {xs : List D} {v : Value} (h : rd H (.s sz xs) v) (hsz : 0 < sz) (hm : xs.length = m * sz) (ho : ∀ d ∈ xs, D.One d) : ∃ A c news, v = .slice A m c ∧ (∀ w0 own, Src w0 H own A sz m news) ∧ RdL H xs news := by
  obtain ⟨A, n, c, rfl, e1, _, _⟩ := h.s_len
  have : n = m := by
    have := e1.symm.trans hm
    exact Nat.eq_of_mul_eq_mul_right hsz this
  subst this
  obtain ⟨news, h1, h2⟩ := h.src ho
  exact ⟨A, c, news, rfl, h1, h2⟩
theorem St.flat {w0 w : World} {H : Hp} {own own' : List Seg} (h : St w0 H own w) (hf : own'.flatten.Perm own.flatten) : St w0 H own' w :=
  ⟨h.os, h.tape, h.output, h.imm, fun p hq => h.own_at p (hf.mem_iff.1 hq), fun p hq => h.apart p (hf.mem_iff.1 hq), ((hf.map _).nodup_iff).2 h.nodup⟩
section
variable {P : Program} {w0 : World} {N : Nat} {Q : Exit → Act → World → Prop} {env : Env} {own : List Seg} {H : Hp} {ops : Array Oper} {rest : List Oper}
theorem TQ.flat {e : Exit} {own' : List Seg} (hf : own'.flatten.Perm own.flatten) (h : TQ w0 N Q e env own' H) : TQ w0 N Q e env own H := fun a w ha hw => h a w ha (hw.flat hf)
theorem TL.flat {own' : List Seg} (hf : own'.flatten.Perm own.flatten) (h : TL P w0 N Q ops rest env own' H) : TL P w0 N Q ops rest env own H := fun a w ha hw => h a w ha (hw.flat hf)
end
end Go.Proofs.YtlmahofogapkgaaGreatDoor.K
namespace Go.Proofs.YtlmahofogapkgaaGreatDoor.X
open Go Go.RowKit K
inductive D where
  | c (v : Value)
  | s (rows : List (List D))
  | p (xs : List D)
  | f (fn : FuncId) (first caps : List D)
  | mp (Q : Obj → Prop)
mutual
def rd (H : Hp) : D → Value → Prop
  | .c v, u => u = v ∧ v.oneCell' = true
  | .s rows, u => ∃ A k sz, u = .slice A rows.length k ∧ rows.length ≤ k ∧ k ≤ maxLen ∧ (rows = [] ∨ ∃ b o, A = some ⟨b, o, none⟩ ∧ rdr H b sz o rows)
  | .p xs, u => ∃ b o, u = .pointer (some ⟨b, o, none⟩) ∧ rds H b o xs
  | .f fn fs cs, u => ∃ us ws, u = .func (.func fn) us ws ∧ rdL H fs us.toList ∧ rdL H cs ws.toList
  | .mp Q, u => ∃ g ob, u = .map (some g) ∧ H g = some ob ∧ Q ob
def rdL (H : Hp) : List D → List Value → Prop
  | [], [] => True
  | d :: ds, v :: vs => rd H d v ∧ rdL H ds vs
  | _, _ => False
def rds (H : Hp) (b : Nat) : Nat → List D → Prop
  | _, [] => True
  | o, x :: xs => (∃ u, cel H b o = some u ∧ rd H x u) ∧ rds H b (o + 1) xs
def rdr (H : Hp) (b sz : Nat) : Nat → List (List D) → Prop
  | _, [] => True
  | o, r :: rs => (r.length = sz ∧ rds H b o r) ∧ rdr H b sz (o + sz) rs
end
theorem db {H H' : Hp} (h : Le H H') {b o : Nat} {v : Value} (hc : cel H b o = some v) : cel H' b o = some v := by
  unfold cel at *
  split at hc
  · rename_i hb; rw [h _ _ hb]; exact hc
  · cases hc
mutual
theorem rd.mono {H H' : Hp} (h : Le H H') : ∀ {d : D} {u : Value}, rd H d u → rd H' d u
  | .c _, _, hr => by simpa only [rd] using hr
  | .s rows, u, hr => by
    simp only [rd] at hr ⊢
    obtain ⟨A, k, sz, h1, h2, h3, h4⟩ := hr
    exact ⟨A, k, sz, h1, h2, h3, h4.imp id fun ⟨b, o, h5, h6⟩ => ⟨b, o, h5, rdr.mono h h6⟩⟩
  | .p xs, u, hr => by
    simp only [rd] at hr ⊢
    obtain ⟨b, o, h1, h2⟩ := hr
    exact ⟨b, o, h1, rds.mono h h2⟩
  | .f fn fs cs, u, hr => by
    simp only [rd] at hr ⊢
    obtain ⟨us, ws, h1, h2, h3⟩ := hr
    exact ⟨us, ws, h1, rdL.mono h h2, rdL.mono h h3⟩
  | .mp Q, u, hr => by
    simp only [rd] at hr ⊢
    obtain ⟨g, ob, h1, h2, h3⟩ := hr
    exact ⟨g, ob, h1, h _ _ h2, h3⟩
theorem rdL.mono {H H' : Hp} (h : Le H H') : ∀ {ds : List D} {vs : List Value}, rdL H ds vs → rdL H' ds vs
  | [], [], _ => trivial
  | _ :: _, _ :: _, hr => ⟨rd.mono h hr.1, rdL.mono h hr.2⟩
  | [], _ :: _, hr => hr.elim
  | _ :: _, [], hr => hr.elim
theorem rds.mono {H H' : Hp} (h : Le H H') {b : Nat} : ∀ {xs : List D} {o : Nat}, rds H b o xs → rds H' b o xs
  | [], _, _ => by simp only [rds]
  | x :: xs, o, hr => by
    simp only [rds] at hr ⊢
    obtain ⟨⟨u, h1, h2⟩, h3⟩ := hr
    exact ⟨⟨u, db h h1, rd.mono h h2⟩, rds.mono h h3⟩
theorem rdr.mono {H H' : Hp} (h : Le H H') {b sz : Nat} : ∀ {rs : List (List D)} {o : Nat}, rdr H b sz o rs → rdr H' b sz o rs
  | [], _, _ => by simp only [rdr]
  | r :: rs, o, hr => by
    simp only [rdr] at hr ⊢
    exact ⟨⟨hr.1.1, rds.mono h hr.1.2⟩, rdr.mono h hr.2⟩
end
theorem rd.one {H : Hp} : ∀ {d : D} {u : Value}, rd H d u → u.oneCell' = true
  | .c _, _, hr => by simp only [rd] at hr; rw [hr.1]; exact hr.2
  | .s rows, u, hr => by simp only [rd] at hr; obtain ⟨A, k, sz, rfl, _⟩ := hr; rfl
  | .p xs, u, hr => by simp only [rd] at hr; obtain ⟨b, o, rfl, _⟩ := hr; rfl
  | .f fn fs cs, u, hr => by simp only [rd] at hr; obtain ⟨us, ws, rfl, _⟩ := hr; rfl
  | .mp Q, u, hr => by simp only [rd] at hr; obtain ⟨g, ob, rfl, _⟩ := hr; rfl
theorem rdL.len {H : Hp} : ∀ {ds : List D} {vs : List Value}, rdL H ds vs → ds.length = vs.length
  | [], [], _ => rfl
  | _ :: _, _ :: _, h => by simp [rdL.len h.2]
  | [], _ :: _, h => h.elim
  | _ :: _, [], h => h.elim
theorem rdL.ones {H : Hp} : ∀ {ds : List D} {vs : List Value}, rdL H ds vs → ∀ u ∈ vs, u.oneCell' = true
  | [], [], _, u, hu => by cases hu
  | _ :: _, v :: vs, h, u, hu => by
    rcases List.mem_cons.1 hu with rfl | hu
    · exact h.1.one
    · exact rdL.ones h.2 u hu
  | [], _ :: _, h, _, _ => h.elim
  | _ :: _, [], h, _, _ => h.elim
theorem rds.cells {H : Hp} {b : Nat} : ∀ {xs : List D} {o : Nat}, rds H b o xs → ∃ vs, hAt H b o vs ∧ rdL H xs vs
  | [], _, _ => ⟨[], trivial, trivial⟩
  | x :: xs, o, h => by
    simp only [rds] at h
    obtain ⟨⟨u, h1, h2⟩, h3⟩ := h
    obtain ⟨vs, h4, h5⟩ := rds.cells h3
    exact ⟨u :: vs, ⟨h1, h4⟩, h2, h5⟩
theorem rds.of {H : Hp} {b : Nat} : ∀ {xs : List D} {vs : List Value} {o : Nat}, hAt H b o vs → rdL H xs vs → rds H b o xs
  | [], [], _, _, _ => by simp only [rds]
  | _ :: _, u :: _, _, h, k => by simp only [rds]; exact ⟨⟨u, h.1, k.1⟩, rds.of h.2 k.2⟩
  | [], _ :: _, _, _, k => k.elim
  | _ :: _, [], _, _, k => k.elim
theorem rds.take {H : Hp} {b : Nat} : ∀ {n : Nat} {xs : List D} {o : Nat}, rds H b o xs → rds H b o (xs.take n)
  | 0, _, _, _ => by simp only [List.take_zero, rds]
  | _ + 1, [], _, _ => by simp only [List.take_nil, rds]
  | n + 1, x :: xs, o, h => by
    simp only [List.take_succ_cons, rds] at h ⊢
    exact ⟨h.1, rds.take h.2⟩
theorem rds.drop {H : Hp} {b : Nat} : ∀ {n : Nat} {xs : List D} {o : Nat}, rds H b o xs → rds H b (o + n) (xs.drop n)
  | 0, _, _, h => h
  | _ + 1, [], _, _ => by simp only [List.drop_nil, rds]
  | n + 1, x :: xs, o, h => by
    simp only [rds] at h
    have := rds.drop (n := n) h.2
    rw [show o + 1 + n = o + (n + 1) by omega] at this
    exact this
theorem rdr.get {H : Hp} {b sz : Nat} : ∀ {rs : List (List D)} {o : Nat}, rdr H b sz o rs → ∀ {j : Nat} {r : List D}, rs[j]? = some r → r.length = sz ∧ rds H b (o + j * sz) r
  | [], _, _, j, r, hj => by simp at hj
  | q :: rs, o, h, 0, r, hj => by
    simp only [List.getElem?_cons_zero, Option.some.injEq] at hj
    subst hj
    simp only [rdr] at h
    rw [Nat.zero_mul]; exact h.1
  | q :: rs, o, h, j + 1, r, hj => by
    simp only [rdr] at h
    have := rdr.get h.2 (by simpa using hj : rs[j]? = some r)
    rw [show o + sz + j * sz = o + (j + 1) * sz by rw [Nat.add_mul]; omega] at this
    exact this
theorem rdr.drop {H : Hp} {b sz : Nat} : ∀ {n : Nat} {rs : List (List D)} {o : Nat}, rdr H b sz o rs → rdr H b sz (o + n * sz) (rs.drop n)
  | 0, _, _, h => by simpa using h
  | _ + 1, [], _, _ => by simp only [List.drop_nil, rdr]
  | n + 1, x :: xs, o, h => by
    simp only [rdr] at h
    have := rdr.drop (n := n) h.2
    rw [show o + sz + n * sz = o + (n + 1) * sz by rw [Nat.add_mul]; omega] at this
    exact this
theorem rdr.take {H : Hp} {b sz : Nat} : ∀ {n : Nat} {rs : List (List D)} {o : Nat}, rdr H b sz o rs → rdr H b sz o (rs.take n)
  | 0, _, _, _ => by simp only [List.take_zero, rdr]
  | _ + 1, [], _, _ => by simp only [List.take_nil, rdr]
  | n + 1, x :: xs, o, h => by
    simp only [List.take_succ_cons, rdr] at h ⊢
    exact ⟨h.1, rdr.take h.2⟩
theorem hAt.append {H : Hp} {b : Nat} : ∀ {us vs : List Value} {o : Nat}, hAt H b o us → hAt H b (o + us.length) vs → hAt H b o (us ++ vs)
  | [], _, _, _, h => by simpa using h
  | u :: us, vs, o, h1, h2 => ⟨h1.1, hAt.append h1.2 (by rw [List.length_cons] at h2; rw [show o + 1 + us.length = o + (us.length + 1) by omega]; exact h2)⟩
theorem rdr.cells {H : Hp} {b sz : Nat} : ∀ {rs : List (List D)} {o : Nat}, rdr H b sz o rs → ∃ vs, hAt H b o vs ∧ rdL H rs.flatten vs ∧ vs.length = rs.length * sz ∧ ∀ r ∈ rs, r.length = sz
  | [], _, _ => ⟨[], trivial, trivial, by simp, by simp⟩
  | r :: rs, o, h => by
    simp only [rdr] at h
    obtain ⟨us, h1, h2⟩ := rds.cells h.1.2
    obtain ⟨vs, h3, h4, h5, h6⟩ := rdr.cells h.2
    have e : us.length = sz := by rw [← h2.len, h.1.1]
    refine ⟨us ++ vs, hAt.append h1 (by rw [e]; exact h3), ?_, ?_, ?_⟩
    · rw [List.flatten_cons]
      clear h h1 h3 h5 e h6
      induction r generalizing us with
      | nil => cases us with | nil => exact h4 | cons => exact h2.elim
      | cons d r ih => cases us with | nil => exact h2.elim | cons u us => exact ⟨h2.1, ih us h2.2⟩
    · rw [List.length_append, e, h5, List.length_cons, Nat.add_mul]; omega
    · intro q hq
      rcases List.mem_cons.1 hq with rfl | hq
      · exact h.1.1
      · exact h6 q hq
theorem rdL.append {H : Hp} : ∀ {ds es : List D} {us vs : List Value}, rdL H ds us → rdL H es vs → rdL H (ds ++ es) (us ++ vs)
  | [], _, [], _, _, h => h
  | _ :: _, _, _ :: _, _, h, k => ⟨h.1, rdL.append h.2 k⟩
  | [], _, _ :: _, _, h, _ => h.elim
  | _ :: _, _, [], _, h, _ => h.elim
theorem rdL.split {H : Hp} : ∀ {ds es : List D} {vs : List Value}, rdL H (ds ++ es) vs → ∃ v1 v2, vs = v1 ++ v2 ∧ rdL H ds v1 ∧ rdL H es v2
  | [], es, vs, h => ⟨[], vs, rfl, trivial, h⟩
  | d :: ds, es, v :: vs, h => by
    obtain ⟨v1, v2, h1, h2, h3⟩ := rdL.split (ds := ds) h.2
    exact ⟨v :: v1, v2, by rw [h1]; rfl, ⟨h.1, h2⟩, h3⟩
  | _ :: _, _, [], h => h.elim
theorem rdr.of {H : Hp} {b sz : Nat} : ∀ {rs : List (List D)} {o : Nat} {vs : List Value}, hAt H b o vs → rdL H rs.flatten vs → (∀ r ∈ rs, r.length = sz) → rdr H b sz o rs
  | [], _, _, _, _, _ => by simp only [rdr]
  | r :: rs, o, vs, h1, h2, h3 => by
    simp only [rdr]
    rw [List.flatten_cons] at h2
    obtain ⟨v1, v2, rfl, h4, h5⟩ := rdL.split h2
    have e : v1.length = sz := by rw [← h4.len]; exact h3 r (List.mem_cons_self ..)
    have key : ∀ {v1 v2 : List Value} {o : Nat}, hAt H b o (v1 ++ v2) → hAt H b o v1 ∧ hAt H b (o + v1.length) v2 := by
      intro v1
      induction v1 with
      | nil => intro v2 o h; exact ⟨trivial, by simpa using h⟩
      | cons u v1 ih =>
        intro v2 o h
        obtain ⟨k1, k2⟩ := ih h.2
        exact ⟨⟨h.1, k1⟩, by rw [List.length_cons, show o + (v1.length + 1) = o + 1 + v1.length by omega]; exact k2⟩
    obtain ⟨k1, k2⟩ := key h1
    exact ⟨⟨h3 r (List.mem_cons_self ..), rds.of k1 h4⟩, rdr.of (by rw [← e]; exact k2) h5 (fun q hq => h3 q (List.mem_cons_of_mem _ hq))⟩
abbrev Vn := Nat → Nat → Option (Option Nat × Nat)
def VLe (V V' : Vn) : Prop := ∀ g t i, V g t = some i → V' g t = some i
theorem VLe.refl (V : Vn) : VLe V V := fun _ _ _ h => h
theorem VLe.trans {a b c : Vn} (h : VLe a b) (k : VLe b c) : VLe a c := fun g t i e => k g t i (h g t i e)
inductive XC where
  | d (x : D)
  | z
  | p (g t o : Nat)
  | q (g t sz j o : Nat)
  | l (g t sz o n c : Nat)
  | m (g t : Nat)
  | f (fn : FuncId) (first caps : List XC)
  | w (P : Value → Prop)
mutual
def XC.rel (V : Vn) (H : Hp) : XC → Value → Prop
  | .d x, v => rd H x v
  | .z, v => v = .slice none 0 0
  | .p g t o, v => ∃ b e, V g t = some (some b, e) ∧ v = .pointer (some ⟨b, o, none⟩)
  | .q g t sz j o, v => ∃ b e, V g t = some (some b, e) ∧ v = .pointer (some ⟨b, j * sz + o, none⟩)
  | .l g t sz o n c, v => ∃ b e, V g t = some (b, e) ∧ v = .slice (b.map fun b => ⟨b, o * sz, none⟩) n (c + e)
  | .m g t, v => ∃ b e, V g t = some (some b, e) ∧ v = .map (some b)
  | .f fn fs cs, v => ∃ us ws, v = .func (.func fn) us ws ∧ XC.rels V H fs us.toList ∧ XC.rels V H cs ws.toList
  | .w P, v => v.oneCell' = true ∧ P v
def XC.rels (V : Vn) (H : Hp) : List XC → List Value → Prop
  | [], [] => True
  | x :: xs, v :: vs => x.rel V H v ∧ XC.rels V H xs vs
  | _, _ => False
end
mutual
theorem XC.mono {V V' : Vn} {H H' : Hp} (hv : VLe V V') (hl : Le H H') : ∀ {x : XC} {v : Value}, x.rel V H v → x.rel V' H' v
  | .d x, v, h => by simp only [XC.rel] at h ⊢; exact h.mono hl
  | .z, v, h => by simpa only [XC.rel] using h
  | .p g t o, v, h => by simp only [XC.rel] at h ⊢; obtain ⟨b, e, h1, h2⟩ := h; exact ⟨b, e, hv _ _ _ h1, h2⟩
  | .q g t sz j o, v, h => by simp only [XC.rel] at h ⊢; obtain ⟨b, e, h1, h2⟩ := h; exact ⟨b, e, hv _ _ _ h1, h2⟩
  | .l g t sz o n c, v, h => by simp only [XC.rel] at h ⊢; obtain ⟨b, e, h1, h2⟩ := h; exact ⟨b, e, hv _ _ _ h1, h2⟩
  | .m g t, v, h => by simp only [XC.rel] at h ⊢; obtain ⟨b, e, h1, h2⟩ := h; exact ⟨b, e, hv _ _ _ h1, h2⟩
  | .f fn fs cs, v, h => by
    simp only [XC.rel] at h ⊢
    obtain ⟨us, ws, h1, h2, h3⟩ := h
    exact ⟨us, ws, h1, XC.monos hv hl h2, XC.monos hv hl h3⟩
  | .w P, v, h => by simpa only [XC.rel] using h
theorem XC.monos {V V' : Vn} {H H' : Hp} (hv : VLe V V') (hl : Le H H') : ∀ {xs : List XC} {vs : List Value}, XC.rels V H xs vs → XC.rels V' H' xs vs
  | [], [], _ => trivial
  | _ :: _, _ :: _, h => ⟨XC.mono hv hl h.1, XC.monos hv hl h.2⟩
  | [], _ :: _, h => h.elim
  | _ :: _, [], h => h.elim
end
theorem XC.one {V : Vn} {H : Hp} : ∀ {x : XC} {v : Value}, x.rel V H v → v.oneCell' = true
  | .d x, v, h => by simp only [XC.rel] at h; exact h.one
  | .z, v, h => by simp only [XC.rel] at h; subst h; rfl
  | .p g t o, v, h => by simp only [XC.rel] at h; obtain ⟨b, e, _, rfl⟩ := h; rfl
  | .q g t sz j o, v, h => by simp only [XC.rel] at h; obtain ⟨b, e, _, rfl⟩ := h; rfl
  | .l g t sz o n c, v, h => by simp only [XC.rel] at h; obtain ⟨b, e, _, rfl⟩ := h; rfl
  | .m g t, v, h => by simp only [XC.rel] at h; obtain ⟨b, e, _, rfl⟩ := h; rfl
  | .f fn fs cs, v, h => by simp only [XC.rel] at h; obtain ⟨us, ws, rfl, _⟩ := h; rfl
  | .w P, v, h => by simp only [XC.rel] at h; exact h.1
abbrev rels := XC.rels
theorem rels.len {V : Vn} {H : Hp} : ∀ {xs : List XC} {vs : List Value}, rels V H xs vs → xs.length = vs.length
  | [], [], _ => rfl
  | _ :: _, _ :: _, h => by simp [rels.len h.2]
  | [], _ :: _, h => h.elim
  | _ :: _, [], h => h.elim
theorem rels.ones {V : Vn} {H : Hp} : ∀ {xs : List XC} {vs : List Value}, rels V H xs vs → ∀ u ∈ vs, u.oneCell' = true
  | [], [], _, u, hu => by cases hu
  | _ :: _, v :: vs, h, u, hu => by
    rcases List.mem_cons.1 hu with rfl | hu
    · exact XC.one h.1
    · exact rels.ones h.2 u hu
  | [], _ :: _, h, _, _ => h.elim
  | _ :: _, [], h, _, _ => h.elim
theorem rels.get {V : Vn} {H : Hp} : ∀ {xs : List XC} {vs : List Value}, rels V H xs vs → ∀ (i : Nat) (x : XC), xs[i]? = some x → ∃ v, vs[i]? = some v ∧ x.rel V H v
  | [], [], _, i, x, h => by simp at h
  | _ :: _, v :: _, h, 0, x, hx => by simp at hx; subst hx; exact ⟨v, rfl, h.1⟩
  | _ :: xs, _ :: vs, h, i + 1, x, hx => rels.get h.2 i x (by simpa using hx)
  | [], _ :: _, h, _, _, _ => h.elim
  | _ :: _, [], h, _, _, _ => h.elim
theorem rels.take {V : Vn} {H : Hp} : ∀ {n : Nat} {xs : List XC} {us : List Value}, rels V H xs us → rels V H (xs.take n) (us.take n)
  | 0, _, _, _ => trivial
  | _ + 1, [], [], h => h
  | n + 1, _ :: _, _ :: _, h => ⟨h.1, rels.take h.2⟩
  | _ + 1, [], _ :: _, h => h.elim
  | _ + 1, _ :: _, [], h => h.elim
theorem rels.drop {V : Vn} {H : Hp} : ∀ {n : Nat} {xs : List XC} {us : List Value}, rels V H xs us → rels V H (xs.drop n) (us.drop n)
  | 0, _, _, h => h
  | _ + 1, [], [], h => h
  | n + 1, _ :: _, _ :: _, h => rels.drop (n := n) h.2
  | _ + 1, [], _ :: _, h => h.elim
  | _ + 1, _ :: _, [], h => h.elim
theorem rels.ofD {V : Vn} {H : Hp} : ∀ {ds : List D} {vs : List Value}, rdL H ds vs → rels V H (ds.map .d) vs
  | [], [], _ => trivial
  | _ :: _, _ :: _, h => ⟨by simp only [XC.rel]; exact h.1, rels.ofD h.2⟩
  | [], _ :: _, h => h.elim
  | _ :: _, [], h => h.elim
def XC.toD : XC → Option D
  | .d x => some x
  | .z => some (.s [])
  | _ => none
def gM : List XC → Option (List D)
  | [] => some []
  | x :: r => match x.toD, gM r with
    | some d, some l => some (d :: l)
    | _, _ => none
theorem XC.toD_ok {V : Vn} {H : Hp} {x : XC} {d : D} {v : Value} (h : x.toD = some d) (hr : x.rel V H v) : rd H d v := by
  cases x <;> simp only [XC.toD] at h <;> cases h
  · simpa only [XC.rel] using hr
  · simp only [XC.rel] at hr
    subst hr
    simp only [rd]
    exact ⟨none, 0, 0, rfl, Nat.le_refl _, Nat.zero_le _, .inl trivial⟩
theorem cD {V : Vn} {H : Hp} : ∀ {xs : List XC} {ds : List D} {vs : List Value}, gM xs = some ds → rels V H xs vs → rdL H ds vs
  | [], ds, [], h, _ => by cases h; trivial
  | x :: r, ds, v :: vs, h, hr => by
    simp only [gM] at h
    split at h
    · rename_i d l h1 h2
      cases h
      exact ⟨XC.toD_ok h1 hr.1, cD h2 hr.2⟩
    · cases h
  | [], _, _ :: _, _, hr => hr.elim
  | _ :: _, _, [], _, hr => hr.elim
inductive XA where
  | c (x : XC)
  | a (l : List XC)
  | g (l : List D)
def XA.rel (V : Vn) (H : Hp) : XA → Value → Prop
  | .c x, v => x.rel V H v
  | .a l, v => ∃ us, v = .agg us ∧ rels V H l us.toList
  | .g l, v => ∃ us, v = .agg us ∧ rdL H l us.toList
theorem XA.mono {V V' : Vn} {H H' : Hp} (hv : VLe V V') (hl : Le H H') {x : XA} {v : Value} (h : x.rel V H v) : x.rel V' H' v := by
  cases x with
  | c x => exact XC.mono (x := x) hv hl h
  | a l => obtain ⟨us, h1, h2⟩ := h; exact ⟨us, h1, XC.monos hv hl h2⟩
  | g l => obtain ⟨us, h1, h2⟩ := h; exact ⟨us, h1, h2.mono hl⟩
def XA.cells : XA → List XC
  | .c x => [x]
  | .a l => l
  | .g l => l.map .d
theorem XA.cells_ok {V : Vn} {H : Hp} {x : XA} {v : Value} (h : x.rel V H v) : rels V H x.cells v.cells.toList := by
  cases x with
  | c x =>
    have h' : x.rel V H v := h
    rw [bq (XC.one h')]; exact ⟨h', trivial⟩
  | a l => obtain ⟨us, rfl, h2⟩ := h; exact h2
  | g l => obtain ⟨us, rfl, h2⟩ := h; exact rels.ofD h2
inductive XV where
  | a (x : XA)
  | t (l : List XA)
  | u
  | gd (b : Bool) (x : XA)
def XA.rels (V : Vn) (H : Hp) : List XA → List Value → Prop
  | [], [] => True
  | x :: xs, v :: vs => x.rel V H v ∧ XA.rels V H xs vs
  | _, _ => False
theorem XA.monos {V V' : Vn} {H H' : Hp} (hv : VLe V V') (hl : Le H H') : ∀ {xs : List XA} {vs : List Value}, XA.rels V H xs vs → XA.rels V' H' xs vs
  | [], [], _ => trivial
  | _ :: _, _ :: _, h => ⟨XA.mono hv hl h.1, XA.monos hv hl h.2⟩
  | [], _ :: _, h => h.elim
  | _ :: _, [], h => h.elim
def XV.rel (V : Vn) (H : Hp) : XV → Value → Prop
  | .a x, v => x.rel V H v
  | .t l, v => ∃ us, v = .tuple us ∧ XA.rels V H l us.toList
  | .u, v => v = undef
  | .gd b x, v => (b = true → x.rel V H v) ∧ (b = false → v = undef)
theorem XV.mono {V V' : Vn} {H H' : Hp} (hv : VLe V V') (hl : Le H H') {x : XV} {v : Value} (h : x.rel V H v) : x.rel V' H' v := by
  cases x with
  | a x => exact XA.mono hv hl h
  | t l => obtain ⟨us, h1, h2⟩ := h; exact ⟨us, h1, XA.monos hv hl h2⟩
  | u => exact h
  | gd b x => exact ⟨fun e => XA.mono hv hl (h.1 e), h.2⟩
def XVs.rels (V : Vn) (H : Hp) : List XV → List Value → Prop
  | [], [] => True
  | x :: xs, v :: vs => x.rel V H v ∧ XVs.rels V H xs vs
  | _, _ => False
inductive XO where
  | cells (c : List XC) (e : TypeId)
  | row (n : Nat) (rows : List (List D)) (e : TypeId) (sz : Nat)
  | mp (Q : Obj → Prop)
def XO.rel (V : Vn) (H : Hp) (ex : Nat) : XO → Obj → Prop
  | .cells c e, ob => ∃ us, rels V H c us ∧ ob = .cells us.toArray e (0, 0)
  | .row n rows e sz, ob => ∃ us j, n = rows.length ∧ rdL H rows.flatten us ∧ (∀ r ∈ rows, r.length = sz) ∧ ob = .cells (us ++ j).toArray e (0, 0) ∧ j.length = ex * sz ∧ n + ex ≤ maxLen ∧ 0 < sz
  | .mp Q, ob => Q ob
theorem XO.mono {V V' : Vn} {H H' : Hp} (hv : VLe V V') (hl : Le H H') {ex : Nat} {x : XO} {o : Obj} (h : x.rel V H ex o) : x.rel V' H' ex o := by
  cases x with
  | cells c e => obtain ⟨us, h1, h2⟩ := h; exact ⟨us, XC.monos hv hl h1, h2⟩
  | row n rows e sz => obtain ⟨us, j, h0, h1, h2⟩ := h; exact ⟨us, j, h0, h1.mono hl, h2⟩
  | mp Q => exact h
structure XB where
  g : Nat
  t : Nat
  o : XO
abbrev XH := List XB
def XB.rel (V : Vn) (H : Hp) (x : XB) (s : Seg) : Prop := (∃ b ob ex, s = [(b, ob)] ∧ V x.g x.t = some (some b, ex) ∧ x.o.rel V H ex ob) ∨ (s = [] ∧ V x.g x.t = some (none, 0) ∧ ∃ e sz, x.o = .row 0 [] e sz ∧ 0 < sz)
theorem XB.mono {V V' : Vn} {H H' : Hp} (hv : VLe V V') (hl : Le H H') {x : XB} {s : Seg} (h : x.rel V H s) : x.rel V' H' s :=
  h.imp (fun ⟨b, ob, ex, h0, h1, h2⟩ => ⟨b, ob, ex, h0, hv _ _ _ h1, XO.mono hv hl h2⟩) (fun ⟨h0, h1, h2⟩ => ⟨h0, hv _ _ _ h1, h2⟩)
def HR (V : Vn) (H : Hp) : XH → Seg → Prop
  | [], sg => sg = []
  | x :: xs, sg => ∃ s1 s2, sg = s1 ++ s2 ∧ x.rel V H s1 ∧ HR V H xs s2
theorem HR.mono {V V' : Vn} {H H' : Hp} (hv : VLe V V') (hl : Le H H') : ∀ {xs : XH} {sg : Seg}, HR V H xs sg → HR V' H' xs sg
  | [], _, h => h
  | _ :: _, _, ⟨s1, s2, h0, h1, h2⟩ => ⟨s1, s2, h0, XB.mono hv hl h1, HR.mono hv hl h2⟩
theorem HR.append {V : Vn} {H : Hp} : ∀ {xs ys : XH} {s1 s2 : Seg}, HR V H xs s1 → HR V H ys s2 → HR V H (xs ++ ys) (s1 ++ s2)
  | [], _, _, _, h, k => by cases h; exact k
  | _ :: _, _, _, _, ⟨t1, t2, h0, h1, h2⟩, k => ⟨t1, t2 ++ _, by rw [h0, List.append_assoc], h1, HR.append h2 k⟩
theorem HR.split {V : Vn} {H : Hp} : ∀ {xs ys : XH} {sg : Seg}, HR V H (xs ++ ys) sg → ∃ s1 s2, sg = s1 ++ s2 ∧ HR V H xs s1 ∧ HR V H ys s2
  | [], ys, sg, h => ⟨[], sg, rfl, rfl, h⟩
  | x :: xs, ys, _, ⟨t1, t2, h0, h1, h⟩ => by
    obtain ⟨s1, s2, h3, h4, h5⟩ := HR.split (xs := xs) h
    exact ⟨t1 ++ s1, s2, by rw [h0, h3, List.append_assoc], ⟨t1, s1, rfl, h1, h4⟩, h5⟩
theorem HR.perm {V : Vn} {H : Hp} {xs ys : XH} (hp : xs.Perm ys) : ∀ {sg : Seg}, HR V H xs sg → ∃ sg', sg'.Perm sg ∧ HR V H ys sg' := by
  induction hp with
  | nil => intro sg h; exact ⟨sg, .refl _, h⟩
  | cons x _ ih =>
    rintro sg ⟨t1, t2, rfl, h1, h2⟩
    obtain ⟨s', h3, h4⟩ := ih h2
    exact ⟨t1 ++ s', h3.append_left _, t1, s', rfl, h1, h4⟩
  | swap x y l =>
    rintro sg ⟨t1, t2, rfl, h1, u1, u2, rfl, h2, h3⟩
    refine ⟨u1 ++ (t1 ++ u2), ?_, u1, t1 ++ u2, rfl, h2, t1, u2, rfl, h1, h3⟩
    rw [← List.append_assoc, ← List.append_assoc]
    exact List.perm_append_comm.append_right _
  | trans _ _ ih1 ih2 =>
    intro sg h
    obtain ⟨s1, h1, h2⟩ := ih1 h
    obtain ⟨s2, h3, h4⟩ := ih2 h2
    exact ⟨s2, h3.trans h1, h4⟩
def Top (V : Vn) (hp : XH) : Prop := ∀ x ∈ hp, ∀ t, x.t < t → V x.g t = none
def names (hp : XH) : List Nat := hp.map (·.g)
def VX (V V' : Vn) (fp : XH) (nx nx' : Nat) : Prop := VLe V V' ∧ ∀ g t, V g t = none → V' g t ≠ none → (nx ≤ g ∧ g < nx') ∨ g ∈ names fp
theorem VX.refl (V : Vn) (fp : XH) (nx : Nat) : VX V V fp nx nx := ⟨VLe.refl V, fun _ _ h k => absurd h k⟩
def Vn.new (V : Vn) (g t : Nat) (i : Option Nat × Nat) : Vn := fun g' t' => if g' = g ∧ t' = t then some i else V g' t'
theorem Vn.new_at (V : Vn) (g t : Nat) (i : Option Nat × Nat) : V.new g t i g t = some i := if_pos ⟨rfl, rfl⟩
theorem Vn.new_ne (V : Vn) {g t g' t' : Nat} (i : Option Nat × Nat) (h : ¬(g' = g ∧ t' = t)) : V.new g t i g' t' = V g' t' := if_neg h
theorem Vn.new_le {V : Vn} {g t : Nat} (i : Option Nat × Nat) (h : V g t = none) : VLe V (V.new g t i) := fun g' t' j hj => by
  rw [Vn.new_ne]
  · exact hj
  · rintro ⟨rfl, rfl⟩; rw [h] at hj; cases hj
inductive Z where
  | n | s | b | p | m | f | e
  | i (k : IntKind)
deriving DecidableEq
def eS : ByteArray := ⟨#[]⟩
def Z.x : Z → XC
  | .n => .z
  | .s => .d (.c (.string eS))
  | .b => .d (.c (.bool false))
  | .p => .d (.c (.pointer none))
  | .m => .d (.c (.map none))
  | .f => .d (.c .nilFunc)
  | .e => .d (.c .nilIface)
  | .i k => .d (.c (.int k 0))
def Z.of : Value → Option Z
  | .slice none 0 0 => some .n
  | .string x => if x.size = 0 then some .s else none
  | .bool false => some .b
  | .pointer none => some .p
  | .map none => some .m
  | .nilFunc => some .f
  | .nilIface => some .e
  | .int k 0 => some (.i k)
  | _ => none
theorem Z.of_ok {v : Value} {z : Z} (h : Z.of v = some z) (V : Vn) (H : Hp) : z.x.rel V H v := by
  unfold Z.of at h
  split at h <;> (try cases h) <;> simp only [Z.x, XC.rel, rd] <;> (try trivial) <;> (try exact ⟨rfl, rfl⟩)
  rename_i s
  split at h <;> cases h
  rename_i h0
  simp only [Z.x, XC.rel, rd]
  refine ⟨?_, rfl⟩
  obtain ⟨a⟩ := s
  have : a = #[] := Array.eq_empty_of_size_eq_zero h0
  rw [this]; rfl
theorem Z.ofs_ok (V : Vn) (H : Hp) : ∀ {vs : List Value} {zs : List Z}, vs.map Z.of = zs.map some → rels V H (zs.map Z.x) vs
  | [], [], _ => trivial
  | v :: vs, z :: zs, h => by
    simp only [List.map_cons, List.cons.injEq] at h
    exact ⟨Z.of_ok h.1 V H, Z.ofs_ok V H h.2⟩
  | [], _ :: _, h => by simp at h
  | _ :: _, [], h => by simp at h
inductive TI where
  | i (k : IntKind)
  | b | s | p | f | e
  | m (k e : Nat)
  | st (n : Nat) (fs : List (Nat × Nat)) (z : List Z)
  | sl (e sz by_ : Nat)
  | ar (n e sz : Nat) (z : List Z)
def TI.agg : TI → Bool
  | .st _ _ _ => true
  | .ar _ _ _ _ => true
  | _ => false
def TI.n : TI → Nat
  | .st n _ _ => n
  | .ar n _ sz _ => n * sz
  | _ => 1
def TI.z : TI → List Z
  | .i k => [.i k]
  | .b => [.b]
  | .s => [.s]
  | .p => [.p]
  | .f => [.f]
  | .e => [.e]
  | .m _ _ => [.m]
  | .st _ _ z => z
  | .sl _ _ _ => [.n]
  | .ar _ _ _ z => z
def shape (P : Program) (t : TypeId) : TI → TypeDesc → Bool
  | .i k, .int k' => decide (k = k')
  | .b, .bool => true
  | .s, .string => true
  | .p, .pointer _ => true
  | .f, .func _ _ _ => true
  | .e, .interface _ => true
  | .m k e, .map k' e' => Nat.beq k k' && Nat.beq e e'
  | .st _ fs _, .struct fields => decide (fields.toList.map (fun f => (f.offset, P.cellsOf f.type)) = fs) && fields.toList.all (fun f => (P.info? f.type).isSome && (P.underlying f.type).isSome)
  | .sl e sz by_, .slice e' => Nat.beq e e' && match P.info? e with
    | some inf => Nat.beq inf.size sz && Nat.beq inf.bytes by_ && Nat.blt 0 sz && (match inf.zero with | some z => Nat.beq z.cells.size sz | none => false)
    | none => false
  | .ar n e sz _, .array n' e' => Nat.beq n n' && Nat.beq e e' && Nat.beq (P.cellsOf e) sz && (P.info? e).isSome && (P.underlying e).isSome
  | _, _ => false
def tok (P : Program) (t : TypeId) (ti : TI) : Bool := match P.underlying t, P.info? t with
  | some d, some inf => shape P t ti d && Nat.beq inf.size ti.n && (match inf.zero with | some z => decide (z.cells.toList.map Z.of = ti.z.map some) | none => false)
  | _, _ => false
inductive BT where
  | e
  | n (k : Nat) (v : TI) (l r : BT)
def BT.get : BT → Nat → Option TI
  | .e, _ => none
  | .n k v l r, i => bif Nat.beq i k then some v else bif Nat.blt i k then l.get i else r.get i
def BT.all (p : Nat → TI → Bool) : BT → Bool
  | .e => true
  | .n k v l r => p k v && (l.all p && r.all p)
theorem BT.all_get {p : Nat → TI → Bool} : ∀ {b : BT}, b.all p = true → ∀ {i : Nat} {v : TI}, b.get i = some v → p i v = true
  | .e, _, _, _, h => by cases h
  | .n k v l r, ha, i, u, h => by
    simp only [BT.all, Bool.and_eq_true] at ha
    simp only [BT.get] at h
    cases h1 : Nat.beq i k with
    | true => rw [h1] at h; cases h; rw [Nat.eq_of_beq_eq_true h1]; exact ha.1
    | false =>
      rw [h1] at h
      cases h2 : Nat.blt i k with
      | true => rw [h2] at h; exact BT.all_get ha.2.1 h
      | false => rw [h2] at h; exact BT.all_get ha.2.2 h
structure Tb (P : Program) where
  bt : BT
  mx : P.follows .mixedOrders = true
  ok : bt.all (tok P) = true
section
variable {P : Program} {t : TypeId} {ti : TI}
theorem cE (h : tok P t ti = true) : ∃ d inf z, P.underlying t = some d ∧ P.info? t = some inf ∧ shape P t ti d = true ∧ inf.size = ti.n ∧ inf.zero = some z ∧ z.cells.toList.map Z.of = ti.z.map some := by
  unfold tok at h
  split at h
  · rename_i d inf h1 h2
    simp only [Bool.and_eq_true] at h
    obtain ⟨⟨h3, h4⟩, h5⟩ := h
    split at h5
    · rename_i z hz
      exact ⟨d, inf, z, h1, h2, h3, Nat.eq_of_beq_eq_true h4, hz, of_decide_eq_true h5⟩
    · cases h5
  · cases h
theorem tok_agg (h : tok P t ti = true) {d : TypeDesc} (hd : P.underlying t = some d) : lm d = ti.agg := by
  obtain ⟨d', inf, z, h1, _, h3, _⟩ := cE h
  rw [hd] at h1
  cases h1
  cases ti <;> cases d <;> simp only [shape, Bool.false_eq_true] at h3 <;> rfl
theorem ej (h : tok P t ti = true) : Ty P t ti.agg ti.n := by
  obtain ⟨d, inf, z, h1, h2, h3, h4, _⟩ := cE h
  have := Ty.of h1 h2
  rw [h4, tok_agg h h1] at this
  exact this
theorem fJ (h : tok P t ti = true) : ∃ inf z, P.info? t = some inf ∧ inf.zero = some z ∧ ∀ V H, rels V H (ti.z.map Z.x) z.cells.toList := by
  obtain ⟨d, inf, z, h1, h2, h3, h4, h5, h6⟩ := cE h
  exact ⟨inf, z, h2, h5, fun V H => Z.ofs_ok V H h6⟩
theorem tok_st {n : Nat} {fs : List (Nat × Nat)} {z : List Z} (h : tok P t (.st n fs z) = true) : ∃ (fields : Array Field), P.underlying t = some (.struct fields) ∧ fields.toList.map (fun f => (f.offset, P.cellsOf f.type)) = fs ∧ fields.toList.all (fun f => (P.info? f.type).isSome && (P.underlying f.type).isSome) = true := by
  obtain ⟨d, inf, z, h1, h2, h3, h4, h5, h6⟩ := cE h
  cases d <;> simp only [shape, Bool.false_eq_true] at h3
  simp only [Bool.and_eq_true, decide_eq_true_eq] at h3
  exact ⟨_, h1, h3.1, h3.2⟩
theorem tok_fld {n : Nat} {fs : List (Nat × Nat)} {z : List Z} (h : tok P t (.st n fs z) = true) {f off size : Nat} (hf : fs[f]? = some (off, size + 1)) : Fld P t f off := by
  obtain ⟨fields, h1, h2, h3⟩ := tok_st h
  rw [← h2, List.getElem?_map] at hf
  cases hfl : fields.toList[f]? with
  | none => rw [hfl] at hf; cases hf
  | some fl =>
    rw [hfl] at hf
    simp only [Option.map_some, Option.some.injEq, Prod.mk.injEq] at hf
    have h4 := List.all_eq_true.1 h3 fl (List.mem_of_getElem? hfl)
    simp only [Bool.and_eq_true] at h4
    obtain ⟨inf, hi⟩ := Option.isSome_iff_exists.1 h4.1
    obtain ⟨d, hd⟩ := Option.isSome_iff_exists.1 h4.2
    have h5 : inf.size = size + 1 := by rw [← hf.2]; simp [Program.cellsOf, hi]
    have := Fld.of h1 (by simpa using hfl : fields[f]? = some fl) (Ty.of hd hi) (by rw [h5]; rfl)
    rw [hf.1] at this
    exact this
theorem tok_str {n : Nat} {fs : List (Nat × Nat)} {z : List Z} (h : tok P t (.st n fs z) = true) : ∃ c : Array Value, Str P t fs c ∧ ∀ V H, rels V H (z.map Z.x) c.toList := by
  obtain ⟨fields, h1, h2, h3⟩ := tok_st h
  obtain ⟨inf, zv, h4, h5, h6⟩ := fJ h
  refine ⟨zv.cells, Str.of h1 h4 h5 rfl (List.all_eq_true.2 fun f hf => ?_) h2, h6⟩
  have := List.all_eq_true.1 h3 f hf
  simp only [Bool.and_eq_true] at this
  exact this.1
theorem cM {e sz by_ : Nat} (h : tok P t (.sl e sz by_) = true) : ∃ z, Sl P t e sz by_ z := by
  obtain ⟨d, inf, z, h1, h2, h3, h4, h5, h6⟩ := cE h
  cases d <;> simp only [shape, Bool.false_eq_true] at h3
  simp only [Bool.and_eq_true] at h3
  obtain ⟨he, h3⟩ := h3
  have he := Nat.eq_of_beq_eq_true he
  subst he
  split at h3
  · rename_i inf' hi
    simp only [Bool.and_eq_true] at h3
    obtain ⟨⟨⟨k1, k2⟩, k3⟩, k4⟩ := h3
    have k1 := Nat.eq_of_beq_eq_true k1
    have k2 := Nat.eq_of_beq_eq_true k2
    split at k4
    · rename_i z' hz
      have k4 := Nat.eq_of_beq_eq_true k4
      subst k1 k2
      exact ⟨z', Sl.of h1 hi hz k4 k3⟩
    · cases k4
  · cases h3
theorem tok_i {k : IntKind} (h : tok P t (.i k) = true) : P.underlying t = some (.int k) := by
  obtain ⟨d, inf, z, h1, h2, h3, h4, h5, h6⟩ := cE h
  cases d <;> simp only [shape, Bool.false_eq_true] at h3
  rw [h1, of_decide_eq_true h3]
theorem tok_s (h : tok P t .s = true) : P.underlying t = some .string := by
  obtain ⟨d, inf, z, h1, h2, h3, h4, h5, h6⟩ := cE h
  cases d <;> simp only [shape, Bool.false_eq_true] at h3
  exact h1
theorem tok_m {k e : Nat} (h : tok P t (.m k e) = true) : P.underlying t = some (.map k e) := by
  obtain ⟨d, inf, z, h1, h2, h3, h4, h5, h6⟩ := cE h
  cases d <;> simp only [shape, Bool.false_eq_true] at h3
  simp only [Bool.and_eq_true] at h3
  rw [h1, Nat.eq_of_beq_eq_true h3.1, Nat.eq_of_beq_eq_true h3.2]
theorem tok_ar {n e sz : Nat} {z : List Z} (h : tok P t (.ar n e sz z) = true) : P.underlying t = some (.array n e) ∧ ∃ a, Ty P e a sz := by
  obtain ⟨d, inf, z, h1, h2, h3, h4, h5, h6⟩ := cE h
  cases d <;> simp only [shape, Bool.false_eq_true] at h3
  simp only [Bool.and_eq_true] at h3
  obtain ⟨⟨⟨⟨k1, k2⟩, k3⟩, k4⟩, k5⟩ := h3
  rw [h1, Nat.eq_of_beq_eq_true k1, Nat.eq_of_beq_eq_true k2]
  have k2 := Nat.eq_of_beq_eq_true k2
  subst k2
  obtain ⟨inf, hi⟩ := Option.isSome_iff_exists.1 k4
  obtain ⟨d, hd⟩ := Option.isSome_iff_exists.1 k5
  have := Ty.of hd hi
  rw [show inf.size = sz by rw [← Nat.eq_of_beq_eq_true k3]; simp [Program.cellsOf, hi]] at this
  exact ⟨rfl, _, this⟩
end
end Go.Proofs.YtlmahofogapkgaaGreatDoor.X
namespace Go.Proofs.YtlmahofogapkgaaGreatDoor.K
open Go Go.RowKit
inductive Tr where
  | node (l : ByteArray) (ks : List Tr)
mutual
def Tr.d : Tr → List D
  | .node l ks => [.c (.string l), .s 2 (Tr.ds ks)]
def Tr.ds : List Tr → List D
  | [] => []
  | t :: ts => t.d ++ Tr.ds ts
end
def Tr.lab : Tr → ByteArray | .node l _ => l
def Tr.kids : Tr → List Tr | .node _ ks => ks
mutual
def Tr.size : Tr → Nat
  | .node _ ks => Tr.sizes ks + 1
def Tr.sizes : List Tr → Nat
  | [] => 0
  | t :: ts => t.size + Tr.sizes ts
end
mutual
def Tr.eqb : Tr → Tr → Bool
  | .node l ks, .node l' ks' => (l.data.toList == l'.data.toList) && Tr.eqbs ks ks'
def Tr.eqbs : List Tr → List Tr → Bool
  | [], [] => true
  | t :: ts, u :: us => t.eqb u && Tr.eqbs ts us
  | _, _ => false
end
theorem bytes_beq (l l' : ByteArray) : (l.data.toList == l'.data.toList) = decide (l = l') := by
  rw [Bool.eq_iff_iff]
  simp only [beq_iff_eq, decide_eq_true_eq]
  exact ⟨fun h => WideShapes.bytes_inj h, fun h => by rw [h]⟩
mutual
theorem Tr.eqb_iff : ∀ (t u : Tr), t.eqb u = true ↔ t = u
  | .node l ks, .node l' ks' => by
    simp only [Tr.eqb, bytes_beq, Bool.and_eq_true, decide_eq_true_eq, Tr.eqbs_iff ks ks', Tr.node.injEq]
theorem Tr.eqbs_iff : ∀ (ts us : List Tr), Tr.eqbs ts us = true ↔ ts = us
  | [], [] => by simp [Tr.eqbs]
  | t :: ts, u :: us => by simp only [Tr.eqbs, Bool.and_eq_true, Tr.eqb_iff t u, Tr.eqbs_iff ts us, List.cons.injEq]
  | [], _ :: _ => by simp [Tr.eqbs]
  | _ :: _, [] => by simp [Tr.eqbs]
end
instance : DecidableEq Tr := fun t u => decidable_of_iff _ (Tr.eqb_iff t u)
theorem Tr.eqb_eq (t u : Tr) : t.eqb u = decide (t = u) := by rw [Bool.eq_iff_iff]; simp [Tr.eqb_iff]
theorem Tr.d_len (t : Tr) : t.d.length = 2 := by cases t; simp [Tr.d]
theorem Tr.ds_len : ∀ (ts : List Tr), (Tr.ds ts).length = ts.length * 2
  | [] => by simp [Tr.ds]
  | t :: ts => by simp [Tr.ds, Tr.d_len, Tr.ds_len ts]; omega
theorem Tr.ds_append : ∀ (ts us : List Tr), Tr.ds (ts ++ us) = Tr.ds ts ++ Tr.ds us
  | [], _ => rfl
  | t :: ts, us => by simp [Tr.ds, Tr.ds_append ts us]
theorem Tr.size_mem {t : Tr} : ∀ {ts : List Tr}, t ∈ ts → t.size ≤ Tr.sizes ts
  | u :: us, h => by
    simp only [Tr.sizes]
    rcases List.mem_cons.1 h with rfl | h
    · omega
    · have := Tr.size_mem h; omega
theorem Tr.size_kid {t : Tr} {l : ByteArray} {ks : List Tr} {k : Nat} (h : t ∈ ks) (hs : (Tr.node l ks).size ≤ k + 1) : t.size ≤ k := by
  have := Tr.size_mem h
  simp only [Tr.size] at hs
  omega
theorem Tr.len_le : ∀ (ts : List Tr), ts.length ≤ Tr.sizes ts
  | [] => by simp
  | t :: ts => by
    have := Tr.len_le ts
    have h2 : 0 < t.size := by cases t; simp [Tr.size]
    simp only [Tr.sizes, List.length_cons]
    omega
theorem Tr.size_pos (t : Tr) : 0 < t.size := by cases t; simp [Tr.size]
theorem trs_len {H : Hp} {ks : List Tr} {v : Value} (h : rd H (.s 2 (Tr.ds ks)) v) : ∃ A c, v = .slice A ks.length c ∧ ks.length ≤ c ∧ c ≤ 9223372036854775807 := by
  obtain ⟨A, n, c, rfl, h1, h2, h3⟩ := h.s_len
  rw [Tr.ds_len] at h1
  have : n = ks.length := by omega
  subst this
  exact ⟨A, c, rfl, h2, h3⟩
theorem lu {H : Hp} {ks : List Tr} {A : Option Addr} {n c : Nat} (h : rd H (.s 2 (Tr.ds ks)) (.slice A n c)) {i : Nat} {t : Tr} (hi : ks[i]? = some t) :
    ∃ b o c0 c1, A = some ⟨b, o, none⟩ ∧ hAt H b (o + i * 2) [c0, c1] ∧ RdL H t.d [c0, c1] := by
  have hlt : i < ks.length := (List.getElem?_eq_some_iff.1 hi).1
  have hn : n = ks.length := by
    obtain ⟨A', c', e, _⟩ := trs_len h
    injection e
  subst hn
  obtain ⟨_, b, o, rfl, hr⟩ := h.s_at (by omega)
  obtain ⟨l1, l2, rfl, rfl⟩ := bp hi
  have hr' : rds H b (o + l1.length * 2) (t.d ++ Tr.ds l2) := by
    refine rds.mk fun j x hx => ?_
    have := hr.get (l1.length * 2 + j) x (by
      rw [Tr.ds_append, List.getElem?_append_right (by rw [Tr.ds_len]; omega), Tr.ds_len]
      simp only [Tr.ds]
      rw [← hx]; congr 1; omega)
    obtain ⟨u, h1, h2⟩ := this
    exact ⟨u, by rw [← h1]; congr 1; omega, h2⟩
  obtain ⟨l, kk⟩ := t
  simp only [Tr.d, List.cons_append, List.nil_append, rds] at hr'
  obtain ⟨⟨c0, h1, h2⟩, ⟨c1, h3, h4⟩, _⟩ := hr'
  refine ⟨b, o, c0, c1, rfl, ⟨h1, h3, trivial⟩, ?_⟩
  simp only [Tr.d]
  exact ⟨h2, h4, trivial⟩
theorem dM {H : Hp} {l : ByteArray} {ks : List Tr} {c0 c1 : Value} (h : RdL H (Tr.node l ks).d [c0, c1]) : c0 = .string l ∧ ∃ A c, c1 = .slice A ks.length c ∧ ks.length ≤ c ∧ c ≤ 9223372036854775807 ∧ rd H (.s 2 (Tr.ds ks)) (.slice A ks.length c) := by
  simp only [Tr.d] at h
  obtain ⟨h1, h2, _⟩ := h
  simp only [rd] at h1
  obtain ⟨A, c, rfl, h3, h4⟩ := trs_len h2
  exact ⟨h1, A, c, rfl, h3, h4, h2⟩
theorem tr_mk {H : Hp} {l : ByteArray} {ks : List Tr} {c1 : Value} (h : rd H (.s 2 (Tr.ds ks)) c1) : RdL H (Tr.node l ks).d [.string l, c1] := by
  simp only [Tr.d]
  exact ⟨by simp [rd], h, trivial⟩
theorem tr_ones {H : Hp} {t : Tr} {c0 c1 : Value} (h : RdL H t.d [c0, c1]) : Ones [c0, c1] := by
  obtain ⟨l, ks⟩ := t
  obtain ⟨rfl, A, c, rfl, _⟩ := dM h
  exact ⟨rfl, rfl, trivial⟩
open Go.ChangeMaps Go.MapKept Go.WideMaps
open Go.WideElems (Fit rg rd_val)
open Go.Maps (string_keyed atKey_put_same atKey_put_other)
abbrev strK (s : ByteArray) : Lit := .string s.data.toList
theorem St.setObj {w0 w : World} {own : List Seg} {H : Hp} (h : St w0 H own w) {i j : Nat} {seg : Seg} (hi : own[i]? = some seg) {g : Nat} {o o' : Obj} (hj : seg[j]? = some (g, o)) :
    St w0 H (own.set i (seg.set j (g, o'))) (setBlock w g o') := by
  obtain ⟨l1, l2, rfl, rfl⟩ := bp hj
  have aF : (l1 ++ (g, o) :: l2).set l1.length (g, o') = l1 ++ (g, o') :: l2 := by simp
  rw [aF]
  have hb := h.own_blk hi hj
  have hlt : g < w.heap.size := (Array.getElem?_eq_some_iff.1 hb).1
  have hsame : (setBlock w g o').heap[g]? = some o' := by simp [setBlock, hlt]
  have hother : ∀ b, b ≠ g → (setBlock w g o').heap[b]? = w.heap[b]? := fun b hne => by simp [setBlock, Array.getElem?_setIfInBounds, Ne.symm hne]
  have hk : (l1 ++ (g, o') :: l2).map (·.1) = (l1 ++ (g, o) :: l2).map (·.1) := by simp
  have hnd : ((l1 ++ (g, o) :: l2).map (·.1)).Nodup := by
    have hn := h.nodup
    obtain ⟨m1, m2, rfl, _⟩ := bp hi
    simp only [List.flatten_append, List.flatten_cons, List.map_append, List.nodup_append] at hn
    simpa only [List.map_append, List.nodup_append] using hn.2.1.1
  refine h.upd hi rfl ⟨rfl, Nat.le_refl _⟩ rfl (fun b hbl hnb => hother b (fun he => hnb (by subst he; simp))) (fun p hp => ?_) (by rw [hk]; exact hnd) (fun p hp => .inl (by rw [← hk]; exact List.mem_map.2 ⟨p, hp, rfl⟩))
  by_cases hpg : p.1 = g
  · have : p = (g, o') := by
      have hn2 := hnd
      rw [← hk] at hn2
      simp only [List.map_append, List.map_cons, List.nodup_append, List.nodup_cons, List.mem_cons] at hn2
      obtain ⟨n1, ⟨n2, n3⟩, n4⟩ := hn2
      rcases List.mem_append.1 hp with hq | hq
      · exact absurd hpg (n4 p.1 (List.mem_map.2 ⟨p, hq, rfl⟩) g (.inl rfl))
      · rcases List.mem_cons.1 hq with rfl | hq
        · rfl
        · exact absurd (List.mem_map.2 ⟨p, hq, hpg⟩) n2
    subst this
    exact hsame
  · rw [hother p.1 hpg]
    refine h.own_at p (h.mem_at hi ?_)
    rcases List.mem_append.1 hp with hq | hq
    · exact List.mem_append.2 (.inl hq)
    · rcases List.mem_cons.1 hq with rfl | hq
      · exact absurd rfl hpg
      · exact List.mem_append.2 (.inr (List.mem_cons_of_mem _ hq))
section
variable {P : Program} {w0 : World} {N : Nat} {Q : Exit → Act → World → Prop} {env : Env} {own : List Seg} {H : Hp} {ops : Array Oper} {rest : List Oper}
variable {d : Option Tmp} {ty : TypeId} {pos : String} {af : Array Edge}
theorem TL.newMap {t : TypeId} (hd : okD N d = true)
    (h : ∀ g, TL P w0 N Q ops rest (ab d (.map (some g)) env) ([(g, .map #[] 0)] :: own) H) :
    TL P w0 N Q ops ({ dst := d, op := .makeMap t none, type := ty, pos := pos, after := af, guard := none } :: rest) env own H :=
  TL.valE (φ := fun v own' H' => ∃ g, v = .map (some g) ∧ own' = [(g, .map #[] 0)] :: own ∧ H' = H) rfl hd
    (fun a w ha hw => ⟨_, _, _, w.alloc (.map #[] 0), by
      have : (Instr.makeMap t none).run P w = .ok (.map (some w.heap.size)) (w.alloc (.map #[] 0)) := by simp [Instr.makeMap]
      simp [execOp, this], ⟨w.heap.size, rfl, rfl, rfl⟩, hw.new _⟩)
    (by rintro v own' H' ⟨g, rfl, rfl, rfl⟩; exact h g)
end
open Go.WideElems (Fit rg rd_val)
open Go.Maps (Keyed fit_look fit_store notKey_iff)
def MapG (P : Program) (k e : TypeId) (o : Obj) (n : Nat) (f : Value → Option Value) : Prop :=
  ∃ es clock, o = .map es clock ∧ Fit P k (plainElem (H := Unit) P e) es clock ∧ es.size = n ∧ (∀ x ∈ es.toList, f x.key = some x.val) ∧ ∀ key kl, keyOf P k key = some kl → f key ≠ none → ∃ x ∈ es.toList, x.key = key
theorem MapG.nil (P : Program) (k e : TypeId) : MapG P k e (.map #[] 0) 0 (fun _ => none) :=
  ⟨#[], 0, rfl, ⟨by simp, stamped_empty 0, by simp⟩, rfl, by simp, fun _ _ _ h => absurd rfl h⟩
theorem MapG.look {P : Program} {k e t : TypeId} {w : World} {b n : Nat} {o : Obj} {f : Value → Option Value} (K : Keyed P k) (ht : P.underlying t = some (.map k e))
    {z : Value} (hz : (zeroValue e).run P w = .ok z w) (hb : w.heap[b]? = some o) (h : MapG P k e o n f) {key : Value} {kl : Lit} (hk : keyOf P k key = some kl) (c : Bool) :
    (Instr.lookup t (.map (some b)) key c).run P w = .ok (if c then .tuple #[(f key).getD z, .bool (f key).isSome] else (f key).getD z) w := by
  obtain ⟨es, clock, rfl, F, _, hf, hg⟩ := h
  rcases fit_look c K ht hz hb F hk with ⟨hrun, hno, _⟩ | ⟨e0, y, hm, rfl, hrun, _, _, _⟩
  · rw [hrun]
    cases h1 : f key with
    | none => rfl
    | some v =>
      obtain ⟨x, hx, hxk⟩ := hg key kl hk (by rw [h1]; simp)
      exact absurd hxk (hno x hx)
  · rw [hrun, hf e0 hm]
    rfl
theorem MapG.put {P : Program} {k e t : TypeId} {w : World} {b n : Nat} {o : Obj} {f : Value → Option Value} (K : Keyed P k) (ht : P.underlying t = some (.map k e))
    (hb : w.heap[b]? = some o) (h : MapG P k e o n f) (hn : n < maxLen) {key : Value} {kl : Lit} (hk : keyOf P k key = some kl) {v : Value} {d : DataW Unit} (hv : plainElem (H := Unit) P e v = some (d, [])) (hnone : f key = none)
    {g : Value → Option Value} (hg1 : g key = some v) (hg2 : ∀ s, s ≠ key → g s = f s) :
    ∃ o', (Instr.mapUpdate t (.map (some b)) key v).run P w = .ok () (setBlock w b o') ∧ MapG P k e o' (n + 1) g := by
  obtain ⟨es, clock, rfl, F, rfl, hf, hg⟩ := h
  obtain ⟨es', clock', hrun, F', hput, _, _, hwho⟩ := fit_store (R' := plainElem (H := Unit) P e) K ht hb F hn (fun _ _ _ _ hz => hz) hk hv
  have hno : ∀ x ∈ es.toList, x.key ≠ key := fun x hx he => by
    have := hf x hx
    rw [he, hnone] at this
    cases this
  have hfil : ((es.toList.map (rg P k (plainElem (H := Unit) P e))).foldr DataW.insert []).filter (notKey kl) = (es.toList.map (rg P k (plainElem (H := Unit) P e))).foldr DataW.insert [] := by
    refine List.filter_eq_self.2 fun p hp => ?_
    have hp2 := (WideShapes.sorted_perm _).mem_iff.1 hp
    obtain ⟨x, hx, rfl⟩ := List.mem_map.1 hp2
    obtain ⟨y, hy⟩ := F.reads x hx
    rw [WideElems.rg_of hy]
    refine (notKey_iff (K.key hk)).2 fun e1 => hno x hx ?_
    have m1 := WideElems.rd_key hy
    rw [e1] at m1
    exact K.inj m1 hk
  have hperm : (es'.toList.map (rg P k (plainElem (H := Unit) P e))).Perm ((kl, d) :: es.toList.map (rg P k (plainElem (H := Unit) P e))) := by
    refine (WideShapes.sorted_perm _).symm.trans ?_
    rw [hput]
    unfold putKey
    refine (WideShapes.insert_perm _ _).trans ?_
    rw [hfil]
    exact (WideShapes.sorted_perm _).cons _
  refine ⟨_, hrun, es', clock', rfl, F', ?_, fun x hx => ?_, fun key' kl' hk' hne => ?_⟩
  · have := hperm.length_eq
    simpa using this
  · rcases hwho x hx with ⟨h1, h2⟩ | ⟨h1, h2⟩
    · rw [hg2 _ h2]; exact hf x h1
    · rw [h1, h2, hg1]
  · have key_in : ∀ p ∈ es'.toList.map (rg P k (plainElem (H := Unit) P e)), p.1 = kl' → ∃ x ∈ es'.toList, x.key = key' := by
      intro p hp hpk
      obtain ⟨x, hx, rfl⟩ := List.mem_map.1 hp
      obtain ⟨y, hy⟩ := F'.reads x hx
      rw [WideElems.rg_of hy] at hpk
      have m1 := WideElems.rd_key hy
      rw [hpk] at m1
      exact ⟨x, hx, K.inj m1 hk'⟩
    by_cases he : key' = key
    · subst he
      rw [hk] at hk'
      injection hk' with hk'
      subst hk'
      exact key_in (kl, d) (hperm.mem_iff.2 (by simp)) rfl
    · rw [hg2 _ he] at hne
      obtain ⟨x, hx, rfl⟩ := hg key' kl' hk' hne
      obtain ⟨y, hy⟩ := F.reads x hx
      have m1 := WideElems.rd_key hy
      rw [hk'] at m1
      injection m1 with m1
      exact key_in _ (hperm.mem_iff.2 (List.mem_cons_of_mem _ (List.mem_map.2 ⟨x, hx, rfl⟩))) (by rw [WideElems.rg_of hy]; exact m1.symm)
section
variable {P : Program} {w0 : World} {N : Nat} {Q : Exit → Act → World → Prop} {env : Env} {own : List Seg} {H : Hp} {ops : Array Oper} {rest : List Oper}
variable {d : Option Tmp} {ty : TypeId} {pos : String} {af : Array Edge}
theorem TL.mapSetG (i j : Nat) {t k e : TypeId} {m x y : Operand} {g n : Nat} {seg : Seg} {o : Obj} {f : Value → Option Value} (f' : Value → Option Value) {key v : Value} {kl : Lit} {dd : DataW Unit} (hm : ev env m = some (.map (some g))) (hx : ev env x = some key) (hy : ev env y = some v)
    (hi : own[i]? = some seg) (hj : seg[j]? = some (g, o)) (K : Keyed P k) [ht : Und P t (.map k e)] (ho : MapG P k e o n f) (hn : n < maxLen) (hk : keyOf P k key = some kl) (hv : plainElem (H := Unit) P e v = some (dd, [])) (hnone : f key = none)
    (hg1 : f' key = some v) (hg2 : ∀ s, s ≠ key → f' s = f s) (hd : okD N d = true)
    (h : ∀ o', MapG P k e o' (n + 1) f' → TL P w0 N Q ops rest (ab d undef env) (own.set i (seg.set j (g, o'))) H) :
    TL P w0 N Q ops ({ dst := d, op := .mapUpdate t m x y, type := ty, pos := pos, after := af, guard := none } :: rest) env own H :=
  fun a w ha hw => by
    have hb := hw.own_blk hi hj
    obtain ⟨o', hrun, ho'⟩ := MapG.put K ht.eq hb ho hn hk hv hnone hg1 hg2
    refine wpList_plain rfl fun K hK => ?_
    unfold Oper.wp
    have hr : (execOp a.eval { dst := d, op := .mapUpdate t m x y, type := ty, pos := pos, after := af, guard := none }).run P w = .ok .skip (setBlock w g o') := by
      simp [execOp, ha.ev hm, ha.ev hx, ha.ev hy, hrun, Result.andThen]
    rw [hr]
    exact hK _ _ (h o' ho' _ _ (ha.put hd undef) (hw.setObj hi hj))
theorem TL.lookG (i j : Nat) {t k e : TypeId} {m x : Operand} {g n : Nat} {seg : Seg} {o : Obj} {f : Value → Option Value} {key : Value} {kl : Lit} {c : Bool} {z : Value} (hm : ev env m = some (.map (some g))) (hx : ev env x = some key)
    (hi : own[i]? = some seg) (hj : seg[j]? = some (g, o)) (K : Keyed P k) [ht : Und P t (.map k e)] (ho : MapG P k e o n f) (hk : keyOf P k key = some kl)
    (hz : ∀ w, (zeroValue e).run P w = .ok z w) (hd : okD N d = true) (h : TL P w0 N Q ops rest (ab d (if c then .tuple #[(f key).getD z, .bool (f key).isSome] else (f key).getD z) env) own H) :
    TL P w0 N Q ops ({ dst := d, op := .lookup t m x c, type := ty, pos := pos, after := af, guard := none } :: rest) env own H :=
  TL.val rfl hd (fun a w ha hw => ⟨w, by
    have := MapG.look (w := w) K ht.eq (hz w) (hw.own_blk hi hj) ho hk c
    simp [execOp, ha.ev hm, ha.ev hx, this], hw⟩) h
theorem TL.lenMap (i j : Nat) {t k e : TypeId} {x : Operand} {g n : Nat} {seg : Seg} {o : Obj} {f : Value → Option Value} (hx : ev env x = some (.map (some g))) (hi : own[i]? = some seg) (hj : seg[j]? = some (g, o)) [ht : Und P t (.map k e)] (ho : MapG P k e o n f) (hd : okD N d = true)
    (h : TL P w0 N Q ops rest (ab d (.int .i64 (n : Int)) env) own H) :
    TL P w0 N Q ops ({ dst := d, op := .call { callee := .builtin .len, args := #[x], argTypes := #[t] }, type := ty, pos := pos, after := af, guard := none } :: rest) env own H :=
  TL.val rfl hd (fun a w ha hw => ⟨w, by
    obtain ⟨es, clock, rfl, _, rfl, _, _⟩ := ho
    have hb := MapKept.run_getObj_map (P := P) (hw.own_blk hi hj)
    simp [execOp, resolve, invoke, builtin, Builtin.len_, ha.ev hx, run_underlying ht.eq, hb, goInt], hw⟩) h
end
open Go.WideElems (Fit rg rd_val)
open Go.Maps (Keyed fit_look fit_store notKey_iff)
def R0 : Value → Option (DataW Unit × List MemPlace) := fun _ => some (.lit (.bool true), [])
def MapR (P : Program) (k e : TypeId) (o : Obj) (n : Nat) (f : Value → Option Value) : Prop :=
  ∃ es clock, o = .map es clock ∧ Fit P k R0 es clock ∧ es.size = n ∧ (∀ x ∈ es.toList, f x.key = some x.val) ∧ ∀ key kl, keyOf P k key = some kl → f key ≠ none → ∃ x ∈ es.toList, x.key = key
theorem MapR.nil (P : Program) (k e : TypeId) : MapR P k e (.map #[] 0) 0 (fun _ => none) :=
  ⟨#[], 0, rfl, ⟨by simp, stamped_empty 0, by simp⟩, rfl, by simp, fun _ _ _ h => absurd rfl h⟩
theorem MapR.look {P : Program} {k e t : TypeId} {w : World} {b n : Nat} {o : Obj} {f : Value → Option Value} (K : Keyed P k) (ht : P.underlying t = some (.map k e))
    {z : Value} (hz : (zeroValue e).run P w = .ok z w) (hb : w.heap[b]? = some o) (h : MapR P k e o n f) {key : Value} {kl : Lit} (hk : keyOf P k key = some kl) (c : Bool) :
    (Instr.lookup t (.map (some b)) key c).run P w = .ok (if c then .tuple #[(f key).getD z, .bool (f key).isSome] else (f key).getD z) w := by
  obtain ⟨es, clock, rfl, F, _, hf, hg⟩ := h
  rcases fit_look c K ht hz hb F hk with ⟨hrun, hno, _⟩ | ⟨e0, y, hm, rfl, hrun, _, _, _⟩
  · rw [hrun]
    cases h1 : f key with
    | none => rfl
    | some v =>
      obtain ⟨x, hx, hxk⟩ := hg key kl hk (by rw [h1]; simp)
      exact absurd hxk (hno x hx)
  · rw [hrun, hf e0 hm]
    rfl
theorem MapR.put {P : Program} {k e t : TypeId} {w : World} {b n : Nat} {o : Obj} {f : Value → Option Value} (K : Keyed P k) (ht : P.underlying t = some (.map k e))
    (hb : w.heap[b]? = some o) (h : MapR P k e o n f) (hn : n < maxLen) {key : Value} {kl : Lit} (hk : keyOf P k key = some kl) {v : Value} {d : DataW Unit} (hv : R0 v = some (d, [])) (hnone : f key = none)
    {g : Value → Option Value} (hg1 : g key = some v) (hg2 : ∀ s, s ≠ key → g s = f s) :
    ∃ o', (Instr.mapUpdate t (.map (some b)) key v).run P w = .ok () (setBlock w b o') ∧ MapR P k e o' (n + 1) g := by
  obtain ⟨es, clock, rfl, F, rfl, hf, hg⟩ := h
  obtain ⟨es', clock', hrun, F', hput, _, _, hwho⟩ := fit_store (R' := R0) K ht hb F hn (fun _ _ _ _ hz => hz) hk hv
  have hno : ∀ x ∈ es.toList, x.key ≠ key := fun x hx he => by
    have := hf x hx
    rw [he, hnone] at this
    cases this
  have hfil : ((es.toList.map (rg P k R0)).foldr DataW.insert []).filter (notKey kl) = (es.toList.map (rg P k R0)).foldr DataW.insert [] := by
    refine List.filter_eq_self.2 fun p hp => ?_
    have hp2 := (WideShapes.sorted_perm _).mem_iff.1 hp
    obtain ⟨x, hx, rfl⟩ := List.mem_map.1 hp2
    obtain ⟨y, hy⟩ := F.reads x hx
    rw [WideElems.rg_of hy]
    refine (notKey_iff (K.key hk)).2 fun e1 => hno x hx ?_
    have m1 := WideElems.rd_key hy
    rw [e1] at m1
    exact K.inj m1 hk
  have hperm : (es'.toList.map (rg P k R0)).Perm ((kl, d) :: es.toList.map (rg P k R0)) := by
    refine (WideShapes.sorted_perm _).symm.trans ?_
    rw [hput]
    unfold putKey
    refine (WideShapes.insert_perm _ _).trans ?_
    rw [hfil]
    exact (WideShapes.sorted_perm _).cons _
  refine ⟨_, hrun, es', clock', rfl, F', ?_, fun x hx => ?_, fun key' kl' hk' hne => ?_⟩
  · have := hperm.length_eq
    simpa using this
  · rcases hwho x hx with ⟨h1, h2⟩ | ⟨h1, h2⟩
    · rw [hg2 _ h2]; exact hf x h1
    · rw [h1, h2, hg1]
  · have key_in : ∀ p ∈ es'.toList.map (rg P k R0), p.1 = kl' → ∃ x ∈ es'.toList, x.key = key' := by
      intro p hp hpk
      obtain ⟨x, hx, rfl⟩ := List.mem_map.1 hp
      obtain ⟨y, hy⟩ := F'.reads x hx
      rw [WideElems.rg_of hy] at hpk
      have m1 := WideElems.rd_key hy
      rw [hpk] at m1
      exact ⟨x, hx, K.inj m1 hk'⟩
    by_cases he : key' = key
    · subst he
      rw [hk] at hk'
      injection hk' with hk'
      subst hk'
      exact key_in (kl, d) (hperm.mem_iff.2 (by simp)) rfl
    · rw [hg2 _ he] at hne
      obtain ⟨x, hx, rfl⟩ := hg key' kl' hk' hne
      obtain ⟨y, hy⟩ := F.reads x hx
      have m1 := WideElems.rd_key hy
      rw [hk'] at m1
      injection m1 with m1
      exact key_in _ (hperm.mem_iff.2 (List.mem_cons_of_mem _ (List.mem_map.2 ⟨x, hx, rfl⟩))) (by rw [WideElems.rg_of hy]; exact m1.symm)
section
variable {P : Program} {w0 : World} {N : Nat} {Q : Exit → Act → World → Prop} {env : Env} {own : List Seg} {H : Hp} {ops : Array Oper} {rest : List Oper}
variable {d : Option Tmp} {ty : TypeId} {pos : String} {af : Array Edge}
theorem TL.insertR (i j : Nat) {t k e : TypeId} {m x y : Operand} {g n : Nat} {seg : Seg} {o : Obj} {f : Value → Option Value} (f' : Value → Option Value) {key v : Value} {kl : Lit} {dd : DataW Unit} (hm : ev env m = some (.map (some g))) (hx : ev env x = some key) (hy : ev env y = some v)
    (hi : own[i]? = some seg) (hj : seg[j]? = some (g, o)) (K : Keyed P k) [ht : Und P t (.map k e)] (ho : MapR P k e o n f) (hn : n < maxLen) (hk : keyOf P k key = some kl) (hv : R0 v = some (dd, [])) (hnone : f key = none)
    (hg1 : f' key = some v) (hg2 : ∀ s, s ≠ key → f' s = f s) (hd : okD N d = true)
    (h : ∀ o', MapR P k e o' (n + 1) f' → TL P w0 N Q ops rest (ab d undef env) (own.set i (seg.set j (g, o'))) H) :
    TL P w0 N Q ops ({ dst := d, op := .insert t m x y, type := ty, pos := pos, after := af, guard := none } :: rest) env own H :=
  fun a w ha hw => by
    have hb := hw.own_blk hi hj
    obtain ⟨o', hrun, ho'⟩ := MapR.put K ht.eq hb ho hn hk hv hnone hg1 hg2
    refine wpList_plain rfl fun K hK => ?_
    unfold Oper.wp
    have hr : (execOp a.eval { dst := d, op := .insert t m x y, type := ty, pos := pos, after := af, guard := none }).run P w = .ok .skip (setBlock w g o') := by
      simp [execOp, ha.ev hm, ha.ev hx, ha.ev hy, hrun, Result.andThen]
    rw [hr]
    exact hK _ _ (h o' ho' _ _ (ha.put hd undef) (hw.setObj hi hj))
theorem TL.lookRH {t k e : TypeId} {m x : Operand} {g n : Nat} {o : Obj} {f : Value → Option Value} {key : Value} {kl : Lit} {c : Bool} {z : Value} (hm : ev env m = some (.map (some g))) (hx : ev env x = some key)
    (hg : H g = some o) (K : Keyed P k) [ht : Und P t (.map k e)] (ho : MapR P k e o n f) (hk : keyOf P k key = some kl)
    (hz : ∀ w, (zeroValue e).run P w = .ok z w) (hd : okD N d = true) (h : TL P w0 N Q ops rest (ab d (if c then .tuple #[(f key).getD z, .bool (f key).isSome] else (f key).getD z) env) own H) :
    TL P w0 N Q ops ({ dst := d, op := .lookup t m x c, type := ty, pos := pos, after := af, guard := none } :: rest) env own H :=
  TL.val rfl hd (fun a w ha hw => ⟨w, by
    have := MapR.look (w := w) K ht.eq (hz w) (hw.imm g o hg) ho hk c
    simp [execOp, ha.ev hm, ha.ev hx, this], hw⟩) h
end
open Go.Proofs
abbrev und0 := Und.mk Tryz.underlying0
attribute [instance] und0
theorem info0 : Tryz.prog.info? 0 = some Tryz.t0 := by kernel_rfl
instance inf0 : Inf Tryz.prog 0 Tryz.t0 := ⟨info0⟩
instance ty0 : Ty Tryz.prog 0 false 1 := Ty.of Tryz.underlying0 info0
abbrev und1 := Und.mk Tryz.underlying1
attribute [instance] und1
theorem info1 : Tryz.prog.info? 1 = some Tryz.t1 := by kernel_rfl
instance inf1 : Inf Tryz.prog 1 Tryz.t1 := ⟨info1⟩
instance ty1 : Ty Tryz.prog 1 false 1 := Ty.of Tryz.underlying1 info1
abbrev und2 := Und.mk Tryz.underlying2
attribute [instance] und2
theorem info2 : Tryz.prog.info? 2 = some Tryz.t2 := by kernel_rfl
instance inf2 : Inf Tryz.prog 2 Tryz.t2 := ⟨info2⟩
instance ty2 : Ty Tryz.prog 2 false 1 := Ty.of Tryz.underlying2 info2
abbrev und3 := Und.mk Tryz.underlying3
attribute [instance] und3
theorem info3 : Tryz.prog.info? 3 = some Tryz.t3 := by kernel_rfl
instance inf3 : Inf Tryz.prog 3 Tryz.t3 := ⟨info3⟩
instance ty3 : Ty Tryz.prog 3 false 1 := Ty.of Tryz.underlying3 info3
abbrev und4 := Und.mk Tryz.underlying4
attribute [instance] und4
theorem info4 : Tryz.prog.info? 4 = some Tryz.t4 := by kernel_rfl
instance inf4 : Inf Tryz.prog 4 Tryz.t4 := ⟨info4⟩
instance ty4 : Ty Tryz.prog 4 false 1 := Ty.of Tryz.underlying4 info4
abbrev und5 := Und.mk Tryz.underlying5
attribute [instance] und5
theorem info5 : Tryz.prog.info? 5 = some Tryz.t5 := by kernel_rfl
instance inf5 : Inf Tryz.prog 5 Tryz.t5 := ⟨info5⟩
instance ty5 : Ty Tryz.prog 5 false 1 := Ty.of Tryz.underlying5 info5
abbrev und6 := Und.mk Tryz.underlying6
attribute [instance] und6
theorem info6 : Tryz.prog.info? 6 = some Tryz.t6 := by kernel_rfl
instance inf6 : Inf Tryz.prog 6 Tryz.t6 := ⟨info6⟩
instance ty6 : Ty Tryz.prog 6 false 1 := Ty.of Tryz.underlying6 info6
abbrev und7 := Und.mk Tryz.underlying7
attribute [instance] und7
theorem info7 : Tryz.prog.info? 7 = some Tryz.t7 := by kernel_rfl
instance inf7 : Inf Tryz.prog 7 Tryz.t7 := ⟨info7⟩
instance ty7 : Ty Tryz.prog 7 true 4 := Ty.of Tryz.underlying7 info7
abbrev und9 := Und.mk Tryz.underlying9
attribute [instance] und9
theorem info9 : Tryz.prog.info? 9 = some Tryz.t9 := by kernel_rfl
instance inf9 : Inf Tryz.prog 9 Tryz.t9 := ⟨info9⟩
instance ty9 : Ty Tryz.prog 9 false 1 := Ty.of Tryz.underlying9 info9
abbrev und20 := Und.mk Tryz.underlying20
attribute [instance] und20
theorem info20 : Tryz.prog.info? 20 = some Tryz.t20 := by kernel_rfl
instance inf20 : Inf Tryz.prog 20 Tryz.t20 := ⟨info20⟩
instance ty20 : Ty Tryz.prog 20 false 1 := Ty.of Tryz.underlying20 info20
abbrev und22 := Und.mk Tryz.underlying22
attribute [instance] und22
theorem info22 : Tryz.prog.info? 22 = some Tryz.t22 := by kernel_rfl
instance inf22 : Inf Tryz.prog 22 Tryz.t22 := ⟨info22⟩
instance ty22 : Ty Tryz.prog 22 false 1 := Ty.of Tryz.underlying22 info22
abbrev und23 := Und.mk Tryz.underlying23
attribute [instance] und23
theorem info23 : Tryz.prog.info? 23 = some Tryz.t23 := by kernel_rfl
instance inf23 : Inf Tryz.prog 23 Tryz.t23 := ⟨info23⟩
instance ty23 : Ty Tryz.prog 23 true 3 := Ty.of Tryz.underlying23 info23
abbrev und25 := Und.mk Tryz.underlying25
attribute [instance] und25
theorem info25 : Tryz.prog.info? 25 = some Tryz.t25 := by kernel_rfl
instance inf25 : Inf Tryz.prog 25 Tryz.t25 := ⟨info25⟩
instance ty25 : Ty Tryz.prog 25 false 1 := Ty.of Tryz.underlying25 info25
abbrev und26 := Und.mk Tryz.underlying26
attribute [instance] und26
theorem info26 : Tryz.prog.info? 26 = some Tryz.t26 := by kernel_rfl
instance inf26 : Inf Tryz.prog 26 Tryz.t26 := ⟨info26⟩
instance ty26 : Ty Tryz.prog 26 false 1 := Ty.of Tryz.underlying26 info26
abbrev und27 := Und.mk Tryz.underlying27
attribute [instance] und27
theorem info27 : Tryz.prog.info? 27 = some Tryz.t27 := by kernel_rfl
instance inf27 : Inf Tryz.prog 27 Tryz.t27 := ⟨info27⟩
instance ty27 : Ty Tryz.prog 27 false 1 := Ty.of Tryz.underlying27 info27
abbrev und29 := Und.mk Tryz.underlying29
attribute [instance] und29
theorem lv : Tryz.prog.info? 29 = some Tryz.t29 := by kernel_rfl
instance inf29 : Inf Tryz.prog 29 Tryz.t29 := ⟨lv⟩
instance ty29 : Ty Tryz.prog 29 true 3 := Ty.of Tryz.underlying29 lv
abbrev und33 := Und.mk Tryz.underlying33
attribute [instance] und33
theorem info33 : Tryz.prog.info? 33 = some Tryz.t33 := by kernel_rfl
instance inf33 : Inf Tryz.prog 33 Tryz.t33 := ⟨info33⟩
instance ty33 : Ty Tryz.prog 33 false 1 := Ty.of Tryz.underlying33 info33
abbrev und35 := Und.mk Tryz.underlying35
attribute [instance] und35
theorem jc : Tryz.prog.info? 35 = some Tryz.t35 := by kernel_rfl
instance inf35 : Inf Tryz.prog 35 Tryz.t35 := ⟨jc⟩
instance ty35 : Ty Tryz.prog 35 true 2 := Ty.of Tryz.underlying35 jc
abbrev und37 := Und.mk Tryz.underlying37
attribute [instance] und37
theorem info37 : Tryz.prog.info? 37 = some Tryz.t37 := by kernel_rfl
instance inf37 : Inf Tryz.prog 37 Tryz.t37 := ⟨info37⟩
instance ty37 : Ty Tryz.prog 37 false 1 := Ty.of Tryz.underlying37 info37
abbrev und39 := Und.mk Tryz.underlying39
attribute [instance] und39
theorem info39 : Tryz.prog.info? 39 = some Tryz.t39 := by kernel_rfl
instance inf39 : Inf Tryz.prog 39 Tryz.t39 := ⟨info39⟩
instance ty39 : Ty Tryz.prog 39 false 1 := Ty.of Tryz.underlying39 info39
abbrev und53 := Und.mk Tryz.underlying53
attribute [instance] und53
theorem info53 : Tryz.prog.info? 53 = some Tryz.t53 := by kernel_rfl
instance inf53 : Inf Tryz.prog 53 Tryz.t53 := ⟨info53⟩
instance ty53 : Ty Tryz.prog 53 false 1 := Ty.of Tryz.underlying53 info53
abbrev und58 := Und.mk Tryz.underlying58
attribute [instance] und58
theorem info58 : Tryz.prog.info? 58 = some Tryz.t58 := by kernel_rfl
instance inf58 : Inf Tryz.prog 58 Tryz.t58 := ⟨info58⟩
instance ty58 : Ty Tryz.prog 58 false 1 := Ty.of Tryz.underlying58 info58
abbrev und60 := Und.mk Tryz.underlying60
attribute [instance] und60
theorem jd : Tryz.prog.info? 60 = some Tryz.t60 := by kernel_rfl
instance inf60 : Inf Tryz.prog 60 Tryz.t60 := ⟨jd⟩
instance ty60 : Ty Tryz.prog 60 true 4 := Ty.of Tryz.underlying60 jd
abbrev und61 := Und.mk Tryz.underlying61
attribute [instance] und61
theorem info61 : Tryz.prog.info? 61 = some Tryz.t61 := by kernel_rfl
instance inf61 : Inf Tryz.prog 61 Tryz.t61 := ⟨info61⟩
instance ty61 : Ty Tryz.prog 61 false 1 := Ty.of Tryz.underlying61 info61
abbrev und62 := Und.mk Tryz.underlying62
attribute [instance] und62
theorem info62 : Tryz.prog.info? 62 = some Tryz.t62 := by kernel_rfl
instance inf62 : Inf Tryz.prog 62 Tryz.t62 := ⟨info62⟩
instance ty62 : Ty Tryz.prog 62 false 1 := Ty.of Tryz.underlying62 info62
abbrev und63 := Und.mk Tryz.underlying63
attribute [instance] und63
theorem lw : Tryz.prog.info? 63 = some Tryz.t63 := by kernel_rfl
instance inf63 : Inf Tryz.prog 63 Tryz.t63 := ⟨lw⟩
instance ty63 : Ty Tryz.prog 63 false 1 := Ty.of Tryz.underlying63 lw
abbrev und64 := Und.mk Tryz.underlying64
attribute [instance] und64
theorem info64 : Tryz.prog.info? 64 = some Tryz.t64 := by kernel_rfl
instance inf64 : Inf Tryz.prog 64 Tryz.t64 := ⟨info64⟩
instance ty64 : Ty Tryz.prog 64 false 1 := Ty.of Tryz.underlying64 info64
abbrev und66 := Und.mk Tryz.underlying66
attribute [instance] und66
theorem je : Tryz.prog.info? 66 = some Tryz.t66 := by kernel_rfl
instance inf66 : Inf Tryz.prog 66 Tryz.t66 := ⟨je⟩
instance ty66 : Ty Tryz.prog 66 true 11 := Ty.of Tryz.underlying66 je
abbrev und67 := Und.mk Tryz.underlying67
attribute [instance] und67
theorem info67 : Tryz.prog.info? 67 = some Tryz.t67 := by kernel_rfl
instance inf67 : Inf Tryz.prog 67 Tryz.t67 := ⟨info67⟩
instance ty67 : Ty Tryz.prog 67 false 1 := Ty.of Tryz.underlying67 info67
abbrev und69 := Und.mk Tryz.underlying69
attribute [instance] und69
theorem ly : Tryz.prog.info? 69 = some Tryz.t69 := by kernel_rfl
instance inf69 : Inf Tryz.prog 69 Tryz.t69 := ⟨ly⟩
instance ty69 : Ty Tryz.prog 69 true 2 := Ty.of Tryz.underlying69 ly
abbrev und71 := Und.mk Tryz.underlying71
attribute [instance] und71
theorem jf : Tryz.prog.info? 71 = some Tryz.t71 := by kernel_rfl
instance inf71 : Inf Tryz.prog 71 Tryz.t71 := ⟨jf⟩
instance ty71 : Ty Tryz.prog 71 true 10 := Ty.of Tryz.underlying71 jf
abbrev und73 := Und.mk Tryz.underlying73
attribute [instance] und73
theorem jg : Tryz.prog.info? 73 = some Tryz.t73 := by kernel_rfl
instance inf73 : Inf Tryz.prog 73 Tryz.t73 := ⟨jg⟩
instance ty73 : Ty Tryz.prog 73 true 4 := Ty.of Tryz.underlying73 jg
abbrev und80 := Und.mk Tryz.underlying80
attribute [instance] und80
theorem jh : Tryz.prog.info? 80 = some Tryz.t80 := by kernel_rfl
instance inf80 : Inf Tryz.prog 80 Tryz.t80 := ⟨jh⟩
instance ty80 : Ty Tryz.prog 80 true 8 := Ty.of Tryz.underlying80 jh
abbrev und81 := Und.mk Tryz.underlying81
attribute [instance] und81
theorem info81 : Tryz.prog.info? 81 = some Tryz.t81 := by kernel_rfl
instance inf81 : Inf Tryz.prog 81 Tryz.t81 := ⟨info81⟩
instance ty81 : Ty Tryz.prog 81 false 1 := Ty.of Tryz.underlying81 info81
abbrev und83 := Und.mk Tryz.underlying83
attribute [instance] und83
theorem ji : Tryz.prog.info? 83 = some Tryz.t83 := by kernel_rfl
instance inf83 : Inf Tryz.prog 83 Tryz.t83 := ⟨ji⟩
instance ty83 : Ty Tryz.prog 83 true 5 := Ty.of Tryz.underlying83 ji
abbrev und85 := Und.mk Tryz.underlying85
attribute [instance] und85
theorem jj : Tryz.prog.info? 85 = some Tryz.t85 := by kernel_rfl
instance inf85 : Inf Tryz.prog 85 Tryz.t85 := ⟨jj⟩
instance ty85 : Ty Tryz.prog 85 true 3 := Ty.of Tryz.underlying85 jj
abbrev und87 := Und.mk Tryz.underlying87
attribute [instance] und87
theorem jm : Tryz.prog.info? 87 = some Tryz.t87 := by kernel_rfl
instance inf87 : Inf Tryz.prog 87 Tryz.t87 := ⟨jm⟩
instance ty87 : Ty Tryz.prog 87 true 4 := Ty.of Tryz.underlying87 jm
abbrev und100 := Und.mk Tryz.underlying100
attribute [instance] und100
theorem lz : Tryz.prog.info? 100 = some Tryz.t100 := by kernel_rfl
instance inf100 : Inf Tryz.prog 100 Tryz.t100 := ⟨lz⟩
instance ty100 : Ty Tryz.prog 100 false 1 := Ty.of Tryz.underlying100 lz
abbrev und101 := Und.mk Tryz.underlying101
attribute [instance] und101
theorem lC : Tryz.prog.info? 101 = some Tryz.t101 := by kernel_rfl
instance inf101 : Inf Tryz.prog 101 Tryz.t101 := ⟨lC⟩
instance ty101 : Ty Tryz.prog 101 false 1 := Ty.of Tryz.underlying101 lC
abbrev und102 := Und.mk Tryz.underlying102
attribute [instance] und102
theorem lD : Tryz.prog.info? 102 = some Tryz.t102 := by kernel_rfl
instance inf102 : Inf Tryz.prog 102 Tryz.t102 := ⟨lD⟩
instance ty102 : Ty Tryz.prog 102 false 1 := Ty.of Tryz.underlying102 lD
abbrev und104 := Und.mk Tryz.underlying104
attribute [instance] und104
theorem iH : Tryz.prog.info? 104 = some Tryz.t104 := by kernel_rfl
instance inf104 : Inf Tryz.prog 104 Tryz.t104 := ⟨iH⟩
instance ty104 : Ty Tryz.prog 104 true 2 := Ty.of Tryz.underlying104 iH
abbrev und106 := Und.mk Tryz.underlying106
attribute [instance] und106
theorem lF : Tryz.prog.info? 106 = some Tryz.t106 := by kernel_rfl
instance inf106 : Inf Tryz.prog 106 Tryz.t106 := ⟨lF⟩
instance ty106 : Ty Tryz.prog 106 false 1 := Ty.of Tryz.underlying106 lF
abbrev und111 := Und.mk Tryz.underlying111
attribute [instance] und111
theorem lG : Tryz.prog.info? 111 = some Tryz.t111 := by kernel_rfl
instance inf111 : Inf Tryz.prog 111 Tryz.t111 := ⟨lG⟩
instance ty111 : Ty Tryz.prog 111 false 1 := Ty.of Tryz.underlying111 lG
abbrev und175 := Und.mk Tryz.underlying175
attribute [instance] und175
theorem iI : Tryz.prog.info? 175 = some Tryz.t175 := by kernel_rfl
instance inf175 : Inf Tryz.prog 175 Tryz.t175 := ⟨iI⟩
instance ty175 : Ty Tryz.prog 175 true 2 := Ty.of Tryz.underlying175 iI
abbrev und203 := Und.mk Tryz.underlying203
attribute [instance] und203
theorem lI : Tryz.prog.info? 203 = some Tryz.t203 := by kernel_rfl
instance inf203 : Inf Tryz.prog 203 Tryz.t203 := ⟨lI⟩
instance ty203 : Ty Tryz.prog 203 false 1 := Ty.of Tryz.underlying203 lI
abbrev und207 := Und.mk Tryz.underlying207
attribute [instance] und207
theorem iJ : Tryz.prog.info? 207 = some Tryz.t207 := by kernel_rfl
instance inf207 : Inf Tryz.prog 207 Tryz.t207 := ⟨iJ⟩
instance ty207 : Ty Tryz.prog 207 true 2 := Ty.of Tryz.underlying207 iJ
abbrev und261 := Und.mk Tryz.underlying261
attribute [instance] und261
theorem lJ : Tryz.prog.info? 261 = some Tryz.t261 := by kernel_rfl
instance inf261 : Inf Tryz.prog 261 Tryz.t261 := ⟨lJ⟩
instance ty261 : Ty Tryz.prog 261 true 24 := Ty.of Tryz.underlying261 lJ
abbrev und262 := Und.mk Tryz.underlying262
attribute [instance] und262
theorem lK : Tryz.prog.info? 262 = some Tryz.t262 := by kernel_rfl
instance inf262 : Inf Tryz.prog 262 Tryz.t262 := ⟨lK⟩
instance ty262 : Ty Tryz.prog 262 false 1 := Ty.of Tryz.underlying262 lK
abbrev und265 := Und.mk Tryz.underlying265
attribute [instance] und265
theorem info265 : Tryz.prog.info? 265 = some Tryz.t265 := by kernel_rfl
instance inf265 : Inf Tryz.prog 265 Tryz.t265 := ⟨info265⟩
instance ty265 : Ty Tryz.prog 265 false 1 := Ty.of Tryz.underlying265 info265
abbrev und278 := Und.mk Tryz.underlying278
attribute [instance] und278
theorem lL : Tryz.prog.info? 278 = some Tryz.t278 := by kernel_rfl
instance inf278 : Inf Tryz.prog 278 Tryz.t278 := ⟨lL⟩
instance ty278 : Ty Tryz.prog 278 true 20 := Ty.of Tryz.underlying278 lL
abbrev und279 := Und.mk Tryz.underlying279
attribute [instance] und279
theorem lM : Tryz.prog.info? 279 = some Tryz.t279 := by kernel_rfl
instance inf279 : Inf Tryz.prog 279 Tryz.t279 := ⟨lM⟩
instance ty279 : Ty Tryz.prog 279 false 1 := Ty.of Tryz.underlying279 lM
abbrev und280 := Und.mk Tryz.underlying280
attribute [instance] und280
theorem lO : Tryz.prog.info? 280 = some Tryz.t280 := by kernel_rfl
instance inf280 : Inf Tryz.prog 280 Tryz.t280 := ⟨lO⟩
instance ty280 : Ty Tryz.prog 280 true 65 := Ty.of Tryz.underlying280 lO
abbrev und295 := Und.mk Tryz.underlying295
attribute [instance] und295
theorem lP : Tryz.prog.info? 295 = some Tryz.t295 := by kernel_rfl
instance inf295 : Inf Tryz.prog 295 Tryz.t295 := ⟨lP⟩
instance ty295 : Ty Tryz.prog 295 true 32 := Ty.of Tryz.underlying295 lP
abbrev und296 := Und.mk Tryz.underlying296
attribute [instance] und296
theorem lQ : Tryz.prog.info? 296 = some Tryz.t296 := by kernel_rfl
instance inf296 : Inf Tryz.prog 296 Tryz.t296 := ⟨lQ⟩
instance ty296 : Ty Tryz.prog 296 true 64 := Ty.of Tryz.underlying296 lQ
instance fld7_0 : Fld Tryz.prog 7 0 0 := Fld.of (f := 0) Tryz.underlying7 rfl ty2 rfl
instance fld7_1 : Fld Tryz.prog 7 1 1 := Fld.of (f := 1) Tryz.underlying7 rfl ty3 rfl
instance fld7_2 : Fld Tryz.prog 7 2 2 := Fld.of (f := 2) Tryz.underlying7 rfl ty4 rfl
instance fld7_3 : Fld Tryz.prog 7 3 3 := Fld.of (f := 3) Tryz.underlying7 rfl ty6 rfl
instance fld29_0 : Fld Tryz.prog 29 0 0 := Fld.of (f := 0) Tryz.underlying29 rfl ty25 rfl
instance fld29_1 : Fld Tryz.prog 29 1 1 := Fld.of (f := 1) Tryz.underlying29 rfl ty26 rfl
instance fld29_2 : Fld Tryz.prog 29 2 2 := Fld.of (f := 2) Tryz.underlying29 rfl ty27 rfl
instance fld35_0 : Fld Tryz.prog 35 0 0 := Fld.of (f := 0) Tryz.underlying35 rfl ty9 rfl
instance fld35_1 : Fld Tryz.prog 35 1 1 := Fld.of (f := 1) Tryz.underlying35 rfl ty33 rfl
instance fld60_0 : Fld Tryz.prog 60 0 0 := Fld.of (f := 0) Tryz.underlying60 rfl ty3 rfl
instance fld60_1 : Fld Tryz.prog 60 1 1 := Fld.of (f := 1) Tryz.underlying60 rfl ty9 rfl
instance fld60_2 : Fld Tryz.prog 60 2 2 := Fld.of (f := 2) Tryz.underlying60 rfl ty3 rfl
instance fld60_3 : Fld Tryz.prog 60 3 3 := Fld.of (f := 3) Tryz.underlying60 rfl ty58 rfl
instance fld66_0 : Fld Tryz.prog 66 0 0 := Fld.of (f := 0) Tryz.underlying66 rfl ty3 rfl
instance fld66_1 : Fld Tryz.prog 66 1 1 := Fld.of (f := 1) Tryz.underlying66 rfl ty9 rfl
instance fld66_2 : Fld Tryz.prog 66 2 2 := Fld.of (f := 2) Tryz.underlying66 rfl ty60 rfl
instance fld66_3 : Fld Tryz.prog 66 3 6 := Fld.of (f := 3) Tryz.underlying66 rfl ty61 rfl
instance fld66_4 : Fld Tryz.prog 66 4 7 := Fld.of (f := 4) Tryz.underlying66 rfl ty62 rfl
instance fld66_5 : Fld Tryz.prog 66 5 8 := Fld.of (f := 5) Tryz.underlying66 rfl ty63 rfl
instance fld66_6 : Fld Tryz.prog 66 6 9 := Fld.of (f := 6) Tryz.underlying66 rfl ty63 rfl
instance fld66_7 : Fld Tryz.prog 66 7 10 := Fld.of (f := 7) Tryz.underlying66 rfl ty64 rfl
instance fld69_0 : Fld Tryz.prog 69 0 0 := Fld.of (f := 0) Tryz.underlying69 rfl ty3 rfl
instance fld69_1 : Fld Tryz.prog 69 1 1 := Fld.of (f := 1) Tryz.underlying69 rfl ty61 rfl
instance fld71_0 : Fld Tryz.prog 71 0 0 := Fld.of (f := 0) Tryz.underlying71 rfl ty9 rfl
instance fld71_1 : Fld Tryz.prog 71 1 1 := Fld.of (f := 1) Tryz.underlying71 rfl ty67 rfl
instance fld71_2 : Fld Tryz.prog 71 2 2 := Fld.of (f := 2) Tryz.underlying71 rfl ty60 rfl
instance fld71_3 : Fld Tryz.prog 71 3 6 := Fld.of (f := 3) Tryz.underlying71 rfl ty63 rfl
instance fld71_4 : Fld Tryz.prog 71 4 7 := Fld.of (f := 4) Tryz.underlying71 rfl ty4 rfl
instance fld71_5 : Fld Tryz.prog 71 5 8 := Fld.of (f := 5) Tryz.underlying71 rfl ty69 rfl
instance fld73_0 : Fld Tryz.prog 73 0 0 := Fld.of (f := 0) Tryz.underlying73 rfl ty3 rfl
instance fld73_1 : Fld Tryz.prog 73 1 1 := Fld.of (f := 1) Tryz.underlying73 rfl ty22 rfl
instance fld73_2 : Fld Tryz.prog 73 2 2 := Fld.of (f := 2) Tryz.underlying73 rfl ty35 rfl
instance fld80_0 : Fld Tryz.prog 80 0 0 := Fld.of (f := 0) Tryz.underlying80 rfl ty9 rfl
instance fld80_1 : Fld Tryz.prog 80 1 1 := Fld.of (f := 1) Tryz.underlying80 rfl ty60 rfl
instance fld80_2 : Fld Tryz.prog 80 2 5 := Fld.of (f := 2) Tryz.underlying80 rfl ty3 rfl
instance fld80_3 : Fld Tryz.prog 80 3 6 := Fld.of (f := 3) Tryz.underlying80 rfl ty61 rfl
instance fld80_4 : Fld Tryz.prog 80 4 7 := Fld.of (f := 4) Tryz.underlying80 rfl ty9 rfl
instance fld83_0 : Fld Tryz.prog 83 0 0 := Fld.of (f := 0) Tryz.underlying83 rfl ty9 rfl
instance fld83_1 : Fld Tryz.prog 83 1 1 := Fld.of (f := 1) Tryz.underlying83 rfl ty60 rfl
instance fld85_0 : Fld Tryz.prog 85 0 0 := Fld.of (f := 0) Tryz.underlying85 rfl ty9 rfl
instance fld85_1 : Fld Tryz.prog 85 1 1 := Fld.of (f := 1) Tryz.underlying85 rfl ty4 rfl
instance fld85_2 : Fld Tryz.prog 85 2 2 := Fld.of (f := 2) Tryz.underlying85 rfl ty67 rfl
instance fld87_0 : Fld Tryz.prog 87 0 0 := Fld.of (f := 0) Tryz.underlying87 rfl ty3 rfl
instance fld87_1 : Fld Tryz.prog 87 1 1 := Fld.of (f := 1) Tryz.underlying87 rfl ty9 rfl
instance fld87_2 : Fld Tryz.prog 87 2 2 := Fld.of (f := 2) Tryz.underlying87 rfl ty61 rfl
instance fld87_3 : Fld Tryz.prog 87 3 3 := Fld.of (f := 3) Tryz.underlying87 rfl ty62 rfl
instance fld104_0 : Fld Tryz.prog 104 0 0 := Fld.of (f := 0) Tryz.underlying104 rfl ty101 rfl
instance fld104_1 : Fld Tryz.prog 104 1 1 := Fld.of (f := 1) Tryz.underlying104 rfl ty102 rfl
instance fld175_0 : Fld Tryz.prog 175 0 0 := Fld.of (f := 0) Tryz.underlying175 rfl ty9 rfl
instance fld175_1 : Fld Tryz.prog 175 1 1 := Fld.of (f := 1) Tryz.underlying175 rfl ty9 rfl
instance fld207_0 : Fld Tryz.prog 207 0 0 := Fld.of (f := 0) Tryz.underlying207 rfl ty3 rfl
instance fld207_1 : Fld Tryz.prog 207 1 1 := Fld.of (f := 1) Tryz.underlying207 rfl ty3 rfl
instance sl22 : Sl Tryz.prog 22 3 1 8 (.int .i64 0) := Sl.of Tryz.underlying22 info3 rfl rfl rfl
instance sl25 : Sl Tryz.prog 25 85 3 48 (.agg #[.string ⟨#[]⟩, .bool false, .slice none 0 0]) := Sl.of Tryz.underlying25 jj rfl rfl rfl
instance sl26 : Sl Tryz.prog 26 80 8 104 (.agg #[.string ⟨#[]⟩, .int .i64 0, .string ⟨#[]⟩, .int .i64 0, .slice none 0 0, .int .i64 0, .int .u16 0, .string ⟨#[]⟩]) := Sl.of Tryz.underlying26 jh rfl rfl rfl
instance sl27 : Sl Tryz.prog 27 71 10 144 (.agg #[.string ⟨#[]⟩, .slice none 0 0, .int .i64 0, .string ⟨#[]⟩, .int .i64 0, .slice none 0 0, .slice none 0 0, .bool false, .int .i64 0, .int .u16 0]) := Sl.of Tryz.underlying27 jf rfl rfl rfl
instance sl33 : Sl Tryz.prog 33 35 2 40 (.agg #[.string ⟨#[]⟩, .slice none 0 0]) := Sl.of Tryz.underlying33 jc rfl rfl rfl
instance sl37 : Sl Tryz.prog 37 73 4 72 (.agg #[.int .i64 0, .slice none 0 0, .string ⟨#[]⟩, .slice none 0 0]) := Sl.of Tryz.underlying37 jg rfl rfl rfl
instance sl53 : Sl Tryz.prog 53 5 1 1 (.int .u8 0) := Sl.of Tryz.underlying53 info5 rfl rfl rfl
instance sl58 : Sl Tryz.prog 58 60 4 56 (.agg #[.int .i64 0, .string ⟨#[]⟩, .int .i64 0, .slice none 0 0]) := Sl.of Tryz.underlying58 jd rfl rfl rfl
instance sl62 : Sl Tryz.prog 62 87 4 56 (.agg #[.int .i64 0, .string ⟨#[]⟩, .int .u16 0, .slice none 0 0]) := Sl.of Tryz.underlying62 jm rfl rfl rfl
instance sl63 : Sl Tryz.prog 63 66 11 184 (.agg #[.int .i64 0, .string ⟨#[]⟩, .int .i64 0, .string ⟨#[]⟩, .int .i64 0, .slice none 0 0, .int .u16 0, .slice none 0 0, .slice none 0 0, .slice none 0 0, .slice none 0 0]) := Sl.of Tryz.underlying63 je rfl rfl rfl
instance sl64 : Sl Tryz.prog 64 63 1 24 (.slice none 0 0) := Sl.of Tryz.underlying64 lw rfl rfl rfl
instance sl67 : Sl Tryz.prog 67 83 5 72 (.agg #[.string ⟨#[]⟩, .int .i64 0, .string ⟨#[]⟩, .int .i64 0, .slice none 0 0]) := Sl.of Tryz.underlying67 ji rfl rfl rfl
instance sl81 : Sl Tryz.prog 81 9 1 16 (.string ⟨#[]⟩) := Sl.of Tryz.underlying81 info9 rfl rfl rfl
instance zr1 : Zr Tryz.prog 1 #[.nilFunc] := ⟨_, _, info1, rfl, rfl⟩
instance zr2 : Zr Tryz.prog 2 #[.int .i64 0] := ⟨_, _, info2, rfl, rfl⟩
instance zr3 : Zr Tryz.prog 3 #[.int .i64 0] := ⟨_, _, info3, rfl, rfl⟩
instance zr4 : Zr Tryz.prog 4 #[.bool false] := ⟨_, _, info4, rfl, rfl⟩
instance zr5 : Zr Tryz.prog 5 #[.int .u8 0] := ⟨_, _, info5, rfl, rfl⟩
instance zr6 : Zr Tryz.prog 6 #[.int .u8 0] := ⟨_, _, info6, rfl, rfl⟩
instance zr7 : Zr Tryz.prog 7 #[.int .i64 0, .int .i64 0, .bool false, .int .u8 0] := ⟨_, _, info7, rfl, rfl⟩
instance str7 : Str Tryz.prog 7 [(0, 1), (1, 1), (2, 1), (3, 1)] #[.int .i64 0, .int .i64 0, .bool false, .int .u8 0] := Str.of Tryz.underlying7 info7 rfl rfl (by kernel_rfl) (by kernel_rfl)
instance zr9 : Zr Tryz.prog 9 #[.string ⟨#[]⟩] := ⟨_, _, info9, rfl, rfl⟩
instance zr20 : Zr Tryz.prog 20 #[.nilIface] := ⟨_, _, info20, rfl, rfl⟩
instance zr22 : Zr Tryz.prog 22 #[.slice none 0 0] := ⟨_, _, info22, rfl, rfl⟩
instance zr23 : Zr Tryz.prog 23 #[.int .i64 0, .int .i64 0, .int .i64 0] := ⟨_, _, info23, rfl, rfl⟩
instance zr25 : Zr Tryz.prog 25 #[.slice none 0 0] := ⟨_, _, info25, rfl, rfl⟩
instance zr26 : Zr Tryz.prog 26 #[.slice none 0 0] := ⟨_, _, info26, rfl, rfl⟩
instance zr27 : Zr Tryz.prog 27 #[.slice none 0 0] := ⟨_, _, info27, rfl, rfl⟩
instance zr29 : Zr Tryz.prog 29 #[.slice none 0 0, .slice none 0 0, .slice none 0 0] := ⟨_, _, lv, rfl, rfl⟩
instance str29 : Str Tryz.prog 29 [(0, 1), (1, 1), (2, 1)] #[.slice none 0 0, .slice none 0 0, .slice none 0 0] := Str.of Tryz.underlying29 lv rfl rfl (by kernel_rfl) (by kernel_rfl)
instance zr33 : Zr Tryz.prog 33 #[.slice none 0 0] := ⟨_, _, info33, rfl, rfl⟩
instance zr35 : Zr Tryz.prog 35 #[.string ⟨#[]⟩, .slice none 0 0] := ⟨_, _, jc, rfl, rfl⟩
instance str35 : Str Tryz.prog 35 [(0, 1), (1, 1)] #[.string ⟨#[]⟩, .slice none 0 0] := Str.of Tryz.underlying35 jc rfl rfl (by kernel_rfl) (by kernel_rfl)
instance zr37 : Zr Tryz.prog 37 #[.slice none 0 0] := ⟨_, _, info37, rfl, rfl⟩
instance zr39 : Zr Tryz.prog 39 #[.int .i64 0] := ⟨_, _, info39, rfl, rfl⟩
instance zr53 : Zr Tryz.prog 53 #[.slice none 0 0] := ⟨_, _, info53, rfl, rfl⟩
instance zr58 : Zr Tryz.prog 58 #[.slice none 0 0] := ⟨_, _, info58, rfl, rfl⟩
instance zr60 : Zr Tryz.prog 60 #[.int .i64 0, .string ⟨#[]⟩, .int .i64 0, .slice none 0 0] := ⟨_, _, jd, rfl, rfl⟩
instance str60 : Str Tryz.prog 60 [(0, 1), (1, 1), (2, 1), (3, 1)] #[.int .i64 0, .string ⟨#[]⟩, .int .i64 0, .slice none 0 0] := Str.of Tryz.underlying60 jd rfl rfl (by kernel_rfl) (by kernel_rfl)
instance zr61 : Zr Tryz.prog 61 #[.int .u16 0] := ⟨_, _, info61, rfl, rfl⟩
instance zr62 : Zr Tryz.prog 62 #[.slice none 0 0] := ⟨_, _, info62, rfl, rfl⟩
instance zr63 : Zr Tryz.prog 63 #[.slice none 0 0] := ⟨_, _, lw, rfl, rfl⟩
instance zr64 : Zr Tryz.prog 64 #[.slice none 0 0] := ⟨_, _, info64, rfl, rfl⟩
instance zr66 : Zr Tryz.prog 66 #[.int .i64 0, .string ⟨#[]⟩, .int .i64 0, .string ⟨#[]⟩, .int .i64 0, .slice none 0 0, .int .u16 0, .slice none 0 0, .slice none 0 0, .slice none 0 0, .slice none 0 0] := ⟨_, _, je, rfl, rfl⟩
instance str66 : Str Tryz.prog 66 [(0, 1), (1, 1), (2, 4), (6, 1), (7, 1), (8, 1), (9, 1), (10, 1)] #[.int .i64 0, .string ⟨#[]⟩, .int .i64 0, .string ⟨#[]⟩, .int .i64 0, .slice none 0 0, .int .u16 0, .slice none 0 0, .slice none 0 0, .slice none 0 0, .slice none 0 0] := Str.of Tryz.underlying66 je rfl rfl (by kernel_rfl) (by kernel_rfl)
instance zr67 : Zr Tryz.prog 67 #[.slice none 0 0] := ⟨_, _, info67, rfl, rfl⟩
instance zr69 : Zr Tryz.prog 69 #[.int .i64 0, .int .u16 0] := ⟨_, _, ly, rfl, rfl⟩
instance str69 : Str Tryz.prog 69 [(0, 1), (1, 1)] #[.int .i64 0, .int .u16 0] := Str.of Tryz.underlying69 ly rfl rfl (by kernel_rfl) (by kernel_rfl)
instance zr71 : Zr Tryz.prog 71 #[.string ⟨#[]⟩, .slice none 0 0, .int .i64 0, .string ⟨#[]⟩, .int .i64 0, .slice none 0 0, .slice none 0 0, .bool false, .int .i64 0, .int .u16 0] := ⟨_, _, jf, rfl, rfl⟩
instance str71 : Str Tryz.prog 71 [(0, 1), (1, 1), (2, 4), (6, 1), (7, 1), (8, 2)] #[.string ⟨#[]⟩, .slice none 0 0, .int .i64 0, .string ⟨#[]⟩, .int .i64 0, .slice none 0 0, .slice none 0 0, .bool false, .int .i64 0, .int .u16 0] := Str.of Tryz.underlying71 jf rfl rfl (by kernel_rfl) (by kernel_rfl)
instance zr73 : Zr Tryz.prog 73 #[.int .i64 0, .slice none 0 0, .string ⟨#[]⟩, .slice none 0 0] := ⟨_, _, jg, rfl, rfl⟩
instance str73 : Str Tryz.prog 73 [(0, 1), (1, 1), (2, 2)] #[.int .i64 0, .slice none 0 0, .string ⟨#[]⟩, .slice none 0 0] := Str.of Tryz.underlying73 jg rfl rfl (by kernel_rfl) (by kernel_rfl)
instance zr80 : Zr Tryz.prog 80 #[.string ⟨#[]⟩, .int .i64 0, .string ⟨#[]⟩, .int .i64 0, .slice none 0 0, .int .i64 0, .int .u16 0, .string ⟨#[]⟩] := ⟨_, _, jh, rfl, rfl⟩
instance str80 : Str Tryz.prog 80 [(0, 1), (1, 4), (5, 1), (6, 1), (7, 1)] #[.string ⟨#[]⟩, .int .i64 0, .string ⟨#[]⟩, .int .i64 0, .slice none 0 0, .int .i64 0, .int .u16 0, .string ⟨#[]⟩] := Str.of Tryz.underlying80 jh rfl rfl (by kernel_rfl) (by kernel_rfl)
instance zr81 : Zr Tryz.prog 81 #[.slice none 0 0] := ⟨_, _, info81, rfl, rfl⟩
instance zr83 : Zr Tryz.prog 83 #[.string ⟨#[]⟩, .int .i64 0, .string ⟨#[]⟩, .int .i64 0, .slice none 0 0] := ⟨_, _, ji, rfl, rfl⟩
instance str83 : Str Tryz.prog 83 [(0, 1), (1, 4)] #[.string ⟨#[]⟩, .int .i64 0, .string ⟨#[]⟩, .int .i64 0, .slice none 0 0] := Str.of Tryz.underlying83 ji rfl rfl (by kernel_rfl) (by kernel_rfl)
instance zr85 : Zr Tryz.prog 85 #[.string ⟨#[]⟩, .bool false, .slice none 0 0] := ⟨_, _, jj, rfl, rfl⟩
instance str85 : Str Tryz.prog 85 [(0, 1), (1, 1), (2, 1)] #[.string ⟨#[]⟩, .bool false, .slice none 0 0] := Str.of Tryz.underlying85 jj rfl rfl (by kernel_rfl) (by kernel_rfl)
instance zr87 : Zr Tryz.prog 87 #[.int .i64 0, .string ⟨#[]⟩, .int .u16 0, .slice none 0 0] := ⟨_, _, jm, rfl, rfl⟩
instance str87 : Str Tryz.prog 87 [(0, 1), (1, 1), (2, 1), (3, 1)] #[.int .i64 0, .string ⟨#[]⟩, .int .u16 0, .slice none 0 0] := Str.of Tryz.underlying87 jm rfl rfl (by kernel_rfl) (by kernel_rfl)
instance zr100 : Zr Tryz.prog 100 #[.pointer none] := ⟨_, _, lz, rfl, rfl⟩
instance zr101 : Zr Tryz.prog 101 #[.map none] := ⟨_, _, lC, rfl, rfl⟩
instance zr102 : Zr Tryz.prog 102 #[.map none] := ⟨_, _, lD, rfl, rfl⟩
instance zr104 : Zr Tryz.prog 104 #[.map none, .map none] := ⟨_, _, iH, rfl, rfl⟩
instance str104 : Str Tryz.prog 104 [(0, 1), (1, 1)] #[.map none, .map none] := Str.of Tryz.underlying104 iH rfl rfl (by kernel_rfl) (by kernel_rfl)
instance zr106 : Zr Tryz.prog 106 #[.pointer none] := ⟨_, _, lF, rfl, rfl⟩
instance zr111 : Zr Tryz.prog 111 #[.pointer none] := ⟨_, _, lG, rfl, rfl⟩
instance zr175 : Zr Tryz.prog 175 #[.string ⟨#[]⟩, .string ⟨#[]⟩] := ⟨_, _, iI, rfl, rfl⟩
instance str175 : Str Tryz.prog 175 [(0, 1), (1, 1)] #[.string ⟨#[]⟩, .string ⟨#[]⟩] := Str.of Tryz.underlying175 iI rfl rfl (by kernel_rfl) (by kernel_rfl)
instance zr203 : Zr Tryz.prog 203 #[.int .u64 0] := ⟨_, _, lI, rfl, rfl⟩
instance zr207 : Zr Tryz.prog 207 #[.int .i64 0, .int .i64 0] := ⟨_, _, iJ, rfl, rfl⟩
instance str207 : Str Tryz.prog 207 [(0, 1), (1, 1)] #[.int .i64 0, .int .i64 0] := Str.of Tryz.underlying207 iJ rfl rfl (by kernel_rfl) (by kernel_rfl)
instance zr261 : Zr Tryz.prog 261 #[.int .u8 0, .int .u8 0, .int .u8 0, .int .u8 0, .int .u8 0, .int .u8 0, .int .u8 0, .int .u8 0, .int .u8 0, .int .u8 0, .int .u8 0, .int .u8 0, .int .u8 0, .int .u8 0, .int .u8 0, .int .u8 0, .int .u8 0, .int .u8 0, .int .u8 0, .int .u8 0, .int .u8 0, .int .u8 0, .int .u8 0, .int .u8 0] := ⟨_, _, lJ, rfl, rfl⟩
instance zr262 : Zr Tryz.prog 262 #[.int .u64 0] := ⟨_, _, lK, rfl, rfl⟩
instance zr278 : Zr Tryz.prog 278 #[.int .u64 0, .int .u64 0, .int .u64 0, .int .u64 0, .int .u64 0, .int .u64 0, .int .u64 0, .int .u64 0, .int .u64 0, .int .u64 0, .int .u64 0, .int .u64 0, .int .u64 0, .int .u64 0, .int .u64 0, .int .u64 0, .int .u64 0, .int .u64 0, .int .u64 0, .int .u64 0] := ⟨_, _, lL, rfl, rfl⟩
instance zr279 : Zr Tryz.prog 279 #[.int .u32 0] := ⟨_, _, lM, rfl, rfl⟩
instance zr280 : Zr Tryz.prog 280 #[.int .u8 0, .int .u8 0, .int .u8 0, .int .u8 0, .int .u8 0, .int .u8 0, .int .u8 0, .int .u8 0, .int .u8 0, .int .u8 0, .int .u8 0, .int .u8 0, .int .u8 0, .int .u8 0, .int .u8 0, .int .u8 0, .int .u8 0, .int .u8 0, .int .u8 0, .int .u8 0, .int .u8 0, .int .u8 0, .int .u8 0, .int .u8 0, .int .u8 0, .int .u8 0, .int .u8 0, .int .u8 0, .int .u8 0, .int .u8 0, .int .u8 0, .int .u8 0, .int .u8 0, .int .u8 0, .int .u8 0, .int .u8 0, .int .u8 0, .int .u8 0, .int .u8 0, .int .u8 0, .int .u8 0, .int .u8 0, .int .u8 0, .int .u8 0, .int .u8 0, .int .u8 0, .int .u8 0, .int .u8 0, .int .u8 0, .int .u8 0, .int .u8 0, .int .u8 0, .int .u8 0, .int .u8 0, .int .u8 0, .int .u8 0, .int .u8 0, .int .u8 0, .int .u8 0, .int .u8 0, .int .u8 0, .int .u8 0, .int .u8 0, .int .u8 0, .int .u8 0] := ⟨_, _, lO, rfl, rfl⟩
instance zr295 : Zr Tryz.prog 295 #[.int .u8 0, .int .u8 0, .int .u8 0, .int .u8 0, .int .u8 0, .int .u8 0, .int .u8 0, .int .u8 0, .int .u8 0, .int .u8 0, .int .u8 0, .int .u8 0, .int .u8 0, .int .u8 0, .int .u8 0, .int .u8 0, .int .u8 0, .int .u8 0, .int .u8 0, .int .u8 0, .int .u8 0, .int .u8 0, .int .u8 0, .int .u8 0, .int .u8 0, .int .u8 0, .int .u8 0, .int .u8 0, .int .u8 0, .int .u8 0, .int .u8 0, .int .u8 0] := ⟨_, _, lP, rfl, rfl⟩
instance zr296 : Zr Tryz.prog 296 #[.int .u8 0, .int .u8 0, .int .u8 0, .int .u8 0, .int .u8 0, .int .u8 0, .int .u8 0, .int .u8 0, .int .u8 0, .int .u8 0, .int .u8 0, .int .u8 0, .int .u8 0, .int .u8 0, .int .u8 0, .int .u8 0, .int .u8 0, .int .u8 0, .int .u8 0, .int .u8 0, .int .u8 0, .int .u8 0, .int .u8 0, .int .u8 0, .int .u8 0, .int .u8 0, .int .u8 0, .int .u8 0, .int .u8 0, .int .u8 0, .int .u8 0, .int .u8 0, .int .u8 0, .int .u8 0, .int .u8 0, .int .u8 0, .int .u8 0, .int .u8 0, .int .u8 0, .int .u8 0, .int .u8 0, .int .u8 0, .int .u8 0, .int .u8 0, .int .u8 0, .int .u8 0, .int .u8 0, .int .u8 0, .int .u8 0, .int .u8 0, .int .u8 0, .int .u8 0, .int .u8 0, .int .u8 0, .int .u8 0, .int .u8 0, .int .u8 0, .int .u8 0, .int .u8 0, .int .u8 0, .int .u8 0, .int .u8 0, .int .u8 0, .int .u8 0] := ⟨_, _, lQ, rfl, rfl⟩
instance call4 : Callable Tryz.prog 4 := Callable.of Tryz.func4 (by decide) rfl
instance call8 : Callable Tryz.prog 8 := Callable.of Tryz.func8 (by decide) rfl
instance call9 : Callable Tryz.prog 9 := Callable.of Tryz.func9 (by decide) rfl
instance call10 : Callable Tryz.prog 10 := Callable.of Tryz.func10 (by decide) rfl
instance call12 : Callable Tryz.prog 12 := Callable.of Tryz.func12 (by decide) rfl
instance call13 : Callable Tryz.prog 13 := Callable.of Tryz.func13 (by decide) rfl
instance call14 : Callable Tryz.prog 14 := Callable.of Tryz.func14 (by decide) rfl
instance call16 : Callable Tryz.prog 16 := Callable.of Tryz.func16 (by decide) rfl
instance call18 : Callable Tryz.prog 18 := Callable.of Tryz.func18 (by decide) rfl
instance call19 : Callable Tryz.prog 19 := Callable.of Tryz.func19 (by decide) rfl
instance call22 : Callable Tryz.prog 22 := Callable.of Tryz.func22 (by decide) rfl
instance call23 : Callable Tryz.prog 23 := Callable.of Tryz.func23 (by decide) rfl
instance call25 : Callable Tryz.prog 25 := Callable.of Tryz.func25 (by decide) rfl
instance call26 : Callable Tryz.prog 26 := Callable.of Tryz.func26 (by decide) rfl
instance call27 : Callable Tryz.prog 27 := Callable.of Tryz.func27 (by decide) rfl
instance call40 : Callable Tryz.prog 40 := Callable.of Tryz.func40 (by decide) rfl
instance call41 : Callable Tryz.prog 41 := Callable.of Tryz.func41 (by decide) rfl
instance call42 : Callable Tryz.prog 42 := Callable.of Tryz.func42 (by decide) rfl
instance call43 : Callable Tryz.prog 43 := Callable.of Tryz.func43 (by decide) rfl
instance call54 : Callable Tryz.prog 54 := Callable.of Tryz.func54 (by decide) rfl
instance call72 : Callable Tryz.prog 72 := Callable.of Tryz.func72 (by decide) rfl
instance call88 : Callable Tryz.prog 88 := Callable.of Tryz.func88 (by decide) rfl
instance call115 : Callable Tryz.prog 115 := Callable.of Tryz.func115 (by decide) rfl
instance call140 : Callable Tryz.prog 140 := Callable.of Tryz.func140 (by decide) rfl
instance call173 : Callable Tryz.prog 173 := Callable.of Tryz.func173 (by decide) rfl
instance call196 : Callable Tryz.prog 196 := Callable.of Tryz.func196 (by decide) rfl
instance call213 : Callable Tryz.prog 213 := Callable.of Tryz.func213 (by decide) rfl
instance call214 : Callable Tryz.prog 214 := Callable.of Tryz.func214 (by decide) rfl
instance call215 : Callable Tryz.prog 215 := Callable.of Tryz.func215 (by decide) rfl
instance call216 : Callable Tryz.prog 216 := Callable.of Tryz.func216 (by decide) rfl
instance call229 : Callable Tryz.prog 229 := Callable.of Tryz.func229 (by decide) rfl
instance call230 : Callable Tryz.prog 230 := Callable.of Tryz.func230 (by decide) rfl
instance call231 : Callable Tryz.prog 231 := Callable.of Tryz.func231 (by decide) rfl
instance call232 : Callable Tryz.prog 232 := Callable.of Tryz.func232 (by decide) rfl
instance call233 : Callable Tryz.prog 233 := Callable.of Tryz.func233 (by decide) rfl
instance call238 : Callable Tryz.prog 238 := Callable.of Tryz.func238 (by decide) rfl
instance call239 : Callable Tryz.prog 239 := Callable.of Tryz.func239 (by decide) rfl
abbrev Path := List Nat
inductive Fate where
  | kept
  | chg (t : Tr)
  | del
def Tr.zero : Tr := .node ⟨#[]⟩ []
section
variable {f : Tr → Tr → Tr → Path → Tr × List Path} {b : Tr} {l r : Fate} {p : Path}
end
structure Al where
  F : List Fate
  I : List (List Tr)
set_option linter.unusedVariables false in
theorem ai : Tryz.prog.follows .mixedOrders = true := by kernel_rfl
end Go.Proofs.YtlmahofogapkgaaGreatDoor.K
