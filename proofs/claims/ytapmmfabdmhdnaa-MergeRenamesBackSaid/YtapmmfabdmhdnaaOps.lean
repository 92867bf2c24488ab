/-
  The operations of the model under the judgement of Core: one lemma an operation.
  Everything here is a lemma over an arbitrary program P; no condition beyond those typed.
-/
import Derived.Test.YtapmmfabdmhdnaaCore
import Derived.IntWalk
import Derived.WideShapes
import Derived.Laws.Strings
set_option linter.unusedVariables false
set_option linter.unusedSimpArgs false
namespace Go.Proofs.Ytapmmfabdmhdnaa.K
open Go Go.RowKit

/-- What loads and stores ask of a type: is it a struct or an array; its cells. -/
class Ty (P : Program) (t : TypeId) (agg : outParam Bool) (n : outParam Nat) : Prop where
  isAgg : ∀ w, (isAgg t).run P w = .ok agg w
  size : ∀ w, (sizeOf t).run P w = .ok n w

def descAgg : TypeDesc → Bool
  | .struct _ | .array _ _ => true
  | _ => false

theorem Ty.of {P : Program} {t : TypeId} {d : TypeDesc} {i : TypeInfo} (hu : P.underlying t = some d) (hi : P.info? t = some i) : Ty P t (descAgg d) i.size := by
  refine ⟨fun w => ?_, fun w => ?_⟩
  · simp only [Go.isAgg, Sem.run_bind, run_underlying hu, Result.andThen_ok]
    cases d <;> rfl
  · simp [sizeOf, typeInfo, hi]

/-- A type's shape; its row in the table. -/
class Und (P : Program) (t : TypeId) (d : outParam TypeDesc) : Prop where
  eq : P.underlying t = some d
class Inf (P : Program) (t : TypeId) (i : outParam TypeInfo) : Prop where
  eq : P.info? t = some i

/-- A field of a struct type: its place. -/
class Fld (P : Program) (s : TypeId) (f : Nat) (off : outParam Nat) : Prop where
  ex : ∃ fs fl agg n, P.underlying s = some (.struct fs) ∧ fs[f]? = some fl ∧ fl.offset = off ∧ Ty P fl.type agg n ∧ n ≠ 0
theorem Fld.of {P : Program} {s : TypeId} {f : Nat} {fs : Array Field} {fl : Field} {agg : Bool} {n : Nat} (h : P.underlying s = some (.struct fs)) (hf : fs[f]? = some fl) (ht : Ty P fl.type agg n) (hn : Nat.beq n 0 = false) : Fld P s f fl.offset :=
  ⟨fs, fl, agg, n, h, hf, rfl, ht, Nat.ne_of_beq_eq_false hn⟩

/-- A slice type: its element's type, cells, bytes and zero. -/
class Sl (P : Program) (t : TypeId) (e : outParam TypeId) (sz by_ : outParam Nat) (z : outParam Value) : Prop where
  und : P.underlying t = some (.slice e)
  ex : ∃ i, P.info? e = some i ∧ i.zero = some z ∧ i.size = sz ∧ i.bytes = by_
  zs : z.cells.size = sz
  pos : 0 < sz
theorem Sl.of {P : Program} {t e : TypeId} {i : TypeInfo} {z : Value} (h : P.underlying t = some (.slice e)) (hi : P.info? e = some i) (hz : i.zero = some z) (hs : z.cells.size = i.size) (hp : Nat.blt 0 i.size = true) : Sl P t e i.size i.bytes z :=
  ⟨h, ⟨i, hi, hz, rfl, rfl⟩, hs, by simpa [Nat.blt_eq] using hp⟩
theorem Sl.sizeOf {P : Program} {t e : TypeId} {sz b : Nat} {z : Value} (h : Sl P t e sz b z) (w : World) : (Go.sizeOf e).run P w = .ok sz w := by
  obtain ⟨i, hi, _, hs, _⟩ := h.ex
  simp [Go.sizeOf, typeInfo, hi, hs]

/-- The int64 range. -/
abbrev I64 (n : Int) : Prop := -9223372036854775808 ≤ n ∧ n ≤ 9223372036854775807
theorem wrap_i64 {n : Int} (h : I64 n) : IntKind.i64.wrap n = n := IntWalk.i64_in _ h

section ops
variable {P : Program} {w0 : World} {N : Nat} {Q : Exit → Act → World → Prop} {env : Env} {own : List Seg} {H : Hp} {ops : Array Oper} {rest : List Oper}
variable {d : Option Tmp} {ty : TypeId} {pos : String} {af : Array Edge}

theorem TL.val0 {op : Op} {v : Value} (hd : okD N d = true) (hrun : ∀ a, At N env a → ∀ w, (execOp a.eval { dst := d, op := op, type := ty, pos := pos, after := af, guard := none }).run P w = .ok (.value v) w)
    (h : TL P w0 N Q ops rest (putE d v env) own H) : TL P w0 N Q ops ({ dst := d, op := op, type := ty, pos := pos, after := af, guard := none } :: rest) env own H :=
  TL.val rfl hd (fun a w ha hw => ⟨w, hrun a ha w, hw⟩) h

theorem TL.move {x : Operand} {v : Value} (hx : ev env x = some v) (hd : okD N d = true) (h : TL P w0 N Q ops rest (putE d v env) own H) :
    TL P w0 N Q ops ({ dst := d, op := .move x, type := ty, pos := pos, after := af, guard := none } :: rest) env own H :=
  TL.val0 hd (fun a ha w => by simp [execOp, ha.ev hx]) h
theorem TL.assign {x : Operand} {v : Value} (hx : ev env x = some v) (hd : okD N d = true) (h : TL P w0 N Q ops rest (putE d v env) own H) :
    TL P w0 N Q ops ({ dst := d, op := .assign x, type := ty, pos := pos, after := af, guard := none } :: rest) env own H :=
  TL.val0 hd (fun a ha w => by simp [execOp, ha.ev hx]) h
theorem TL.pick {c x y : Operand} {b : Bool} {u v : Value} (hc : ev env c = some (.bool b)) (hx : ev env x = some u) (hy : ev env y = some v) (hd : okD N d = true)
    (h : TL P w0 N Q ops rest (putE d (if b then u else v) env) own H) :
    TL P w0 N Q ops ({ dst := d, op := .pick c x y, type := ty, pos := pos, after := af, guard := none } :: rest) env own H :=
  TL.val0 hd (fun a ha w => by simp [execOp, ha.ev hc, ha.ev hx, ha.ev hy, asBool]) h

/-! integers -/
theorem TL.add {x y : Operand} {tx t' : TypeId} {m n : Int} (hx : ev env x = some (.int .i64 m)) (hy : ev env y = some (.int .i64 n)) (hd : okD N d = true) (hr : I64 (m + n))
    (h : TL P w0 N Q ops rest (putE d (.int .i64 (m + n)) env) own H) :
    TL P w0 N Q ops ({ dst := d, op := .binOp .add tx x y t', type := ty, pos := pos, after := af, guard := none } :: rest) env own H :=
  TL.val0 hd (fun a ha w => by simp [execOp, eqGuard, binOp, Op.intArith, ha.ev hx, ha.ev hy, wrap_i64 hr]) h
theorem TL.sub {x y : Operand} {tx t' : TypeId} {m n : Int} (hx : ev env x = some (.int .i64 m)) (hy : ev env y = some (.int .i64 n)) (hd : okD N d = true) (hr : I64 (m - n))
    (h : TL P w0 N Q ops rest (putE d (.int .i64 (m - n)) env) own H) :
    TL P w0 N Q ops ({ dst := d, op := .binOp .sub tx x y t', type := ty, pos := pos, after := af, guard := none } :: rest) env own H :=
  TL.val0 hd (fun a ha w => by simp [execOp, eqGuard, binOp, Op.intArith, ha.ev hx, ha.ev hy, wrap_i64 hr]) h
theorem TL.mul {x y : Operand} {tx t' : TypeId} {m n : Int} (hx : ev env x = some (.int .i64 m)) (hy : ev env y = some (.int .i64 n)) (hd : okD N d = true) (hr : I64 (m * n))
    (h : TL P w0 N Q ops rest (putE d (.int .i64 (m * n)) env) own H) :
    TL P w0 N Q ops ({ dst := d, op := .binOp .mul tx x y t', type := ty, pos := pos, after := af, guard := none } :: rest) env own H :=
  TL.val0 hd (fun a ha w => by simp [execOp, eqGuard, binOp, Op.intArith, ha.ev hx, ha.ev hy, wrap_i64 hr]) h
/-- Sums, differences, products of any kind: wrapped. -/
theorem TL.addW {x y : Operand} {tx t' : TypeId} {k : IntKind} {m n : Int} (hx : ev env x = some (.int k m)) (hy : ev env y = some (.int k n)) (hd : okD N d = true)
    (h : TL P w0 N Q ops rest (putE d (.int k (k.wrap (m + n))) env) own H) :
    TL P w0 N Q ops ({ dst := d, op := .binOp .add tx x y t', type := ty, pos := pos, after := af, guard := none } :: rest) env own H :=
  TL.val0 hd (fun a ha w => by simp [execOp, eqGuard, binOp, Op.intArith, ha.ev hx, ha.ev hy]) h
theorem TL.subW {x y : Operand} {tx t' : TypeId} {k : IntKind} {m n : Int} (hx : ev env x = some (.int k m)) (hy : ev env y = some (.int k n)) (hd : okD N d = true)
    (h : TL P w0 N Q ops rest (putE d (.int k (k.wrap (m - n))) env) own H) :
    TL P w0 N Q ops ({ dst := d, op := .binOp .sub tx x y t', type := ty, pos := pos, after := af, guard := none } :: rest) env own H :=
  TL.val0 hd (fun a ha w => by simp [execOp, eqGuard, binOp, Op.intArith, ha.ev hx, ha.ev hy]) h
theorem TL.mulW {x y : Operand} {tx t' : TypeId} {k : IntKind} {m n : Int} (hx : ev env x = some (.int k m)) (hy : ev env y = some (.int k n)) (hd : okD N d = true)
    (h : TL P w0 N Q ops rest (putE d (.int k (k.wrap (m * n))) env) own H) :
    TL P w0 N Q ops ({ dst := d, op := .binOp .mul tx x y t', type := ty, pos := pos, after := af, guard := none } :: rest) env own H :=
  TL.val0 hd (fun a ha w => by simp [execOp, eqGuard, binOp, Op.intArith, ha.ev hx, ha.ev hy]) h
theorem TL.quo {x y : Operand} {tx t' : TypeId} {k : IntKind} {m n : Int} (hx : ev env x = some (.int k m)) (hy : ev env y = some (.int k n)) (hd : okD N d = true) (hn : n ≠ 0)
    (h : TL P w0 N Q ops rest (putE d (.int k (k.wrap (m.tdiv n))) env) own H) :
    TL P w0 N Q ops ({ dst := d, op := .binOp .quo tx x y t', type := ty, pos := pos, after := af, guard := none } :: rest) env own H :=
  TL.val0 hd (fun a ha w => by simp [execOp, eqGuard, binOp, Op.intDiv, ha.ev hx, ha.ev hy, hn]) h
theorem TL.rem {x y : Operand} {tx t' : TypeId} {k : IntKind} {m n : Int} (hx : ev env x = some (.int k m)) (hy : ev env y = some (.int k n)) (hd : okD N d = true) (hn : n ≠ 0)
    (h : TL P w0 N Q ops rest (putE d (.int k (m.tmod n)) env) own H) :
    TL P w0 N Q ops ({ dst := d, op := .binOp .rem tx x y t', type := ty, pos := pos, after := af, guard := none } :: rest) env own H :=
  TL.val0 hd (fun a ha w => by simp [execOp, eqGuard, binOp, Op.intDiv, ha.ev hx, ha.ev hy, hn]) h

theorem TL.lss {x y : Operand} {tx t' : TypeId} {k : IntKind} {m n : Int} (hx : ev env x = some (.int k m)) (hy : ev env y = some (.int k n)) (hd : okD N d = true)
    (h : TL P w0 N Q ops rest (putE d (.bool (decide (m < n))) env) own H) :
    TL P w0 N Q ops ({ dst := d, op := .binOp .lss tx x y t', type := ty, pos := pos, after := af, guard := none } :: rest) env own H :=
  TL.val0 hd (fun a ha w => by simp [execOp, eqGuard, binOp, Op.intCmp, ha.ev hx, ha.ev hy]) h
theorem TL.leq {x y : Operand} {tx t' : TypeId} {k : IntKind} {m n : Int} (hx : ev env x = some (.int k m)) (hy : ev env y = some (.int k n)) (hd : okD N d = true)
    (h : TL P w0 N Q ops rest (putE d (.bool (decide (m ≤ n))) env) own H) :
    TL P w0 N Q ops ({ dst := d, op := .binOp .leq tx x y t', type := ty, pos := pos, after := af, guard := none } :: rest) env own H :=
  TL.val0 hd (fun a ha w => by simp [execOp, eqGuard, binOp, Op.intCmp, ha.ev hx, ha.ev hy]) h
theorem TL.gtr {x y : Operand} {tx t' : TypeId} {k : IntKind} {m n : Int} (hx : ev env x = some (.int k m)) (hy : ev env y = some (.int k n)) (hd : okD N d = true)
    (h : TL P w0 N Q ops rest (putE d (.bool (decide (n < m))) env) own H) :
    TL P w0 N Q ops ({ dst := d, op := .binOp .gtr tx x y t', type := ty, pos := pos, after := af, guard := none } :: rest) env own H :=
  TL.val0 hd (fun a ha w => by simp [execOp, eqGuard, binOp, Op.intCmp, ha.ev hx, ha.ev hy]) h
theorem TL.geq {x y : Operand} {tx t' : TypeId} {k : IntKind} {m n : Int} (hx : ev env x = some (.int k m)) (hy : ev env y = some (.int k n)) (hd : okD N d = true)
    (h : TL P w0 N Q ops rest (putE d (.bool (decide (n ≤ m))) env) own H) :
    TL P w0 N Q ops ({ dst := d, op := .binOp .geq tx x y t', type := ty, pos := pos, after := af, guard := none } :: rest) env own H :=
  TL.val0 hd (fun a ha w => by simp [execOp, eqGuard, binOp, Op.intCmp, ha.ev hx, ha.ev hy]) h
theorem TL.eql {x y : Operand} {tx t' : TypeId} {k : IntKind} {m n : Int} (hx : ev env x = some (.int k m)) (hy : ev env y = some (.int k n)) (hd : okD N d = true)
    (h : TL P w0 N Q ops rest (putE d (.bool (decide (m = n))) env) own H) :
    TL P w0 N Q ops ({ dst := d, op := .binOp .eql tx x y t', type := ty, pos := pos, after := af, guard := none } :: rest) env own H :=
  TL.val0 hd (fun a ha w => by simp [execOp, eqGuard, binOp, Op.intCmp, ha.ev hx, ha.ev hy]; rfl) h
theorem TL.neq {x y : Operand} {tx t' : TypeId} {k : IntKind} {m n : Int} (hx : ev env x = some (.int k m)) (hy : ev env y = some (.int k n)) (hd : okD N d = true)
    (h : TL P w0 N Q ops rest (putE d (.bool (decide (m ≠ n))) env) own H) :
    TL P w0 N Q ops ({ dst := d, op := .binOp .neq tx x y t', type := ty, pos := pos, after := af, guard := none } :: rest) env own H :=
  TL.val0 hd (fun a ha w => by
    have e : (m != n) = decide (m ≠ n) := by rw [Bool.eq_iff_iff]; simp
    simp [execOp, eqGuard, binOp, Op.intCmp, ha.ev hx, ha.ev hy, e]) h

/-! strings -/
theorem toList_beq (s t : ByteArray) : (s.toList == t.toList) = decide (s = t) := by
  rw [Bool.eq_iff_iff]
  simp only [beq_iff_eq, decide_eq_true_eq, ByteArray.toList_eq]
  exact ⟨fun h => WideShapes.bytes_inj h, fun h => by rw [h]⟩
theorem TL.eqlS {x y : Operand} {tx t' : TypeId} {s t : ByteArray} (hx : ev env x = some (.string s)) (hy : ev env y = some (.string t)) (hd : okD N d = true)
    (h : TL P w0 N Q ops rest (putE d (.bool (decide (s = t))) env) own H) :
    TL P w0 N Q ops ({ dst := d, op := .binOp .eql tx x y t', type := ty, pos := pos, after := af, guard := none } :: rest) env own H :=
  TL.val0 hd (fun a ha w => by simp only [execOp, eqGuard, binOp, Op.stringOp, ha.ev hx, ha.ev hy, toList_beq]; rfl) h
theorem TL.neqS {x y : Operand} {tx t' : TypeId} {s t : ByteArray} (hx : ev env x = some (.string s)) (hy : ev env y = some (.string t)) (hd : okD N d = true)
    (h : TL P w0 N Q ops rest (putE d (.bool (decide (s ≠ t))) env) own H) :
    TL P w0 N Q ops ({ dst := d, op := .binOp .neq tx x y t', type := ty, pos := pos, after := af, guard := none } :: rest) env own H :=
  TL.val0 hd (fun a ha w => by
    have e : (!decide (s = t)) = decide (s ≠ t) := by rw [Bool.eq_iff_iff]; simp
    simp only [execOp, eqGuard, binOp, Op.stringOp, ha.ev hx, ha.ev hy, toList_beq, e]; rfl) h
theorem TL.addS {x y : Operand} {tx t' : TypeId} {s t : ByteArray} (hx : ev env x = some (.string s)) (hy : ev env y = some (.string t)) (hd : okD N d = true) (hr : s.size + t.size ≤ 9223372036854775807)
    (h : TL P w0 N Q ops rest (putE d (.string (s ++ t)) env) own H) :
    TL P w0 N Q ops ({ dst := d, op := .binOp .add tx x y t', type := ty, pos := pos, after := af, guard := none } :: rest) env own H :=
  TL.val0 hd (fun a ha w => by
    have e : ¬ (((s.size + t.size : Nat) : Int) > IntKind.i64.max) := by
      have : IntKind.i64.max = 9223372036854775807 := by decide
      rw [this]; omega
    simp only [execOp, eqGuard, binOp, Op.stringOp, ha.ev hx, ha.ev hy, if_neg e]; rfl) h

/-! bools -/
theorem TL.not {x : Operand} {tx : TypeId} {b : Bool} (hx : ev env x = some (.bool b)) (hd : okD N d = true) (h : TL P w0 N Q ops rest (putE d (.bool (!b)) env) own H) :
    TL P w0 N Q ops ({ dst := d, op := .unOp .not tx x, type := ty, pos := pos, after := af, guard := none } :: rest) env own H :=
  TL.val0 hd (fun a ha w => by simp [execOp, Op.unary, ha.ev hx]) h

/-! tuples, structs by value -/
theorem TL.extract {x : Operand} {i : Nat} {vs : Array Value} {v : Value} (hx : ev env x = some (.tuple vs)) (hv : vs[i]? = some v) (hd : okD N d = true) (h : TL P w0 N Q ops rest (putE d v env) own H) :
    TL P w0 N Q ops ({ dst := d, op := .extract x i, type := ty, pos := pos, after := af, guard := none } :: rest) env own H :=
  TL.val0 hd (fun a ha w => by simp [execOp, Instr.extract, ha.ev hx, hv]) h

theorem TL.len_slice {x : Operand} {t : TypeId} {e : TypeId} {A : Option Addr} {n c : Nat} (hx : ev env x = some (.slice A n c)) (hd : okD N d = true) [hU : Und P t (.slice e)]
    (h : TL P w0 N Q ops rest (putE d (.int .i64 (n : Int)) env) own H) :
    TL P w0 N Q ops ({ dst := d, op := .call { callee := .builtin .len, args := #[x], argTypes := #[t] }, type := ty, pos := pos, after := af, guard := none } :: rest) env own H :=
  TL.val0 hd (fun a ha w => by simp [execOp, resolve, invoke, builtin, Builtin.len_, ha.ev hx, run_underlying hU.eq, goInt]) h
theorem TL.len_string {x : Operand} {t : TypeId} {s : ByteArray} (hx : ev env x = some (.string s)) (hd : okD N d = true) [hU : Und P t .string]
    (h : TL P w0 N Q ops rest (putE d (.int .i64 (s.size : Int)) env) own H) :
    TL P w0 N Q ops ({ dst := d, op := .call { callee := .builtin .len, args := #[x], argTypes := #[t] }, type := ty, pos := pos, after := af, guard := none } :: rest) env own H :=
  TL.val0 hd (fun a ha w => by simp [execOp, resolve, invoke, builtin, Builtin.len_, ha.ev hx, run_underlying hU.eq, goInt]) h
end ops
end Go.Proofs.Ytapmmfabdmhdnaa.K
