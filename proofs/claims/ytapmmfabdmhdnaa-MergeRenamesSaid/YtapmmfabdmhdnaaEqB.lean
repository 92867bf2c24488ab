/-
  Equal functions' texts: sizes of types, cells of types and fields in memory, the comparison of structs by value.
-/
import Derived.Test.YtapmmfabdmhdnaaRenB
import Derived.Test.YtapmmfabdmhdnaaHelp
import Derived.Laws.StructEq
import Derived.Tactics
set_option linter.unusedVariables false
set_option linter.unusedSimpArgs false
namespace Go.Proofs.Ytapmmfabdmhdnaa.K
open Go Go.RowKit Go.Proofs

mutual
def Ty4.size : Ty4 → Nat
  | .mk _ _ _ ts => Ty4.sizes ts + 1
def Ty4.sizes : List Ty4 → Nat
  | [] => 0
  | t :: r => t.size + Ty4.sizes r
end
theorem Ty4.size_pos (t : Ty4) : 0 < t.size := by cases t; simp [Ty4.size]
theorem Ty4.size_mem {e : Ty4} : ∀ {l : List Ty4}, e ∈ l → e.size ≤ Ty4.sizes l
  | u :: us, h => by
    simp only [Ty4.sizes]
    rcases List.mem_cons.1 h with rfl | h
    · omega
    · have := Ty4.size_mem h; omega
theorem tys_len {H : Hp} {l : List Ty4} {v : Value} (h : rd H (.s 4 (Ty4.ds l)) v) : ∃ A c, v = .slice A l.length c ∧ l.length ≤ c ∧ c ≤ 9223372036854775807 := by
  rw [Ty4.ds_of] at h; exact el_len Ty4.d_len (by omega) h
theorem tys_at {H : Hp} {l : List Ty4} {A : Option Addr} {m c : Nat} (h : rd H (.s 4 (Ty4.ds l)) (.slice A m c)) {i : Nat} {t : Ty4} (hi : l[i]? = some t) :
    ∃ b o t0 t1 t2 t3, A = some ⟨b, o, none⟩ ∧ hAt H b (o + i * 4) [t0, t1, t2, t3] ∧ RdL H t.d [t0, t1, t2, t3] := by
  rw [Ty4.ds_of] at h
  obtain ⟨b, o, cs, rfl, h1, h2, h3⟩ := el_at Ty4.d_len (by omega) h hi
  match cs, h3 with
  | [c0, c1, c2, c3], _ => exact ⟨b, o, c0, c1, c2, c3, rfl, h1, h2⟩
theorem ty4_cells {H : Hp} {k n : Int} {nm : ByteArray} {ts : List Ty4} {c0 c1 c2 c3 : Value} (h : RdL H (Ty4.mk k nm n ts).d [c0, c1, c2, c3]) : c0 = .int .i64 k ∧ c1 = .string nm ∧ c2 = .int .i64 n ∧ rd H (.s 4 (Ty4.ds ts)) c3 := by
  simp only [Ty4.d] at h
  obtain ⟨h0, h1, h2, h3, _⟩ := h
  simp only [rd] at h0 h1 h2
  exact ⟨h0, h1, h2, h3⟩
section
variable {P : Program} {w0 : World} {N : Nat} {Q : Exit → Act → World → Prop} {env : Env} {own : List Seg} {H : Hp} {ops : Array Oper} {rest : List Oper}
variable {d : Option Tmp} {ty : TypeId} {pos : String} {af : Array Edge}
/-- Equal bools; structs by value. -/
theorem TL.eqlBool {x y : Operand} {tx t' : TypeId} {a b : Bool} (hx : ev env x = some (.bool a)) (hy : ev env y = some (.bool b)) [hu : Und P tx .bool] (hd : okD N d = true)
    (h : TL P w0 N Q ops rest (putE d (.bool (a == b)) env) own H) : TL P w0 N Q ops ({ dst := d, op := .binOp .eql tx x y t', type := ty, pos := pos, after := af, guard := none } :: rest) env own H :=
  TL.val0 hd (fun ac ha w => by
    have := run_equal_bool (P := P) w tx a b hu.eq
    simp only [execOp, eqGuard, binOp, ha.ev hx, ha.ev hy]
    simp [this]) h
theorem TL.eqlSt {x y : Operand} {tx t' : TypeId} {xs ys : Array Value} {b : Bool} (hx : ev env x = some (.agg xs)) (hy : ev env y = some (.agg ys)) (hm : P.eqGuardType P.depth tx = false) (hr : ∀ w, (Op.equalIn 10000 tx (.agg xs) (.agg ys)).run P w = .ok b w) (hd : okD N d = true)
    (h : TL P w0 N Q ops rest (putE d (.bool b) env) own H) : TL P w0 N Q ops ({ dst := d, op := .binOp .eql tx x y t', type := ty, pos := pos, after := af, guard := none } :: rest) env own H :=
  TL.val0 hd (fun ac ha w => by
    have h1 := run_eqGuard_agg (P := P) w .eql tx x y xs ys hm
    have h2 := run_eql_struct (P := P) w tx xs ys
    rw [hr w] at h2
    simp only [execOp, ha.ev hx, ha.ev hy, Sem.run_bind, h1, Result.andThen_ok, h2, Sem.run_map, Sem.run_pure]) h
end
theorem place_eq (x y : Int) (w : World) : (Op.equalIn 10000 52 (.agg #[.int .i64 x, .int .u16 y]) (.agg #[.int .i64 x, .int .u16 y])).run Try.prog w = .ok true w := by
  have hS : Try.prog.underlying 52 = some (.struct (Try.prog.fieldsOf 52)) := by kernel_rfl
  rw [show (10000 : Nat) = 9999 + 1 from rfl, run_equalIn_agg w 9999 52 _ _ hS (by kernel_rfl)]
  have u3 := Try.underlying3
  have u50 := Try.underlying50
  have a3 := (ty3).isAgg
  have a50 := (ty50).isAgg
  have s3 := (ty3).size
  have s50 := (ty50).size
  simp only [Program.fieldsOf, Try.underlying52]
  simp [Op.eqFields, part, a3, a50, s3, s50, Go.run_equalIn_int _ _ 3 _ _ _ _ u3, Go.run_equalIn_int _ _ 50 _ _ _ _ u50]
/-- Programs that consist of one function: three slices. -/
def oneD (f : Fu) : List D := [.s 4 [], .s 9 [], .s 10 f.d]
end Go.Proofs.Ytapmmfabdmhdnaa.K
