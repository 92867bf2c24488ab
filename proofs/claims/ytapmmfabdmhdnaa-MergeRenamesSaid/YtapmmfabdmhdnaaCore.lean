/-
  A small layer over the library's wp calculus: judgements over abstract frames and worlds.
  A frame is known by a list of slots with their values; a world by immutable blocks (H) and by lists of owned blocks (own).
  Everything here is a lemma over an arbitrary program P; no condition beyond those typed.
-/
import Derived.Tactics
import Derived.Calls
import Derived.Laws.AppendOwn
import Derived.Laws.OwnMore
import Derived.Laws.MakeOwn
import Derived.Laws.NewBlocks
import Derived.Deep.LoopGhost
import Derived.Deep.Quiet
import Derived.Below
set_option linter.unusedVariables false
set_option linter.unusedSimpArgs false
namespace Go.Proofs.Ytapmmfabdmhdnaa.K
open Go Go.RowKit

abbrev Hp := Nat → Option Obj
abbrev Seg := List (Nat × Obj)
abbrev Env := List (Nat × Value)

def lk : Env → Nat → Option Value
  | [], _ => none
  | (j, v) :: r, i => bif Nat.beq j i then some v else lk r i

def ev (env : Env) : Operand → Option Value
  | .tmp t => lk env t
  | .const v => some v
  | .global g => some (.pointer (some ⟨g, 0, none⟩))
  | .func f => some (.func (.func f) #[] #[])

/-- What is known of a frame. -/
structure At (N : Nat) (env : Env) (a : Act) : Prop where
  defers : a.defers = []
  size : a.tmps.size = N
  slots : ∀ i v, lk env i = some v → a.tmps[i]? = some v

theorem At.ev {N : Nat} {env : Env} {a : Act} (h : At N env a) {x : Operand} {v : Value} (hx : ev env x = some v) : a.eval x = v := by
  cases x with
  | tmp t => have h1 := h.slots t v hx; simp [Act.eval, Array.getD_eq_getD_getElem?, h1]
  | const u => simpa [K.ev, Act.eval] using hx
  | global g => simpa [K.ev, Act.eval] using hx
  | func f => simpa [K.ev, Act.eval] using hx

def putE (d : Option Tmp) (v : Value) (env : Env) : Env := match d with | some d => (d, v) :: env | none => env
def okD (N : Nat) (d : Option Tmp) : Bool := match d with | some d => Nat.blt d N | none => true

theorem At.put {N : Nat} {env : Env} {a : Act} (h : At N env a) {d : Option Tmp} (hd : okD N d = true) (v : Value) : At N (putE d v env) (a.put d v) := by
  cases d with
  | none => exact h
  | some d =>
    have hlt : d < N := by simpa [okD, Nat.blt_eq] using hd
    refine ⟨h.defers, by simpa [Act.put] using h.size, fun i u hu => ?_⟩
    simp only [putE, lk] at hu
    cases hb : Nat.beq d i with
    | true =>
      have e : d = i := Nat.eq_of_beq_eq_true hb
      subst e
      simp only [hb, cond_true, Option.some.injEq] at hu
      subst hu
      have : d < a.tmps.size := by rw [h.size]; exact hlt
      simp [Act.put, this]
    | false =>
      have e : d ≠ i := Nat.ne_of_beq_eq_false hb
      simp only [hb, cond_false] at hu
      simp [Act.put, e, h.slots i u hu]

/-- A shorter list of slots that stand in a longer one. -/
def SubL : Env → Env → Prop
  | [], _ => True
  | (i, v) :: r, e => lk e i = some v ∧ SubL r e

theorem SubL.lk {env env' : Env} (h : SubL env' env) : ∀ i v, lk env' i = some v → K.lk env i = some v := by
  induction env' with
  | nil => intro i v hv; cases hv
  | cons p r ih =>
    obtain ⟨j, u⟩ := p
    intro i v hv
    simp only [K.lk] at hv
    cases hb : Nat.beq j i with
    | true =>
      have e : j = i := Nat.eq_of_beq_eq_true hb
      subst e
      simp only [hb, cond_true, Option.some.injEq] at hv
      subst hv
      exact h.1
    | false => simp only [hb, cond_false] at hv; exact ih h.2 i v hv

theorem At.sub {N : Nat} {env env' : Env} {a : Act} (h : At N env a) (hs : SubL env' env) : At N env' a := ⟨h.defers, h.size, fun i v hv => h.slots i v (hs.lk i v hv)⟩

/-- What is known of a world: blocks that stay as they are (H), and blocks of our own. -/
structure St (w0 : World) (H : Hp) (own : List Seg) (w : World) : Prop where
  os : w.os = w0.os
  tape : w.tape = w0.tape ∧ w0.drawn ≤ w.drawn
  output : w.output = w0.output
  imm : ∀ b o, H b = some o → w.heap[b]? = some o
  own_at : ∀ p ∈ own.flatten, w.heap[p.1]? = some p.2
  apart : ∀ p ∈ own.flatten, H p.1 = none
  nodup : (own.flatten.map (·.1)).Nodup

def Le (H H' : Hp) : Prop := ∀ b o, H b = some o → H' b = some o
theorem Le.refl (H : Hp) : Le H H := fun _ _ h => h
theorem Le.trans {a b c : Hp} (h : Le a b) (k : Le b c) : Le a c := fun x o hx => k x o (h x o hx)

def TL (P : Program) (w0 : World) (N : Nat) (Q : Exit → Act → World → Prop) (ops : Array Oper) (l : List Oper) (env : Env) (own : List Seg) (H : Hp) : Prop :=
  ∀ a w, At N env a → St w0 H own w → wpList P ops Q l a w
def TC (P : Program) (w0 : World) (N : Nat) (Q : Exit → Act → World → Prop) (c : Code) (env : Env) (own : List Seg) (H : Hp) : Prop :=
  ∀ a w, At N env a → St w0 H own w → c.wp P Q a w
def TQ (w0 : World) (N : Nat) (Q : Exit → Act → World → Prop) (e : Exit) (env : Env) (own : List Seg) (H : Hp) : Prop :=
  ∀ a w, At N env a → St w0 H own w → Q e a w

section code
variable {P : Program} {w0 : World} {N : Nat} {Q : Exit → Act → World → Prop} {env : Env} {own : List Seg} {H : Hp} {ops : Array Oper} {rest : List Oper}

theorem TC.seq {x y : Code} (h : TC P w0 N (Exit.then (y.wp P Q) Q) x env own H) : TC P w0 N Q (.seq x y) env own H :=
  fun a w ha hw => wp_seq (h a w ha hw)
theorem TC.skip (h : TQ w0 N Q .normal env own H) : TC P w0 N Q .skip env own H := fun a w ha hw => wp_skip (h a w ha hw)
theorem TC.ret (h : TQ w0 N Q .ret env own H) : TC P w0 N Q .ret env own H := fun a w ha hw => wp_ret (h a w ha hw)
theorem TC.exit {i : Nat} (h : TQ w0 N Q (.exit i) env own H) : TC P w0 N Q (.exit i) env own H := fun a w ha hw => wp_exit (h a w ha hw)
theorem TC.block {i : Nat} {c : Code} (h : TC P w0 N (Exit.inBlock i Q) c env own H) : TC P w0 N Q (.block i c) env own H := fun a w ha hw => wp_block (h a w ha hw)
theorem TC.region {i : Nat} {l : List Oper} (h : TL P w0 N Q l.toArray l env own H) : TC P w0 N Q (.region i l.toArray false) env own H :=
  fun a w ha hw => wp_region_lit (h a w ha hw)
theorem TL.nil (h : TQ w0 N Q .normal env own H) : TL P w0 N Q ops [] env own H := fun a w ha hw => wpList_nil (h a w ha hw)

theorem TC.cond {c : Operand} {x y : Code} {b : Bool} (hc : ev env c = some (.bool b)) (ht : b = true → TC P w0 N Q x env own H) (hf : b = false → TC P w0 N Q y env own H) :
    TC P w0 N Q (.cond c x y) env own H := fun a w ha hw => by
  refine wp_cond_split (ha.ev hc) (fun h => ht h a w ha hw) (fun h => hf h a w ha hw)
theorem TC.cond_t {c : Operand} {x y : Code} (hc : ev env c = some (.bool true)) (ht : TC P w0 N Q x env own H) : TC P w0 N Q (.cond c x y) env own H :=
  fun a w ha hw => wp_cond_true (ha.ev hc) (ht a w ha hw)
theorem TC.cond_f {c : Operand} {x y : Code} (hc : ev env c = some (.bool false)) (ht : TC P w0 N Q y env own H) : TC P w0 N Q (.cond c x y) env own H :=
  fun a w ha hw => wp_cond_false (ha.ev hc) (ht a w ha hw)

theorem TQ.then_n {y : Code} (h : TC P w0 N Q y env own H) : TQ w0 N (Exit.then (y.wp P Q) Q) .normal env own H := h
theorem TQ.then_e {nx : Act → World → Prop} {i : Nat} (h : TQ w0 N Q (.exit i) env own H) : TQ w0 N (Exit.then nx Q) (.exit i) env own H := h
theorem TQ.then_r {nx : Act → World → Prop} (h : TQ w0 N Q .ret env own H) : TQ w0 N (Exit.then nx Q) .ret env own H := h
theorem TQ.in_n {i : Nat} (h : TQ w0 N Q .normal env own H) : TQ w0 N (Exit.inBlock i Q) .normal env own H := h
theorem TQ.in_r {i : Nat} (h : TQ w0 N Q .ret env own H) : TQ w0 N (Exit.inBlock i Q) .ret env own H := h
theorem TQ.in_e {i : Nat} (h : TQ w0 N Q .normal env own H) : TQ w0 N (Exit.inBlock i Q) (.exit i) env own H :=
  fun a w ha hw => by simpa only [Exit.inBlock, if_true] using h a w ha hw
theorem TQ.in_o {i j : Nat} (hne : Nat.beq j i = false) (h : TQ w0 N Q (.exit j) env own H) : TQ w0 N (Exit.inBlock i Q) (.exit j) env own H :=
  fun a w ha hw => by simpa only [Exit.inBlock, if_neg (Nat.ne_of_beq_eq_false hne)] using h a w ha hw

/-- Forget slots, own segments. -/
theorem TC.wk {c : Code} {env' : Env} (hs : SubL env' env) (h : TC P w0 N Q c env' own H) : TC P w0 N Q c env own H := fun a w ha hw => h a w (ha.sub hs) hw
theorem TL.wk {l : List Oper} {env' : Env} (hs : SubL env' env) (h : TL P w0 N Q ops l env' own H) : TL P w0 N Q ops l env own H := fun a w ha hw => h a w (ha.sub hs) hw

/-- What a round of a loop hands on. -/
def Nx (w0 : World) (N : Nat) (J : Nat → Env → List Seg → Hp → Prop) (n : Nat) (a : Act) (w : World) : Prop :=
  ∃ n' env own H, n' < n ∧ J n' env own H ∧ At N env a ∧ St w0 H own w

theorem TC.loop {c : Code} (J : Nat → Env → List Seg → Hp → Prop) (n : Nat) (env' : Env) (hs : SubL env' env) (h0 : J n env' own H)
    (round : ∀ n env own H, J n env own H → TC P w0 N (Exit.then (Nx w0 N J n) Q) c env own H) : TC P w0 N Q (.loop c) env own H := fun a w ha hw => by
  refine wp_loop_ghost (fun n a w => ∃ env own H, J n env own H ∧ At N env a ∧ St w0 H own w) n ⟨env', own, H, h0, ha.sub hs, hw⟩ ?_
  rintro n a w ⟨env, own, H, hJ, ha, hw⟩
  refine wp_mono (round n env own H hJ a w ha hw) ?_
  intro e a' w' hq
  cases e with
  | normal => obtain ⟨n', env, own, H, hlt, hJ', ha', hw'⟩ := hq; exact ⟨n', hlt, env, own, H, hJ', ha', hw'⟩
  | exit id => exact hq
  | goto l => exact hq
  | ret => exact hq
  | panic ch => exact hq
  | outgrown => exact hq

theorem TQ.next {J : Nat → Env → List Seg → Hp → Prop} {n : Nat} (n' : Nat) (env' : Env) (hlt : n' < n) (hs : SubL env' env) (hJ : J n' env' own H) :
    TQ w0 N (Exit.then (Nx w0 N J n) Q) .normal env own H := fun _ _ ha hw => ⟨n', env', own, H, hlt, hJ, ha.sub hs, hw⟩

/-- One operation that gives a value, whatever the world becomes. -/
theorem TL.val {o : Oper} {v : Value} {own' : List Seg} {H' : Hp} (hg : o.guard = none) (hd : okD N o.dst = true)
    (hrun : ∀ a w, At N env a → St w0 H own w → ∃ w', (execOp a.eval o).run P w = .ok (.value v) w' ∧ St w0 H' own' w')
    (h : TL P w0 N Q ops rest (putE o.dst v env) own' H') : TL P w0 N Q ops (o :: rest) env own H := fun a w ha hw => by
  refine wpList_plain hg fun K hK => ?_
  obtain ⟨w', hr, hw'⟩ := hrun a w ha hw
  unfold Oper.wp
  rw [hr]
  exact hK _ _ (h _ _ (ha.put hd v) hw')

/-- The same where the value is not known ahead. -/
theorem TL.valE {o : Oper} {φ : Value → List Seg → Hp → Prop} (hg : o.guard = none) (hd : okD N o.dst = true)
    (hrun : ∀ a w, At N env a → St w0 H own w → ∃ v own' H' w', (execOp a.eval o).run P w = .ok (.value v) w' ∧ φ v own' H' ∧ St w0 H' own' w')
    (h : ∀ v own' H', φ v own' H' → TL P w0 N Q ops rest (putE o.dst v env) own' H') : TL P w0 N Q ops (o :: rest) env own H := fun a w ha hw => by
  refine wpList_plain hg fun K hK => ?_
  obtain ⟨v, own', H', w', hr, hp, hw'⟩ := hrun a w ha hw
  unfold Oper.wp
  rw [hr]
  exact hK _ _ (h v own' H' hp _ _ (ha.put hd v) hw')

theorem TL.skp {o : Oper} {own' : List Seg} {H' : Hp} (hg : o.guard = none) (hd : okD N o.dst = true)
    (hrun : ∀ a w, At N env a → St w0 H own w → ∃ w', (execOp a.eval o).run P w = .ok .skip w' ∧ St w0 H' own' w')
    (h : TL P w0 N Q ops rest (putE o.dst undef env) own' H') : TL P w0 N Q ops (o :: rest) env own H := fun a w ha hw => by
  refine wpList_plain hg fun K hK => ?_
  obtain ⟨w', hr, hw'⟩ := hrun a w ha hw
  unfold Oper.wp
  rw [hr]
  exact hK _ _ (h _ _ (ha.put hd undef) hw')

/-- A guarded operation: the guard's slot holds a bool. -/
theorem TL.guard {d : Option Tmp} {op : Op} {ty : TypeId} {pos : String} {af : Array Edge} {j : Nat} {want b : Bool} {t : Tmp} (hj : (ops[j]?).bind (·.dst) = some t) (ht : lk env t = some (.bool b)) (hd : okD N d = true)
    (hyes : b = want → TL P w0 N Q ops ({ dst := d, op := op, type := ty, pos := pos, after := af, guard := none } :: rest) env own H)
    (hno : b = !want → TL P w0 N Q ops rest (putE d undef env) own H) :
    TL P w0 N Q ops ({ dst := d, op := op, type := ty, pos := pos, after := af, guard := some (j, want) } :: rest) env own H := fun a w ha hw => by
  have hy : yielded ops a.tmps j = some b := by
    unfold yielded
    rw [hj]
    have h1 := ha.slots t _ ht
    simp [h1]
  by_cases hb : b = want
  · subst hb
    have h1 := hyes rfl a w ha hw
    simp only [wpList, Region.wanted, if_true] at h1
    simp only [wpList, Region.wanted, hy, beq_self_eq_true, if_true]
    exact h1
  · have hb' : b = !want := by cases b <;> cases want <;> simp_all
    have h1 := hno hb' _ w (ha.put hd undef) hw
    simp only [wpList, Region.wanted, hy]
    rw [if_neg (by subst hb'; cases want <;> simp)]
    exact h1
end code
end Go.Proofs.Ytapmmfabdmhdnaa.K
