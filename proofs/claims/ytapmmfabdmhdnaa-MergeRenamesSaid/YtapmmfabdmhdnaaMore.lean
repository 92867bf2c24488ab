/-
  More operations under the judgement of Core: tests that part the walk, guards that are decided, structs and slices that are built,
  one-cell stores, new variables.
  Everything here is a lemma over an arbitrary program P; no condition beyond those typed.
-/
import Derived.Test.YtapmmfabdmhdnaaData
import Derived.Laws.IdiomStrings
import Derived.Laws.Cover3
set_option linter.unusedVariables false
set_option linter.unusedSimpArgs false
namespace Go.Proofs.Ytapmmfabdmhdnaa.K
open Go Go.RowKit

/-- The zero of a type, as cells. -/
class Zr (P : Program) (t : TypeId) (c : outParam (Array Value)) : Prop where
  ex : ∃ i z, P.info? t = some i ∧ i.zero = some z ∧ z.cells = c

/-- A struct type: its fields' places and sizes; its zero's cells. -/
class Str (P : Program) (t : TypeId) (places : outParam (List (Nat × Nat))) (zero : outParam (Array Value)) : Prop where
  und : ∃ fs : Array Field, P.underlying t = some (.struct fs) ∧ ∀ w, (fs.mapM fun f => Prod.mk f.offset <$> sizeOf f.type).run P w = .ok places.toArray w
  zr : ∃ i z, P.info? t = some i ∧ i.zero = some z ∧ z.cells = zero

theorem run_places {P : Program} (fs : List Field) (w : World) (h : fs.all (fun f => (P.info? f.type).isSome) = true) :
    (fs.mapM fun f => Prod.mk f.offset <$> sizeOf f.type).run P w = .ok (fs.map fun f => (f.offset, P.cellsOf f.type)) w := by
  induction fs with
  | nil => simp
  | cons f r ih =>
    simp only [List.all_cons, Bool.and_eq_true] at h
    obtain ⟨i, hi⟩ := Option.isSome_iff_exists.1 h.1
    have hsz : (sizeOf f.type).run P w = .ok (P.cellsOf f.type) w := by simp [sizeOf, typeInfo, hi, Program.cellsOf]
    rw [List.mapM_cons]
    simp only [Sem.run_bind, Sem.run_map, hsz, Result.andThen_ok, ih h.2, Sem.run_pure, List.map_cons]

theorem Str.of {P : Program} {t : TypeId} {fs : Array Field} {i : TypeInfo} {z : Value} {c : Array Value} {places : List (Nat × Nat)} (hu : P.underlying t = some (.struct fs)) (hi : P.info? t = some i) (hz : i.zero = some z) (hc : z.cells = c)
    (h1 : fs.toList.all (fun f => (P.info? f.type).isSome) = true) (h2 : (fs.toList.map fun f => (f.offset, P.cellsOf f.type)) = places) : Str P t places c := by
  refine ⟨⟨fs, hu, fun w => ?_⟩, ⟨i, z, hi, hz, hc⟩⟩
  have := run_places (P := P) fs.toList w h1
  rw [h2] at this
  rw [Array.mapM_eq_mapM_toList]
  simp [this]

theorem one_cells {v : Value} (h : v.oneCell' = true) : v.cells = #[v] := by cases v <;> simp_all [Value.oneCell', Value.cells]
theorem Row.one {e : TypeId} {sz : Nat} {v : Value} {n : Nat} {xs : List Value} {seg : Seg} (h : Row e sz v n xs seg) : v.oneCell' = true := by
  rcases h.2 with ⟨rfl, _⟩ | ⟨g, cap, cur, rfl, _⟩ <;> rfl
theorem rd.one {H : Hp} {sz : Nat} {xs : List D} {v : Value} (h : rd H (.s sz xs) v) : v.oneCell' = true := by
  obtain ⟨A, n, k, rfl, _⟩ := h.s_len
  rfl

/-- The parts of a struct or slice literal: their values' cells. -/
def Parts (env : Env) : List (Nat × Operand) → List (Nat × List Value) → Prop
  | [], [] => True
  | (i, x) :: ps, (j, vs) :: pv => i = j ∧ (∃ v, ev env x = some v ∧ v.cells = vs.toArray) ∧ Parts env ps pv
  | _, _ => False

def fillC (place : Nat → Option (Nat × Nat)) (cells : Array Value) : List (Nat × List Value) → Option (Array Value)
  | [] => some cells
  | (i, vs) :: r => match place i with
    | none => none
    | some (off, size) => if vs.length = size ∧ off + vs.length ≤ cells.size then fillC place (putC cells off vs) r else none

theorem foldl_put (off : Nat) : ∀ (vs : List Value) (k : Nat) (cs : Array Value), (vs.zipIdx k).foldl (fun cs (c, j) => cs.setIfInBounds (off + j) c) cs = putC cs (off + k) vs
  | [], _, _ => rfl
  | v :: r, k, cs => by
    simp only [List.zipIdx_cons, List.foldl_cons, putC]
    rw [foldl_put off r (k + 1)]
    rfl

theorem fill_of_parts {N : Nat} {env : Env} {a : Act} (ha : At N env a) (place : Nat → Option (Nat × Nat)) : ∀ {ps : List (Nat × Operand)} {pv : List (Nat × List Value)} {cells r : Array Value}, Parts env ps pv → fillC place cells pv = some r →
    Instr.fill place cells (ps.map fun (i, x) => (i, a.eval x)) = some r
  | [], [], _, _, _, h => by simpa [Instr.fill, fillC] using h
  | (i, x) :: ps, (j, vs) :: pv, cells, r, hp, h => by
    obtain ⟨rfl, ⟨v, hx, hv⟩, hp⟩ := hp
    simp only [fillC] at h
    simp only [List.map_cons, Instr.fill, ha.ev hx]
    cases hpl : place i with
    | none => simp [hpl] at h
    | some q =>
      obtain ⟨off, size⟩ := q
      simp only [hpl] at h
      split at h
      · rename_i hc
        have h1 : ¬ (v.cells.size ≠ size ∨ off + v.cells.size > cells.size) := by rw [hv]; simp; omega
        simp only [decide_not, Bool.or_eq_true, Bool.not_eq_true', decide_eq_false_iff_not, decide_eq_true_eq]
        rw [if_neg (by simpa using h1)]
        have := fill_of_parts ha place hp h
        rw [hv]
        have e := foldl_put off vs 0 cells
        simp only [Nat.add_zero] at e
        rw [← e] at this
        simpa using this
      · cases h
  | [], _ :: _, _, _, hp, _ => hp.elim
  | _ :: _, [], _, _, hp, _ => hp.elim

section
variable {P : Program} {w0 : World} {N : Nat} {Q : Exit → Act → World → Prop} {env : Env} {own : List Seg} {H : Hp} {ops : Array Oper} {rest : List Oper}
variable {d : Option Tmp} {ty : TypeId} {pos : String} {af : Array Edge}

theorem TL.new {t : TypeId} {c : Array Value} [hz : Zr P t c] (hd : okD N d = true)
    (h : ∀ g, TL P w0 N Q ops rest (putE d (.pointer (some ⟨g, 0, none⟩)) env) ([(g, .cells c t (0, 0))] :: own) H) :
    TL P w0 N Q ops ({ dst := d, op := .alloc t, type := ty, pos := pos, after := af, guard := none } :: rest) env own H := by
  obtain ⟨i, z, hi, hz', hc⟩ := hz.ex
  have : Inf P t i := ⟨hi⟩
  exact TL.alloc hz' hc hd h

theorem TL.struct {t : TypeId} {places : List (Nat × Nat)} {zero : Array Value} {ps : List (Nat × Operand)} {r : Array Value} [hs : Str P t places zero] (pv : List (Nat × List Value)) (hp : Parts env ps pv)
    (hd : okD N d = true) (hf : fillC (places.toArray[·]?) zero pv = some r) (h : TL P w0 N Q ops rest (putE d (.agg r) env) own H) :
    TL P w0 N Q ops ({ dst := d, op := .build t ps.toArray, type := ty, pos := pos, after := af, guard := none } :: rest) env own H :=
  TL.val0 hd (fun a ha w => by
    obtain ⟨fs, hu, hm⟩ := hs.und
    obtain ⟨i, z, hi, hz, hc⟩ := hs.zr
    have hfill := fill_of_parts ha (places.toArray[·]?) hp hf
    simp [execOp, Instr.build, zeroValue, typeInfo, hi, hz, run_underlying hu, hc]
    rw [hm]
    simp at hfill ⊢
    rw [hfill]
    simp) h

/-- An array by value whose elements are all given or zero. -/
theorem TL.array {t e : TypeId} {n sz : Nat} {agg : Bool} {zero : Array Value} {ps : List (Nat × Operand)} {r : Array Value} [hu : Und P t (.array n e)] [hz : Zr P t zero] [ht : Ty P e agg sz] (pv : List (Nat × List Value)) (hp : Parts env ps pv)
    (hd : okD N d = true) (hf : fillC (fun i => some (i * sz, sz)) zero pv = some r) (h : TL P w0 N Q ops rest (putE d (.agg r) env) own H) :
    TL P w0 N Q ops ({ dst := d, op := .build t ps.toArray, type := ty, pos := pos, after := af, guard := none } :: rest) env own H :=
  TL.val0 hd (fun a ha w => by
    obtain ⟨i, z, hi, hz, hc⟩ := hz.ex
    have hfill := fill_of_parts ha (fun i => some (i * sz, sz)) hp hf
    simp [execOp, Instr.build, zeroValue, typeInfo, hi, hz, run_underlying hu.eq, ht.size, hc]
    simp at hfill
    rw [hfill]
    simp) h

/-- A slice literal. -/
theorem TL.lit {t e : TypeId} {len sz by_ : Nat} {z : Value} {ps : List (Nat × Operand)} {r : Array Value} [hu : Sl P t e sz by_ z] (pv : List (Nat × List Value)) (hp : Parts env ps pv) (hlen : Nat.ble (len * sz) 16777216 = true)
    (hd : okD N d = true) (hf : fillC (fun i => some (i * sz, sz)) (madeCells z.cells (len * sz)) pv = some r)
    (h : ∀ g, TL P w0 N Q ops rest (putE d (.slice (some ⟨g, 0, none⟩) len len) env) ([(g, .cells r e (0, 0))] :: own) H) :
    TL P w0 N Q ops ({ dst := d, op := .buildSlice t len ps.toArray, type := ty, pos := pos, after := af, guard := none } :: rest) env own H :=
  TL.valE (φ := fun v own' H' => ∃ g, v = .slice (some ⟨g, 0, none⟩) len len ∧ own' = [(g, .cells r e (0, 0))] :: own ∧ H' = H) rfl hd
    (fun a w ha hw => ⟨_, _, _, w.alloc (.cells r e), by
      obtain ⟨i, hi, hz, hs, _⟩ := hu.ex
      have hfill := fill_of_parts ha (fun i => some (i * sz, sz)) hp hf
      have hle : ¬ 16777216 < len * sz := by have := Nat.le_of_ble_eq_true hlen; omega
      by_cases h0 : len * sz = 0
      · have e0 : madeCells z.cells (len * sz) = #[] := by rw [h0]; simp [madeCells]
        rw [e0] at hfill
        have e1 : Array.map (fun _ => (default : Value)) (Array.range 0) = #[] := by simp
        simp [execOp, Instr.buildSlice, run_underlying hu.und, hu.sizeOf, h0, newRow]
        rw [e1]
        simp at hfill
        rw [hfill]
        simp
      · simp [execOp, Instr.buildSlice, run_underlying hu.und, hu.sizeOf, hle, h0, zeroValue, typeInfo, hi, hz, newRow]
        simp [madeCells] at hfill
        rw [hfill]
        simp, ⟨w.heap.size, rfl, rfl, rfl⟩, hw.new _⟩)
    (by rintro v own' H' ⟨g, rfl, rfl, rfl⟩; exact h g)

/-- The parts in their order, each whole. -/
def seqP (sz : Nat) : Nat → List (Nat × List Value) → Bool
  | _, [] => true
  | k, (i, vs) :: r => Nat.beq i k && Nat.beq vs.length sz && seqP sz (k + 1) r

theorem putC_append (pre junk vs : List Value) (h : vs.length ≤ junk.length) : putC (pre ++ junk).toArray pre.length vs = ((pre ++ vs) ++ junk.drop vs.length).toArray := by
  induction vs generalizing pre junk with
  | nil => simp [putC]
  | cons v r ih =>
    cases junk with
    | nil => simp at h
    | cons j js =>
      have := ih (pre ++ [v]) js (by simpa using h)
      simp only [putC]
      have e : ((pre ++ j :: js).toArray.setIfInBounds pre.length v) = ((pre ++ [v]) ++ js).toArray := by simp
      rw [e]
      have e2 : pre.length + 1 = (pre ++ [v]).length := by simp
      rw [e2, this]
      simp

theorem fillC_seq (sz : Nat) : ∀ (pv : List (Nat × List Value)) (k : Nat) (pre junk : List Value), seqP sz k pv = true → pre.length = k * sz → junk.length = pv.length * sz →
    fillC (fun i => some (i * sz, sz)) (pre ++ junk).toArray pv = some (pre ++ pv.flatMap (·.2)).toArray
  | [], k, pre, junk, _, _, hj => by
    have : junk = [] := List.eq_nil_of_length_eq_zero (by simpa using hj)
    subst this
    simp [fillC]
  | (i, vs) :: r, k, pre, junk, hs, hp, hj => by
    simp only [seqP, Bool.and_eq_true] at hs
    obtain ⟨⟨h1, h2⟩, h3⟩ := hs
    have h1' := Nat.eq_of_beq_eq_true h1
    have h2' := Nat.eq_of_beq_eq_true h2
    subst h1'
    have hj' : junk.length = sz + r.length * sz := by rw [hj, List.length_cons, Nat.add_mul]; omega
    simp only [fillC]
    rw [if_pos ⟨h2', by simp; omega⟩]
    rw [← hp, putC_append pre junk vs (by omega)]
    have := fillC_seq sz r (i + 1) (pre ++ vs) (junk.drop vs.length) h3 (by rw [List.length_append, hp, h2', Nat.add_mul]; omega) (by rw [List.length_drop]; omega)
    rw [this]
    simp

/-- A slice literal whose elements are all given. -/
theorem TL.litF {t e : TypeId} {len sz by_ : Nat} {z : Value} {ps : List (Nat × Operand)} {r : List Value} [hu : Sl P t e sz by_ z] (pv : List (Nat × List Value)) (hp : Parts env ps pv) (hlen : Nat.ble (len * sz) 16777216 = true)
    (hs : (seqP sz 0 pv && Nat.beq pv.length len) = true) (hr : pv.flatMap (·.2) = r) (hd : okD N d = true)
    (h : ∀ g, TL P w0 N Q ops rest (putE d (.slice (some ⟨g, 0, none⟩) len len) env) ([(g, .cells r.toArray e (0, 0))] :: own) H) :
    TL P w0 N Q ops ({ dst := d, op := .buildSlice t len ps.toArray, type := ty, pos := pos, after := af, guard := none } :: rest) env own H := by
  simp only [Bool.and_eq_true] at hs
  have hl := Nat.eq_of_beq_eq_true hs.2
  refine TL.lit pv hp hlen hd ?_ h
  have := fillC_seq sz pv 0 [] (madeCells z.cells (len * sz)).toList hs.1 (by simp) (by simp [size_madeCells, hl])
  simp only [List.nil_append] at this
  rw [← hr]
  simpa using this

/-- A store of one cell into a block of our own. -/
theorem TL.store1 (i j : Nat) {t : TypeId} {x y : Operand} {g o : Nat} {seg : Seg} {c : Array Value} {e : TypeId} {v : Value} (hx : ev env x = some (.pointer (some ⟨g, o, none⟩))) (hy : ev env y = some v) (hi : own[i]? = some seg) (hj : seg[j]? = some (g, .cells c e (0, 0)))
    [ht : Ty P t false 1] (h1 : v.oneCell' = true) (hf : o < c.size) {c' : Array Value} {own' : List Seg} (hc : c.setIfInBounds o v = c') (ho : own.set i (seg.set j (g, .cells c' e (0, 0))) = own') (hd : okD N d = true) (h : TL P w0 N Q ops rest (putE d undef env) own' H) :
    TL P w0 N Q ops ({ dst := d, op := .store t x y, type := ty, pos := pos, after := af, guard := none } :: rest) env own H :=
  TL.store i j hx hy hi hj (vs := [v]) (one_cells h1) rfl (by simpa using h1) (by simp only [List.length_singleton]; omega) hc ho hd h
def Ones : List Value → Prop
  | [] => True
  | v :: r => v.oneCell' = true ∧ Ones r
theorem Ones.all : ∀ {vs : List Value}, Ones vs → ∀ u ∈ vs, u.oneCell' = true
  | v :: r, h, u, hu => by
    rcases List.mem_cons.1 hu with rfl | hu
    · exact h.1
    · exact Ones.all h.2 u hu
theorem TL.storeA (i j : Nat) {t : TypeId} {x y : Operand} {g o : Nat} {seg : Seg} {c : Array Value} {e : TypeId} {n : Nat} {vs : List Value} (hx : ev env x = some (.pointer (some ⟨g, o, none⟩))) (hy : ev env y = some (.agg vs.toArray)) (hi : own[i]? = some seg) (hj : seg[j]? = some (g, .cells c e (0, 0)))
    [ht : Ty P t true n] (hn : vs.length = n) (h1 : Ones vs) (hf : o + vs.length ≤ c.size) {c' : Array Value} {own' : List Seg} (hc : putC c o vs = c') (ho : own.set i (seg.set j (g, .cells c' e (0, 0))) = own') (hd : okD N d = true) (h : TL P w0 N Q ops rest (putE d undef env) own' H) :
    TL P w0 N Q ops ({ dst := d, op := .store t x y, type := ty, pos := pos, after := af, guard := none } :: rest) env own H :=
  TL.store i j hx hy hi hj (vs := vs) rfl hn h1.all hf hc ho hd h

/-! tests that part the walk -/
theorem TL.lssB {x y : Operand} {tx t' : TypeId} {k : IntKind} {m n : Int} (hx : ev env x = some (.int k m)) (hy : ev env y = some (.int k n)) (hd : okD N d = true)
    (h1 : m < n → TL P w0 N Q ops rest (putE d (.bool true) env) own H) (h0 : n ≤ m → TL P w0 N Q ops rest (putE d (.bool false) env) own H) :
    TL P w0 N Q ops ({ dst := d, op := .binOp .lss tx x y t', type := ty, pos := pos, after := af, guard := none } :: rest) env own H :=
  TL.lss hx hy hd (by by_cases h : m < n
                      · rw [decide_eq_true h]; exact h1 h
                      · rw [decide_eq_false h]; exact h0 (by omega))
theorem TL.leqB {x y : Operand} {tx t' : TypeId} {k : IntKind} {m n : Int} (hx : ev env x = some (.int k m)) (hy : ev env y = some (.int k n)) (hd : okD N d = true)
    (h1 : m ≤ n → TL P w0 N Q ops rest (putE d (.bool true) env) own H) (h0 : n < m → TL P w0 N Q ops rest (putE d (.bool false) env) own H) :
    TL P w0 N Q ops ({ dst := d, op := .binOp .leq tx x y t', type := ty, pos := pos, after := af, guard := none } :: rest) env own H :=
  TL.leq hx hy hd (by by_cases h : m ≤ n
                      · rw [decide_eq_true h]; exact h1 h
                      · rw [decide_eq_false h]; exact h0 (by omega))
theorem TL.gtrB {x y : Operand} {tx t' : TypeId} {k : IntKind} {m n : Int} (hx : ev env x = some (.int k m)) (hy : ev env y = some (.int k n)) (hd : okD N d = true)
    (h1 : n < m → TL P w0 N Q ops rest (putE d (.bool true) env) own H) (h0 : m ≤ n → TL P w0 N Q ops rest (putE d (.bool false) env) own H) :
    TL P w0 N Q ops ({ dst := d, op := .binOp .gtr tx x y t', type := ty, pos := pos, after := af, guard := none } :: rest) env own H :=
  TL.gtr hx hy hd (by by_cases h : n < m
                      · rw [decide_eq_true h]; exact h1 h
                      · rw [decide_eq_false h]; exact h0 (by omega))
theorem TL.geqB {x y : Operand} {tx t' : TypeId} {k : IntKind} {m n : Int} (hx : ev env x = some (.int k m)) (hy : ev env y = some (.int k n)) (hd : okD N d = true)
    (h1 : n ≤ m → TL P w0 N Q ops rest (putE d (.bool true) env) own H) (h0 : m < n → TL P w0 N Q ops rest (putE d (.bool false) env) own H) :
    TL P w0 N Q ops ({ dst := d, op := .binOp .geq tx x y t', type := ty, pos := pos, after := af, guard := none } :: rest) env own H :=
  TL.geq hx hy hd (by by_cases h : n ≤ m
                      · rw [decide_eq_true h]; exact h1 h
                      · rw [decide_eq_false h]; exact h0 (by omega))
theorem TL.eqlB {x y : Operand} {tx t' : TypeId} {k : IntKind} {m n : Int} (hx : ev env x = some (.int k m)) (hy : ev env y = some (.int k n)) (hd : okD N d = true)
    (h1 : m = n → TL P w0 N Q ops rest (putE d (.bool true) env) own H) (h0 : m ≠ n → TL P w0 N Q ops rest (putE d (.bool false) env) own H) :
    TL P w0 N Q ops ({ dst := d, op := .binOp .eql tx x y t', type := ty, pos := pos, after := af, guard := none } :: rest) env own H :=
  TL.eql hx hy hd (by by_cases h : m = n
                      · rw [decide_eq_true h]; exact h1 h
                      · rw [decide_eq_false h]; exact h0 h)
theorem TL.neqB {x y : Operand} {tx t' : TypeId} {k : IntKind} {m n : Int} (hx : ev env x = some (.int k m)) (hy : ev env y = some (.int k n)) (hd : okD N d = true)
    (h1 : m ≠ n → TL P w0 N Q ops rest (putE d (.bool true) env) own H) (h0 : m = n → TL P w0 N Q ops rest (putE d (.bool false) env) own H) :
    TL P w0 N Q ops ({ dst := d, op := .binOp .neq tx x y t', type := ty, pos := pos, after := af, guard := none } :: rest) env own H :=
  TL.neq hx hy hd (by by_cases h : m = n
                      · rw [decide_eq_false (by simpa using h)]; exact h0 h
                      · rw [decide_eq_true h]; exact h1 h)
theorem TL.eqlSB {x y : Operand} {tx t' : TypeId} {s t : ByteArray} (hx : ev env x = some (.string s)) (hy : ev env y = some (.string t)) (hd : okD N d = true)
    (h1 : s = t → TL P w0 N Q ops rest (putE d (.bool true) env) own H) (h0 : s ≠ t → TL P w0 N Q ops rest (putE d (.bool false) env) own H) :
    TL P w0 N Q ops ({ dst := d, op := .binOp .eql tx x y t', type := ty, pos := pos, after := af, guard := none } :: rest) env own H :=
  TL.eqlS hx hy hd (by by_cases h : s = t
                       · rw [decide_eq_true h]; exact h1 h
                       · rw [decide_eq_false h]; exact h0 h)
theorem TL.neqSB {x y : Operand} {tx t' : TypeId} {s t : ByteArray} (hx : ev env x = some (.string s)) (hy : ev env y = some (.string t)) (hd : okD N d = true)
    (h1 : s ≠ t → TL P w0 N Q ops rest (putE d (.bool true) env) own H) (h0 : s = t → TL P w0 N Q ops rest (putE d (.bool false) env) own H) :
    TL P w0 N Q ops ({ dst := d, op := .binOp .neq tx x y t', type := ty, pos := pos, after := af, guard := none } :: rest) env own H :=
  TL.neqS hx hy hd (by by_cases h : s = t
                       · rw [decide_eq_false (by simpa using h)]; exact h0 h
                       · rw [decide_eq_true h]; exact h1 h)

/-- A slice and nil. -/
theorem TL.eqlNilB {x y : Operand} {tx t' e : TypeId} {A : Option Addr} {n c : Nat} [hu : Und P tx (.slice e)] (hx : ev env x = some (.slice A n c)) (hy : ev env y = some (.slice none 0 0)) (hd : okD N d = true)
    (h1 : A = none → TL P w0 N Q ops rest (putE d (.bool true) env) own H) (h0 : A ≠ none → TL P w0 N Q ops rest (putE d (.bool false) env) own H) :
    TL P w0 N Q ops ({ dst := d, op := .binOp .eql tx x y t', type := ty, pos := pos, after := af, guard := none } :: rest) env own H := by
  have hr : ∀ a, At N env a → ∀ w, (execOp a.eval { dst := d, op := .binOp .eql tx x y t', type := ty, pos := pos, after := af, guard := none }).run P w = .ok (.value (.bool A.isNone)) w := fun a ha w => by
    have := run_equal_slice_nil (P := P) w tx e A n c hu.eq
    simp only [execOp, eqGuard, binOp, ha.ev hx, ha.ev hy]
    simp [this]
  rcases A with _ | A
  · exact TL.val0 hd hr (h1 rfl)
  · exact TL.val0 hd hr (h0 (by simp))

/-- A slice of a row of our own is cleared. -/
theorem TL.clear (i j : Nat) {t e : TypeId} {x : Operand} {g o n k : Nat} {seg : Seg} {c : Array Value} {e' : TypeId} {sz by_ : Nat} {z : Value} [hU : Sl P t e sz by_ z] (hx : ev env x = some (.slice (some ⟨g, o, none⟩) n k)) (hi : own[i]? = some seg) (hj : seg[j]? = some (g, .cells c e' (0, 0)))
    (hn : 0 < n) (h1 : ∀ u ∈ (Builtin.zeroCells z.cells n).toList, u.oneCell' = true) (hf : o + (Builtin.zeroCells z.cells n).toList.length ≤ c.size) (hd : okD N d = true)
    (h : TL P w0 N Q ops rest (putE d (.tuple #[]) env) (own.set i (seg.set j (g, .cells (putC c o (Builtin.zeroCells z.cells n).toList) e' (0, 0)))) H) :
    TL P w0 N Q ops ({ dst := d, op := .call { callee := .builtin .clear, args := #[x], argTypes := #[t] }, type := ty, pos := pos, after := af, guard := none } :: rest) env own H :=
  TL.val rfl hd (fun a w ha hw => ⟨w.setRow g (putC c o (Builtin.zeroCells z.cells n).toList), by
    obtain ⟨ii, hii, hz, _, _⟩ := hU.ex
    have hb := hw.own_blk hi hj
    have hr := run_storeCells (P := P) g o e' (Builtin.zeroCells z.cells n).toList 0 c w hb (by simpa using hf) h1
    simp only [Nat.add_zero] at hr
    obtain ⟨m, rfl⟩ : ∃ m, n = m + 1 := ⟨n - 1, by omega⟩
    simp [execOp, resolve, invoke, builtin, Builtin.clear_, ha.ev hx, run_underlying hU.und, zeroValue, typeInfo, hii, hz, hr], hw.setRow hi hj⟩) h
theorem putC_lt : ∀ (vs : List Value) (c : Array Value) (o j : Nat), j < o → (putC c o vs)[j]? = c[j]?
  | [], _, _, _, _ => rfl
  | v :: r, c, o, j, h => by
    simp only [putC]
    rw [putC_lt r _ (o + 1) j (by omega)]
    simp [Array.getElem?_setIfInBounds, show ¬ o = j by omega]

theorem TL.pickT {x y : Operand} {c : Operand} {u v : Value} (hc : ev env c = some (.bool true)) (hx : ev env x = some u) (hy : ev env y = some v) (hd : okD N d = true)
    (h : TL P w0 N Q ops rest (putE d u env) own H) : TL P w0 N Q ops ({ dst := d, op := .pick c x y, type := ty, pos := pos, after := af, guard := none } :: rest) env own H :=
  TL.pick hc hx hy hd h
theorem TL.pickF {x y : Operand} {c : Operand} {u v : Value} (hc : ev env c = some (.bool false)) (hx : ev env x = some u) (hy : ev env y = some v) (hd : okD N d = true)
    (h : TL P w0 N Q ops rest (putE d v env) own H) : TL P w0 N Q ops ({ dst := d, op := .pick c x y, type := ty, pos := pos, after := af, guard := none } :: rest) env own H :=
  TL.pick hc hx hy hd h

/-- Bytes of a block of our own as a string. -/
def byteV (b : UInt8) : Value := .int .u8 (b.toNat : Int)
theorem TL.convBS (i j : Nat) {s t e : TypeId} {x : Operand} {g o n k : Nat} {seg : Seg} {c : Array Value} {e' : TypeId} {fz : Nat × Nat} (l : List UInt8) (hx : ev env x = some (.slice (some ⟨g, o, none⟩) n k)) (hi : own[i]? = some seg) (hj : seg[j]? = some (g, .cells c e' fz))
    [hs : Und P s (.slice e)] [he : Und P e (.int .u8)] [ht : Und P t .string] (hn : l.length = n) (hc : cAt c o (l.map byteV)) (hd : okD N d = true) (h : TL P w0 N Q ops rest (putE d (.string ⟨l.toArray⟩) env) own H) :
    TL P w0 N Q ops ({ dst := d, op := .convert s t x, type := ty, pos := pos, after := af, guard := none } :: rest) env own H :=
  TL.val rfl hd (fun a w ha hw => ⟨w, by
    subst hn
    have hb := hw.own_blk hi hj
    have hcell : ∀ q (hq : q < l.length), w.cell? ((⟨g, o, none⟩ : Addr).add q) = some (.int .u8 (l[q].toNat : Int)) := fun q hq => by
      rw [add_off, cell_of_cells hb]
      exact hc.get q (.int .u8 (l[q].toNat : Int)) (by simp [hq, byteV])
    have hr := run_convert_bytes_back (P := P) w s t e ⟨g, o, none⟩ k l hs.eq he.eq ht.eq hcell
    simp only [execOp, ha.ev hx, Sem.run_bind, hr, Result.andThen_ok]
    rfl, hw⟩) h

/-! guards that are decided -/
theorem TL.gyes {op : Op} {j : Nat} {want : Bool} {t : Tmp} (hj : (ops[j]?).bind (·.dst) = some t) (ht : lk env t = some (.bool want)) (hd : okD N d = true)
    (h : TL P w0 N Q ops ({ dst := d, op := op, type := ty, pos := pos, after := af, guard := none } :: rest) env own H) :
    TL P w0 N Q ops ({ dst := d, op := op, type := ty, pos := pos, after := af, guard := some (j, want) } :: rest) env own H :=
  TL.guard hj ht hd (fun _ => h) (fun hc => by cases want <;> cases hc)
theorem TL.gno {op : Op} {j : Nat} {want b : Bool} {t : Tmp} (hj : (ops[j]?).bind (·.dst) = some t) (ht : lk env t = some (.bool b)) (hb : b = !want) (hd : okD N d = true)
    (h : TL P w0 N Q ops rest (putE d undef env) own H) :
    TL P w0 N Q ops ({ dst := d, op := op, type := ty, pos := pos, after := af, guard := some (j, want) } :: rest) env own H :=
  TL.guard hj ht hd (fun hc => by subst hc; cases b <;> cases hb) (fun _ => h)
theorem TL.gund {op : Op} {j : Nat} {want : Bool} {t : Tmp} (hj : (ops[j]?).bind (·.dst) = some t) (ht : lk env t = some undef) (hd : okD N d = true)
    (h : TL P w0 N Q ops rest (putE d undef env) own H) :
    TL P w0 N Q ops ({ dst := d, op := op, type := ty, pos := pos, after := af, guard := some (j, want) } :: rest) env own H := fun a w ha hw => by
  have hy : yielded ops a.tmps j = none := by
    unfold yielded
    rw [hj]
    have h1 := ha.slots t _ ht
    simp [h1, undef]
  have h1 := h _ w (ha.put hd undef) hw
  simp only [wpList, Region.wanted, hy]
  rw [if_neg (by simp)]
  exact h1
end

/-- Plain values as data. -/
def D.One : D → Prop
  | .c v => v.oneCell' = true
  | .s _ _ => True
theorem RdL.ones {H : Hp} : ∀ {ds : List D} {vs : List Value}, RdL H ds vs → (∀ d ∈ ds, D.One d) → Ones vs
  | [], [], _, _ => trivial
  | d :: ds, v :: vs, h, ho => by
    refine ⟨?_, RdL.ones h.2 (fun x hx => ho x (List.mem_cons_of_mem _ hx))⟩
    have hd := ho d (by simp)
    have h1 := h.1
    cases d with
    | c u => simp only [rd] at h1; subst h1; exact hd
    | s sz xs => exact h1.one
  | [], _ :: _, h, _ => h.elim
  | _ :: _, [], h, _ => h.elim
theorem RdL.vals {H : Hp} : ∀ (l : List Value), RdL H (l.map D.c) l
  | [] => trivial
  | v :: r => ⟨by simp [rd], RdL.vals r⟩
theorem RdL.of_vals {H : Hp} : ∀ {l vs : List Value}, RdL H (l.map D.c) vs → vs = l
  | [], [], _ => rfl
  | v :: r, u :: s, h => by
    have h1 := h.1
    simp only [rd] at h1
    rw [h1, RdL.of_vals h.2]
  | [], _ :: _, h => h.elim
  | _ :: _, [], h => h.elim
/-- What is appended out of a slice that stays. -/
theorem rd.src {H : Hp} {sz : Nat} {xs : List D} {A : Option Addr} {n c : Nat} (h : rd H (.s sz xs) (.slice A n c)) (ho : ∀ d ∈ xs, D.One d) : ∃ news, (∀ w0 own, Src w0 H own A sz n news) ∧ RdL H xs news := by
  simp only [rd] at h
  obtain ⟨A', n', k', e, h2, h3, h3', h4⟩ := h
  injection e with e1 e2 e3
  subst e1; subst e2; subst e3
  rcases h4 with h4 | ⟨b, o, rfl, h4⟩
  · subst h4
    have : xs = [] := List.eq_nil_of_length_eq_zero (by simpa using h2)
    subst this
    exact ⟨[], fun _ _ => Src.nil, trivial⟩
  · obtain ⟨vs, h5, h6⟩ := rds.cells h4
    exact ⟨vs, fun _ _ => Src.imm (by rw [← h2, h6.len]) (h6.ones ho).all h5, h6⟩
theorem vals_src {w0 : World} {H : Hp} {own : List Seg} {l : List Value} {A : Option Addr} {n c : Nat} (h : rd H (.s 1 (l.map D.c)) (.slice A n c)) (ho : ∀ u ∈ l, u.oneCell' = true) : Src w0 H own A 1 n l := by
  obtain ⟨news, h1, h2⟩ := h.src (fun d hd => by obtain ⟨u, hu, rfl⟩ := List.mem_map.1 hd; exact ho u hu)
  rw [← RdL.of_vals h2]
  exact h1 w0 own
/-- A slice of plain data that stays, with its length and what is appended of it. -/
theorem rd.srcN {H : Hp} {sz m : Nat} {xs : List D} {v : Value} (h : rd H (.s sz xs) v) (hsz : 0 < sz) (hm : xs.length = m * sz) (ho : ∀ d ∈ xs, D.One d) : ∃ A c news, v = .slice A m c ∧ (∀ w0 own, Src w0 H own A sz m news) ∧ RdL H xs news := by
  obtain ⟨A, n, c, rfl, e1, _, _⟩ := h.s_len
  have : n = m := by
    have := e1.symm.trans hm
    exact Nat.eq_of_mul_eq_mul_right hsz this
  subst this
  obtain ⟨news, h1, h2⟩ := h.src ho
  exact ⟨A, c, news, rfl, h1, h2⟩
theorem rd.nil_of {H : Hp} {sz : Nat} {xs : List D} {A : Option Addr} {n c : Nat} (h : rd H (.s sz xs) (.slice A n c)) (hA : A = none) : xs = [] := by
  simp only [rd] at h
  obtain ⟨A', n', k', e, h2, h3, h3', h4⟩ := h
  injection e with e1 e2 e3
  subst e1; subst e2; subst e3; subst hA
  rcases h4 with h4 | ⟨b, o, h5, _⟩
  · subst h4; exact List.eq_nil_of_length_eq_zero (by simpa using h2)
  · cases h5
/-- Segments told apart in another way. -/
theorem St.flat {w0 w : World} {H : Hp} {own own' : List Seg} (h : St w0 H own w) (hf : own'.flatten.Perm own.flatten) : St w0 H own' w :=
  ⟨h.os, h.tape, h.output, h.imm, fun p hq => h.own_at p (hf.mem_iff.1 hq), fun p hq => h.apart p (hf.mem_iff.1 hq), ((hf.map _).nodup_iff).2 h.nodup⟩
theorem join_perm {a b : Seg} {r : List Seg} : ((b ++ a) :: r).flatten.Perm (a :: b :: r).flatten := by
  simp only [List.flatten_cons, ← List.append_assoc]
  exact List.Perm.append_right _ List.perm_append_comm
section
variable {P : Program} {w0 : World} {N : Nat} {Q : Exit → Act → World → Prop} {env : Env} {own : List Seg} {H : Hp} {ops : Array Oper} {rest : List Oper}
theorem TQ.nilseg {e : Exit} (h : TQ w0 N Q e env ([] :: own) H) : TQ w0 N Q e env own H := fun a w ha hw => h a w ha hw.nil_seg
theorem TQ.flat {e : Exit} {own' : List Seg} (hf : own'.flatten.Perm own.flatten) (h : TQ w0 N Q e env own' H) : TQ w0 N Q e env own H := fun a w ha hw => h a w ha (hw.flat hf)
theorem TL.flat {own' : List Seg} (hf : own'.flatten.Perm own.flatten) (h : TL P w0 N Q ops rest env own' H) : TL P w0 N Q ops rest env own H := fun a w ha hw => h a w ha (hw.flat hf)
theorem TC.flat {c : Code} {own' : List Seg} (hf : own'.flatten.Perm own.flatten) (h : TC P w0 N Q c env own' H) : TC P w0 N Q c env own H := fun a w ha hw => h a w ha (hw.flat hf)
end
end Go.Proofs.Ytapmmfabdmhdnaa.K
