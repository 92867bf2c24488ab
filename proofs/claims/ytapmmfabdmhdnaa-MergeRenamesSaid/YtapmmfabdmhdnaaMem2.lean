/-
  Memory under the judgement of Core, second part: stores, rows that grow, slices of slices, calls, the return.
  Everything here is a lemma over an arbitrary program P; no condition beyond those typed.
-/
import Derived.Test.YtapmmfabdmhdnaaMem
import Derived.Laws.CopyRow
import Derived.Laws.IdiomStrings
set_option linter.unusedVariables false
set_option linter.unusedSimpArgs false
namespace Go.Proofs.Ytapmmfabdmhdnaa.K
open Go Go.RowKit

/-- Cells written one after the other. -/
def putC (c : Array Value) : Nat → List Value → Array Value
  | _, [] => c
  | o, v :: r => putC (c.setIfInBounds o v) (o + 1) r
theorem putC_size (c : Array Value) (o : Nat) (vs : List Value) : (putC c o vs).size = c.size := by
  induction vs generalizing c o with
  | nil => rfl
  | cons v r ih => simp [putC, ih]

theorem run_storeCells {P : Program} (g o : Nat) (e : TypeId) : ∀ (vs : List Value) (i : Nat) (c : Array Value) (w : World), w.heap[g]? = some (.cells c e (0, 0)) → o + i + vs.length ≤ c.size → (∀ v ∈ vs, v.oneCell' = true) →
    (storeCells ⟨g, o, none⟩ vs i).run P w = .ok () (w.setRow g (putC c (o + i) vs))
  | [], i, c, w, hg, _, _ => by
    simp only [storeCells, putC]
    rw [setRow_self w g c e (0, 0) hg]; rfl
  | v :: r, i, c, w, hg, hl, h1 => by
    have hi : o + i < c.size := by simp at hl; omega
    have hcell : w.cell? ⟨g, o + i, none⟩ = some c[o + i] := by simp [World.cell?, hg, hi]
    have hfro : w.frozen? ⟨g, o + i, none⟩ = false := by simp [World.frozen?, hg]
    have hst : (store ((⟨g, o, none⟩ : Addr).add i) v).run P w = .ok () (w.setRow g (c.setIfInBounds (o + i) v)) := by
      rw [add_off, run_store P w _ v _ (h1 v (by simp)), hcell]
      simp [hfro, setCell_eq_setRow w g (o + i) c e (0, 0) v hg]
    have ih := run_storeCells (P := P) g o e r (i + 1) (c.setIfInBounds (o + i) v) (w.setRow g (c.setIfInBounds (o + i) v)) (setRow_heap w g c _ e _ hg) (by simp at hl ⊢; omega) (fun x hx => h1 x (by simp [hx]))
    simp only [storeCells, Sem.run_bind, hst, Result.andThen_ok, ih, setRow_setRow, putC]
    rfl

theorem St.setRow {w0 w : World} {own : List Seg} {H : Hp} (h : St w0 H own w) {i j : Nat} {seg : Seg} (hi : own[i]? = some seg) {g : Nat} {c c' : Array Value} {e : TypeId} {fz : Nat × Nat} (hj : seg[j]? = some (g, .cells c e fz)) :
    St w0 H (own.set i (seg.set j (g, .cells c' e fz))) (w.setRow g c') := by
  obtain ⟨l1, l2, rfl, rfl⟩ := split_at hj
  have hset : (l1 ++ (g, Obj.cells c e fz) :: l2).set l1.length (g, .cells c' e fz) = l1 ++ (g, .cells c' e fz) :: l2 := by simp
  rw [hset]
  have hb := h.own_blk hi hj
  have hk : (l1 ++ (g, Obj.cells c' e fz) :: l2).map (·.1) = (l1 ++ (g, Obj.cells c e fz) :: l2).map (·.1) := by simp
  have hnd : ((l1 ++ (g, Obj.cells c e fz) :: l2).map (·.1)).Nodup := by
    have hn := h.nodup
    obtain ⟨m1, m2, rfl, _⟩ := split_at hi
    simp only [List.flatten_append, List.flatten_cons, List.map_append, List.nodup_append] at hn
    simpa only [List.map_append, List.nodup_append] using hn.2.1.1
  refine h.upd hi rfl ⟨rfl, Nat.le_refl _⟩ rfl (fun b hbl hnb => setRow_other w g b _ (fun he => hnb (by subst he; simp))) (fun p hp => ?_) (by rw [hk]; exact hnd) (fun p hp => .inl (by rw [← hk]; exact List.mem_map.2 ⟨p, hp, rfl⟩))
  by_cases hpg : p.1 = g
  · have : p = (g, .cells c' e fz) := by
      have hn2 := hnd
      rw [← hk] at hn2
      simp only [List.map_append, List.map_cons, List.nodup_append, List.nodup_cons, List.mem_cons] at hn2
      obtain ⟨n1, ⟨n2, n3⟩, n4⟩ := hn2
      rcases List.mem_append.1 hp with hq | hq
      · exact absurd hpg (n4 p.1 (List.mem_map.2 ⟨p, hq, rfl⟩) g (.inl rfl))
      · rcases List.mem_cons.1 hq with rfl | hq
        · rfl
        · exact absurd (List.mem_map.2 ⟨p, hq, hpg⟩) n2
    subst this
    exact setRow_heap w g c c' e fz hb
  · rw [setRow_other w g p.1 _ hpg]
    refine h.own_at p (h.mem_at hi ?_)
    rcases List.mem_append.1 hp with hq | hq
    · exact List.mem_append.2 (.inl hq)
    · rcases List.mem_cons.1 hq with rfl | hq
      · exact absurd rfl hpg
      · exact List.mem_append.2 (.inr (List.mem_cons_of_mem _ hq))

section mem
variable {P : Program} {w0 : World} {N : Nat} {Q : Exit → Act → World → Prop} {env : Env} {own : List Seg} {H : Hp} {ops : Array Oper} {rest : List Oper}
variable {d : Option Tmp} {ty : TypeId} {pos : String} {af : Array Edge}

/-- A store into a block of our own. -/
theorem TL.store (i j : Nat) {t : TypeId} {x y : Operand} {g o : Nat} {seg : Seg} {c c' : Array Value} {e : TypeId} {agg : Bool} {n : Nat} {v : Value} {vs : List Value} {own' : List Seg}
    (hx : ev env x = some (.pointer (some ⟨g, o, none⟩))) (hy : ev env y = some v) (hi : own[i]? = some seg) (hj : seg[j]? = some (g, .cells c e (0, 0))) [ht : Ty P t agg n] (hv : v.cells = vs.toArray) (hn : vs.length = n)
    (h1 : ∀ u ∈ vs, u.oneCell' = true) (hf : o + vs.length ≤ c.size) (hc : putC c o vs = c') (ho : own.set i (seg.set j (g, .cells c' e (0, 0))) = own') (hd : okD N d = true)
    (h : TL P w0 N Q ops rest (putE d undef env) own' H) :
    TL P w0 N Q ops ({ dst := d, op := .store t x y, type := ty, pos := pos, after := af, guard := none } :: rest) env own H :=
  TL.skp rfl hd (fun a w ha hw => ⟨w.setRow g c', by
    have hb := hw.own_blk hi hj
    have hr := run_storeCells (P := P) g o e vs 0 c w hb (by simpa using hf) h1
    simp only [Nat.add_zero, hc] at hr
    simp [execOp, Instr.storeAt, Instr.sureAddr, storeVar, ha.ev hx, ha.ev hy, ht.size, hv, hn, hr], by rw [← ho]; exact hw.setRow hi hj⟩) h

/-- A struct or array by value. -/
theorem TL.build {t : TypeId} {ps : List (Nat × Operand)} {v : Value} (pv : List (Nat × Value))
    (hp : ∀ a, At N env a → ps.map (fun (k, x) => (k, a.eval x)) = pv)
    (hv : ∀ w, (Instr.build t pv.toArray).run P w = .ok v w)
    (hd : okD N d = true) (h : TL P w0 N Q ops rest (putE d v env) own H) :
    TL P w0 N Q ops ({ dst := d, op := .build t ps.toArray, type := ty, pos := pos, after := af, guard := none } :: rest) env own H :=
  TL.val0 hd (fun a ha w => by
    have h1 := hp a ha
    simp [execOp, h1, hv w]) h

/-- A slice literal: a new row. -/
theorem TL.buildSlice {t e : TypeId} {len : Nat} {ps : List (Nat × Operand)} {c : Array Value} (pv : List (Nat × Value))
    (hp : ∀ a, At N env a → ps.map (fun (k, x) => (k, a.eval x)) = pv)
    (hv : ∀ w, (Instr.buildSlice t len pv.toArray).run P w = .ok (.slice (some ⟨w.heap.size, 0, none⟩) len len) (w.alloc (.cells c e)))
    (hd : okD N d = true) (h : ∀ g, TL P w0 N Q ops rest (putE d (.slice (some ⟨g, 0, none⟩) len len) env) ([(g, .cells c e (0, 0))] :: own) H) :
    TL P w0 N Q ops ({ dst := d, op := .buildSlice t len ps.toArray, type := ty, pos := pos, after := af, guard := none } :: rest) env own H :=
  TL.valE (φ := fun v own' H' => ∃ g, v = .slice (some ⟨g, 0, none⟩) len len ∧ own' = [(g, .cells c e (0, 0))] :: own ∧ H' = H) rfl hd
    (fun a w ha hw => ⟨_, _, _, w.alloc (.cells c e), by
      have h1 := hp a ha
      simp [execOp, h1, hv w], ⟨w.heap.size, rfl, rfl, rfl⟩, hw.new _⟩)
    (by rintro v own' H' ⟨g, rfl, rfl, rfl⟩; exact h g)

theorem TL.makeSlice {t e : TypeId} {x y : Operand} {sz by_ : Nat} {z : Value} {kl kc : IntKind} {l : Int} (n : Nat) [hU : Sl P t e sz by_ z]
    (hx : ev env x = some (.int kl l)) (hy : ev env y = some (.int kc l)) (hl : l = (n : Int)) (hb : by_ * n ≤ 281474976710656) (hm : n ≤ 9223372036854775807) (hd : okD N d = true)
    (h : ∀ g, TL P w0 N Q ops rest (putE d (.slice (some ⟨g, 0, none⟩) n n) env) ([(g, .cells (madeCells z.cells (n * sz)) e (0, 0))] :: own) H) :
    TL P w0 N Q ops ({ dst := d, op := .makeSlice t x y, type := ty, pos := pos, after := af, guard := none } :: rest) env own H :=
  TL.valE (φ := fun v own' H' => ∃ g, v = .slice (some ⟨g, 0, none⟩) n n ∧ own' = [(g, .cells (madeCells z.cells (n * sz)) e (0, 0))] :: own ∧ H' = H) rfl hd
    (fun a w ha hw => by
      obtain ⟨i, hi, hz, rfl, rfl⟩ := hU.ex
      subst hl
      have hbi : (i.bytes : Int) * (n : Int) ≤ 281474976710656 := by
        have : ((i.bytes * n : Nat) : Int) ≤ 281474976710656 := by omega
        rwa [Int.natCast_mul] at this
      have hr := run_make (P := P) w t e i z hU.und hi hz kl kc (n : Int) (n : Int) (by omega) (Int.le_refl _) hbi (by omega)
      simp only [Int.toNat_natCast] at hr
      exact ⟨_, _, _, w.alloc (.cells (madeCells z.cells (n * i.size)) e), by simp [execOp, ha.ev hx, ha.ev hy, hr], ⟨w.heap.size, rfl, rfl, rfl⟩, hw.new _⟩)
    (by rintro v own' H' ⟨g, rfl, rfl, rfl⟩; exact h g)

/-! rows that grow -/
/-- The slice value v holds n elements (cells xs) in a row of our own, the segment seg. -/
def Row (e : TypeId) (sz : Nat) (v : Value) (n : Nat) (xs : List Value) (seg : Seg) : Prop :=
  xs.length = n * sz ∧ ((v = .slice none 0 0 ∧ n = 0 ∧ seg = []) ∨
    ∃ g cap cur, v = .slice (some ⟨g, 0, none⟩) n cap ∧ seg = [(g, .cells cur e (0, 0))] ∧ n ≤ cap ∧ cap ≤ maxLen ∧ cur.size = cap * sz ∧ cur.toList.take (n * sz) = xs)

theorem Row.nil (e : TypeId) (sz : Nat) : Row e sz (.slice none 0 0) 0 [] [] := ⟨by simp, .inl ⟨rfl, rfl, rfl⟩⟩
theorem Row.lit (e : TypeId) (sz n g : Nat) (c : Array Value) (hs : c.size = n * sz) (hm : n ≤ 9223372036854775807) : Row e sz (.slice (some ⟨g, 0, none⟩) n n) n c.toList [(g, .cells c e (0, 0))] :=
  ⟨by simp [hs], .inr ⟨g, n, c, rfl, rfl, Nat.le_refl _, hm, hs, by rw [← hs, ← Array.length_toList, List.take_length]⟩⟩

theorem Row.owns {e : TypeId} {sz : Nat} {v : Value} {n : Nat} {xs : List Value} {seg : Seg} (h : Row e sz v n xs seg) {w0 w : World} {H : Hp} {own : List Seg} (hw : St w0 H own w) {i : Nat} (hi : own[i]? = some seg) : w.ownsRow 0 e sz v n xs := by
  refine ⟨h.1, ?_⟩
  rcases h.2 with ⟨rfl, rfl, _⟩ | ⟨g, cap, cur, rfl, rfl, h1, h2, h3, h4⟩
  · exact .inl ⟨rfl, rfl⟩
  · exact .inr ⟨g, cap, cur, rfl, Nat.zero_le _, hw.own_blk hi (j := 0) rfl, h1, h2, h3, h4⟩

/-- What is appended: cells that every world of the state holds at the address. -/
def Src (w0 : World) (H : Hp) (own : List Seg) (A : Option Addr) (sz m : Nat) (news : List Value) : Prop :=
  news.length = m * sz ∧ (∀ u ∈ news, u.oneCell' = true) ∧ (m = 0 ∧ news = [] ∨ ∃ b o, A = some ⟨b, o, none⟩ ∧ ∀ W, St w0 H own W → ∀ j u, news[j]? = some u → W.cell? ⟨b, o + j, none⟩ = some u)

theorem Src.ofOwn (i j : Nat) {w0 : World} {H : Hp} {own : List Seg} {seg : Seg} {g o sz m : Nat} {c : Array Value} {e : TypeId} {fz : Nat × Nat} {news : List Value} (hi : own[i]? = some seg) (hj : seg[j]? = some (g, .cells c e fz))
    (hl : news.length = m * sz) (h1 : ∀ u ∈ news, u.oneCell' = true) (hc : cAt c o news) : Src w0 H own (some ⟨g, o, none⟩) sz m news :=
  ⟨hl, h1, .inr ⟨g, o, rfl, fun _ hw k u hu => by rw [cell_of_cells (hw.own_blk hi hj)]; exact hc.get k u hu⟩⟩
theorem Src.imm {w0 : World} {H : Hp} {own : List Seg} {b o sz m : Nat} {news : List Value}
    (hl : news.length = m * sz) (h1 : ∀ u ∈ news, u.oneCell' = true) (hc : hAt H b o news) : Src w0 H own (some ⟨b, o, none⟩) sz m news :=
  ⟨hl, h1, .inr ⟨b, o, rfl, fun _ hw k u hu => hw.cel (hc.get k u hu)⟩⟩
theorem Src.nil {w0 : World} {H : Hp} {own : List Seg} {A : Option Addr} {sz : Nat} : Src w0 H own A sz 0 [] := ⟨by simp, by simp, .inl ⟨rfl, rfl⟩⟩

theorem run_append_of_none {P : Program} (w : World) (t ty e : TypeId) (i : TypeInfo) (size : Nat) (ht : P.underlying t = some (.slice e)) (hi : P.info? e = some i)
    (v : Value) (n : Nat) (xs : List Value) (hown : w.ownsRow 0 e size v n xs) (c : Nat) : (Builtin.append_ #[t, t] ty #[v, .slice none 0 c]).run P w = .ok v w := by
  rcases hown.2 with ⟨rfl, rfl⟩ | ⟨g, cap, cur, rfl, _, _, hnc, _⟩
  · simp [Builtin.append_, run_underlying ht, sizeOf, typeInfo, hi, Builtin.lenOf, Builtin.firstCells]
  · simp [Builtin.append_, run_underlying ht, sizeOf, typeInfo, hi, Builtin.lenOf, Builtin.firstCells, hnc, storeCells]

theorem run_append_row {P : Program} {w0 w : World} {H : Hp} {own : List Seg} (hw : St w0 H own w) {t ty e : TypeId} {i : TypeInfo} {z : Value} {size : Nat} (ht : P.underlying t = some (.slice e)) (hi : P.info? e = some i) (hz : i.zero = some z)
    (hsize : i.size = size) (hzs : z.cells.size = size) (hsz : 0 < size) {k : Nat} {seg : Seg} (hk : own[k]? = some seg)
    {v : Value} {n : Nat} {xs : List Value} (hrow : Row e size v n xs seg) {A : Option Addr} {m c : Nat} {news : List Value} (hsrc : Src w0 H own A size m news)
    (h63 : n + m ≤ 9223372036854775807) (hbytes : (n + m) * i.bytes ≤ 140737488355328) :
    ∃ v' seg' w', (Builtin.append_ #[t, t] ty #[v, .slice A m c]).run P w = .ok v' w' ∧ Row e size v' (n + m) (xs ++ news) seg' ∧ St w0 H (own.set k seg') w' := by
  have hown := hrow.owns hw hk
  have key : ∀ (a : Addr), (∀ j u, news[j]? = some u → w.cell? (a.add j) = some u) → ∃ v' seg' w', (Builtin.append_ #[t, t] ty #[v, .slice (some a) m c]).run P w = .ok v' w' ∧ Row e size v' (n + m) (xs ++ news) seg' ∧ St w0 H (own.set k seg') w' := by
    intro a hnews
    obtain ⟨v', w', hr, hown', hg, _, hat⟩ := run_append_own_at (P := P) w 0 t ty e i z size i.bytes ht hi hz hsize rfl hzs hsz v n xs hown a m c news hsrc.1 hnews hsrc.2.1 h63 hbytes (Nat.zero_le _)
    rcases hown'.2 with ⟨rfl, hn0⟩ | ⟨g, cap, cur, rfl, _, hg', q1, q2, q3, q4⟩
    · refine ⟨_, [], w', hr, ⟨hown'.1, .inl ⟨rfl, hn0, rfl⟩⟩, ?_⟩
      refine hw.upd hk hg.os ⟨hg.tape, run_drawn _ _ _ _ hr⟩ hg.output (fun b hb hnb => hg.block b hb ?_) (by simp) (by simp) (by simp)
      intro he
      rcases hrow.2 with ⟨rfl, _, _⟩ | ⟨g, cap, cur, rfl, rfl, _⟩
      · simp [Value.ownBlock] at he
      · simp [Value.ownBlock] at he; subst he; simp at hnb
    · refine ⟨_, [(g, .cells cur e (0, 0))], w', hr, ⟨hown'.1, .inr ⟨g, cap, cur, rfl, rfl, q1, q2, q3, q4⟩⟩, ?_⟩
      refine hw.upd hk hg.os ⟨hg.tape, run_drawn _ _ _ _ hr⟩ hg.output (fun b hb hnb => hg.block b hb ?_) (by simpa using hg') (by simp) ?_
      · intro he
        rcases hrow.2 with ⟨rfl, _, _⟩ | ⟨g, cap, cur, rfl, rfl, _⟩
        · simp [Value.ownBlock] at he
        · simp [Value.ownBlock] at he; subst he; simp at hnb
      · intro p hp
        simp only [List.mem_singleton] at hp
        subst hp
        simp only [Value.ownBlock] at hat
        rcases hat with hat | hat
        · rcases hrow.2 with ⟨rfl, _, _⟩ | ⟨g2, cap2, cur2, rfl, rfl, _⟩
          · simp at hat
          · simp at hat; subst hat; left; simp
        · simp at hat; right; simp [hat]
  obtain ⟨hl, h1, hs⟩ := hsrc
  rcases hs with ⟨rfl, rfl⟩ | ⟨b, o, rfl, hcells⟩
  · rcases A with _ | a
    · refine ⟨v, seg, w, run_append_of_none w t ty e i size ht hi v n xs hown c, by simpa using hrow, ?_⟩
      have : own.set k seg = own := by
        obtain ⟨l1, l2, rfl, rfl⟩ := split_at hk
        simp
      rw [this]; exact hw
    · exact key a (by simp)
  · exact key _ (fun j u hu => by rw [add_off]; exact hcells w hw j u hu)

theorem TL.append (k : Nat) {t e : TypeId} {x y : Operand} {size by_ : Nat} {z : Value} [hU : Sl P t e size by_ z] {seg : Seg} {v : Value} {A : Option Addr} {n m c : Nat} {xs news : List Value} (hx : ev env x = some v) (hy : ev env y = some (.slice A m c)) (hk : own[k]? = some seg)
    (hrow : Row e size v n xs seg) (hsrc : Src w0 H own A size m news) (h63 : n + m ≤ 9223372036854775807) (hbytes : (n + m) * by_ ≤ 140737488355328) (hd : okD N d = true)
    (h : ∀ v' seg', Row e size v' (n + m) (xs ++ news) seg' → TL P w0 N Q ops rest (putE d v' env) (own.set k seg') H) :
    TL P w0 N Q ops ({ dst := d, op := .call { callee := .builtin .append, args := #[x, y], argTypes := #[t, t] }, type := ty, pos := pos, after := af, guard := none } :: rest) env own H :=
  TL.valE (φ := fun v own' H' => ∃ seg', Row e size v (n + m) (xs ++ news) seg' ∧ own' = own.set k seg' ∧ H' = H) rfl hd
    (fun a w ha hw => by
      obtain ⟨i, hi, hz, hs, hb⟩ := hU.ex
      obtain ⟨v', seg', w', hr, h1, h2⟩ := run_append_row (P := P) (ty := ty) (c := c) hw hU.und hi hz hs hU.zs hU.pos hk hrow hsrc h63 (by rw [hb]; exact hbytes)
      exact ⟨v', _, _, w', by simp [execOp, resolve, invoke, builtin, ha.ev hx, ha.ev hy, hr], ⟨seg', h1, rfl, rfl⟩, h2⟩)
    (by rintro v own' H' ⟨seg', h1, rfl, rfl⟩; exact h v seg' h1)

/-! slices of slices -/
def optI (env : Env) : Option Operand → Option Int → Prop
  | none, r => r = none
  | some x, r => ∃ k n, r = some n ∧ ev env x = some (.int k n)

theorem TL.slice {t e : TypeId} {x : Operand} {lo hi : Option Operand} {A : Option Addr} {n c : Nat} {sz by_ : Nat} {z : Value} {li ri : Option Int} (l r : Nat) (hx : ev env x = some (.slice A n c)) [hU : Sl P t e sz by_ z]
    (h1 : optI env lo li) (h2 : optI env hi ri) (hl : li.getD 0 = (l : Int)) (hr : ri.getD (n : Int) = (r : Int)) (hlr : l ≤ r) (hrc : r ≤ c) (hd : okD N d = true)
    (h : TL P w0 N Q ops rest (putE d (.slice (if c = l then A else A.map (·.add (l * sz))) (r - l) (c - l)) env) own H) :
    TL P w0 N Q ops ({ dst := d, op := .slice t x lo hi none, type := ty, pos := pos, after := af, guard := none } :: rest) env own H :=
  TL.val0 hd (fun a ha w => by
    have hb : (Instr.sliceBounds true n c (lo.map a.eval) (hi.map a.eval) none).run P w = .ok (l, r, c) w := by
      cases lo with
      | none =>
        simp only [optI] at h1
        subst h1
        have e1 : l = 0 := by simp at hl; omega
        subst e1
        cases hi with
        | none =>
          simp only [optI] at h2
          subst h2
          have e2 : n = r := by simp at hr; omega
          subst e2
          simp [Instr.sliceBounds]
        | some y2 =>
          obtain ⟨k2, q2, rfl, hq2⟩ := h2
          have e2 : q2 = (r : Int) := by simpa using hr
          subst e2
          simp [Instr.sliceBounds, Instr.sliceBound, asIntOf, ha.ev hq2, hrc]
      | some y1 =>
        obtain ⟨k1, q1, rfl, hq1⟩ := h1
        have e1 : q1 = (l : Int) := by simpa using hl
        subst e1
        cases hi with
        | none =>
          simp only [optI] at h2
          subst h2
          have e2 : n = r := by simp at hr; omega
          subst e2
          simp [Instr.sliceBounds, Instr.sliceBound, asIntOf, ha.ev hq1, hlr]
        | some y2 =>
          obtain ⟨k2, q2, rfl, hq2⟩ := h2
          have e2 : q2 = (r : Int) := by simpa using hr
          subst e2
          simp [Instr.sliceBounds, Instr.sliceBound, asIntOf, ha.ev hq1, ha.ev hq2, hrc, hlr]
    simp [execOp, Instr.sliceAt, Instr.slice, run_underlying hU.und, ha.ev hx, hb, hU.sizeOf]) h
end mem
end Go.Proofs.Ytapmmfabdmhdnaa.K
