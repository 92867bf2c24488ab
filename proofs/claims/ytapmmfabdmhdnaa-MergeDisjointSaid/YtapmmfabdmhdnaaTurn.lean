/-
  One change of a tree, as a plain function; sizes; kids that are set one by one, as they lie in memory.
-/
import Derived.Test.YtapmmfabdmhdnaaNode
set_option linter.unusedVariables false
set_option linter.unusedSimpArgs false
namespace Go.Proofs.Ytapmmfabdmhdnaa.K
open Go Go.RowKit

def labW (c : Nat) (x : Int) : ByteArray := ⟨[UInt8.ofNat (c + x.toNat)].toArray⟩
def freshP (q2 : Int) : Tr := .node (labW 112 (q2.tdiv 7 % 6)) []
def turnL (f : Tr → Nat → Tr) : List Tr → Nat → Nat → List Tr
  | [], _, _ => []
  | t :: r, n, a => (if a ≤ n ∧ n < a + t.size then f t (n - a) else t) :: turnL f r n (a + t.size)
def editP (q1 q2 : Int) (l : ByteArray) (ks : List Tr) : Tr :=
  let k := (q2 % ((ks.length : Int) + 1)).toNat
  if q1 % 5 = 0 then .node (freshP q2).lab ks
  else if q1 % 5 = 1 then .node l (ks.take k ++ [freshP q2] ++ ks.drop k)
  else if q1 % 5 = 2 then .node l (if k < ks.length then ks.take k ++ ks.drop (k + 1) else ks)
  else if q1 % 5 = 3 then .node l (if k < ks.length then ks.set k (freshP q2) else ks)
  else .node l ks.reverse
def turnP (q1 q2 : Int) : Nat → Tr → Nat → Tr
  | 0, t, _ => t
  | c + 1, .node l ks, n => if n = 0 then editP q1 q2 l ks else .node l (turnL (turnP q1 q2 c) ks n 1)
def turnedP (t : Tr) (q : Int × Int × Int) : Tr := turnP q.2.1 q.2.2 t.size t (q.1 % (t.size : Int)).toNat
def changedP (t : Tr) (q : List (Int × Int × Int)) : Tr := (q.take 6).foldl turnedP t

/-! sizes -/
theorem sizes_set : ∀ (ks : List Tr) (k : Nat) (t : Tr), Tr.sizes (ks.set k t) ≤ Tr.sizes ks + t.size
  | [], _, _ => by simp [Tr.sizes]
  | a :: r, 0, t => by simp only [List.set_cons_zero, Tr.sizes]; omega
  | a :: r, k + 1, t => by
    have := sizes_set r k t
    simp only [List.set_cons_succ, Tr.sizes]; omega
theorem sizes_set1 : ∀ {ks : List Tr} {k : Nat} {t u : Tr}, ks[k]? = some u → Tr.sizes (ks.set k t) + u.size = Tr.sizes ks + t.size
  | [], _, _, _, h => by simp at h
  | a :: r, 0, t, u, h => by simp at h; subst h; simp only [List.set_cons_zero, Tr.sizes]; omega
  | a :: r, k + 1, t, u, h => by
    have := sizes_set1 (ks := r) (k := k) (t := t) (u := u) (by simpa using h)
    simp only [List.set_cons_succ, Tr.sizes]; omega
theorem sizes_rev : ∀ (ks : List Tr), Tr.sizes ks.reverse = Tr.sizes ks
  | [] => rfl
  | a :: r => by simp only [List.reverse_cons, sizes_append, sizes_rev r, Tr.sizes]; omega
theorem sizes_split (ks : List Tr) (k : Nat) : Tr.sizes (ks.take k) + Tr.sizes (ks.drop k) = Tr.sizes ks := by
  rw [← sizes_append, List.take_append_drop]
theorem fresh_size (q2 : Int) : (freshP q2).size = 1 := by simp [freshP, Tr.size, Tr.sizes]
theorem editP_size (q1 q2 : Int) (l : ByteArray) (ks : List Tr) : (editP q1 q2 l ks).size ≤ (Tr.node l ks).size + 1 := by
  have hf := fresh_size q2
  unfold editP
  simp only
  generalize (q2 % ((ks.length : Int) + 1)).toNat = k
  have h1 := sizes_split ks k
  have h2 := sizes_split ks (k + 1)
  have h4 : Tr.sizes (ks.take k) ≤ Tr.sizes (ks.take (k + 1)) := by
    have := sizes_take' (ks.take (k + 1)) k
    rwa [List.take_take, Nat.min_eq_left (by omega)] at this
  split
  · simp only [Tr.size]; omega
  · split
    · simp only [Tr.size, sizes_append, Tr.sizes]; omega
    · split
      · split
        · simp only [Tr.size, sizes_append]; omega
        · simp only [Tr.size]; omega
      · split
        · split
          · have := sizes_set ks k (freshP q2)
            simp only [Tr.size]; omega
          · simp only [Tr.size]; omega
        · simp only [Tr.size, sizes_rev]; omega
theorem turnL_size {f : Tr → Nat → Tr} : ∀ {ks : List Tr} {n a : Nat}, (∀ t ∈ ks, ∀ m, (f t m).size ≤ t.size + 1) → Tr.sizes (turnL f ks n a) ≤ Tr.sizes ks + (if a ≤ n then 1 else 0)
  | [], n, a, _ => by simp [turnL, Tr.sizes]
  | t :: r, n, a, h => by
    have ih := turnL_size (f := f) (ks := r) (n := n) (a := a + t.size) (fun u hu m => h u (by simp [hu]) m)
    have h1 := h t (by simp) (n - a)
    simp only [turnL, Tr.sizes]
    split at ih <;> split <;> (try split) <;> omega
theorem turnP_size (q1 q2 : Int) : ∀ (c : Nat) (t : Tr) (n : Nat), (turnP q1 q2 c t n).size ≤ t.size + 1
  | 0, t, n => by simp [turnP]
  | c + 1, .node l ks, n => by
    simp only [turnP]
    split
    · exact editP_size _ _ _ _
    · have := turnL_size (f := turnP q1 q2 c) (ks := ks) (n := n) (a := 1) (fun t _ m => turnP_size q1 q2 c t m)
      simp only [Tr.size]
      split at this <;> omega
theorem turnedP_size (t : Tr) (q : Int × Int × Int) : (turnedP t q).size ≤ t.size + 1 := turnP_size _ _ _ _ _
theorem fold_size : ∀ (q : List (Int × Int × Int)) (t : Tr), (q.foldl turnedP t).size ≤ t.size + q.length
  | [], t => by simp
  | a :: q, t => by
    have h1 := fold_size q (turnedP t a)
    have h2 := turnedP_size t a
    simp only [List.foldl_cons, List.length_cons]; omega
theorem changedP_size (t : Tr) (q : List (Int × Int × Int)) : (changedP t q).size ≤ t.size + 6 := by
  have := fold_size (q.take 6) t
  have h2 : (q.take 6).length ≤ 6 := by simp; omega
  unfold changedP; omega

/-! kids one by one -/
theorem turnL_len (f : Tr → Nat → Tr) : ∀ (ks : List Tr) (n a : Nat), (turnL f ks n a).length = ks.length
  | [], _, _ => rfl
  | t :: r, n, a => by simp [turnL, turnL_len f r]
theorem turnL_get {f : Tr → Nat → Tr} : ∀ {ks : List Tr} {n a k : Nat} {t : Tr}, ks[k]? = some t →
    (turnL f ks n a)[k]? = some (if a + Tr.sizes (ks.take k) ≤ n ∧ n < a + Tr.sizes (ks.take k) + t.size then f t (n - (a + Tr.sizes (ks.take k))) else t)
  | [], _, _, _, _, h => by simp at h
  | u :: r, n, a, 0, t, h => by simp at h; subst h; simp [turnL, Tr.sizes]
  | u :: r, n, a, k + 1, t, h => by
    have := turnL_get (f := f) (ks := r) (n := n) (a := a + u.size) (k := k) (t := t) (by simpa using h)
    simp only [turnL, List.getElem?_cons_succ, List.take_succ_cons, Tr.sizes]
    rw [this, Nat.add_assoc]
/-- The first k kids done. -/
def turnTo (f : Tr → Nat → Tr) (ks : List Tr) (n k : Nat) : List Tr := (turnL f ks n 1).take k ++ ks.drop k
theorem turnTo_len (f : Tr → Nat → Tr) (ks : List Tr) (n k : Nat) (h : k ≤ ks.length) : (turnTo f ks n k).length = ks.length := by
  simp [turnTo, turnL_len]; omega
theorem turnTo_get {f : Tr → Nat → Tr} {ks : List Tr} {n k : Nat} {t : Tr} (h : ks[k]? = some t) : (turnTo f ks n k)[k]? = some t := by
  have hlt := (List.getElem?_eq_some_iff.1 h).1
  have e : ((turnL f ks n 1).take k).length = k := by simp [turnL_len]; omega
  unfold turnTo
  rw [List.getElem?_append_right (by omega), e, Nat.sub_self, List.getElem?_drop]
  simpa using h
theorem turnTo_succ {f : Tr → Nat → Tr} {ks : List Tr} {n k : Nat} {t u : Tr} (h : ks[k]? = some t) (hu : (turnL f ks n 1)[k]? = some u) : turnTo f ks n (k + 1) = (turnTo f ks n k).set k u := by
  have hlt := (List.getElem?_eq_some_iff.1 h).1
  have e : ((turnL f ks n 1).take k).length = k := by simp [turnL_len]; omega
  unfold turnTo
  rw [List.set_append_right _ _ (by omega), e, Nat.sub_self, List.take_add_one, hu, List.drop_eq_getElem_cons hlt, List.set_cons_zero]
  simp only [Option.toList_some, List.append_assoc, List.cons_append, List.nil_append]
theorem turnTo_all (f : Tr → Nat → Tr) (ks : List Tr) (n k : Nat) (h : ks.length ≤ k) : turnTo f ks n k = turnL f ks n 1 := by
  unfold turnTo
  rw [List.take_of_length_le (by rw [turnL_len]; exact h), List.drop_of_length_le h, List.append_nil]
theorem turnTo_zero (f : Tr → Nat → Tr) (ks : List Tr) (n : Nat) : turnTo f ks n 0 = ks := by simp [turnTo]
theorem turnL_zero (f : Tr → Nat → Tr) : ∀ (ks : List Tr) (a : Nat), 0 < a → turnL f ks 0 a = ks
  | [], _, _ => rfl
  | t :: r, a, h => by
    simp only [turnL]
    rw [if_neg (by omega), turnL_zero f r _ (by omega)]

theorem Tr.ds_set (t : Tr) : ∀ (ks : List Tr) (k : Nat), Tr.ds (ks.set k t) = ((Tr.ds ks).set (k * 2) (.c (.string t.lab))).set (k * 2 + 1) (.s 2 (Tr.ds t.kids))
  | [], k => by simp [Tr.ds]
  | .node l kk :: r, 0 => by
    obtain ⟨tl, tk⟩ := t
    simp [Tr.ds, Tr.d, Tr.lab, Tr.kids]
  | .node l kk :: r, k + 1 => by
    have ih := Tr.ds_set t r k
    simp only [List.set_cons_succ, Tr.ds, Tr.d, ih]
    rw [show (k + 1) * 2 = k * 2 + 1 + 1 by omega]
    rfl
theorem trs_set {H : Hp} {ks : List Tr} {vs : List Value} {k : Nat} {t : Tr} {p0 p1 : Value} (h : RdL H (Tr.ds ks) vs) (ht : RdL H t.d [p0, p1]) : RdL H (Tr.ds (ks.set k t)) ((vs.set (k * 2) p0).set (k * 2 + 1) p1) := by
  rw [Tr.ds_set]
  obtain ⟨l, kk⟩ := t
  simp only [Tr.d] at ht
  exact (h.set ht.1).set ht.2.1
theorem ds_get : ∀ {ks : List Tr} {k : Nat} {t : Tr}, ks[k]? = some t → (Tr.ds ks)[k * 2]? = some (.c (.string t.lab)) ∧ (Tr.ds ks)[k * 2 + 1]? = some (.s 2 (Tr.ds t.kids))
  | [], _, _, h => by simp at h
  | .node l kk :: r, 0, t, h => by simp at h; subst h; simp [Tr.ds, Tr.d, Tr.lab, Tr.kids]
  | .node l kk :: r, k + 1, t, h => by
    have := ds_get (ks := r) (k := k) (t := t) (by simpa using h)
    rw [show (k + 1) * 2 = k * 2 + 1 + 1 by omega]
    simpa [Tr.ds, Tr.d] using this
/-- A tree's two cells among those of a row of trees. -/
theorem trs_get {H : Hp} {ks : List Tr} {vs : List Value} {k : Nat} {t : Tr} (h : RdL H (Tr.ds ks) vs) (ht : ks[k]? = some t) : ∃ c0 c1, vs[k * 2]? = some c0 ∧ vs[k * 2 + 1]? = some c1 ∧ RdL H t.d [c0, c1] := by
  obtain ⟨h1, h2⟩ := ds_get ht
  obtain ⟨c0, g1, r1⟩ := h.get _ _ h1
  obtain ⟨c1, g2, r2⟩ := h.get _ _ h2
  obtain ⟨l, kk⟩ := t
  exact ⟨c0, c1, g1, g2, by simp only [Tr.d]; exact ⟨r1, r2, trivial⟩⟩
theorem row_cells {cur : Array Value} {vs : List Value} {m k : Nat} {c0 c1 : Value} (h : cur.toList.take m = vs) (h0 : vs[k * 2]? = some c0) (h1 : vs[k * 2 + 1]? = some c1) : cAt cur (0 + k * 2) [c0, c1] := by
  have key : ∀ (j : Nat) (v : Value), vs[j]? = some v → lget cur.toList j = some v := by
    intro j v hv
    rw [← h, List.getElem?_take] at hv
    rw [lget_eq]
    split at hv
    · exact hv
    · cases hv
  exact ⟨by rw [Nat.zero_add]; exact key _ _ h0, by rw [show 0 + k * 2 + 1 = k * 2 + 1 by omega]; exact key _ _ h1, trivial⟩
theorem row_put {cur : Array Value} {vs : List Value} {m k : Nat} (a b : Value) (h : cur.toList.take m = vs) (hk : k * 2 + 1 < m) : (putC cur (0 + k * 2) [a, b]).toList.take m = (vs.set (k * 2) a).set (k * 2 + 1) b := by
  simp only [putC, Nat.zero_add, Array.toList_setIfInBounds]
  rw [List.take_set, List.take_set, h]

/-! a row, or an empty slice without capacity -/
def RowA (e : TypeId) (sz : Nat) (v : Value) (n : Nat) (xs : List Value) (seg : Seg) : Prop := Row e sz v n xs seg ∨ (∃ A, v = .slice A 0 0 ∧ n = 0 ∧ xs = [] ∧ seg = [])
theorem RowA.one {e : TypeId} {sz : Nat} {v : Value} {n : Nat} {xs : List Value} {seg : Seg} (h : RowA e sz v n xs seg) : v.oneCell' = true := by
  rcases h with h | ⟨A, rfl, _⟩
  · exact h.one
  · rfl
theorem RowA.len {e : TypeId} {sz : Nat} {v : Value} {n : Nat} {xs : List Value} {seg : Seg} (h : RowA e sz v n xs seg) : (∃ A c, v = .slice A n c ∧ n ≤ c ∧ c ≤ 9223372036854775807) ∧ xs.length = n * sz := by
  rcases h with ⟨hl, h⟩ | ⟨A, rfl, rfl, rfl, _⟩
  · refine ⟨?_, hl⟩
    rcases h with ⟨rfl, rfl, _⟩ | ⟨g, cap, cur, rfl, _, h1, h2, _⟩
    · exact ⟨_, _, rfl, by omega, by omega⟩
    · exact ⟨_, _, rfl, h1, by simpa [maxLen] using h2⟩
  · exact ⟨⟨_, _, rfl, by omega, by omega⟩, by simp⟩
theorem RowA.open {e : TypeId} {sz : Nat} {v : Value} {n : Nat} {xs : List Value} {seg : Seg} (h : RowA e sz v n xs seg) (hn : 0 < n) : xs.length = n * sz ∧ ∃ g cap cur, v = .slice (some ⟨g, 0, none⟩) n cap ∧ seg = [(g, .cells cur e (0, 0))] ∧ n ≤ cap ∧ cap ≤ maxLen ∧ cur.size = cap * sz ∧ cur.toList.take (n * sz) = xs := by
  rcases h with ⟨hl, h⟩ | ⟨A, rfl, rfl, rfl, _⟩
  · rcases h with ⟨rfl, rfl, _⟩ | h
    · omega
    · exact ⟨hl, h⟩
  · omega
theorem rd.ofRowA {H H' : Hp} {e : TypeId} {sz : Nat} {v : Value} {n : Nat} {xs : List Value} {seg : Seg} {ds : List D} (h : RowA e sz v n xs seg) (hH : ∀ p ∈ seg, H' p.1 = some p.2) (hr : RdL H ds xs) (hl : Le H H') : rd H' (.s sz ds) v := by
  rcases h with h | ⟨A, rfl, rfl, rfl, _⟩
  · exact rd.ofRow h hH hr hl
  · have : ds = [] := List.eq_nil_of_length_eq_zero (by rw [hr.len]; rfl)
    subst this
    simp only [rd]
    exact ⟨A, 0, 0, rfl, by simp, Nat.le_refl _, by omega, .inl rfl⟩
theorem loadCells_zero {P : Program} (a : Addr) (w : World) : (loadCells a 0).run P w = .ok #[] w := by
  simp [loadCells, loadCellsFrom]
theorem run_append_bare {P : Program} (w : World) {t ty e : TypeId} {i : TypeInfo} (ht : P.underlying t = some (.slice e)) (hi : P.info? e = some i) (a : Addr) (B : Option Addr) {m : Nat} (c : Nat) (hm : 0 < m) (hb : m * i.bytes ≤ 140737488355328) :
    (Builtin.append_ #[t, t] ty #[.slice (some a) 0 0, .slice B m c]).run P w = (Builtin.append_ #[t, t] ty #[.slice none 0 0, .slice B m c]).run P w := by
  have hn : Builtin.nextslicecap m 0 = m := by unfold Builtin.nextslicecap; rw [if_pos (by omega)]
  have hb2 : ¬ (m * i.bytes > 281474976710656) := by omega
  have hm0 : m ≠ 0 := by omega
  simp [Builtin.append_, run_underlying ht, sizeOf, typeInfo, hi, Builtin.lenOf, Builtin.firstCells, hn, hb2, hm0, loadCells_zero]
section
variable {P : Program} {w0 : World} {N : Nat} {Q : Exit → Act → World → Prop} {env : Env} {own : List Seg} {H : Hp} {ops : Array Oper} {rest : List Oper}
variable {d : Option Tmp} {ty : TypeId} {pos : String} {af : Array Edge}
theorem TL.appendA (k : Nat) {t e : TypeId} {x y : Operand} {size by_ : Nat} {z : Value} [hU : Sl P t e size by_ z] {seg : Seg} {v : Value} {A : Option Addr} {n m c : Nat} {xs news : List Value} (hx : ev env x = some v) (hy : ev env y = some (.slice A m c)) (hk : own[k]? = some seg)
    (hrow : RowA e size v n xs seg) (hsrc : Src w0 H own A size m news) (h63 : n + m ≤ 9223372036854775807) (hbytes : (n + m) * by_ ≤ 140737488355328) (hd : okD N d = true)
    (h : ∀ v' seg', RowA e size v' (n + m) (xs ++ news) seg' → TL P w0 N Q ops rest (putE d v' env) (own.set k seg') H) :
    TL P w0 N Q ops ({ dst := d, op := .call { callee := .builtin .append, args := #[x, y], argTypes := #[t, t] }, type := ty, pos := pos, after := af, guard := none } :: rest) env own H := by
  rcases hrow with hrow | ⟨A0, rfl, rfl, rfl, rfl⟩
  · exact TL.append k hx hy hk hrow hsrc h63 hbytes hd (fun v' seg' hr => h v' seg' (.inl hr))
  · rcases A0 with _ | a
    · exact TL.append k hx hy hk (Row.nil e size) hsrc h63 hbytes hd (fun v' seg' hr => h v' seg' (.inl hr))
    · have hset : own.set k [] = own := by
        obtain ⟨l1, l2, rfl, rfl⟩ := split_at hk
        simp
      by_cases hm : m = 0
      · subst hm
        have hnews : news = [] := List.eq_nil_of_length_eq_zero (by simpa using hsrc.1)
        subst hnews
        refine TL.val0 hd (v := .slice (some a) 0 0) (fun ac ha w => ?_) (by have := h (.slice (some a) 0 0) [] (.inr ⟨some a, rfl, rfl, rfl, rfl⟩); rwa [hset] at this)
        obtain ⟨i, hi, hz, hs, hb⟩ := hU.ex
        rcases A with _ | a2 <;> simp [execOp, resolve, invoke, builtin, ha.ev hx, ha.ev hy, Builtin.append_, run_underlying hU.und, sizeOf, typeInfo, hi, Builtin.lenOf, Builtin.firstCells, loadCells_zero, storeCells]
      · refine TL.valE (φ := fun v own' H' => ∃ seg', RowA e size v (0 + m) ([] ++ news) seg' ∧ own' = own.set k seg' ∧ H' = H) rfl hd (fun ac W ha hw => ?_) (by rintro v own' H' ⟨seg', h1, rfl, rfl⟩; exact h v seg' h1)
        obtain ⟨i, hi, hz, hs, hb⟩ := hU.ex
        obtain ⟨v', seg', w', hr, h1, h2⟩ := run_append_row (P := P) (ty := ty) (c := c) hw hU.und hi hz hs hU.zs hU.pos hk (Row.nil e size) hsrc h63 (by rw [hb]; exact hbytes)
        rw [← run_append_bare (ty := ty) W hU.und hi a A c (by omega) (by rw [hb]; simpa using hbytes)] at hr
        exact ⟨v', _, _, w', by simp [execOp, resolve, invoke, builtin, ha.ev hx, ha.ev hy, hr], ⟨seg', .inl h1, rfl, rfl⟩, h2⟩
end
end Go.Proofs.Ytapmmfabdmhdnaa.K
