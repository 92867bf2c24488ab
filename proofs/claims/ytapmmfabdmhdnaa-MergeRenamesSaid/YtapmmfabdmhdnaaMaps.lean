/-
  Maps with strings as keys, in blocks of our own and in blocks that stay.
-/
import Derived.Test.YtapmmfabdmhdnaaTree
import Derived.Maps.Own
import Derived.Maps.Views
import Derived.StringKeys
set_option linter.unusedVariables false
set_option linter.unusedSimpArgs false
namespace Go.Proofs.Ytapmmfabdmhdnaa.K
open Go Go.RowKit Go.ChangeMaps Go.MapKept Go.WideMaps
open Go.WideElems (Fit rg rd_val)
open Go.Maps (string_keyed atKey_put_same atKey_put_other)

abbrev strK (s : ByteArray) : Lit := .string s.data.toList
def mapD (P : Program) (k e : TypeId) (es : Array MapEntry) : DataW Unit := .map ((es.toList.map (rg P k (plainElem P e))).foldr DataW.insert [])
/-- The object is a map of at most n entries with what f says. -/
def MapO (P : Program) (k e : TypeId) (o : Obj) (n : Nat) (f : ByteArray → Option Value) : Prop :=
  ∃ es clock, o = .map es clock ∧ Fit P k (plainElem (H := Unit) P e) es clock ∧ es.size ≤ n ∧
    ∀ s, (f s = none → ∀ zd, (mapD P k e es).atKey (strK s) zd = zd) ∧ ∀ v, f s = some v → ∃ d, plainElem (H := Unit) P e v = some (d, []) ∧ ∀ zd, (mapD P k e es).atKey (strK s) zd = d
theorem MapO.nil (P : Program) (k e : TypeId) : MapO P k e (.map #[] 0) 0 (fun _ => none) :=
  ⟨#[], 0, rfl, ⟨by simp, stamped_empty 0, by simp⟩, Nat.le_refl _, fun s => ⟨fun _ zd => by simp [mapD]; rfl, fun v h => by cases h⟩⟩
theorem strK_inj {s t : ByteArray} (h : strK s = strK t) : s = t := by
  have h1 : s.data.toList = t.data.toList := by injection h
  cases s; cases t
  congr
  exact Array.toList_inj.1 h1
theorem nil_lit (d : DataW Unit) (h : ∀ zd : DataW Unit, zd = d) : False := by
  have h1 := h (.lit (.bool true))
  have h2 := h (.lit (.bool false))
  rw [← h2] at h1
  cases h1
theorem MapO.look {P : Program} {k e t : TypeId} {w : World} {b n : Nat} {o : Obj} {f : ByteArray → Option Value} (hk : P.underlying k = some .string) (ht : P.underlying t = some (.map k e))
    (hinj : ∀ v v' d d', plainElem (H := Unit) P e v = some d → plainElem (H := Unit) P e v' = some d' → d.1 = d'.1 → v = v') {z : Value} (hz : (zeroValue e).run P w = .ok z w) (hb : w.heap[b]? = some o) (h : MapO P k e o n f)
    {s : ByteArray} (hs : s.size ≤ maxLen) (c : Bool) : (Instr.lookup t (.map (some b)) (.string s) c).run P w = .ok (if c then .tuple #[(f s).getD z, .bool (f s).isSome] else (f s).getD z) w := by
  obtain ⟨es, clock, rfl, F, _, hf⟩ := h
  rcases Maps.fit_look c (string_keyed hk) ht hz hb F (keyOf_string_mk hk hs) with ⟨hrun, _, hat⟩ | ⟨e0, y, _, _, hrun, hRv, hat, _⟩
  · rw [hrun]
    cases h1 : f s with
    | none => rfl
    | some v =>
      obtain ⟨d, _, h3⟩ := (hf s).2 v h1
      exact (nil_lit d (fun zd => by rw [← h3 zd]; exact (hat zd).symm)).elim
  · rw [hrun]
    cases h1 : f s with
    | none => exact (nil_lit y.1 (fun zd => by rw [← hat zd]; exact ((hf s).1 h1 zd).symm)).elim
    | some v =>
      obtain ⟨d, h2, h3⟩ := (hf s).2 v h1
      have : v = e0.val := hinj _ _ _ _ h2 hRv (by rw [← h3 .nil]; exact hat .nil)
      subst this; rfl
theorem MapO.put {P : Program} {k e t : TypeId} {w : World} {b n : Nat} {o : Obj} {f : ByteArray → Option Value} (hk : P.underlying k = some .string) (ht : P.underlying t = some (.map k e))
    (hb : w.heap[b]? = some o) (h : MapO P k e o n f) (hn : n < maxLen) {s : ByteArray} (hs : s.size ≤ maxLen) {v : Value} {d : DataW Unit} (hv : plainElem (H := Unit) P e v = some (d, [])) :
    ∃ o', (Instr.mapUpdate t (.map (some b)) (.string s) v).run P w = .ok () (setBlock w b o') ∧ MapO P k e o' (n + 1) (fun s' => if s' = s then some v else f s') := by
  obtain ⟨es, clock, rfl, F, hsz, hf⟩ := h
  obtain ⟨es', clock', hrun, F', hput, _⟩ := Maps.fit_store (R' := plainElem (H := Unit) P e) (string_keyed hk) ht hb F (Nat.lt_of_le_of_lt hsz hn) (fun _ _ _ _ hz => hz) (keyOf_string_mk hk hs) hv
  have hD : mapD P k e es' = (mapD P k e es).put (strK s) d := by unfold mapD; rw [DataW.put_eq, hput]
  refine ⟨_, hrun, es', clock', rfl, F', ?_, fun s' => ?_⟩
  · have e1 : es'.size = ((es'.toList.map (rg P k (plainElem (H := Unit) P e))).foldr DataW.insert []).length := by rw [length_sorted]; simp
    rw [e1, hput]
    unfold putKey
    rw [length_insert]
    have e2 := List.length_filter_le (notKey (strK s)) ((es.toList.map (rg P k (plainElem (H := Unit) P e))).foldr DataW.insert [])
    have e3 : ((es.toList.map (rg P k (plainElem (H := Unit) P e))).foldr DataW.insert []).length = es.size := by rw [length_sorted]; simp
    rw [e3] at e2
    exact Nat.succ_le_succ (Nat.le_trans e2 hsz)
  · rw [hD]
    by_cases h1 : s' = s
    · subst h1
      refine ⟨fun h2 => by simp at h2, fun v' h2 => ?_⟩
      simp at h2; subst h2
      exact ⟨d, hv, fun zd => atKey_put_same ⟨_, rfl⟩ ((string_keyed hk).key (keyOf_string_mk hk hs)) d zd⟩
    · have hne : strK s' ≠ strK s := fun e => h1 (strK_inj e)
      simp only [h1, if_false]
      refine ⟨fun h2 zd => ?_, fun v' h2 => ?_⟩
      · rw [atKey_put_other hne]; exact (hf s').1 h2 zd
      · obtain ⟨d', h3, h4⟩ := (hf s').2 v' h2
        exact ⟨d', h3, fun zd => by rw [atKey_put_other hne]; exact h4 zd⟩
/-! in our frames -/
theorem St.setObj {w0 w : World} {own : List Seg} {H : Hp} (h : St w0 H own w) {i j : Nat} {seg : Seg} (hi : own[i]? = some seg) {g : Nat} {o o' : Obj} (hj : seg[j]? = some (g, o)) :
    St w0 H (own.set i (seg.set j (g, o'))) (setBlock w g o') := by
  obtain ⟨l1, l2, rfl, rfl⟩ := split_at hj
  have hset : (l1 ++ (g, o) :: l2).set l1.length (g, o') = l1 ++ (g, o') :: l2 := by simp
  rw [hset]
  have hb := h.own_blk hi hj
  have hlt : g < w.heap.size := (Array.getElem?_eq_some_iff.1 hb).1
  have hsame : (setBlock w g o').heap[g]? = some o' := by simp [setBlock, hlt]
  have hother : ∀ b, b ≠ g → (setBlock w g o').heap[b]? = w.heap[b]? := fun b hne => by simp [setBlock, Array.getElem?_setIfInBounds, Ne.symm hne]
  have hk : (l1 ++ (g, o') :: l2).map (·.1) = (l1 ++ (g, o) :: l2).map (·.1) := by simp
  have hnd : ((l1 ++ (g, o) :: l2).map (·.1)).Nodup := by
    have hn := h.nodup
    obtain ⟨m1, m2, rfl, _⟩ := split_at hi
    simp only [List.flatten_append, List.flatten_cons, List.map_append, List.nodup_append] at hn
    simpa only [List.map_append, List.nodup_append] using hn.2.1.1
  refine h.upd hi rfl ⟨rfl, Nat.le_refl _⟩ rfl (fun b hbl hnb => hother b (fun he => hnb (by subst he; simp))) (fun p hp => ?_) (by rw [hk]; exact hnd) (fun p hp => .inl (by rw [← hk]; exact List.mem_map.2 ⟨p, hp, rfl⟩))
  by_cases hpg : p.1 = g
  · have : p = (g, o') := by
      have hn2 := hnd
      rw [← hk] at hn2
      simp only [List.map_append, List.map_cons, List.nodup_append, List.nodup_cons, List.mem_cons] at hn2
      obtain ⟨n1, ⟨n2, n3⟩, n4⟩ := hn2
      rcases List.mem_append.1 hp with hq | hq
      · exact absurd hpg (n4 p.1 (List.mem_map.2 ⟨p, hq, rfl⟩) g (.inl rfl))
      · rcases List.mem_cons.1 hq with rfl | hq
        · rfl
        · exact absurd (List.mem_map.2 ⟨p, hq, hpg⟩) n2
    subst this
    exact hsame
  · rw [hother p.1 hpg]
    refine h.own_at p (h.mem_at hi ?_)
    rcases List.mem_append.1 hp with hq | hq
    · exact List.mem_append.2 (.inl hq)
    · rcases List.mem_cons.1 hq with rfl | hq
      · exact absurd rfl hpg
      · exact List.mem_append.2 (.inr (List.mem_cons_of_mem _ hq))
section
variable {P : Program} {w0 : World} {N : Nat} {Q : Exit → Act → World → Prop} {env : Env} {own : List Seg} {H : Hp} {ops : Array Oper} {rest : List Oper}
variable {d : Option Tmp} {ty : TypeId} {pos : String} {af : Array Edge}
theorem TL.mapSet (i j : Nat) {t k e : TypeId} {m x y : Operand} {g n : Nat} {seg : Seg} {o : Obj} {f : ByteArray → Option Value} {s : ByteArray} {v : Value} {dd : DataW Unit} (hm : ev env m = some (.map (some g))) (hx : ev env x = some (.string s)) (hy : ev env y = some v)
    (hi : own[i]? = some seg) (hj : seg[j]? = some (g, o)) [hk : Und P k .string] [ht : Und P t (.map k e)] (ho : MapO P k e o n f) (hn : n < maxLen) (hs : s.size ≤ maxLen) (hv : plainElem (H := Unit) P e v = some (dd, [])) (hd : okD N d = true)
    (h : ∀ o', MapO P k e o' (n + 1) (fun s' => if s' = s then some v else f s') → TL P w0 N Q ops rest (putE d undef env) (own.set i (seg.set j (g, o'))) H) :
    TL P w0 N Q ops ({ dst := d, op := .mapUpdate t m x y, type := ty, pos := pos, after := af, guard := none } :: rest) env own H :=
  fun a w ha hw => by
    have hb := hw.own_blk hi hj
    obtain ⟨o', hrun, ho'⟩ := MapO.put hk.eq ht.eq hb ho hn hs hv
    refine wpList_plain rfl fun K hK => ?_
    unfold Oper.wp
    have hr : (execOp a.eval { dst := d, op := .mapUpdate t m x y, type := ty, pos := pos, after := af, guard := none }).run P w = .ok .skip (setBlock w g o') := by
      simp [execOp, ha.ev hm, ha.ev hx, ha.ev hy, hrun, Result.andThen]
    rw [hr]
    exact hK _ _ (h o' ho' _ _ (ha.put hd undef) (hw.setObj hi hj))
theorem TL.look {t k e : TypeId} {m x : Operand} {g n : Nat} {o : Obj} {f : ByteArray → Option Value} {s : ByteArray} {c : Bool} {z : Value} (hm : ev env m = some (.map (some g))) (hx : ev env x = some (.string s))
    [hk : Und P k .string] [ht : Und P t (.map k e)] (hg : H g = some o) (ho : MapO P k e o n f) (hs : s.size ≤ maxLen) (hinj : ∀ v v' d d', plainElem (H := Unit) P e v = some d → plainElem (H := Unit) P e v' = some d' → d.1 = d'.1 → v = v')
    (hz : ∀ w, (zeroValue e).run P w = .ok z w) (hd : okD N d = true) (h : TL P w0 N Q ops rest (putE d (if c then .tuple #[(f s).getD z, .bool (f s).isSome] else (f s).getD z) env) own H) :
    TL P w0 N Q ops ({ dst := d, op := .lookup t m x c, type := ty, pos := pos, after := af, guard := none } :: rest) env own H :=
  TL.val rfl hd (fun a w ha hw => ⟨w, by
    have := MapO.look (w := w) hk.eq ht.eq hinj (hz w) (hw.imm g o hg) ho hs c
    simp [execOp, ha.ev hm, ha.ev hx, this], hw⟩) h
theorem TL.newMap {t : TypeId} (hd : okD N d = true)
    (h : ∀ g, TL P w0 N Q ops rest (putE d (.map (some g)) env) ([(g, .map #[] 0)] :: own) H) :
    TL P w0 N Q ops ({ dst := d, op := .makeMap t none, type := ty, pos := pos, after := af, guard := none } :: rest) env own H :=
  TL.valE (φ := fun v own' H' => ∃ g, v = .map (some g) ∧ own' = [(g, .map #[] 0)] :: own ∧ H' = H) rfl hd
    (fun a w ha hw => ⟨_, _, _, w.alloc (.map #[] 0), by
      have : (Instr.makeMap t none).run P w = .ok (.map (some w.heap.size)) (w.alloc (.map #[] 0)) := by simp [Instr.makeMap]
      simp [execOp, this], ⟨w.heap.size, rfl, rfl, rfl⟩, hw.new _⟩)
    (by rintro v own' H' ⟨g, rfl, rfl, rfl⟩; exact h g)
theorem plain_string_inj {e : TypeId} (he : P.underlying e = some .string) (v v' : Value) (d d' : DataW Unit × List MemPlace) (h : plainElem (H := Unit) P e v = some d) (h' : plainElem (H := Unit) P e v' = some d') (hdd : d.1 = d'.1) : v = v' := by
  unfold plainElem at h h'
  rw [he] at h h'
  cases v <;> simp at h
  cases v' <;> simp at h'
  obtain ⟨_, rfl⟩ := h
  obtain ⟨_, rfl⟩ := h'
  rename_i s s' _ _
  injection hdd with hdd
  exact congrArg Value.string (strK_inj hdd)
theorem plain_bool_inj {e : TypeId} (he : P.underlying e = some .bool) (v v' : Value) (d d' : DataW Unit × List MemPlace) (h : plainElem (H := Unit) P e v = some d) (h' : plainElem (H := Unit) P e v' = some d') (hdd : d.1 = d'.1) : v = v' := by
  unfold plainElem at h h'
  rw [he] at h h'
  cases v <;> simp at h
  cases v' <;> simp at h'
  subst h; subst h'
  injection hdd with hdd
  injection hdd with hdd
  exact congrArg Value.bool hdd
end
end Go.Proofs.Ytapmmfabdmhdnaa.K
