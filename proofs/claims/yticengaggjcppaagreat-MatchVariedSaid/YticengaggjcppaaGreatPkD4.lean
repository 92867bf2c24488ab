/-
  Part 4 of 6 of the proof that MatchVaried returns true for every list of numbers and every number, and leaves its arguments as they were.. No condition beyond the given statement.
-/
import Derived.Maps.Own
import Derived.WideKeyEntry
import Derived.RangeFuncIn
import Derived.RangeFuncLeaves
import Derived.RangeFuncRecord
import Derived.RangeFuncSeq
import Derived.RangeFuncCalls
import Derived.TacticsIn
import Derived.OrdersIn
import Derived.StillTail
import Derived.Test.YticengaggjcppaaGreatPkD3
set_option linter.unusedVariables false
set_option linter.unusedSimpArgs false
set_option linter.all false
set_option maxRecDepth 8000
namespace Go.Proofs.YticengaggjcppaaGreat.X
open Go Go.RowKit Go.MapKept Go.ChangeMaps Go.WideMaps K
open Go.WideElems (Fit rg rd_val)
open Go.Maps (Keyed fit_look fit_store notKey_iff)
theorem rg_mem {P : Program} {k : TypeId} {es : Array MapEntry} {clock : Nat} (F : Fit P k R0 es clock) (K : Keyed P k) {key : Value} {kl : Lit} (hk : keyOf P k key = some kl) {p : Lit × DataW Unit} (hp : p ∈ es.toList.map (rg P k R0)) (hpk : p.1 = kl) : ∃ x ∈ es.toList, x.key = key := by
  obtain ⟨x, hx, rfl⟩ := List.mem_map.1 hp
  obtain ⟨y, hy⟩ := F.reads x hx
  rw [WideElems.rg_of hy] at hpk
  have m1 := WideElems.rd_key hy
  rw [hpk] at m1
  exact ⟨x, hx, K.inj m1 hk⟩
theorem MapR.set {P : Program} {k e t : TypeId} {w : World} {b n : Nat} {o : Obj} {f : Value → Option Value} (K : Keyed P k) (ht : P.underlying t = some (.map k e))
    (hb : w.heap[b]? = some o) (h : MapR P k e o n f) (hn : n < maxLen) {key : Value} {kl : Lit} (hk : keyOf P k key = some kl) {v : Value}
    {g : Value → Option Value} (hg1 : g key = some v) (hg2 : ∀ s, s ≠ key → g s = f s) :
    ∃ o', (Instr.mapUpdate t (.map (some b)) key v).run P w = .ok () (setBlock w b o') ∧ MapR P k e o' (if (f key).isSome then n else n + 1) g := by
  obtain ⟨es, clock, rfl, F, rfl, hf, hg⟩ := h
  obtain ⟨es', clock', hrun, F', hput, _, _, hwho⟩ := fit_store (R' := R0) K ht hb F hn (fun _ _ _ _ hz => hz) hk (val := v) (yv := (.lit (.bool true), [])) rfl
  have hperm : (es'.toList.map (rg P k R0)).Perm ((kl, .lit (.bool true)) :: (es.toList.map (rg P k R0)).filter (notKey kl)) := by
    refine (WideShapes.sorted_perm _).symm.trans ?_
    rw [hput]
    unfold putKey
    refine (WideShapes.insert_perm _ _).trans ?_
    exact ((WideShapes.sorted_perm _).filter _).cons _
  have hlen := hperm.length_eq
  simp only [List.length_map, Array.length_toList, List.length_cons] at hlen
  refine ⟨_, hrun, es', clock', rfl, F', ?_, fun x hx => ?_, fun key' kl' hk' hne => ?_⟩; {
  rcases K.find w hk es.toList F.keys with ⟨_, h2⟩ | ⟨j, e0, _, h2, h3⟩
  {
  have hnone : f key = none := by
    cases h1 : f key with
    | none => rfl
    | some v =>
      obtain ⟨x, hx, hxk⟩ := hg key kl hk (by rw [h1]; simp)
      exact absurd hxk (h2 x hx)
  rw [Maps.filter_all K F hk h2] at hlen
  rw [hnone]
  simpa using hlen}; {
  have hsome : f key = some e0.val := by rw [← h3]; exact hf e0 (List.mem_of_getElem? h2)
  have hjl : j < es.toList.length := (List.getElem?_eq_some_iff.1 h2).1
  rw [Maps.filter_one K F hk h2 h3, List.length_eraseIdx] at hlen
  simp only [List.length_map, Array.length_toList] at hlen hjl
  rw [if_pos hjl] at hlen
  rw [hsome]
  simp only [Option.isSome_some, if_true]
  omega}}; {
  rcases hwho x hx with ⟨h1, h2⟩ | ⟨h1, h2⟩
  {
  rw [hg2 _ h2]; exact hf x h1}; {
  rw [h1, h2, hg1]}}; {
  by_cases he : key' = key; {
  subst he
  exact rg_mem F' K hk (hperm.mem_iff.2 (List.mem_cons_self ..)) rfl}; {
  rw [hg2 _ he] at hne
  obtain ⟨x, hx, rfl⟩ := hg key' kl' hk' hne
  obtain ⟨y, hy⟩ := F.reads x hx
  have m1 := WideElems.rd_key hy
  refine rg_mem F' K m1 (hperm.mem_iff.2 (List.mem_cons_of_mem _ (List.mem_filter.2 ⟨List.mem_map.2 ⟨x, hx, rfl⟩, ?_⟩))) (by rw [WideElems.rg_of hy])
  refine (notKey_iff (K.key hk)).2 fun e1 => he ?_
  rw [WideElems.rg_of hy] at e1
  rw [e1] at m1
  exact K.inj m1 hk}}
section
variable {P : Program} {w0 : World} {N : Nat} {Q : Exit → Act → World → Prop} {env : Env} {own : List Seg} {H : Hp} {ops : Array Oper} {rest : List Oper} {d : Option Tmp} {ty : TypeId} {pos : String} {af : Array Edge}
theorem TL.mapSetR (i j : Nat) {t k e : TypeId} {m x y : Operand} {g n : Nat} {seg : Seg} {o : Obj} {f : Value → Option Value} (f' : Value → Option Value) {key v : Value} {kl : Lit} (hm : ev env m = some (.map (some g))) (hx : ev env x = some key) (hy : ev env y = some v)
    (hi : own[i]? = some seg) (hj : seg[j]? = some (g, o)) (K : Keyed P k) [ht : Und P t (.map k e)] (ho : MapR P k e o n f) (hn : n < maxLen) (hk : keyOf P k key = some kl)
    (hg1 : f' key = some v) (hg2 : ∀ s, s ≠ key → f' s = f s) (hd : okD N d = true)
    (h : ∀ o', MapR P k e o' (if (f key).isSome then n else n + 1) f' → TL P w0 N Q ops rest (ao d undef env) (own.set i (seg.set j (g, o'))) H) :
    TL P w0 N Q ops ({ dst := d, op := .mapUpdate t m x y, type := ty, pos := pos, after := af, guard := none } :: rest) env own H :=
  fun a w ha hw => by
    have hb := hw.own_blk hi hj
    obtain ⟨o', hrun, ho'⟩ := MapR.set K ht.eq hb ho hn hk hg1 hg2
    refine wpList_plain rfl fun K hK => ?_
    unfold Oper.wp
    have hr : (execOp a.eval { dst := d, op := .mapUpdate t m x y, type := ty, pos := pos, after := af, guard := none }).run P w = .ok .skip (setBlock w g o') := by
      simp [execOp, ha.ev hm, ha.ev hx, ha.ev hy, hrun, Result.andThen]
    rw [hr]
    exact hK _ _ (h o' ho' _ _ (ha.put hd undef) (hw.setObj hi hj))
end
structure KV (P : Program) (k : TypeId) (α : Type) where
  law : KeyLaw P k
  v : α → Value
  ok : α → Prop
  inj : ∀ a b, v a = v b → a = b
  key : ∀ a, ok a → ∃ kl, keyOf P k (v a) = some kl
theorem KV.K {P : Program} {k : TypeId} {α : Type} (kv : KV P k α) : Keyed P k := .of_law kv.law
section
variable {α β : Type} [DecidableEq α]
def lkL : List (α × β) → α → Option β
  | [], _ => none
  | (a, b) :: r, x => if a = x then some b else lkL r x
def ptL : List (α × β) → α → β → List (α × β)
  | [], x, y => [(x, y)]
  | (a, b) :: r, x, y => if a = x then (x, y) :: r else (a, b) :: ptL r x y
theorem gQ (l : List (α × β)) (x : α) (y : β) (z : α) : lkL (ptL l x y) z = if z = x then some y else lkL l z := by
  induction l with
  | nil => simp only [ptL, lkL, eq_comm]
  | cons p r ih =>
    obtain ⟨a, b⟩ := p
    simp only [ptL]
    by_cases h : a = x; {
    subst h; rw [if_pos rfl]; simp only [lkL]
    by_cases hz : a = z; {
    subst hz; simp}; {
    rw [if_neg hz, if_neg (fun e => hz e.symm), if_neg hz]}}; {
    rw [if_neg h]; simp only [lkL]
    by_cases hz : a = z; {
    subst hz; rw [if_pos rfl, if_neg h, if_pos rfl]}; {
    rw [if_neg hz, if_neg hz, ih]}}
theorem cx {l : List (α × β)} {x : α} {y : β} (h : lkL l x = some y) : (x, y) ∈ l := by
  induction l with
  | nil => cases h
  | cons p r ih =>
    obtain ⟨a, b⟩ := p
    simp only [lkL] at h
    split at h; {
    rename_i e; cases h; subst e; exact List.mem_cons_self ..}; {
    exact List.mem_cons_of_mem _ (ih h)}
theorem lk_none {l : List (α × β)} {x : α} : lkL l x = none ↔ x ∉ l.map (·.1) := by
  induction l with
  | nil => simp [lkL]
  | cons p r ih =>
    obtain ⟨a, b⟩ := p
    simp only [lkL, List.map_cons, List.mem_cons, not_or]
    split; {
    rename_i e; simp [e]}; {
    rename_i e; rw [ih]; exact ⟨fun h => ⟨fun e2 => e e2.symm, h⟩, fun h => h.2⟩}
theorem oo {l : List (α × β)} (hn : (l.map (·.1)).Nodup) {x : α} {y : β} (h : (x, y) ∈ l) : lkL l x = some y := by
  induction l with
  | nil => cases h
  | cons p r ih =>
    obtain ⟨a, b⟩ := p
    simp only [List.map_cons, List.nodup_cons] at hn
    simp only [lkL]
    rcases List.mem_cons.1 h with h | h
    {
    cases h; rw [if_pos rfl]}; {
    rw [if_neg (fun e => hn.1 (List.mem_map.2 ⟨_, h, e.symm⟩)), ih hn.2 h]}
theorem kq (l : List (α × β)) (x : α) (y : β) : (ptL l x y).map (·.1) = if x ∈ l.map (·.1) then l.map (·.1) else l.map (·.1) ++ [x] := by
  induction l with
  | nil => rfl
  | cons p r ih =>
    obtain ⟨a, b⟩ := p
    simp only [ptL, List.map_cons, List.mem_cons]
    by_cases h : a = x; {
    subst h; rw [if_pos rfl, if_pos (.inl rfl)]; rfl}; {
    rw [if_neg h, List.map_cons, ih]
    have e : (x = a ∨ x ∈ r.map (·.1)) ↔ x ∈ r.map (·.1) := ⟨fun k => k.resolve_left fun e => h e.symm, .inr⟩
    simp only [e]
    split <;> rfl}
theorem df (l : List (α × β)) (x : α) (y : β) : (ptL l x y).length = if (lkL l x).isSome then l.length else l.length + 1 := by
  have := congrArg List.length (kq l x y)
  rw [List.length_map] at this
  rw [this]
  cases h : lkL l x with
  | none => rw [if_neg (lk_none.1 h)]; simp
  | some b => rw [if_pos (List.mem_map.2 ⟨_, cx h, rfl⟩)]; simp
theorem m6 {l : List (α × β)} (hn : (l.map (·.1)).Nodup) (x : α) (y : β) : ((ptL l x y).map (·.1)).Nodup := by
  rw [kq]
  split; {
  exact hn}; {
  rename_i h
  exact List.nodup_append.2 ⟨hn, by simp, fun a ha b hb e => by rw [List.mem_singleton] at hb; subst hb; exact h (e ▸ ha)⟩}
theorem il {l : List (α × β)} {x : α} {y : β} {p : α × β} (h : p ∈ ptL l x y) : p = (x, y) ∨ p ∈ l := by
  induction l with
  | nil => rw [ptL, List.mem_singleton] at h; exact .inl h
  | cons q r ih =>
    obtain ⟨a, b⟩ := q
    simp only [ptL] at h
    split at h; {
    rcases List.mem_cons.1 h with h | h
    {
    exact .inl h}; {
    exact .inr (List.mem_cons_of_mem _ h)}}; {
    rcases List.mem_cons.1 h with h | h
    {
    exact .inr (h ▸ List.mem_cons_self ..)}; {
    exact (ih h).imp id (List.mem_cons_of_mem _)}}
end
section
variable {P : Program} {k e : TypeId} {α β : Type} [DecidableEq α]
def ML (kv : KV P k α) (e : TypeId) (vv : β → Value) (l : List (α × β)) (o : Obj) : Prop :=
  (l.map (·.1)).Nodup ∧ (∀ p ∈ l, kv.ok p.1) ∧ ∃ f, MapR P k e o l.length f ∧ (∀ a, f (kv.v a) = (lkL l a).map vv) ∧ ∀ key, f key ≠ none → ∃ a, key = kv.v a
variable {kv : KV P k α} {vv : β → Value} {l : List (α × β)} {o : Obj}
theorem ML.nil : ML kv e vv [] (.map #[] 0) := ⟨List.nodup_nil, fun _ h => (by cases h), _, MapR.nil P k e, fun _ => rfl, fun _ h => absurd rfl h⟩
theorem ML.lk (h : ML kv e vv l o) {a : α} {c : Bool} {z : Value} {R : XV} (hR : ∀ V H, R.rel V H (if c then .tuple #[((lkL l a).map vv).getD z, .bool (lkL l a).isSome] else ((lkL l a).map vv).getD z)) : ∃ n f, MapR P k e o n f ∧ ∀ V H, R.rel V H (if c then .tuple #[(f (kv.v a)).getD z, .bool (f (kv.v a)).isSome] else (f (kv.v a)).getD z) := by
  obtain ⟨_, _, f, h1, h2, _⟩ := h
  refine ⟨_, f, h1, fun V H => ?_⟩
  rw [h2]
  simpa using hR V H
theorem ML.pt (h : ML kv e vv l o) {a : α} {b : β} (ha : kv.ok a) (hl : l.length < maxLen) : ∃ n f f', MapR P k e o n f ∧ n < maxLen ∧ f' (kv.v a) = some (vv b) ∧ (∀ s, s ≠ kv.v a → f' s = f s) ∧ ∀ o', MapR P k e o' (if (f (kv.v a)).isSome then n else n + 1) f' → ML kv e vv (ptL l a b) o' := by
  classical
  obtain ⟨h1, h2, f, h3, h4, h5⟩ := h
  refine ⟨_, f, fun s => if s = kv.v a then some (vv b) else f s, h3, hl, if_pos rfl, fun s hs => if_neg hs, fun o' ho' => ⟨m6 h1 a b, fun p hp => ?_, fun s => if s = kv.v a then some (vv b) else f s, ?_, fun x => ?_, fun key hk => ?_⟩⟩; {
  rcases il hp with rfl | hp
  {
  exact ha}; {
  exact h2 p hp}}; {
  rw [df]
  rw [h4] at ho'
  simpa using ho'}; {
  rw [gQ]
  by_cases hx : x = a; {
  subst hx; simp}; {
  rw [if_neg hx]
  show (if kv.v x = kv.v a then some (vv b) else f (kv.v x)) = _
  rw [if_neg (fun e => hx (kv.inj _ _ e)), h4]}}; {
  by_cases hx : key = kv.v a; {
  exact ⟨a, hx⟩}; {
  simp only [if_neg hx] at hk
  exact h5 key hk}}
theorem ML.ent (h : ML kv e vv l o) : (∀ z ∈ entries o, ∃ p ∈ l, z.key = kv.v p.1 ∧ z.val = vv p.2) ∧ (∀ p ∈ l, ∃ z ∈ entries o, z.key = kv.v p.1 ∧ z.val = vv p.2) := by
  obtain ⟨h1, h2, f, h3, h4, h5⟩ := h
  obtain ⟨_, e2, e3, e4⟩ := MapR.entries h3
  refine ⟨fun z hz => ?_, fun p hp => ?_⟩; {
  have hf := e3 z hz
  obtain ⟨a, ha⟩ := h5 z.key (by rw [hf]; simp)
  rw [ha, h4] at hf
  obtain ⟨b, hb, hv⟩ := Option.map_eq_some_iff.1 hf
  exact ⟨(a, b), cx hb, ha, hv.symm⟩}; {
  obtain ⟨a, b⟩ := p
  have hl := oo h1 hp
  obtain ⟨kl, hk⟩ := kv.key a (h2 _ hp)
  obtain ⟨z, hz, hzk⟩ := e4 (kv.v a) kl hk (by rw [h4, hl]; simp)
  refine ⟨z, hz, hzk, ?_⟩
  have hf := e3 z hz
  rw [hzk, h4, hl] at hf
  simpa using hf.symm}
theorem ML.mapR (h : ML kv e vv l o) : ∃ f, MapR P k e o l.length f := let ⟨_, _, f, h1, _⟩ := h; ⟨f, h1⟩
def Came (kv : KV P k α) (vv : β → Value) (done : List MapEntry) (d : List (α × β)) : Prop := done.map (fun z => (z.key, z.val)) = d.map fun p => (kv.v p.1, vv p.2)
theorem Came.nil : Came kv vv [] [] := rfl
theorem Came.snoc {done : List MapEntry} {d : List (α × β)} {z : MapEntry} {p : α × β} (h : Came kv vv done d) (h1 : z.key = kv.v p.1) (h2 : z.val = vv p.2) : Came kv vv (done ++ [z]) (d ++ [p]) := by
  unfold Came at *
  simp only [List.map_append, h, List.map_cons, List.map_nil, h1, h2]
theorem Came.new (hm : ML kv e vv l o) {done : List MapEntry} {d : List (α × β)} (h : Came kv vv done d) (hs : ∀ z ∈ done, z ∈ entries o) {z : MapEntry} (hz : z ∈ entries o) (hn : z ∉ done) {p : α × β} (h1 : z.key = kv.v p.1) : p.1 ∉ d.map (·.1) := by
  intro hp
  obtain ⟨q, hq, e⟩ := List.mem_map.1 hp
  have : (kv.v q.1, vv q.2) ∈ d.map fun p => (kv.v p.1, vv p.2) := List.mem_map.2 ⟨q, hq, rfl⟩
  rw [← h] at this
  obtain ⟨y, hy, e2⟩ := List.mem_map.1 this
  simp only [Prod.mk.injEq] at e2
  obtain ⟨f, hf⟩ := hm.mapR
  obtain ⟨_, n2, _, _⟩ := MapR.entries hf
  have hk : y.key = z.key := by rw [e2.1, h1, e]
  have : y = z := by
    obtain ⟨i, hi⟩ := List.getElem?_of_mem (hs y hy)
    obtain ⟨j, hj⟩ := List.getElem?_of_mem hz
    have hil := (List.getElem?_eq_some_iff.1 hi).1
    have e3 : ((entries o).map (·.key))[i]? = ((entries o).map (·.key))[j]? := by rw [List.getElem?_map, List.getElem?_map, hi, hj]; simp [hk]
    have := (List.getElem?_inj (by simpa using hil) n2).1 e3
    subst this
    rw [hi] at hj
    exact Option.some.inj hj
  exact hn (this ▸ hy)
theorem Came.all (hm : ML kv e vv l o) {done : List MapEntry} {d : List (α × β)} (h : Came kv vv done d) (hnd : (d.map (·.1)).Nodup) (hsub : ∀ p ∈ d, p ∈ l) (ha : ∀ z ∈ entries o, z ∈ done) : d.Perm l := by
  have nd : ∀ {l : List (α × β)}, (l.map (·.1)).Nodup → l.Nodup := fun h => List.Pairwise.of_map (S := (· ≠ ·)) (·.1) (fun a b h e => h (e ▸ rfl)) h
  refine (List.perm_ext_iff_of_nodup (nd hnd) (nd hm.1)).2 fun p => ⟨hsub p, fun hp => ?_⟩
  obtain ⟨z, hz, hk, _⟩ := hm.ent.2 p hp
  have hd : (z.key, z.val) ∈ done.map (fun z => (z.key, z.val)) := List.mem_map.2 ⟨z, ha z hz, rfl⟩
  rw [h] at hd
  obtain ⟨q, hq, e⟩ := List.mem_map.1 hd
  simp only [Prod.mk.injEq] at e
  have e1 : q.1 = p.1 := kv.inj _ _ (e.1.trans hk)
  obtain ⟨a, b⟩ := p
  obtain ⟨a', b'⟩ := q
  simp only at e1
  subst e1
  have h1 := oo hm.1 hp
  have h2 := oo hm.1 (hsub _ hq)
  rw [h1] at h2
  cases h2
  exact hq
end
section
variable {P : Program} {pk : Pk} {T : Tb P} {Er : XE} {nx : Nat} {ops : Array Oper} {d : Option Tmp} {ty : TypeId} {pos : String} {af : Array Edge} {g t0 : Nat} {Q Q' : Obj → Prop}
theorem LS.setO {t kt e : TypeId} {m y z : Operand} {key v : Value} {kl : Lit} {yv zv : XV} (hm : xev Er m = some (.a (.c (.m g t0)))) (hy : xev Er y = some yv) (hyv : vOf yv = some key) (hz : xev Er z = some zv) (hzv : vOf zv = some v) (ht : T.bt.get t = some (.m kt e)) (K : Maps.Keyed P kt) (hk : keyOf P kt key = some kl)
    (hQ : ∀ o, Q o → ∃ n f f', MapR P kt e o n f ∧ n < maxLen ∧ f' key = some v ∧ (∀ s, s ≠ key → f' s = f s) ∧ ∀ o', MapR P kt e o' (if (f key).isSome then n else n + 1) f' → Q' o') :
    LS P pk ops { dst := d, op := .mapUpdate t m y z, type := ty, pos := pos, after := af, guard := none } Er [⟨g, t0, .mp Q⟩] nx nx (fun x fp' => x = .u ∧ fp' = [⟨g, t0, .mp Q'⟩]) := by
  intro w0 N Q2 rest env own H V sg hl hV htp hf hd _ hh
  obtain ⟨w1, h1, h2⟩ := hl.lks _ _ hm
  obtain ⟨w2, h3, h4⟩ := hl.lks _ _ hy
  obtain ⟨w3, h5, h6⟩ := hl.lks _ _ hz
  have := ec hyv h4; subst this
  have := ec hzv h6; subst this
  simp only [XV.rel, XA.rel, XC.rel] at h2
  obtain ⟨b, e0, hb, rfl⟩ := h2
  obtain ⟨b', ob, ex, rfl, h8, h9⟩ := HRm hV
  rw [h8] at hb; cases hb
  obtain ⟨n, f, f', hM, hn, h11, h12, h13⟩ := hQ ob h9
  haveI := Und.mk (mL (BT.all_get T.ok ht))
  refine TL.mapSetR 0 0 f' h1 h3 h5 rfl rfl K hM hn hk h11 h12 hd (fun o' ho' => ?_)
  exact hh undef .u _ V H [(b, o')] ⟨rfl, rfl⟩ rfl ⟨[(b, o')], [], rfl, .inl ⟨b, o', _, rfl, h8, h13 o' ho'⟩, rfl⟩ (fun q hq t' ht' => by rw [List.mem_singleton] at hq; subst hq; exact htp _ (List.mem_singleton.2 rfl) t' ht') (VX.refl _ _ _) (Le.refl _)
end
section
variable {P : Program} {x : Cx P} {T : Tb P} {k : List Fr} {E Er : XE} {hp hp' : XH} {nx i : Nat} {ops : List Oper} {dm : Option (List Rc)} {l : List (Nat × Oper)} {d : Tmp} {dd : Option Tmp} {ty : TypeId} {pos : String} {af : Array Edge} {g : Option (Nat × Bool)} {gm t0 : Nat}
variable {α β : Type} [DecidableEq α] {kt e : TypeId} {kv : KV P kt α} {vv : β → Value} {ll : List (α × β)}
def mlR : Bool → XA → Bool → XV
  | true, X, b => .t [X, .c (.d (.c (.bool b)))]
  | false, X, _ => .a X
theorem mlR_ok {a : α} {z : Value} {c bf : Bool} {X : XA} (hX : ∀ V H, X.rel V H (((lkL ll a).map vv).getD z)) (hb : (lkL ll a).isSome = bf) : ∀ V H, (mlR c X bf).rel V H (if c then .tuple #[((lkL ll a).map vv).getD z, .bool (lkL ll a).isSome] else ((lkL ll a).map vv).getD z) := fun V H => by
  cases c with
  | false => exact hX V H
  | true => exact ⟨_, rfl, hX V H, by rw [hb]; exact ⟨rfl, rfl⟩, trivial⟩
theorem Lk1 (kv : KV P kt α) {t : TypeId} {m y : Operand} {a : α} {c : Bool} {z : Value} {yv R : XV} (X : XA) (bf : Bool) (hX : ∀ V H, X.rel V H (((lkL ll a).map vv).getD z)) (hbf : (lkL ll a).isSome = bf) (hz : ∀ w, (zeroValue e).run P w = .ok z w) (hok : kv.ok a)
    (hEr : vis dm ops { dst := some d, op := .lookup t m y c, type := ty, pos := pos, after := af, guard := g } E = Er) (hm : xev Er m = some (.a (.c (.m gm t0)))) (hg : aq hp gm = some ⟨gm, t0, .mp (ML kv e vv ll)⟩) (hy : xev Er y = some yv) (hyv : vOf yv = some (kv.v a)) (ht : T.bt.get t = some (.m kt e)) (hb : aw ops Er g = some true ∧ okD x.N (some d) = true) (hR : mlR c X bf = R)
    (hk' : (MS.r ops (push dm ⟨i, [gm], false, false⟩) l k ⟨(d, R) :: E, hp, nx⟩).ok x) (hdk : DkM dm ops ⟨i, [gm], false, false⟩ := by first | exact trivial | (refine DK.mk ?_; decide +kernel)) :
    (MS.r ops dm ((i, { dst := some d, op := .lookup t m y c, type := ty, pos := pos, after := af, guard := g }) :: l) k ⟨E, hp, nx⟩).ok x := by
  obtain ⟨kl, hkl⟩ := kv.key a hok
  exact Lw (T := T) R kv.K hkl hz (fun o ho => ho.lk (hR ▸ mlR_ok hX hbf)) hEr hm hg hy hyv ht hb hk' hdk
theorem LS.lookQ {pk : Pk} {ops : Array Oper} {d : Option Tmp} {t kt e : TypeId} {m y : Operand} {key : Value} {kl : Lit} {c : Bool} {z : Value} {R yv : XV} {Q : Nat → Obj → Prop} (hm : xev Er m = some (.a (.c (.d (.mp Q))))) (hy : xev Er y = some yv) (hyv : vOf yv = some key) (ht : T.bt.get t = some (.m kt e)) (K : Maps.Keyed P kt) (hk : keyOf P kt key = some kl) (hz : ∀ w, (zeroValue e).run P w = .ok z w)
    (hQ : ∀ b o, Q b o → ∃ n f, MapR P kt e o n f ∧ ∀ V H, R.rel V H (if c then .tuple #[(f key).getD z, .bool (f key).isSome] else (f key).getD z)) :
    LS P pk ops { dst := d, op := .lookup t m y c, type := ty, pos := pos, after := af, guard := none } Er [] nx nx (fun x fp' => x = R ∧ fp' = []) := by
  intro w0 N Q2 rest env own H V sg hl hV htp hf hd _ hh
  obtain ⟨w1, h1, h2⟩ := hl.lks _ _ hm
  obtain ⟨w2, h3, h4⟩ := hl.lks _ _ hy
  have := ec hyv h4; subst this
  simp only [XV.rel, XA.rel, XC.rel, rd] at h2
  obtain ⟨b, ob, rfl, h5, h6⟩ := h2
  obtain ⟨n, f, hM, hR⟩ := hQ b ob h6
  haveI := Und.mk (mL (BT.all_get T.ok ht))
  exact TL.lookRH h1 h3 h5 K hM hk hz hd (hh _ R [] V H sg ⟨rfl, rfl⟩ (hR V H) hV htp (VX.refl _ _ _) (Le.refl _))
theorem Lk2 (kv : KV P kt α) {t : TypeId} {m y : Operand} {a : α} {c : Bool} {z : Value} {yv R : XV} (X : XA) (bf : Bool) (hX : ∀ V H, X.rel V H (((lkL ll a).map vv).getD z)) (hbf : (lkL ll a).isSome = bf) (hz : ∀ w, (zeroValue e).run P w = .ok z w) (hok : kv.ok a)
    (hEr : vis dm ops { dst := some d, op := .lookup t m y c, type := ty, pos := pos, after := af, guard := g } E = Er) (hm : xev Er m = some (.a (.c (.d (.mp (fun _ => ML kv e vv ll)))))) (hy : xev Er y = some yv) (hyv : vOf yv = some (kv.v a)) (ht : T.bt.get t = some (.m kt e)) (hb : aw ops Er g = some true ∧ okD x.N (some d) = true) (hR : mlR c X bf = R)
    (hk' : (MS.r ops (push dm ⟨i, [], false, false⟩) l k ⟨(d, R) :: E, hp, nx⟩).ok x) (hdk : DkM dm ops ⟨i, [], false, false⟩ := by first | exact trivial | (refine DK.mk ?_; decide +kernel)) :
    (MS.r ops dm ((i, { dst := some d, op := .lookup t m y c, type := ty, pos := pos, after := af, guard := g }) :: l) k ⟨E, hp, nx⟩).ok x := by
  obtain ⟨kl, hkl⟩ := kv.key a hok
  exact MS.val hEr hb (LS.lookQ (T := T) hm hy hyv ht kv.K hkl hz (fun _ o ho => ML.lk ho (hR ▸ mlR_ok hX hbf))) hdk hk'
theorem Stm (kv : KV P kt α) {t : TypeId} {m y z : Operand} {a : α} (b : β) {yv zv : XV} (hok : kv.ok a) (hll : ll.length < maxLen)
    (hEr : vis dm ops { dst := dd, op := .mapUpdate t m y z, type := ty, pos := pos, after := af, guard := g } E = Er) (hm : xev Er m = some (.a (.c (.m gm t0)))) (hg : aq hp gm = some ⟨gm, t0, .mp (ML kv e vv ll)⟩) (hy : xev Er y = some yv) (hyv : vOf yv = some (kv.v a)) (hz : xev Er z = some zv) (hzv : vOf zv = some (vv b)) (ht : T.bt.get t = some (.m kt e)) (hset' : bx hp gm t0 (.mp (ML kv e vv (ptL ll a b))) = some hp') (hb : aw ops Er g = some true ∧ okD x.N dd = true)
    (hk' : (MS.r ops (push dm ⟨i, [gm], true, false⟩) l k ⟨b8 dd .u E, hp', nx⟩).ok x) (hdk : DkM dm ops ⟨i, [gm], true, false⟩ := by first | exact trivial | (refine DK.mk ?_; decide +kernel)) :
    (MS.r ops dm ((i, { dst := dd, op := .mapUpdate t m y z, type := ty, pos := pos, after := af, guard := g }) :: l) k ⟨E, hp, nx⟩).ok x := by
  obtain ⟨kl, hkl⟩ := kv.key a hok
  exact MS.wr1 hg hset' hEr hb (LS.setO (T := T) hm hy hyv hz hzv ht kv.K hkl (fun o ho => ho.pt hok hll)) hdk hk'
end
open Go.Proofs
open Go.WideElems (Fit rg rd_val)
theorem store_any {P : Program} {t : TypeId} {b b' : Nat} {st : Nat} {val : Value} {es : Array MapEntry} {c : Nat} {o' : Obj} {w : World} (hb : w.heap[b]? = some (.map es c)) (h : (Instr.entryStore t (.map (some b)) (goInt st) val).run P w = .ok () (setBlock w b o')) {w2 : World} (hb2 : w2.heap[b']? = some (.map es c)) :
    (Instr.entryStore t (.map (some b')) (goInt st) val).run P w2 = .ok () (setBlock w2 b' o') := by
  have lt : b < w.heap.size := (Array.getElem?_eq_some_iff.1 hb).1
  cases hi : es.findIdx? (fun e => ((e.born : Nat) : Int) == ((st : Nat) : Int)) with
  | none => simp [Instr.entryStore, MapKept.run_getObj_map hb, asInt, asIntOf, goInt, hi, Result.andThen, unsupported] at h
  | some i =>
    simp [Instr.entryStore, MapKept.run_getObj_map hb, asInt, asIntOf, goInt, hi, MapKept.run_setObj_map _ hb, Result.andThen, setBlock] at h
    have e := congrArg (fun x : Array Obj => x[b]?) h
    simp [lt] at e
    simp [Instr.entryStore, MapKept.run_getObj_map hb2, asInt, asIntOf, goInt, hi, MapKept.run_setObj_map _ hb2, Result.andThen, setBlock, e]
section
variable {P : Program} {k e : TypeId} {α β : Type} [DecidableEq α] {kv : KV P k α} {vv : β → Value} {l : List (α × β)} {o : Obj}
def MLm (kv : KV P k α) (e t : TypeId) (vv : β → Value) (l : List (α × β)) (a : α) (st : Nat) (o1 : Obj) : Prop :=
  (∀ (b : β) (w2 : World) (r : Nat), w2.heap[r]? = some o1 → ∃ o', (Instr.entryStore t (.map (some r)) (goInt st) (vv b)).run P w2 = .ok () (setBlock w2 r o') ∧ ML kv e vv (ptL l a b) o') ∧
  ∃ n f, MapR P k e o1 n f ∧ ∀ z, (∀ u : World, (zeroValue e).run P u = .ok z u) → (f (kv.v a)).getD z = ((lkL l a).map vv).getD z
theorem entry_map (K : KeyLaw P k) {t : TypeId} (ht : P.underlying t = some (.map k e)) {z : Value} (hz : ∀ u : World, (zeroValue e).run P u = .ok z u) {w : World} {b : Nat} {es : Array MapEntry} {clock : Nat} (hb : w.heap[b]? = some (.map es clock)) (F : Fit P k R0 es clock) {key : Value} {kl : Lit} (hkey : keyOf P k key = some kl) :
    ∃ v : Value, (Instr.mapEntry t (.map (some b)) key).run P w = .ok v (setBlock w b (.map es clock)) ∨ ((∀ x ∈ es.toList, x.key ≠ key) ∧ (Instr.mapEntry t (.map (some b)) key).run P w = .ok v (setBlock w b (.map (es.push ⟨key, z, clock⟩) (clock + 1))) ∧ (Instr.mapUpdate t (.map (some b)) key z).run P w = .ok () (setBlock w b (.map (es.push ⟨key, z, clock⟩) (clock + 1)))) := by
  obtain ⟨s1, s2, _⟩ := F.stamped
  rcases (Maps.Keyed.of_law K).find w hkey es.toList F.keys with ⟨h1, h2⟩ | ⟨j, e0, h1, h2, h3⟩
  {
  refine ⟨.tuple #[z, goInt clock], .inr ⟨h2, ?_, ?_⟩⟩; {
  simp [Instr.mapEntry, run_underlying ht, MapKept.run_getObj_map hb, (Maps.Keyed.of_law K).check w false hkey, h1, hz, MapKept.run_setObj_map _ hb, Result.andThen, setBlock]}; {
  simp [Instr.mapUpdate, run_underlying ht, MapKept.run_getObj_map hb, (Maps.Keyed.of_law K).check w false hkey, h1, MapKept.run_setObj_map _ hb, Result.andThen, setBlock]}}; {
  have hj : es[j]? = some e0 := by simpa using h2
  have hsame : es.modify j (fun e => { e with key := key }) = es := by
    apply Array.ext'
    rw [Array.toList_modify, modify_eq_set _ _ _ _ h2]
    have : ({ e0 with key := key } : MapEntry) = e0 := by rw [← h3]
    rw [this]
    exact Go.WideElems.set_self _ _ _ h2
  refine ⟨.tuple #[e0.val, goInt e0.born], .inl ?_⟩
  simp [Instr.mapEntry, run_underlying ht, MapKept.run_getObj_map hb, (Maps.Keyed.of_law K).check w false hkey, h1, hj, h3, K.stays w hkey, hsame, MapKept.run_setObj_map _ hb, Result.andThen, setBlock]}
theorem ML.take (h : ML kv e vv l o) {t : TypeId} (ht : P.underlying t = some (.map k e)) {z : Value} (hz : ∀ u : World, (zeroValue e).run P u = .ok z u) {w : World} {r : Nat} (hb : w.heap[r]? = some o) {a : α} (ha : kv.ok a) (hl : l.length < maxLen) :
    ∃ (st : Nat) (o1 : Obj), (Instr.mapEntry t (.map (some r)) (kv.v a)).run P w = .ok (.tuple #[((lkL l a).map vv).getD z, goInt st]) (setBlock w r o1) ∧ MLm kv e t vv l a st o1 := by
  obtain ⟨kl, hk⟩ := kv.key a ha
  have h0 := h
  obtain ⟨h1, h2, f, ⟨es, clock, rfl, F, hn, hf, hg⟩, h4, h5⟩ := h
  obtain ⟨v0, st, es1, c1, hrun, hv0, hst⟩ := WideElems.entry_then_store kv.law ht hz hb F hk
  have hv : v0 = ((lkL l a).map vv).getD z := by
    rcases hv0 with ⟨e0, he, hk0, rfl⟩ | ⟨hno, rfl⟩
    {
    have := hf e0 he
    rw [hk0, h4] at this
    rw [this]; rfl}; {
    rw [← h4]
    cases hfa : f (kv.v a) with
    | none => rfl
    | some v =>
      obtain ⟨x, hx, hxk⟩ := hg _ kl hk (by rw [hfa]; simp)
      exact absurd hxk (hno x hx)}
  have lt0 : r < w.heap.size := (Array.getElem?_eq_some_iff.1 hb).1
  refine ⟨st, .map es1 c1, by rw [← hv]; exact hrun, fun b w2 r2 hr2 => ?_, ?_⟩
  rotate_left; {
  obtain ⟨v9, h9⟩ := entry_map kv.law ht hz hb F hk
  have key9 : ∀ (o9 : Obj), (Instr.mapEntry t (.map (some r)) (kv.v a)).run P w = .ok v9 (setBlock w r o9) → .map es1 c1 = o9 := fun o9 h => by
    rw [hrun] at h
    injection h with _ h
    have e2 : (setBlock w r (.map es1 c1)).heap[r]? = (setBlock w r o9).heap[r]? := by rw [h]
    simpa [setBlock, lt0] using e2
  rcases h9 with h9 | ⟨h8, h9, h10⟩
  {
  rw [key9 _ h9]
  exact ⟨_, f, ⟨es, clock, rfl, F, hn, hf, hg⟩, fun z' hz' => by rw [h4]⟩}; {
  rw [key9 _ h9]
  have hnl : (es.toList.length : Nat) < maxLen := by simpa [hn] using hl
  classical
  obtain ⟨o', hrun', ho'⟩ := MapR.set kv.K ht hb ⟨es, clock, rfl, F, hn, hf, hg⟩ hl hk (v := z) (g := fun s => if s = kv.v a then some z else f s) (if_pos rfl) (fun s hs => if_neg hs)
  rw [hrun'] at h10
  injection h10 with _ h10
  have e2 : (setBlock w r o').heap[r]? = (setBlock w r (.map (es.push ⟨kv.v a, z, clock⟩) (clock + 1))).heap[r]? := by rw [h10]
  simp [setBlock, lt0] at e2
  rw [← e2]
  refine ⟨_, _, ho', fun z' hz' => ?_⟩
  have ez : z' = z := by
    have h1 := hz w; rw [hz' w] at h1; injection h1
  have hnone : f (kv.v a) = none := by
    cases hfa : f (kv.v a) with
    | none => rfl
    | some v =>
      obtain ⟨x, hx, hxk⟩ := hg _ kl hk (by rw [hfa]; simp)
      exact absurd hxk (h8 x hx)
  rw [h4] at hnone
  rw [hnone]
  simp [ez]}}
  have lt : r < w.heap.size := (Array.getElem?_eq_some_iff.1 hb).1
  have hw1 : (setBlock w r (.map es1 c1)).heap[r]? = some (.map es1 c1) := by simp [setBlock, lt]
  obtain ⟨es', c', hs1, hs2⟩ := hst (setBlock w r (.map es1 c1)) (vv b) hw1
  refine ⟨_, store_any hw1 hs1 hr2, ?_⟩
  obtain ⟨n, f0, f', hM, hnl, hp1, hp2, hp3⟩ := h0.pt (b := b) ha hl
  obtain ⟨o', hrun', ho'⟩ := MapR.set kv.K ht hb hM hnl hk hp1 hp2
  rw [hs2] at hrun'
  have e2 : (setBlock w r (.map es' c')).heap[r]? = (setBlock w r o').heap[r]? := by
    injection hrun' with _ h; rw [h]
  simp [setBlock, lt] at e2
  rw [e2]
  exact hp3 o' ho'
end
section
variable {P : Program} {pk : Pk} {T : Tb P} {Er : XE} {nx : Nat} {ops : Array Oper} {d : Option Tmp} {ty : TypeId} {pos : String} {af : Array Edge} {g t0 : Nat}
variable {α β : Type} [DecidableEq α] {kt e : TypeId} {kv : KV P kt α} {vv : β → Value} {ll : List (α × β)}
theorem LS.ent {t : TypeId} {m y : Operand} {a : α} {z : Value} {yv : XV} {X : XA} (hm : xev Er m = some (.a (.c (.m g t0)))) (hy : xev Er y = some yv) (hyv : vOf yv = some (kv.v a)) (ht : T.bt.get t = some (.m kt e)) (hz : ∀ w, (zeroValue e).run P w = .ok z w) (hok : kv.ok a) (hll : ll.length < maxLen) (hX : ∀ V H, X.rel V H (((lkL ll a).map vv).getD z)) :
    LS P pk ops { dst := d, op := .mapEntry t m y, type := ty, pos := pos, after := af, guard := none } Er [⟨g, t0, .mp (ML kv e vv ll)⟩] nx nx (fun x fp' => ∃ st : Nat, x = .t [X, .c (.d (.c (.int .i64 st)))] ∧ fp' = [⟨g, t0, .mp (MLm kv e t vv ll a st)⟩]) := by
  intro w0 N Q2 rest env own H V sg hl hV htp hf hd _ hh
  obtain ⟨w1, h1, h2⟩ := hl.lks _ _ hm
  obtain ⟨w2, h3, h4⟩ := hl.lks _ _ hy
  have := ec hyv h4; subst this
  simp only [XV.rel, XA.rel, XC.rel] at h2
  obtain ⟨b, e0, hb, rfl⟩ := h2
  obtain ⟨b', ob, ex, rfl, h8, h9⟩ := HRm hV
  rw [h8] at hb; cases hb
  intro aa w ha hw
  have hbl := hw.own_blk (i := 0) (j := 0) rfl rfl
  obtain ⟨st, o1, hrun, hmid⟩ := ML.take h9 (mL (BT.all_get T.ok ht)) hz hbl hok hll
  refine wpList_plain rfl fun K hK => ?_
  unfold Oper.wp
  have hr : (execOp aa.eval { dst := d, op := .mapEntry t m y, type := ty, pos := pos, after := af, guard := none }).run P w = .ok (.value (.tuple #[((lkL ll a).map vv).getD z, goInt st])) (setBlock w b o1) := by
    simp [execOp, ha.ev h1, ha.ev h3, hrun, Result.andThen]
  rw [hr]
  exact hK _ _ (hh (.tuple #[((lkL ll a).map vv).getD z, goInt st]) (.t [X, .c (.d (.c (.int .i64 st)))]) _ V H [(b, o1)] ⟨st, rfl, rfl⟩ ⟨_, rfl, hX V H, ⟨rfl, rfl⟩, trivial⟩ ⟨[(b, o1)], [], rfl, .inl ⟨b, o1, _, rfl, h8, hmid⟩, rfl⟩ (fun q hq t' ht' => by rw [List.mem_singleton] at hq; subst hq; exact htp _ (List.mem_singleton.2 rfl) t' ht') (VX.refl _ _ _) (Le.refl _) _ _ (ha.put hd _) (by simpa using hw.setObj (i := 0) (j := 0) rfl rfl))
theorem LS.sto {t : TypeId} {m y z : Operand} {a : α} {st : Nat} {b : β} {zv : XV} (hm : xev Er m = some (.a (.c (.m g t0)))) (hy : xev Er y = some (xi (st : Nat))) (hz : xev Er z = some zv) (hzv : vOf zv = some (vv b)) :
    LS P pk ops { dst := d, op := .entryStore t m y z, type := ty, pos := pos, after := af, guard := none } Er [⟨g, t0, .mp (MLm kv e t vv ll a st)⟩] nx nx (fun x fp' => x = .u ∧ fp' = [⟨g, t0, .mp (ML kv e vv (ptL ll a b))⟩]) := by
  intro w0 N Q2 rest env own H V sg hl hV htp hf hd _ hh
  obtain ⟨w1, h1, h2⟩ := hl.lks _ _ hm
  obtain ⟨w2, h3, h4⟩ := hl.lks _ _ hy
  obtain ⟨w3, h5, h6⟩ := hl.lks _ _ hz
  have := bk h4; subst this
  have := ec hzv h6; subst this
  simp only [XV.rel, XA.rel, XC.rel] at h2
  obtain ⟨b2, e0, hb, rfl⟩ := h2
  obtain ⟨b', ob, ex, rfl, h8, h9⟩ := HRm hV
  rw [h8] at hb; cases hb
  intro aa w ha hw
  have hbl := hw.own_blk (i := 0) (j := 0) rfl rfl
  obtain ⟨o', hrun, ho'⟩ := (show MLm kv e t vv ll a st ob from h9).1 b w b2 hbl
  refine wpList_plain rfl fun K hK => ?_
  unfold Oper.wp
  have hr : (execOp aa.eval { dst := d, op := .entryStore t m y z, type := ty, pos := pos, after := af, guard := none }).run P w = .ok .skip (setBlock w b2 o') := by
    have hrun' : (Instr.entryStore t (.map (some b2)) (.int .i64 (st : Nat)) (vv b)).run P w = .ok () (setBlock w b2 o') := hrun
    simp [execOp, ha.ev h1, ha.ev h3, ha.ev h5, hrun', Result.andThen]
  rw [hr]
  exact hK _ _ (hh undef .u _ V H [(b2, o')] ⟨rfl, rfl⟩ rfl ⟨[(b2, o')], [], rfl, .inl ⟨b2, o', _, rfl, h8, ho'⟩, rfl⟩ (fun q hq t' ht' => by rw [List.mem_singleton] at hq; subst hq; exact htp _ (List.mem_singleton.2 rfl) t' ht') (VX.refl _ _ _) (Le.refl _) _ _ (ha.put hd undef) (by simpa using hw.setObj (i := 0) (j := 0) rfl rfl))
end
section
variable {P : Program} {x : Cx P} {T : Tb P} {k : List Fr} {E Er : XE} {hp : XH} {nx i : Nat} {ops : List Oper} {dm : Option (List Rc)} {l : List (Nat × Oper)} {d : Tmp} {dd : Option Tmp} {ty : TypeId} {pos : String} {af : Array Edge} {g : Option (Nat × Bool)} {gm t0 : Nat}
variable {α β : Type} [DecidableEq α] {kt e : TypeId} {kv : KV P kt α} {vv : β → Value} {ll : List (α × β)}
theorem Men (kv : KV P kt α) {t : TypeId} {m y : Operand} {a : α} {z : Value} {yv : XV} {hp' : XO → XH} (X : XA) (hX : ∀ V H, X.rel V H (((lkL ll a).map vv).getD z)) (hz : ∀ w, (zeroValue e).run P w = .ok z w) (hok : kv.ok a) (hll : ll.length < maxLen)
    (hEr : vis dm ops { dst := some d, op := .mapEntry t m y, type := ty, pos := pos, after := af, guard := g } E = Er) (hm : xev Er m = some (.a (.c (.m gm t0)))) (hg : aq hp gm = some ⟨gm, t0, .mp (ML kv e vv ll)⟩) (hy : xev Er y = some yv) (hyv : vOf yv = some (kv.v a)) (ht : T.bt.get t = some (.m kt e)) (hset' : ∀ o', bx hp gm t0 o' = some (hp' o')) (hb : aw ops Er g = some true ∧ okD x.N (some d) = true)
    (hk : ∀ st : Nat, (MS.r ops (push dm ⟨i, [gm], true, true⟩) l k ⟨(d, .t [X, .c (.d (.c (.int .i64 st)))]) :: E, hp' (.mp (MLm kv e t vv ll a st)), nx⟩).ok x) (hdk : DkM dm ops ⟨i, [gm], true, true⟩ := by first | exact trivial | (refine DK.mk ?_; decide +kernel)) (hrl : RlM dm ops i l := by first | exact trivial | (refine RL.mk ?_; decide +kernel)) :
    (MS.r ops dm ((i, { dst := some d, op := .mapEntry t m y, type := ty, pos := pos, after := af, guard := g }) :: l) k ⟨E, hp, nx⟩).ok x := by
  subst hEr
  obtain ⟨p1, p2, p3⟩ := aQ hg
  have e0 : ae [(⟨gm, t0, .mp (ML kv e vv ll)⟩ : XB)] ++ List.range' nx (nx - nx) = [gm] := by simp [ae]
  refine MS.op (fp := [⟨gm, t0, .mp (ML kv e vv ll)⟩]) (rest := bM hp gm) true true hb.2 p1 (Nat.le_refl _) (LS.yes (o := { dst := some d, op := .mapEntry t m y, type := ty, pos := pos, after := af, guard := g }) hb.1 (LS.ent (T := T) hm hy hyv ht hz hok hll hX)) (by rw [e0]; exact hdk) (fun h => by cases h) (fun _ => hrl) ?_
  rintro q fp' ⟨st, rfl, rfl⟩
  refine ⟨by simp [ae], by simp [ae], fun h => (by cases h), _, p3 _ _ _ (hset' _), ?_⟩
  rw [e0]; exact hk st
theorem Est (kv : KV P kt α) {t : TypeId} {m y z : Operand} {a : α} {st : Nat} (b : β) {zv : XV} {hp' : XH}
    (hEr : vis dm ops { dst := dd, op := .entryStore t m y z, type := ty, pos := pos, after := af, guard := g } E = Er) (hm : xev Er m = some (.a (.c (.m gm t0)))) (hg : aq hp gm = some ⟨gm, t0, .mp (MLm kv e t vv ll a st)⟩) (hy : xev Er y = some (xi (st : Nat))) (hz : xev Er z = some zv) (hzv : vOf zv = some (vv b)) (hset' : bx hp gm t0 (.mp (ML kv e vv (ptL ll a b))) = some hp') (hb : aw ops Er g = some true ∧ okD x.N dd = true)
    (hk' : (MS.r ops (push dm ⟨i, [gm], true, false⟩) l k ⟨b8 dd .u E, hp', nx⟩).ok x) (hdk : DkM dm ops ⟨i, [gm], true, false⟩ := by first | exact trivial | (refine DK.mk ?_; decide +kernel)) :
    (MS.r ops dm ((i, { dst := dd, op := .entryStore t m y z, type := ty, pos := pos, after := af, guard := g }) :: l) k ⟨E, hp, nx⟩).ok x :=
  MS.wr1 hg hset' hEr hb (LS.sto hm hy hz hzv) hdk hk'
end
theorem iU : laidOutB Tryz.prog = true := by kernel_rfl
theorem lawMark : KeyLaw Tryz.prog 141 := deep_law_laid iU (m := 4) (by omega) (of_decide_eq_true (by kernel_rfl)) (by kernel_rfl) (by rw [Tryz.underlying141])
theorem lawRef : KeyLaw Tryz.prog 115 := deep_law_laid iU (m := 4) (by omega) (of_decide_eq_true (by kernel_rfl)) (by kernel_rfl) (by rw [Tryz.underlying115])
theorem lawP2 : KeyLaw Tryz.prog 163 := deep_law_laid iU (m := 4) (by omega) (of_decide_eq_true (by kernel_rfl)) (by kernel_rfl) (by rw [Tryz.underlying163])
theorem lawR2 : KeyLaw Tryz.prog 177 := deep_law_laid iU (m := 4) (by omega) (of_decide_eq_true (by kernel_rfl)) (by kernel_rfl) (by rw [Tryz.underlying177])
theorem lawStr : KeyLaw Tryz.prog 9 := string_law Tryz.underlying9
theorem kTys : Tryz.prog.keyType 141 = true ∧ Tryz.prog.keyType 115 = true ∧ Tryz.prog.keyType 163 = true ∧ Tryz.prog.keyType 177 = true := ⟨by kernel_rfl, by kernel_rfl, by kernel_rfl, by kernel_rfl⟩
theorem kCel : Tryz.prog.cellsOf 141 = 4 ∧ Tryz.prog.cellsOf 115 = 2 ∧ Tryz.prog.cellsOf 163 = 2 ∧ Tryz.prog.cellsOf 177 = 4 ∧ Tryz.prog.cellsOf 9 = 1 ∧ Tryz.prog.cellsOf 3 = 1 ∧ Tryz.prog.cellsOf 4 = 1 := ⟨by kernel_rfl, by kernel_rfl, by kernel_rfl, by kernel_rfl, by kernel_rfl, by kernel_rfl, by kernel_rfl⟩
theorem tsize0 : (2 : Nat) < Tryz.prog.types.size := of_decide_eq_true (by kernel_rfl)
theorem tsize : ∃ m, Tryz.prog.types.size = m + 2 := ⟨Tryz.prog.types.size - 2, by have := tsize0; omega⟩
def lz (m : Mark) : Value := .agg #[.int .i64 m.sort, .int .i64 m.kind, .int .i64 m.n, .string m.name]
def refV (r : Rf) : Value := .agg #[.bool r.1, .int .i64 r.2]
def p2V (p : Nat × Nat) : Value := .agg #[.int .i64 p.1, .int .i64 p.2]
def r2V (p : aj) : Value := .agg #[.bool p.1.1, .int .i64 p.1.2, .bool p.2.1, .int .i64 p.2.2]
theorem wfN {n : Nat} (h : n ≤ 1000000000000) : (Lit.int .i64 (n : Int)).wf = true := wf64 ⟨by omega, by omega⟩
theorem key_mark {m : Mark} (h1 : I64 m.sort) (h2 : I64 m.kind) (h3 : I64 m.n) (h4 : m.name.size ≤ maxLen) : ∃ kl, keyOf Tryz.prog 141 (lz m) = some kl := by
  obtain ⟨q, hq⟩ := tsize
  unfold keyOf lz
  simp only [Tryz.underlying141]
  rw [if_pos (by simp [kTys, Value.formed, Tryz.underlying141, kCel]), hq]
  unfold Program.keyLits
  simp only [Tryz.underlying141, Value.cells]
  rw [if_pos ⟨by rw [kCel.1]; rfl, by decide +kernel⟩]
  simp [Program.keyLits, Tryz.underlying3, Tryz.underlying9, kCel, wf64 h1, wf64 h2, wf64 h3, h4]
theorem key_ref {r : Rf} (h : r.2 ≤ 1000000000000) : ∃ kl, keyOf Tryz.prog 115 (refV r) = some kl := by
  obtain ⟨q, hq⟩ := tsize
  unfold keyOf refV
  simp only [Tryz.underlying115]
  rw [if_pos (by simp [kTys, Value.formed, Tryz.underlying115, kCel]), hq]
  unfold Program.keyLits
  simp only [Tryz.underlying115, Value.cells]
  rw [if_pos ⟨by rw [kCel.2.1]; rfl, by decide +kernel⟩]
  simp [Program.keyLits, Tryz.underlying3, Tryz.underlying4, kCel, wfN h]
theorem key_p2 {p : Nat × Nat} (h : p.1 ≤ 1000000000000) (h2 : p.2 ≤ 1000000000000) : ∃ kl, keyOf Tryz.prog 163 (p2V p) = some kl := by
  obtain ⟨q, hq⟩ := tsize
  unfold keyOf p2V
  simp only [Tryz.underlying163]
  rw [if_pos (by simp [kTys, Value.formed, Tryz.underlying163, kCel]), hq]
  unfold Program.keyLits
  simp only [Tryz.underlying163, Value.cells]
  rw [if_pos (by rw [kCel.2.2.1]; rfl)]
  simp [Program.keyLits, Tryz.underlying3, kCel, wfN h, wfN h2, List.range, List.range.loop]
theorem key_r2 {p : aj} (h : p.1.2 ≤ 1000000000000) (h2 : p.2.2 ≤ 1000000000000) : ∃ kl, keyOf Tryz.prog 177 (r2V p) = some kl := by
  obtain ⟨q, hq⟩ := tsize
  unfold keyOf r2V
  simp only [Tryz.underlying177]
  rw [if_pos (by simp [kTys, Value.formed, Tryz.underlying177, kCel]), hq]
  unfold Program.keyLits
  simp only [Tryz.underlying177, Value.cells]
  rw [if_pos (by rw [kCel.2.2.2.1]; rfl)]
  simp [Program.keyLits, Tryz.underlying115, Tryz.underlying3, Tryz.underlying4, kCel, wfN h, wfN h2, List.range, List.range.loop]
def kvM : KV Tryz.prog 141 Mark := ⟨lawMark, lz, fun m => I64 m.sort ∧ I64 m.kind ∧ I64 m.n ∧ m.name.size ≤ maxLen, fun a b h => by
  obtain ⟨a1, a2, a3, a4⟩ := a; obtain ⟨b1, b2, b3, b4⟩ := b
  simp [lz] at h
  obtain ⟨rfl, rfl, rfl, rfl⟩ := h; rfl, fun a h => key_mark h.1 h.2.1 h.2.2.1 h.2.2.2⟩
def kvR : KV Tryz.prog 115 Rf := ⟨lawRef, refV, fun r => r.2 ≤ 1000000000000, fun a b h => by
  obtain ⟨a1, a2⟩ := a; obtain ⟨b1, b2⟩ := b
  simp [refV] at h
  obtain ⟨rfl, h⟩ := h; simp; omega, fun a h => key_ref h⟩
def kvP : KV Tryz.prog 163 (Nat × Nat) := ⟨lawP2, p2V, fun p => p.1 ≤ 1000000000000 ∧ p.2 ≤ 1000000000000, fun a b h => by
  obtain ⟨a1, a2⟩ := a; obtain ⟨b1, b2⟩ := b
  simp [p2V] at h
  simp; omega, fun a h => key_p2 h.1 h.2⟩
def kvC : KV Tryz.prog 177 aj := ⟨lawR2, r2V, fun p => p.1.2 ≤ 1000000000000 ∧ p.2.2 ≤ 1000000000000, fun a b h => by
  obtain ⟨⟨a1, a2⟩, a3, a4⟩ := a; obtain ⟨⟨b1, b2⟩, b3, b4⟩ := b
  simp [r2V] at h
  obtain ⟨rfl, h1, rfl, h2⟩ := h
  simp; omega, fun a h => key_r2 h.1 h.2⟩
def kvS : KV Tryz.prog 9 ByteArray := ⟨lawStr, .string, fun s => s.size ≤ maxLen, fun a b h => by injection h, fun a h => ⟨_, by
  unfold keyOf
  simp only [Tryz.underlying9]
  unfold mapKey
  simp only [Tryz.underlying9]
  rw [if_pos h]⟩⟩
theorem ba (w : World) : (zeroValue 3).run Tryz.prog w = .ok (.int .i64 0) w := zero3 w
theorem zeroB (w : World) : (zeroValue 4).run Tryz.prog w = .ok (.bool false) w := by simp [zeroValue, typeInfo, show Tryz.prog.info? 4 = some Tryz.t4 from by kernel_rfl]; rfl
theorem zeroR (w : World) : (zeroValue 115).run Tryz.prog w = .ok (.agg #[.bool false, .int .i64 0]) w := by simp [zeroValue, typeInfo, show Tryz.prog.info? 115 = some Tryz.t115 from by kernel_rfl]; rfl
end Go.Proofs.YticengaggjcppaaGreat.X
namespace Go.Proofs.YticengaggjcppaaGreat.K
open Go Go.RowKit
def Fr : Option Nat → Fence
  | none => Fence.wide
  | some l => Fence.wide.inRound l
theorem Fr.fn (ro : Option Nat) (f : FuncId) : (Fr ro).fn f := by cases ro <;> trivial
theorem Fr.depth (ro : Option Nat) : (Fr ro).depth = none := by cases ro <;> rfl
theorem Fr.rnd (ro : Option Nat) : (Fr ro).round = ro := by cases ro <;> rfl
theorem Fr.room (ro : Option Nat) (n : Nat) : (Fr ro).room n := fun d h => by rw [Fr.depth] at h; cases h
theorem Fr.fenced (ro : Option Nat) (P : Program) : Machine.fenced P (Fr ro) = Machine.fenced P Fence.wide := by cases ro <;> rfl
theorem Fr.calls {ro : Option Nat} {n : Nat} {P : Program} {f : FuncId} {args : Array Value} {w : World} {R : Ending → World → Prop} (h : Calls P f args w R) : CallsIn (Fr ro) n P f args w R := by
  cases ro with
  | none => exact callsIn_wide.2 h
  | some l => exact (callsIn_wide.2 h).inRound l
theorem Fr.rows {ro : Option Nat} {n : Nat} {P : Program} {row : String} {args : Array Value} {w : World} {R : Value → World → Prop} (h : Rows P row args w R) : RowsIn (Fr ro) n P row args w R := by
  intro c cs _
  obtain ⟨v, w', h1, h2⟩ := h c cs
  refine ⟨v, w', h1, ?_⟩
  rw [Fr.fenced]
  exact stepsIn_wide.2 h2
def dsA (ds : List Deferred) (a : Act) : Act := { a with defers := ds }
theorem cv {a : Act} (h : a.defers = []) : dsA [] a = a := by cases a; simp only at h; subst h; rfl
theorem aZ (ds : List Deferred) (a : Act) (d : Option Tmp) (v : Value) : (dsA ds a).put d v = dsA ds (a.put d v) := by cases d <;> rfl
theorem dD (ds : List Deferred) (a : Act) : (dsA ds a).eval = a.eval := funext fun x => by cases x <;> rfl
def TLX (ro : Option Nat) (ds : List Deferred) (P : Program) (w0 : World) (N : Nat) (Q : Exit → Act → World → Prop) (ops : Array Oper) (l : List Oper) (env : Env) (own : List Seg) (H : Hp) : Prop :=
  ∀ a w, At N env a → St w0 H own w → wpListIn (Fr ro) 1 P ops Q l (dsA ds a) w
def TCX (ro : Option Nat) (ds : List Deferred) (P : Program) (w0 : World) (N : Nat) (Q : Exit → Act → World → Prop) (c : Code) (env : Env) (own : List Seg) (H : Hp) : Prop :=
  ∀ a w, At N env a → St w0 H own w → c.wpIn (Fr ro) 1 P Q (dsA ds a) w
def TQX (ds : List Deferred) (w0 : World) (N : Nat) (Q : Exit → Act → World → Prop) (e : Exit) (env : Env) (own : List Seg) (H : Hp) : Prop :=
  ∀ a w, At N env a → St w0 H own w → Q e (dsA ds a) w
def OneX (ro : Option Nat) (ds : List Deferred) (P : Program) (Q : Exit → Act → World → Prop) (ops : Array Oper) (rest : List Oper) : Exit → Act → World → Prop :=
  fun e a w => e = .normal ∧ a.defers = [] ∧ wpListIn (Fr ro) 1 P ops Q rest (dsA ds a) w
def cy (o : Oper) : Bool := match o.op with | .defer _ => false | _ => true
section
variable {ro : Option Nat} {ds : List Deferred} {P : Program} {w0 : World} {N : Nat} {Q : Exit → Act → World → Prop} {env : Env} {own : List Seg} {H : Hp} {ops : Array Oper} {rest : List Oper}
theorem upon_x {o : Oper} {a : Act} (ha : a.defers = []) {r : Result Next} (h : o.upon P a (OneX ro ds P Q ops rest .normal) (OneX ro ds P Q ops rest) r) : o.uponIn (Fr ro) 1 P (dsA ds a) (wpListIn (Fr ro) 1 P ops Q rest) Q r := by
  cases r with
  | ok nx w' =>
    cases nx with
    | value v =>
      rw [Oper.uponIn_value, aZ]
      exact h.2.2
    | skip =>
      rw [Oper.uponIn_skip, aZ]
      exact h.2.2
    | defer d =>
      have h1 := h.2.1
      exfalso
      cases hd : o.dst <;> simp [hd, Act.put] at h1
    | enter f args =>
      rw [Oper.uponIn_enter]
      refine ⟨fun hd => (by rw [Fr.depth] at hd; cases hd), Fr.calls (Calls.mono h ?_)⟩
      intro e w2 he
      cases e with
      | returned v =>
        show wpListIn _ _ _ _ _ _ ((dsA ds a).put o.dst v) w2
        rw [aZ]
        exact he.2.2
      | panicked chain => exact nomatch he.1
      | outgrown => obtain ⟨_, _, h1, _⟩ := he; exact nomatch h1
    | row row args =>
      rw [Oper.uponIn_row]
      refine ⟨fun hd => (by rw [Fr.depth] at hd; cases hd), Fr.rows (Rows.mono h ?_)⟩
      intro v w2 he
      rw [aZ]
      exact he.2.2
    | _ => exact h.elim
  | halt h' w' =>
    cases h' with
    | panic v => exact nomatch h.1
    | _ => exact h.elim
theorem TLX.step {o : Oper} (hd : cy o = true) (h : TL P w0 N (OneX ro ds P Q ops rest) ops [o] env own H) : TLX ro ds P w0 N Q ops (o :: rest) env own H := fun a w ha hw => by
  have h1 := h a w ha hw
  have hnd : ∀ c, o.op ≠ .defer c := fun c hc => by
    unfold cy at hd
    rw [hc] at hd
    cases hd
  simp only [wpList] at h1
  simp only [wpListIn]
  have hy : yielded ops (dsA ds a).tmps = yielded ops a.tmps := rfl
  rw [hy]
  split at h1; {
  rename_i hw1
  rw [if_pos hw1]
  refine ⟨fun f _ => Fr.fn ro f, ?_⟩
  rw [Fr.rnd, Oper.semAt_eq _ _ _ hnd, dD]
  rcases h1 with h1 | ⟨_, _, _, h1, _⟩
  {
  exact upon_x ha.defers h1}; {
  exact nomatch h1}}; {
  rename_i hw1
  rw [if_neg hw1]
  refine ⟨fun f _ => Fr.fn ro f, ?_⟩
  rw [aZ]
  exact h1.2.2}
theorem TQX.go (h : TLX ro ds P w0 N Q ops rest env own H) : TQ w0 N (OneX ro ds P Q ops rest) .normal env own H := fun a w ha hw => ⟨rfl, ha.defers, h a w ha hw⟩
theorem TLX.nil (h : TQX ds w0 N Q .normal env own H) : TLX ro ds P w0 N Q ops [] env own H := fun a w ha hw => h a w ha hw
theorem TCX.seq {x y : Code} (h : TCX ro ds P w0 N (Exit.then (y.wpIn (Fr ro) 1 P Q) Q) x env own H) : TCX ro ds P w0 N Q (.seq x y) env own H := fun a w ha hw => wpIn_seq (h a w ha hw)
theorem TCX.ret (h : TQX ds w0 N Q .ret env own H) : TCX ro ds P w0 N Q .ret env own H := fun a w ha hw => wpIn_ret (h a w ha hw)
theorem TCX.block {i : Nat} {c : Code} (h : TCX ro ds P w0 N (Exit.inBlock i Q) c env own H) : TCX ro ds P w0 N Q (.block i c) env own H := fun a w ha hw => wpIn_block (h a w ha hw)
theorem TCX.region {i : Nat} {l : List Oper} (h : TLX ro ds P w0 N Q l.toArray l env own H) : TCX ro ds P w0 N Q (.region i l.toArray false) env own H := fun a w ha hw => wpIn_region_lit (h a w ha hw)
theorem TQX.then_n {y : Code} (h : TCX ro ds P w0 N Q y env own H) : TQX ds w0 N (Exit.then (y.wpIn (Fr ro) 1 P Q) Q) .normal env own H := h
theorem TQX.in_n {i : Nat} (h : TQX ds w0 N Q .normal env own H) : TQX ds w0 N (Exit.inBlock i Q) .normal env own H := h
theorem TC.ofX {c : Code} (h : TCX none [] P w0 N Q c env own H) : TC P w0 N Q c env own H := fun a w ha hw => wpIn_wide.1 (by have := h a w ha hw; rwa [cv ha.defers] at this)
theorem TQX.ofQ {e : Exit} (h : TQ w0 N Q e env own H) : TQX [] w0 N Q e env own H := fun a w ha hw => by rw [cv ha.defers]; exact h a w ha hw
end
theorem m7 {ro : Option Nat} {n m : Nat} {P : Program} {c : Code} {Q : Exit → Act → World → Prop} {a : Act} {w : World} (h : c.wpIn (Fr ro) n P Q a w) : c.wpIn (Fr ro) m P Q a w :=
  fun b k cs h1 h2 _ => h b k cs h1 h2 (Fr.room ro _)
section
variable {x : Bool} {P : Program} {w0 : World} {N : Nat} {Q : Exit → Act → World → Prop} {env : Env} {own : List Seg} {H : Hp} {ops : Array Oper} {l : List Oper} {a : Act} {w : World}
end
open Go.ChangeMaps
section
variable {ro : Option Nat} {ds : List Deferred} {P : Program} {w0 : World} {N : Nat} {Q : Exit → Act → World → Prop} {env : Env} {own : List Seg} {H : Hp} {ops : Array Oper} {rest : List Oper}
theorem TQX.flat {e : Exit} {own' : List Seg} (hf : own'.flatten.Perm own.flatten) (h : TQX ds w0 N Q e env own' H) : TQX ds w0 N Q e env own H := fun a w ha hw => h a w ha (hw.flat hf)
theorem TCX.flat {c : Code} {own' : List Seg} (hf : own'.flatten.Perm own.flatten) (h : TCX ro ds P w0 N Q c env own' H) : TCX ro ds P w0 N Q c env own H := fun a w ha hw => h a w ha (hw.flat hf)
end
def YieldC (P : Program) (w0 : World) (l : Nat) (args : List Value) (own : List Seg) (H : Hp) (φ : Value → List Seg → Hp → Prop) : Prop :=
  ∀ mine w, St w0 H (mine ++ own) w → YieldAt Fence.wide 0 P l args.toArray w (Ret w0 fun v o H' => ∃ own', o = mine ++ own' ∧ φ v own' H')
def iV {α : Type} (P : Program) (gf : FuncId) (lb : List Value) (encs : α → List Value) (S Sp : List α → Prop) (w0 : World) (H : Hp) : Prop :=
  ∀ (l : Nat) (J Jx : List α → List Seg → Hp → Prop) (own : List Seg) (H0 : Hp), Le H H0 →
    (∀ pre x own1 H1, Le H0 H1 → J pre own1 H1 → Sp (pre ++ [x]) → YieldC P w0 l (encs x) own1 H1 (fun v own2 H2 => Le H1 H2 ∧ ((v = .bool true ∧ J (pre ++ [x]) own2 H2) ∨ (v = .bool false ∧ Jx (pre ++ [x]) own2 H2)))) →
    J [] own H0 →
    Fn P gf (.func (.yield l) #[] #[] :: lb) w0 H0 own (fun _ own' H' => Le H0 H' ∧ ((∃ xs, S xs ∧ J xs own' H') ∨ (∃ pre, Sp pre ∧ Jx pre own' H')))
section
variable {ro : Option Nat} {ds : List Deferred} {P : Program} {w0 : World} {N : Nat} {Q : Exit → Act → World → Prop} {env : Env} {own : List Seg} {H : Hp} {ops : Array Oper} {rest : List Oper}
variable {d : Option Tmp} {ty : TypeId} {pos : String} {af : Array Edge}
theorem TLX.yield {l : Nat} {x : Operand} {xs : List Operand} {vs : List Value} {tys : Array TypeId} {φ : Value → List Seg → Hp → Prop} (mine own1 : List Seg) (hx : ev env x = some (.func (.yield l) #[] #[])) (hxs : Evs env xs vs) (ho : own = mine ++ own1)
    (hy : YieldC P w0 l vs own1 H φ) (hd : okD N d = true) (hn : ∀ v own2 H2, φ v own2 H2 → TLX none ds P w0 N Q ops rest (ao d v env) (mine ++ own2) H2) :
    TLX none ds P w0 N Q ops ({ dst := d, op := .call { callee := .value x, args := xs.toArray, argTypes := tys }, type := ty, pos := pos, after := af, guard := none } :: rest) env own H := fun a w ha hw => by
  subst ho
  obtain ⟨fn, tmps, assign, body, hrun, hround⟩ := hy mine w hw
  have hm := Evs.map ha hxs
  have hop : (execOp a.eval { dst := d, op := .call { callee := .value x, args := xs.toArray, argTypes := tys }, type := ty, pos := pos, after := af, guard := none }).run P w = .ok (.round l fn tmps assign body) w := by
    simp [execOp, resolve, Deferred.ofValue, invoke, ha.ev hx, hm, hrun]
  simp only [wpListIn, Region.wanted, if_true]
  refine ⟨fun f _ => Fr.fn none f, ?_⟩
  rw [Fr.rnd, Oper.semAt_none, dD, hop, Oper.uponIn_round]
  refine ⟨fun h => (by rw [Fr.depth] at h; cases h), RoundIn.mono hround ?_⟩
  rintro e w' ⟨v, o, H', rfl, ⟨own2, rfl, hp⟩, hw'⟩
  show wpListIn _ _ _ _ _ _ ((dsA ds a).put d v) w'
  rw [aZ]
  exact hn v own2 H' hp _ _ (ha.put hd v) hw'
end
def bE (fn : FuncId) (tmps : Array Value) (ps : Array Tmp) (assign body : Code) (D : Nat) (st : LoopState) (pe : Option Code) : Loop := { state := st, pending := pe, fn := fn, tmps := tmps, params := ps, assign := assign, body := body, defers := D }
def aC (l D : Nat) (r : Loop) : Seg := [(l, .loop r), (D, .deferred (some []))]
theorem Fn.enterX {P : Program} {f : FuncId} {fn : Func} {c : Code} {args : List Value} {w0 : World} {H : Hp} {own : List Seg} {φ : Value → List Seg → Hp → Prop} {N : Nat} (hf : P.funcs[f]? = some fn) (hb : fn.body = some c) (hN : fn.ntmps = N)
    (hl : Nat.ble args.length N = true) (h : TCX none [] P w0 N (bodyPostM Fence.wide 1 P fn (Ret w0 φ)) c (cS 0 args) own H) : Fn P f args w0 H own φ := fun w hw => by
  have hl' : args.length ≤ N := Nat.le_of_ble_eq_true hl
  refine (callsIn_wide (n := 1)).1 (callsIn_of_wp_marks (n := 1) hf hb trivial ?_)
  have h1 := h { tmps := args.toArray ++ Array.replicate (fn.ntmps - args.toArray.size) undef, defers := [] } w ⟨rfl, ?_, fun i v hv => ?_⟩ hw; {
  rwa [cv rfl] at h1}; {
  simp [hN]; omega}; {
  obtain ⟨_, h2⟩ := eN args 0 i v hv
  simp only [Nat.sub_zero] at h2
  have hlt : i < args.length := (List.getElem?_eq_some_iff.1 h2).1
  rw [Array.getElem?_append_left (by simpa using hlt)]
  simpa using h2}
section
variable {P : Program} {w0 : World} {N : Nat} {env : Env} {own : List Seg} {H : Hp} {fn : Func} {φ : Value → List Seg → Hp → Prop}
theorem pJ {D : Nat} {R : Ending → World → Prop} {tmps : Array Value} {w : World} {v : Value} (hD : w.heap[D]? = some (.deferred (some []))) (hr : (results fn tmps).run P (w.putObj D (.deferred none)) = .ok v (w.putObj D (.deferred none))) (h : R (.returned v) (w.putObj D (.deferred none))) :
    LeavesInM Fence.wide 1 P fn tmps R [{ target := .collected D, args := #[] }] .returning w :=
  ⟨by simp, .inl ⟨D, _, rfl, run_takeDeferred hD, ⟨v, hr, h⟩⟩⟩
theorem TQX.ret1 (k : Nat) {l D : Nat} {r : Loop} {own1 : List Seg} {t : Tmp} {v : Value} (hr : fn.results = #[.tmp t]) (hv : lk env t = some v) (ho : own = aC l D r :: own1) (h : φ v (own1.drop k) H) :
    TQX [{ target := .collected D, args := #[] }] w0 N (bodyPostM Fence.wide 1 P fn (Ret w0 φ)) .ret env own H := fun a w ha hw => by
  subst ho
  have hD : w.heap[D]? = some (.deferred (some [])) := hw.own_blk (i := 0) (j := 1) rfl rfl
  have h1 := ha.slots t v hv
  have hw' : St w0 H own1 (w.putObj D (.deferred none)) := (hw.setObj (i := 0) (j := 1) (o' := .deferred none) rfl rfl).tail
  refine pJ hD (v := v) ?_ ⟨v, own1.drop k, H, rfl, h, hw'.drop k⟩
  have := results_tmp (P := P) hr a.tmps (w.putObj D (.deferred none))
  simpa [Array.getD_eq_getD_getElem?, h1, dsA] using this
end
structure RoundEnd (w0 : World) (P : Program) (l D : Nat) (fn : FuncId) (tmps : Array Value) (ps : Array Tmp) (assign body : Code) (mine : List Seg) (In : List Seg → Hp → Prop) (Ix : Code → List Seg → Hp → Prop) (Q : Exit → Act → World → Prop) : Prop where
  n : ∀ a w own H, In own H → St w0 H (aC l D (bE fn tmps ps assign body D .busy none) :: (own ++ mine)) w → Q .normal a w
  e : ∀ a w own H i, Ix (.exit i) own H → St w0 H (aC l D (bE fn tmps ps assign body D .busy none) :: (own ++ mine)) w → Q (.exit i) a w
  r : ∀ a w own H, Ix .ret own H → St w0 H (aC l D (bE fn tmps ps assign body D .busy none) :: (own ++ mine)) w → Q .ret a w
def gT : List Tmp → List Value → Env → Env
  | p :: ps, v :: vs, env => gT ps vs ((p, v) :: env)
  | _, _, env => env
theorem pK {N : Nat} : ∀ {ps : List Tmp} {vs : List Value} {env : Env} {a : Act}, (ps.all fun p => Nat.blt p N) = true → At N env a → At N (gT ps vs env) { tmps := (ps.zip vs).foldl (fun t (p, v) => t.setIfInBounds p v) a.tmps, defers := [] }
  | [], vs, env, a, _, h => by simpa [gT] using (show At N env { tmps := a.tmps, defers := [] } from ⟨rfl, h.size, h.slots⟩)
  | p :: ps, [], env, a, _, h => by simpa [gT] using (show At N env { tmps := a.tmps, defers := [] } from ⟨rfl, h.size, h.slots⟩)
  | p :: ps, v :: vs, env, a, hp, h => by
    simp only [List.all_cons, Bool.and_eq_true] at hp
    have h1 : At N ((p, v) :: env) (a.put (some p) v) := h.put (d := some p) (by simpa [okD] using hp.1) v
    have := pK (vs := vs) hp.2 h1
    simpa [gT, Act.put] using this
theorem St.setObj0 {w0 w : World} {own : List Seg} {H : Hp} {l D : Nat} {o o' : Obj} {x : Obj} (h : St w0 H ([(l, o), (D, x)] :: own) w) : St w0 H ([(l, o'), (D, x)] :: own) (w.putObj l o') := by
  have := h.setObj (i := 0) (j := 0) (o' := o') rfl rfl
  exact this
theorem fe (mine : List Seg) (K : Seg) (own : List Seg) : (K :: (own ++ mine)).Perm (mine ++ K :: own) := by
  have h1 : (K :: own ++ mine).Perm (mine ++ (K :: own)) := List.perm_append_comm
  simpa using h1
theorem TCX.rangeFunc {α : Type} {ds : List Deferred} {P : Program} {w0 : World} {N : Nat} {Q : Exit → Act → World → Prop} {env : Env} {own : List Seg} {H : Hp} {g : Operand} {ps : List Tmp} {assign body : Code} {gf : FuncId} {lb : List Value} [hc : Callable P gf]
    (hg : ev env g = some (.func (.func gf) #[] lb.toArray)) {encs : α → List Value} {S Sp : List α → Prop} (hit : iV P gf lb encs S Sp w0 H) (hps : ∀ x, (encs x).length = ps.length) (hpb : (ps.all fun p => Nat.blt p N) = true)
    (I : List α → List Seg → Hp → Prop) (Ix : Code → List α → List Seg → Hp → Prop) (h0 : I [] own H)
    (hround : ∀ l D fn tmps mine pre x own1 H1 (QB : Exit → Act → World → Prop) (Kb : Act → World → Prop), Le H H1 → I pre own1 H1 → Sp (pre ++ [x]) →
      RoundEnd w0 P l D fn tmps ps.toArray assign body mine (fun own2 H2 => Le H1 H2 ∧ I (pre ++ [x]) own2 H2) (fun c own2 H2 => Le H1 H2 ∧ Ix c (pre ++ [x]) own2 H2) QB →
      (∀ env2 own2 H2, TCX (some l) [] P w0 N QB body env2 (aC l D (bE fn tmps ps.toArray assign body D .busy none) :: own2) H2 → TQX [] w0 N (Exit.then Kb (fun _ _ _ => False)) .normal env2 (aC l D (bE fn tmps ps.toArray assign body D .ready none) :: own2) H2) →
      TCX (some l) [] P w0 N (Exit.then Kb (fun _ _ _ => False)) assign (gT ps (encs x) env) (aC l D (bE fn tmps ps.toArray assign body D .ready none) :: (own1 ++ mine)) H1)
    (hdone : ∀ l D r xs own1 H1, Le H H1 → S xs → I xs own1 H1 → TQX ({ target := .collected D, args := #[] } :: ds) w0 N Q .normal env (aC l D r :: own1) H1)
    (hstop : ∀ l D r c pre own1 H1, Le H H1 → Sp pre → Ix c pre own1 H1 → TCX none ({ target := .collected D, args := #[] } :: ds) P w0 N Q c env (aC l D r :: own1) H1) :
    TCX none ds P w0 N Q (.rangeFunc g ps.toArray assign body) env own H := fun a w ha hw => by
  refine wpIn_rangeFunc ?_
  intro fn _
  rw [Fr.rnd]
  have hA0 : At N env { tmps := a.tmps, defers := [] } := ⟨rfl, ha.size, ha.slots⟩
  let rc := bE fn a.tmps ps.toArray assign body w.heap.size
  obtain ⟨W1, hW1⟩ : ∃ W1, (w.alloc (.deferred (some []))).alloc (.loop (rc .ready none)) = W1 := ⟨_, rfl⟩
  have hst1 : St w0 H (aC (w.heap.size + 1) w.heap.size (rc .ready none) :: own) W1 := by
    have h1 := (hw.new (.deferred (some []))).new (.loop (rc .ready none))
    rw [hW1] at h1
    refine h1.flat ?_
    simp only [aC, World.size_alloc, List.flatten_cons, List.cons_append, List.nil_append]
    exact .refl _
  refine ⟨w.heap.size + 1, [{ target := .collected w.heap.size, args := #[] }], W1, { target := .fn (.func gf) lb.toArray, args := #[.func (.yield (w.heap.size + 1)) #[] #[]] }, W1, gf,
    #[.func (.yield (w.heap.size + 1)) #[] #[]] ++ lb.toArray, W1, ?_, ?_, ?_, ?_, fun _ => Nat.le_refl 1, ?_⟩
  · rw [← hW1]; exact run_enterLoop_outer _ _ _ _ _
  · have hg' : (dsA ds a).eval g = .func (.func gf) #[] lb.toArray := by rw [dD]; exact ha.ev hg
    simp only [resolve, hg']
    simp [go_sem]
  · intro f' hf'; exact Fr.fn none f'
  · simp [invoke, go_sem, hc.run]
  · have hcall := hit (w.heap.size + 1) (fun pre o H' => ∃ o1, o = aC (w.heap.size + 1) w.heap.size (rc .ready none) :: o1 ∧ I pre o1 H')
      (fun pre o H' => ∃ c o1, o = aC (w.heap.size + 1) w.heap.size (rc .done (some c)) :: o1 ∧ Ix c pre o1 H') (aC (w.heap.size + 1) w.heap.size (rc .ready none) :: own) H (Le.refl _) ?_ ⟨own, rfl, h0⟩
    · have hcall2 := callsIn_wide (n := 0) |>.2 (hcall W1 hst1)
      have e1 : (Value.func (.yield (w.heap.size + 1)) #[] #[] :: lb).toArray = #[.func (.yield (w.heap.size + 1)) #[] #[]] ++ lb.toArray := by simp
      rw [e1] at hcall2
      refine CallsIn.mono hcall2 ?_
      rintro e w3 ⟨v, o, H', rfl, ⟨hle, h2⟩, hw3⟩
      rcases h2 with ⟨xs, hS, o1, rfl, hI⟩ | ⟨pre, hSp, c, o1, rfl, hI⟩
      · have hl : w3.heap[w.heap.size + 1]? = some (.loop (rc .ready none)) := hw3.own_blk (i := 0) (j := 0) rfl rfl
        exact ⟨none, _, run_endLoop hl (by simp [rc, bE]), hdone _ _ _ xs o1 H' hle hS hI { tmps := a.tmps, defers := [] } _ hA0 hw3.setObj0⟩
      · have hl : w3.heap[w.heap.size + 1]? = some (.loop (rc .done (some c))) := hw3.own_blk (i := 0) (j := 0) rfl rfl
        exact ⟨some c, _, run_endLoop hl (by simp [rc, bE]), hstop _ _ _ c pre o1 H' hle hSp hI { tmps := a.tmps, defers := [] } _ hA0 hw3.setObj0⟩
    · rintro pre x own1 H1 hle ⟨o1, rfl, hI⟩ hSp mine W hW
      have hst2 : St w0 H1 (aC (w.heap.size + 1) w.heap.size (rc .ready none) :: (o1 ++ mine)) W := hW.perm (fe _ _ _)
      have hl : W.heap[w.heap.size + 1]? = some (.loop (rc .ready none)) := hst2.own_blk (i := 0) (j := 0) rfl rfl
      have hy := run_yield (P := P) (args := (encs x).toArray) hl (by simp [rc, bE, hps x])
      refine ⟨fn, _, assign, body, hy, roundIn_of_wpIn trivial ?_⟩
      have hr := hround (w.heap.size + 1) w.heap.size fn a.tmps mine pre x o1 H1
        (roundPost P (w.heap.size + 1) (Ret w0 fun v o H' => ∃ own', o = mine ++ own' ∧ (Le H1 H' ∧ ((v = .bool true ∧ ∃ o1, own' = aC (w.heap.size + 1) w.heap.size (rc .ready none) :: o1 ∧ I (pre ++ [x]) o1 H') ∨ (v = .bool false ∧ ∃ c o1, own' = aC (w.heap.size + 1) w.heap.size (rc .done (some c)) :: o1 ∧ Ix c (pre ++ [x]) o1 H')))))
        (fun a₁ w₁ => ∃ w₂, (Instr.beginRound (w.heap.size + 1)).run P w₁ = .ok () w₂ ∧ body.wpIn (Fence.wide.inRound (w.heap.size + 1)) 0 P (roundPost P (w.heap.size + 1) (Ret w0 fun v o H' => ∃ own', o = mine ++ own' ∧ (Le H1 H' ∧ ((v = .bool true ∧ ∃ o1, own' = aC (w.heap.size + 1) w.heap.size (rc .ready none) :: o1 ∧ I (pre ++ [x]) o1 H') ∨ (v = .bool false ∧ ∃ c o1, own' = aC (w.heap.size + 1) w.heap.size (rc .done (some c)) :: o1 ∧ Ix c (pre ++ [x]) o1 H'))))) a₁ w₂)
        hle hI hSp ?_ ?_
      · have := hr { tmps := (ps.zip (encs x)).foldl (fun t (p, v) => t.setIfInBounds p v) a.tmps, defers := [] } W (pK hpb ha) hst2
        rw [cv rfl] at this
        have h2 := m7 (m := 0) this
        simpa [rc, bE, Fr] using h2
      · refine ⟨?_, ?_, ?_⟩
        · rintro a2 w2 own2 H2 ⟨hle2, hI2⟩ hw2
          have hl2 : w2.heap[w.heap.size + 1]? = some (.loop (rc .busy none)) := hw2.own_blk (i := 0) (j := 0) rfl rfl
          refine ⟨_, _, run_endRound none hl2, .bool true, _, H2, rfl, ⟨aC (w.heap.size + 1) w.heap.size (rc .ready none) :: own2, rfl, hle2, .inl ⟨rfl, own2, rfl, hI2⟩⟩, ?_⟩
          exact hw2.setObj0.perm (fe _ _ _).symm
        · rintro a2 w2 own2 H2 i ⟨hle2, hI2⟩ hw2
          have hl2 : w2.heap[w.heap.size + 1]? = some (.loop (rc .busy none)) := hw2.own_blk (i := 0) (j := 0) rfl rfl
          refine ⟨_, _, run_endRound (some (.exit i)) hl2, .bool false, _, H2, rfl, ⟨aC (w.heap.size + 1) w.heap.size (rc .done (some (.exit i))) :: own2, rfl, hle2, .inr ⟨rfl, _, own2, rfl, hI2⟩⟩, ?_⟩
          exact hw2.setObj0.perm (fe _ _ _).symm
        · rintro a2 w2 own2 H2 ⟨hle2, hI2⟩ hw2
          have hl2 : w2.heap[w.heap.size + 1]? = some (.loop (rc .busy none)) := hw2.own_blk (i := 0) (j := 0) rfl rfl
          refine ⟨_, _, run_endRound (some .ret) hl2, .bool false, _, H2, rfl, ⟨aC (w.heap.size + 1) w.heap.size (rc .done (some .ret)) :: own2, rfl, hle2, .inr ⟨rfl, _, own2, rfl, hI2⟩⟩, ?_⟩
          exact hw2.setObj0.perm (fe _ _ _).symm
      · intro env2 own2 H2 hb a2 w2 ha2 hw2
        have hl2 : w2.heap[w.heap.size + 1]? = some (.loop (rc .ready none)) := hw2.own_blk (i := 0) (j := 0) rfl rfl
        exact ⟨_, run_beginRound hl2 rfl, m7 (m := 0) (hb a2 _ ha2 hw2.setObj0)⟩
end Go.Proofs.YticengaggjcppaaGreat.K
namespace Go.Proofs.YticengaggjcppaaGreat.X
open Go Go.RowKit K
section
variable {ro : Option Nat} {ds : List Deferred} {P : Program} {Q : Exit → Act → World → Prop} {ops : Array Oper}
def nmQ (Q : Exit → Act → World → Prop) : Exit → Act → World → Prop := fun e a w => e = .normal ∧ Q e a w
theorem nm_no : ∀ a w, ¬ nmQ Q .outgrown a w := fun _ _ h => nomatch h.1
theorem op_x {o : Oper} (hd : cy o = true) {a : Act} {w : World} {next next' : Act → World → Prop} (h : o.wp P a w next (okA ds (nmQ Q))) (hn : ∀ a w, next a w → a.defers = []) (hk : ∀ a w, next a w → next' (dsA ds a) w) : o.wpIn (K.Fr ro) 1 P (dsA ds a) w next' Q := by
  have hnd : ∀ c, o.op ≠ .defer c := fun c hc => by unfold cy at hd; rw [hc] at hd; cases hd
  unfold Oper.wp at h
  refine ⟨fun f _ => K.Fr.fn ro f, ?_⟩
  rw [K.Fr.rnd, Oper.semAt_eq _ _ _ hnd, dD]
  generalize (execOp a.eval o).run P w = r at h ⊢
  cases r with
  | ok nx w' =>
    cases nx with
    | value v => rw [Oper.uponIn_value, aZ]; exact hk _ _ h
    | skip => rw [Oper.uponIn_skip, aZ]; exact hk _ _ h
    | defer d => have := hn _ _ h; rw [bD] at this; cases this
    | enter f args =>
      rw [Oper.uponIn_enter]
      refine ⟨fun hd => (by rw [K.Fr.depth] at hd; cases hd), K.Fr.calls (Calls.mono h ?_)⟩
      intro e w2 he
      cases e with
      | returned v => show next' ((dsA ds a).put o.dst v) w2; rw [aZ]; exact hk _ _ he
      | panicked chain => exact nomatch he.2.1
      | outgrown => obtain ⟨_, _, _, h1⟩ := he; exact nomatch h1.1
    | row row args =>
      rw [Oper.uponIn_row]
      refine ⟨fun hd => (by rw [K.Fr.depth] at hd; cases hd), K.Fr.rows (Rows.mono h ?_)⟩
      intro v w2 he
      rw [aZ]; exact hk _ _ he
    | _ => exact h.elim
  | halt x w' =>
    cases x with
    | panic v => exact nomatch h.2.1
    | _ => exact h.elim
theorem lA : ∀ (l : List Oper), l.all cy = true → ∀ (a : Act) (w : World), wpList P ops (okA ds (nmQ Q)) l a w → wpListIn (K.Fr ro) 1 P ops Q l (dsA ds a) w
  | [], _, _, _, h => h.2.2
  | o :: rest, hd, a, w, h => by
    simp only [List.all_cons, Bool.and_eq_true] at hd
    simp only [wpList] at h
    simp only [wpListIn]
    rw [show yielded ops (dsA ds a).tmps = yielded ops a.tmps from rfl]
    split at h; {
    rename_i hw
    rw [if_pos hw]
    rcases h with h | h
    {
    exact op_x hd.1 h (gv nm_no rest) (lA rest hd.2)}; {
    exact (gu nm_no h).elim}}; {
    rename_i hw
    rw [if_neg hw, aZ]
    exact ⟨fun f _ => K.Fr.fn ro f, lA rest hd.2 _ _ h⟩}
theorem wpOp_x (hd : ∀ (i : Nat) o, ops[i]? = some o → cy o = true) {i : Nat} {J J' : Act → World → Prop} {a : Act} {w : World} (h : wpOp P ops (okA ds (nmQ Q)) i J a w) (hK : ∀ a w, J a w → a.defers = []) (hk : ∀ a w, J a w → J' (dsA ds a) w) : wpOpIn (K.Fr ro) 1 P ops Q i J' (dsA ds a) w := by
  unfold wpOp at h
  unfold wpOpIn
  cases ho : ops[i]? with
  | none => simp only [ho] at h ⊢; exact hk _ _ h
  | some o =>
    simp only [ho] at h ⊢
    rw [show yielded ops (dsA ds a).tmps = yielded ops a.tmps from rfl]
    split at h; {
    rename_i hw
    rw [if_pos hw]
    rcases h with h | h
    {
    exact op_x (hd i o ho) h hK hk}; {
    exact (gu nm_no h).elim}}; {
    rename_i hw
    rw [if_neg hw, aZ]
    exact ⟨fun f _ => K.Fr.fn ro f, hk _ _ h⟩}
theorem wpAny_x (hd : ∀ (i : Nat) o, ops[i]? = some o → cy o = true) {md : Region.Mode} : ∀ (n : Nat) (lst : Array Bool) (a : Act) (w : World), wpAny P md ops (okA ds (nmQ Q)) n lst a w → wpAnyIn (K.Fr ro) 1 P md ops Q n lst (dsA ds a) w
  | 0, _, _, _, h => ⟨h.1, h.2.2.2⟩
  | n + 1, lst, a, w, h => ⟨fun hr => (h.1 hr).2.2, fun i hi => wpOp_x hd (h.2 i hi) (kR nm_no n _) (wpAny_x hd n _)⟩
end
def RC (P : Program) (B : Bs) (N : Nat) (c : Code) (s : XS) (K : XS → Prop) : Prop := ∀ (l : Nat) (own : List Seg) (Q : Exit → Act → World → Prop), (∀ s', K s' → ∀ V H sg env, SR B s' V H sg env → TQX [] B.w0 N Q .normal env (sg :: own) H) → ∀ V H sg env, SR B s V H sg env → TCX (some l) [] P B.w0 N Q c env (sg :: own) H
section
variable {P : Program} {B : Bs} {N : Nat} {a b c : Code} {s : XS} {K K1 : XS → Prop}
theorem RC.seq (h1 : RC P B N a s K1) (h2 : ∀ s1, K1 s1 → RC P B N b s1 K) : RC P B N (.seq a b) s K := fun l own Q hK V H sg env hs =>
  TCX.seq (h1 l own _ (fun s' hs' V H sg env hr => TQX.then_n (h2 s' hs' l own Q hK V H sg env hr)) V H sg env hs)
theorem RC.block {i : Nat} (h : RC P B N c s K) : RC P B N (.block i c) s K := fun l own Q hK V H sg env hs =>
  TCX.block (h l own _ (fun s' hs' V H sg env hr => TQX.in_n (hK s' hs' V H sg env hr)) V H sg env hs)
def rx (P : Program) (B : Bs) (N : Nat) (hψ : ¬ B.pk.ψ) (own : List Seg) : Cx P where
  B := { B with own := own }
  N := N
  R := fun _ _ _ => False
  ds := []
  no := fun _ _ h => h
  pan := fun _ _ _ h => (hψ h).elim
theorem SR.ow {B : Bs} {s : XS} {V : Vn} {H : Hp} {sg : Seg} {env : Env} (own : List Seg) (h : SR B s V H sg env) : SR { B with own := own } s V H sg env := ⟨h.lk, h.hr, h.top, h.nd, h.fresh, h.le, h.vle, h.keep, h.sub, h.nxle⟩
theorem SR.wo {B : Bs} {s : XS} {V : Vn} {H : Hp} {sg : Seg} {env : Env} {own : List Seg} (h : SR { B with own := own } s V H sg env) : SR B s V H sg env := ⟨h.lk, h.hr, h.top, h.nd, h.fresh, h.le, h.vle, h.keep, h.sub, h.nxle⟩
theorem rx_end {hψ : ¬ B.pk.ψ} {own : List Seg} {Q : Exit → Act → World → Prop} (hK : ∀ s', K s' → ∀ V H sg env, SR B s' V H sg env → TQX [] B.w0 N Q .normal env (sg :: own) H) {s' : XS} (h : ME (rx P B N hψ own) .normal [.l (fun _ => K) 1] s') {V : Vn} {H : Hp} {sg : Seg} {env : Env} (hr : SR { B with own := own } s' V H sg env) : TQ B.w0 N (okA [] (nmQ Q)) .normal env (sg :: own) H := fun a w ha hw => by
  obtain ⟨_, n', env2, own2, H2, _, ⟨s2, V2, sg2, k1, k2, rfl⟩, k3, k4⟩ := h V H sg env hr a w ha hw
  exact ⟨ha.defers, rfl, hK s2 k1 V2 H2 sg2 env2 k2.wo (dsA [] (dsA [] a)) w k3 k4⟩
theorem RC.reg {i : Nat} {l : List Oper} (hψ : ¬ B.pk.ψ) (hnd : l.all cy = true) (h : ∀ own, (MS.r l none (num l 0) [.l (fun _ => K) 1] s).ok (rx P B N hψ own)) : RC P B N (.region i l.toArray false) s K := fun lp own Q hK V H sg env hs a w ha hw => by
  have h1 := h own
  have h2 : XL P B.pk N l.toArray (snds (num l 0)) s (fun s' => ME (rx P B N hψ own) .normal [.l (fun _ => K) 1] s') := h1
  rw [nO] at h2
  exact wpIn_region_lit (lA l hnd a w (XL.ok (B := { B with own := own }) (Q := okA [] (nmQ Q)) (fun _ _ _ h => (hψ h).elim) h2 (fun s' hs' V H sg env hr => rx_end hK hs' hr) V H sg env (hs.ow own) a w ha hw))
theorem RC.drw {T : Tb P} {i : Nat} {l : List Oper} {L : List (Nat × Oper)} (π : List Nat) (hψ : ¬ B.pk.ψ) (hnd : l.all cy = true) (hl : em l π = some L) (h : ∀ own, (MS.r l (some []) L [.l (fun _ => K) 1] s).ok (rx P B N hψ own)) (hπ : OdK l π := by exact ⟨by decide +kernel⟩) : RC P B N (.region i l.toArray true) s K := fun lp own Q hK V H sg env hs a w ha hw => by
  obtain ⟨h1, h2⟩ := kW hl
  have h3 : XR P B.pk N l (fsts L) [] s (fun s' => ME (rx P B N hψ own) .normal [.l (fun _ => K) 1] s') := h own h2
  rw [h1] at h3
  have h4 := XR.any (B := { B with own := own }) (Q := okA [] (nmQ Q)) (fun _ _ _ h => (hψ h).elim) hπ.ok h3 (fun s' hs' V H sg env hr => rx_end hK hs' hr) V H sg env (hs.ow own) a w ha hw
  exact wpIn_region_any T.mx (wpAny_x (ops := l.toArray) (fun i o ho => List.all_eq_true.1 hnd o (List.mem_of_getElem? (by simpa using ho))) _ _ _ _ h4)
end
def noL : List Fr → Bool
  | [] => true
  | .l _ _ :: _ => false
  | .s _ :: k => noL k
  | .b _ :: k => noL k
def mkD (D : Nat) : Deferred := { target := .collected D, args := #[] }
def Cx.mk_ {P : Program} (x : Cx P) (hψ : ¬ x.B.pk.ψ) (l D : Nat) (r : Loop) : Cx P where
  B := { x.B with own := aC l D r :: x.B.own }
  N := x.N
  R := x.R
  ds := mkD D :: x.ds
  no := x.no
  pan := fun _ _ _ h => (hψ h).elim
theorem KQ.mk_ {P : Program} {x : Cx P} {hψ : ¬ x.B.pk.ψ} {l D : Nat} {r : Loop} : ∀ {k : List Fr}, noL k = true → KQ (x.mk_ hψ l D r) k = KQ x k
  | [], _ => rfl
  | .s c :: k, h => by simp only [KQ, KQ.mk_ (k := k) h]
  | .b i :: k, h => by simp only [KQ, KQ.mk_ (k := k) h]
  | .l _ _ :: _, h => by cases h
def T0 : Nat → Nat → Bool := fun _ t => Nat.beq t 0
def V0_ (V : Vn) : Vn := fun g t => if t = 0 then V g 0 else none
theorem V0_rn (V : Vn) : Rn (fun g t => (g, t)) T0 V (V0_ V) := ⟨fun g t i ht hv => by
  have : t = 0 := Nat.eq_of_beq_eq_true ht
  subst this
  simpa [V0_] using hv⟩
mutual
theorem XC.ren_id : ∀ x : XC, x.ren (fun g t => (g, t)) = x
  | .d _ => rfl
  | .z => rfl
  | .p _ _ _ => rfl
  | .q _ _ _ _ _ => rfl
  | .l _ _ _ _ _ _ => rfl
  | .m _ _ => rfl
  | .f fn fs cs => by simp only [XC.ren, XC.rens_id fs, XC.rens_id cs]
  | .w _ => rfl
theorem XC.rens_id : ∀ l : List XC, XC.rens (fun g t => (g, t)) l = l
  | [] => rfl
  | x :: r => by simp only [XC.rens, XC.ren_id x, XC.rens_id r]
end
theorem XA.ren_id : ∀ x : XA, x.ren (fun g t => (g, t)) = x
  | .c x => by simp only [XA.ren, XC.ren_id]
  | .a l => by simp only [XA.ren, XC.rens_id]
  | .g _ => rfl
theorem XA.rens_id : ∀ l : List XA, XA.rens (fun g t => (g, t)) l = l
  | [] => rfl
  | x :: r => by simp only [XA.rens, XA.ren_id x, XA.rens_id r]
theorem XV.ren_id : ∀ x : XV, x.ren (fun g t => (g, t)) = x
  | .a x => by simp only [XV.ren, XA.ren_id]
  | .t l => by simp only [XV.ren, XA.rens_id]
  | .u => rfl
  | .gd b x => by simp only [XV.ren, XA.ren_id]
theorem XO.ren_id : ∀ x : XO, x.ren (fun g t => (g, t)) = x
  | .cells c e => by simp only [XO.ren, XC.rens_id]
  | .row .. => rfl
  | .mp _ => rfl
  | .rowk .. => by simp only [XO.ren, XC.rens_id]
theorem hren_id : ∀ hp : XH, bn (fun g t => (g, t)) hp = hp
  | [] => rfl
  | b :: r => by simp only [bn, XO.ren_id, hren_id r]
theorem Lk.first {V : Vn} {H : Hp} {env : Env} {E : XE} (h : Lk V H env E) (hE : eall T0 E = true) : Lk (V0_ V) H env E := fun i u hu => by
  obtain ⟨v, h1, h2⟩ := h i u hu
  exact ⟨v, h1, XV.ren_ok (V0_rn V) (nI hE hu) (by rw [XV.ren_id]; exact h2)⟩
theorem HR.first {V : Vn} {H : Hp} {hp : XH} {sg : Seg} (h : HR V H hp sg) (hH : cq T0 hp = true) : HR (V0_ V) H hp sg := kg (V0_rn V) hH (by rw [hren_id]; exact h)
def jV : List Tmp → List XV → XE → XE
  | p :: ps, v :: vs, E => jV ps vs ((p, v) :: E)
  | _, _, E => E
theorem Lk.puts {V : Vn} {H : Hp} : ∀ {ps : List Tmp} {xs : List XV} {vs : List Value} {env : Env} {E : XE}, XVs.rels V H xs vs → Lk V H env E → Lk V H (gT ps vs env) (jV ps xs E)
  | [], _, _, _, _, _, h => by simpa [gT, jV] using h
  | p :: ps, [], [], _, _, _, h => by simpa [gT, jV] using h
  | p :: ps, x :: xs, v :: vs, env, E, hr, h => Lk.puts (ps := ps) hr.2 fun i u hu => by
    simp only [xlk] at hu
    simp only [lk]
    cases hb : Nat.beq p i with
    | true => rw [hb] at hu; cases hu; exact ⟨v, rfl, hr.1⟩
    | false => rw [hb] at hu; exact h i u hu
  | _ :: _, [], _ :: _, _, _, hr, _ => hr.elim
  | _ :: _, _ :: _, [], _, _, hr, _ => hr.elim
theorem own_flat {a b : Seg} {r m : List Seg} : ((b :: (a :: (r ++ m))).flatten).Perm ((a :: ((b :: r) ++ m)).flatten) := by
  simp only [List.cons_append, List.flatten_cons, ← List.append_assoc]
  exact List.perm_append_comm.append_right _
theorem MC.rgf {α : Type} {P : Program} {x : Cx P} {k : List Fr} {E : XE} {hp : XH} {nx : Nat} {g : Operand} {ps : Array Tmp} {assign body : Code} {gf : FuncId} {caps : List XC} {fv : XV} (hψ : ¬ x.B.pk.ψ) (hfv : xev E g = some fv) (hfn : fnv fv = some (gf, [], caps)) (hcl : Callable P gf)
    (encX : α → List XV) (S Sp : List α → Prop) (hit : ∀ V H lb, rels V H caps lb → ∃ encs : α → List Value, (∀ y V' H', Le H H' → XVs.rels V' H' (encX y) (encs y)) ∧ iV P gf lb encs S Sp x.B.w0 H)
    (X : List α → XH) (h0 : X [] = hp) (hnm : ∀ pre, ae (X pre) = ae hp) (hE : eall T0 E = true) (hH : ∀ pre, cq T0 (X pre) = true)
    (hround : ∀ pre y, Sp (pre ++ [y]) → ∀ B1 : Bs, B1.pk = x.B.pk → RC P B1 x.N assign ⟨jV ps.toList (encX y) E, X pre, nx⟩ (fun s1 => RC P B1 x.N body s1 (fun s2 => ∃ nm, Mt nx (x.B.F ++ List.range' x.B.nx0 (nx - x.B.nx0)) ⟨[], s2.hp, s2.nx⟩ ⟨[], X (pre ++ [y]), nx⟩ nm)))
    (hdone : ∀ l D r xs, S xs → ME (x.mk_ hψ l D r) .normal k ⟨E, X xs, nx⟩)
    (hk : noL k = true := by rfl) (hps : ∀ y, (encX y).length = ps.size := by intro _; rfl) (hpb : (ps.toList.all fun p => Nat.blt p x.N) = true := by rfl) : MC x (.rangeFunc g ps assign body) k ⟨E, hp, nx⟩ := fun V H sg env hs a w ha hw => by
  obtain ⟨fval, e1, e2⟩ := hs.lk.lks _ _ hfv
  obtain ⟨us, ws, rfl, e3, e4⟩ := fnv_ok hfn e2
  have hus : us = #[] := by
    cases us with | mk l => cases l with | nil => rfl | cons => exact e3.elim
  subst hus
  obtain ⟨encs, he, hI⟩ := hit V H ws.toList e4
  have hT := TCX.rangeFunc (hc := hcl) (ds := x.ds) (P := P) (w0 := x.B.w0) (N := x.N) (Q := KQ x k) (env := env) (own := sg :: x.B.own) (H := H) (g := g) (ps := ps.toList) (assign := assign) (body := body) (gf := gf) (lb := ws.toList) (by simpa using e1) hI
    (fun y => by have := XVs.len (he y V H (Le.refl _)); rw [hps] at this; simpa using this.symm) hpb
    (fun pre own1 H1 => Le H H1 ∧ ∃ V1 sg1, own1 = sg1 :: x.B.own ∧ SR x.B ⟨E, X pre, nx⟩ V1 H1 sg1 env) (fun _ _ _ _ => False) ⟨Le.refl _, V, sg, rfl, by rw [h0]; exact hs⟩ ?_ ?_ (fun _ _ _ _ _ _ _ _ _ h => h.elim)
  · have := hT a w ha hw
    have h2 := wpIn_wide.1 this
    simp only [Array.toArray_toList] at h2
    exact h2
  · rintro l D fn tmps mine pre y own1 H1 QB Kb hle1 ⟨_, V1, sg1, rfl, hs1⟩ hSp hRE hbody
    have hlt : ∀ b ∈ X pre, b.g < nx := fun b hb => by
      obtain ⟨i, hi⟩ := hs1.hr.known b hb
      rcases Nat.lt_or_ge b.g nx with h | h
      · exact h
      · rw [hs1.fresh _ _ h] at hi; cases hi
    have hnx := hs1.nxle
    have hkp : ∀ g, V1 g 0 ≠ none → x.B.nx0 ≤ g ∨ g ∈ x.B.F := fun g hg => by
      cases hv : x.B.V0 g 0 with
      | none => exact hs1.keep g 0 hv hg
      | some i => exact .inr (x.B.v0 g 0 (by rw [hv]; simp)).2
    have hV0 : ∀ g t, V0_ V1 g t ≠ none → t = 0 ∧ g ∈ x.B.F ++ List.range' x.B.nx0 (nx - x.B.nx0) := fun g t hg => by
      unfold V0_ at hg
      split at hg
      · rename_i ht
        refine ⟨ht, List.mem_append.2 ?_⟩
        rcases Nat.lt_or_ge g nx with h | h
        · rcases hkp g hg with h1 | h1
          · exact .inr (List.mem_range'_1.2 ⟨h1, by simp only at hnx; omega⟩)
          · exact .inl h1
        · exact absurd (hs1.fresh g 0 h) hg
      · exact absurd rfl hg
    simp only at hnx
    have hFl : ∀ g ∈ x.B.F ++ List.range' x.B.nx0 (nx - x.B.nx0), g < nx := fun g hg => by
      rcases List.mem_append.1 hg with h | h
      · have := x.B.f.1 g h; omega
      · have := List.mem_range'_1.1 h; omega
    let B1 : Bs := Bs.mk x.B.w0 x.B.own H1 (V0_ V1) nx (x.B.F ++ List.range' x.B.nx0 (nx - x.B.nx0)) x.B.pk hV0 ⟨hFl, x.B.pk.mono hs1.le x.B.f.2⟩
    have hs2 : SR B1 ⟨jV ps.toList (encX y) E, X pre, nx⟩ (V0_ V1) H1 sg1 (gT ps.toList (encs y) env) := by
     refine ⟨Lk.puts (he y _ _ hle1) (hs1.lk.first hE), hs1.hr.first (hH pre), fun b hb t ht => (by
      have := hH pre
      have h0 : b.t = 0 := by
        have key : ∀ {l : XH}, cq T0 l = true → b ∈ l → b.t = 0 := by
          intro l
          induction l with
          | nil => intro _ h; cases h
          | cons c r ih =>
            intro h hm
            simp only [cq, Bool.and_eq_true] at h
            rcases List.mem_cons.1 hm with rfl | hm
            · exact Nat.eq_of_beq_eq_true h.1
            · exact ih h.2.2 hm
        exact key this hb
      unfold V0_; rw [if_neg (by omega)]), hs1.nd, fun g t hg => (by
      cases hv : V0_ V1 g t with
      | none => rfl
      | some i =>
        have := hFl g (hV0 g t (by rw [hv]; simp)).2
        simp only at hg; omega), Le.refl _, VLe.refl _, fun g t h1 h2 => absurd h1 h2, fun b hb => .inr (List.mem_append.2 ?_), Nat.le_refl _⟩
     have hlb := hlt b hb
     rcases hs1.sub b hb with h1 | h1
     · exact .inr (List.mem_range'_1.2 ⟨h1, by omega⟩)
     · exact .inl h1
    have hR := hround pre y hSp B1 rfl
    refine TCX.flat own_flat ?_
    refine hR l (aC l D (bE fn tmps ps.toList.toArray assign body D .ready none) :: (x.B.own ++ mine)) _ ?_ _ _ _ _ hs2
    intro s1 hs1' V3 H3 sg3 env3 hr3
    refine TQX.flat (own' := aC l D (bE fn tmps ps.toList.toArray assign body D .ready none) :: ((sg3 :: x.B.own) ++ mine)) own_flat.symm ?_
    refine hbody env3 ((sg3 :: x.B.own) ++ mine) H3 ?_
    refine TCX.flat own_flat ?_
    refine hs1' l (aC l D (bE fn tmps ps.toList.toArray assign body D .busy none) :: (x.B.own ++ mine)) _ ?_ _ _ _ _ hr3
    rintro s2 ⟨nm, hm⟩ V4 H4 sg4 env4 hr4 a4 w4 ha4 hw4
    have hr5 : SR B1 ⟨[], s2.hp, s2.nx⟩ V4 H4 sg4 env4 := hr4.le_ (E := []) (fun _ _ h => by cases h)
    obtain ⟨V5, t1, t2, p1, hr6⟩ := hr5.mt (s' := ⟨[], X (pre ++ [y]), nx⟩) hm
    have hw5 : St x.B.w0 H4 (t1 :: (aC l D (bE fn tmps ps.toList.toArray assign body D .busy none) :: (x.B.own ++ mine))) w4 := St.part p1 hw4
    refine hRE.n _ w4 (t1 :: x.B.own) H4 ⟨hr6.le, hle1.trans hr6.le, V5, t1, rfl, ?_⟩ (hw5.flat own_flat.symm)
    have hvl : VLe (V0_ V1) V5 := hr6.vle
    refine ⟨(hs1.lk.first hE).mono hvl hr6.le, hr6.hr, hr6.top, hr6.nd, hr6.fresh, hs1.le.trans hr6.le, fun g t i hg => ?_, fun g t h1 h2 => ?_, fun b hb => ?_, hs1.nxle⟩
    · refine hvl _ _ _ ?_
      have ht := (x.B.v0 g t (by rw [hg]; simp)).1
      subst ht
      exact hs1.vle _ _ _ hg
    · by_cases hv : V0_ V1 g t = none
      · rcases hr6.keep g t hv h2 with h3 | h3
        · exact absurd (hr6.fresh g t h3) h2
        · rcases List.mem_append.1 h3 with h4 | h4
          · exact .inr h4
          · exact .inl (List.mem_range'_1.1 h4).1
      · have ht := (hV0 g t hv).1
        subst ht
        exact hkp g (by simpa [V0_] using hv)
    · have : b.g ∈ ae (X pre) := by rw [hnm, ← hnm (pre ++ [y])]; exact List.mem_map.2 ⟨b, hb, rfl⟩
      obtain ⟨c, hc, e⟩ := List.mem_map.1 this
      rw [← e]; exact hs1.sub c hc
  · rintro l D r xs own1 H1 hle hS ⟨_, V1, sg1, rfl, hs1⟩ a1 w1 ha1 hw1
    have := hdone l D r xs hS V1 H1 sg1 env (hs1.ow _) a1 w1 ha1 (hw1.flat (by
      show (sg1 ++ (aC l D r ++ x.B.own.flatten)).Perm (aC l D r ++ (sg1 ++ x.B.own.flatten))
      rw [← List.append_assoc, ← List.append_assoc]
      exact List.perm_append_comm.append_right _))
    rw [KQ.mk_ hk] at this
    exact this
open Go.Proofs
section
variable {P : Program} {fn : Func} {N m' : Nat} {Φ : XV → XH → Prop} {B : Bs}
def Cx.ofM (P : Program) (B : Bs) (hψ : ¬ B.pk.ψ) (N : Nat) (fn : Func) (m' : Nat) (Φ : XV → XH → Prop) : Cx P where
  B := B
  N := N
  R := bodyPostM Fence.wide 1 P fn (RetX B m' Φ)
  ds := []
  no := fun _ _ h => by rcases h with ⟨_, _, _, _, _, _, h, _⟩ | ⟨h, _⟩ <;> cases h
  pan := fun _ _ _ h => (hψ h).elim
structure Lv (P : Program) (fn : Func) (N m' : Nat) (Φ : XV → XH → Prop) (B : Bs) (x : Cx P) : Prop where
  R : x.R = bodyPostM Fence.wide 1 P fn (RetX B m' Φ)
  N : x.N = N
  sr : ∀ s V H sg env, SR x.B s V H sg env → SR B s V H sg env
  w0 : x.B.w0 = B.w0
  lv : ∀ tmps H sg w, St B.w0 H (sg :: x.B.own) w → (∀ w', St B.w0 H (sg :: B.own) w' → ∃ v, (results fn tmps).run P w' = .ok v w' ∧ RetX B m' Φ (.returned v) w') → LeavesInM Fence.wide 1 P fn tmps (RetX B m' Φ) x.ds .returning w
theorem Lv.base {hψ : ¬ B.pk.ψ} : Lv P fn N m' Φ B (Cx.ofM P B hψ N fn m' Φ) := ⟨rfl, rfl, fun _ _ _ _ _ h => h, rfl, fun tmps H sg w hw h => h w hw⟩
theorem Lv.mark {x : Cx P} (h : Lv P fn N m' Φ B x) {hψ : ¬ x.B.pk.ψ} {l D : Nat} {r : Loop} : Lv P fn N m' Φ B (x.mk_ hψ l D r) := ⟨h.R, h.N, fun s V H sg env hs => h.sr s V H sg env hs.wo, h.w0, fun tmps H sg w hw hk => by
  have hD : w.heap[D]? = some (.deferred (some [])) := hw.own_blk (i := 1) (j := 1) rfl rfl
  refine ⟨by simp, .inl ⟨D, _, rfl, run_takeDeferred hD, h.lv tmps H sg _ ?_ hk⟩⟩
  have h2 := hw.setObj (i := 1) (j := 1) (o' := .deferred none) rfl rfl
  have h3 : St B.w0 H ([(l, .loop r), (D, .deferred none)] :: sg :: x.B.own) (w.putObj D (.deferred none)) := h2.flat (by
    show ([(l, Obj.loop r), (D, .deferred none)] ++ (sg ++ x.B.own.flatten)).Perm (sg ++ ([(l, Obj.loop r), (D, .deferred none)] ++ x.B.own.flatten))
    rw [← List.append_assoc, ← List.append_assoc]
    exact List.perm_append_comm.append_right _)
  exact h3.tail⟩
theorem ME.finM {x : Cx P} (hl : Lv P fn N m' Φ B x) {e : Exit} {s : XS} (h : ME (Cx.of P B N fn m' Φ) e [] s) (he : e = .ret ∨ e = .normal := by first | exact .inl rfl | exact .inr rfl) : ME x e [] s := fun V H sg env hs a w ha hw => by
  have hs' := hl.sr _ _ _ _ _ hs
  rw [hl.N] at ha
  rw [hl.w0] at hw
  have key : LeavesInM Fence.wide 1 P fn a.tmps (RetX B m' Φ) x.ds .returning w := hl.lv a.tmps H sg w hw fun w' hw' => by
    have h2 := h V H sg env hs' a w' ha hw'
    rcases he with rfl | rfl
    {
    exact h2.2}; {
    exact h2.2}
  show x.R e (dsA x.ds a) w
  rw [hl.R]
  rcases he with rfl | rfl
  {
  exact key}; {
  exact key}
theorem XM.enM {P : Program} {pk : Pk} {f : FuncId} {fn : Func} {c : Code} {args : List XV} {N m m' : Nat} {B : XH} {Φ : XV → XH → Prop} (hψ : ¬ pk.ψ) (hf : P.funcs[f]? = some fn) (hN : fn.ntmps = N) (h : ∀ w0 own H V v0 hf, (MS.c c [] ⟨iL 0 args, B, m⟩).ok (Cx.ofM P (Bs.mk w0 own H V m (ae B) pk v0 hf) hψ N fn m' Φ)) (hb : fn.body = some c := by rfl) (hn : (fn.name == "runtime.NumGoroutine") = false := by rfl) (hl : Nat.ble args.length N = true := by rfl) (hc : gN m args B = true := by rfl) (hd : (bp (ae B) && B.all fun b => Nat.blt b.g m) = true := by rfl) (hm : Nat.ble m m' = true := by rfl) : XM P pk f args B m m' Φ := by
  refine ⟨hc, hm, Callable.of hf hn hb, ?_⟩
  rintro ⟨w0, own, H, V, nx0, F, pk', v0, hF⟩ rfl rfl rfl sg vals ha hr ht w hw
  simp only [Bool.and_eq_true] at hd
  have hm' := List.all_eq_true.1 hd.2
  have key := h w0 own H V v0 hF V H sg (cS 0 vals) ⟨kS ha, hr, ht, bW hd.1, fun g t hg => ?_, Le.refl _, VLe.refl _, fun g t h1 h2 => absurd h1 h2, fun b hb => .inr (List.mem_map.2 ⟨b, hb, rfl⟩), Nat.le_refl _⟩; {
  refine (callsIn_wide (n := 1)).1 (callsIn_of_wp_marks (n := 1) hf hb trivial (wpIn_wide.2 (key { tmps := vals.toArray ++ Array.replicate (fn.ntmps - vals.toArray.size) undef, defers := [] } w ⟨rfl, ?_, fun i v hv => ?_⟩ hw))); {
  have := Nat.le_of_ble_eq_true hl
  rw [XVs.len ha] at this
  show (vals.toArray ++ _).size = N
  simp [hN]; omega}; {
  obtain ⟨_, h2⟩ := eN vals 0 i v hv
  simp only [Nat.sub_zero] at h2
  have hlt : i < vals.length := (List.getElem?_eq_some_iff.1 h2).1
  rw [Array.getElem?_append_left (by simpa using hlt)]
  simpa using h2}}; {
  cases hv : V g t with
  | none => rfl
  | some i =>
    have := hF.1 g (v0 g t (by show V g t ≠ none; rw [hv]; simp)).2
    simp only at hg this; omega}
end
def dn (n : Nat) : List Nat := (List.range n).reverse
theorem gE {n j : Nat} (h : j < n) : (dn n).take (n - j) = (dn n).take (n - (j + 1)) ++ [j] := by
  rw [show n - j = (n - (j + 1)) + 1 by omega, List.take_succ]
  congr 1
  have : (dn n)[n - (j + 1)]? = some j := by
    unfold dn
    rw [List.getElem?_reverse (by simp; omega), List.length_range, List.getElem?_range (by omega)]
    simp only [Option.some.injEq]; omega
  rw [this]; rfl
theorem dn_zero (n : Nat) : (dn n).take (n - 0) = dn n := by
  rw [Nat.sub_zero, List.take_of_length_le (by simp [dn])]
theorem els {H : Hp} {rows : List (List D)} {v : Value} {sz : Nat} (hv : rd H (.s rows) v) (hsz : ∀ r ∈ rows, r.length = sz) : ∃ A k, ∃ us : Nat → List Value, v = .slice A rows.length k ∧ (∀ j r, rows[j]? = some r → ∃ b o, A = some ⟨b, o, none⟩ ∧ hAt H b (o + j * sz) (us j) ∧ (us j).length = sz ∧ rdL H r (us j)) ∧ ∀ j, rows[j]? = none → us j = [] := by
  classical
  simp only [rd] at hv
  obtain ⟨A, k, sz', rfl, _, _, h⟩ := hv
  rcases h with rfl | ⟨b, o, rfl, h⟩
  {
  exact ⟨A, k, fun _ => [], rfl, fun j r hj => by simp at hj, fun _ _ => rfl⟩}; {
  have key : ∀ j, ∃ us, (∀ r, rows[j]? = some r → hAt H b (o + j * sz) us ∧ us.length = sz ∧ rdL H r us) ∧ (rows[j]? = none → us = []) := fun j => by
    cases hj : rows[j]? with
    | none => exact ⟨[], ⟨fun r h => (by cases h), fun _ => rfl⟩⟩
    | some r =>
      obtain ⟨h1, h2⟩ := h.get hj
      have h3 := hsz r (List.mem_of_getElem? hj)
      rw [h3] at h1
      subst h1
      obtain ⟨us, h4, h5⟩ := h2.cells
      exact ⟨us, ⟨fun r' h => (by cases h; exact ⟨h4, by rw [← h5.len, h3], h5⟩), fun h => (by cases h)⟩⟩
  exact ⟨_, k, fun j => (key j).choose, rfl, fun j r hj => ⟨b, o, rfl, (key j).choose_spec.1 r hj⟩, fun j hj => (key j).choose_spec.2 hj⟩}
theorem back_fu {rows : List (List D)} {ga go : Nat} {HO : Hp} {w0 : World} {v : Value} (h1 : cel HO ga go = some v) (hv : rd HO (.s rows) v) (hsz : ∀ r ∈ rows, r.length = 10) (hlen : rows.length ≤ 1000000000) :
    ∃ us : Nat → List Value, (∀ j, rdL HO (rows.getD j []) (us j)) ∧ iV Tryz.prog 118 [.pointer (some ⟨ga, go, none⟩)] (fun j : Nat => [.int .i64 (j : Nat), .agg (us j).toArray]) (fun xs => xs = dn rows.length) (fun pre => pre <+: dn rows.length) w0 HO := by
  obtain ⟨A, k, us, rfl, hus, hno⟩ := els hv hsz
  refine ⟨us, fun j => ?_, ?_⟩; {
  rw [List.getD_eq_getElem?_getD]
  cases hj : rows[j]? with
  | none => rw [hno j hj]; trivial
  | some r => obtain ⟨_, _, _, _, _, h⟩ := hus j r hj; exact h}
  intro L J Jx own H hle0 hy hJ0
  have h1' := fI hle0 h1
  obtain ⟨z, hS⟩ := bC (BT.all_get T.ok (show T.bt.get 27 = some (.sl 61 10 144) from rfl))
  haveI := hS
  haveI : Und Tryz.prog 27 (.slice 61) := ⟨hS.und⟩
  haveI : Ty Tryz.prog 27 false 1 := cu (BT.all_get T.ok (show T.bt.get 27 = some (.sl 61 10 144) from rfl))
  haveI : Ty Tryz.prog 61 true 10 := cu (BT.all_get T.ok (show T.bt.get 61 = some (.st 10 _ _) from rfl))
  refine Fn.enter Tryz.func118 rfl Tryz.ntmps118 rfl ?_
  refine TC.seq ?_; refine TC.region ?_
  refine TL.load_imm rfl h1' rfl ?_
  refine TL.len_slice rfl rfl ?_
  refine TL.sub rfl rfl rfl ⟨by omega, by omega⟩ ?_
  refine TL.assign rfl rfl ?_
  refine Qc ?_; refine Qd ?_; refine TC.block ?_
  refine TC.loop (fun n' env' own' H' => ∃ j, n' = j ∧ j ≤ rows.length ∧ J ((dn rows.length).take (rows.length - j)) own' H' ∧ env' = [(0, .func (.yield L) #[] #[]), (1, .pointer (some ⟨ga, go, none⟩)), (3, .int .i64 ((j : Int) - 1))] ∧ Le H H') rows.length [(0, _), (1, _), (3, _)] ⟨rfl, rfl, rfl, trivial⟩ ⟨_, rfl, Nat.le_refl _, by rw [Nat.sub_self]; exact hJ0, rfl, Le.refl _⟩ ?_
  rintro j env' own' H1 ⟨_, rfl, hj, hJ, rfl, hle1⟩
  have h1' := fI hle1 h1'
  refine TC.seq ?_; refine TC.seq ?_; refine TC.region ?_
  refine TL.move rfl rfl ?_
  refine TL.geq rfl rfl rfl ?_
  refine Qc ?_; refine Qd ?_
  rcases j with _ | j
  {
  refine TC.cond_f (by rfl) ?_
  refine TC.exit ?_; refine TQ.then_e ?_; refine TQ.then_e ?_; refine TQ.in_e ?_; refine TQ.end0 0 rfl ?_
  exact ⟨hle1, .inl ⟨_, rfl, by rw [dn_zero] at hJ; exact hJ⟩⟩}; {
  refine TC.cond_t (by show some (Value.bool (decide (0 ≤ ((j + 1 : Nat) : Int) - 1))) = _; rw [decide_eq_true (by omega)]) ?_
  refine TC.skip ?_; refine Qd ?_
  refine TC.seq ?_; refine TC.block ?_; refine TC.seq ?_
  refine TC.ofX ?_; refine TCX.region ?_
  obtain ⟨r, hr⟩ := ai (l := rows) (j := j) (by omega)
  obtain ⟨b, o, rfl, hat, hul, _⟩ := hus j r hr
  have hat := hat.mono (hle0.trans hle1)
  have e1 : ((j + 1 : Nat) : Int) - 1 = (j : Nat) := by omega
  rw [e1]
  refine TLX.step rfl (TL.move rfl rfl (Qc (TQX.go ?_)))
  refine TLX.step rfl (TL.move rfl rfl (Qc (TQX.go ?_)))
  refine TLX.step rfl (TL.load_imm rfl h1' rfl (Qc (TQX.go ?_)))
  refine TLX.step rfl (TL.move rfl rfl (Qc (TQX.go ?_)))
  refine TLX.step rfl (TL.indexAddr j rfl rfl rfl (by omega) rfl (Qc (TQX.go ?_)))
  refine TLX.step rfl (TL.load_immA rfl hat hul rfl (Qc (TQX.go ?_)))
  refine TLX.yield (xs := [_, _]) (vs := [.int .i64 (j : Nat), .agg (us j).toArray]) [] own' rfl ⟨rfl, rfl, trivial⟩ rfl (hy _ j own' H1 hle1 hJ (by rw [← gE (by omega)]; exact List.take_prefix _ _)) rfl ?_
  rintro _ own2 H2 ⟨hle2, ⟨rfl, hJ2⟩ | ⟨rfl, hJ2⟩⟩; {
  refine TLX.step rfl (TL.not rfl rfl (Qc (TQX.go ?_)))
  refine TLX.nil ?_; refine TQX.ofQ ?_; refine Qd ?_
  refine TC.cond_f rfl ?_
  refine TC.skip ?_; refine TQ.in_n ?_; refine Qd ?_
  refine TC.region ?_
  refine TL.move rfl rfl ?_
  refine TL.sub rfl rfl rfl ⟨by omega, by omega⟩ ?_
  refine TL.assign rfl rfl ?_
  refine Qc ?_
  exact TQ.next j [(0, _), (1, _), (3, _)] (Nat.lt_succ_self j) ⟨rfl, rfl, rfl, trivial⟩ ⟨j, rfl, by omega, by rw [gE (by omega)]; exact hJ2, rfl, hle1.trans hle2⟩}; {
  refine TLX.step rfl (TL.not rfl rfl (Qc (TQX.go ?_)))
  refine TLX.nil ?_; refine TQX.ofQ ?_; refine Qd ?_
  refine TC.cond_t rfl ?_
  refine TC.ret ?_; refine TQ.in_r ?_; refine TQ.then_r ?_; refine TQ.then_r ?_; refine TQ.in_r ?_; refine TQ.ret0 0 rfl ?_
  exact ⟨hle1.trans hle2, .inr ⟨_, by rw [← gE (by omega)]; exact List.take_prefix _ _, hJ2⟩⟩}}
theorem back_gb {rows : List (List D)} {ga go : Nat} {HO : Hp} {w0 : World} {v : Value} (h1 : cel HO ga go = some v) (hv : rd HO (.s rows) v) (hsz : ∀ r ∈ rows, r.length = 8) (hlen : rows.length ≤ 1000000000) :
    ∃ us : Nat → List Value, (∀ j, rdL HO (rows.getD j []) (us j)) ∧ iV Tryz.prog 119 [.pointer (some ⟨ga, go, none⟩)] (fun j : Nat => [.int .i64 (j : Nat), .agg (us j).toArray]) (fun xs => xs = dn rows.length) (fun pre => pre <+: dn rows.length) w0 HO := by
  obtain ⟨A, k, us, rfl, hus, hno⟩ := els hv hsz
  refine ⟨us, fun j => ?_, ?_⟩; {
  rw [List.getD_eq_getElem?_getD]
  cases hj : rows[j]? with
  | none => rw [hno j hj]; trivial
  | some r => obtain ⟨_, _, _, _, _, h⟩ := hus j r hj; exact h}
  intro L J Jx own H hle0 hy hJ0
  have h1' := fI hle0 h1
  obtain ⟨z, hS⟩ := bC (BT.all_get T.ok (show T.bt.get 26 = some (.sl 63 8 104) from rfl))
  haveI := hS
  haveI : Und Tryz.prog 26 (.slice 63) := ⟨hS.und⟩
  haveI : Ty Tryz.prog 26 false 1 := cu (BT.all_get T.ok (show T.bt.get 26 = some (.sl 63 8 104) from rfl))
  haveI : Ty Tryz.prog 63 true 8 := cu (BT.all_get T.ok (show T.bt.get 63 = some (.st 8 _ _) from rfl))
  refine Fn.enter Tryz.func119 rfl Tryz.ntmps119 rfl ?_
  refine TC.seq ?_; refine TC.region ?_
  refine TL.load_imm rfl h1' rfl ?_
  refine TL.len_slice rfl rfl ?_
  refine TL.sub rfl rfl rfl ⟨by omega, by omega⟩ ?_
  refine TL.assign rfl rfl ?_
  refine Qc ?_; refine Qd ?_; refine TC.block ?_
  refine TC.loop (fun n' env' own' H' => ∃ j, n' = j ∧ j ≤ rows.length ∧ J ((dn rows.length).take (rows.length - j)) own' H' ∧ env' = [(0, .func (.yield L) #[] #[]), (1, .pointer (some ⟨ga, go, none⟩)), (3, .int .i64 ((j : Int) - 1))] ∧ Le H H') rows.length [(0, _), (1, _), (3, _)] ⟨rfl, rfl, rfl, trivial⟩ ⟨_, rfl, Nat.le_refl _, by rw [Nat.sub_self]; exact hJ0, rfl, Le.refl _⟩ ?_
  rintro j env' own' H1 ⟨_, rfl, hj, hJ, rfl, hle1⟩
  have h1' := fI hle1 h1'
  refine TC.seq ?_; refine TC.seq ?_; refine TC.region ?_
  refine TL.move rfl rfl ?_
  refine TL.geq rfl rfl rfl ?_
  refine Qc ?_; refine Qd ?_
  rcases j with _ | j
  {
  refine TC.cond_f (by rfl) ?_
  refine TC.exit ?_; refine TQ.then_e ?_; refine TQ.then_e ?_; refine TQ.in_e ?_; refine TQ.end0 0 rfl ?_
  exact ⟨hle1, .inl ⟨_, rfl, by rw [dn_zero] at hJ; exact hJ⟩⟩}; {
  refine TC.cond_t (by show some (Value.bool (decide (0 ≤ ((j + 1 : Nat) : Int) - 1))) = _; rw [decide_eq_true (by omega)]) ?_
  refine TC.skip ?_; refine Qd ?_
  refine TC.seq ?_; refine TC.block ?_; refine TC.seq ?_
  refine TC.ofX ?_; refine TCX.region ?_
  obtain ⟨r, hr⟩ := ai (l := rows) (j := j) (by omega)
  obtain ⟨b, o, rfl, hat, hul, _⟩ := hus j r hr
  have hat := hat.mono (hle0.trans hle1)
  have e1 : ((j + 1 : Nat) : Int) - 1 = (j : Nat) := by omega
  rw [e1]
  refine TLX.step rfl (TL.move rfl rfl (Qc (TQX.go ?_)))
  refine TLX.step rfl (TL.move rfl rfl (Qc (TQX.go ?_)))
  refine TLX.step rfl (TL.load_imm rfl h1' rfl (Qc (TQX.go ?_)))
  refine TLX.step rfl (TL.move rfl rfl (Qc (TQX.go ?_)))
  refine TLX.step rfl (TL.indexAddr j rfl rfl rfl (by omega) rfl (Qc (TQX.go ?_)))
  refine TLX.step rfl (TL.load_immA rfl hat hul rfl (Qc (TQX.go ?_)))
  refine TLX.yield (xs := [_, _]) (vs := [.int .i64 (j : Nat), .agg (us j).toArray]) [] own' rfl ⟨rfl, rfl, trivial⟩ rfl (hy _ j own' H1 hle1 hJ (by rw [← gE (by omega)]; exact List.take_prefix _ _)) rfl ?_
  rintro _ own2 H2 ⟨hle2, ⟨rfl, hJ2⟩ | ⟨rfl, hJ2⟩⟩; {
  refine TLX.step rfl (TL.not rfl rfl (Qc (TQX.go ?_)))
  refine TLX.nil ?_; refine TQX.ofQ ?_; refine Qd ?_
  refine TC.cond_f rfl ?_
  refine TC.skip ?_; refine TQ.in_n ?_; refine Qd ?_
  refine TC.region ?_
  refine TL.move rfl rfl ?_
  refine TL.sub rfl rfl rfl ⟨by omega, by omega⟩ ?_
  refine TL.assign rfl rfl ?_
  refine Qc ?_
  exact TQ.next j [(0, _), (1, _), (3, _)] (Nat.lt_succ_self j) ⟨rfl, rfl, rfl, trivial⟩ ⟨j, rfl, by omega, by rw [gE (by omega)]; exact hJ2, rfl, hle1.trans hle2⟩}; {
  refine TLX.step rfl (TL.not rfl rfl (Qc (TQX.go ?_)))
  refine TLX.nil ?_; refine TQX.ofQ ?_; refine Qd ?_
  refine TC.cond_t rfl ?_
  refine TC.ret ?_; refine TQ.in_r ?_; refine TQ.then_r ?_; refine TQ.then_r ?_; refine TQ.in_r ?_; refine TQ.ret0 0 rfl ?_
  exact ⟨hle1.trans hle2, .inr ⟨_, by rw [← gE (by omega)]; exact List.take_prefix _ _, hJ2⟩⟩}}
open Go.MapKept Go.ChangeMaps
def pk0 : Pk := ⟨{ v := .nilIface, recovered := false }, False, fun _ => True, fun _ h => h⟩
open Classical in
noncomputable def delH (H : Hp) (seg : Seg) : Hp := fun b => if b ∈ seg.map (·.1) then none else H b
theorem St.thaw {w0 w : World} {H : Hp} {seg : Seg} {own : List Seg} (h : St w0 H own w) (hz : ∀ p ∈ seg, H p.1 = some p.2) (hn : (seg.map (·.1)).Nodup) : St w0 (delH H seg) (seg :: own) w := by
  refine ⟨h.os, h.tape, h.output, fun b o hb => ?_, fun p hp => ?_, fun p hp => ?_, ?_⟩; {
  unfold delH at hb
  split at hb; {
  cases hb}; {
  exact h.imm b o hb}}; {
  simp only [List.flatten_cons, List.mem_append] at hp
  rcases hp with hp | hp
  {
  exact h.imm _ _ (hz p hp)}; {
  exact h.own_at p hp}}; {
  simp only [List.flatten_cons, List.mem_append] at hp
  unfold delH
  split; {
  rfl}; {
  rename_i hne
  rcases hp with hp | hp
  {
  exact absurd (List.mem_map.2 ⟨p, hp, rfl⟩) hne}; {
  exact h.apart p hp}}}; {
  simp only [List.flatten_cons, List.map_append, List.nodup_append]
  refine ⟨hn, h.nodup, fun a ha b hb e => ?_⟩
  subst e
  obtain ⟨p, hp, rfl⟩ := List.mem_map.1 ha
  obtain ⟨q, hq, e⟩ := List.mem_map.1 hb
  have h1 := hz p hp
  have h2 := h.apart q hq
  rw [e, h1] at h2
  cases h2}
theorem Le.del {H H' : Hp} {seg : Seg} (h : Le H H') (ha : ∀ p ∈ seg, H p.1 = none) : Le H (delH H' seg) := by
  intro b o hb
  unfold delH
  rw [if_neg]; {
  exact h b o hb}; {
  intro hm
  obtain ⟨p, hp, rfl⟩ := List.mem_map.1 hm
  rw [ha p hp] at hb
  cases hb}
theorem Fn.borrow {P : Program} {f : FuncId} {args : List Value} {w0 : World} {H : Hp} {own : List Seg} {seg : Seg} {ψ : Value → List Seg → Prop}
    (h : ∀ H1, Le H H1 → (∀ p ∈ seg, H1 p.1 = some p.2) → K.Fn P f args w0 H1 own (fun r own' H' => ψ r own' ∧ Le H1 H')) :
    K.Fn P f args w0 H (seg :: own) (fun r own' H' => ∃ o, own' = seg :: o ∧ ψ r o ∧ Le H H') := by
  intro w hw
  have hn := hw.nodup
  simp only [List.flatten_cons, List.map_append, List.nodup_append] at hn
  have hap : ∀ p ∈ seg, H p.1 = none := fun p hp => hw.apart p (by simp only [List.flatten_cons, List.mem_append]; exact .inl hp)
  obtain ⟨h1, h2, h3⟩ := hw.freeze
  refine (h _ h2 h3 w h1).mono ?_
  rintro e w' ⟨v, own', H', rfl, ⟨hp, hle⟩, hw'⟩
  have hz : ∀ p ∈ seg, H' p.1 = some p.2 := fun p hp => hle _ _ (h3 p hp)
  exact ⟨v, seg :: own', delH H' seg, rfl, ⟨own', rfl, hp, Le.del (h2.trans hle) hap⟩, St.thaw hw' hz hn.1⟩
mutual
def dtX (hp : XH) : Nat → XC → Option (D × List Prop)
  | 0, _ => none
  | n + 1, x => match x with
    | .d y => some (y, [])
    | .z => some (.s [], [])
    | .p g t o => match aq hp g with
      | some ⟨_, t', .cells c _⟩ => bif Nat.beq t t' then match dtXs hp n (c.drop o) with | some (ds, ob) => some (.p ds, ob) | none => none else none
      | _ => none
    | .l g t sz o m k => match aq hp g with
      | some ⟨_, t', .row n' rows _ sz'⟩ => bif Nat.beq t t' && (Nat.beq sz sz' && Nat.beq o 0) then some (.s rows, [m = n', k = n']) else none
      | _ => none
    | .m g t => match aq hp g with
      | some ⟨_, t', .mp Q⟩ => bif Nat.beq t t' then some (.mp (fun _ => Q), []) else none
      | _ => none
    | .f fn fs cs => match dtXs hp n fs, dtXs hp n cs with
      | some (a, o1), some (b, o2) => some (.f fn a b, o1 ++ o2)
      | _, _ => none
    | _ => none
def dtXs (hp : XH) : Nat → List XC → Option (List D × List Prop)
  | _, [] => some ([], [])
  | 0, _ :: _ => none
  | n + 1, x :: r => match dtX hp n x, dtXs hp n r with
    | some (d, o1), some (ds, o2) => some (d :: ds, o1 ++ o2)
    | _, _ => none
end
theorem fU : ∀ {a b : List Prop}, aL (a ++ b) → aL a ∧ aL b
  | [], _, h => ⟨trivial, h⟩
  | _ :: _, _, h => ⟨⟨h.1, (fU h.2).1⟩, (fU h.2).2⟩
theorem HR.at {V : Vn} {H : Hp} {b : XB} : ∀ {hp : XH} {sg : Seg} {g : Nat}, HR V H hp sg → aq hp g = some b → b.g = g ∧ ∃ s1, b.rel V H s1 ∧ ∀ p ∈ s1, p ∈ sg
  | [], _, _, _, h => by cases h
  | y :: r, _, g, ⟨s1, s2, h0, h1, h2⟩, h => by
    simp only [aq] at h
    cases hb : Nat.beq y.g g with
    | true =>
      rw [hb] at h; cases h
      exact ⟨Nat.eq_of_beq_eq_true hb, s1, h1, fun p hp => by rw [h0]; exact List.mem_append_left _ hp⟩
    | false =>
      rw [hb] at h
      obtain ⟨k1, s3, k2, k3⟩ := HR.at h2 h
      exact ⟨k1, s3, k2, fun p hp => by rw [h0]; exact List.mem_append_right _ (k3 p hp)⟩
theorem oq {H : Hp} {b : Nat} {us j : List Value} {e : TypeId} (h : H b = some (.cells (us ++ j).toArray e (0, 0))) (o : Nat) : hAt H b o (us.drop o) := by
  have key : ∀ (vs pre : List Value), pre ++ vs = us → hAt H b pre.length vs := by
    intro vs
    induction vs with
    | nil => intro _ _; trivial
    | cons v vs ih =>
      intro pre he
      refine ⟨?_, by have := ih (pre ++ [v]) (by simpa using he); simpa using this⟩
      simp only [cel, h]
      rw [← he]
      simp
  by_cases ho : o ≤ us.length; {
  have := key (us.drop o) (us.take o) (List.take_append_drop ..)
  rwa [List.length_take, Nat.min_eq_left ho] at this}; {
  rw [List.drop_eq_nil_of_le (by omega)]; trivial}
section
variable {V : Vn} {H H' : Hp} {hp : XH} {sg : Seg}
mutual
theorem dtX_ok (hr : HR V H hp sg) (hle : Le H H') (hz : ∀ p ∈ sg, H' p.1 = some p.2) : ∀ {n : Nat} {x : XC} {d : D} {ob : List Prop} {v : Value}, dtX hp n x = some (d, ob) → aL ob → x.rel V H v → rd H' d v
  | 0, _, _, _, _, h, _, _ => by cases h
  | n + 1, x, d, ob, v, h, ho, hx => by
    simp only [dtX] at h
    split at h; {
    cases h; simp only [XC.rel] at hx; exact hx.mono hle}; {
    cases h; simp only [XC.rel] at hx; subst hx; simp only [rd]; exact ⟨none, 0, 0, rfl, Nat.le_refl _, by simp [maxLen], .inl (by trivial)⟩}; {
    rename_i g t o
    split at h; {
    rename_i g' t' c e hg
    cases hb : Nat.beq t t' with
    | false => rw [hb] at h; cases h
    | true =>
      rw [hb, cond_true] at h
      split at h; {
      rename_i ds ob' hs
      cases h
      simp only [XC.rel] at hx
      obtain ⟨b, ex, hV, rfl⟩ := hx
      obtain ⟨rfl, s1, h1, h2⟩ := hr.at hg
      rcases h1 with ⟨b', o', ex', rfl, hV', us, hus, rfl, _⟩ | ⟨_, _, _, _, h3, _⟩
      {
      simp only at hV'
      rw [Nat.eq_of_beq_eq_true hb, hV'] at hV
      cases hV
      have hH := hz _ (h2 _ (List.mem_singleton.2 rfl))
      simp only [rd]
      refine ⟨_, _, rfl, rds.of (oq (j := []) (by simpa using hH) o) ?_⟩
      exact iW hr hle hz hs ho (hus.drop (n := o))}; {
      cases h3}}; {
      cases h}}
    {
    cases h}}; {
    rename_i g t sz o m k
    split at h; {
    rename_i g' t' n' rows e sz' hg
    cases hb : (Nat.beq t t' && (Nat.beq sz sz' && Nat.beq o 0)) with
    | false => rw [hb] at h; cases h
    | true =>
      rw [hb, cond_true] at h
      cases h
      simp only [Bool.and_eq_true] at hb
      obtain ⟨rfl, rfl, _⟩ := ho
      simp only [XC.rel] at hx
      obtain ⟨b, ex, hV, rfl⟩ := hx
      obtain ⟨rfl, s1, h1, h2⟩ := hr.at hg
      have e1 := Nat.eq_of_beq_eq_true hb.1
      have e2 := Nat.eq_of_beq_eq_true hb.2.1
      have e3 := Nat.eq_of_beq_eq_true hb.2.2
      subst e1 e2 e3
      simp only [rd]
      rcases h1 with ⟨b', o', ex', rfl, hV', us, j, r0, r1, r2, rfl, r4, r5, r6⟩ | ⟨_, hV', e', sz', h3, _⟩
      {
      simp only at hV'
      rw [hV'] at hV
      cases hV
      have hH := hz _ (h2 _ (List.mem_singleton.2 rfl))
      have h9 := oq hH 0
      rw [List.drop_zero] at h9
      rw [← r0]
      exact ⟨_, _, sz, rfl, Nat.le_add_right _ _, r5, .inr ⟨b', 0, by simp, rdr.of h9 (r1.mono hle) r2⟩⟩}; {
      simp only [XO.row.injEq] at h3
      obtain ⟨rfl, rfl, _, _⟩ := h3
      simp only at hV'
      rw [hV'] at hV
      cases hV
      exact ⟨none, 0, sz, rfl, Nat.le_refl _, by simp [maxLen], .inl (by trivial)⟩}}
    {
    cases h}}; {
    rename_i g t
    split at h; {
    rename_i g' t' Q hg
    cases hb : Nat.beq t t' with
    | false => rw [hb] at h; cases h
    | true =>
      rw [hb, cond_true] at h
      cases h
      simp only [XC.rel] at hx
      obtain ⟨b, ex, hV, rfl⟩ := hx
      obtain ⟨rfl, s1, h1, h2⟩ := hr.at hg
      rcases h1 with ⟨b', o', ex', rfl, hV', hQ⟩ | ⟨_, _, _, _, h3, _⟩
      {
      simp only at hV'
      rw [Nat.eq_of_beq_eq_true hb, hV'] at hV
      cases hV
      simp only [rd]
      exact ⟨_, _, rfl, hz _ (h2 _ (List.mem_singleton.2 rfl)), hQ⟩}; {
      cases h3}}
    {
    cases h}}; {
    split at h; {
    rename_i a o1 b o2 ha hb
    cases h
    obtain ⟨p1, p2⟩ := fU ho
    simp only [XC.rel] at hx
    obtain ⟨us, ws, rfl, h1, h2⟩ := hx
    simp only [rd]
    exact ⟨us, ws, rfl, iW hr hle hz ha p1 h1, iW hr hle hz hb p2 h2⟩}; {
    cases h}}; {
    cases h}
theorem iW (hr : HR V H hp sg) (hle : Le H H') (hz : ∀ p ∈ sg, H' p.1 = some p.2) : ∀ {n : Nat} {xs : List XC} {ds : List D} {ob : List Prop} {vs : List Value}, dtXs hp n xs = some (ds, ob) → aL ob → rels V H xs vs → rdL H' ds vs
  | _, [], _, _, [], h, _, _ => by
    simp only [dtXs, Option.some.injEq, Prod.mk.injEq] at h
    obtain ⟨rfl, rfl⟩ := h
    trivial
  | 0, _ :: _, _, _, _, h, _, _ => by cases h
  | n + 1, x :: r, ds, ob, v :: vs, h, ho, hx => by
    simp only [dtXs] at h
    split at h; {
    rename_i d o1 ds' o2 h1 h2
    cases h
    obtain ⟨p1, p2⟩ := fU ho
    exact ⟨dtX_ok hr hle hz h1 p1 hx.1, iW hr hle hz h2 p2 hx.2⟩}; {
    cases h}
  | _, [], _, _, _ :: _, _, _, hx => hx.elim
  | _, _ :: _, _, _, [], _, _, hx => hx.elim
end
def dtA (hp : XH) : XV → Option (XV × List Prop)
  | .a (.c x) => match dtX hp 40 x with | some (d, o) => some (.a (.c (.d d)), o) | none => none
  | .a (.a l) => match dtXs hp 40 l with | some (ds, o) => some (.a (.g ds), o) | none => none
  | .a (.g l) => some (.a (.g l), [])
  | _ => none
def dtAs (hp : XH) : List XV → Option (List XV × List Prop)
  | [] => some ([], [])
  | x :: r => match dtA hp x, dtAs hp r with
    | some (d, o1), some (ds, o2) => some (d :: ds, o1 ++ o2)
    | _, _ => none
theorem dtA_ok (hr : HR V H hp sg) (hle : Le H H') (hz : ∀ p ∈ sg, H' p.1 = some p.2) {x y : XV} {ob : List Prop} {v : Value} (h : dtA hp x = some (y, ob)) (ho : aL ob) (hx : x.rel V H v) : y.rel (fun _ _ => none) H' v := by
  unfold dtA at h
  split at h; {
  split at h; {
  rename_i hd; cases h; simp only [XV.rel, XA.rel, XC.rel]; exact dtX_ok hr hle hz hd ho hx}; {
  cases h}}; {
  split at h; {
  rename_i hd; cases h; obtain ⟨us, rfl, h2⟩ := hx; exact ⟨us, rfl, iW hr hle hz hd ho h2⟩}; {
  cases h}}; {
  cases h
  obtain ⟨us, rfl, h2⟩ := hx
  exact ⟨us, rfl, h2.mono hle⟩}; {
  cases h}
theorem ou (hr : HR V H hp sg) (hle : Le H H') (hz : ∀ p ∈ sg, H' p.1 = some p.2) : ∀ {xs ys : List XV} {ob : List Prop} {vs : List Value}, dtAs hp xs = some (ys, ob) → aL ob → XVs.rels V H xs vs → XVs.rels (fun _ _ => none) H' ys vs
  | [], _, _, [], h, _, _ => by cases h; trivial
  | x :: r, ys, ob, v :: vs, h, ho, hx => by
    simp only [dtAs] at h
    split at h; {
    rename_i d o1 ds o2 h1 h2
    cases h
    obtain ⟨p1, p2⟩ := fU ho
    exact ⟨dtA_ok hr hle hz h1 p1 hx.1, ou hr hle hz h2 p2 hx.2⟩}; {
    cases h}
  | [], _, _, _ :: _, _, _, hx => hx.elim
  | _ :: _, _, _, [], _, _, hx => hx.elim
end
def scl : XV → Bool
  | .a (.c (.d (.c _))) => true
  | .a (.g l) => l.all fun d => match d with | .c _ => true | _ => false
  | .t l => l.all fun x => match x with | .c (.d (.c _)) => true | .g l => l.all (fun d => match d with | .c _ => true | _ => false) | .a l => l.all (fun d => match d with | .d (.c _) => true | _ => false) | _ => false
  | _ => false
theorem pL {V V' : Vn} {H H' : Hp} : ∀ {l : List XC} {vs : List Value}, (l.all fun d => match d with | .d (.c _) => true | _ => false) = true → rels V H l vs → rels V' H' l vs
  | [], [], _, _ => trivial
  | .d (.c x) :: l, v :: vs, h, hr => ⟨by have := hr.1; simp only [XC.rel, rd] at this ⊢; exact this, pL (by simpa using h) hr.2⟩
  | .d (.s _) :: _, _, h, _ => by simp at h
  | .d (.p _) :: _, _, h, _ => by simp at h
  | .d (.f _ _ _) :: _, _, h, _ => by simp at h
  | .d (.mp _) :: _, _, h, _ => by simp at h
  | .z :: _, _, h, _ => by simp at h
  | .p _ _ _ :: _, _, h, _ => by simp at h
  | .l _ _ _ _ _ _ :: _, _, h, _ => by simp at h
  | .m _ _ :: _, _, h, _ => by simp at h
  | .f _ _ _ :: _, _, h, _ => by simp at h
  | .w _ :: _, _, h, _ => by simp at h
  | [], _ :: _, _, hr => hr.elim
  | _ :: _, [], _, hr => hr.elim
theorem ov {H H' : Hp} : ∀ {l : List D} {vs : List Value}, (l.all fun d => match d with | .c _ => true | _ => false) = true → rdL H l vs → rdL H' l vs
  | [], [], _, _ => trivial
  | .c x :: l, v :: vs, h, hr => ⟨by have := hr.1; simp only [rd] at this ⊢; exact this, ov (by simpa using h) hr.2⟩
  | .s _ :: _, _, h, _ => by simp at h
  | .p _ :: _, _, h, _ => by simp at h
  | .f _ _ _ :: _, _, h, _ => by simp at h
  | .mp _ :: _, _, h, _ => by simp at h
  | [], _ :: _, _, hr => hr.elim
  | _ :: _, [], _, hr => hr.elim
theorem ox {V V' : Vn} {H H' : Hp} {x : XV} {v : Value} (h : scl x = true) (hr : x.rel V H v) : x.rel V' H' v := by
  unfold scl at h
  split at h; {
  simpa only [XV.rel, XA.rel, XC.rel, rd] using hr}; {
  obtain ⟨us, rfl, h2⟩ := hr; exact ⟨us, rfl, ov h h2⟩}; {
  rename_i l
  obtain ⟨us, rfl, h2⟩ := hr
  refine ⟨us, rfl, ?_⟩
  generalize us.toList = vs at h2
  induction l generalizing vs with
  | nil => cases vs with | nil => trivial | cons => exact h2.elim
  | cons a l ih => cases vs with
    | nil => exact h2.elim
    | cons u vs =>
      simp only [List.all_cons, Bool.and_eq_true] at h
      refine ⟨?_, ih h.2 vs h2.2⟩
      have ha := h.1
      have h3 := h2.1
      split at ha; {
      simpa only [XA.rel, XC.rel, rd] using h3}; {
      obtain ⟨ws, rfl, h4⟩ := h3; exact ⟨ws, rfl, ov ha h4⟩}; {
      obtain ⟨ws, rfl, h4⟩ := h3; exact ⟨ws, rfl, pL ha h4⟩}; {
      cases ha}}
  {
  cases h}
section
variable {P : Program} {pk : Pk} {f : FuncId} {args : List XV} {R : XV}
theorem LS.bw {ops : Array Oper} {d : Option Tmp} {ty : TypeId} {pos : String} {af : Array Edge} {opd : Operand} {xs : List Operand} {tys : Array TypeId} {Er : XE} {fp : XH} {nx : Nat} {fv : XV} {fs cs : List XC} {us ws : List XV} {ob : List Prop} (hψ : ¬ pk.ψ) (h : XQ P pk f args R) (hR : scl R = true)
    (hfv : xev Er opd = some fv) (hfn : fnv fv = some (f, fs, cs)) (hus : eb (xev Er) xs = some us) (hdt : dtAs fp (cl fs ++ (us ++ cl cs)) = some (ws, ob)) (hob : aL ob) (hargs : cos args ws = args) :
    LS P pk ops { dst := d, op := .call { callee := .value opd, args := xs.toArray, argTypes := tys }, type := ty, pos := pos, after := af, guard := none } Er fp nx nx (fun x fp' => x = R ∧ fp' = fp) := by
  intro w0 N Q rest env own H V sg hl hV htp hf hd hp hh
  obtain ⟨fval, e1, e2⟩ := hl.lks _ _ hfv
  obtain ⟨fus, fws, rfl, e3, e4⟩ := fnv_ok hfn e2
  obtain ⟨vals, e5, e6⟩ := nP hl.lks hus
  haveI : Callable P f := h.2.2.1
  have cq : XVs.rels V H (cl fs ++ (us ++ cl cs)) (fus.toList ++ (vals ++ fws.toList)) := XVs.append (XVs.ofC e3) (XVs.append e6 (XVs.ofC e4))
  have hfn2 := Fn.borrow (P := P) (f := f) (args := fus.toList ++ (vals ++ fws.toList)) (w0 := w0) (H := H) (own := own) (seg := sg) (ψ := fun r o => R.rel (fun _ _ => none) H r ∧ o = own) (fun H1 hle hz => by
    have h1 := XQ.toFn h hψ (w0 := w0) (own := own) (H := H1) (vals := fus.toList ++ (vals ++ fws.toList)) (pk.mono hle hp.1) (by rw [← hargs]; exact cos_ok (ou hV hle hz hdt hob cq))
    intro w hw
    refine (h1 w hw).mono ?_
    rintro e w' ⟨v, o, H', rfl, ⟨q1, q2, q3⟩, q4⟩
    exact ⟨v, o, H', rfl, ⟨⟨ox hR q1, q2⟩, q3⟩, q4⟩)
  refine TL.callV (first := fus.toList) (captured := fws.toList) (vs := vals) (by simpa using e1) hfn2 e5 (by rw [List.append_assoc]) hd ?_
  rintro v own' H' ⟨o, rfl, ⟨q1, rfl⟩, q3⟩
  exact hh v R fp V H' sg ⟨rfl, rfl⟩ (ox hR q1) (hV.mono (VLe.refl _) q3) htp (VX.refl _ _ _) q3
end
section
variable {P : Program} {x : Cx P} {k : List Fr} {E Er : XE} {hp : XH} {nx i : Nat} {ops : List Oper} {dm : Option (List Rc)} {l : List (Nat × Oper)} {d : Option Tmp} {ty : TypeId} {pos : String} {af : Array Edge} {g : Option (Nat × Bool)} {f : FuncId} {args : List XV} {R : XV}
theorem Bw {opd : Operand} {xs : List Operand} {tys : Array TypeId} {fv : XV} {fs cs : List XC} {us ws : List XV} {ob : List Prop} {ps rest : XH} (gs : List Nat) (h : XQ P x.B.pk f args R) (hψ : ¬ x.B.pk.ψ) (hEr : vis dm ops { dst := d, op := .call { callee := .value opd, args := xs.toArray, argTypes := tys }, type := ty, pos := pos, after := af, guard := g } E = Er) (hfv : xev Er opd = some fv) (hfn : fnv fv = some (f, fs, cs)) (hus : eb (xev Er) xs = some us) (hpk : dY gs hp = some (ps, rest)) (hdt : dtAs ps (cl fs ++ (us ++ cl cs)) = some (ws, ob)) (hargs : cos args ws = args)
    (hb : (aw ops Er g = some true ∧ ae ps = gs) ∧ (okD x.N d && (bp gs && gs.all (fun g => Nat.blt g nx))) = true) (hR : scl R = true)
    (hk : (MS.r ops (push dm ⟨i, gs, false, false⟩) l k ⟨b8 d R E, hp, nx⟩).ok x) (hob : aL ob := by repeat' (first | exact trivial | apply And.intro | rfl)) (hdk : DkM dm ops ⟨i, gs, false, false⟩ := by first | exact trivial | (refine DK.mk ?_; decide +kernel)) :
    (MS.r ops dm ((i, { dst := d, op := .call { callee := .value opd, args := xs.toArray, argTypes := tys }, type := ty, pos := pos, after := af, guard := g }) :: l) k ⟨E, hp, nx⟩).ok x := by
  subst hEr
  obtain ⟨⟨hw, hgs⟩, hb⟩ := hb
  simp only [Bool.and_eq_true] at hb
  obtain ⟨hd, b1, b2⟩ := hb
  have e0 : ae ps ++ List.range' nx (nx - nx) = gs := by rw [hgs]; simp
  refine MS.op (fp := ps) (rest := rest) false false hd (dC hpk) (Nat.le_refl _) (LS.yes (o := { dst := d, op := .call { callee := .value opd, args := xs.toArray, argTypes := tys }, type := ty, pos := pos, after := af, guard := g }) hw (LS.bw hψ h hR hfv hfn hus hdt hob hargs)) (by rw [e0]; exact hdk) (fun _ => ⟨_, _, ⟨rfl, rfl⟩, fun _ _ h => h⟩) (fun h => by cases h) ?_
  rintro y fp' ⟨rfl, rfl⟩
  refine ⟨fun b hb => .inl (List.mem_map.2 ⟨b, hb, rfl⟩), by rw [hgs]; exact bW b1, fun _ => ⟨rfl, rfl⟩, hp, dC hpk, ?_⟩
  rw [e0]; exact hk
end
section
variable {P : Program} {f : FuncId} {args : List XV} {B : XH} {m m' : Nat} {Φ : XV → XH → Prop}
variable {x : Cx P} {k : List Fr} {E Er : XE} {hp : XH} {nx i : Nat} {ops : List Oper} {dm : Option (List Rc)} {l : List (Nat × Oper)} {d : Option Tmp} {ty : TypeId} {pos : String} {af : Array Edge} {g : Option (Nat × Bool)}
theorem Cmc {opd : Operand} {xs : List Operand} {tys : Array TypeId} {fv : XV} {fs cs : List XC} {us : List XV} {ps rest : XH} (gs : List Nat) (h : XM P x.B.pk f args B m m' Φ)
    (hEr : vis dm ops { dst := d, op := .call { callee := .value opd, args := xs.toArray, argTypes := tys }, type := ty, pos := pos, after := af, guard := g } E = Er) (hfv : xev Er opd = some fv) (hfn : fnv fv = some (f, fs, cs)) (hus : eb (xev Er) xs = some us) (hpk : dY gs hp = some (ps, rest))
    (hargs : cos (XVs.ren (muc gs m nx (ps.map (·.t))) args) (cl fs ++ (us ++ cl cs)) = XVs.ren (muc gs m nx (ps.map (·.t))) args) (hfp : ps = bn (muc gs m nx (ps.map (·.t))) B) (hb : (aw ops Er g = some true ∧ ae ps = gs) ∧ (okD x.N d && (bp gs && gs.all (fun g => Nat.blt g nx))) = true)
    (hk : ∀ r hp', Φ r hp' → (MS.r ops (push dm ⟨i, gs ++ List.range' nx (m' - m), true, true⟩) l k ⟨b8 d (r.ren (muc gs m nx (ps.map (·.t)))) E, bn (muc gs m nx (ps.map (·.t))) hp' ++ rest, nx + (m' - m)⟩).ok x)
    (hdk : DkM dm ops ⟨i, gs ++ List.range' nx (m' - m), true, true⟩ := by first | exact trivial | (refine DK.mk ?_; decide +kernel)) (hrl : RlM dm ops i l := by first | exact trivial | (refine RL.mk ?_; decide +kernel)) :
    (MS.r ops dm ((i, { dst := d, op := .call { callee := .value opd, args := xs.toArray, argTypes := tys }, type := ty, pos := pos, after := af, guard := g }) :: l) k ⟨E, hp, nx⟩).ok x := by
  obtain ⟨hc, hm, hcl, h3⟩ := h
  have e0 : ae ps ++ List.range' nx (nx + (m' - m) - nx) = gs ++ List.range' nx (m' - m) := by rw [hb.1.2, Nat.add_sub_cancel_left]
  refine MS.call gs true true h3 hEr hfv hfn hcl hus hpk (SubV.of hargs) hfp hc ⟨hb.1, ?_⟩ (by rw [e0]; exact hdk) (fun h => by cases h) (fun h => by cases h) (fun _ => hrl) ?_; {
  have h2 := hb.2
  simp only [Bool.and_eq_true] at h2 ⊢
  exact ⟨h2.1, h2.2.1, h2.2.2, hm⟩}; {
  intro r hp' hΦ
  rw [e0]
  exact hk r hp' hΦ}
theorem Czc {F : XH} {R : XV} {opd : Operand} {xs : List Operand} {tys : Array TypeId} {fv : XV} {fs cs : List XC} {us : List XV} {ps rest : XH} (gs : List Nat) (X : XH) (h : XM P x.B.pk f args B m m (fun r hp' => r = R ∧ hp' = F))
    (hEr : vis dm ops { dst := d, op := .call { callee := .value opd, args := xs.toArray, argTypes := tys }, type := ty, pos := pos, after := af, guard := g } E = Er) (hfv : xev Er opd = some fv) (hfn : fnv fv = some (f, fs, cs)) (hus : eb (xev Er) xs = some us) (hpk : dY gs hp = some (ps, rest))
    (hargs : cos (XVs.ren (muc gs m nx (ps.map (·.t))) args) (cl fs ++ (us ++ cl cs)) = XVs.ren (muc gs m nx (ps.map (·.t))) args) (hfp : ps = bn (muc gs m nx (ps.map (·.t))) B) (hb : (aw ops Er g = some true ∧ ae ps = gs) ∧ (okD x.N d && (bp gs && gs.all (fun g => Nat.blt g nx))) = true) (hX : bn (muc gs m nx (ps.map (·.t))) F = X) (hR : pure R = true)
    (hk : (MS.r ops (push dm ⟨i, gs, true, true⟩) l k ⟨b8 d R E, X ++ rest, nx⟩).ok x)
    (hdk : DkM dm ops ⟨i, gs, true, true⟩ := by first | exact trivial | (refine DK.mk ?_; decide +kernel)) (hrl : RlM dm ops i l := by first | exact trivial | (refine RL.mk ?_; decide +kernel)) :
    (MS.r ops dm ((i, { dst := d, op := .call { callee := .value opd, args := xs.toArray, argTypes := tys }, type := ty, pos := pos, after := af, guard := g }) :: l) k ⟨E, hp, nx⟩).ok x := by
  have e1 : gs ++ List.range' nx (m - m) = gs := by simp
  refine Cmc gs h hEr hfv hfn hus hpk hargs hfp hb ?_ (by rw [e1]; exact hdk) hrl
  rintro r hp' ⟨rfl, rfl⟩
  rw [e1, hX, XV.ren_pure hR, Nat.sub_self, Nat.add_zero]
  exact hk
end
section
open Go Go.RowKit Go.Proofs K
def eqL {α : Type} (p : α → α → Bool) : List α → List α → Bool
  | [], [] => true
  | x :: r, y :: s => p x y && eqL p r s
  | _, _ => false
section
variable {α : Type} {p : α → α → Bool} {l m : List α} {j : Nat} {y z : α}
theorem eqL_len : ∀ {l m : List α}, l.length ≠ m.length → eqL p l m = false
  | [], [], h => absurd rfl h
  | [], _ :: _, _ => rfl
  | _ :: _, [], _ => rfl
  | x :: r, y :: s, h => by rw [eqL, eqL_len (l := r) (m := s) (by simpa using h), Bool.and_false]
theorem eqL_at (hy : l[j]? = some y) (hz : m[j]? = some z) : eqL p (l.drop j) (m.drop j) = (p y z && eqL p (l.drop (j + 1)) (m.drop (j + 1))) := by
  obtain ⟨h1, rfl⟩ := List.getElem?_eq_some_iff.1 hy
  obtain ⟨h2, rfl⟩ := List.getElem?_eq_some_iff.1 hz
  rw [List.drop_eq_getElem_cons h1, List.drop_eq_getElem_cons h2, eqL]
theorem eqL_end (h1 : l.length ≤ j) (h2 : m.length ≤ j) : eqL p (l.drop j) (m.drop j) = true := by
  rw [List.drop_eq_nil_of_le h1, List.drop_eq_nil_of_le h2]; rfl
end
def EqT (pk : Pk) (f : FuncId) {α : Type} (da : α → List D) (ar : α → XV) : Prop := ∀ (l m : List α) (p : α → α → Bool) (fc : FuncId) (fs cs : List D),
  (∀ x ∈ l, ∀ y ∈ m, XQ Tryz.prog pk fc (cs9 fs cs [ar x, ar y]) (xb (p x y))) → XQ Tryz.prog pk f [xr (l.map da), xr (m.map da), xf fc fs cs] (xb (eqL p l m))
theorem dv (pk : Pk) : EqT pk 74 paD (fun t => xd (paD t)) ∧ EqT pk 123 tyD (fun t => xd (tyD t)) ∧
    EqT pk 124 smD (fun t => xd (smD t)) ∧ EqT pk 185 exD (fun t => xd (exD t)) ∧
    EqT pk 187 blD (fun c => xr (c.map smD)) := by
  refine ⟨fun l m p fc fs cs hcl => XQ.en Tryz.func74 Tryz.ntmps74 (fun w0 own H V v0 hf => ?_),
    fun l m p fc fs cs hcl => XQ.en Tryz.func123 Tryz.ntmps123 (fun w0 own H V v0 hf => ?_),
    fun l m p fc fs cs hcl => XQ.en Tryz.func124 Tryz.ntmps124 (fun w0 own H V v0 hf => ?_),
    fun l m p fc fs cs hcl => XQ.en Tryz.func185 Tryz.ntmps185 (fun w0 own H V v0 hf => ?_),
    fun l m p fc fs cs hcl => XQ.en Tryz.func187 Tryz.ntmps187 (fun w0 own H V v0 hf => ?_)⟩
  all_goals
    refine Ln 0 rfl (fun hl => ?_); rw [List.length_map] at hl
    refine G9 rfl (If rfl (fun h => ?_) (fun h => ?_))
    · have hne := of_decide_eq_true h; rw [List.length_map, List.length_map] at hne
      refine G9 rfl ?_
      exact Fe (T := T) rfl (by show xb _ = xb _; rw [eqL_len (by omega)])
    have he := of_decide_eq_false h; rw [List.length_map, List.length_map] at he
    refine G9 rfl (Lq [0, 1, 2, 15, 16] (fun q r => (6, xb false) :: (17, xi (q : Nat)) :: r) (fun q => []) 0 (fun q => q ≤ l.length ∧ eqL p l m = eqL p (l.drop q) (m.drop q)) (fun q => l.length - q) 0 rfl ⟨Nat.zero_le _, rfl⟩ ?_)
    rintro j ⟨hj, hI⟩
    refine G9 rfl (If rfl (fun h => ?_) (fun h => ?_))
    · have hjl := of_decide_eq_true h; rw [List.length_map] at hjl
      obtain ⟨y, hy⟩ := ai (l := l) (j := j) (by omega)
      obtain ⟨z, hz⟩ := ai (l := m) (j := j) (by omega)
      rw [eqL_at hy hz] at hI
      refine G9 rfl (Ix (T := T) j (ab hy) rfl rfl rfl rfl ⟨rfl, rfl⟩ rfl rfl ?_)
      refine G9 rfl (Ix (T := T) j (ab hz) rfl rfl rfl rfl ⟨rfl, rfl⟩ rfl rfl ?_)
      refine G9 rfl (Cv (hcl y (List.mem_of_getElem? hy) z (List.mem_of_getElem? hz)) rfl rfl rfl rfl rfl ⟨rfl, rfl⟩ ?_)
      refine G9 rfl (If rfl (fun h => ?_) (fun h => ?_))
      · have h9 : p y z = false := by simpa using h
        refine G9 rfl ?_
        exact Fe (T := T) rfl (by show xb _ = xb _; rw [hI, h9]; rfl)
      · have h9 : p y z = true := by simpa using h
        refine G9 rfl ?_
        exact Nq (j + 1) ⟨by omega, by rw [hI, h9]; rfl⟩ (by show _ - (j + 1) < _ - j; omega)
    · have hjl := of_decide_eq_false h; rw [List.length_map] at hjl
      refine G9 rfl ?_
      exact Fe (T := T) rfl (by show xb _ = xb _; rw [hI, eqL_end (by omega) (by omega)])
variable {pk : Pk}
theorem lB : ∀ l m : List Ty4, cV l m = eqL bh l m
  | [], [] => by rw [cV, eqL]
  | [], _ :: _ => by rw [cV, eqL] <;> simp
  | _ :: _, [] => by rw [cV, eqL] <;> simp
  | x :: r, y :: s => by rw [cV, eqL, lB r s]
theorem fg : ∀ (n : Nat) (t u : Ty4), t.size ≤ n → XQ Tryz.prog pk 76 [xd (tyD t), xd (tyD u)] (xb (bh t u)) := by
  intro n
  induction n with
  | zero => intro t u h; have := t.size_pos; omega
  | succ n ih =>
  rintro ⟨k, nm, m, ts⟩ ⟨k', nm', m', ts'⟩ hs
  have hsz : (Ty4.mk k nm m ts).size = Ty4.sizes ts + 1 := rfl
  rw [nS, nS]
  refine XQ.en Tryz.func76 Tryz.ntmps76 (fun w0 own H V v0 hf => ?_)
  refine Gs (T := T) 1000 rfl ?_
  refine Cs (fun _ => (dv pk).2.1 ts ts' bh _ [] [] (fun x hx y _ => ih x y (by have := Ty4.size_mem hx; omega))) rfl rfl rfl rfl rfl rfl rfl rfl ?_
  refine Gs (T := T) 1000 rfl ?_
  refine Fe (T := T) rfl ?_
  rw [bh, lB]
  show xb _ = xb _
  congr 1
  by_cases h1 : k = k' <;> by_cases h2 : nm = nm' <;> by_cases h3 : m = m' <;> simp [h1, h2, h3]
theorem qD (t u : Par) : XQ Tryz.prog pk 75 [xd (paD t), xd (paD u)] (xb (decide (t.nm = u.nm) && bh t.ty u.ty)) := by
  refine XQ.en Tryz.func75 Tryz.ntmps75 (fun w0 own H V v0 hf => ?_)
  refine Gs (T := T) 1000 rfl ?_
  refine Cs (fun _ => fg _ t.ty u.ty (Nat.le_refl _)) rfl rfl rfl rfl rfl rfl rfl rfl ?_
  refine Gs (T := T) 1000 rfl ?_
  exact Fe (T := T) rfl rfl
theorem m9 : ∀ l m : List Par, ij l m = eqL (fun t u => decide (t.nm = u.nm) && bh t.ty u.ty) l m
  | [], [] => rfl
  | [], _ :: _ => rfl
  | _ :: _, [] => rfl
  | x :: r, y :: s => by rw [ij, eqL, m9 r s]
end
section
open Go Go.RowKit Go.Proofs K
section
variable {P : Program} {x : Cx P} {k : List Fr} {E Er Es : XE} {hp : XH} {nx i : Nat} {ops : List Oper} {dm : Option (List Rc)} {l : List (Nat × Oper)} {d : Tmp} {ty : TypeId} {pos : String} {af : Array Edge} {g : Option (Nat × Bool)} {a b : Operand} {tx t' : TypeId} {u v c : Bool} {ob : List Prop}
theorem LS.eqb {pk : Pk} {ops : Array Oper} {d : Option Tmp} (hu : P.underlying tx = some .bool) (ha : xev Er a = some (xb u)) (hb : xev Er b = some (xb v)) :
    LS P pk ops { dst := d, op := .binOp .eql tx a b t', type := ty, pos := pos, after := af, guard := none } Er [] nx nx (fun x fp' => x = xb (u == v) ∧ fp' = []) := by
  intro w0 N Q rest env own H V sg hl hV htp hf hd _ hh
  obtain ⟨p, h1, h2⟩ := hl.lks _ _ ha
  obtain ⟨q, h3, h4⟩ := hl.lks _ _ hb
  rw [bk h2] at h1
  rw [bk h4] at h3
  refine Qb hd (fun ac ha w => ?_) (hh (.bool (u == v)) _ [] V H sg ⟨rfl, rfl⟩ (by simp only [XV.rel, XA.rel, XC.rel, rd]; exact ⟨trivial, rfl⟩) hV htp (VX.refl _ _ _) (Le.refl _))
  have e1 : ∀ d w, (Op.equalIn (d + 1) tx (.bool u) (.bool v)).run P w = .ok (u == v) w := fun d w => by simp [Op.equalIn, run_underlying hu]
  have e2 : ∀ w, (Op.equal tx (.bool u) (.bool v)).run P w = .ok (u == v) w := fun w => e1 9999 w
  have e3 : eqGuard .eql tx a b (.bool u) (.bool v) = (Pure.pure () : Sem Unit) := rfl
  simp [execOp, ha.ev h1, ha.ev h3, e3, binOp, e2]
theorem EqB (hu : P.underlying tx = some .bool) (hEr : vis dm ops { dst := some d, op := .binOp .eql tx a b t', type := ty, pos := pos, after := af, guard := g } E = Er) (ha : xev Er a = some (xb u)) (hb : xev Er b = some (xb v)) (hd : aw ops Er g = some true ∧ okD x.N (some d) = true)
    (hk : (MS.r ops (push dm ⟨i, [], false, false⟩) l k ⟨(d, xb (u == v)) :: E, hp, nx⟩).ok x) (hdk : DkM dm ops ⟨i, [], false, false⟩ := by first | exact trivial | (refine DK.mk ?_; decide +kernel)) :
    (MS.r ops dm ((i, { dst := some d, op := .binOp .eql tx a b t', type := ty, pos := pos, after := af, guard := g }) :: l) k ⟨E, hp, nx⟩).ok x :=
  MS.val hEr hd (LS.eqb hu ha hb) hdk hk
theorem Eqs (hu : P.underlying tx = some .bool) (hEr : vis dm ops { dst := some d, op := .binOp .eql tx a b t', type := ty, pos := pos, after := af, guard := g } E = Er) (hc : xcnd ops Er g = some c) (hs : sofO Er (.binOp .eql tx a b t') = (Es, ob)) (ha : xev Es a = some (xb u)) (hb : xev Es b = some (xb v)) (hd : okD x.N (some d) = true)
    (hk : (MS.r ops (push dm ⟨i, [], false, false⟩) l k ⟨(d, .gd c (.c (.d (.c (.bool (u == v)))))) :: E, hp, nx⟩).ok x) (hdk : DkM dm ops ⟨i, [], false, false⟩ := by first | exact trivial | (refine DK.mk ?_; decide +kernel)) (hob : c = true → aL ob := by first | exact fun _ => trivial | (intro _; repeat' (first | exact trivial | assumption | apply And.intro | (simp_all; done)))) :
    (MS.r ops dm ((i, { dst := some d, op := .binOp .eql tx a b t', type := ty, pos := pos, after := af, guard := g }) :: l) k ⟨E, hp, nx⟩).ok x :=
  MS.sft hEr hc hs hob hd (fun _ => LS.eqb hu ha hb) hdk hk
end
variable {pk : Pk}
def aV (n : Nat) : Value := .int .i64 (n : Int)
def c5 (_ : Unit) : Value := .bool true
abbrev mpS (l : List (ByteArray × Nat)) : D := .mp (fun _ => ML kvS 3 aV l)
abbrev mpL (l : List (ByteArray × Unit)) : D := .mp (fun _ => ML kvS 4 c5 l)
abbrev xp (l : List D) : XV := .a (.c (.d (.p l)))
abbrev xm (d : D) : XV := .a (.c (.d d))
theorem aD (o : Option Nat) : ∀ V H, (XA.c (.d (.c (.int .i64 ((o.getD 0 : Nat) : Int))))).rel V H ((o.map aV).getD (.int .i64 0)) := fun V H => by
  cases o <;> exact ⟨rfl, rfl⟩
theorem opt_true (o : Option Unit) : ∀ V H, (XA.c (.d (.c (.bool o.isSome)))).rel V H ((o.map c5).getD (.bool false)) := fun V H => by
  cases o <;> exact ⟨rfl, rfl⟩
def bF (lf lg : List (ByteArray × Nat)) (ll : List (ByteArray × Unit)) (e : Ex) : Bool × Nat × Bool :=
  if exK e = 14 then (true, (lkL lf (aU e)).getD 0, (lkL lf (aU e)).isSome)
  else if exK e = 2 then (false, (lkL lg (aU e)).getD 0, (lkL lg (aU e)).isSome && !(lkL ll (aU e)).isSome)
  else (false, 0, false)
abbrev rfX (r : Bool × Nat × Bool) : XV := .t [.a [.d (.c (.bool r.1)), .d (.c (.int .i64 (r.2.1 : Nat)))], .c (.d (.c (.bool r.2.2)))]
theorem im {a0 a1 a2 a5 a6 : D} {lf lg : List (ByteArray × Nat)} {ll : List (ByteArray × Unit)} {e : Ex} (hnm : (aU e).size ≤ maxLen) :
    XQ Tryz.prog pk 73 [xp [a0, a1, a2, mpS lf, mpS lg, a5, a6], xd (exD e), xm (mpL ll)] (rfX (bF lf lg ll e)) := by
  obtain ⟨k, nm, n, ks⟩ := e
  have hR : bF lf lg ll (.mk k nm n ks) = if k = 14 then (true, (lkL lf nm).getD 0, (lkL lf nm).isSome) else if k = 2 then (false, (lkL lg nm).getD 0, (lkL lg nm).isSome && !(lkL ll nm).isSome) else (false, 0, false) := rfl
  have hnm : nm.size ≤ maxLen := hnm
  rw [hR, bl]
  refine XQ.en Tryz.func73 Tryz.ntmps73 (fun w0 own H V v0 hf => ?_)
  refine G9 rfl (If rfl (fun h => ?_) (fun h => ?_)); {
  have hk : k = 14 := of_decide_eq_true h
  rw [if_pos hk]
  refine G9 rfl (Lk2 (T := T) kvS (a := nm) _ _ (aD _) rfl ba hnm rfl rfl rfl rfl rfl ⟨rfl, rfl⟩ rfl ?_)
  refine G9 rfl (Fe (T := T) rfl rfl)}; {
  rw [if_neg (show ¬ k = 14 from of_decide_eq_false h)]
  refine G9 rfl (If rfl (fun h => ?_) (fun h => ?_)); {
  have hk : k = 2 := of_decide_eq_true h
  rw [if_pos hk]
  cases ho : lkL lg nm with
  | none =>
    refine G9 rfl ?_
    refine Lk2 (T := T) kvS (a := nm) _ false (aD _) (by rw [ho]; rfl) ba hnm rfl rfl rfl rfl rfl ⟨rfl, rfl⟩ rfl ?_
    rw [ho]
    refine G9 rfl (Fe (T := T) rfl rfl)
  | some j =>
    refine G9 rfl ?_
    refine Lk2 (T := T) kvS (a := nm) _ true (aD _) (by rw [ho]; rfl) ba hnm rfl rfl rfl rfl rfl ⟨rfl, rfl⟩ rfl ?_
    rw [ho]
    refine G9 rfl (Lk2 (T := T) kvS (a := nm) _ _ (opt_true _) rfl zeroB hnm rfl rfl rfl rfl rfl ⟨rfl, rfl⟩ rfl ?_)
    refine G9 rfl (Fe (T := T) rfl rfl)}
  {
  rw [if_neg (show ¬ k = 2 from of_decide_eq_false h)]
  refine G9 rfl (Fe (T := T) rfl rfl)}}
abbrev sdD (a0 a1 a2 : D) (lf lg : List (ByteArray × Nat)) (a5 a6 : D) : List D := [a0, a1, a2, mpS lf, mpS lg, a5, a6]
structure CmpD where
  p : Pg
  q : Pg
  la : List ByteArray
  lc : List ByteArray
  d : List D
  a0 : D
  a1 : D
  a2 : D
  a5 : D
  a6 : D
  b0 : D
  b1 : D
  b2 : D
  b5 : D
  b6 : D
  fA : List (ByteArray × Nat)
  gA : List (ByteArray × Nat)
  fC : List (ByteArray × Nat)
  gC : List (ByteArray × Nat)
  mA : List (ByteArray × Unit)
  mC : List (ByteArray × Unit)
  ha : ∀ e, (bF fA gA mA e).2.2 = (au p la e).isSome
  hc : ∀ e, (bF fC gC mC e).2.2 = (au q lc e).isSome
abbrev CmpD.v (c : CmpD) : D := .p [.p (sdD c.a0 c.a1 c.a2 c.fA c.gA c.a5 c.a6), .p (sdD c.b0 c.b1 c.b2 c.fC c.gC c.b5 c.b6), mpL c.mA, mpL c.mC]
theorem jH {p q : Pg} {la lc : List ByteArray} : ∀ l m : List Ex, aW p q la lc l m = eqL (d4 p q la lc) l m
  | [], [] => by rw [aW, eqL]
  | [], _ :: _ => by rw [aW, eqL] <;> simp
  | _ :: _, [] => by rw [aW, eqL] <;> simp
  | x :: r, y :: s => by rw [aW, eqL, jH r s]
theorem nb {p q : Pg} {la lc : List ByteArray} : ∀ l m : List Sm, aH p q la lc l m = eqL (d5 p q la lc) l m
  | [], [] => by rw [aH, eqL]
  | [], _ :: _ => by rw [aH, eqL] <;> simp
  | _ :: _, [] => by rw [aH, eqL] <;> simp
  | x :: r, y :: s => by rw [aH, eqL, nb r s]
theorem ne {p q : Pg} {la lc : List ByteArray} : ∀ l m : List (List Sm), a8 p q la lc l m = eqL (aH p q la lc) l m
  | [], [] => by rw [a8, eqL]
  | [], _ :: _ => by rw [a8, eqL] <;> simp
  | _ :: _, [] => by rw [a8, eqL] <;> simp
  | x :: r, y :: s => by rw [a8, eqL, ne r s]
theorem cmp_expr (c : CmpD) : ∀ (n : Nat) (e f : Ex), e.size ≤ n → e.ok → f.ok → XQ Tryz.prog pk 186 [xm c.v, xd (exD e), xd (exD f)] (xb (d4 c.p c.q c.la c.lc e f)) := by
  intro n
  induction n with
  | zero => intro e f h; have := e.size_pos; omega
  | succ n ih =>
  rintro ⟨k, nm, m, ts⟩ ⟨k', nm', m', ts'⟩ hs ho ho'
  have hsz : (Ex.mk k nm m ts).size = Ex.sizes ts + 1 := rfl
  obtain ⟨h1, h2, h3, h4⟩ := ho
  obtain ⟨g1, g2, g3, g4⟩ := ho'
  have r1 := im (pk := pk) (a0 := c.a0) (a1 := c.a1) (a2 := c.a2) (a5 := c.a5) (a6 := c.a6) (lf := c.fA) (lg := c.gA) (ll := c.mA) (e := .mk k nm m ts) (by show nm.size ≤ _; simp only [maxLen]; omega)
  have r2 := im (pk := pk) (a0 := c.b0) (a1 := c.b1) (a2 := c.b2) (a5 := c.b5) (a6 := c.b6) (lf := c.fC) (lg := c.gC) (ll := c.mC) (e := .mk k' nm' m' ts') (by show nm'.size ≤ _; simp only [maxLen]; omega)
  rw [bl] at r1 r2
  rw [bl, bl]
  refine XQ.en Tryz.func186 Tryz.ntmps186 (fun w0 own H V v0 hf => ?_)
  refine Gs (T := T) 1000 rfl ?_
  refine Cq r1 rfl rfl rfl rfl rfl ⟨rfl, rfl⟩ ?_
  refine Gs (T := T) 1000 rfl ?_
  refine Cq r2 rfl rfl rfl rfl rfl ⟨rfl, rfl⟩ ?_
  rw [c.ha]
  refine Gs (T := T) 1000 rfl ?_
  rw [c.hc]
  refine Eqs Tryz.underlying4 rfl rfl rfl rfl rfl rfl ?_
  refine Gs (T := T) 1000 rfl ?_
  refine Cs (fun _ => (dv pk).2.2.2.1 ts ts' (d4 c.p c.q c.la c.lc) _ [c.v] [] (fun x hx y hy => ih x y (by have := Ex.size_mem hx; omega) (Ex.oks_mem h4 hx) (Ex.oks_mem g4 hy))) rfl rfl rfl rfl rfl rfl rfl rfl ?_
  refine Gs (T := T) 1000 rfl ?_
  refine Fe (T := T) rfl ?_
  rw [d4, jH]
  show xb _ = xb _
  congr 1
  generalize (au c.p c.la (.mk k nm m ts)).isSome = x
  generalize (au c.q c.lc (.mk k' nm' m' ts')).isSome = y
  cases x <;> cases y <;> by_cases h1 : k = k' <;> by_cases h3 : m = m' <;> simp [h1, h3]
theorem gF (c : CmpD) {l m : List Sm} (h : ∀ x ∈ l, ∀ y ∈ m, XQ Tryz.prog pk 125 [xm c.v, xd (smD x), xd (smD y)] (xb (d5 c.p c.q c.la c.lc x y))) :
    XQ Tryz.prog pk 77 [xm c.v, xr (l.map smD), xr (m.map smD)] (xb (aH c.p c.q c.la c.lc l m)) := by
  refine XQ.en Tryz.func77 Tryz.ntmps77 (fun w0 own H V v0 hf => ?_)
  refine G9 rfl (Cq ((dv pk).2.2.1 l m (d5 c.p c.q c.la c.lc) _ [c.v] [] h) rfl rfl rfl rfl rfl ⟨rfl, rfl⟩ ?_)
  refine G9 rfl ?_
  exact Fe (T := T) rfl (by rw [nb]; rfl)
theorem cmp_stmt (c : CmpD) : ∀ (n : Nat) (e f : Sm), e.size ≤ n → e.ok → f.ok → XQ Tryz.prog pk 125 [xm c.v, xd (smD e), xd (smD f)] (xb (d5 c.p c.q c.la c.lc e f)) := by
  intro n
  induction n with
  | zero => intro e f h; have := e.size_pos; omega
  | succ n ih =>
  rintro ⟨k, nm, ty, m, es, b, el, cs⟩ ⟨k', nm', ty', m', es', b', el', cs'⟩ hs ho ho'
  have hsz : (Sm.mk k nm ty m es b el cs).size = ty.size + Ex.sizes es + Sm.sizes b + Sm.sizes el + Sm.csizes cs + 1 := rfl
  obtain ⟨h1, h2, h3, h4, h5, h6, h7, h8⟩ := ho
  obtain ⟨g1, g2, g3, g4, g5, g6, g7, g8⟩ := ho'
  rw [be, be]
  refine XQ.en Tryz.func125 Tryz.ntmps125 (fun w0 own H V v0 hf => ?_)
  refine Gs (T := T) 1000 rfl ?_
  refine Cs (fun _ => fg _ ty ty' (Nat.le_refl _)) rfl rfl rfl rfl rfl rfl rfl rfl ?_
  refine Gs (T := T) 1000 rfl ?_
  refine Cs (fun _ => (dv pk).2.2.2.1 es es' (d4 c.p c.q c.la c.lc) _ [c.v] [] (fun x hx y hy => cmp_expr c _ x y (Nat.le_refl _) (Ex.oks_mem h5 hx) (Ex.oks_mem g5 hy))) rfl rfl rfl rfl rfl rfl rfl rfl ?_
  refine Gs (T := T) 1000 rfl ?_
  refine Cs (fun _ => gF c (l := b) (m := b') (fun x hx y hy => ih x y (by have := Sm.size_mem hx; omega) (Sm.oks_mem h6 hx) (Sm.oks_mem g6 hy))) rfl rfl rfl rfl rfl rfl rfl rfl ?_
  refine Gs (T := T) 1000 rfl ?_
  refine Cs (fun _ => gF c (l := el) (m := el') (fun x hx y hy => ih x y (by have := Sm.size_mem hx; omega) (Sm.oks_mem h7 hx) (Sm.oks_mem g7 hy))) rfl rfl rfl rfl rfl rfl rfl rfl ?_
  refine Gs (T := T) 1000 rfl ?_
  refine Cs (fun _ => (dv pk).2.2.2.2 cs cs' (aH c.p c.q c.la c.lc) _ [c.v] [] (fun x hx y hy => gF c (fun u hu v hv => ih u v (by have := Sm.size_mem hu; have := Sm.csize_mem hx; omega) (Sm.oks_mem (Sm.okc_mem h8 hx) hu) (Sm.oks_mem (Sm.okc_mem g8 hy) hv)))) rfl rfl rfl rfl rfl rfl rfl rfl ?_
  refine Gs (T := T) 1000 rfl ?_
  refine Fe (T := T) rfl ?_
  rw [d5, jH, ne]
  show xb _ = xb _
  congr 1
  by_cases h1 : k = k' <;> by_cases h2 : nm = nm' <;> by_cases h3 : m = m' <;> simp [h1, h2, h3]
end
section
open Go Go.RowKit Go.Proofs K
variable {pk : Pk}
theorem fV : ∀ a b : List Sm, am (a ++ b) = am a ++ am b
  | [], b => rfl
  | x :: r, b => by rw [List.cons_append, am, fV r b, am, List.append_assoc]
theorem fW : ∀ a b : List Ex, aF (a ++ b) = aF a ++ aF b
  | [], b => rfl
  | x :: r, b => by rw [List.cons_append, aF, fW r b, aF, List.append_assoc]
theorem fX : ∀ a b : List (List Sm), aP (a ++ b) = aP a ++ aP b
  | [], b => rfl
  | x :: r, b => by rw [List.cons_append, aP, fX r b, aP, List.append_assoc]
theorem az {α : Type} {l : List α} {j : Nat} {y : α} (h : l[j]? = some y) : l.take (j + 1) = l.take j ++ [y] := by
  rw [List.take_succ, h]; rfl
def run {σ : Type} (st : σ → Sm ⊕ Ex → σ) (s : σ) (l : List (Sm ⊕ Ex)) : σ := l.foldl st s
abbrev dp (l : List Ex) : List (Sm ⊕ Ex) := l.map .inr
structure RunI {σ : Type} (st : σ → Sm ⊕ Ex → σ) (I : Nat → σ → Prop) : Prop where
  step : ∀ c s e, I (c + 1) s → I c (st s e)
section
variable {σ : Type} {st : σ → Sm ⊕ Ex → σ} {I : Nat → σ → Prop} {c : Nat} {s : σ}
theorem dK (a b : List (Sm ⊕ Ex)) : run st s (a ++ b) = run st (run st s a) b := List.foldl_append ..
theorem RunI.run (h : RunI st I) : ∀ {l : List (Sm ⊕ Ex)} {s : σ}, I (c + l.length) s → I c (run st s l)
  | [], _, hi => hi
  | e :: l, s, hi => RunI.run h (l := l) (h.step _ _ e hi)
theorem ku {α : Type} {l : List α} {j : Nat} {y : α} (hy : l[j]? = some y) : l.drop j = y :: l.drop (j + 1) := by
  obtain ⟨h, rfl⟩ := List.getElem?_eq_some_iff.1 hy
  exact List.drop_eq_getElem_cons h
theorem RunI.es (h : RunI st I) {es ks : List Ex} {j : Nat} {k n : Int} {nm : ByteArray} (hy : es[j]? = some (.mk k nm n ks)) (hi : I (c + (aF es).length) s) :
    I (c + (aF (es.drop (j + 1))).length + (aF ks).length + 1) (X.run st s (dp (aF (es.take j)))) ∧ X.run st (st (X.run st s (dp (aF (es.take j)))) (.inr (.mk k nm n ks))) (dp (aF ks)) = X.run st s (dp (aF (es.take (j + 1)))) := by
  have e1 : aF es = aF (es.take j) ++ (.mk k nm n ks :: (aF ks ++ aF (es.drop (j + 1)))) := by
    conv => lhs; rw [← List.take_append_drop j es]
    rw [fW, ku hy, aF, evE]; rfl
  constructor; {
  refine h.run ?_
  rw [e1] at hi
  simp only [List.length_append, List.length_cons, List.length_map] at hi ⊢
  have : c + (aF (es.drop (j + 1))).length + (aF ks).length + 1 + (aF (es.take j)).length = c + ((aF (es.take j)).length + ((aF ks).length + (aF (es.drop (j + 1))).length + 1)) := by omega
  rw [this]; exact hi}; {
  have e2 : aF [(.mk k nm n ks : Ex)] = .mk k nm n ks :: aF ks := by rw [aF, evE, show aF ([] : List Ex) = [] from rfl, List.append_nil]
  rw [az hy, fW, e2]
  simp [X.run, dp]}
theorem RunI.ss (h : RunI st I) {ss : List Sm} {j : Nat} {y : Sm} (hy : ss[j]? = some y) (hi : I (c + (am ss).length) s) :
    I (c + (am (ss.drop (j + 1))).length + (evS y).length) (X.run st s (am (ss.take j))) ∧ X.run st (X.run st s (am (ss.take j))) (evS y) = X.run st s (am (ss.take (j + 1))) := by
  have e1 : am ss = am (ss.take j) ++ (evS y ++ am (ss.drop (j + 1))) := by
    conv => lhs; rw [← List.take_append_drop j ss]
    rw [fV, ku hy, am]
  constructor; {
  refine h.run ?_
  rw [e1] at hi
  simp only [List.length_append] at hi ⊢
  have : c + (am (ss.drop (j + 1))).length + (evS y).length + (am (ss.take j)).length = c + ((am (ss.take j)).length + ((evS y).length + (am (ss.drop (j + 1))).length)) := by omega
  rw [this]; exact hi}; {
  rw [az hy, fV, dK, am, show am ([] : List Sm) = [] from rfl, List.append_nil]}
theorem RunI.cs (h : RunI st I) {ss : List (List Sm)} {j : Nat} {y : List Sm} (hy : ss[j]? = some y) (hi : I (c + (aP ss).length) s) :
    I (c + (aP (ss.drop (j + 1))).length + (am y).length) (X.run st s (aP (ss.take j))) ∧ X.run st (X.run st s (aP (ss.take j))) (am y) = X.run st s (aP (ss.take (j + 1))) := by
  have e1 : aP ss = aP (ss.take j) ++ (am y ++ aP (ss.drop (j + 1))) := by
    conv => lhs; rw [← List.take_append_drop j ss]
    rw [fX, ku hy, aP]
  constructor; {
  refine h.run ?_
  rw [e1] at hi
  simp only [List.length_append] at hi ⊢
  have : c + (aP (ss.drop (j + 1))).length + (am y).length + (aP (ss.take j)).length = c + ((aP (ss.take j)).length + ((am y).length + (aP (ss.drop (j + 1))).length)) := by omega
  rw [this]; exact hi}; {
  rw [az hy, fX, dK, aP, show aP ([] : List (List Sm)) = [] from rfl, List.append_nil]}
theorem RunI.sm (h : RunI st I) {k n : Int} {nm : ByteArray} {t : Ty4} {es : List Ex} {b el : List Sm} {cs : List (List Sm)} (hi : I (c + (evS (.mk k nm t n es b el cs)).length) s) :
    let s1 := st s (.inl (.mk k nm t n es b el cs))
    let s2 := X.run st s1 (dp (aF es))
    let s3 := X.run st s2 (am b)
    let s4 := X.run st s3 (aP cs)
    I (c + (am el).length + (aP cs).length + (am b).length + (aF es).length + 1) s ∧ I (c + (am el).length + (aP cs).length + (am b).length + (aF es).length) s1 ∧ I (c + (am el).length + (aP cs).length + (am b).length) s2 ∧ I (c + (am el).length + (aP cs).length) s3 ∧ I (c + (am el).length) s4 ∧ X.run st s (evS (.mk k nm t n es b el cs)) = X.run st s4 (am el) := by
  intro s1 s2 s3 s4
  have e1 : (evS (.mk k nm t n es b el cs)).length = (am el).length + (aP cs).length + (am b).length + (aF es).length + 1 := by
    rw [evS]; simp only [List.length_cons, List.length_append, List.length_map]; omega
  have i0 : I (c + (am el).length + (aP cs).length + (am b).length + (aF es).length + 1) s := by
    rw [e1] at hi
    simpa [Nat.add_assoc] using hi
  have i1 := h.step _ _ (.inl (.mk k nm t n es b el cs)) i0
  have i2 : I (c + (am el).length + (aP cs).length + (am b).length) s2 := h.run (by simpa using i1)
  have i3 : I (c + (am el).length + (aP cs).length) s3 := h.run i2
  have i4 : I (c + (am el).length) s4 := h.run i3
  refine ⟨i0, i1, i2, i3, i4, ?_⟩
  rw [evS]
  show X.run st (st s _) _ = _
  rw [dK, dK, dK]
end
def cM (l : List (ByteArray × Unit)) : Sm ⊕ Ex → List (ByteArray × Unit)
  | .inl s => if smK s = 1 then ptL l (fN s) () else l
  | .inr _ => l
abbrev ip (l : List (ByteArray × Unit)) : XH := [⟨0, 0, .cells [.m 1 0] 156⟩, ⟨1, 0, .mp (ML kvS 4 c5 l)⟩]
theorem locals_1 {s : Sm} {l : List (ByteArray × Unit)} (hs : s.ok) (hl : l.length < 1000000000000000) : XM Tryz.prog pk 120 [xd (smD s), .a (.c (.p 0 0 0))] (ip l) 2 2 (fun r hp' => r = .t [] ∧ hp' = ip (cM l (.inl s))) := by
  obtain ⟨k, nm, ty, n, es, b, el, cs⟩ := s
  have e : cM l (.inl (.mk k nm ty n es b el cs)) = if k = 1 then ptL l nm () else l := rfl
  obtain ⟨h1, h2, _⟩ := hs
  rw [be, e]
  refine XM.en Tryz.func120 Tryz.ntmps120 (fun w0 own H V v0 hf => ?_)
  refine G9 rfl (If rfl (fun h => ?_) (fun h => ?_)); {
  rw [if_pos (show k = 1 from of_decide_eq_true h)]
  refine G9 rfl ?_
  refine Stm (T := T) kvS (a := nm) () (by show nm.size ≤ _; simp only [maxLen]; omega) (by simp only [maxLen]; omega) rfl rfl rfl rfl rfl rfl rfl rfl rfl ⟨rfl, rfl⟩ ?_
  refine G9 rfl (Fm (T := T) (fun g => g) (.t []) _ ⟨rfl, rfl⟩ rfl)}; {
  rw [if_neg (show ¬ k = 1 from of_decide_eq_false h)]
  refine G9 rfl (Fm (T := T) (fun g => g) (.t []) _ ⟨rfl, rfl⟩ rfl)}
theorem locals_2 {e : Ex} : XQ Tryz.prog pk 121 [xd (exD e)] (.t []) := by
  refine XQ.en Tryz.func121 Tryz.ntmps121 (fun w0 own H V v0 hf => ?_)
  refine G9 rfl (Fe (T := T) rfl rfl)
end
section
open Go Go.RowKit Go.Proofs K
variable {pk : Pk}
def locI (c : Nat) (l : List (ByteArray × Unit)) : Prop := l.length + c ≤ 1000000000000
theorem loc_len {c : Nat} {l : List (ByteArray × Unit)} (h : locI c l) : l.length < 1000000000000000 := by unfold locI at h; omega
theorem loc_run : RunI cM locI := ⟨fun c s e h => by
  unfold locI at *
  cases e with
  | inl y =>
    unfold cM
    dsimp only
    split
    · rw [df]; split <;> omega
    · omega
  | inr y => exact Nat.le_trans (Nat.add_le_add_left (Nat.le_succ c) _) h⟩
theorem loc_v1 : ∀ (n : Nat) (es : List Ex) (c : Nat) (s : List (ByteArray × Unit)), Ex.sizes es ≤ n → Ex.oks es → locI (c + (aF es).length) s → XM Tryz.prog pk 122 [xr (es.map exD), .a (.c (.p 2 0 0)), .a (.c (.p 3 0 0))] (ip s ++ [⟨2, 0, .cells [.d (.f 121 [] [])] 162⟩, ⟨3, 0, .cells [.f 122 [] [.p 2 0 0, .p 3 0 0]] 222⟩]) 4 4 (fun r hp' => r = .t [] ∧ hp' = ip (X.run cM s (dp (aF es))) ++ [⟨2, 0, .cells [.d (.f 121 [] [])] 162⟩, ⟨3, 0, .cells [.f 122 [] [.p 2 0 0, .p 3 0 0]] 222⟩]) := by
  intro n
  induction n using Nat.strongRecOn with
  | _ n ih =>
  intro es c s hs ho hi
  refine XM.en Tryz.func122 Tryz.ntmps122 (fun w0 own H V v0 hf => ?_)
  refine Ln 0 rfl (fun hl => ?_); rw [List.length_map] at hl
  refine G9 rfl (Lq [0, 1, 2, 6, 7] (fun (q : Nat) r => (8, xi (q : Nat)) :: r) (fun q => ip (X.run cM s (dp (aF (es.take q)))) ++ [⟨2, 0, .cells [.d (.f 121 [] [])] 162⟩, ⟨3, 0, .cells [.f 122 [] [.p 2 0 0, .p 3 0 0]] 222⟩]) 4 (fun q => q ≤ es.length) (fun q => es.length - q) 0 rfl (Nat.zero_le _) ?_)
  intro j hj
  refine G9 rfl (If rfl (fun h => ?_) (fun h => ?_)); {
  have hjl := of_decide_eq_true h; rw [List.length_map] at hjl
  obtain ⟨⟨k, nm, m, ks⟩, hy⟩ := ai (l := es) (j := j) (by omega)
  obtain ⟨i1, e1⟩ := loc_run.es hy hi
  have i2 := loc_run.step _ _ (.inr (.mk k nm m ks)) i1
  have hmem := List.mem_of_getElem? hy
  have hok := Ex.oks_mem ho hmem
  have hsz : Ex.sizes ks + 1 ≤ Ex.sizes es := Ex.size_mem hmem
  have hx : (es.map exD)[j]? = some [.c (.int .i64 k), .c (.string nm), .c (.int .u16 m), .s (ks.map exD)] := by rw [← bl]; exact ab hy
  generalize hS : X.run cM s (dp (aF (es.take j))) = S at i1 i2 e1 ⊢
  refine G9 rfl (Ix (T := T) j hx rfl rfl rfl rfl ⟨rfl, rfl⟩ rfl rfl ?_)
  refine G9 rfl ?_
  have hE := locals_2 (pk := pk) (e := .mk k nm m ks); rw [bl] at hE
  refine Cv (show XQ _ _ _ (cs9 [] [] [_]) _ from hE) rfl rfl rfl rfl rfl ⟨rfl, rfl⟩ ?_
  refine G9 rfl ?_
  refine Czc [0, 1, 2, 3] (ip (X.run cM s (dp (aF (es.take (j + 1))))) ++ [⟨2, 0, .cells [.d (.f 121 [] [])] 162⟩, ⟨3, 0, .cells [.f 122 [] [.p 2 0 0, .p 3 0 0]] 222⟩]) (ih _ (by omega) ks _ _ (Nat.le_refl _) hok.2.2.2 i2) rfl rfl rfl rfl rfl rfl rfl ⟨⟨rfl, rfl⟩, rfl⟩ (by rw [e1]; rfl) rfl ?_
  refine G9 rfl ?_
  exact Nq (j + 1) (by show j + 1 ≤ es.length; omega) (by show _ - (j + 1) < _ - j; omega)}; {
  have hjl := of_decide_eq_false h; rw [List.length_map] at hjl
  refine G9 rfl ?_
  rw [List.take_of_length_le (by omega)]
  exact Fm (T := T) (fun g => g) (.t []) _ ⟨rfl, rfl⟩ rfl}
theorem loc_visit : ∀ (n : Nat) (ss : List Sm) (c : Nat) (s : List (ByteArray × Unit)), Sm.sizes ss ≤ n → Sm.oks ss → locI (c + (am ss).length) s → XM Tryz.prog pk 70 [xr (ss.map smD), .a (.c (.f 120 [] [.p 0 0 0])), .a (.c (.d (.f 121 [] [])))] (ip s) 2 2 (fun r hp' => r = .t [] ∧ hp' = ip (X.run cM s (am ss))) := by
  intro n
  induction n using Nat.strongRecOn with
  | _ n ih =>
  intro ss c s hs ho hi
  refine XM.en Tryz.func70 Tryz.ntmps70 (fun w0 own H V v0 hf => ?_)
  refine Ln 0 rfl (fun hl => ?_); rw [List.length_map] at hl
  refine G9 rfl (Lq [1, 5, 6, 12, 13] (fun (q : Nat) r => (14, xi (q : Nat)) :: r) (fun q => ip (X.run cM s (am (ss.take q))) ++ [⟨2, 0, .cells [.d (.f 121 [] [])] 162⟩, ⟨3, 0, .cells [.f 122 [] [.p 2 0 0, .p 3 0 0]] 222⟩]) 4 (fun q => q ≤ ss.length) (fun q => ss.length - q) 0 rfl (Nat.zero_le _) ?_)
  intro j hj
  refine G9 rfl (If rfl (fun h => ?_) (fun h => ?_)); {
  have hjl := of_decide_eq_true h; rw [List.length_map] at hjl
  obtain ⟨⟨k, nm, ty, m, es, b, el, cs⟩, hy⟩ := ai (l := ss) (j := j) (by omega)
  obtain ⟨i0, e0⟩ := loc_run.ss hy hi
  obtain ⟨i1, i2, i3, i4, i5, e1⟩ := loc_run.sm i0
  rw [e1] at e0
  have hmem := List.mem_of_getElem? hy
  have hok := Sm.oks_mem ho hmem
  obtain ⟨o1, o2, o3, o4, o5, o6, o7, o8⟩ := hok
  have hsz : ty.size + Ex.sizes es + Sm.sizes b + Sm.sizes el + Sm.csizes cs + 1 ≤ Sm.sizes ss := Sm.size_mem hmem
  have hx : (ss.map smD)[j]? = some [.c (.int .i64 k), .c (.string nm), .c (.int .i64 (tk ty)), .c (.string (tnm ty)), .c (.int .i64 (tn ty)), .s (tyS ty), .c (.int .u16 m), .s (es.map exD), .s (b.map smD), .s (el.map smD), .s (cs.map blD)] := by rw [← be]; exact ab hy
  generalize hS : X.run cM s (am (ss.take j)) = S at i1 i2 i3 i4 i5 e0 ⊢
  refine G9 rfl (Ix (T := T) j hx rfl rfl rfl rfl ⟨rfl, rfl⟩ rfl rfl ?_)
  refine G (T := T) 100006 rfl ?_
  refine (FzTo.bz 4 rfl).c ?_
  refine G9 rfl ?_
  have hC := locals_1 (pk := pk) (s := .mk k nm ty m es b el cs) (l := S) ⟨o1, o2, o3, o4, o5, o6, o7, o8⟩ (loc_len i1); rw [be] at hC
  refine Czc [0, 1] (ip (cM S (.inl (.mk k nm ty m es b el cs)))) hC rfl rfl rfl rfl rfl rfl rfl ⟨⟨rfl, rfl⟩, rfl⟩ rfl rfl ?_
  refine G9 rfl (Czc [0, 1, 2, 3] (ip (X.run cM (cM S (.inl (.mk k nm ty m es b el cs))) (dp (aF es))) ++ [⟨2, 0, .cells [.d (.f 121 [] [])] 162⟩, ⟨3, 0, .cells [.f 122 [] [.p 2 0 0, .p 3 0 0]] 222⟩]) (loc_v1 _ es _ _ (Nat.le_refl _) o5 i2) rfl rfl rfl rfl rfl rfl rfl ⟨⟨rfl, rfl⟩, rfl⟩ rfl rfl ?_)
  refine G9 rfl ?_
  generalize hS2 : X.run cM (cM S (.inl (.mk k nm ty m es b el cs))) (dp (aF es)) = S2 at i3 i4 i5 e0 ⊢
  refine Czc [0, 1] (ip (X.run cM S2 (am b))) (ih _ (by omega) b _ _ (Nat.le_refl _) o6 i3) rfl rfl rfl rfl rfl rfl rfl ⟨⟨rfl, rfl⟩, rfl⟩ rfl rfl ?_
  refine G9 rfl ?_
  generalize hS3 : X.run cM S2 (am b) = S3 at i4 i5 e0 ⊢
  refine Ln 31 rfl (fun hl2 => ?_); rw [List.length_map] at hl2
  refine Lq [1, 5, 6, 8, 12, 13, 14, 31, 32] (fun (q : Nat) r => (33, xi (q : Nat)) :: r) (fun q => ip (X.run cM S3 (aP (cs.take q))) ++ [⟨2, 0, .cells [.d (.f 121 [] [])] 162⟩, ⟨3, 0, .cells [.f 122 [] [.p 2 0 0, .p 3 0 0]] 222⟩]) 4 (fun q => q ≤ cs.length) (fun q => cs.length - q) 0 rfl (Nat.zero_le _) ?_
  intro q hq
  refine G9 rfl (If rfl (fun h => ?_) (fun h => ?_)); {
  have hql := of_decide_eq_true h; rw [List.length_map] at hql
  obtain ⟨y, hy2⟩ := ai (l := cs) (j := q) (by omega)
  obtain ⟨i6, e6⟩ := loc_run.cs hy2 i4
  have hmem2 := List.mem_of_getElem? hy2
  have hsz2 := Sm.csize_mem hmem2
  refine G9 rfl (Ix (T := T) q (ab hy2) rfl rfl rfl rfl ⟨rfl, rfl⟩ rfl rfl ?_)
  refine G9 rfl ?_
  refine Czc [0, 1] (ip (X.run cM S3 (aP (cs.take (q + 1))))) (ih _ (by omega) y _ _ (Nat.le_refl _) (Sm.okc_mem o8 hmem2) i6) rfl rfl rfl rfl rfl rfl rfl ⟨⟨rfl, rfl⟩, rfl⟩ (by rw [e6]; rfl) rfl ?_
  refine G9 rfl ?_
  exact Nq (q + 1) (by show q + 1 ≤ cs.length; omega) (by show _ - (q + 1) < _ - q; omega)}; {
  have hql := of_decide_eq_false h; rw [List.length_map] at hql
  rw [List.take_of_length_le (show cs.length ≤ q by omega)]
  refine G9 rfl ?_
  refine Czc [0, 1] (ip (X.run cM s (am (ss.take (j + 1))))) (ih _ (by omega) el _ _ (Nat.le_refl _) o7 i5) rfl rfl rfl rfl rfl rfl rfl ⟨⟨rfl, rfl⟩, rfl⟩ (by rw [← e0]; rfl) rfl ?_
  refine G9 rfl ?_
  exact Nq (j + 1) (by show j + 1 ≤ ss.length; omega) (by show _ - (j + 1) < _ - j; omega)}}; {
  have hjl := of_decide_eq_false h; rw [List.length_map] at hjl
  refine G9 rfl ?_
  rw [List.take_of_length_le (by omega)]
  exact Fm (T := T) (fun g => g) (.t []) _ ⟨rfl, rfl⟩ rfl}
end
section
open Go Go.RowKit Go.Proofs K
variable {pk : Pk}
mutual
theorem evE_len : ∀ e : Ex, (evE e).length ≤ e.size
  | .mk k nm n ks => by
    have := lC ks
    rw [evE, List.length_cons, show (Ex.mk k nm n ks).size = Ex.sizes ks + 1 from rfl]; omega
theorem lC : ∀ l : List Ex, (aF l).length ≤ Ex.sizes l
  | [] => Nat.zero_le _
  | e :: r => by
    have := evE_len e
    have := lC r
    rw [aF, List.length_append, show Ex.sizes (e :: r) = e.size + Ex.sizes r from rfl]; omega
end
mutual
theorem evS_len : ∀ e : Sm, (evS e).length ≤ e.size
  | .mk k nm t n es b el cs => by
    have := lC es
    have := cz b
    have := cz el
    have := pM cs
    rw [evS, show (Sm.mk k nm t n es b el cs).size = t.size + Ex.sizes es + Sm.sizes b + Sm.sizes el + Sm.csizes cs + 1 from rfl]
    simp only [List.length_cons, List.length_append, List.length_map]; omega
theorem cz : ∀ l : List Sm, (am l).length ≤ Sm.sizes l
  | [] => Nat.zero_le _
  | e :: r => by
    have := evS_len e
    have := cz r
    rw [am, List.length_append, show Sm.sizes (e :: r) = e.size + Sm.sizes r from rfl]; omega
theorem pM : ∀ l : List (List Sm), (aP l).length ≤ Sm.csizes l
  | [] => Nat.zero_le _
  | e :: r => by
    have := cz e
    have := pM r
    rw [aP, List.length_append, show Sm.csizes (e :: r) = Sm.sizes e + 1 + Sm.csizes r from rfl]; omega
end
def parL (l : List Par) : List (ByteArray × Unit) := l.foldl (fun l p => ptL l p.nm ()) []
def ee (f : Fu) : List (ByteArray × Unit) := X.run cM (parL f.ps) (am f.body)
theorem parL_snoc {l : List Par} {j : Nat} {y : Par} (h : l[j]? = some y) : parL (l.take (j + 1)) = ptL (parL (l.take j)) y.nm () := by
  rw [az h, parL, List.foldl_append]; rfl
theorem foldl_len (l : List Par) : ∀ m : List (ByteArray × Unit), (l.foldl (fun l p => ptL l p.nm ()) m).length ≤ m.length + l.length := by
  induction l with
  | nil => intro m; exact Nat.le_refl _
  | cons p r ih =>
    intro m
    have h1 := ih (ptL m p.nm ())
    have h2 := df m p.nm ()
    rw [List.foldl_cons, List.length_cons]
    split at h2 <;> omega
theorem pN (l : List Par) : (parL l).length ≤ l.length := by have := foldl_len l []; simpa [parL] using this
theorem fh {f : Fu} {B : Nat} (hf : f.ok B) (hB : B ≤ 100000000000) : XQ Tryz.prog pk 69 [xd (fuD f)] (xm (mpL (ee f))) := by
  obtain ⟨f1, f2, f3, f4, f5, f6, f7, f8, f9⟩ := hf
  have l1 : (f.ps.map paD).length = f.ps.length := List.length_map ..
  refine XQ.en Tryz.func69 Tryz.ntmps69 (fun w0 own H V v0 hf => ?_)
  refine G (T := T) 100001 rfl ?_
  refine (FzTo.bz 0 rfl).c ?_
  refine G9 rfl (Mm (ML kvS 4 c5 []) ML.nil ⟨rfl, rfl⟩ ?_)
  refine G9 rfl (Lq [1, 3, 8, 9] (fun (q : Nat) r => (10, xi (q : Nat)) :: r) (fun q => [⟨2, 0, .cells [.m 1 0] 156⟩, ⟨1, 0, .mp (ML kvS 4 c5 (parL (f.ps.take q)))⟩]) 3 (fun q => q ≤ f.ps.length) (fun q => f.ps.length - q) 0 rfl (Nat.zero_le _) ?_)
  intro j hj
  refine G9 rfl (If rfl (fun h => ?_) (fun h => ?_)); {
  have hjl := of_decide_eq_true h; rw [l1] at hjl
  obtain ⟨y, hy⟩ := ai (l := f.ps) (j := j) (by omega)
  have h9 := (f3 y (List.mem_of_getElem? hy)).1
  have h8 := pN (f.ps.take j)
  rw [List.length_take] at h8
  refine G9 rfl (Ix (T := T) j (ab hy) rfl rfl rfl rfl ⟨rfl, rfl⟩ rfl rfl ?_)
  refine G9 rfl ?_
  refine Stm (T := T) kvS (a := y.nm) () (by show y.nm.size ≤ _; simp only [maxLen]; omega) (by simp only [maxLen]; omega) rfl rfl rfl rfl rfl rfl rfl rfl rfl ⟨rfl, rfl⟩ ?_
  rw [← parL_snoc hy]
  refine G9 rfl ?_
  exact Nq (j + 1) (by show j + 1 ≤ _; omega) (by show _ - (j + 1) < _ - j; omega)}; {
  have hjl := of_decide_eq_false h; rw [l1] at hjl
  have h8 := pN f.ps
  have h7 := cz f.body
  rw [List.take_of_length_le (by omega)]
  refine G9 rfl ?_
  refine Czc [2, 1] [⟨2, 0, .cells [.m 1 0] 156⟩, ⟨1, 0, .mp (ML kvS 4 c5 (ee f))⟩] (loc_visit _ f.body 0 (parL f.ps) (Nat.le_refl _) f6 (by unfold locI; omega)) rfl rfl rfl rfl rfl rfl rfl ⟨⟨rfl, rfl⟩, rfl⟩ rfl rfl ?_
  refine G9 rfl ((FzTo.mz 1 rfl).e ?_)
  exact Fe (T := T) rfl rfl}
end
structure SdP where
  a0 : D
  a1 : D
  a2 : D
  lf : List (ByteArray × Nat)
  lg : List (ByteArray × Nat)
def rfD (r : Rf) : List D := [.c (.bool r.1), .c (.int .i64 (r.2 : Nat))]
abbrev refB0 (sd : SdP) (ll : List (ByteArray × Unit)) (m : Nat) (rs : List (List D)) (v n : Nat) (R : List (List D)) : XH := [⟨0, 0, .cells [.p 1 0 0] 100⟩, ⟨1, 0, .cells [.d sd.a0, .d sd.a1, .d sd.a2, .d (mpS sd.lf), .d (mpS sd.lg), .l 5 0 1 0 m m, .m 6 0] 111⟩, ⟨2, 0, .cells [.d (mpL ll)] 156⟩, ⟨3, 0, .cells [.l 4 v 2 0 n n] 155⟩, ⟨4, v, .row n R 115 2⟩, ⟨5, 0, .row m rs 155 1⟩, ⟨6, 0, .mp (ML kvR 3 aV [])⟩]
abbrev gM (sd : SdP) (ll : List (ByteArray × Unit)) (m : Nat) (rs : List (List D)) (v : Nat) (s : List Rf) : XH := refB0 sd ll m rs v s.length (s.map rfD)
def dg (sd : SdP) (ll : List (ByteArray × Unit)) (s : List Rf) : Sm ⊕ Ex → List Rf
  | .inl _ => s
  | .inr e => if (bF sd.lf sd.lg ll e).2.2 then s ++ [((bF sd.lf sd.lg ll e).1, (bF sd.lf sd.lg ll e).2.1)] else s
def refI (c : Nat) (s : List Rf) : Prop := s.length + c ≤ 1000000000000
theorem ref_run {sd : SdP} {ll : List (ByteArray × Unit)} : RunI (dg sd ll) refI := ⟨fun c s e h => by
  unfold refI at *
  cases e with
  | inl y => exact Nat.le_trans (Nat.add_le_add_left (Nat.le_succ c) _) h
  | inr y =>
    unfold dg
    dsimp only
    split
    · rw [List.length_append, List.length_singleton]; omega
    · omega⟩
theorem ref_len {c : Nat} {s : List Rf} (h : refI (c + 1) s) : s.length ≤ 1000000000000 := by unfold refI at h; omega
theorem side_1 {pk : Pk} {e : Sm} : XQ Tryz.prog pk 71 [xd (smD e)] (.t []) := by
  refine XQ.en Tryz.func71 Tryz.ntmps71 (fun w0 own H V v0 hf => ?_)
  refine G9 rfl (Fe (T := T) rfl rfl)
theorem side_2 {sd : SdP} {ll : List (ByteArray × Unit)} {m : Nat} {rs : List (List D)} {s : List Rf} {y : Ex} (ho : y.ok) (hl : s.length ≤ 1000000000000) : XM Tryz.prog pk0 72 [xd (exD y), .a (.c (.p 0 0 0)), .a (.c (.p 2 0 0)), .a (.c (.p 3 0 0))] (gM sd ll m rs 0 s) 7 7 (fun r hp' => r = .t [] ∧ hp' = gM sd ll m rs 1 (dg sd ll s (.inr y))) := by
  obtain ⟨k, nm, n, ks⟩ := y
  obtain ⟨h1, h2, h3, _⟩ := ho
  have hr := im (pk := pk0) (a0 := sd.a0) (a1 := sd.a1) (a2 := sd.a2) (a5 := .s rs) (a6 := .mp (fun _ => ML kvR 3 aV [])) (lf := sd.lf) (lg := sd.lg) (ll := ll) (e := .mk k nm n ks) (by show nm.size ≤ _; simp only [maxLen]; omega)
  have e0 : dg sd ll s (.inr (.mk k nm n ks)) = if (bF sd.lf sd.lg ll (.mk k nm n ks)).2.2 then s ++ [((bF sd.lf sd.lg ll (.mk k nm n ks)).1, (bF sd.lf sd.lg ll (.mk k nm n ks)).2.1)] else s := rfl
  rw [e0]
  generalize bF sd.lf sd.lg ll (.mk k nm n ks) = R at hr ⊢
  obtain ⟨b, i, f⟩ := R
  rw [bl] at hr ⊢
  refine XM.en Tryz.func72 Tryz.ntmps72 (fun w0 own H V v0 hf => ?_)
  refine G9 rfl (Bw [1, 5, 6] hr (fun h => h) rfl rfl rfl rfl rfl rfl rfl ⟨⟨rfl, rfl⟩, rfl⟩ rfl ?_)
  refine G9 rfl ?_
  have hlen : (s.map rfD).length = s.length := List.length_map ..
  refine If rfl (fun h => ?_) (fun h => ?_); {
  rw [if_pos h]
  refine G9 rfl ?_
  exact Fm (T := T) (fun g => g) (.t []) (refB0 sd ll m rs 1 (s.length + 1) (s.map rfD ++ [rfD (b, i)])) ⟨rfl, by rw [gM, List.length_append, List.map_append]; rfl⟩ rfl}; {
  rw [if_neg (by rw [h]; simp)]
  refine G9 rfl (Fm (T := T) (fun g => g) (.t []) _ ⟨rfl, rfl⟩ rfl)}
theorem ref_v1 {sd : SdP} {ll : List (ByteArray × Unit)} {mm : Nat} {rs : List (List D)} : ∀ (n : Nat) (es : List Ex) (c : Nat) (s : List Rf), Ex.sizes es ≤ n → Ex.oks es → refI (c + (aF es).length) s → XM Tryz.prog pk0 122 [xr (es.map exD), .a (.c (.p 7 0 0)), .a (.c (.p 8 0 0))] (gM sd ll mm rs 0 s ++ [⟨7, 0, .cells [.f 72 [] [.p 0 0 0, .p 2 0 0, .p 3 0 0]] 162⟩, ⟨8, 0, .cells [.f 122 [] [.p 7 0 0, .p 8 0 0]] 222⟩]) 9 9 (fun r hp' => r = .t [] ∧ hp' = gM sd ll mm rs 1 (X.run (dg sd ll) s (dp (aF es))) ++ [⟨7, 0, .cells [.f 72 [] [.p 0 0 0, .p 2 0 0, .p 3 0 0]] 162⟩, ⟨8, 0, .cells [.f 122 [] [.p 7 0 0, .p 8 0 0]] 222⟩]) := by
  intro n
  induction n using Nat.strongRecOn with
  | _ n ih =>
  intro es c s hs ho hi
  refine XM.en Tryz.func122 Tryz.ntmps122 (fun w0 own H V v0 hf => ?_)
  refine Ln 0 rfl (fun hl => ?_); rw [List.length_map] at hl
  refine G9 rfl (Lq [0, 1, 2, 6, 7] (fun (q : Nat) r => (8, xi (q : Nat)) :: r) (fun q => gM sd ll mm rs 1 (X.run (dg sd ll) s (dp (aF (es.take q)))) ++ [⟨7, 0, .cells [.f 72 [] [.p 0 0 0, .p 2 0 0, .p 3 0 0]] 162⟩, ⟨8, 0, .cells [.f 122 [] [.p 7 0 0, .p 8 0 0]] 222⟩]) 9 (fun q => q ≤ es.length) (fun q => es.length - q) 0 rfl (Nat.zero_le _) ?_)
  intro j hj
  refine G9 rfl (If rfl (fun h => ?_) (fun h => ?_)); {
  have hjl := of_decide_eq_true h; rw [List.length_map] at hjl
  obtain ⟨⟨k, nm, m, ks⟩, hy⟩ := ai (l := es) (j := j) (by omega)
  obtain ⟨i1, e1⟩ := (ref_run (sd := sd) (ll := ll)).es hy hi
  have i2 := (ref_run (sd := sd) (ll := ll)).step _ _ (.inr (.mk k nm m ks)) i1
  have hmem := List.mem_of_getElem? hy
  have hok := Ex.oks_mem ho hmem
  have hsz : Ex.sizes ks + 1 ≤ Ex.sizes es := Ex.size_mem hmem
  have hx : (es.map exD)[j]? = some [.c (.int .i64 k), .c (.string nm), .c (.int .u16 m), .s (ks.map exD)] := by rw [← bl]; exact ab hy
  generalize hS : X.run (dg sd ll) s (dp (aF (es.take j))) = S at i1 i2 e1 ⊢
  refine G9 rfl (Ix (T := T) j hx rfl rfl rfl rfl ⟨rfl, rfl⟩ rfl rfl ?_)
  refine G9 rfl ?_
  have hE := side_2 (sd := sd) (ll := ll) (m := mm) (rs := rs) (s := S) hok (ref_len i1); rw [bl] at hE
  refine Czc [0, 1, 2, 3, 4, 5, 6] (gM sd ll mm rs 2 (dg sd ll S (.inr (.mk k nm m ks)))) hE rfl rfl rfl rfl rfl rfl rfl ⟨⟨rfl, rfl⟩, rfl⟩ rfl rfl ?_
  refine G9 rfl ?_
  refine Czc [0, 1, 2, 3, 4, 5, 6, 7, 8] (gM sd ll mm rs 3 (X.run (dg sd ll) s (dp (aF (es.take (j + 1))))) ++ [⟨7, 0, .cells [.f 72 [] [.p 0 0 0, .p 2 0 0, .p 3 0 0]] 162⟩, ⟨8, 0, .cells [.f 122 [] [.p 7 0 0, .p 8 0 0]] 222⟩]) (ih _ (by omega) ks _ _ (Nat.le_refl _) hok.2.2.2 i2) rfl rfl rfl rfl rfl rfl rfl ⟨⟨rfl, rfl⟩, rfl⟩ (by rw [e1]; rfl) rfl ?_
  refine G9 rfl ?_
  exact Nq (j + 1) (by show j + 1 ≤ es.length; omega) (by show _ - (j + 1) < _ - j; omega)}; {
  have hjl := of_decide_eq_false h; rw [List.length_map] at hjl
  refine G9 rfl ?_
  rw [List.take_of_length_le (by omega)]
  exact Fm (T := T) (fun g => g) (.t []) _ ⟨rfl, rfl⟩ rfl}
theorem ref_visit {sd : SdP} {ll : List (ByteArray × Unit)} {mm : Nat} {rs : List (List D)} : ∀ (n : Nat) (ss : List Sm) (c : Nat) (s : List Rf), Sm.sizes ss ≤ n → Sm.oks ss → refI (c + (am ss).length) s → XM Tryz.prog pk0 70 [xr (ss.map smD), .a (.c (.d (.f 71 [] []))), .a (.c (.f 72 [] [.p 0 0 0, .p 2 0 0, .p 3 0 0]))] (gM sd ll mm rs 0 s) 7 7 (fun r hp' => r = .t [] ∧ hp' = gM sd ll mm rs 1 (X.run (dg sd ll) s (am ss))) := by
  intro n
  induction n using Nat.strongRecOn with
  | _ n ih =>
  intro ss c s hs ho hi
  refine XM.en Tryz.func70 Tryz.ntmps70 (fun w0 own H V v0 hf => ?_)
  refine Ln 0 rfl (fun hl => ?_); rw [List.length_map] at hl
  refine G9 rfl (Lq [1, 5, 6, 12, 13] (fun (q : Nat) r => (14, xi (q : Nat)) :: r) (fun q => gM sd ll mm rs 1 (X.run (dg sd ll) s (am (ss.take q))) ++ [⟨7, 0, .cells [.f 72 [] [.p 0 0 0, .p 2 0 0, .p 3 0 0]] 162⟩, ⟨8, 0, .cells [.f 122 [] [.p 7 0 0, .p 8 0 0]] 222⟩]) 9 (fun q => q ≤ ss.length) (fun q => ss.length - q) 0 rfl (Nat.zero_le _) ?_)
  intro j hj
  refine G9 rfl (If rfl (fun h => ?_) (fun h => ?_)); {
  have hjl := of_decide_eq_true h; rw [List.length_map] at hjl
  obtain ⟨⟨k, nm, ty, m, es, b, el, cs⟩, hy⟩ := ai (l := ss) (j := j) (by omega)
  obtain ⟨i0, e0⟩ := (ref_run (sd := sd) (ll := ll)).ss hy hi
  obtain ⟨i1, i2, i3, i4, i5, e1⟩ := (ref_run (sd := sd) (ll := ll)).sm i0
  rw [e1] at e0
  have hmem := List.mem_of_getElem? hy
  have hok := Sm.oks_mem ho hmem
  obtain ⟨o1, o2, o3, o4, o5, o6, o7, o8⟩ := hok
  have hsz : ty.size + Ex.sizes es + Sm.sizes b + Sm.sizes el + Sm.csizes cs + 1 ≤ Sm.sizes ss := Sm.size_mem hmem
  have hx : (ss.map smD)[j]? = some [.c (.int .i64 k), .c (.string nm), .c (.int .i64 (tk ty)), .c (.string (tnm ty)), .c (.int .i64 (tn ty)), .s (tyS ty), .c (.int .u16 m), .s (es.map exD), .s (b.map smD), .s (el.map smD), .s (cs.map blD)] := by rw [← be]; exact ab hy
  generalize hS : X.run (dg sd ll) s (am (ss.take j)) = S at i1 i2 i3 i4 i5 e0 ⊢
  refine G9 rfl (Ix (T := T) j hx rfl rfl rfl rfl ⟨rfl, rfl⟩ rfl rfl ?_)
  refine G (T := T) 100006 rfl ?_
  refine (FzTo.bz 9 rfl).c ?_
  refine G9 rfl ?_
  have hC := side_1 (pk := pk0) (e := .mk k nm ty m es b el cs); rw [be] at hC
  refine Cv (show XQ _ _ _ (cs9 [] [] [_]) _ from hC) rfl rfl rfl rfl rfl ⟨rfl, rfl⟩ ?_
  refine G9 rfl (Czc [0, 1, 2, 3, 4, 5, 6, 7, 8] (gM sd ll mm rs 2 (X.run (dg sd ll) ((dg sd ll) S (.inl (.mk k nm ty m es b el cs))) (dp (aF es))) ++ [⟨7, 0, .cells [.f 72 [] [.p 0 0 0, .p 2 0 0, .p 3 0 0]] 162⟩, ⟨8, 0, .cells [.f 122 [] [.p 7 0 0, .p 8 0 0]] 222⟩]) (ref_v1 _ es _ _ (Nat.le_refl _) o5 i2) rfl rfl rfl rfl rfl rfl rfl ⟨⟨rfl, rfl⟩, rfl⟩ rfl rfl ?_)
  refine G9 rfl ?_
  generalize hS2 : X.run (dg sd ll) ((dg sd ll) S (.inl (.mk k nm ty m es b el cs))) (dp (aF es)) = S2 at i3 i4 i5 e0 ⊢
  refine Czc [0, 1, 2, 3, 4, 5, 6] (gM sd ll mm rs 3 (X.run (dg sd ll) S2 (am b))) (ih _ (by omega) b _ _ (Nat.le_refl _) o6 i3) rfl rfl rfl rfl rfl rfl rfl ⟨⟨rfl, rfl⟩, rfl⟩ rfl rfl ?_
  refine G9 rfl ?_
  generalize hS3 : X.run (dg sd ll) S2 (am b) = S3 at i4 i5 e0 ⊢
  refine Ln 31 rfl (fun hl2 => ?_); rw [List.length_map] at hl2
  refine Lq [1, 5, 6, 8, 12, 13, 14, 31, 32] (fun (q : Nat) r => (33, xi (q : Nat)) :: r) (fun q => gM sd ll mm rs 1 (X.run (dg sd ll) S3 (aP (cs.take q))) ++ [⟨7, 0, .cells [.f 72 [] [.p 0 0 0, .p 2 0 0, .p 3 0 0]] 162⟩, ⟨8, 0, .cells [.f 122 [] [.p 7 0 0, .p 8 0 0]] 222⟩]) 9 (fun q => q ≤ cs.length) (fun q => cs.length - q) 0 rfl (Nat.zero_le _) ?_
  intro q hq
  refine G9 rfl (If rfl (fun h => ?_) (fun h => ?_)); {
  have hql := of_decide_eq_true h; rw [List.length_map] at hql
  obtain ⟨y, hy2⟩ := ai (l := cs) (j := q) (by omega)
  obtain ⟨i6, e6⟩ := (ref_run (sd := sd) (ll := ll)).cs hy2 i4
  have hmem2 := List.mem_of_getElem? hy2
  have hsz2 := Sm.csize_mem hmem2
  refine G9 rfl (Ix (T := T) q (ab hy2) rfl rfl rfl rfl ⟨rfl, rfl⟩ rfl rfl ?_)
  refine G9 rfl ?_
  refine Czc [0, 1, 2, 3, 4, 5, 6] (gM sd ll mm rs 2 (X.run (dg sd ll) S3 (aP (cs.take (q + 1))))) (ih _ (by omega) y _ _ (Nat.le_refl _) (Sm.okc_mem o8 hmem2) i6) rfl rfl rfl rfl rfl rfl rfl ⟨⟨rfl, rfl⟩, rfl⟩ (by rw [e6]; rfl) rfl ?_
  refine G9 rfl ?_
  exact Nq (q + 1) (by show q + 1 ≤ cs.length; omega) (by show _ - (q + 1) < _ - q; omega)}; {
  have hql := of_decide_eq_false h; rw [List.length_map] at hql
  rw [List.take_of_length_le (show cs.length ≤ q by omega)]
  refine G9 rfl ?_
  refine Czc [0, 1, 2, 3, 4, 5, 6] (gM sd ll mm rs 2 (X.run (dg sd ll) s (am (ss.take (j + 1))))) (ih _ (by omega) el _ _ (Nat.le_refl _) o7 i5) rfl rfl rfl rfl rfl rfl rfl ⟨⟨rfl, rfl⟩, rfl⟩ (by rw [← e0]; rfl) rfl ?_
  refine G9 rfl ?_
  exact Nq (j + 1) (by show j + 1 ≤ ss.length; omega) (by show _ - (j + 1) < _ - j; omega)}}; {
  have hjl := of_decide_eq_false h; rw [List.length_map] at hjl
  refine G9 rfl ?_
  rw [List.take_of_length_le (by omega)]
  exact Fm (T := T) (fun g => g) (.t []) _ ⟨rfl, rfl⟩ rfl}
def my1 (g t : Nat) (Q : Obj → Prop) : XC → XC
  | .m g' t' => bif Nat.beq g g' && Nat.beq t t' then .d (.mp fun _ => Q) else .m g' t'
  | y => y
def my0 (g t : Nat) (Q : Obj → Prop) : List XC → List XC
  | [] => []
  | y :: r => my1 g t Q y :: my0 g t Q r
def myV (g t : Nat) (Q : Obj → Prop) : XV → XV
  | .a (.c y) => .a (.c (my1 g t Q y))
  | .a (.a l) => .a (.a (my0 g t Q l))
  | y => y
def myE (g t : Nat) (Q : Obj → Prop) : XE → XE
  | [] => []
  | (i, y) :: r => (i, myV g t Q y) :: myE g t Q r
def myH (g t : Nat) (Q : Obj → Prop) : XH → XH
  | [] => []
  | ⟨g', t', .cells c e⟩ :: r => ⟨g', t', .cells (my0 g t Q c) e⟩ :: myH g t Q r
  | b :: r => b :: myH g t Q r
def myS (g : Nat) : XS → Option XS
  | ⟨E, hp, nx⟩ => match aq hp g with
    | some ⟨_, t, .mp Q⟩ => some ⟨myE g t Q E, myH g t Q (bM hp g), nx⟩
    | _ => none
section
variable {g t e b : Nat} {Q : Obj → Prop} {ob : Obj} {V : Vn} {H : Hp}
theorem my1_ok (hV : V g t = some (some b, e)) (hq : H b = some ob) (hQ : Q ob) {y : XC} {v : Value} (h : y.rel V H v) : (my1 g t Q y).rel V H v := by
  unfold my1
  split; {
  rename_i g' t'
  cases hb : (Nat.beq g g' && Nat.beq t t') with
  | false => exact h
  | true =>
    simp only [Bool.and_eq_true] at hb
    have h1 := Nat.eq_of_beq_eq_true hb.1
    have h2 := Nat.eq_of_beq_eq_true hb.2
    subst h1 h2
    simp only [XC.rel] at h
    obtain ⟨b', e', h3, rfl⟩ := h
    rw [hV] at h3; cases h3
    simp only [cond_true, XC.rel, rd]
    exact ⟨b, ob, rfl, hq, hQ⟩}
  {
  exact h}
theorem my0_ok (hV : V g t = some (some b, e)) (hq : H b = some ob) (hQ : Q ob) : ∀ {ys : List XC} {vs : List Value}, rels V H ys vs → rels V H (my0 g t Q ys) vs
  | [], [], h => h
  | _ :: _, _ :: _, h => ⟨my1_ok hV hq hQ h.1, my0_ok hV hq hQ h.2⟩
  | [], _ :: _, h => h.elim
  | _ :: _, [], h => h.elim
theorem myV_ok (hV : V g t = some (some b, e)) (hq : H b = some ob) (hQ : Q ob) {y : XV} {v : Value} (h : y.rel V H v) : (myV g t Q y).rel V H v := by
  unfold myV
  split; {
  exact my1_ok hV hq hQ h}; {
  obtain ⟨us, h1, h2⟩ := h; exact ⟨us, h1, my0_ok hV hq hQ h2⟩}; {
  exact h}
theorem xlk_my : ∀ {E : XE} {i : Nat} {u : XV}, xlk (myE g t Q E) i = some u → ∃ y, xlk E i = some y ∧ u = myV g t Q y
  | [], i, u, h => by cases h
  | (j, y) :: r, i, u, h => by
    simp only [myE, xlk] at h ⊢
    cases hb : Nat.beq j i with
    | true => rw [hb] at h; cases h; exact ⟨y, rfl, rfl⟩
    | false => rw [hb] at h; exact xlk_my h
theorem lD (hV : V g t = some (some b, e)) (hq : H b = some ob) (hQ : Q ob) : ∀ {hp : XH} {sg : Seg}, HR V H hp sg → HR V H (myH g t Q hp) sg
  | [], _, h => h
  | ⟨g', t', .cells c e⟩ :: r, _, ⟨s1, s2, h0, h1, h4⟩ => by
    refine ⟨s1, s2, h0, ?_, lD hV hq hQ h4⟩
    rcases h1 with ⟨b', ob, ex, h1, h2, us, h3, h5⟩ | ⟨_, _, e', sz, h3, _⟩
    {
    exact .inl ⟨b', ob, ex, h1, h2, us, my0_ok hV hq hQ h3, h5⟩}; {
    cases h3}
  | ⟨g', t', .row n2 rows2 e sz⟩ :: r, _, ⟨s1, s2, h0, h1, h4⟩ => ⟨s1, s2, h0, h1, lD hV hq hQ h4⟩
  | ⟨g', t', .mp Q⟩ :: r, _, ⟨s1, s2, h0, h1, h4⟩ => ⟨s1, s2, h0, h1, lD hV hq hQ h4⟩
  | ⟨g', t', .rowk m pre mid post e sz⟩ :: r, _, ⟨s1, s2, h0, h1, h4⟩ => ⟨s1, s2, h0, h1, lD hV hq hQ h4⟩
theorem eF : ∀ hp : XH, (myH g t Q hp).map (fun b => (b.g, b.t)) = hp.map fun b => (b.g, b.t)
  | [] => rfl
  | ⟨_, _, .cells _ _⟩ :: r => by simp only [myH, List.map_cons, eF r]
  | ⟨_, _, .row _ _ _ _⟩ :: r => by simp only [myH, List.map_cons, eF r]
  | ⟨_, _, .mp _⟩ :: r => by simp only [myH, List.map_cons, eF r]
  | ⟨_, _, .rowk ..⟩ :: r => by simp only [myH, List.map_cons, eF r]
end
theorem FzTo.my {s s' : XS} (g : Nat) (h : myS g s = some s') : FzTo s s' := fun B V H sg env hs => by
  obtain ⟨E, hp, nx⟩ := s
  simp only [myS] at h
  split at h; {
  rename_i g' t Q hg
  cases h
  obtain ⟨p1, p2, _⟩ := aQ hg
  simp only at p2
  subst p2
  obtain ⟨sg', q1, q2⟩ := hs.hr.perm p1
  obtain ⟨t1, t2, rfl, hrel, q3⟩ := q2
  refine ⟨t1, t2, q1, fun H' hle hH => ?_⟩
  rcases hrel with ⟨b, ob, ex, rfl, hV, r1⟩ | ⟨_, _, _, _, h2, _⟩
  {
  have hq := hH _ (List.mem_singleton.2 rfl)
  simp only at hq hV
  have hsub : ∀ b ∈ myH g' t Q (bM hp g'), ∃ c ∈ hp, c.g = b.g ∧ c.t = b.t := by
    intro b hb
    have : (b.g, b.t) ∈ (bM hp g').map fun b => (b.g, b.t) := by rw [← eF (Q := Q) (g := g') (t := t)]; exact List.mem_map.2 ⟨b, hb, rfl⟩
    obtain ⟨c, hc, e9⟩ := List.mem_map.1 this
    simp only [Prod.mk.injEq] at e9
    exact ⟨c, p1.mem_iff.2 (List.mem_cons_of_mem _ hc), e9.1, e9.2⟩
  refine ⟨fun i u hu => ?_, lD hV hq r1 (q3.mono (VLe.refl _) hle), ?_, ?_, hs.fresh, hs.le.trans hle, hs.vle, hs.keep, ?_, hs.nxle⟩; {
  obtain ⟨y, hy, rfl⟩ := xlk_my hu
  obtain ⟨v, a1, a2⟩ := hs.lk i y hy
  exact ⟨v, a1, myV_ok hV hq r1 (XV.mono (VLe.refl _) hle a2)⟩}; {
  intro b hb t' ht'
  obtain ⟨c, hc, e1, e2⟩ := hsub b hb
  rw [← e1]; exact hs.top c hc t' (by omega)}; {
  have h1 := (p1.map XB.g).nodup_iff.1 hs.nd
  have h2 : (ae (bM hp g')).Nodup := (List.nodup_cons.1 h1).2
  have h3 : ae (myH g' t Q (bM hp g')) = ae (bM hp g') := by
    have := congrArg (List.map Prod.fst) (eF (Q := Q) (g := g') (t := t) (bM hp g'))
    simpa [ae, List.map_map, Function.comp_def] using this
  rw [h3]; exact h2}; {
  intro b hb
  obtain ⟨c, hc, e1, e2⟩ := hsub b hb
  rw [← e1]; exact hs.sub c hc}}; {
  cases h2}}; {
  cases h}
theorem back_fn {pk : Pk} {rows : List (List D)} : XQ Tryz.prog pk 67 [xr rows] (xm (.f 118 [] [.p [.s rows]])) := by
  refine XQ.en Tryz.func67 Tryz.ntmps67 (fun w0 own H V v0 hf => ?_)
  refine G (T := T) 100001 rfl ?_
  refine (FzTo.bz 0 rfl).c ?_
  refine G9 rfl (Fe (T := T) rfl rfl)
theorem back_gn {pk : Pk} {rows : List (List D)} : XQ Tryz.prog pk 68 [xr rows] (xm (.f 119 [] [.p [.s rows]])) := by
  refine XQ.en Tryz.func68 Tryz.ntmps68 (fun w0 own H V v0 hf => ?_)
  refine G (T := T) 100001 rfl ?_
  refine (FzTo.bz 0 rfl).c ?_
  refine G9 rfl (Fe (T := T) rfl rfl)
def c6 (l : List ByteArray) (d : List Nat) : List (ByteArray × Nat) := d.foldl (fun m j => ptL m (l.getD j eS) j) []
theorem lF {l : List ByteArray} {d : List Nat} {j : Nat} : c6 l (d ++ [j]) = ptL (c6 l d) (l.getD j eS) j := by rw [c6, List.foldl_append]; rfl
theorem nh {l : List ByteArray} (d : List Nat) : (c6 l d).length ≤ d.length := by
  have : ∀ (d : List Nat) (m : List (ByteArray × Nat)), (d.foldl (fun m j => ptL m (l.getD j eS) j) m).length ≤ m.length + d.length := by
    intro d
    induction d with
    | nil => intro m; exact Nat.le_refl _
    | cons j d ih =>
      intro m
      have h1 := ih (ptL m (l.getD j eS) j)
      have h2 := df m (l.getD j eS) j
      rw [List.foldl_cons, List.length_cons]
      split at h2 <;> omega
  have := this d []
  simpa [c6] using this
def gV (sd : SdP) (f : Fu) : List Rf := X.run (dg sd (ee f)) [] (am f.body)
def sdP (p : Pg) : SdP := ⟨.s (p.ts.map tdD), .s (p.gs.map gbD), .s (p.fs.map fuD), c6 (p.fs.map (·.nm)) (dn p.fs.length), c6 (p.gs.map (·.nm)) (dn p.gs.length)⟩
def rfsR (p : Pg) (l : List Fu) : List (List D) := l.map fun f => [.s ((gV (sdP p) f).map rfD)]
abbrev sideB (p : Pg) (v n : Nat) (rs : List (List D)) (pt : List (Rf × Nat)) : XH := [⟨0, 0, .cells [.d (sdP p).a0, .d (sdP p).a1, .d (sdP p).a2, .d (mpS (sdP p).lf), .d (mpS (sdP p).lg), .l 1 v 1 0 n n, .m 2 0] 111⟩, ⟨1, v, .row n rs 155 1⟩, ⟨2, 0, .mp (ML kvR 3 aV pt)⟩]
theorem XVs.rels2 {V : Vn} {H : Hp} {a b : XV} {u v : Value} (h1 : a.rel V H u) (h2 : b.rel V H v) : XVs.rels V H [a, b] [u, v] := ⟨h1, h2, trivial⟩
theorem iter_fu {H : Hp} {w0 : World} {V : Vn} {rows : List (List D)} {lb : List Value} (hsz : ∀ r ∈ rows, r.length = 10) (hlen : rows.length ≤ 1000000000) (h : rels V H [.d (.p [.s rows])] lb) : ∃ encs : Nat → List Value, (∀ y V' H', Le H H' → XVs.rels V' H' [xi (y : Nat), xd (rows.getD y [])] (encs y)) ∧ iV Tryz.prog 118 lb encs (fun xs => xs = dn rows.length) (fun pre => pre <+: dn rows.length) w0 H := by
  match lb, h with
  | [v], ⟨h1, _⟩ =>
    simp only [XC.rel, rd] at h1
    obtain ⟨b, o, rfl, h2⟩ := h1
    obtain ⟨⟨u, h3, h4⟩, _⟩ := h2
    obtain ⟨us, h5, h6⟩ := back_fu (w0 := w0) h3 h4 hsz hlen
    exact ⟨_, fun y V' H' hle => XVs.rels2 ⟨rfl, rfl⟩ ⟨_, rfl, (h5 y).mono hle⟩, h6⟩
theorem iter_gb {H : Hp} {w0 : World} {V : Vn} {rows : List (List D)} {lb : List Value} (hsz : ∀ r ∈ rows, r.length = 8) (hlen : rows.length ≤ 1000000000) (h : rels V H [.d (.p [.s rows])] lb) : ∃ encs : Nat → List Value, (∀ y V' H', Le H H' → XVs.rels V' H' [xi (y : Nat), xd (rows.getD y [])] (encs y)) ∧ iV Tryz.prog 119 lb encs (fun xs => xs = dn rows.length) (fun pre => pre <+: dn rows.length) w0 H := by
  match lb, h with
  | [v], ⟨h1, _⟩ =>
    simp only [XC.rel, rd] at h1
    obtain ⟨b, o, rfl, h2⟩ := h1
    obtain ⟨⟨u, h3, h4⟩, _⟩ := h2
    obtain ⟨us, h5, h6⟩ := back_gb (w0 := w0) h3 h4 hsz hlen
    exact ⟨_, fun y V' H' hle => XVs.rels2 ⟨rfl, rfl⟩ ⟨_, rfl, (h5 y).mono hle⟩, h6⟩
theorem Rz {P : Program} {x : Cx P} {s : XS} {K : XS → Prop} (h : K s) : (MS.e .normal [.l (fun _ => K) 1] s).ok x := fun V H sg env hs a w ha hw => ⟨rfl, 0, env, _, H, Nat.one_pos, ⟨s, V, sg, h, hs, rfl⟩, by rw [show dsA [] (dsA x.ds a) = dsA [] a from rfl, cv ha.defers]; exact ha, hw⟩
theorem dn_pre {n j : Nat} {pre : List Nat} (h : pre ++ [j] <+: dn n) : j < n ∧ pre.length < n := by
  obtain ⟨t, ht⟩ := h
  have h1 : j ∈ dn n := by rw [← ht]; simp
  have h2 : (dn n).length = n := by simp [dn]
  rw [← ht] at h2
  simp at h2
  exact ⟨by simpa [dn] using h1, by omega⟩
theorem refsT_len {sd : SdP} {f : Fu} {B : Nat} (hf : f.ok B) (hB : B ≤ 1000000000) : (gV sd f).length ≤ 1000000000000 := by
  have h7 := cz f.body
  have h8 := hf.2.2.2.2.2.2.1
  have : refI 0 (gV sd f) := ref_run.run (by show 0 + _ ≤ _; omega)
  exact this
theorem side_of {p : Pg} {B : Nat} (hp : p.ok B) (hB : B ≤ 1000000000) : XM Tryz.prog pk0 39 [xd (pgD p)] [] 0 3 (fun r hp' => r = .a (.c (.p 0 0 0)) ∧ hp' = sideB p 0 p.fs.length (rfsR p p.fs) []) := by
  have l1 : (p.fs.map fuD).length = p.fs.length := List.length_map ..
  have l2 : (p.gs.map gbD).length = p.gs.length := List.length_map ..
  have hfl := hp.fl
  have hgl := hp.gl
  refine XM.enM (fun h => h) Tryz.func39 Tryz.ntmps39 (fun w0 own H V v0 hf => ?_)
  refine G (T := T) 100001 rfl ?_
  refine (FzTo.bz 0 rfl).c ?_
  refine G9 rfl (Mm (ML kvS 3 aV []) ML.nil ⟨rfl, rfl⟩ ?_)
  refine G9 rfl (Mm (ML kvS 3 aV []) ML.nil ⟨rfl, rfl⟩ ?_)
  refine G9 rfl (Mm (ML kvR 3 aV []) ML.nil ⟨rfl, rfl⟩ ?_)
  refine G9 rfl (Cq back_fn rfl rfl rfl rfl rfl ⟨rfl, rfl⟩ ?_)
  refine G9 rfl (Ks [1, 3, 20] rfl ?_)
  change MC _ _ _ _
  refine MC.rgf (fun h => h) rfl rfl (Callable.of Tryz.func118 rfl rfl) (fun y : Nat => [xi (y : Nat), xd ((p.fs.map fuD).getD y [])]) (fun xs => xs = dn (p.fs.map fuD).length) (fun pre => pre <+: dn (p.fs.map fuD).length) (fun V H lb h => iter_fu (fun r hr => by obtain ⟨f, _, rfl⟩ := List.mem_map.1 hr; rfl) (by omega) h) (fun pre => [⟨5, 0, .cells [.p 4 0 0] 100⟩, ⟨4, 0, .cells [.d (.s (p.ts.map tdD)), .d (.s (p.gs.map gbD)), .d (.s (p.fs.map fuD)), .m 1 0, .m 2 0, .z, .m 3 0] 111⟩, ⟨3, 0, .mp (ML kvR 3 aV [])⟩, ⟨2, 0, .mp (ML kvS 3 aV [])⟩, ⟨1, 0, .mp (ML kvS 3 aV (c6 (p.fs.map (·.nm)) pre))⟩]) rfl (fun _ => rfl) rfl (fun _ => rfl) ?_ ?_; {
  intro pre y hSp B1 hB1
  obtain ⟨hy, hpl⟩ := dn_pre hSp
  have hψ : ¬ B1.pk.ψ := by rw [hB1]; exact fun h => h
  rw [l1] at hy hpl
  obtain ⟨f, hf⟩ := ai (l := p.fs) hy
  have e1 : (p.fs.map fuD).getD y [] = fuD f := by rw [List.getD_eq_getElem?_getD, ab hf]; rfl
  have e2 : (p.fs.map (·.nm)).getD y eS = f.nm := by rw [List.getD_eq_getElem?_getD, ab hf]; rfl
  have h9 := (hp.f f (List.mem_of_getElem? hf)).1
  have h8 := nh (l := p.fs.map (·.nm)) pre
  dsimp only
  rw [e1, lF, e2]
  generalize c6 (p.fs.map (·.nm)) pre = L at h8 ⊢
  refine RC.seq (K1 := fun s1 => s1 = ⟨(4, xi (y : Nat)) :: jV [21, 22] [xi (y : Nat), xd (fuD f)] [(20, xm (.f 118 [] [.p [.s (p.fs.map fuD)]])), (3, .a (.c (.p 5 0 0))), (1, xp [.s (p.ts.map tdD), .s (p.gs.map gbD), .s (p.fs.map fuD)])], [⟨5, 0, .cells [.p 4 0 0] 100⟩, ⟨4, 0, .cells [.d (.s (p.ts.map tdD)), .d (.s (p.gs.map gbD)), .d (.s (p.fs.map fuD)), .m 1 0, .m 2 0, .z, .m 3 0] 111⟩, ⟨3, 0, .mp (ML kvR 3 aV [])⟩, ⟨2, 0, .mp (ML kvS 3 aV [])⟩, ⟨1, 0, .mp (ML kvS 3 aV L)⟩], 6⟩) (RC.reg hψ rfl fun own1 => ?_) ?_; {
  refine G9 rfl ?_
  exact Rz rfl}; {
  rintro s1 rfl
  refine RC.reg hψ rfl fun own1 => ?_
  refine G9 rfl (Rz ?_)
  refine RC.block (RC.drw (T := T) [0, 1, 2, 3, 4, 5, 6, 7] hψ rfl rfl fun own2 => ?_)
  refine G9 rfl ?_
  refine Stm (T := T) kvS (a := f.nm) y (by show f.nm.size ≤ _; simp only [maxLen]; omega) (by simp only [maxLen]; omega) rfl rfl rfl rfl rfl rfl rfl rfl rfl ⟨rfl, rfl⟩ ?_
  refine G9 rfl (Rz ⟨fun g => g, ⟨⟨_, _, rfl, rfl⟩, rfl, rfl⟩⟩)}}; {
  rintro lp1 D1 r1 _ rfl
  rw [l1]
  change (MS.e _ _ _).ok _
  refine G9 rfl (Cq back_gn rfl rfl rfl rfl rfl ⟨rfl, rfl⟩ ?_)
  refine G9 rfl (Ks [1, 3, 32] rfl ?_)
  change MC _ _ _ _
  refine MC.rgf (fun h => h) rfl rfl (Callable.of Tryz.func119 rfl rfl) (fun y : Nat => [xi (y : Nat), xd ((p.gs.map gbD).getD y [])]) (fun xs => xs = dn (p.gs.map gbD).length) (fun pre => pre <+: dn (p.gs.map gbD).length) (fun V H lb h => iter_gb (fun r hr => by obtain ⟨f, _, rfl⟩ := List.mem_map.1 hr; rfl) (by omega) h) (fun pre => [⟨5, 0, .cells [.p 4 0 0] 100⟩, ⟨4, 0, .cells [.d (.s (p.ts.map tdD)), .d (.s (p.gs.map gbD)), .d (.s (p.fs.map fuD)), .m 1 0, .m 2 0, .z, .m 3 0] 111⟩, ⟨3, 0, .mp (ML kvR 3 aV [])⟩, ⟨2, 0, .mp (ML kvS 3 aV (c6 (p.gs.map (·.nm)) pre))⟩, ⟨1, 0, .mp (ML kvS 3 aV (c6 (p.fs.map (·.nm)) (dn p.fs.length)))⟩]) rfl (fun _ => rfl) rfl (fun _ => rfl) ?_ ?_; {
  intro pre y hSp B1 hB1
  obtain ⟨hy, hpl⟩ := dn_pre hSp
  have hψ : ¬ B1.pk.ψ := by rw [hB1]; exact fun h => h
  rw [l2] at hy hpl
  obtain ⟨f, hf⟩ := ai (l := p.gs) hy
  have e1 : (p.gs.map gbD).getD y [] = gbD f := by rw [List.getD_eq_getElem?_getD, ab hf]; rfl
  have e2 : (p.gs.map (·.nm)).getD y eS = f.nm := by rw [List.getD_eq_getElem?_getD, ab hf]; rfl
  have h9 := (hp.g f (List.mem_of_getElem? hf)).1
  have h8 := nh (l := p.gs.map (·.nm)) pre
  dsimp only
  rw [e1, lF, e2]
  generalize c6 (p.gs.map (·.nm)) pre = L at h8 ⊢
  generalize c6 (p.fs.map (·.nm)) (dn p.fs.length) = L2
  refine RC.seq (K1 := fun s1 => s1 = ⟨(6, xi (y : Nat)) :: jV [33, 34] [xi (y : Nat), xd (gbD f)] [(32, xm (.f 119 [] [.p [.s (p.gs.map gbD)]])), (3, .a (.c (.p 5 0 0))), (1, xp [.s (p.ts.map tdD), .s (p.gs.map gbD), .s (p.fs.map fuD)])], [⟨5, 0, .cells [.p 4 0 0] 100⟩, ⟨4, 0, .cells [.d (.s (p.ts.map tdD)), .d (.s (p.gs.map gbD)), .d (.s (p.fs.map fuD)), .m 1 0, .m 2 0, .z, .m 3 0] 111⟩, ⟨3, 0, .mp (ML kvR 3 aV [])⟩, ⟨2, 0, .mp (ML kvS 3 aV L)⟩, ⟨1, 0, .mp (ML kvS 3 aV L2)⟩], 6⟩) (RC.reg hψ rfl fun own1 => ?_) ?_; {
  refine G9 rfl ?_
  exact Rz rfl}; {
  rintro s1 rfl
  refine RC.reg hψ rfl fun own1 => ?_
  refine G9 rfl (Rz ?_)
  refine RC.block (RC.drw (T := T) [0, 1, 2, 3, 4, 5, 6, 7] hψ rfl rfl fun own2 => ?_)
  refine G9 rfl ?_
  refine Stm (T := T) kvS (a := f.nm) y (by show f.nm.size ≤ _; simp only [maxLen]; omega) (by simp only [maxLen]; omega) rfl rfl rfl rfl rfl rfl rfl rfl rfl ⟨rfl, rfl⟩ ?_
  refine G9 rfl (Rz ⟨fun g => g, ⟨⟨_, _, rfl, rfl⟩, rfl, rfl⟩⟩)}}; {
  rintro lp2 D2 r2 _ rfl
  rw [l2]
  change (MS.e _ _ _).ok _
  refine (FzTo.my 1 rfl).e ?_
  refine (FzTo.my 2 rfl).e ?_
  refine (Nrh 4 5 155 1 rfl rfl rfl rfl rfl).e ?_
  refine G9 rfl (Lq [1, 3, 43, 44] (fun (q : Nat) r => (45, xi (q : Nat)) :: r) (fun q => [⟨5, 0, .cells [.p 4 0 0] 100⟩, ⟨4, 0, .cells [.d (sdP p).a0, .d (sdP p).a1, .d (sdP p).a2, .d (mpS (sdP p).lf), .d (mpS (sdP p).lg), .l 6 0 1 0 q q, .m 3 0] 111⟩, ⟨6, 0, .row q (rfsR p (p.fs.take q)) 155 1⟩, ⟨3, 0, .mp (ML kvR 3 aV [])⟩]) 7 (fun q => q ≤ p.fs.length) (fun q => p.fs.length - q) 0 rfl (Nat.zero_le _) ?_)
  intro j hj
  refine G9 rfl (If rfl (fun h => ?_) (fun h => ?_)); {
  have hjl := of_decide_eq_true h; rw [l1] at hjl
  obtain ⟨f, hf⟩ := ai (l := p.fs) (j := j) (by omega)
  refine G9 rfl (Ix (T := T) j (ab hf) rfl rfl rfl rfl ⟨rfl, rfl⟩ rfl rfl ?_)
  refine G9 rfl (Cq (fh (hp.f f (List.mem_of_getElem? hf)) (by omega)) rfl rfl rfl rfl rfl ⟨rfl, rfl⟩ ?_)
  refine G (T := T) 100015 rfl ?_
  refine (Nrh 8 0 115 2 rfl rfl rfl rfl rfl).c ?_
  refine G9 rfl ?_
  have hfo := hp.f f (List.mem_of_getElem? hf)
  have h7 := cz f.body
  have hl9 : (gV (sdP p) f).length ≤ 1000000000000 := refsT_len hfo (by omega)
  refine Czc [5, 4, 9, 8, 10, 6, 3] [⟨5, 0, .cells [.p 4 0 0] 100⟩, ⟨4, 0, .cells [.d (sdP p).a0, .d (sdP p).a1, .d (sdP p).a2, .d (mpS (sdP p).lf), .d (mpS (sdP p).lg), .l 6 0 1 0 j j, .m 3 0] 111⟩, ⟨9, 0, .cells [.d (mpL (ee f))] 156⟩, ⟨8, 0, .cells [.l 10 1 2 0 (gV (sdP p) f).length (gV (sdP p) f).length] 155⟩, ⟨10, 1, .row (gV (sdP p) f).length ((gV (sdP p) f).map rfD) 115 2⟩, ⟨6, 0, .row j (rfsR p (p.fs.take j)) 155 1⟩, ⟨3, 0, .mp (ML kvR 3 aV [])⟩]
    (ref_visit (sd := sdP p) (ll := ee f) (mm := j) (rs := rfsR p (p.fs.take j)) _ f.body 0 [] (Nat.le_refl _) hfo.2.2.2.2.2.1 (by show 0 + _ ≤ _; have := hfo.2.2.2.2.2.2.1; omega)) rfl rfl rfl rfl rfl rfl rfl ⟨⟨rfl, rfl⟩, rfl⟩ rfl rfl ?_
  refine Zr 10 rfl ?_
  refine G9 rfl ?_
  have e9 : rfsR p (p.fs.take (j + 1)) = rfsR p (p.fs.take j) ++ [[.s ((gV (sdP p) f).map rfD)]] := by rw [rfsR, az hf, List.map_append]; rfl
  refine Nq (j + 1) (by show j + 1 ≤ _; omega) (by show _ - (j + 1) < _ - j; omega) ?_
  show Mt _ _ _ ⟨_, [_, _, ⟨6, 0, .row (j + 1) (rfsR p (p.fs.take (j + 1))) _ 1⟩, _], 7⟩ _
  rw [e9]
  exact ⟨⟨_, _, rfl, rfl⟩, rfl, rfl⟩}; {
  have hjl := of_decide_eq_false h; rw [l1] at hjl
  rw [List.take_of_length_le (by omega)]
  obtain rfl : j = p.fs.length := by omega
  refine G9 rfl (ME.finM (Lv.mark (Lv.mark Lv.base)) ?_)
  exact Fm (T := T) (fun g => match g with | 0 => 4 | 1 => 6 | _ => 3) (.a (.c (.p 0 0 0))) _ ⟨rfl, rfl⟩ rfl}}}
def tabL : List ByteArray → Nat → List (ByteArray × Nat)
  | [], _ => []
  | x :: r, k => ptL (tabL r (k + 1)) x k
theorem tabL_lk (s : ByteArray) : ∀ (l : List ByteArray) (k : Nat), lkL (tabL l k) s = (ak l s).map (· + k)
  | [], k => rfl
  | x :: r, k => by
    have hf : ak (x :: r) s = if x = s then some 0 else (ak r s).map (· + 1) := by
      show List.findIdx? _ (x :: r) = _
      rw [List.findIdx?_cons]
      by_cases h : x = s; {
      rw [if_pos h, if_pos (by simpa using h)]}; {
      rw [if_neg h, if_neg (by simpa using h)]; rfl}
    rw [tabL, gQ, tabL_lk s r (k + 1), hf]
    by_cases h : s = x; {
    subst h; simp}; {
    rw [if_neg h, if_neg (fun e => h e.symm), Option.map_map]
    show Option.map _ (ak r s) = Option.map _ (ak r s)
    congr 1
    funext n
    show n + (k + 1) = n + 1 + k
    omega}
theorem prefL_tab (l : List ByteArray) : c6 l (dn l.length) = tabL l 0 := by
  have key : ∀ (m k : Nat), k + m = l.length → (List.range' k m).foldr (fun j mm => ptL mm (l.getD j eS) j) [] = tabL (l.drop k) k := by
    intro m
    induction m with
    | zero => intro k h; rw [List.drop_eq_nil_of_le (by omega)]; rfl
    | succ m ih =>
      intro k h
      have hk : k < l.length := by omega
      rw [List.range'_succ, List.foldr_cons, ih (k + 1) (by omega), List.drop_eq_getElem_cons hk, tabL]
      congr 1
      rw [List.getD_eq_getElem?_getD, List.getElem?_eq_getElem hk]; rfl
  rw [c6, dn, List.foldl_reverse, List.range_eq_range', key _ 0 (by omega), List.drop_zero]
theorem fi (l : List ByteArray) (s : ByteArray) : lkL (c6 l (dn l.length)) s = ak l s := by
  rw [prefL_tab, tabL_lk]; simp
theorem pt_key {l : List (ByteArray × Unit)} {x s : ByteArray} {y : Unit} : s ∈ (ptL l x y).map (·.1) ↔ s = x ∨ s ∈ l.map (·.1) := by
  rw [kq]
  split; {
  rename_i h
  exact ⟨.inr, fun e => e.elim (fun e => e ▸ h) id⟩}; {
  rw [List.mem_append, List.mem_singleton, or_comm]}
theorem pO (f : Fu) (s : ByteArray) : s ∈ (ee f).map (·.1) ↔ s ∈ al f := by
  have h1 : ∀ (l : List Par) (m : List (ByteArray × Unit)), s ∈ (l.foldl (fun l p => ptL l p.nm ()) m).map (·.1) ↔ s ∈ m.map (·.1) ∨ s ∈ l.map (·.nm) := by
    intro l
    induction l with
    | nil => intro m; simp
    | cons p l ih =>
      intro m
      rw [List.foldl_cons, ih, pt_key, List.map_cons, List.mem_cons]
      constructor; {
      rintro ((h | h) | h)
      {
      exact .inr (.inl h)}; {
      exact .inl h}; {
      exact .inr (.inr h)}}; {
      rintro (h | h | h)
      {
      exact .inl (.inr h)}; {
      exact .inl (.inl h)}; {
      exact .inr h}}
  have h2 : ∀ (l : List (Sm ⊕ Ex)) (m : List (ByteArray × Unit)), s ∈ (X.run cM m l).map (·.1) ↔ s ∈ m.map (·.1) ∨ s ∈ l.filterMap fun
      | .inl s => if smK s = 1 then some (fN s) else none
      | .inr _ => none := by
    intro l
    induction l with
    | nil => intro m; simp [X.run]
    | cons e l ih =>
      intro m
      show s ∈ (X.run cM (cM m e) l).map (·.1) ↔ _
      rw [ih, List.filterMap_cons]
      cases e with
      | inr e => exact Iff.rfl
      | inl y =>
        by_cases hk : smK y = 1; {
        have e1 : cM m (.inl y) = ptL m (fN y) () := by show (if smK y = 1 then _ else _) = _; rw [if_pos hk]
        rw [e1, pt_key]
        simp only [hk, if_true, List.mem_cons]
        constructor; {
        rintro ((h | h) | h)
        {
        exact .inr (.inl h)}; {
        exact .inl h}; {
        exact .inr (.inr h)}}; {
        rintro (h | h | h)
        {
        exact .inl (.inr h)}; {
        exact .inl (.inl h)}; {
        exact .inr h}}}; {
        have e1 : cM m (.inl y) = m := by show (if smK y = 1 then _ else _) = _; rw [if_neg hk]
        rw [e1]
        simp only [hk, if_false]}
  rw [ee, h2, parL, h1, al, List.mem_append]
  simp
  exact Iff.rfl
theorem locF_some (f : Fu) (s : ByteArray) : (lkL (ee f) s).isSome = (al f).any fun x => decide (x = s) := by
  rw [Bool.eq_iff_iff, List.any_eq_true]
  constructor; {
  intro h
  obtain ⟨y, hy⟩ := Option.isSome_iff_exists.1 h
  exact ⟨s, (pO f s).1 (List.mem_map.2 ⟨_, cx hy, rfl⟩), by simp⟩}; {
  rintro ⟨x, hx, he⟩
  have : x = s := of_decide_eq_true he
  subst this
  have h2 := (pO f x).2 hx
  cases hl : lkL (ee f) x with
  | none => exact absurd h2 (lk_none.1 hl)
  | some y => rfl}
theorem pP (p : Pg) (f : Fu) (e : Ex) : au p (al f) e = if (bF (sdP p).lf (sdP p).lg (ee f) e).2.2 then some ((bF (sdP p).lf (sdP p).lg (ee f) e).1, (bF (sdP p).lf (sdP p).lg (ee f) e).2.1) else none := by
  have h1 : lkL (sdP p).lf (aU e) = ak (p.fs.map (·.nm)) (aU e) := by have := fi (p.fs.map (·.nm)) (aU e); rwa [List.length_map] at this
  have h2 : lkL (sdP p).lg (aU e) = ak (p.gs.map (·.nm)) (aU e) := by have := fi (p.gs.map (·.nm)) (aU e); rwa [List.length_map] at this
  unfold au bF
  rw [h1, h2, locF_some]
  split; {
  cases ak (p.fs.map (·.nm)) (aU e) <;> rfl}
  {
  split; {
  cases (al f).any fun s => decide (s = aU e) <;> cases ak (p.gs.map (·.nm)) (aU e) <;> rfl}
  {
  rfl}}
theorem lG (p : Pg) (f : Fu) (e : Ex) : (bF (sdP p).lf (sdP p).lg (ee f) e).2.2 = (au p (al f) e).isSome := by
  rw [pP]
  split; {
  rename_i h; rw [h]; rfl}; {
  rename_i h; simpa using h}
theorem refsT_eq (p : Pg) (f : Fu) : gV (sdP p) f = aJ p f := by
  have key : ∀ (l : List (Sm ⊕ Ex)) (s : List Rf), X.run (dg (sdP p) (ee f)) s l = s ++ l.filterMap fun
      | .inl _ => none
      | .inr e => au p (al f) e := by
    intro l
    induction l with
    | nil => intro s; simp [X.run]
    | cons e l ih =>
      intro s
      show X.run _ (dg (sdP p) (ee f) s e) l = _
      rw [ih, List.filterMap_cons]
      cases e with
      | inl y => rfl
      | inr y =>
        have e1 : dg (sdP p) (ee f) s (.inr y) = if (bF (sdP p).lf (sdP p).lg (ee f) y).2.2 then s ++ [((bF (sdP p).lf (sdP p).lg (ee f) y).1, (bF (sdP p).lf (sdP p).lg (ee f) y).2.1)] else s := rfl
        dsimp only
        rw [e1, pP]
        split <;> simp
  have := key (am f.body) []
  rw [List.nil_append] at this
  exact this
open Go.WideMaps
section
variable {P : Program} {α : Type} [DecidableEq α] {kt : TypeId}
def KV.Eq (kv : KV P kt α) : Prop := P.eqGuardType P.depth kt = false ∧ (∀ a, ∃ A, kv.v a = .agg A) ∧ ∀ a b, kv.ok a → kv.ok b → ∀ w, (Op.equal kt (kv.v a) (kv.v b)).run P w = .ok (decide (a = b)) w
theorem KV.eq_deep {kv : KV P kt α} {m : Nat} (hg : P.eqGuardType P.depth kt = false) (hA : ∀ a, ∃ A, kv.v a = .agg A) (hm : m ≤ 10000) (hk : P.keyTypeAt m kt = true) (hwide : (match P.underlying kt with | some (.array _ _) | some (.struct _) => true | _ => false) = true) : kv.Eq := ⟨hg, hA, fun a b ha hb w => by
  obtain ⟨la, h1⟩ := kv.key a ha
  obtain ⟨lb, h2⟩ := kv.key b hb
  obtain ⟨r, h3, h4⟩ := run_equal_deep w hm hk hwide h1 h2
  rw [h3]
  congr 1
  by_cases h : a = b
  · subst h
    rw [h1] at h2; cases h2
    rw [h4.2 rfl]; simp
  · rw [decide_eq_false h]
    cases r with
    | false => rfl
    | true =>
      have e := h4.1 rfl
      subst e
      exact absurd (kv.inj _ _ (kv.law.inj h1 h2)) h⟩
end
section
variable {P : Program} {x : Cx P} {T : Tb P} {k : List Fr} {E Er Es : XE} {hp : XH} {nx i : Nat} {ops : List Oper} {dm : Option (List Rc)} {l : List (Nat × Oper)} {d : Tmp} {ty : TypeId} {pos : String} {af : Array Edge} {g : Option (Nat × Bool)} {y z : Operand} {t' : TypeId} {c : Bool} {ob : List Prop}
variable {α : Type} [DecidableEq α] {kt : TypeId} {kv : KV P kt α} {a b : α} {yv zv : XV}
theorem LS.eqk {pk : Pk} {ops : Array Oper} {d : Option Tmp} (hE : kv.Eq) (ha : kv.ok a) (hb : kv.ok b) (hy : xev Er y = some yv) (hyv : vOf yv = some (kv.v a)) (hz : xev Er z = some zv) (hzv : vOf zv = some (kv.v b)) :
    LS P pk ops { dst := d, op := .binOp .eql kt y z t', type := ty, pos := pos, after := af, guard := none } Er [] nx nx (fun x fp' => x = xb (decide (a = b)) ∧ fp' = []) := by
  intro w0 N Q rest env own H V sg hl hV htp hf hd _ hh
  obtain ⟨p, h1, h2⟩ := hl.lks _ _ hy
  obtain ⟨q, h3, h4⟩ := hl.lks _ _ hz
  have := ec hyv h2; subst this
  have := ec hzv h4; subst this
  refine Qb hd (fun ac hac w => ?_) (hh (.bool (decide (a = b))) _ [] V H sg ⟨rfl, rfl⟩ (by simp only [XV.rel, XA.rel, XC.rel, rd]; exact ⟨trivial, rfl⟩) hV htp (VX.refl _ _ _) (Le.refl _))
  obtain ⟨xs, ex⟩ := hE.2.1 a
  obtain ⟨ys, ey⟩ := hE.2.1 b
  have e2 := hE.2.2 a b ha hb w
  have h9 := run_eqGuard_agg (P := P) w .eql kt y z xs ys hE.1
  rw [ex, ey] at e2
  rw [ex] at h1
  rw [ey] at h3
  simp only [execOp, hac.ev h1, hac.ev h3, Sem.run_bind, h9, Result.andThen_ok, binOp]
  simp [e2]
theorem LS.nek {pk : Pk} {ops : Array Oper} {d : Option Tmp} (hE : kv.Eq) (ha : kv.ok a) (hb : kv.ok b) (hy : xev Er y = some yv) (hyv : vOf yv = some (kv.v a)) (hz : xev Er z = some zv) (hzv : vOf zv = some (kv.v b)) :
    LS P pk ops { dst := d, op := .binOp .neq kt y z t', type := ty, pos := pos, after := af, guard := none } Er [] nx nx (fun x fp' => x = xb (!decide (a = b)) ∧ fp' = []) := by
  intro w0 N Q rest env own H V sg hl hV htp hf hd _ hh
  obtain ⟨p, h1, h2⟩ := hl.lks _ _ hy
  obtain ⟨q, h3, h4⟩ := hl.lks _ _ hz
  have := ec hyv h2; subst this
  have := ec hzv h4; subst this
  refine Qb hd (fun ac hac w => ?_) (hh (.bool (!decide (a = b))) _ [] V H sg ⟨rfl, rfl⟩ (by simp only [XV.rel, XA.rel, XC.rel, rd]; exact ⟨trivial, rfl⟩) hV htp (VX.refl _ _ _) (Le.refl _))
  obtain ⟨xs, ex⟩ := hE.2.1 a
  obtain ⟨ys, ey⟩ := hE.2.1 b
  have e2 := hE.2.2 a b ha hb w
  have h9 := run_eqGuard_agg (P := P) w .neq kt y z xs ys hE.1
  rw [ex, ey] at e2
  rw [ex] at h1
  rw [ey] at h3
  simp only [execOp, hac.ev h1, hac.ev h3, Sem.run_bind, h9, Result.andThen_ok, binOp]
  simp [e2]
theorem Eqk (kv : KV P kt α) (a b : α) (hE : kv.Eq) (ha : kv.ok a) (hb : kv.ok b) (hEr : vis dm ops { dst := some d, op := .binOp .eql kt y z t', type := ty, pos := pos, after := af, guard := g } E = Er) (hy : xev Er y = some yv) (hyv : vOf yv = some (kv.v a)) (hz : xev Er z = some zv) (hzv : vOf zv = some (kv.v b)) (hd : aw ops Er g = some true ∧ okD x.N (some d) = true)
    (hk : (MS.r ops (push dm ⟨i, [], false, false⟩) l k ⟨(d, xb (decide (a = b))) :: E, hp, nx⟩).ok x) (hdk : DkM dm ops ⟨i, [], false, false⟩ := by first | exact trivial | (refine DK.mk ?_; decide +kernel)) :
    (MS.r ops dm ((i, { dst := some d, op := .binOp .eql kt y z t', type := ty, pos := pos, after := af, guard := g }) :: l) k ⟨E, hp, nx⟩).ok x :=
  MS.val hEr hd (LS.eqk hE ha hb hy hyv hz hzv) hdk hk
theorem Nek (kv : KV P kt α) (a b : α) (hE : kv.Eq) (ha : kv.ok a) (hb : kv.ok b) (hEr : vis dm ops { dst := some d, op := .binOp .neq kt y z t', type := ty, pos := pos, after := af, guard := g } E = Er) (hy : xev Er y = some yv) (hyv : vOf yv = some (kv.v a)) (hz : xev Er z = some zv) (hzv : vOf zv = some (kv.v b)) (hd : aw ops Er g = some true ∧ okD x.N (some d) = true)
    (hk : (MS.r ops (push dm ⟨i, [], false, false⟩) l k ⟨(d, xb (!decide (a = b))) :: E, hp, nx⟩).ok x) (hdk : DkM dm ops ⟨i, [], false, false⟩ := by first | exact trivial | (refine DK.mk ?_; decide +kernel)) :
    (MS.r ops dm ((i, { dst := some d, op := .binOp .neq kt y z t', type := ty, pos := pos, after := af, guard := g }) :: l) k ⟨E, hp, nx⟩).ok x :=
  MS.val hEr hd (LS.nek hE ha hb hy hyv hz hzv) hdk hk
theorem Neks (kv : KV P kt α) (a b : α) (hE : kv.Eq) (ha : kv.ok a) (hb : kv.ok b) (hEr : vis dm ops { dst := some d, op := .binOp .neq kt y z t', type := ty, pos := pos, after := af, guard := g } E = Er) (hc : xcnd ops Er g = some c) (hs : sofO Er (.binOp .neq kt y z t') = (Es, ob)) (hy : xev Es y = some yv) (hyv : vOf yv = some (kv.v a)) (hz : xev Es z = some zv) (hzv : vOf zv = some (kv.v b)) (hd : okD x.N (some d) = true)
    (hk : (MS.r ops (push dm ⟨i, [], false, false⟩) l k ⟨(d, .gd c (.c (.d (.c (.bool (!decide (a = b))))))) :: E, hp, nx⟩).ok x) (hdk : DkM dm ops ⟨i, [], false, false⟩ := by first | exact trivial | (refine DK.mk ?_; decide +kernel)) (hob : c = true → aL ob := by first | exact fun _ => trivial | (intro _; repeat' (first | exact trivial | assumption | apply And.intro | (simp_all; done)))) :
    (MS.r ops dm ((i, { dst := some d, op := .binOp .neq kt y z t', type := ty, pos := pos, after := af, guard := g }) :: l) k ⟨E, hp, nx⟩).ok x :=
  MS.sft hEr hc hs hob hd (fun _ => LS.nek hE ha hb hy hyv hz hzv) hdk hk
end
theorem eqR : kvR.Eq := KV.eq_deep (by kernel_rfl) (fun _ => ⟨_, rfl⟩) (m := 4) (by omega) (by kernel_rfl) (by rw [Tryz.underlying115])
theorem eqC : kvC.Eq := KV.eq_deep (by kernel_rfl) (fun _ => ⟨_, rfl⟩) (m := 4) (by omega) (by kernel_rfl) (by rw [Tryz.underlying177])
theorem XM.bd {P : Program} {pk : Pk} {f : FuncId} {args ws : List XV} {R : XV} {B : XH} {m : Nat} {ob : List Prop} (h : XQ P pk f ws R) (hψ : ¬ pk.ψ) (hdt : dtAs B args = some (ws, ob)) (hR : scl R = true) (hc : gN m args B = true) (hn : bp (ae B) = true) (hob : aL ob := by repeat' (first | exact trivial | apply And.intro | rfl)) : XM P pk f args B m m (fun r hp' => r = R ∧ hp' = B) := by
  refine ⟨hc, by simp, h.2.2.1, ?_⟩
  rintro ⟨w0, own, H, V, nx0, F, pk', v0, hF⟩ rfl rfl rfl sg vals ha hr ht w hw
  have hfn := Fn.borrow (P := P) (f := f) (args := vals) (w0 := w0) (H := H) (own := own) (seg := sg) (ψ := fun r o => R.rel (fun _ _ => none) H r ∧ o = own) (fun H1 hle hz => by
    have h1 := XQ.toFn h hψ (w0 := w0) (own := own) (H := H1) (vals := vals) (pk'.mono hle hF.2) (ou hr hle hz hdt hob ha)
    intro w hw
    refine (h1 w hw).mono ?_
    rintro e w' ⟨v, o, H', rfl, ⟨q1, q2, q3⟩, q4⟩
    exact ⟨v, o, H', rfl, ⟨⟨ox hR q1, q2⟩, q3⟩, q4⟩)
  refine Calls.mono (hfn w hw) ?_
  rintro e w' ⟨v, own', H', rfl, ⟨o, rfl, ⟨q1, rfl⟩, q3⟩, q4⟩
  exact .inl ⟨v, R, B, V, H', sg, rfl, ⟨rfl, rfl⟩, ox hR q1, hr.mono (VLe.refl _) q3, ht, bW hn, fun b hb => .inl (List.mem_map.2 ⟨b, hb, rfl⟩), VLe.refl _, fun g t hg => by
    cases hv : V g t with
    | none => rfl
    | some i =>
      have := hF.1 g (v0 g t (by show V g t ≠ none; rw [hv]; simp)).2
      simp only at hg this; omega, fun g t h1 h2 => absurd h1 h2, q3, q4⟩
section
open Go Go.RowKit Go.Proofs K
variable {pk : Pk}
abbrev mpR (l : List (Rf × Nat)) : D := .mp (fun _ => ML kvR 3 aV l)
theorem jI {a0 a1 a2 a3 a4 a5 : D} {l : List (Rf × Nat)} {r : Rf} (hr : kvR.ok r) : XQ Tryz.prog pk 127 [xp [a0, a1, a2, a3, a4, a5, mpR l], xd (rfD r)] (xb (lkL l r).isNone) := by
  refine XQ.en Tryz.func127 Tryz.ntmps127 (fun w0 own H V v0 hf => ?_)
  refine G9 rfl (Lk2 (T := T) kvR (a := r) _ _ (aD _) rfl ba hr rfl rfl rfl rfl rfl ⟨rfl, rfl⟩ rfl ?_)
  refine G9 rfl (Fe (T := T) rfl ?_)
  show xb _ = xb _
  cases lkL l r <;> rfl
def unL (fn : Bool) (l : List (Rf × Nat)) (n : Nat) : List Rf := ((List.range n).filter fun k => (lkL l (fn, k)).isNone).map fun k => (fn, k)
theorem iX {fn : Bool} {l : List (Rf × Nat)} {n : Nat} : unL fn l (n + 1) = if (lkL l (fn, n)).isNone then unL fn l n ++ [(fn, n)] else unL fn l n := by
  rw [unL, List.range_succ, List.filter_append, List.map_append, unL]
  split; {
  rename_i h; simp [h]}; {
  rename_i h
  have : (lkL l (fn, n)).isNone = false := by cases hb : (lkL l (fn, n)).isNone with | true => exact absurd hb h | false => rfl
  simp [this]}
theorem dq {fn : Bool} {l : List (Rf × Nat)} {n : Nat} : (unL fn l n).length ≤ n := by
  rw [unL, List.length_map]
  exact Nat.le_trans (List.length_filter_le _ _) (by simp)
abbrev unB (a0 : D) (gs fs : List (List D)) (a3 a4 a5 : D) (l : List (Rf × Nat)) : XH := [⟨0, 0, .cells [.d a0, .d (.s gs), .d (.s fs), .d a3, .d a4, .d a5, .m 1 0] 111⟩, ⟨1, 0, .mp (ML kvR 3 aV l)⟩]
theorem cA {a0 a3 a4 a5 : D} {gs fs : List (List D)} {l : List (Rf × Nat)} {fn : Bool} (hg : gs.length ≤ 1000000000) (hf : fs.length ≤ 1000000000) :
    XM Tryz.prog pk0 190 [.a (.c (.p 0 0 0)), xb fn] (unB a0 gs fs a3 a4 a5 l) 2 2 (fun r hp' => r = xr ((unL fn l (if fn then fs.length else gs.length)).map rfD) ∧ hp' = unB a0 gs fs a3 a4 a5 l) := by
  refine XM.en Tryz.func190 Tryz.ntmps190 (fun w0 own H V v0 hf => ?_)
  refine G9 rfl ?_
  generalize hM : (if fn then fs.length else gs.length) = M
  have hM9 : M ≤ 1000000000 := by subst hM; split <;> assumption
  have hk : ∀ j, j < M → kvR.ok (fn, j) := fun j hj => by show j ≤ _; omega
  refine Cf [0, 1] (fun (_ : Unit) r => (5, xi (M : Nat)) :: r) (fun _ => unB a0 gs fs a3 a4 a5 l) 2 (fun _ => True) rfl ?_ ?_; {
  refine If rfl (fun h => ?_) (fun h => ?_); {
  rw [h] at hM; subst hM
  refine G9 rfl (Dn () trivial)}; {
  rw [h] at hM; subst hM
  refine G9 rfl (Dn () trivial)}}
  rintro _ -
  refine G9 rfl ((Nr 6 115 2 rfl rfl).c ?_)
  refine Lq [0, 1, 22] (fun (q : Nat × Nat × List (List D)) r => (6, .a (.c (.l 2 0 2 0 q.2.1 q.2.1))) :: (23, xi (q.1 : Nat)) :: r) (fun q => unB a0 gs fs a3 a4 a5 l ++ [⟨2, 0, .row q.2.1 q.2.2 115 2⟩]) 3 (fun q => q.1 ≤ M ∧ q.2.1 = (unL fn l q.1).length ∧ q.2.2 = (unL fn l q.1).map rfD) (fun q => M - q.1) (0, 0, []) rfl ⟨Nat.zero_le _, rfl, rfl⟩ ?_
  rintro ⟨j, n, R⟩ ⟨hj, hn, hR⟩; dsimp only at hj hn hR ⊢
  have hlen := dq (fn := fn) (l := l) (n := j)
  have hRl : R.length = n := by rw [hR, hn, List.length_map]
  refine G9 rfl (If rfl (fun h => ?_) (fun h => ?_)); {
  have hjl := of_decide_eq_true h
  refine G9 rfl (Bw [0, 1] (jI (r := (fn, j)) (hk j (by omega))) (fun h => h) rfl rfl rfl rfl rfl rfl rfl ⟨⟨rfl, rfl⟩, rfl⟩ rfl ?_)
  refine G9 rfl (If rfl (fun h1 => ?_) (fun h1 => ?_)); {
  refine G9 rfl ?_
  exact Nq (j + 1, n + 1, R ++ [rfD (fn, j)]) ⟨by show j + 1 ≤ _; omega, by rw [iX, if_pos h1, List.length_append, hn]; rfl, by rw [iX, if_pos h1, List.map_append, hR]; rfl⟩ (by show _ - (j + 1) < _ - j; omega)}; {
  refine G9 rfl ?_
  exact Nq (j + 1, n, R) ⟨by show j + 1 ≤ _; omega, by rw [iX, if_neg (by rw [h1]; simp), hn], by rw [iX, if_neg (by rw [h1]; simp), hR]⟩ (by show _ - (j + 1) < _ - j; omega)}}; {
  have hjl := of_decide_eq_false h
  obtain rfl : j = M := by omega
  refine G9 rfl (MS.fz9 2 rfl ?_)
  rw [← hR]
  exact Fm (T := T) (fun g => g) (xr R) _ ⟨rfl, rfl⟩ rfl}
abbrev Pq := Nat × Nat × Int × Int
def pqD (q : Pq) : List D := [.c (.int .i64 (q.1 : Nat)), .c (.int .i64 (q.2.1 : Nat)), .c (.int .i64 q.2.2.1), .c (.int .i64 q.2.2.2)]
def abD (q : Pq) : List D := [.c (.int .i64 (q.1 : Nat)), .c (.int .i64 (q.2.1 : Nat))]
def eG (p : Pg) : List (List D) := p.fs.map fun f => [.s ((aJ p f).map rfD)]
theorem rfsR_eq (p : Pg) : rfsR p p.fs = eG p := List.map_congr_left fun f _ => by rw [refsT_eq]
abbrev sidD (p : Pg) (l : List (Rf × Nat)) : List D := [.s (p.ts.map tdD), .s (p.gs.map gbD), .s (p.fs.map fuD), mpS (sdP p).lf, mpS (sdP p).lg, .s (eG p), mpR l]
abbrev mtD (a c : Pg) (la lc : List (Rf × Nat)) (qs qf : Nat → Obj → Prop) (F G : List Pq) : D := .p [.p (sidD a la), .p (sidD c lc), .mp qs, .mp qf, .s (F.map pqD), .s (G.map pqD)]
section
variable {a c : Pg} {la lc : List (Rf × Nat)} {qs qf : Nat → Obj → Prop} {F' G' : List Pq}
theorem lI (hF : F'.length ≤ 1000000000000) : XQ Tryz.prog pk 126 [xm (mtD a c la lc qs qf F' G')] (xr (F'.map abD)) := by
  have l1 : (F'.map pqD).length = F'.length := List.length_map ..
  refine XQ.en Tryz.func126 Tryz.ntmps126 (fun w0 own H V v0 hf => ?_)
  refine G9 rfl ((Nr 3 163 2 rfl rfl).c ?_)
  refine Lq [0, 10, 11] (fun (q : Nat × Nat × List (List D)) r => (3, .a (.c (.l 0 0 2 0 q.2.1 q.2.1))) :: (12, xi (q.1 : Nat)) :: r) (fun q => [⟨0, 0, .row q.2.1 q.2.2 163 2⟩]) 1 (fun q => q.1 ≤ F'.length ∧ q.2.1 = q.1 ∧ q.2.2 = (F'.take q.1).map abD) (fun q => F'.length - q.1) (0, 0, []) rfl ⟨Nat.zero_le _, rfl, rfl⟩ ?_
  rintro ⟨j, n, R⟩ ⟨hj, hn, hR⟩; dsimp only at hj hn hR ⊢
  have hRl : R.length = n := by rw [hR, hn, List.length_map, List.length_take]; omega
  refine G9 rfl (If rfl (fun h => ?_) (fun h => ?_)); {
  have hjl := of_decide_eq_true h; rw [l1] at hjl
  obtain ⟨y, hy⟩ := ai (l := F') (j := j) (by omega)
  refine G9 rfl (Ix (T := T) j (ab hy) rfl rfl rfl rfl ⟨rfl, rfl⟩ rfl rfl ?_)
  refine G9 rfl ?_
  exact Nq (j + 1, n + 1, R ++ [abD y]) ⟨by show j + 1 ≤ _; omega, by show n + 1 = j + 1; omega, by rw [az hy, List.map_append, hR]; rfl⟩ (by show _ - (j + 1) < _ - j; omega)}; {
  have hjl := of_decide_eq_false h; rw [l1] at hjl
  obtain rfl : j = F'.length := by omega
  refine G9 rfl (MS.fz9 0 rfl ?_)
  rw [List.take_length] at hR
  rw [← hR]
  exact Fe (T := T) rfl rfl}
theorem ref_index {l : List Rf} {r : Rf} (hr : kvR.ok r) (hl : ∀ x ∈ l, kvR.ok x) : XQ Tryz.prog pk 191 [xr (l.map rfD), xd (rfD r)] (xi (fB (fun x => decide (x = r)) l)) := by
  refine XQ.en Tryz.func191 Tryz.ntmps191 (fun w0 own H V v0 hf => ?_)
  refine Ln 0 rfl (fun hl => ?_); rw [List.length_map] at hl
  refine G (T := T) 100001 rfl ?_
  refine (FzTo.bz 0 rfl).c ?_
  refine G9 rfl (Lq [0, 3, 7] (fun (q : Nat) r => (8, xi (q : Nat)) :: r) (fun q => []) 1 (fun q => q ≤ l.length ∧ (l.take q).any (fun x => decide (x = r)) = false) (fun q => l.length - q) 0 rfl ⟨Nat.zero_le _, rfl⟩ ?_)
  rintro j ⟨hj, hI⟩
  refine G9 rfl (If rfl (fun h => ?_) (fun h => ?_)); {
  have hjl := of_decide_eq_true h; rw [List.length_map] at hjl
  obtain ⟨y, hy⟩ := ai (l := l) (j := j) (by omega)
  refine G9 rfl (Ix (T := T) j (ab hy) rfl rfl rfl rfl ⟨rfl, rfl⟩ rfl rfl ?_)
  refine G9 rfl (Eqk kvR r y eqR hr (‹∀ x ∈ l, kvR.ok x› y (List.mem_of_getElem? hy)) rfl rfl rfl rfl rfl ⟨rfl, rfl⟩ ?_)
  refine G9 rfl (If rfl (fun h1 => ?_) (fun h1 => ?_)); {
  refine G9 rfl ?_
  exact Fe (T := T) rfl (by show xi _ = xi _; rw [gy (p := fun x => decide (x = r)) hI hy (by have := of_decide_eq_true h1; exact decide_eq_true this.symm)])}; {
  refine G9 rfl ?_
  exact Nq (j + 1) ⟨by omega, eo hI hy (by have := of_decide_eq_false h1; exact decide_eq_false fun e => this e.symm)⟩ (by show _ - (j + 1) < _ - j; omega)}}; {
  have hjl := of_decide_eq_false h; rw [List.length_map] at hjl
  refine G9 rfl ?_
  exact Fe (T := T) rfl (by show xi _ = xi _; rw [iO (p := fun x => decide (x = r)) hI (by omega)])}
theorem dt {l : List Rf} {r : Rf} (hr : kvR.ok r) (hl : ∀ x ∈ l, kvR.ok x) : XQ Tryz.prog pk 138 [xr (l.map rfD), xd (rfD r)] (xb (decide (r ∈ l))) := by
  refine XQ.en Tryz.func138 Tryz.ntmps138 (fun w0 own H V v0 hf => ?_)
  refine G9 rfl (Cq (ref_index hr hl) rfl rfl rfl rfl rfl ⟨rfl, rfl⟩ ?_)
  refine G9 rfl (Fe (T := T) rfl ?_)
  show xb _ = xb _
  rw [idx_any]
  congr 1
  rw [Bool.eq_iff_iff, List.any_eq_true, decide_eq_true_eq]
  exact ⟨fun ⟨x, h1, h2⟩ => of_decide_eq_true h2 ▸ h1, fun h => ⟨r, h, by simp⟩⟩
end
end
theorem bi (l : List aj) : (ah l).Sublist l := List.filter_sublist
theorem jJ (l : List aj) : ((ah l).map (·.1)).Nodup := by
  rw [List.nodup_iff_count]
  intro x
  by_cases h : x ∈ (ah l).map (·.1); {
  obtain ⟨p, hp, rfl⟩ := List.mem_map.1 h
  have h2 := (List.mem_filter.1 hp).2
  simp only [decide_eq_true_eq] at h2
  exact Nat.le_trans (List.Sublist.count_le _ ((bi l).map _)) h2.1}; {
  rw [List.count_eq_zero_of_not_mem h]; omega}
theorem ni (l : List aj) : ((ah l).map (·.2)).Nodup := by
  rw [List.nodup_iff_count]
  intro x
  by_cases h : x ∈ (ah l).map (·.2); {
  obtain ⟨p, hp, rfl⟩ := List.mem_map.1 h
  have h2 := (List.mem_filter.1 hp).2
  simp only [decide_eq_true_eq] at h2
  exact Nat.le_trans (List.Sublist.count_le _ ((bi l).map _)) h2.2}; {
  rw [List.count_eq_zero_of_not_mem h]; omega}
theorem d7 (w : Int) : ∀ (l : List aj) (m : Ms), (l.foldl (fun m p => m.add w p) m).fs = m.fs ++ (l.filter (·.1.1)).map (fun p => ⟨p.1.2, p.2.2, w⟩) ∧ (l.foldl (fun m p => m.add w p) m).gs = m.gs ++ (l.filter fun p => !p.1.1).map (fun p => ⟨p.1.2, p.2.2, 5⟩)
  | [], m => by simp
  | p :: r, m => by
    obtain ⟨h1, h2⟩ := d7 w r (m.add w p)
    rw [List.foldl_cons, h1, h2]
    cases hp : p.1.1 with
    | true => simp [Ms.add, hp]
    | false => simp [Ms.add, hp]
structure Ms.dis (m : Ms) : Prop where
  fa : (m.fs.map (·.a)).Nodup
  fb : (m.fs.map (·.b)).Nodup
  ga : (m.gs.map (·.a)).Nodup
  gb : (m.gs.map (·.b)).Nodup
theorem gG {g : Pr → Nat} {l : List Pr} {f : Pr → Nat} {k : Nat} : ((l.find? fun p => f p == k).map g).isNone = true ↔ k ∉ l.map f := by
  rw [Option.isNone_map, Option.isNone_iff_eq_none, List.find?_eq_none, List.mem_map]
  constructor; {
  rintro h ⟨p, h1, rfl⟩
  exact h p h1 (by simp)}; {
  intro h p h1 h2
  exact h ⟨p, h1, by simpa using h2⟩}
theorem freeA_t {m : Ms} {k : Nat} : bR m (true, k) = true ↔ k ∉ m.fs.map (·.a) := gG
theorem freeA_f {m : Ms} {k : Nat} : bR m (false, k) = true ↔ k ∉ m.gs.map (·.a) := gG
theorem freeC_t {m : Ms} {k : Nat} : co m (true, k) = true ↔ k ∉ m.fs.map (·.b) := gG
theorem freeC_f {m : Ms} {k : Nat} : co m (false, k) = true ↔ k ∉ m.gs.map (·.b) := gG
theorem iY {b : Bool} {f : aj → Rf} : ∀ {l : List aj}, (l.map f).Nodup → ((l.filter fun p => (f p).1 == b).map fun p => (f p).2).Nodup
  | [], _ => List.nodup_nil
  | p :: r, h => by
    simp only [List.map_cons, List.nodup_cons] at h
    have ih := iY (b := b) h.2
    rw [List.filter_cons]
    split; {
    rename_i hb
    rw [List.map_cons, List.nodup_cons]
    refine ⟨fun hm => h.1 ?_, ih⟩
    obtain ⟨q, hq, he⟩ := List.mem_map.1 hm
    obtain ⟨hq1, hq2⟩ := List.mem_filter.1 hq
    refine List.mem_map.2 ⟨q, hq1, Prod.ext ?_ he⟩
    simp only [beq_iff_eq] at hb hq2
    rw [hb, hq2]}; {
    exact ih}
theorem pQ {m : Ms} {l : List aj} {w : Int} (hd : m.dis) (hc : ∀ p ∈ l, p.1.1 = p.2.1 ∧ bR m p.1 = true ∧ co m p.2 = true) (h1 : (l.map (·.1)).Nodup) (h2 : (l.map (·.2)).Nodup) : (l.foldl (fun m p => m.add w p) m).dis := by
  obtain ⟨e1, e2⟩ := d7 w l m
  have ft : (l.filter (·.1.1)) = l.filter fun p => p.1.1 == true := List.filter_congr fun p _ => by cases p.1.1 <;> rfl
  have ff : (l.filter fun p => !p.1.1) = l.filter fun p => p.1.1 == false := List.filter_congr fun p _ => by cases p.1.1 <;> rfl
  have ft2 : (l.filter (·.1.1)) = l.filter fun p => p.2.1 == true := List.filter_congr fun p hp => by rw [(hc p hp).1]; cases p.2.1 <;> rfl
  have ff2 : (l.filter fun p => !p.1.1) = l.filter fun p => p.2.1 == false := List.filter_congr fun p hp => by rw [(hc p hp).1]; cases p.2.1 <;> rfl
  refine ⟨?_, ?_, ?_, ?_⟩; {
  rw [e1, List.map_append, List.map_map]
  refine List.nodup_append.2 ⟨hd.fa, by rw [ft]; exact iY (f := (·.1)) h1, fun x hx y hy hxy => ?_⟩
  subst hxy
  obtain ⟨p, hp, rfl⟩ := List.mem_map.1 hy
  obtain ⟨hp1, hp2⟩ := List.mem_filter.1 hp
  have := (hc p hp1).2.1
  rw [show p.1 = (true, p.1.2) from Prod.ext hp2 rfl] at this
  exact freeA_t.1 this hx}; {
  rw [e1, List.map_append, List.map_map]
  refine List.nodup_append.2 ⟨hd.fb, by rw [ft2]; exact iY (f := (·.2)) h2, fun x hx y hy hxy => ?_⟩
  subst hxy
  obtain ⟨p, hp, rfl⟩ := List.mem_map.1 hy
  obtain ⟨hp1, hp2⟩ := List.mem_filter.1 hp
  have := (hc p hp1).2.2
  rw [show p.2 = (true, p.2.2) from Prod.ext ((hc p hp1).1.symm.trans hp2) rfl] at this
  exact freeC_t.1 this hx}; {
  rw [e2, List.map_append, List.map_map]
  refine List.nodup_append.2 ⟨hd.ga, by rw [ff]; exact iY (f := (·.1)) h1, fun x hx y hy hxy => ?_⟩
  subst hxy
  obtain ⟨p, hp, rfl⟩ := List.mem_map.1 hy
  obtain ⟨hp1, hp2⟩ := List.mem_filter.1 hp
  have := (hc p hp1).2.1
  rw [show p.1 = (false, p.1.2) from Prod.ext (by simpa using hp2) rfl] at this
  exact freeA_f.1 this hx}; {
  rw [e2, List.map_append, List.map_map]
  refine List.nodup_append.2 ⟨hd.gb, by rw [ff2]; exact iY (f := (·.2)) h2, fun x hx y hy hxy => ?_⟩
  subst hxy
  obtain ⟨p, hp, rfl⟩ := List.mem_map.1 hy
  obtain ⟨hp1, hp2⟩ := List.mem_filter.1 hp
  have := (hc p hp1).2.2
  rw [show p.2 = (false, p.2.2) from Prod.ext ((hc p hp1).1.symm.trans (by simpa using hp2)) rfl] at this
  exact freeC_f.1 this hx}
inductive Fa {α β : Type} (R : α → β → Prop) : List α → List β → Prop
  | nil : Fa R [] []
  | cons {x : α} {y : β} {l : List α} {m : List β} : R x y → Fa R l m → Fa R (x :: l) (y :: m)
theorem Fa.append {α β : Type} {R : α → β → Prop} {l l' : List α} {m m' : List β} (h : Fa R l m) (k : Fa R l' m') : Fa R (l ++ l') (m ++ m') := by
  induction h with
  | nil => exact k
  | cons h _ ih => exact .cons h ih
section
variable (a c : Pg) (la lc : List ByteArray)
def ExR (e e' : Ex) : Prop := exK e = exK e' ∧ (au a la e).isSome = (au c lc e').isSome
def EvR : Sm ⊕ Ex → Sm ⊕ Ex → Prop
  | .inl _, .inl _ => True
  | .inr e, .inr e' => ExR a c la lc e e'
  | _, _ => False
mutual
theorem form_evE : ∀ {e e' : Ex}, d4 a c la lc e e' = true → Fa (ExR a c la lc) (evE e) (evE e')
  | .mk k nm n ks, .mk k' nm' n' ks', h => by
    simp only [d4, Bool.and_eq_true, decide_eq_true_eq] at h
    exact .cons ⟨h.1.1.1, h.1.1.2.2⟩ (jK h.2)
theorem jK : ∀ {l l' : List Ex}, aW a c la lc l l' = true → Fa (ExR a c la lc) (aF l) (aF l')
  | [], [], _ => .nil
  | e :: r, e' :: r', h => by
    simp only [aW, Bool.and_eq_true] at h
    exact (form_evE h.1).append (jK h.2)
  | [], _ :: _, h => by simp [aW] at h
  | _ :: _, [], h => by simp [aW] at h
end
theorem Fa.inr {l l' : List Ex} (h : Fa (ExR a c la lc) l l') : Fa (EvR a c la lc) (l.map .inr) (l'.map .inr) := by
  induction h with
  | nil => exact .nil
  | cons h _ ih => exact .cons h ih
mutual
theorem form_evS : ∀ {s s' : Sm}, d5 a c la lc s s' = true → Fa (EvR a c la lc) (evS s) (evS s')
  | .mk k nm t n es b el cs, .mk k' nm' t' n' es' b' el' cs', h => by
    simp only [d5, Bool.and_eq_true] at h
    obtain ⟨⟨⟨⟨⟨_, _⟩, h1⟩, h2⟩, h3⟩, h4⟩ := h
    exact .cons trivial ((Fa.inr a c la lc (jK a c la lc h1)).append ((eH h2).append ((nj h4).append (eH h3))))
theorem eH : ∀ {l l' : List Sm}, aH a c la lc l l' = true → Fa (EvR a c la lc) (am l) (am l')
  | [], [], _ => .nil
  | e :: r, e' :: r', h => by
    simp only [aH, Bool.and_eq_true] at h
    exact (form_evS h.1).append (eH h.2)
  | [], _ :: _, h => by simp [aH] at h
  | _ :: _, [], h => by simp [aH] at h
theorem nj : ∀ {l l' : List (List Sm)}, a8 a c la lc l l' = true → Fa (EvR a c la lc) (aP l) (aP l')
  | [], [], _ => .nil
  | e :: r, e' :: r', h => by
    simp only [a8, Bool.and_eq_true] at h
    exact (eH h.1).append (nj h.2)
  | [], _ :: _, h => by simp [a8] at h
  | _ :: _, [], h => by simp [a8] at h
end
end
theorem lJ {p : Pg} {loc : List ByteArray} {e : Ex} {r : Rf} (h : au p loc e = some r) : (r.1 = true ∧ exK e = 14) ∨ (r.1 = false ∧ exK e = 2) := by
  unfold au at h
  split at h; {
  rename_i hk
  obtain ⟨n, _, rfl⟩ := Option.map_eq_some_iff.1 h
  exact .inl ⟨rfl, hk⟩}; {
  split at h; {
  rename_i hk
  split at h; {
  cases h}; {
  obtain ⟨n, _, rfl⟩ := Option.map_eq_some_iff.1 h
  exact .inr ⟨rfl, hk⟩}}; {
  cases h}}
theorem gH {a c : Pg} {f g : Fu} (h : cw a c f g = true) : Fa (fun r s : Rf => r.1 = s.1) (aJ a f) (aJ c g) := by
  simp only [cw, Bool.and_eq_true] at h
  have h1 := eH a c (al f) (al g) h.2
  unfold aJ
  generalize am f.body = l at h1
  generalize am g.body = m at h1
  induction h1 with
  | nil => exact .nil
  | @cons x y l m hxy _ ih =>
    rcases x with x | x <;> rcases y with y | y
    {
    simpa only [List.filterMap_cons] using ih}; {
    exact hxy.elim}; {
    exact hxy.elim}; {
    simp only [List.filterMap_cons]
    obtain ⟨hk, hs⟩ := hxy
    cases hx : au a (al f) x with
    | none =>
      rw [hx] at hs
      cases hy : au c (al g) y with
      | none => exact ih
      | some s => rw [hy] at hs; cases hs
    | some r =>
      rw [hx] at hs
      cases hy : au c (al g) y with
      | none => rw [hy] at hs; cases hs
      | some s =>
        refine .cons ?_ ih
        rcases lJ hx with ⟨e1, e2⟩ | ⟨e1, e2⟩ <;> rcases lJ hy with ⟨e3, e4⟩ | ⟨e3, e4⟩ <;> first | (rw [e1, e3]; done) | (exfalso; omega)}
def cB (m : Ms) (p : aj) : Prop := p.1.1 = p.2.1 ∧ bR m p.1 = true ∧ co m p.2 = true
section
variable {a c : Pg} {m : Ms}
theorem eI {fn : Bool} {ok : Nat → Nat → Bool} {p : aj} (h : p ∈ cK a c m fn ok) : cB m p ∧ p.1.1 = fn ∧ ok p.1.2 p.2.2 = true ∧ p.1.2 < (if fn then a.fs.length else a.gs.length) ∧ p.2.2 < (if fn then c.fs.length else c.gs.length) := by
  obtain ⟨x, hx, h⟩ := List.mem_flatMap.1 h
  obtain ⟨y, hy, rfl⟩ := List.mem_map.1 h
  obtain ⟨hy, hok⟩ := List.mem_filter.1 hy
  obtain ⟨hx1, hx2⟩ := List.mem_filter.1 hx
  obtain ⟨hy1, hy2⟩ := List.mem_filter.1 hy
  exact ⟨⟨rfl, hx2, hy2⟩, rfl, hok, List.mem_range.1 hx1, List.mem_range.1 hy1⟩
theorem Fa.zip {α β : Type} {R : α → β → Prop} {l : List α} {m : List β} (h : Fa R l m) : ∀ p ∈ List.zip l m, R p.1 p.2 := by
  induction h with
  | nil => intro p hp; cases hp
  | cons h _ ih =>
    intro p hp
    rcases List.mem_cons.1 hp with rfl | hp
    {
    exact h}; {
    exact ih p hp}
theorem ef {p : aj} (h : p ∈ ax a c m) : ∃ q ∈ m.fs, aS a c q.a q.b = true ∧ p ∈ List.zip (aG a q.a) (aG c q.b) ∧ bR m p.1 = true ∧ co m p.2 = true ∧ (p.1.1 || aK a c p.1.2 p.2.2) = true := by
  obtain ⟨q, hq, h⟩ := List.mem_flatMap.1 (dedup_mem.1 h)
  split at h; {
  rename_i hf
  obtain ⟨h1, h2⟩ := List.mem_filter.1 h
  simp only [Bool.and_eq_true] at h2
  exact ⟨q, hq, hf, h1, h2.1.1, h2.1.2, h2.2⟩}; {
  cases h}
theorem oz {p : aj} (h : p ∈ ax a c m) : cB m p := by
  obtain ⟨q, _, hf, hz, h1, h2, _⟩ := ef h
  exact ⟨(gH (show cw a c (eR a q.a) (eR c q.b) = true from hf)).zip p hz, h1, h2⟩
theorem qE {p : aj} (h : p ∈ dG a c m) : cB m p ∧ p.1.1 = true := by
  obtain ⟨h1, _⟩ := List.mem_filter.1 h
  have := eI h1
  exact ⟨this.1, this.2.1⟩
theorem lK {l : List aj} {w : Int} (h : (l, w) ∈ ed a c m) : ∀ p ∈ l, cB m p := by
  simp only [ed, List.mem_cons, Prod.mk.injEq, List.not_mem_nil, or_false] at h
  intro p hp
  rcases h with ⟨rfl, _⟩ | ⟨rfl, _⟩ | ⟨rfl, _⟩ | ⟨rfl, _⟩ | ⟨rfl, _⟩ | ⟨rfl, _⟩
  {
  exact oz hp}; {
  exact (eI hp).1}; {
  exact (eI hp).1}; {
  exact (eI hp).1}; {
  exact (eI hp).1}; {
  exact (qE hp).1}
theorem lL {m' : Ms} (h : bS a c m = some m') : ∃ l w, (l, w) ∈ ed a c m ∧ ah l ≠ [] ∧ m' = (ah l).foldl (fun m p => m.add w p) m := by
  unfold bS at h
  obtain ⟨⟨l, w⟩, h1, rfl⟩ := Option.map_eq_some_iff.1 h
  have h2 := List.mem_of_find?_eq_some h1
  have h3 := List.find?_some h1
  obtain ⟨⟨l0, w0⟩, h4, h5⟩ := List.mem_map.1 h2
  simp only [Prod.mk.injEq] at h5
  obtain ⟨rfl, rfl⟩ := h5
  exact ⟨l0, w0, h4, by simpa using h3, rfl⟩
theorem iZ {m' : Ms} (hd : m.dis) (h : bS a c m = some m') : m'.dis := by
  obtain ⟨l, w, h1, _, rfl⟩ := lL h
  exact pQ hd (fun p hp => lK h1 p ((bi l).subset hp)) (jJ l) (ni l)
theorem i7 : ∀ (k : Nat) {m : Ms}, m.dis → (bA a c k m).dis
  | 0, _, h => h
  | k + 1, m, h => by
    rw [bA]
    split; {
    rename_i m' hm; exact i7 k (iZ h hm)}; {
    exact h}
end
structure Corr (a c : Pg) (R : Rf → Prop) (good : Nat → Prop) (σ : Rf → Rf) : Prop where
  flag : ∀ r, R r → (σ r).1 = r.1
  inj : ∀ r s, R r → R s → σ r = σ s → r = s
  cl : ∀ i, R (true, i) → good i → ∀ r ∈ aG a i, R r
  form : ∀ i, R (true, i) → good i → aS a c i (σ (true, i)).2 = true ∧ aG c (σ (true, i)).2 = (aG a i).map σ
  bad : ∀ i, R (true, i) → ¬ good i → aS a c i (σ (true, i)).2 = false
  alike : ∀ n, R (false, n) → aK a c n (σ (false, n)).2 = true
def On (R : Rf → Prop) (σ : Rf → Rf) (m : Ms) : Prop := (∀ p ∈ m.fs, R (true, p.a) ∧ p.b = (σ (true, p.a)).2) ∧ ∀ p ∈ m.gs, R (false, p.a) ∧ p.b = (σ (false, p.a)).2
section
variable {a c : Pg} {R : Rf → Prop} {good : Nat → Prop} {σ : Rf → Rf} {m : Ms}
theorem zip_map {l : List Rf} {p : aj} (h : p ∈ List.zip l (l.map σ)) : p.1 ∈ l ∧ p.2 = σ p.1 := by
  induction l with
  | nil => cases h
  | cons x r ih =>
    rcases List.mem_cons.1 h with rfl | h
    {
    exact ⟨List.mem_cons_self .., rfl⟩}; {
    exact ⟨List.mem_cons_of_mem _ (ih h).1, (ih h).2⟩}
theorem mem_zip {x : Rf} : ∀ {l : List Rf}, x ∈ l → (x, σ x) ∈ List.zip l (l.map σ)
  | y :: r, h => by
    rcases List.mem_cons.1 h with rfl | h
    {
    exact List.mem_cons_self ..}; {
    exact List.mem_cons_of_mem _ (mem_zip h)}
theorem pos_on (hc : Corr a c R good σ) (hm : On R σ m) {p : aj} (h : p ∈ ax a c m) : R p.1 ∧ p.2 = σ p.1 := by
  obtain ⟨q, hq, hf, hz, _⟩ := ef h
  obtain ⟨hR, hb⟩ := hm.1 q hq
  rw [hb] at hf hz
  by_cases hg : good q.a; {
  rw [(hc.form _ hR hg).2] at hz
  obtain ⟨h1, h2⟩ := zip_map hz
  exact ⟨hc.cl _ hR hg _ h1, h2⟩}; {
  rw [hc.bad _ hR hg] at hf; cases hf}
theorem clear_id {l : List aj} (hn : l.Nodup) (h : ∀ p ∈ l, R p.1 ∧ p.2 = σ p.1) (hi : ∀ r s, R r → R s → σ r = σ s → r = s) : ah l = l := by
  have n1 : (l.map (·.1)).Nodup := by
    clear hi
    induction l with
    | nil => exact List.nodup_nil
    | cons p r ih =>
      rw [List.nodup_cons] at hn
      refine List.nodup_cons.2 ⟨fun hp => hn.1 ?_, ih hn.2 fun q hq => h q (List.mem_cons_of_mem _ hq)⟩
      obtain ⟨q, hq, e⟩ := List.mem_map.1 hp
      have e2 : q = p := Prod.ext e (by rw [(h q (List.mem_cons_of_mem _ hq)).2, (h p (List.mem_cons_self ..)).2, e])
      exact e2 ▸ hq
  have n2 : (l.map (·.2)).Nodup := by
    induction l with
    | nil => exact List.nodup_nil
    | cons p r ih =>
      rw [List.nodup_cons] at hn
      rw [List.map_cons, List.nodup_cons] at n1
      refine List.nodup_cons.2 ⟨fun hp => hn.1 ?_, ih hn.2 (fun q hq => h q (List.mem_cons_of_mem _ hq)) n1.2⟩
      obtain ⟨q, hq, e⟩ := List.mem_map.1 hp
      have h1 := h q (List.mem_cons_of_mem _ hq)
      have h2 := h p (List.mem_cons_self ..)
      have e2 := hi _ _ h1.1 h2.1 (by rw [← h1.2, ← h2.2]; exact e)
      exact (Prod.ext e2 e : q = p) ▸ hq
  refine List.filter_eq_self.2 fun p hp => ?_
  simp only [decide_eq_true_eq]
  exact ⟨List.nodup_iff_count.1 n1 _, List.nodup_iff_count.1 n2 _⟩
theorem qF (hc : Corr a c R good σ) (hm : On R σ m) (hp : ax a c m ≠ []) : ∃ m', bS a c m = some m' ∧ On R σ m' ∧ m' = (ax a c m).foldl (fun m p => m.add 2 p) m := by
  have hcl : ah (ax a c m) = ax a c m := clear_id (cn _) (fun p h => pos_on hc hm h) hc.inj
  refine ⟨_, ?_, ?_, rfl⟩; {
  have hne : (ax a c m).isEmpty = false := by
    cases h : ax a c m with
    | nil => exact absurd h hp
    | cons _ _ => rfl
  unfold bS ed
  simp only [List.map_cons, hcl, List.find?_cons, hne, Bool.not_false, Option.map_some]}; {
  obtain ⟨e1, e2⟩ := d7 2 (ax a c m) m
  refine ⟨fun p h => ?_, fun p h => ?_⟩; {
  rw [e1] at h
  rcases List.mem_append.1 h with h | h
  {
  exact hm.1 p h}; {
  obtain ⟨q, hq, rfl⟩ := List.mem_map.1 h
  obtain ⟨hq1, hq2⟩ := List.mem_filter.1 hq
  obtain ⟨h1, h2⟩ := pos_on hc hm hq1
  have e : q.1 = (true, q.1.2) := Prod.ext hq2 rfl
  exact ⟨e ▸ h1, by show q.2.2 = _; rw [h2, ← e]⟩}}; {
  rw [e2] at h
  rcases List.mem_append.1 h with h | h
  {
  exact hm.2 p h}; {
  obtain ⟨q, hq, rfl⟩ := List.mem_map.1 h
  obtain ⟨hq1, hq2⟩ := List.mem_filter.1 hq
  obtain ⟨h1, h2⟩ := pos_on hc hm hq1
  have e : q.1 = (false, q.1.2) := Prod.ext (by simpa using hq2) rfl
  exact ⟨e ▸ h1, by show q.2.2 = _; rw [h2, ← e]⟩}}}
theorem qG (hc : Corr a c R good σ) (hm : On R σ m) (hp : ax a c m = []) {q : Pr} (hq : q ∈ m.fs) (hg : good q.a) : ∀ x ∈ aG a q.a, bR m x = false := by
  intro x hx
  cases hf : bR m x with
  | false => rfl
  | true =>
    obtain ⟨hR, hb⟩ := hm.1 q hq
    have hRx := hc.cl _ hR hg x hx
    have hfl := hc.flag x hRx
    have hC : co m (σ x) = true := by
      obtain ⟨fl, n⟩ := x
      have e : σ (fl, n) = (fl, (σ (fl, n)).2) := Prod.ext hfl rfl
      rw [e]
      cases fl with
      | true =>
        rw [freeC_t]
        intro h
        obtain ⟨p, hp1, hp2⟩ := List.mem_map.1 h
        obtain ⟨h3, h4⟩ := hm.1 p hp1
        have : σ (true, p.a) = σ (true, n) := by rw [e]; exact Prod.ext (hc.flag _ h3) (h4 ▸ hp2)
        have := hc.inj _ _ h3 hRx this
        simp only [Prod.mk.injEq, true_and] at this
        exact freeA_t.1 hf (List.mem_map.2 ⟨p, hp1, this⟩)
      | false =>
        rw [freeC_f]
        intro h
        obtain ⟨p, hp1, hp2⟩ := List.mem_map.1 h
        obtain ⟨h3, h4⟩ := hm.2 p hp1
        have : σ (false, p.a) = σ (false, n) := by rw [e]; exact Prod.ext (hc.flag _ h3) (h4 ▸ hp2)
        have := hc.inj _ _ h3 hRx this
        simp only [Prod.mk.injEq, true_and] at this
        exact freeA_f.1 hf (List.mem_map.2 ⟨p, hp1, this⟩)
    have hz : (x, σ x) ∈ List.zip (aG a q.a) (aG c q.b) := by
      rw [hb, (hc.form _ hR hg).2]
      exact mem_zip hx
    have ha : (x.1 || aK a c x.2 (σ x).2) = true := by
      obtain ⟨fl, n⟩ := x
      cases fl with
      | true => rfl
      | false => exact hc.alike n hRx
    have hmem : (x, σ x) ∈ ax a c m := by
      refine dedup_mem.2 (List.mem_flatMap.2 ⟨q, hq, ?_⟩)
      rw [if_pos (by rw [hb]; exact (hc.form _ hR hg).1)]
      refine List.mem_filter.2 ⟨hz, ?_⟩
      simp only [hf, hC, ha, Bool.and_self]
    rw [hp] at hmem; cases hmem
end
def Ms.eqv (m m' : Ms) : Prop := m.fs.Perm m'.fs ∧ m.gs.Perm m'.gs
theorem Ms.eqv.refl (m : Ms) : m.eqv m := ⟨.refl _, .refl _⟩
theorem Ms.eqv.symm {m m' : Ms} (h : m.eqv m') : m'.eqv m := ⟨h.1.symm, h.2.symm⟩
theorem Ms.eqv.trans {a b c : Ms} (h : a.eqv b) (k : b.eqv c) : a.eqv c := ⟨h.1.trans k.1, h.2.trans k.2⟩
theorem Ms.eqv.dis {m m' : Ms} (h : m.eqv m') (hd : m.dis) : m'.dis :=
  ⟨(h.1.map _).nodup_iff.1 hd.fa, (h.1.map _).nodup_iff.1 hd.fb, (h.2.map _).nodup_iff.1 hd.ga, (h.2.map _).nodup_iff.1 hd.gb⟩
theorem lM {f : Pr → Nat} : ∀ {l : List Pr}, (l.map f).Nodup → ∀ {k : Nat} {p : Pr}, l.find? (fun p => f p == k) = some p ↔ p ∈ l ∧ f p = k
  | [], _, k, p => by simp
  | q :: r, hn, k, p => by
    simp only [List.map_cons, List.nodup_cons] at hn
    rw [List.find?_cons]
    by_cases hq : f q = k; {
    rw [show (f q == k) = true by simpa using hq]
    simp only [Option.some.injEq, List.mem_cons]
    constructor; {
    rintro rfl; exact ⟨.inl rfl, hq⟩}; {
    rintro ⟨h | h, hk⟩
    {
    exact h.symm}; {
    exact absurd (List.mem_map.2 ⟨p, h, hk.trans hq.symm⟩) hn.1}}}; {
    rw [show (f q == k) = false by simpa using hq]
    simp only [List.mem_cons]
    rw [lM hn.2]
    constructor; {
    rintro ⟨h, hk⟩; exact ⟨.inr h, hk⟩}; {
    rintro ⟨h | h, hk⟩
    {
    exact absurd (h ▸ hk) hq}; {
    exact ⟨h, hk⟩}}}
theorem gI {f g : Pr → Nat} {l l' : List Pr} (hp : l.Perm l') (hn : (l.map f).Nodup) (k : Nat) : (l.find? (fun p => f p == k)).map g = (l'.find? (fun p => f p == k)).map g := by
  have hn' : (l'.map f).Nodup := (hp.map _).nodup_iff.1 hn
  congr 1
  apply Option.ext
  intro p
  rw [lM hn, lM hn', hp.mem_iff]
section
variable {m m' : Ms}
theorem pa_eqv (h : m.eqv m') (hd : m.dis) (r : Rf) : m.pa r = m'.pa r := by
  obtain ⟨b, n⟩ := r
  cases b; {
  exact gI h.2 hd.ga n}; {
  exact gI h.1 hd.fa n}
theorem pc_eqv (h : m.eqv m') (hd : m.dis) (r : Rf) : m.pc r = m'.pc r := by
  obtain ⟨b, n⟩ := r
  cases b; {
  exact gI h.2 hd.gb n}; {
  exact gI h.1 hd.fb n}
theorem nk (h : m.eqv m') (hd : m.dis) (r : Rf) : bR m r = bR m' r := by unfold bR; rw [pa_eqv h hd]
theorem nl (h : m.eqv m') (hd : m.dis) (r : Rf) : co m r = co m' r := by unfold co; rw [pc_eqv h hd]
variable {a c : Pg}
theorem pT {α : Type} {l l' : List α} (h : l.Perm l') (p : α → Bool) : l.all p = l'.all p := by
  rw [Bool.eq_iff_iff, List.all_eq_true, List.all_eq_true]
  exact ⟨fun k x hx => k x (h.mem_iff.2 hx), fun k x hx => k x (h.mem_iff.1 hx)⟩
theorem pU {α : Type} {l l' : List α} (h : l.Perm l') (p : α → Bool) : l.any p = l'.any p := by
  rw [Bool.eq_iff_iff, List.any_eq_true, List.any_eq_true]
  exact ⟨fun ⟨x, hx, k⟩ => ⟨x, h.mem_iff.1 hx, k⟩, fun ⟨x, hx, k⟩ => ⟨x, h.mem_iff.2 hx, k⟩⟩
theorem mD (h : m.eqv m') (hd : m.dis) : (ax a c m).Perm (ax a c m') := by
  refine (List.perm_ext_iff_of_nodup (cn _) (cn _)).2 fun p => ?_
  rw [dedup_mem, dedup_mem, List.mem_flatMap, List.mem_flatMap]
  have e : (fun q : Rf × Rf => bR m q.1 && co m q.2 && (q.1.1 || aK a c q.1.2 q.2.2)) = fun q => bR m' q.1 && co m' q.2 && (q.1.1 || aK a c q.1.2 q.2.2) := funext fun q => by rw [nk h hd, nl h hd]
  constructor; {
  rintro ⟨q, hq, k⟩
  refine ⟨q, h.1.mem_iff.1 hq, ?_⟩
  split at k; {
  rw [if_pos (by assumption)]; simp only [e] at k; exact k}; {
  cases k}}; {
  rintro ⟨q, hq, k⟩
  refine ⟨q, h.1.mem_iff.2 hq, ?_⟩
  split at k; {
  rw [if_pos (by assumption)]; simp only [e]; exact k}; {
  cases k}}
theorem un_eqv (h : m.eqv m') (hd : m.dis) (fn : Bool) : unA a m fn = unA a m' fn ∧ unC c m fn = unC c m' fn := by
  unfold unA unC
  exact ⟨by congr 1; funext k; rw [nk h hd], by congr 1; funext k; rw [nl h hd]⟩
theorem eJ (h : m.eqv m') (hd : m.dis) (fn : Bool) {ok ok' : Nat → Nat → Bool} (hok : ∀ x y, ok x y = ok' x y) : cK a c m fn ok = cK a c m' fn ok' := by
  have : ok = ok' := funext fun x => funext fun y => hok x y
  subst this
  unfold cK
  rw [(un_eqv (a := a) (c := c) h hd fn).1, (un_eqv (a := a) (c := c) h hd fn).2]
theorem agree_eqv (h : m.eqv m') (hd : m.dis) (x y : Nat) : ik a c m x y = ik a c m' x y := by
  unfold ik
  have e : m.pa = m'.pa := funext fun r => pa_eqv h hd r
  have e2 : m.pc = m'.pc := funext fun r => pc_eqv h hd r
  rw [e, e2]
theorem nn (h : m.eqv m') (r s : Rf) : eT a c m r s = eT a c m' r s := by
  unfold eT; rw [pT h.1, pU h.1]
theorem pV (h : m.eqv m') (x y : Nat) : dF a c m x y = dF a c m' x y := by
  unfold dF; rw [pT h.1, pU h.1]
theorem pW (h : m.eqv m') (hd : m.dis) : dG a c m = dG a c m' := by
  unfold dG; rw [eJ h hd true (fun _ _ => rfl)]
theorem qH {l l' : List aj} (h : l.Perm l') : (ah l).Perm (ah l') := by
  unfold ah
  have : (fun p : aj => decide ((l.map (·.1)).count p.1 ≤ 1 ∧ (l.map (·.2)).count p.2 ≤ 1)) = fun p => decide ((l'.map (·.1)).count p.1 ≤ 1 ∧ (l'.map (·.2)).count p.2 ≤ 1) := funext fun p => by
    rw [(h.map (·.1)).count_eq, (h.map (·.2)).count_eq]
  rw [this]
  exact h.filter _
theorem oA {α : Type} {l l' : List α} (h : l.Perm l') : l.isEmpty = l'.isEmpty := by
  cases l with
  | nil => rw [List.nil_perm.1 h]
  | cons x r => cases l' with
    | nil => exact absurd h.length_eq (by simp)
    | cons => rfl
theorem add_perm {l l' : List aj} (w : Int) (h : m.eqv m') (hl : l.Perm l') : (l.foldl (fun m p => m.add w p) m).eqv (l'.foldl (fun m p => m.add w p) m') := by
  obtain ⟨e1, e2⟩ := d7 w l m
  obtain ⟨e3, e4⟩ := d7 w l' m'
  exact ⟨by rw [e1, e3]; exact h.1.append ((hl.filter _).map _), by rw [e2, e4]; exact h.2.append ((hl.filter _).map _)⟩
def OptE : Option Ms → Option Ms → Prop
  | none, none => True
  | some a, some b => a.eqv b
  | _, _ => False
theorem np {L L' : List (List aj × Int)} (w : Ms.eqv m m') (h : Fa (fun p q : List aj × Int => p.1.Perm q.1 ∧ p.2 = q.2) L L') :
    OptE (((L.map fun (l, w) => (ah l, w)).find? (fun (l, _) => !l.isEmpty)).map fun (l, w) => l.foldl (fun m p => m.add w p) m) (((L'.map fun (l, w) => (ah l, w)).find? (fun (l, _) => !l.isEmpty)).map fun (l, w) => l.foldl (fun m p => m.add w p) m') := by
  induction h with
  | nil => exact trivial
  | @cons p q L L' hpq _ ih =>
    obtain ⟨l, w1⟩ := p
    obtain ⟨l', w2⟩ := q
    obtain ⟨h1, rfl⟩ := hpq
    simp only at h1
    have hc := qH h1
    simp only [List.map_cons, List.find?_cons]
    rw [oA hc]
    cases (ah l').isEmpty with
    | true => exact ih
    | false => exact add_perm _ w hc
theorem step_eqv (h : m.eqv m') (hd : m.dis) : OptE (bS a c m) (bS a c m') := by
  unfold bS ed
  refine np h (.cons ⟨mD h hd, rfl⟩ (.cons ⟨?_, rfl⟩ (.cons ⟨?_, rfl⟩ (.cons ⟨?_, rfl⟩ (.cons ⟨?_, rfl⟩ (.cons ⟨?_, rfl⟩ .nil)))))); {
  simp only; rw [eJ h hd true (fun x y => by rw [agree_eqv h hd])]}; {
  simp only; rw [eJ h hd true (fun x y => nn h _ _)]}; {
  simp only; rw [eJ h hd true (fun x y => pV h _ _)]}; {
  simp only; rw [eJ h hd false (fun x y => by rw [nn h])]}; {
  simp only; rw [pW h hd]}
theorem pX : ∀ (k : Nat) {m m' : Ms}, m.eqv m' → m.dis → (bA a c k m).eqv (bA a c k m')
  | 0, _, _, h, _ => h
  | k + 1, m, m', h, hd => by
    have hs := step_eqv (a := a) (c := c) h hd
    simp only [bA]
    cases h1 : bS a c m with
    | none => cases h2 : bS a c m' with
      | none => exact h
      | some y => rw [h1, h2] at hs; exact hs.elim
    | some x => cases h2 : bS a c m' with
      | none => rw [h1, h2] at hs; exact hs.elim
      | some y => rw [h1, h2] at hs; exact pX k hs (iZ hd h1)
end
structure Ms.rng (a c : Pg) (m : Ms) : Prop where
  f : ∀ p ∈ m.fs, p.a < a.fs.length ∧ p.b < c.fs.length
  g : ∀ p ∈ m.gs, p.a < a.gs.length ∧ p.b < c.gs.length
def Rf.rng (p : Pg) (r : Rf) : Prop := r.2 < (if r.1 then p.fs.length else p.gs.length)
theorem c7 {l : List ByteArray} {s : ByteArray} {i : Nat} (h : ak l s = some i) : i < l.length := by
  unfold ak at h
  obtain ⟨h1, _⟩ := List.findIdx?_eq_some_iff_getElem.1 h
  exact h1
theorem refer_rng {p : Pg} {loc : List ByteArray} {e : Ex} {r : Rf} (h : au p loc e = some r) : Rf.rng p r := by
  unfold au at h
  split at h; {
  obtain ⟨n, hn, rfl⟩ := Option.map_eq_some_iff.1 h
  have := c7 hn
  simpa [Rf.rng] using this}; {
  split at h; {
  split at h; {
  cases h}; {
  obtain ⟨n, hn, rfl⟩ := Option.map_eq_some_iff.1 h
  have := c7 hn
  simpa [Rf.rng] using this}}; {
  cases h}}
theorem cC {p : Pg} {f : Fu} : ∀ r ∈ aJ p f, Rf.rng p r := fun r hr => by
  unfold aJ at hr
  obtain ⟨v, _, hv⟩ := List.mem_filterMap.1 hr
  rcases v with v | v
  {
  cases hv}; {
  exact refer_rng hv}
section
variable {a c : Pg} {m : Ms}
theorem zip_mem {α β : Type} {l : List α} {k : List β} {p : α × β} (h : p ∈ List.zip l k) : p.1 ∈ l ∧ p.2 ∈ k := List.of_mem_zip (a := p.1) (b := p.2) h
theorem rules_rng {l : List aj} {w : Int} (h : (l, w) ∈ ed a c m) : ∀ p ∈ l, Rf.rng a p.1 ∧ Rf.rng c p.2 := by
  simp only [ed, List.mem_cons, Prod.mk.injEq, List.not_mem_nil, or_false] at h
  have key : ∀ {fn : Bool} {ok : Nat → Nat → Bool}, ∀ p ∈ cK a c m fn ok, Rf.rng a p.1 ∧ Rf.rng c p.2 := fun {fn ok} p hp => by
    obtain ⟨⟨h1, _, _⟩, h2, _, h3, h4⟩ := eI hp
    unfold Rf.rng
    rw [← h1, h2]; exact ⟨h3, h4⟩
  intro p hp
  rcases h with ⟨rfl, _⟩ | ⟨rfl, _⟩ | ⟨rfl, _⟩ | ⟨rfl, _⟩ | ⟨rfl, _⟩ | ⟨rfl, _⟩
  {
  obtain ⟨q, _, _, hz, _⟩ := ef hp
  obtain ⟨h1, h2⟩ := zip_mem hz
  exact ⟨cC _ h1, cC _ h2⟩}; {
  exact key p hp}; {
  exact key p hp}; {
  exact key p hp}; {
  exact key p hp}; {
  exact key p (List.mem_filter.1 hp).1}
theorem pY {l : List aj} {w : Int} (hm : m.rng a c) (hl : ∀ p ∈ l, p.1.1 = p.2.1 ∧ Rf.rng a p.1 ∧ Rf.rng c p.2) : (l.foldl (fun m p => m.add w p) m).rng a c := by
  obtain ⟨e1, e2⟩ := d7 w l m
  refine ⟨fun p hp => ?_, fun p hp => ?_⟩; {
  rw [e1] at hp
  rcases List.mem_append.1 hp with hp | hp
  {
  exact hm.f p hp}; {
  obtain ⟨q, hq, rfl⟩ := List.mem_map.1 hp
  obtain ⟨h1, h2⟩ := List.mem_filter.1 hq
  obtain ⟨h3, h4, h5⟩ := hl q h1
  unfold Rf.rng at h4 h5
  rw [if_pos h2] at h4
  rw [if_pos (h3 ▸ h2)] at h5
  exact ⟨h4, h5⟩}}; {
  rw [e2] at hp
  rcases List.mem_append.1 hp with hp | hp
  {
  exact hm.g p hp}; {
  obtain ⟨q, hq, rfl⟩ := List.mem_map.1 hp
  obtain ⟨h1, h2⟩ := List.mem_filter.1 hq
  obtain ⟨h3, h4, h5⟩ := hl q h1
  have h6 : q.1.1 = false := by simpa using h2
  unfold Rf.rng at h4 h5
  rw [if_neg (by rw [h6]; simp)] at h4
  rw [if_neg (by rw [← h3, h6]; simp)] at h5
  exact ⟨h4, h5⟩}}
theorem lO {m' : Ms} (hm : m.rng a c) (h : bS a c m = some m') : m'.rng a c ∧ m.fs.length + m.gs.length < m'.fs.length + m'.gs.length := by
  obtain ⟨l, w, h1, h2, rfl⟩ := lL h
  have hs := (bi l).subset
  refine ⟨pY hm fun p hp => ⟨(lK h1 p (hs hp)).1, rules_rng h1 p (hs hp)⟩, ?_⟩
  obtain ⟨e1, e2⟩ := d7 w (ah l) m
  rw [e1, e2]
  simp only [List.length_append, List.length_map]
  have : ∀ k : List aj, (k.filter (·.1.1)).length + (k.filter fun p => !p.1.1).length = k.length := fun k => by
    induction k with
    | nil => rfl
    | cons p r ih => cases hp : p.1.1 <;> simp [hp] at ih ⊢ <;> omega
  have h3 := this (ah l)
  have h4 : 0 < (ah l).length := List.length_pos_iff.2 h2
  omega
theorem Ms.rng.le (hm : m.rng a c) (hd : m.dis) : m.fs.length ≤ a.fs.length ∧ m.gs.length ≤ a.gs.length := by
  have key : ∀ {l : List Nat} {n : Nat}, l.Nodup → (∀ x ∈ l, x < n) → l.length ≤ n := fun {l n} hn hl => by
    have := kF (b := List.range n) hn (fun x hx => List.mem_range.2 (hl x hx))
    simpa using this
  have h1 := key hd.fa (n := a.fs.length) (fun x hx => by obtain ⟨p, hp, rfl⟩ := List.mem_map.1 hx; exact (hm.f p hp).1)
  have h2 := key hd.ga (n := a.gs.length) (fun x hx => by obtain ⟨p, hp, rfl⟩ := List.mem_map.1 hx; exact (hm.g p hp).1)
  simp only [List.length_map] at h1 h2
  exact ⟨h1, h2⟩
theorem loop_stop (h : bS a c m = none) : ∀ k, bA a c k m = m
  | 0 => rfl
  | k + 1 => by simp only [bA, h]
end
section
open Go Go.RowKit Go.Proofs K
section
variable {P : Program} {x : Cx P} {k : List Fr} {E Er : XE} {hp : XH} {nx i : Nat} {ops : List Oper} {dm : Option (List Rc)} {l : List (Nat × Oper)} {d : Tmp} {ty : TypeId} {pos : String} {af : Array Edge} {g : Option (Nat × Bool)} {a b : Operand} {tx t' : TypeId} {u v : Bool}
theorem NeB (hu : P.underlying tx = some .bool) (hEr : vis dm ops { dst := some d, op := .binOp .neq tx a b t', type := ty, pos := pos, after := af, guard := g } E = Er) (ha : xev Er a = some (xb u)) (hb : xev Er b = some (xb v)) (hd : aw ops Er g = some true ∧ okD x.N (some d) = true)
    (hk : (MS.r ops (push dm ⟨i, [], false, false⟩) l k ⟨(d, xb (!(u == v))) :: E, hp, nx⟩).ok x) (hdk : DkM dm ops ⟨i, [], false, false⟩ := by first | exact trivial | (refine DK.mk ?_; decide +kernel)) :
    (MS.r ops dm ((i, { dst := some d, op := .binOp .neq tx a b t', type := ty, pos := pos, after := af, guard := g }) :: l) k ⟨E, hp, nx⟩).ok x := by
  refine MS.val hEr hd ?_ hdk hk
  intro w0 N Q rest env own H V sg hl hV htp hf hd _ hh
  obtain ⟨p, h1, h2⟩ := hl.lks _ _ ha
  obtain ⟨q, h3, h4⟩ := hl.lks _ _ hb
  rw [bk h2] at h1
  rw [bk h4] at h3
  refine Qb hd (fun ac ha w => ?_) (hh (.bool (!(u == v))) _ [] V H sg ⟨rfl, rfl⟩ (by simp only [XV.rel, XA.rel, XC.rel, rd]; exact ⟨trivial, rfl⟩) hV htp (VX.refl _ _ _) (Le.refl _))
  have e1 : ∀ d w, (Op.equalIn (d + 1) tx (.bool u) (.bool v)).run P w = .ok (u == v) w := fun d w => by simp [Op.equalIn, run_underlying hu]
  have e2 : ∀ w, (Op.equal tx (.bool u) (.bool v)).run P w = .ok (u == v) w := fun w => e1 9999 w
  have e3 : eqGuard .neq tx a b (.bool u) (.bool v) = (Pure.pure () : Sem Unit) := rfl
  simp [execOp, ha.ev h1, ha.ev h3, e3, binOp, e2]
end
variable {pk : Pk} {a c : Pg} {la lc : List (Rf × Nat)} {qs qf : Nat → Obj → Prop} {F' G' : List Pq}
theorem aO {p : Pg} {j : Nat} {f : Fu} (h : p.fs[j]? = some f) : eR p j = f := by rw [eR, List.getD_eq_getElem?_getD, h]; rfl
theorem gbAt_eq {p : Pg} {j : Nat} {f : Gb} (h : p.gs[j]? = some f) : iR p j = f := by rw [iR, List.getD_eq_getElem?_getD, h]; rfl
theorem c8 {p : Pg} {j : Nat} {f : Fu} (h : p.fs[j]? = some f) : (eG p)[j]? = some [.s ((aJ p f).map rfD)] := ab (f := fun f => [X.D.s ((aJ p f).map rfD)]) h
theorem d8 {p : Pg} {B : Nat} (hp : p.ok B) (hB : B ≤ 1000000000) {f : Fu} : ∀ r ∈ aJ p f, kvR.ok r := fun r hr => by
  have h1 := cC r hr
  have := hp.fl
  have := hp.gl
  unfold Rf.rng at h1
  show r.2 ≤ _
  split at h1 <;> omega
theorem pZ {x y : Nat} (hx : x < a.gs.length) (hy : y < c.gs.length) : XQ Tryz.prog pk 128 [xm (mtD a c la lc qs qf F' G'), xi (x : Nat), xi (y : Nat)] (xb (aK a c x y)) := by
  obtain ⟨g, hg⟩ := ai hx
  obtain ⟨h, hh⟩ := ai hy
  have e : aK a c x y = (bh g.ty h.ty && decide ((g.bank = -1) ↔ (h.bank = -1))) := by rw [aK, gbAt_eq hg, gbAt_eq hh]
  rw [e]
  refine XQ.en Tryz.func128 Tryz.ntmps128 (fun w0 own H V v0 hf => ?_)
  refine G9 rfl (Ix (T := T) x (ab hg) rfl rfl rfl rfl ⟨rfl, rfl⟩ rfl rfl ?_)
  refine G9 rfl (Ix (T := T) y (ab hh) rfl rfl rfl rfl ⟨rfl, rfl⟩ rfl rfl ?_)
  refine Gs (T := T) 1000 rfl ?_
  refine Cq (fg _ g.ty h.ty (Nat.le_refl _)) rfl rfl rfl rfl rfl ⟨rfl, rfl⟩ ?_
  refine Gs (T := T) 1000 rfl ?_
  refine Eqs Tryz.underlying4 rfl rfl rfl rfl rfl rfl ?_
  refine Gs (T := T) 1000 rfl ?_
  refine Fe (T := T) rfl ?_
  show xb _ = xb _
  congr 2
  by_cases h1 : g.bank = -1 <;> by_cases h2 : h.bank = -1 <;> simp [h1, h2]
theorem lP {x y : Nat} (hx : x < a.fs.length) (hy : y < c.fs.length) : XQ Tryz.prog pk 133 [xm (mtD a c la lc qs qf F' G'), xi (x : Nat), xi (y : Nat)] (xb (bj a c x y)) := by
  obtain ⟨g, hg⟩ := ai hx
  obtain ⟨h, hh⟩ := ai hy
  have e : bj a c x y = (!g.fl && !h.fl) := by rw [bj, aO hg, aO hh]
  rw [e]
  refine XQ.en Tryz.func133 Tryz.ntmps133 (fun w0 own H V v0 hf => ?_)
  refine Gs (T := T) 1000 rfl ?_
  refine Ix (T := T) x (ab hg) rfl rfl rfl rfl ⟨rfl, rfl⟩ rfl rfl ?_
  refine Gs (T := T) 1000 rfl ?_
  refine Is (T := T) y (fuD h) (fun _ => ⟨ab hh, rfl⟩) rfl rfl rfl rfl rfl rfl rfl rfl ?_
  refine Gs (T := T) 1000 rfl ?_
  exact Fe (T := T) rfl rfl
def oneF (A B : Pq → Bool) (l : List Pq) : Bool := l.all (fun q => A q == B q) && l.any A
structure Inr (a c : Pg) (l : List Pq) : Prop where
  f : ∀ q ∈ l, q.1 < a.fs.length ∧ q.2.1 < c.fs.length
  n : l.length ≤ 1000000000000
theorem p4 {α : Type} {p : α → Bool} {l : List α} {j : Nat} {y : α} (h : (l.take j).all p = true) (hy : l[j]? = some y) (hp : p y = true) : (l.take (j + 1)).all p = true := by
  rw [az hy, List.all_append, h]; simp [hp]
theorem all_not {α : Type} {p : α → Bool} {l : List α} {j : Nat} {y : α} (hy : l[j]? = some y) (hp : p y = false) : l.all p = false := by
  rw [List.all_eq_false]; exact ⟨y, List.mem_of_getElem? hy, by simp [hp]⟩
theorem p5 {B : Nat} (ha : a.ok B) (hc : c.ok B) (hB : B ≤ 1000000000) (hF : Inr a c F') {r s : Rf} (hr : kvR.ok r) (hs : kvR.ok s) : XQ Tryz.prog pk 136 [xm (mtD a c la lc qs qf F' G'), xd (rfD r), xd (rfD s)] (xb (oneF (fun q => decide (r ∈ aG a q.1)) (fun q => decide (s ∈ aG c q.2.1)) F')) := by
  generalize hA : (fun q : Pq => decide (r ∈ aG a q.1)) = A
  generalize hC : (fun q : Pq => decide (s ∈ aG c q.2.1)) = C
  have l1 : (F'.map abD).length = F'.length := List.length_map ..
  have hFn := hF.n
  refine XQ.en Tryz.func136 Tryz.ntmps136 (fun w0 own H V v0 hf => ?_)
  refine G (T := T) 100001 rfl ?_
  refine (FzTo.bz 0 rfl).c ?_
  refine (FzTo.bz 1 rfl).c ?_
  refine G9 rfl (Cq (lI hF.n) rfl rfl rfl rfl rfl ⟨rfl, rfl⟩ ?_)
  refine G9 rfl (Lq [0, 4, 5, 13, 14] (fun (q : Nat) r => (7, xb ((F'.take q).any A)) :: (15, xi (q : Nat)) :: r) (fun q => []) 2 (fun q => q ≤ F'.length ∧ (F'.take q).all (fun q => A q == C q) = true) (fun q => F'.length - q) 0 rfl ⟨Nat.zero_le _, rfl⟩ ?_)
  rintro j ⟨hj, hI⟩
  refine G9 rfl (If rfl (fun h => ?_) (fun h => ?_)); {
  have hjl := of_decide_eq_true h; rw [l1] at hjl
  obtain ⟨y, hy⟩ := ai (l := F') (j := j) (by omega)
  obtain ⟨hy1, hy2⟩ := hF.f y (List.mem_of_getElem? hy)
  obtain ⟨f, hf⟩ := ai hy1
  obtain ⟨g, hg⟩ := ai hy2
  have eA : decide (r ∈ aJ a f) = A y := by rw [← hA]; show _ = decide (r ∈ aG a y.1); rw [aG, aO hf]
  have eC : decide (s ∈ aJ c g) = C y := by rw [← hC]; show _ = decide (s ∈ aG c y.2.1); rw [aG, aO hg]
  refine G9 rfl (Ix (T := T) j (ab hy) rfl rfl rfl rfl ⟨rfl, rfl⟩ rfl rfl ?_)
  refine G9 rfl (Ix (T := T) y.1 (c8 hf) rfl rfl rfl rfl ⟨rfl, rfl⟩ rfl rfl ?_)
  refine G9 rfl (Cq (dt hr (d8 ha hB)) rfl rfl rfl rfl rfl ⟨rfl, rfl⟩ ?_)
  refine G9 rfl (Ix (T := T) y.2.1 (c8 hg) rfl rfl rfl rfl ⟨rfl, rfl⟩ rfl rfl ?_)
  refine G9 rfl (Cq (dt hs (d8 hc hB)) rfl rfl rfl rfl rfl ⟨rfl, rfl⟩ ?_)
  rw [eA, eC]
  refine G9 rfl (NeB Tryz.underlying4 rfl rfl rfl ⟨rfl, rfl⟩ ?_)
  refine G9 rfl (If rfl (fun h1 => ?_) (fun h1 => ?_)); {
  have h9 : (A y == C y) = false := by simpa using h1
  refine G9 rfl (Fe (T := T) rfl ?_)
  show xb _ = xb _
  rw [oneF, all_not (p := fun q => A q == C q) hy h9]; rfl}; {
  have h9 : (A y == C y) = true := by simpa using h1
  refine Gs (T := T) 52 rfl ?_
  refine G9 rfl ?_
  refine Nq (j + 1) ⟨by omega, p4 (p := fun q => A q == C q) hI hy h9⟩ (by show _ - (j + 1) < _ - j; omega) ?_
  have e9 : (F'.take (j + 1)).any A = ((F'.take j).any A || A y) := by rw [az hy, List.any_append]; simp
  show Mt _ _ _ ⟨(7, xb ((F'.take (j + 1)).any A)) :: _, _, _⟩ _
  rw [e9]
  exact ⟨⟨_, _, rfl, rfl⟩, rfl, rfl⟩}}; {
  have hjl := of_decide_eq_false h; rw [l1] at hjl
  rw [List.take_of_length_le (by omega)] at hI
  refine G9 rfl ?_
  rw [List.take_of_length_le (by omega)]
  refine Fe (T := T) rfl ?_
  show xb _ = xb _
  rw [oneF, hI]; rfl}
theorem qI {B : Nat} (ha : a.ok B) (hc : c.ok B) (hB : B ≤ 1000000000) (hF : Inr a c F') {u v : Nat} (hu : u < a.fs.length) (hv : v < c.fs.length) : XQ Tryz.prog pk 137 [xi (u : Nat), xi (v : Nat), xp [mtD a c la lc qs qf F' G']] (xb (oneF (fun q => decide ((true, q.1) ∈ aG a u)) (fun q => decide ((true, q.2.1) ∈ aG c v)) F')) := by
  generalize hA : (fun q : Pq => decide ((true, q.1) ∈ aG a u)) = A
  generalize hC : (fun q : Pq => decide ((true, q.2.1) ∈ aG c v)) = C
  have l1 : (F'.map abD).length = F'.length := List.length_map ..
  have hFn := hF.n
  have hfl := ha.fl
  have hcl := hc.fl
  obtain ⟨f, hf⟩ := ai hu
  obtain ⟨g, hg⟩ := ai hv
  refine XQ.en Tryz.func137 Tryz.ntmps137 (fun w0 own H V v0 hf => ?_)
  refine G9 rfl (Cq (lI hF.n) rfl rfl rfl rfl rfl ⟨rfl, rfl⟩ ?_)
  refine G9 rfl (Lq [0, 1, 2, 12, 13] (fun (q : Nat) r => (6, xb ((F'.take q).any A)) :: (14, xi (q : Nat)) :: r) (fun q => []) 0 (fun q => q ≤ F'.length ∧ (F'.take q).all (fun q => A q == C q) = true) (fun q => F'.length - q) 0 rfl ⟨Nat.zero_le _, rfl⟩ ?_)
  rintro j ⟨hj, hI⟩
  refine G9 rfl (If rfl (fun h => ?_) (fun h => ?_)); {
  have hjl := of_decide_eq_true h; rw [l1] at hjl
  obtain ⟨y, hy⟩ := ai (l := F') (j := j) (by omega)
  obtain ⟨hy1, hy2⟩ := hF.f y (List.mem_of_getElem? hy)
  have eA : decide ((true, y.1) ∈ aJ a f) = A y := by rw [← hA]; show _ = decide ((true, y.1) ∈ aG a u); rw [aG, aO ‹a.fs[u]? = some f›]
  have eC : decide ((true, y.2.1) ∈ aJ c g) = C y := by rw [← hC]; show _ = decide ((true, y.2.1) ∈ aG c v); rw [aG, aO hg]
  refine G9 rfl (Ix (T := T) j (ab hy) rfl rfl rfl rfl ⟨rfl, rfl⟩ rfl rfl ?_)
  refine G9 rfl (Ix (T := T) u (c8 ‹a.fs[u]? = some f›) rfl rfl rfl rfl ⟨rfl, rfl⟩ rfl rfl ?_)
  refine G9 rfl ?_
  refine Cq (dt (r := (true, y.1)) (by show y.1 ≤ _; omega) (d8 ha hB)) rfl rfl rfl rfl rfl ⟨rfl, rfl⟩ ?_
  refine G9 rfl (Ix (T := T) v (c8 hg) rfl rfl rfl rfl ⟨rfl, rfl⟩ rfl rfl ?_)
  refine G9 rfl ?_
  refine Cq (dt (r := (true, y.2.1)) (by show y.2.1 ≤ _; omega) (d8 hc hB)) rfl rfl rfl rfl rfl ⟨rfl, rfl⟩ ?_
  rw [eA, eC]
  refine G9 rfl (NeB Tryz.underlying4 rfl rfl rfl ⟨rfl, rfl⟩ ?_)
  refine G9 rfl (If rfl (fun h1 => ?_) (fun h1 => ?_)); {
  have h9 : (A y == C y) = false := by simpa using h1
  refine G9 rfl (Fe (T := T) rfl ?_)
  show xb _ = xb _
  rw [oneF, all_not (p := fun q => A q == C q) hy h9]; rfl}; {
  have h9 : (A y == C y) = true := by simpa using h1
  refine Gs (T := T) 53 rfl ?_
  refine G9 rfl ?_
  refine Nq (j + 1) ⟨by omega, p4 (p := fun q => A q == C q) hI hy h9⟩ (by show _ - (j + 1) < _ - j; omega) ?_
  have e9 : (F'.take (j + 1)).any A = ((F'.take j).any A || A y) := by rw [az hy, List.any_append]; simp
  show Mt _ _ _ ⟨(6, xb ((F'.take (j + 1)).any A)) :: _, _, _⟩ _
  rw [e9]
  exact ⟨⟨_, _, rfl, rfl⟩, rfl, rfl⟩}}; {
  have hjl := of_decide_eq_false h; rw [l1] at hjl
  rw [List.take_of_length_le (by omega)] at hI
  refine G9 rfl ?_
  rw [List.take_of_length_le (by omega)]
  refine Fe (T := T) rfl ?_
  show xb _ = xb _
  rw [oneF, hI]; rfl}
end
section
open Go Go.RowKit Go.Proofs K
def okN (o : Option Nat) (n : Nat) : Bool := match o with | some m => m == n | none => true
def okR (o : Option Rf) (r : Rf) : Bool := match o with | some s => decide (s = r) | none => true
def goA (pa pc : Rf → Option Nat) : List (Rf × Rf) → List (Rf × Rf) → List (Rf × Rf) → Bool
  | _, _, [] => true
  | t, f, (r, s) :: l => okN (pa r) s.2 && okN (pc s) r.2 && okR (lkL t r) s && okR (lkL f s) r && goA pa pc (ptL t r s) (ptL f s r) l
theorem okN_eq (o : Option Nat) (n : Nat) : okN o n = !(o.isSome && decide (((o.getD 0 : Nat) : Int) ≠ (n : Int))) := by
  cases o with
  | none => rfl
  | some m =>
    show (m == n) = !(true && decide ((m : Int) ≠ (n : Int)))
    by_cases h : m = n; {
    subst h; simp}; {
    rw [decide_eq_true (by omega)]; simpa using h}
theorem okR_eq (o : Option Rf) (r : Rf) : okR o r = !(o.isSome && !decide (o.getD (false, 0) = r)) := by
  cases o with
  | none => rfl
  | some m => show decide (m = r) = !(true && !decide (m = r)); simp
theorem opt_ref (o : Option Rf) : ∀ V H, (XA.g (rfD (o.getD (false, 0)))).rel V H ((o.map refV).getD (.agg #[.bool false, .int .i64 0])) := fun V H => by
  cases o with
  | none => exact ⟨_, rfl, ⟨rfl, rfl⟩, ⟨rfl, rfl⟩, trivial⟩
  | some r => exact ⟨_, rfl, ⟨rfl, rfl⟩, ⟨rfl, rfl⟩, trivial⟩
theorem zip_at {α β : Type} {l : List α} {m : List β} {j : Nat} {y : α} {z : β} (hy : l[j]? = some y) (hz : m[j]? = some z) : (List.zip l m)[j]? = some (y, z) := by
  rw [List.getElem?_zip_eq_some]; exact ⟨hy, hz⟩
variable {pk : Pk} {a c : Pg} {la lc : List (Rf × Nat)} {qs qf : Nat → Obj → Prop} {F' G' : List Pq}
theorem mt_agree {B : Nat} (ha : a.ok B) (hc : c.ok B) (hB : B ≤ 1000000000) {u v : Nat} (hu : u < a.fs.length) (hv : v < c.fs.length) (hle : (aG a u).length ≤ (aG c v).length) : XQ Tryz.prog pk 134 [xm (mtD a c la lc qs qf F' G'), xi (u : Nat), xi (v : Nat)] (xb (goA (lkL la) (lkL lc) [] [] (List.zip (aG a u) (aG c v)))) := by
  obtain ⟨f, hf⟩ := ai hu
  obtain ⟨g, hg⟩ := ai hv
  have eu : aG a u = aJ a f := by rw [aG, aO hf]
  have ev : aG c v = aJ c g := by rw [aG, aO hg]
  rw [eu, ev] at hle ⊢
  have okf := d8 ha hB (f := f)
  have okg := d8 hc hB (f := g)
  have hrf := c8 hf
  have hrg := c8 hg
  generalize aJ a f = ra at *
  generalize aJ c g = rc at *
  have l1 : (ra.map rfD).length = ra.length := List.length_map ..
  refine XQ.en Tryz.func134 Tryz.ntmps134 (fun w0 own H V v0 hf => ?_)
  refine G9 rfl (Mm (ML kvR 115 refV []) ML.nil ⟨rfl, rfl⟩ ?_)
  refine G9 rfl (Mm (ML kvR 115 refV []) ML.nil ⟨rfl, rfl⟩ ?_)
  refine G9 rfl (Ix (T := T) u hrf rfl rfl rfl rfl ⟨rfl, rfl⟩ rfl rfl ?_)
  refine G9 rfl ?_
  refine Ln 31 rfl (fun hl => ?_); rw [l1] at hl
  refine Lq [0, 1, 2, 7, 8, 31, 32] (fun (q : Nat × List (Rf × Rf) × List (Rf × Rf)) r => (33, xi (q.1 : Nat)) :: r) (fun q => [⟨0, 0, .mp (ML kvR 115 refV q.2.1)⟩, ⟨1, 0, .mp (ML kvR 115 refV q.2.2)⟩]) 2 (fun q => q.1 ≤ ra.length ∧ goA (lkL la) (lkL lc) [] [] (List.zip ra rc) = goA (lkL la) (lkL lc) q.2.1 q.2.2 ((List.zip ra rc).drop q.1) ∧ q.2.1.length ≤ q.1 ∧ q.2.2.length ≤ q.1 ∧ (∀ p ∈ q.2.1, kvR.ok p.2) ∧ ∀ p ∈ q.2.2, kvR.ok p.2) (fun q => ra.length - q.1) (0, [], []) rfl ⟨Nat.zero_le _, rfl, Nat.le_refl _, Nat.le_refl _, by simp, by simp⟩ ?_
  rintro ⟨j, t, ff⟩ ⟨hj, hI, ht, hff, ot, of⟩; dsimp only at hj hI ht hff ot of ⊢
  refine G9 rfl (If rfl (fun h => ?_) (fun h => ?_)); {
  have hjl := of_decide_eq_true h; rw [l1] at hjl
  obtain ⟨r, hr⟩ := ai (l := ra) (j := j) (by omega)
  obtain ⟨s, hs⟩ := ai (l := rc) (j := j) (by omega)
  have kr := okf r (List.mem_of_getElem? hr)
  have ks := okg s (List.mem_of_getElem? hs)
  rw [ku (zip_at hr hs), goA, okN_eq, okN_eq, okR_eq, okR_eq] at hI
  have o1 : kvR.ok ((lkL t r).getD (false, 0)) := by
    cases hk : lkL t r with
    | none => exact Nat.zero_le _
    | some x => exact ot _ (cx hk)
  have o2 : kvR.ok ((lkL ff s).getD (false, 0)) := by
    cases hk : lkL ff s with
    | none => exact Nat.zero_le _
    | some x => exact of _ (cx hk)
  refine G9 rfl (Ix (T := T) j (ab hr) rfl rfl rfl rfl ⟨rfl, rfl⟩ rfl rfl ?_)
  refine G9 rfl (Ix (T := T) v hrg rfl rfl rfl rfl ⟨rfl, rfl⟩ rfl rfl ?_)
  refine G9 rfl (Ix (T := T) j (ab hs) rfl rfl rfl rfl ⟨rfl, rfl⟩ rfl rfl ?_)
  refine G9 rfl (Lk2 (T := T) kvR (a := r) _ _ (aD _) rfl ba kr rfl rfl rfl rfl rfl ⟨rfl, rfl⟩ rfl ?_)
  refine G (T := T) 63 rfl ?_
  refine Gs (T := T) 1000 rfl ?_
  refine If rfl (fun h1 => ?_) (fun h1 => ?_); {
  refine G9 rfl ?_
  exact Fe (T := T) rfl (by show xb _ = xb _; rw [hI]; rw [h1]; rfl)}
  rw [h1] at hI
  refine G9 rfl (Lk2 (T := T) kvR (a := s) _ _ (aD _) rfl ba ks rfl rfl rfl rfl rfl ⟨rfl, rfl⟩ rfl ?_)
  refine G (T := T) 82 rfl ?_
  refine Gs (T := T) 1000 rfl ?_
  refine If rfl (fun h2 => ?_) (fun h2 => ?_); {
  refine G9 rfl ?_
  exact Fe (T := T) rfl (by show xb _ = xb _; rw [hI]; rw [h2]; rfl)}
  rw [h2] at hI
  refine G9 rfl (Lk1 (T := T) kvR (a := r) _ _ (opt_ref _) rfl zeroR kr rfl rfl rfl rfl rfl rfl ⟨rfl, rfl⟩ rfl ?_)
  refine G (T := T) 95 rfl ?_
  refine Gs (T := T) 1000 rfl ?_
  refine Neks kvR _ s eqR o1 ks rfl rfl rfl rfl rfl rfl rfl rfl ?_
  refine Gs (T := T) 1000 rfl ?_
  refine If rfl (fun h3 => ?_) (fun h3 => ?_); {
  refine G9 rfl ?_
  exact Fe (T := T) rfl (by show xb _ = xb _; rw [hI]; rw [h3]; rfl)}
  rw [h3] at hI
  refine G9 rfl (Lk1 (T := T) kvR (a := s) _ _ (opt_ref _) rfl zeroR ks rfl rfl rfl rfl rfl rfl ⟨rfl, rfl⟩ rfl ?_)
  refine G (T := T) 107 rfl ?_
  refine Gs (T := T) 1000 rfl ?_
  refine Neks kvR _ r eqR o2 kr rfl rfl rfl rfl rfl rfl rfl rfl ?_
  refine Gs (T := T) 1000 rfl ?_
  refine If rfl (fun h4 => ?_) (fun h4 => ?_); {
  refine G9 rfl ?_
  exact Fe (T := T) rfl (by show xb _ = xb _; rw [hI]; rw [h4]; simp)}
  rw [h4] at hI
  refine G9 rfl ?_
  refine Stm (T := T) kvR (a := r) s kr (by simp only [maxLen]; omega) rfl rfl rfl rfl rfl rfl rfl rfl rfl ⟨rfl, rfl⟩ ?_
  refine G9 rfl ?_
  refine Stm (T := T) kvR (a := s) r ks (by simp only [maxLen]; omega) rfl rfl rfl rfl rfl rfl rfl rfl rfl ⟨rfl, rfl⟩ ?_
  refine G9 rfl ?_
  have p1 := df t r s
  have p2 := df ff s r
  refine Nq (j + 1, ptL t r s, ptL ff s r) ⟨by show j + 1 ≤ _; omega, by rw [hI]; rfl, by show (ptL t r s).length ≤ j + 1; split at p1 <;> omega, by show (ptL ff s r).length ≤ j + 1; split at p2 <;> omega, fun q hq => ?_, fun q hq => ?_⟩ (by show _ - (j + 1) < _ - j; omega)
  {
  rcases il hq with rfl | hq
  {
  exact ks}; {
  exact ot q hq}}; {
  rcases il hq with rfl | hq
  {
  exact kr}; {
  exact of q hq}}}; {
  have hjl := of_decide_eq_false h; rw [l1] at hjl
  refine G9 rfl (Fe (T := T) rfl ?_)
  show xb _ = xb _
  rw [hI, List.drop_eq_nil_of_le (by rw [List.length_zip]; omega)]; rfl}
end
open Go.WideElems (Fit rg rd_val)
def allO (ops : Array Oper) : Nat → Array Bool → List (List Nat)
  | 0, _ => [[]]
  | n + 1, ls => match Region.ready .any ops ls with
    | [] => [[]]
    | r => r.flatMap fun i => (allO ops n (ls.setIfInBounds i true)).map (i :: ·)
theorem go_allO (ops : Array Oper) : ∀ (fuel t : Nat) (ls : Array Bool), Region.linearise.go .any ops fuel t ls [] ∈ allO ops fuel ls
  | 0, t, ls => List.mem_singleton.2 rfl
  | fuel + 1, t, ls => by
    simp only [Region.linearise.go]
    change (match (Region.ready .any ops ls)[t % (Region.ready .any ops ls).length]? with
      | some i => Region.linearise.go .any ops fuel (t / (Region.ready .any ops ls).length) (ls.setIfInBounds i true) [i]
      | none => [].reverse) ∈ _
    rw [allO]
    cases hr : Region.ready .any ops ls with
    | nil => simp
    | cons x xs =>
      rw [← hr]
      cases hi : (Region.ready .any ops ls)[t % (Region.ready .any ops ls).length]? with
      | none =>
        have hlt : t % (x :: xs).length < (x :: xs).length := Nat.mod_lt _ (by simp)
        rw [hr] at hi
        simp at hi
        simp at hlt
        omega
      | some i =>
        simp only []
        rw [linearise_go_acc, List.reverse_singleton, List.singleton_append, hr]
        refine List.mem_flatMap.2 ⟨i, by rw [← hr]; exact List.mem_of_getElem? hi, List.mem_map.2 ⟨_, go_allO ops fuel _ _, rfl⟩⟩
theorem lQ {P : Program} {l : List Oper} {Q : Exit → Act → World → Prop} : ∀ {π : List Nat} {L : List (Nat × Oper)}, em l π = some L → wpOps P l.toArray Q π = wpList P l.toArray Q (snds L)
  | [], L, h => by cases h; funext a w; simp [wpOps, wpList, snds]
  | i :: r, L, h => by
    simp only [em] at h
    split at h; {
    rename_i o l' h1 h2
    cases h
    funext a w
    have ih := lQ (P := P) (Q := Q) h2
    simp only [wpOps, snds, wpList, List.getElem?_toArray, h1, ih]}; {
    cases h}
section
variable {P : Program} {x : Cx P} {k : List Fr} {s : XS}
theorem MC.allO {i : Nat} {l : List Oper} {Ls : List (List Nat)} (hm : P.follows .mixedOrders = true) (hL : (X.allO l.toArray l.length (Array.replicate l.length false)).all (fun π => Ls.contains π && (em l π).isSome) = true) (h : ∀ π ∈ Ls, ∀ L, em l π = some L → XL P x.B.pk x.N l.toArray (snds L) s (fun s' => ME x .normal k s')) : MC x (.region i l.toArray true) k s := fun V H sg env hs a w ha hw =>
  wp_region_draw fun t => by
    have hmem := go_allO l.toArray l.length t (Array.replicate l.length false)
    have h2 := List.all_eq_true.1 hL _ hmem
    simp only [Bool.and_eq_true] at h2
    obtain ⟨h3, h4⟩ := h2
    obtain ⟨L, hp⟩ := Option.isSome_iff_exists.1 h4
    simp only [Region.schedule, hm, Bool.true_or, if_true, Region.linearise, List.size_toArray]
    rw [lQ hp]
    exact gw (KQ.no x k) _ _ _ (XL.ok (Q := okA x.ds (KQ x k)) (KQ.pan x k) (h _ (by simpa using h3) L hp) (fun s' hs' V H sg env hr a w ha hw => ⟨ha.defers, hs' V H sg env hr a w ha hw⟩) V H sg env hs a _ ha ⟨hw.os, ⟨hw.tape.1, Nat.le_succ_of_le hw.tape.2⟩, hw.output, hw.imm, hw.own_at, hw.apart, hw.nodup⟩)
def AllO (x : Cx P) (k : List Fr) (ops : Array Oper) (s : XS) : List (List Nat) → Prop
  | [] => True
  | π :: r => (∀ L, em ops.toList π = some L → (MS.r ops.toList none L k s).ok x) ∧ AllO x k ops s r
theorem AllO.mem {ops : Array Oper} : ∀ {Ls : List (List Nat)}, AllO x k ops s Ls → ∀ π ∈ Ls, ∀ L, em ops.toList π = some L → (MS.r ops.toList none L k s).ok x
  | π :: r, h, p, hp, L, hL => by
    rcases List.mem_cons.1 hp with rfl | hp
    {
    exact h.1 L hL}; {
    exact AllO.mem h.2 p hp L hL}
structure AoK (ops : Array Oper) (Ls : List (List Nat)) : Prop where
  ok : (X.allO ops.toList.toArray ops.toList.length (Array.replicate ops.toList.length false)).all (fun π => Ls.contains π && (em ops.toList π).isSome) = true
theorem Ao {T : Tb P} {j : Nat} {ops : Array Oper} (Ls : List (List Nat)) (h : AllO x k ops s Ls) (hL : AoK ops Ls := by exact ⟨by decide +kernel⟩) : (MS.c (.region j ops true) k s).ok x :=
  MC.allO (l := ops.toList) T.mx hL.ok h.mem
end
section
variable {P : Program} {x : Cx P} {T : Tb P} {k : List Fr} {E Er : XE} {hp : XH} {nx i : Nat} {ops : List Oper} {l : List (Nat × Oper)} {d : Tmp} {ty : TypeId} {pos : String} {af : Array Edge} {g : Option (Nat × Bool)} {gm t0 st : Nat}
variable {α β : Type} [DecidableEq α] {kt e : TypeId} {kv : KV P kt α} {vv : β → Value} {ll : List (α × β)}
theorem Lk3 (kv : KV P kt α) {t : TypeId} {m y : Operand} {a : α} {z : Value} {yv : XV} (X : XA) (hX : ∀ V H, X.rel V H (((lkL ll a).map vv).getD z)) (hz : ∀ w, (zeroValue e).run P w = .ok z w) (hok : kv.ok a)
    (hEr : vis none ops { dst := some d, op := .lookup t m y false, type := ty, pos := pos, after := af, guard := g } E = Er) (hm : xev Er m = some (.a (.c (.m gm t0)))) (hg : aq hp gm = some ⟨gm, t0, .mp (MLm kv e t vv ll a st)⟩) (hy : xev Er y = some yv) (hyv : vOf yv = some (kv.v a)) (ht : T.bt.get t = some (.m kt e)) (hb : aw ops Er g = some true ∧ okD x.N (some d) = true)
    (hk' : (MS.r ops none l k ⟨(d, .a X) :: E, hp, nx⟩).ok x) :
    (MS.r ops none ((i, { dst := some d, op := .lookup t m y false, type := ty, pos := pos, after := af, guard := g }) :: l) k ⟨E, hp, nx⟩).ok x := by
  obtain ⟨kl, hkl⟩ := kv.key a hok
  refine Lw (T := T) (.a X) kv.K hkl hz (fun o ho => ?_) hEr hm hg hy hyv ht hb hk' trivial
  obtain ⟨n, f, h1, h2⟩ := ho.2
  exact ⟨n, f, h1, fun V H => by rw [if_neg (by simp), h2 z hz]; exact hX V H⟩
end
end Go.Proofs.YticengaggjcppaaGreat.X
