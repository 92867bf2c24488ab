/-
  Part 4 of 5 of the proof that seven laws of chapter 25 return true and leave their arguments as they were. No condition beyond the given statement.
-/
import Derived.Shelf.SlSortCmp.WholeK
import Derived.Test.YteeamfkhkbfilaaGreatProg
import Derived.Test.YteeamfkhkbfilaaGreatPkA3
set_option linter.unusedVariables false
set_option linter.unusedSimpArgs false
set_option linter.defProp false
set_option maxHeartbeats 4000000
namespace Go.Proofs.YteeamfkhkbfilaaGreat.K
open Go Go.RowKit Go.Proofs Go.MapKept Go.WideMaps

def keyV (k : Key) : Value := .agg #[.int .i64 k.1, .int .i64 k.2.1, .int .u16 k.2.2]
/-- The key that a value is. -/
def unkey : Value → Option Key
  | .agg ⟨[.int .i64 a, .int .i64 b, .int .u16 c]⟩ => some (a, b, c)
  | _ => none
theorem unkey_keyV (k : Key) : unkey (keyV k) = some k := rfl
theorem unkey_some {v : Value} {k : Key} (h : unkey v = some k) : v = keyV k := by
  unfold unkey at h
  split at h
  · cases h; rfl
  · cases h
theorem keyV_inj {a b : Key} (h : keyV a = keyV b) : a = b := by
  have := congrArg unkey h
  simpa [unkey_keyV] using this
def mapF (l : List Fact) (v : Value) : Option Value := (unkey v).bind fun k => (look l k).map Value.string
theorem mapF_key (l : List Fact) (k : Key) : mapF l (keyV k) = (look l k).map Value.string := rfl
theorem mapF_nil (v : Value) : mapF [] v = none := by
  unfold mapF
  cases unkey v <;> rfl
theorem mapF_put_same (l : List Fact) (f : Fact) : mapF (putF l f) (keyV f.key) = if f.text = eS then none else some (.string f.text) := by
  rw [mapF_key, look_put, if_pos rfl]
  split <;> rfl
theorem mapF_put_other (l : List Fact) (f : Fact) {v : Value} (h : v ≠ keyV f.key) : mapF (putF l f) v = mapF l v := by
  unfold mapF
  cases hu : unkey v with
  | none => rfl
  | some k =>
    have hv := unkey_some hu
    show (look (putF l f) k).map _ = (look l k).map _
    rw [look_put, if_neg (fun he => h (by rw [hv, he]))]
theorem keyOk {f : Fact} (h : FOk f) : ∃ l, keyOf Tryz.prog 95 (keyV f.key) = some l := keyKY h.kind h.bank h.addr
/-- The map of the facts. -/
def PMap (l : List Fact) (m : Nat) (fm : Value) (sm : Seg) : Prop :=
  (fm = .map none ∧ l = [] ∧ sm = []) ∨ ∃ g o n, fm = .map (some g) ∧ sm = [(g, o)] ∧ MapK Tryz.prog 95 o n (mapF l) ∧ n ≤ m
theorem PMap.nil (m : Nat) : PMap [] m (.map none) [] := .inl ⟨rfl, rfl, rfl⟩
theorem PMap.one {l : List Fact} {m : Nat} {fm : Value} {sm : Seg} (h : PMap l m fm sm) : fm.oneCell' = true := by
  rcases h with ⟨rfl, _⟩ | ⟨g, o, n, rfl, _⟩ <;> rfl
theorem PMap.more {l : List Fact} {m m' : Nat} {fm : Value} {sm : Seg} (h : PMap l m fm sm) (hm : m ≤ m') : PMap l m' fm sm := by
  rcases h with h | ⟨g, o, n, h1, h2, h3, h4⟩
  · exact .inl h
  · exact .inr ⟨g, o, n, h1, h2, h3, by omega⟩
/-- A closure that takes back. -/
def Undoable (H : Hp) (gp : Nat) (p : List Fact × List Fact) (v : Value) : Prop :=
  ∃ g7 g2 go o n f, v = .func (.func 51) #[] #[.pointer (some ⟨g7, 0, none⟩), .pointer (some ⟨g2, 0, none⟩)] ∧ cel H g7 0 = some (.map (some go)) ∧ cel H g2 0 = some (.pointer (some ⟨gp, 0, none⟩)) ∧ H go = some o ∧ MapK Tryz.prog 95 o n f ∧
    (∀ q ∈ p.2, f (keyV q.key) = some (.string ((look p.1 q.key).getD eS))) ∧ ∀ v, f v ≠ none → ∃ q ∈ p.2, v = keyV q.key
theorem Undoable.mono {H H' : Hp} (hl : Le H H') {gp : Nat} {p : List Fact × List Fact} {v : Value} (h : Undoable H gp p v) : Undoable H' gp p v := by
  obtain ⟨g7, g2, go, o, n, f, h1, h2, h3, h4, h5⟩ := h
  exact ⟨g7, g2, go, o, n, f, h1, cel_le hl h2, cel_le hl h3, hl _ _ h4, h5⟩
def Undos (H : Hp) (gp : Nat) : List (List Fact × List Fact) → List Value → Prop
  | [], [] => True
  | p :: r, v :: s => Undoable H gp p v ∧ Undos H gp r s
  | _, _ => False
theorem Undos.mono {H H' : Hp} (hl : Le H H') {gp : Nat} : ∀ {l : List (List Fact × List Fact)} {xs : List Value}, Undos H gp l xs → Undos H' gp l xs
  | [], [], _ => trivial
  | _ :: _, _ :: _, h => ⟨h.1.mono hl, Undos.mono hl h.2⟩
  | [], _ :: _, h => h.elim
  | _ :: _, [], h => h.elim
theorem Undos.snoc {H : Hp} {gp : Nat} {p : List Fact × List Fact} {v : Value} (hv : Undoable H gp p v) : ∀ {l : List (List Fact × List Fact)} {xs : List Value}, Undos H gp l xs → Undos H gp (l ++ [p]) (xs ++ [v])
  | [], [], _ => ⟨hv, trivial⟩
  | _ :: _, _ :: _, h => ⟨h.1, Undos.snoc hv h.2⟩
  | [], _ :: _, h => h.elim
  | _ :: _, [], h => h.elim
theorem Undos.last {H : Hp} {gp : Nat} {p : List Fact × List Fact} : ∀ {l : List (List Fact × List Fact)} {xs : List Value}, Undos H gp (l ++ [p]) xs → ∃ ys v, xs = ys ++ [v] ∧ Undos H gp l ys ∧ Undoable H gp p v
  | [], [v], h => ⟨[], v, rfl, trivial, h.1⟩
  | [], _ :: _ :: _, h => h.2.elim
  | _ :: l, x :: xs, h => by
    obtain ⟨ys, v, rfl, h1, h2⟩ := Undos.last (l := l) h.2
    exact ⟨x :: ys, v, rfl, ⟨h.1, h1⟩, h2⟩
  | [], [], h => h.elim
  | _ :: _, [], h => h.elim
/-- The program's state, that stands for the reference's. -/
structure PSm (H : Hp) (gp : Nat) (z : RS) (fm uv : Value) (sm su : Seg) (xu : List Value) : Prop where
  m : PMap z.facts (1000 * z.n) fm sm
  u : Row 1 1 uv z.stk.length xu su
  xu : Undos H gp z.stk xu
theorem PSm.mono {H H' : Hp} (hl : Le H H') {gp : Nat} {z : RS} {fm uv : Value} {sm su : Seg} {xu : List Value} (h : PSm H gp z fm uv sm su xu) : PSm H' gp z fm uv sm su xu := ⟨h.m, h.u, h.xu.mono hl⟩
/-- Keys of a list, in a map. -/
def keysF (l : List Fact) (v : Value) : Option Value := if (unkey v).any (fun k => l.any fun f => decide (f.key = k)) then some (.bool true) else none
theorem keysF_key (l : List Fact) (k : Key) : keysF l (keyV k) = if l.any (fun f => decide (f.key = k)) then some (.bool true) else none := rfl
theorem keysF_nil (v : Value) : keysF [] v = none := by
  unfold keysF
  cases unkey v <;> simp
theorem keysF_same {l : List Fact} {x : Fact} : keysF (l ++ [x]) (keyV x.key) = some (.bool true) := by
  rw [keysF_key, if_pos (by simp)]
theorem keysF_other {l : List Fact} {x : Fact} {v : Value} (h : v ≠ keyV x.key) : keysF (l ++ [x]) v = keysF l v := by
  unfold keysF
  cases hu : unkey v with
  | none => rfl
  | some k =>
    have hv := unkey_some hu
    have : x.key ≠ k := fun he => h (by rw [hv, he])
    simp [this]
theorem keys_step {l : List Fact} {x : Fact} {n i : Nat} (hl : l.length = i) (h1 : n ≤ i) (h2 : n = i ↔ (l.map Fact.key).Nodup) :
    (if (keysF l (keyV x.key)).isSome then n else n + 1) ≤ i + 1 ∧ ((if (keysF l (keyV x.key)).isSome then n else n + 1) = i + 1 ↔ ((l ++ [x]).map Fact.key).Nodup) := by
  rw [keysF_key]
  have hnd : ((l ++ [x]).map Fact.key).Nodup ↔ (l.map Fact.key).Nodup ∧ ¬ (l.any fun f => decide (f.key = x.key)) = true := by
    rw [List.map_append, List.nodup_append]
    constructor
    · rintro ⟨ha, _, hc⟩
      refine ⟨ha, fun h => ?_⟩
      obtain ⟨f, hf, he⟩ := List.any_eq_true.1 h
      exact hc f.key (List.mem_map.2 ⟨f, hf, rfl⟩) x.key (by simp) (of_decide_eq_true he)
    · rintro ⟨ha, hb⟩
      refine ⟨ha, by simp, fun a ha2 b hb2 he => hb ?_⟩
      obtain ⟨f, hf, rfl⟩ := List.mem_map.1 ha2
      simp at hb2
      subst hb2
      exact List.any_eq_true.2 ⟨f, hf, decide_eq_true he⟩
  rw [hnd]
  by_cases h3 : (l.any fun f => decide (f.key = x.key)) = true
  · rw [if_pos h3]
    simp only [Option.isSome_some, if_true]
    exact ⟨by omega, ⟨fun h => by omega, fun h => absurd h3 h.2⟩⟩
  · rw [if_neg h3]
    simp only [Option.isSome_none, Bool.false_eq_true, if_false]
    exact ⟨by omega, ⟨fun h => ⟨h2.1 (by omega), h3⟩, fun h => by have := h2.2 h.1; omega⟩⟩
theorem look_fold_other : ∀ {ps l : List Fact} {k : Key}, (∀ p ∈ ps, p.key ≠ k) → look (ps.foldl putF l) k = look l k
  | [], _, _, _ => rfl
  | p :: r, l, k, h => by
    rw [List.foldl_cons, look_fold_other (ps := r) (fun q hq => h q (by simp [hq])), look_put, if_neg (fun he => h p (by simp) he.symm)]
theorem nodup_at {l : List Fact} (hn : (l.map Fact.key).Nodup) {i : Nat} {x : Fact} (hx : l[i]? = some x) : ∀ p ∈ l.take i, p.key ≠ x.key := by
  intro p hp he
  obtain ⟨j, hj⟩ := List.getElem?_of_mem hp
  rw [List.getElem?_take] at hj
  split at hj
  · rename_i hji
    have hjl : j < (l.map Fact.key).length := by rw [List.length_map]; exact (List.getElem?_eq_some_iff.1 hj).1
    have : (l.map Fact.key)[j]? = (l.map Fact.key)[i]? := by rw [List.getElem?_map, List.getElem?_map, hx, hj]; simp [he]
    have := (List.getElem?_inj hjl hn).1 this
    omega
  · cases hj
/-- What stood at the keys of the first facts. -/
def oldF (b l : List Fact) (v : Value) : Option Value := (unkey v).bind fun k => if l.any (fun f => decide (f.key = k)) then some (.string ((look b k).getD eS)) else none
theorem oldF_key (b l : List Fact) (k : Key) : oldF b l (keyV k) = if l.any (fun f => decide (f.key = k)) then some (.string ((look b k).getD eS)) else none := rfl
theorem oldF_nil (b : List Fact) (v : Value) : oldF b [] v = none := by
  unfold oldF
  cases unkey v <;> simp
theorem oldF_same {b l : List Fact} {x : Fact} : oldF b (l ++ [x]) (keyV x.key) = some (.string ((look b x.key).getD eS)) := by
  rw [oldF_key, if_pos (by simp)]
theorem oldF_other {b l : List Fact} {x : Fact} {v : Value} (h : v ≠ keyV x.key) : oldF b (l ++ [x]) v = oldF b l v := by
  unfold oldF
  cases hu : unkey v with
  | none => rfl
  | some k =>
    have hv := unkey_some hu
    have : x.key ≠ k := fun he => h (by rw [hv, he])
    simp [this]
theorem oldF_mem {b l : List Fact} {q : Fact} (h : q ∈ l) : oldF b l (keyV q.key) = some (.string ((look b q.key).getD eS)) := by
  rw [oldF_key, if_pos (List.any_eq_true.2 ⟨q, h, decide_eq_true rfl⟩)]
theorem oldF_ne {b l : List Fact} {v : Value} (h : oldF b l v ≠ none) : ∃ q ∈ l, v = keyV q.key := by
  unfold oldF at h
  cases hu : unkey v with
  | none => rw [hu] at h; exact absurd rfl h
  | some k =>
    rw [hu] at h
    simp only [Option.bind_some] at h
    split at h
    · rename_i h2
      obtain ⟨f, hf, he⟩ := List.any_eq_true.1 h2
      exact ⟨f, hf, by rw [unkey_some hu, ← of_decide_eq_true he]⟩
    · exact absurd rfl h
theorem wrong_any {l : List Fact} (h : ¬ 1000 < l.length) (ha : (l.any fun x => !factR x) = true) : wrongC l = 1 := by
  obtain ⟨x, hx, hr⟩ := List.any_eq_true.1 ha
  exact wrong_bad h hx (by simpa using hr)
theorem any_all {l : List Fact} (ha : (l.any fun x => !factR x) = false) : l.all factR = true := by
  rw [List.all_eq_true]
  intro x hx
  have := List.any_eq_false.1 ha x hx
  simpa using this
theorem wrong_dup {l : List Fact} (h : ¬ 1000 < l.length) (h0 : ¬ l.length = 0) (hr : l.all factR = true) (hn : ¬ (l.map Fact.key).Nodup) : wrongC l = 33 := by
  unfold wrongC
  rw [if_neg h, if_neg (fun h => h0 (by rw [h]; rfl)), if_neg (by rw [hr]; simp), if_neg hn]
theorem cel_one {H : Hp} {g : Nat} {v : Value} {e : TypeId} {fz : Nat × Nat} (h : ∀ p ∈ ([(g, .cells #[v] e fz)] : Seg), H p.1 = some p.2) : cel H g 0 = some v := by
  have := h (g, .cells #[v] e fz) (by simp)
  unfold cel
  rw [this]
  rfl
theorem zstr : ∀ w, (zeroValue 9).run Tryz.prog w = .ok (.string ⟨#[]⟩) w := by
  intro w
  simp [zeroValue, typeInfo, info9]
  rfl
theorem payF_parts (f : Fact) : (⟨#[b8 f.kind, b8 f.bank]⟩ : ByteArray) ++ put16 f.addr ++ ⟨#[b8 f.text.size]⟩ ++ f.text = payF f := by
  unfold payF put16
  congr 1
end Go.Proofs.YteeamfkhkbfilaaGreat.K

namespace Go.Proofs.YteeamfkhkbfilaaGreat.K
open Go Go.RowKit Go.Proofs

theorem proj_set {l : List Fact} {m : Nat} (hm : m ≤ 100000000000) {f : Fact} (hf : FOk f) {w0 : World} {H : Hp} {own : List Seg} {gp : Nat} {fm nv uv lv : Value} {sm : Seg} (hp : PMap l m fm sm) :
    Fn Tryz.prog 49 [.pointer (some ⟨gp, 0, none⟩), keyV f.key, .string f.text] w0 H ([(gp, .cells #[fm, nv, uv, lv] 37 (0, 0))] :: sm :: own) (fun r own' H' => ∃ fm' sm', r = .tuple #[] ∧ own' = [(gp, .cells #[fm', nv, uv, lv] 37 (0, 0))] :: sm' :: own ∧ PMap (putF l f) (m + 1) fm' sm' ∧ Le H H') := by
  obtain ⟨kl, hkl⟩ := keyOk hf
  refine Fn.enter Tryz.func49 rfl Tryz.ntmps49 rfl ?_; have hL := Le.refl H; refine TC.seq ?_; refine TC.region ?_
  refine TL.box (c := #[_, _, _]) rfl rfl rfl ?_; intro g4; refine TL.nil ?_; refine TQ.then_n ?_; refine TC.seq ?_; refine TC.seq ?_; refine TC.region ?_; refine TL.move rfl rfl ?_
  refine TL.eqlSB rfl rfl rfl (fun he => ?_) (fun he => ?_)
  ·
   refine TL.nil ?_; refine TQ.then_n ?_; refine TC.cond_t rfl ?_; refine TC.seq ?_
   rcases hp with ⟨rfl, rfl, rfl⟩ | ⟨gm, o, n, rfl, rfl, hmk, hnm⟩
   ·
    refine TC.drawQV 5  [(0, _), (1, _), (2, _), (4, _)] follows_mixed ⟨rfl, rfl, rfl, rfl, trivial⟩ ?_; refine ChainV.q (some 8) [] (fun _ _ _ _ hF => TL.move rfl rfl (TL.one hF)) ?_; refine ChainV.q (some 9) [(0, 0)] (fun _ _ _ _ hF => TL.nilCheck rfl rfl (TL.one hF)) ?_; refine ChainV.q (some 10) [(1, 0)] (fun _ _ _ _ hF => TL.fieldAddr rfl rfl (TL.one hF)) ?_
    refine ChainV.q (some 11) [(2, 0)] (by
     intro H' X F hle; have hL := Le.trans hL hle; intro hF; refine TL.load_own 1 0 rfl rfl rfl rfl rfl ?_
     exact TL.one hF) ?_
    refine ChainV.q (some 12) [] (by
     intro H' X F hle; have hL := Le.trans hL hle; intro hF; refine TL.load_ownA 0 0 [_, _, _] rfl rfl rfl ⟨rfl, rfl, rfl, trivial⟩ rfl rfl ?_
     exact TL.one hF) ?_
    refine ⟨by kernel_rfl, .refl _, ?_⟩
    ·
     intro H1 hle; have hL := Le.trans hL hle; refine TL.toOwn (own' := _ :: _ :: _ :: own) rfl ?_; refine TL.wk (env' := [(0, _), (1, _), (2, _), (4, _), (11, _), (12, _)]) ⟨rfl, rfl, rfl, rfl, rfl, rfl, trivial⟩ ?_; refine TL.mapDelNil rfl rfl KKY hkl rfl ?_; refine TL.nil ?_; refine TQ.then_n ?_; refine TC.ret ?_; refine TQ.then_r ?_
     refine TQ.sel 3 [1, 2] rfl (fun o ho => ?_)
     simp only [K.sel, List.map_cons, List.map_nil, List.getD_cons_zero, List.getD_cons_succ, List.drop_succ_cons, List.drop_zero, List.cons_append, List.nil_append, List.set_cons_zero, List.set_cons_succ] at ho; subst ho
     
     refine TQ.ret0 0 rfl ?_
     first
       | exact ⟨_, _, rfl, rfl, .inl ⟨rfl, (by unfold putF; rw [decide_eq_true he]; rfl), rfl⟩, hL⟩
       | exact ⟨_, _, rfl, rfl, .inr ⟨_, _, _, rfl, rfl, hmk2, (by omega)⟩, hL⟩
       | exact ⟨_, _, rfl, rfl, .inr ⟨_, _, _, rfl, rfl, hmk2, (by split <;> omega)⟩, hL⟩
   ·
    refine TC.drawQV 5  [(0, _), (1, _), (2, _), (4, _)] follows_mixed ⟨rfl, rfl, rfl, rfl, trivial⟩ ?_; refine ChainV.q (some 8) [] (fun _ _ _ _ hF => TL.move rfl rfl (TL.one hF)) ?_; refine ChainV.q (some 9) [(0, 0)] (fun _ _ _ _ hF => TL.nilCheck rfl rfl (TL.one hF)) ?_; refine ChainV.q (some 10) [(1, 0)] (fun _ _ _ _ hF => TL.fieldAddr rfl rfl (TL.one hF)) ?_
    refine ChainV.q (some 11) [(2, 0)] (by
     intro H' X F hle; have hL := Le.trans hL hle; intro hF; refine TL.load_own 1 0 rfl rfl rfl rfl rfl ?_
     exact TL.one hF) ?_
    refine ChainV.q (some 12) [] (by
     intro H' X F hle; have hL := Le.trans hL hle; intro hF; refine TL.load_ownA 0 0 [_, _, _] rfl rfl rfl ⟨rfl, rfl, rfl, trivial⟩ rfl rfl ?_
     exact TL.one hF) ?_
    refine ⟨by kernel_rfl, .refl _, ?_⟩
    ·
     intro H2 hle; have hL := Le.trans hL hle; refine TL.toOwn (own' := _ :: _ :: _ :: own) rfl ?_; refine TL.wk (env' := [(0, _), (1, _), (2, _), (4, _), (11, _), (12, _)]) ⟨rfl, rfl, rfl, rfl, rfl, rfl, trivial⟩ ?_
     refine TL.mapDelK 2 0 (mapF (putF l f)) rfl rfl rfl rfl KKY hmk hkl (by have := mapF_put_same l f; rw [if_pos he] at this; exact this) (fun v hv => mapF_put_other l f hv) rfl ?_; intro o2 n2 hmk2 hn2
     refine TL.nil ?_; refine TQ.then_n ?_; refine TC.ret ?_; refine TQ.then_r ?_
     refine TQ.sel 3 [1, 2] rfl (fun o ho => ?_)
     simp only [K.sel, List.map_cons, List.map_nil, List.getD_cons_zero, List.getD_cons_succ, List.drop_succ_cons, List.drop_zero, List.cons_append, List.nil_append, List.set_cons_zero, List.set_cons_succ] at ho; subst ho
     
     refine TQ.ret0 0 rfl ?_
     first
       | exact ⟨_, _, rfl, rfl, .inl ⟨rfl, (by unfold putF; rw [decide_eq_true he]; rfl), rfl⟩, hL⟩
       | exact ⟨_, _, rfl, rfl, .inr ⟨_, _, _, rfl, rfl, hmk2, (by omega)⟩, hL⟩
       | exact ⟨_, _, rfl, rfl, .inr ⟨_, _, _, rfl, rfl, hmk2, (by split <;> omega)⟩, hL⟩
  ·
   refine TL.nil ?_; refine TQ.then_n ?_; refine TC.cond_f rfl ?_; refine TC.skip ?_; refine TQ.then_n ?_; refine TC.seq ?_; refine TC.seq ?_
   rcases hp with ⟨rfl, rfl, rfl⟩ | ⟨gm, o, n, rfl, rfl, hmk, hnm⟩
   ·
    refine TC.region ?_; refine TL.move rfl rfl ?_; refine TL.nilCheck rfl rfl ?_; refine TL.fieldAddr rfl rfl ?_; refine TL.load_own 1 0 rfl rfl rfl rfl rfl ?_; refine TL.eqlMapNil rfl rfl rfl ?_; refine TL.nil ?_; refine TQ.then_n ?_; refine TC.cond_t rfl ?_; refine TC.region ?_; refine TL.move rfl rfl ?_
    refine TL.newMap rfl ?_; intro g19; refine TL.nilCheck rfl rfl ?_; refine TL.fieldAddr rfl rfl ?_; refine TL.store1 2 0 (c' := #[_, _, _, _]) (own' := _ :: _ :: [(_, .cells #[_, _, _, _] _ _)] :: _) rfl rfl rfl rfl rfl (by simp) rfl rfl rfl ?_; refine TL.nil ?_; refine TQ.then_n ?_; refine TC.drawQV 6  [(0, _), (1, _), (2, _), (4, _)] follows_mixed ⟨rfl, rfl, rfl, rfl, trivial⟩ ?_; refine ChainV.q (some 22) [] (fun _ _ _ _ hF => TL.move rfl rfl (TL.one hF)) ?_; refine ChainV.q (some 23) [(0, 0)] (fun _ _ _ _ hF => TL.nilCheck rfl rfl (TL.one hF)) ?_; refine ChainV.q (some 24) [(1, 0)] (fun _ _ _ _ hF => TL.fieldAddr rfl rfl (TL.one hF)) ?_
    refine ChainV.q (some 25) [(2, 0)] (by
     intro H' X F hle; have hL := Le.trans hL hle; intro hF; refine TL.load_own 2 0 rfl rfl rfl rfl rfl ?_
     exact TL.one hF) ?_
    refine ChainV.q (some 26) [] (by
     intro H' X F hle; have hL := Le.trans hL hle; intro hF; refine TL.load_ownA 1 0 [_, _, _] rfl rfl rfl ⟨rfl, rfl, rfl, trivial⟩ rfl rfl ?_
     exact TL.one hF) ?_
    refine ChainV.q (some 27) [] (fun _ _ _ _ hF => TL.move rfl rfl (TL.one hF)) ?_
    refine ⟨by kernel_rfl, .refl _, ?_⟩
    ·
     intro H3 hle; have hL := Le.trans hL hle; refine TL.toOwn (own' := _ :: _ :: _ :: _ :: own) rfl ?_; refine TL.wk (env' := [(0, _), (1, _), (2, _), (4, _), (25, _), (26, _), (27, _)]) ⟨rfl, rfl, rfl, rfl, rfl, rfl, rfl, trivial⟩ ?_
     refine TL.mapSetK 0 0 (mapF (putF [] f)) rfl rfl rfl rfl rfl KKY (MapK.congr (MapK.nil Tryz.prog 95) (fun v => (mapF_nil v).symm)) (by show _ < 9223372036854775807; omega) hkl (by have := mapF_put_same [] f; rw [if_neg he] at this; exact this) (fun v hv => mapF_put_other [] f hv) rfl ?_; intro o2 hmk2
     refine TL.nil ?_
     refine TQ.sel 4 [2, 0] rfl (fun o ho => ?_)
     simp only [K.sel, List.map_cons, List.map_nil, List.getD_cons_zero, List.getD_cons_succ, List.drop_succ_cons, List.drop_zero, List.cons_append, List.nil_append, List.set_cons_zero, List.set_cons_succ] at ho; subst ho
     
     refine TQ.end0 0 rfl ?_
     first
       | exact ⟨_, _, rfl, rfl, .inl ⟨rfl, (by unfold putF; rw [decide_eq_true he]; rfl), rfl⟩, hL⟩
       | exact ⟨_, _, rfl, rfl, .inr ⟨_, _, _, rfl, rfl, hmk2, (by omega)⟩, hL⟩
       | exact ⟨_, _, rfl, rfl, .inr ⟨_, _, _, rfl, rfl, hmk2, (by split <;> omega)⟩, hL⟩
   ·
    refine TC.region ?_; refine TL.move rfl rfl ?_; refine TL.nilCheck rfl rfl ?_; refine TL.fieldAddr rfl rfl ?_; refine TL.load_own 1 0 rfl rfl rfl rfl rfl ?_; refine TL.eqlMapNil rfl rfl rfl ?_; refine TL.nil ?_; refine TQ.then_n ?_; refine TC.cond_f rfl ?_; refine TC.skip ?_; refine TQ.then_n ?_; refine TC.drawQV 6  [(0, _), (1, _), (2, _), (4, _)] follows_mixed ⟨rfl, rfl, rfl, rfl, trivial⟩ ?_; refine ChainV.q (some 22) [] (fun _ _ _ _ hF => TL.move rfl rfl (TL.one hF)) ?_; refine ChainV.q (some 23) [(0, 0)] (fun _ _ _ _ hF => TL.nilCheck rfl rfl (TL.one hF)) ?_; refine ChainV.q (some 24) [(1, 0)] (fun _ _ _ _ hF => TL.fieldAddr rfl rfl (TL.one hF)) ?_
    refine ChainV.q (some 25) [(2, 0)] (by
     intro H' X F hle; have hL := Le.trans hL hle; intro hF; refine TL.load_own 1 0 rfl rfl rfl rfl rfl ?_
     exact TL.one hF) ?_
    refine ChainV.q (some 26) [] (by
     intro H' X F hle; have hL := Le.trans hL hle; intro hF; refine TL.load_ownA 0 0 [_, _, _] rfl rfl rfl ⟨rfl, rfl, rfl, trivial⟩ rfl rfl ?_
     exact TL.one hF) ?_
    refine ChainV.q (some 27) [] (fun _ _ _ _ hF => TL.move rfl rfl (TL.one hF)) ?_
    refine ⟨by kernel_rfl, .refl _, ?_⟩
    ·
     intro H4 hle; have hL := Le.trans hL hle; refine TL.toOwn (own' := _ :: _ :: _ :: own) rfl ?_; refine TL.wk (env' := [(0, _), (1, _), (2, _), (4, _), (25, _), (26, _), (27, _)]) ⟨rfl, rfl, rfl, rfl, rfl, rfl, rfl, trivial⟩ ?_
     refine TL.mapSetK 2 0 (mapF (putF l f)) rfl rfl rfl rfl rfl KKY hmk (by show _ < 9223372036854775807; omega) hkl (by have := mapF_put_same l f; rw [if_neg he] at this; exact this) (fun v hv => mapF_put_other l f hv) rfl ?_; intro o2 hmk2
     refine TL.nil ?_
     refine TQ.sel 3 [1, 2] rfl (fun o ho => ?_)
     simp only [K.sel, List.map_cons, List.map_nil, List.getD_cons_zero, List.getD_cons_succ, List.drop_succ_cons, List.drop_zero, List.cons_append, List.nil_append, List.set_cons_zero, List.set_cons_succ] at ho; subst ho
     
     refine TQ.end0 0 rfl ?_
     first
       | exact ⟨_, _, rfl, rfl, .inl ⟨rfl, (by unfold putF; rw [decide_eq_true he]; rfl), rfl⟩, hL⟩
       | exact ⟨_, _, rfl, rfl, .inr ⟨_, _, _, rfl, rfl, hmk2, (by omega)⟩, hL⟩
       | exact ⟨_, _, rfl, rfl, .inr ⟨_, _, _, rfl, rfl, hmk2, (by split <;> omega)⟩, hL⟩
theorem proj_record {n : Nat} (hn : n ≤ 100000000000) {c : Int} (hc : 0 ≤ c ∧ c < 256) {p : ByteArray} (hp : p.size ≤ 100000000) {w0 : World} {H : Hp} {own : List Seg} {gp : Nat} {fm uv lv : Value} :
    Fn Tryz.prog 52 [.pointer (some ⟨gp, 0, none⟩), .int .u8 c, .string p] w0 H ([(gp, .cells #[fm, .int .i64 (n : Int), uv, lv] 37 (0, 0))] :: own) (fun r own' H' => r = .string (recS ⟨#[b8 c]⟩ (n + 1 : Nat) p) ∧ own' = [(gp, .cells #[fm, .int .i64 ((n + 1 : Nat) : Int), uv, lv] 37 (0, 0))] :: own ∧ Le H H') := by
  have hcw : Value.int .u8 c = byteV (b8 c) := by rw [b8_val, wrap_u8, Int.emod_eq_of_lt hc.1 (by omega)]
  have hz : ((⟨#[b8 c]⟩ : ByteArray) ++ num4 (n + 1 : Nat) ++ num4 p.size ++ p).size = 9 + p.size := by
    simp only [ByteArray.size_append, num4_size]
    show 1 + 4 + 4 + _ = _
    omega
  refine Fn.enter Tryz.func52 rfl Tryz.ntmps52 rfl ?_; have hL := Le.refl H; refine TC.seq ?_; refine TC.region ?_; refine TL.assign rfl rfl ?_; refine TL.nsr ?_; refine TL.move rfl rfl ?_; refine TL.nilCheck rfl rfl ?_; refine TL.fieldAddr rfl rfl ?_; refine TL.load_own 0 0 rfl rfl rfl rfl rfl ?_; refine TL.add rfl rfl rfl ⟨by omega, by omega⟩ ?_; refine TL.nilCheck rfl rfl ?_; refine TL.fieldAddr rfl rfl ?_; refine TL.store1 0 0 (c' := #[_, _, _, _]) (own' := [(_, .cells #[_, _, _, _] _ _)] :: _) rfl rfl rfl rfl rfl (by simp) rfl rfl rfl ?_; refine TL.nil ?_; refine TQ.then_n ?_; refine TC.seq ?_; refine TC.drawQV 14  [(0, _), (1, _), (2, _), (6, _)] follows_mixed ⟨rfl, rfl, rfl, rfl, trivial⟩ ?_; refine ChainV.q (some 15) [] (fun _ _ _ _ hF => TL.move rfl rfl (TL.one hF)) ?_
  refine ChainV.t true [] (some 16) [(0, 0)] ([]) (fun _ => fun u s H => ∃ g, u = .slice (some ⟨g, 0, none⟩) 1 1 ∧ s = [[(g, .cells #[.int .u8 c] 5 (0, 0))]]) (by
   intro H' X F hle; have hL := Le.trans hL hle; intro hF
   refine TL.litF (r := [_]) [(0, [_])] ⟨rfl, ⟨_, rfl, rfl⟩, trivial⟩ rfl rfl rfl rfl ?_; intro g16; refine TL.nil ?_
   exact TQ.one [_] hF (Le.refl _) ⟨_, rfl, rfl⟩) ?_
  refine ChainV.t false [1] (some 17) [(1, 0)] ([]) (fun _ => fun u s H => u = .string ⟨#[b8 c]⟩ ∧ s = []) (by
   intro H' X F hle; have hL := Le.trans hL hle; intro _
   rintro _ _ Hg16 hleg16 ⟨g16, rfl, rfl⟩
   intro hF; refine TL.toOwn (own' := _ :: _) rfl ?_; refine TL.convBS 0 0 [b8 c] rfl rfl rfl rfl ⟨congrArg some hcw, trivial⟩ rfl ?_; refine TL.nil ?_
   refine TQ.freeze (fun H3 hle3 hz => ?_)
   exact TQ.one [] hF hle3 ⟨rfl, rfl⟩) ?_
  refine ChainV.q (some 18) [] (fun _ _ _ _ hF => TL.move rfl rfl (TL.one hF)) ?_; refine ChainV.q (some 19) [(3, 0)] (fun _ _ _ _ hF => TL.nilCheck rfl rfl (TL.one hF)) ?_; refine ChainV.q (some 20) [(4, 0)] (fun _ _ _ _ hF => TL.fieldAddr rfl rfl (TL.one hF)) ?_
  refine ChainV.q (some 21) [(5, 0)] (by
   intro H' X F hle; have hL := Le.trans hL hle; intro hF; refine TL.load_own 0 0 rfl rfl rfl rfl rfl ?_
   exact TL.one hF) ?_
  refine ChainV.q (some 22) [(6, 0)] (by
   intro H' X F hle; have hL := Le.trans hL hle; intro hF; refine TL.call (proj_number (n := (n : Int) + 1) ⟨by omega, by omega⟩) ⟨rfl, trivial⟩ rfl ?_
   rintro _ _ H22 ⟨rfl, rfl, hle22⟩
   have hL := Le.trans hL hle22; refine TL.nil ?_
   exact TQ.one [] hF hle22 ⟨rfl, rfl⟩) ?_
  refine ChainV.q (some 23) [(2, 5), (7, 0)] (by
   intro H' X F hle; have hL := Le.trans hL hle; intro _
   rintro _ _ Hc17 hlec17 ⟨rfl, rfl⟩
   intro hF; refine TL.addS rfl rfl rfl (by simp only [ByteArray.size_append, num4_size]; show 1 + 4 ≤ _; omega) ?_
   exact TL.one hF) ?_
  refine ChainV.q (some 24) [] (fun _ _ _ _ hF => TL.move rfl rfl (TL.one hF)) ?_
  refine ChainV.q (some 25) [(9, 0)] (by
   intro H' X F hle; have hL := Le.trans hL hle; intro hF; refine TL.len_string rfl rfl ?_
   exact TL.one hF) ?_
  refine ChainV.q (some 26) [(10, 0)] (by
   intro H' X F hle; have hL := Le.trans hL hle; intro hF; refine TL.call (proj_number (n := (p.size : Int)) ⟨by omega, by omega⟩) ⟨rfl, trivial⟩ rfl ?_
   rintro _ _ H26 ⟨rfl, rfl, hle26⟩
   have hL := Le.trans hL hle26; refine TL.nil ?_
   exact TQ.one [] hF hle26 ⟨rfl, rfl⟩) ?_
  refine ChainV.q (some 27) [(8, 3), (11, 0)] (by
   intro H' X F hle; have hL := Le.trans hL hle; intro hF; refine TL.addS rfl rfl rfl (by simp only [ByteArray.size_append, num4_size]; show 1 + 4 + 4 ≤ _; omega) ?_
   exact TL.one hF) ?_
  refine ChainV.q (some 28) [] (fun _ _ _ _ hF => TL.move rfl rfl (TL.one hF)) ?_
  refine ⟨by kernel_rfl, .refl _, ?_⟩
  ·
   intro H1 hle
   rintro _ _ Hg16 hleg16 ⟨g16, rfl, rfl⟩
   rintro _ _ Hc17 hlec17 ⟨rfl, rfl⟩
   have hL := Le.trans hL hle; refine TL.toOwn (own' := _ :: own) rfl ?_; refine TL.wk (env' := [(0, _), (6, _), (27, _), (28, _)]) ⟨rfl, rfl, rfl, rfl, trivial⟩ ?_; refine TL.addS rfl rfl rfl (by simp only [ByteArray.size_append, num4_size]; show 1 + 4 + 4 + _ ≤ _; omega) ?_
   refine TL.assign rfl rfl ?_; refine TL.nsr ?_; refine TL.move rfl rfl ?_; refine TL.move rfl rfl ?_; refine TL.call (word_Sum (by show ByteArray.size (_ ++ num4 ((n + 1 : Nat) : Int) ++ _ ++ _) ≤ _; rw [hz]; omega)) ⟨rfl, trivial⟩ rfl ?_
   rintro _ _ H32 ⟨rfl, rfl, hle32⟩
   have hL := Le.trans hL hle32; refine TL.call (word_Put (crc_acc _)) ⟨rfl, trivial⟩ rfl ?_
   rintro _ _ H33 ⟨rfl, rfl, hle33⟩
   have hL := Le.trans hL hle33; refine TL.addS rfl rfl rfl (by show ByteArray.size (_ ++ num4 ((n + 1 : Nat) : Int) ++ _ ++ _) + _ ≤ _; rw [hz, put16_size]; omega) ?_
   refine TL.assign rfl rfl ?_; refine TL.nil ?_; refine TQ.then_n ?_; refine TC.ret ?_; refine TQ.ret1 0 rfl rfl ?_
   exact ⟨rfl, rfl, hL⟩
theorem proj_wrong1 {f : Fact} (hf : f.text.size ≤ 1000000) {w0 : World} {H : Hp} {own : List Seg} :
    Fn Tryz.prog 95 [.agg #[.int .i64 f.kind, .int .i64 f.bank, .int .u16 f.addr, .string f.text]] w0 H own (fun r own' H' => r = .bool (!factR f) ∧ own' = own ∧ Le H H') := by
  refine Fn.enter Tryz.func95 rfl Tryz.ntmps95 rfl ?_; have hL := Le.refl H; refine TC.seq ?_; refine TC.region ?_
  refine TL.box (c := #[_, _, _, _]) rfl rfl rfl ?_; intro g1; refine TL.assign rfl rfl ?_; refine TL.nsr ?_; refine TL.load_ownA 0 0 [_, _, _, _] rfl rfl rfl ⟨rfl, rfl, rfl, rfl, trivial⟩ rfl rfl ?_; refine TL.call (proj_valid hf) ⟨rfl, trivial⟩ rfl ?_
  rintro _ _ H4 ⟨rfl, rfl, hle4⟩
  have hL := Le.trans hL hle4; refine TL.not rfl rfl ?_; refine TL.assign rfl rfl ?_; refine TL.nil ?_; refine TQ.then_n ?_; refine TC.ret ?_; refine TQ.ret1 1 rfl rfl ?_
  exact ⟨rfl, rfl, hL⟩
theorem index_wrong {l : List Fact} (hl : ∀ g ∈ l, FOk g) {w0 : World} {H : Hp} {own : List Seg} {v : Value} (hA : rd H (.s 4 (factsD l)) v) :
    Fn Tryz.prog 134 [v, .func (.func 95) #[] #[]] w0 H own (fun r own' H' => r = .int .i64 (idxI (fun x => !factR x) l 0) ∧ own' = own ∧ Le H H') := by
  obtain ⟨A, c, rfl, hc1, hc2⟩ := facts_len hA
  refine Fn.enter Tryz.func134 rfl Tryz.ntmps134 rfl ?_; have hL := Le.refl H; refine TC.seq ?_; refine TC.region ?_; refine TL.assign rfl rfl ?_; refine TL.nil ?_; refine TQ.then_n ?_; refine TC.seq ?_; refine TC.seq ?_; refine TC.region ?_; refine TL.move rfl rfl ?_; refine TL.len_slice rfl rfl ?_; refine TL.move rfl rfl ?_; refine TL.nil ?_; refine TQ.then_n ?_; refine TC.block ?_; refine TC.loop (fun n env' own' H' => ∃ i, n = l.length - i ∧ i ≤ l.length ∧ idxI (fun x => !factR x) l 0 = idxI (fun x => !factR x) (l.drop i) i ∧ env' = [(0, .slice A l.length c), (1, .func (.func 95) #[] #[]), (7, .int .i64 (l.length : Int)), (8, .int .i64 (i : Int))] ∧ own' = own ∧ Le H H') l.length [(0, _), (1, _), (7, _), (8, _)] ⟨rfl, rfl, rfl, rfl, trivial⟩ ⟨0, by omega, by omega, rfl, rfl, rfl, Le.refl _⟩ ?_
  rintro n _ own H1 ⟨i, rfl, hi1, hix, rfl, rfl, hle0⟩
  have hL := Le.trans hL hle0; have hA := rd.mono hle0 hA; refine TC.seq ?_; refine TC.region ?_
  refine TL.lssB rfl rfl rfl (fun hlt => ?_) (fun hlt => ?_)
  ·
   obtain ⟨x, hx⟩ : ∃ x, l[i]? = some x := ⟨_, List.getElem?_eq_getElem (by omega)⟩
   obtain ⟨b1, o1, rfl, hpx⟩ := facts_at hA hx
   refine TL.nil ?_; refine TQ.then_n ?_; refine TC.seq ?_; refine TC.cond_t rfl ?_; refine TC.skip ?_; refine TQ.then_n ?_; refine TC.seq ?_; refine TC.block ?_; refine TC.seq ?_; refine TC.region ?_; refine TL.move rfl rfl ?_; refine TL.assign rfl rfl ?_; refine TL.nsr ?_; refine TL.move rfl rfl ?_; refine TL.move rfl rfl ?_; refine TL.move rfl rfl ?_; refine TL.indexAddr (i) rfl rfl rfl (by omega) rfl ?_; refine TL.load_immA rfl (hpx) rfl rfl ?_; refine TL.callV (vs := [_]) rfl (proj_wrong1 (hl x (List.mem_of_getElem? hx)).text) ⟨rfl, trivial⟩ rfl rfl ?_
   rintro _ own H16 ⟨rfl, rfl, hle16⟩
   have hL := Le.trans hL hle16; have hle0 := Le.trans hle0 hle16
   rcases hid : factR x with _ | _
   ·
    refine TL.nil ?_; refine TQ.then_n ?_; refine TC.cond_t rfl ?_; refine TC.seq ?_; refine TC.region ?_; refine TL.move rfl rfl ?_; refine TL.assign rfl rfl ?_; refine TL.nil ?_; refine TQ.then_n ?_; refine TC.ret ?_; refine TQ.in_r ?_; refine TQ.then_r ?_; refine TQ.then_r ?_; refine TQ.in_r ?_; refine TQ.then_r ?_; refine TQ.ret1 0 rfl rfl ?_
    first
      | exact ⟨by rw [hix, drop_cons hx]; simp [idxI, hid], rfl, hL⟩
      | exact ⟨by rw [hix, List.drop_of_length_le (by omega)]; rfl, rfl, hL⟩
   ·
    refine TL.nil ?_; refine TQ.then_n ?_; refine TC.cond_f rfl ?_; refine TC.skip ?_; refine TQ.in_n ?_; refine TQ.then_n ?_; refine TC.region ?_; refine TL.add rfl rfl rfl ⟨by omega, by omega⟩ ?_; refine TL.move rfl rfl ?_; refine TL.nil ?_; refine TQ.toOwn (own' := own) rfl ?_
    refine TQ.next (l.length - (i + 1)) [(0, _), (1, _), (7, _), (8, _)] (by omega) ⟨rfl, rfl, rfl, rfl, trivial⟩ ⟨i + 1, rfl, by omega, by rw [hix, drop_cons hx]; simp [idxI, hid], rfl, rfl, hle0⟩
  ·
   refine TL.nil ?_; refine TQ.then_n ?_; refine TC.seq ?_; refine TC.cond_f rfl ?_; refine TC.exit ?_; refine TQ.then_e ?_; refine TQ.then_e ?_; refine TQ.in_e ?_; refine TQ.nsr ?_; refine TL.assign rfl rfl ?_; refine TL.nil ?_; refine TQ.then_n ?_; refine TC.ret ?_; refine TQ.ret1 0 rfl rfl ?_
   first
     | exact ⟨by rw [hix, drop_cons hx]; simp [idxI, hid], rfl, hL⟩
     | exact ⟨by rw [hix, List.drop_of_length_le (by omega)]; rfl, rfl, hL⟩
theorem contains_wrong {l : List Fact} (hl : ∀ g ∈ l, FOk g) {w0 : World} {H : Hp} {own : List Seg} {v : Value} (hA : rd H (.s 4 (factsD l)) v) :
    Fn Tryz.prog 94 [v, .func (.func 95) #[] #[]] w0 H own (fun r own' H' => r = .bool (l.any (fun x => !factR x)) ∧ own' = own ∧ Le H H') := by
  obtain ⟨A, c, rfl, hc1, hc2⟩ := facts_len hA
  refine Fn.enter Tryz.func94 rfl Tryz.ntmps94 rfl ?_; have hL := Le.refl H; refine TC.seq ?_; refine TC.region ?_; refine TL.assign rfl rfl ?_; refine TL.nsr ?_; refine TL.move rfl rfl ?_; refine TL.move rfl rfl ?_; refine TL.call (index_wrong hl hA) ⟨rfl, rfl, trivial⟩ rfl ?_
  rintro _ _ H7 ⟨rfl, rfl, hle7⟩
  have hL := Le.trans hL hle7; refine TL.geq rfl rfl rfl ?_; refine TL.assign rfl rfl ?_; refine TL.nil ?_; refine TQ.then_n ?_; refine TC.ret ?_; refine TQ.ret1 0 rfl rfl ?_
  exact ⟨by rw [← idxI_any _ l 0], rfl, hL⟩
theorem proj_wrong {l : List Fact} (hl : ∀ g ∈ l, FOk g) {w0 : World} {H : Hp} {own : List Seg} {v : Value} (hA : rd H (.s 4 (factsD l)) v) :
    Fn Tryz.prog 48 [v] w0 H own (fun r own' H' => r = .int .i64 (wrongC l) ∧ own' = own ∧ Le H H') := by
  obtain ⟨A, c, rfl, hc1, hc2⟩ := facts_len hA
  refine Fn.enter Tryz.func48 rfl Tryz.ntmps48 rfl ?_; have hL := Le.refl H; refine TC.seq ?_; refine TC.region ?_; refine TL.assign rfl rfl ?_; refine TL.nil ?_; refine TQ.then_n ?_; refine TC.seq ?_; refine TC.block ?_; refine TC.seq ?_; refine TC.region ?_; refine TL.move rfl rfl ?_; refine TL.len_slice rfl rfl ?_
  refine TL.gtrB rfl rfl rfl (fun hmany => ?_) (fun hmany => ?_)
  ·
   refine TL.assign rfl rfl ?_; refine TL.nil ?_; refine TQ.then_n ?_; refine TC.cond_t rfl ?_; refine TC.seq ?_; refine TC.region ?_; refine TL.assign rfl rfl ?_; refine TL.nil ?_; refine TQ.then_n ?_; refine TC.ret ?_; refine TQ.in_r ?_; refine TQ.then_r ?_; refine TQ.ret1 0 rfl rfl ?_
   refine ⟨congrArg (Value.int .i64) ?_, rfl, hL⟩
   symm
   first
     | exact wrong_many (by omega)
     | exact wrong_none (by omega)
     | exact wrong_any (by omega) hid
     | exact wrong_dup (by omega) (by omega) hall (fun h => by have := hk2.2 h; omega)
     | exact wrong_ok (by omega) (by omega) hall (hk2.1 (by omega))
  ·
   refine TL.assign rfl rfl ?_; refine TL.nil ?_; refine TQ.then_n ?_; refine TC.cond_f rfl ?_; refine TC.seq ?_; refine TC.region ?_; refine TL.move rfl rfl ?_; refine TL.len_slice rfl rfl ?_
   refine TL.eqlB rfl rfl rfl (fun hnone => ?_) (fun hnone => ?_)
   ·
    refine TL.move rfl rfl ?_; refine TL.gno rfl rfl rfl rfl ?_; refine TL.gno rfl rfl rfl rfl ?_; refine TL.pickT rfl rfl rfl rfl ?_; refine TL.assign rfl rfl ?_; refine TL.nil ?_; refine TQ.then_n ?_; refine TC.cond_t rfl ?_; refine TC.seq ?_; refine TC.region ?_; refine TL.assign rfl rfl ?_; refine TL.nil ?_; refine TQ.then_n ?_; refine TC.ret ?_; refine TQ.in_r ?_; refine TQ.then_r ?_; refine TQ.ret1 0 rfl rfl ?_
    refine ⟨congrArg (Value.int .i64) ?_, rfl, hL⟩
    symm
    first
      | exact wrong_many (by omega)
      | exact wrong_none (by omega)
      | exact wrong_any (by omega) hid
      | exact wrong_dup (by omega) (by omega) hall (fun h => by have := hk2.2 h; omega)
      | exact wrong_ok (by omega) (by omega) hall (hk2.1 (by omega))
   ·
    refine TL.move rfl rfl ?_; refine TL.gyes rfl rfl rfl ?_; refine TL.move rfl rfl ?_; refine TL.gyes rfl rfl rfl ?_; refine TL.call (contains_wrong hl hA) ⟨rfl, rfl, trivial⟩ rfl ?_
    rintro _ own H16 ⟨rfl, rfl, hle16⟩
    have hL := Le.trans hL hle16; have hA := rd.mono hle16 hA
    rcases hid : (l.any fun x => !factR x) with _ | _
    rotate_left
    ·
     refine TL.pickF rfl rfl rfl rfl ?_; refine TL.assign rfl rfl ?_; refine TL.nil ?_; refine TQ.then_n ?_; refine TC.cond_t rfl ?_; refine TC.seq ?_; refine TC.region ?_; refine TL.assign rfl rfl ?_; refine TL.nil ?_; refine TQ.then_n ?_; refine TC.ret ?_; refine TQ.in_r ?_; refine TQ.then_r ?_; refine TQ.ret1 0 rfl rfl ?_
     refine ⟨congrArg (Value.int .i64) ?_, rfl, hL⟩
     symm
     first
       | exact wrong_many (by omega)
       | exact wrong_none (by omega)
       | exact wrong_any (by omega) hid
       | exact wrong_dup (by omega) (by omega) hall (fun h => by have := hk2.2 h; omega)
       | exact wrong_ok (by omega) (by omega) hall (hk2.1 (by omega))
    ·
     have hall := any_all hid; refine TL.pickF rfl rfl rfl rfl ?_; refine TL.assign rfl rfl ?_; refine TL.nil ?_; refine TQ.then_n ?_; refine TC.cond_f rfl ?_; refine TC.skip ?_; refine TQ.in_n ?_; refine TQ.nsr ?_
     refine TL.newMap rfl ?_; intro g18; refine TL.assign rfl rfl ?_; refine TL.nil ?_; refine TQ.then_n ?_; refine TC.seq ?_; refine TC.seq ?_; refine TC.region ?_; refine TL.move rfl rfl ?_; refine TL.len_slice rfl rfl ?_; refine TL.move rfl rfl ?_; refine TL.nil ?_; refine TQ.then_n ?_; refine TC.block ?_; refine TC.loop (fun n env' own' H' => ∃ i k o, n = l.length - i ∧ i ≤ l.length ∧ MapK Tryz.prog 95 o k (keysF (l.take i)) ∧ k ≤ i ∧ (k = i ↔ ((l.take i).map Fact.key).Nodup) ∧ env' = [(0, .slice A l.length c), (3, .map (some g18)), (19, .slice A l.length c), (20, .int .i64 (l.length : Int)), (21, .int .i64 (i : Int))] ∧ own' = [(g18, o)] :: own ∧ Le H16 H') l.length [(0, _), (3, _), (19, _), (20, _), (21, _)] ⟨rfl, rfl, rfl, rfl, rfl, trivial⟩ ⟨0, 0, _, by omega, by omega, MapK.congr (MapK.nil Tryz.prog 95) (fun v => (keysF_nil v).symm), Nat.le_refl _, by simp, rfl, rfl, Le.refl _⟩ ?_
     rintro n _ _ H1 ⟨i, k, o, rfl, hi1, hmk, hk1, hk2, rfl, rfl, hle0⟩
     have hL := Le.trans hL hle0; have hA := rd.mono hle0 hA; refine TC.seq ?_; refine TC.region ?_
     refine TL.lssB rfl rfl rfl (fun hlt => ?_) (fun hlt => ?_)
     ·
      obtain ⟨x, hx⟩ : ∃ x, l[i]? = some x := ⟨_, List.getElem?_eq_getElem (by omega)⟩
      obtain ⟨b1, o1, rfl, hpx⟩ := facts_at hA hx
      obtain ⟨kl, hkl⟩ := keyOk (hl x (List.mem_of_getElem? hx))
      have hkk := keys_step (x := x) (show (l.take i).length = i by rw [List.length_take]; omega) hk1 hk2
      refine TL.nil ?_; refine TQ.then_n ?_; refine TC.seq ?_; refine TC.cond_t rfl ?_; refine TC.skip ?_; refine TQ.then_n ?_; refine TC.seq ?_; refine TC.block ?_; refine TC.seq ?_; refine TC.region ?_; refine TL.indexAddr (i) rfl rfl rfl (by omega) rfl ?_; refine TL.load_immA rfl (hpx) rfl rfl ?_
      refine TL.new rfl ?_; intro g5; refine TL.storeA 0 0 (c' := #[_, _, _, _]) (own' := [(_, .cells #[_, _, _, _] _ _)] :: _) rfl rfl rfl rfl rfl ⟨rfl, rfl, rfl, rfl, trivial⟩ (Nat.le_refl 4) rfl rfl rfl ?_; refine TL.nil ?_; refine TQ.then_n ?_; refine TC.region ?_; refine TL.move rfl rfl ?_; refine TL.fieldAddr rfl rfl ?_; refine TL.load_own 0 0 rfl rfl rfl rfl rfl ?_; refine TL.fieldAddr rfl rfl ?_; refine TL.load_ownA 0 0 [_, _] rfl rfl rfl ⟨rfl, rfl, trivial⟩ rfl rfl ?_; refine TL.struct [(0, [_]), (1, [_, _])] ⟨rfl, ⟨_, rfl, rfl⟩, rfl, ⟨_, rfl, rfl⟩, trivial⟩ rfl rfl ?_
      refine TL.mapSetK 1 0 (keysF (l.take (i + 1))) rfl rfl rfl rfl rfl KKY hmk (by show _ < 9223372036854775807; omega) hkl (by rw [take_succ hx]; exact keysF_same) (fun v hv => by rw [take_succ hx]; exact keysF_other hv) rfl ?_; intro o2 hmk2
      refine TL.nil ?_; refine TQ.in_n ?_; refine TQ.then_n ?_; refine TC.region ?_; refine TL.add rfl rfl rfl ⟨by omega, by omega⟩ ?_; refine TL.move rfl rfl ?_; refine TL.nil ?_
      refine TQ.sel 2 [1] rfl (fun o ho => ?_)
      simp only [K.sel, List.map_cons, List.map_nil, List.getD_cons_zero, List.getD_cons_succ, List.drop_succ_cons, List.drop_zero, List.cons_append, List.nil_append, List.set_cons_zero, List.set_cons_succ] at ho; subst ho
      refine TQ.next (l.length - (i + 1)) [(0, _), (3, _), (19, _), (20, _), (21, _)] (by omega) ⟨rfl, rfl, rfl, rfl, rfl, trivial⟩ ⟨i + 1, _, _, rfl, by omega, hmk2, hkk.1, by rw [take_succ hx]; exact hkk.2, rfl, rfl, hle0⟩
     ·
      refine TL.nil ?_; refine TQ.then_n ?_; refine TC.seq ?_; refine TC.cond_f rfl ?_; refine TC.exit ?_; refine TQ.then_e ?_; refine TQ.then_e ?_; refine TQ.in_e ?_; refine TQ.then_n ?_; refine TC.seq ?_; refine TC.seq ?_; refine TC.region ?_; refine TL.move rfl rfl ?_; refine TL.lenMapK 0 0 rfl rfl rfl hmk rfl ?_; refine TL.move rfl rfl ?_; refine TL.len_slice rfl rfl ?_
      refine TL.lssB rfl rfl rfl (fun hdup => ?_) (fun hdup => ?_)
      ·
       have hi := (show i = l.length by omega)
       rw [hi, List.take_length] at hk2
       refine TL.nil ?_; refine TQ.then_n ?_; refine TC.cond_t rfl ?_; refine TC.seq ?_; refine TC.region ?_; refine TL.assign rfl rfl ?_; refine TL.nil ?_; refine TQ.then_n ?_; refine TC.ret ?_; refine TQ.then_r ?_; refine TQ.ret1 1 rfl rfl ?_
       refine ⟨congrArg (Value.int .i64) ?_, rfl, hL⟩
       symm
       first
         | exact wrong_many (by omega)
         | exact wrong_none (by omega)
         | exact wrong_any (by omega) hid
         | exact wrong_dup (by omega) (by omega) hall (fun h => by have := hk2.2 h; omega)
         | exact wrong_ok (by omega) (by omega) hall (hk2.1 (by omega))
      ·
       have hi := (show i = l.length by omega)
       rw [hi, List.take_length] at hk2
       refine TL.nil ?_; refine TQ.then_n ?_; refine TC.cond_f rfl ?_; refine TC.skip ?_; refine TQ.nsr ?_; refine TL.assign rfl rfl ?_; refine TL.nil ?_; refine TQ.then_n ?_; refine TC.ret ?_; refine TQ.ret1 1 rfl rfl ?_
       refine ⟨congrArg (Value.int .i64) ?_, rfl, hL⟩
       symm
       first
         | exact wrong_many (by omega)
         | exact wrong_none (by omega)
         | exact wrong_any (by omega) hid
         | exact wrong_dup (by omega) (by omega) hall (fun h => by have := hk2.2 h; omega)
         | exact wrong_ok (by omega) (by omega) hall (hk2.1 (by omega))


end Go.Proofs.YteeamfkhkbfilaaGreat.K

namespace Go.Proofs.YteeamfkhkbfilaaGreat.K
open Go Go.RowKit Go.Proofs

theorem proj_Commit {z : RS} (hzo : z.Ok) (hn : z.n ≤ 10000000) {l : List Fact} (hl : ∀ g ∈ l, FOk g) {w0 : World} {H : Hp} {own : List Seg} {gp : Nat} {fm uv lv : Value} {sm su : Seg} {xu : List Value} (hm : PSm H gp z fm uv sm su xu) {v : Value} (hA : rd H (.s 4 (factsD l)) v) :
    Fn Tryz.prog 23 [.pointer (some ⟨gp, 0, none⟩), v] w0 H ([(gp, .cells #[fm, .int .i64 (z.n : Int), uv, lv] 37 (0, 0))] :: sm :: su :: own)
      (fun r own' H' => ∃ fm' uv' sm' su' xu', r = .tuple #[.string (rCom z l).1, .int .i64 (rCom z l).2.1] ∧ own' = [(gp, .cells #[fm', .int .i64 ((rCom z l).2.2.n : Int), uv', lv] 37 (0, 0))] :: sm' :: su' :: own ∧ PSm H' gp (rCom z l).2.2 fm' uv' sm' su' xu' ∧ Le H H') := by
  obtain ⟨A, c, rfl, hc1, hc2⟩ := facts_len hA
  obtain ⟨hp, hru, hxu⟩ := hm
  have hnow := hzo.now; have hzn := hzo.n; have hzs := hzo.stk; refine Fn.enter Tryz.func23 rfl Tryz.ntmps23 rfl ?_; have hL := Le.refl H; refine TC.seq ?_; refine TC.region ?_
  refine TL.box (c := #[_]) rfl rfl rfl ?_; intro g2; refine TL.assign rfl rfl ?_; refine TL.assign rfl rfl ?_; refine TL.nil ?_; refine TQ.then_n ?_; refine TC.seq ?_; refine TC.seq ?_; refine TC.region ?_; refine TL.load_own 0 0 rfl rfl rfl rfl rfl ?_; refine TL.eqlP rfl rfl rfl ?_; refine TL.nil ?_; refine TQ.then_n ?_; refine TC.cond_f rfl ?_; refine TC.skip ?_; refine TQ.then_n ?_; refine TC.seq ?_; refine TC.seq ?_; refine TC.region ?_; refine TL.move rfl rfl ?_; refine TL.call (proj_wrong hl hA) ⟨rfl, trivial⟩ rfl ?_
  rintro _ _ H15 ⟨rfl, rfl, hle15⟩
  have hL := Le.trans hL hle15; have hA := rd.mono hle15 hA; have hxu := Undos.mono hle15 hxu; refine TL.assign rfl rfl ?_; refine TL.nsr ?_; refine TL.move rfl rfl ?_
  refine TL.neqB rfl rfl rfl (fun hw => ?_) (fun hw => ?_)
  ·
   refine TL.nil ?_; refine TQ.then_n ?_; refine TC.cond_t rfl ?_; refine TC.seq ?_; refine TC.region ?_; refine TL.move rfl rfl ?_; refine TL.assign rfl rfl ?_; refine TL.assign rfl rfl ?_; refine TL.nil ?_; refine TQ.then_n ?_; refine TC.ret ?_; refine TQ.then_r ?_
   refine TQ.sel 4 [1, 2, 3] rfl (fun o ho => ?_)
   simp only [K.sel, List.map_cons, List.map_nil, List.getD_cons_zero, List.getD_cons_succ, List.drop_succ_cons, List.drop_zero, List.cons_append, List.nil_append, List.set_cons_zero, List.set_cons_succ] at ho; subst ho
   refine TQ.ret2 0 rfl rfl rfl ?_
   first
     | (rw [rCom_bad (by omega)]; exact ⟨_, _, _, _, _, rfl, rfl, ⟨hp, hru, hxu⟩, hL⟩)
     | (rw [rCom_good hw0]
        rw [hil, List.take_length] at hmk hcur ⊢
        subst hcur
        have hcl : Undoable _ gp (z.facts, l) (.func (.func 51) #[] #[.pointer (some ⟨g7, 0, none⟩), .pointer (some ⟨g2, 0, none⟩)]) := ⟨g7, g2, g19, o, k, _, rfl, cel_one hz_g7, cel_one hz_g2, hz_g19 _ List.mem_cons_self, hmk, fun q hq => oldF_mem hq, fun v hv => oldF_ne hv⟩
        exact ⟨_, _, _, _, _, rfl, rfl, ⟨hpc.more (by show _ ≤ 1000 * (z.n + 1); omega), by rw [show (z.commit l).stk.length = z.stk.length + 1 from List.length_append]; exact hru78, Undos.snoc hcl hxu⟩, hL⟩)
  ·
   have hw0 : wrongC l = 0 := by omega
   have hlen := (wrong_zero hw0).1
   have hnd := (wrong_zero hw0).2.2.2
   have hps := payS_small hw0; refine TL.nil ?_; refine TQ.then_n ?_; refine TC.cond_f rfl ?_; refine TC.skip ?_; refine TQ.nsr ?_
   refine TL.newMap rfl ?_; intro g19
   refine TL.new rfl ?_; intro g7; refine TL.store1 0 0 (c' := #[_]) (own' := [(_, .cells #[_] _ _)] :: _) rfl rfl rfl rfl rfl (by simp) rfl rfl rfl ?_; refine TL.nsr ?_; refine TL.assign rfl rfl ?_; refine TL.nil ?_; refine TQ.then_n ?_; refine TC.seq ?_; refine TC.seq ?_
   refine TC.sel 6 [3, 4, 5, 0, 1, 2] rfl (fun o ho => ?_)
   simp only [K.sel, List.map_cons, List.map_nil, List.getD_cons_zero, List.getD_cons_succ, List.drop_succ_cons, List.drop_zero, List.cons_append, List.nil_append, List.set_cons_zero, List.set_cons_succ] at ho; subst ho
   refine TC.region ?_; refine TL.move rfl rfl ?_; refine TL.len_slice rfl rfl ?_; refine TL.move rfl rfl ?_; refine TL.nil ?_; refine TQ.then_n ?_; refine TC.block ?_
   refine TC.loop (fun n env' own' H' => ∃ i k o fm' sm', n = l.length - i ∧ i ≤ l.length ∧ PMap ((l.take i).foldl putF z.facts) (1000 * z.n + i) fm' sm' ∧ MapK Tryz.prog 95 o k (oldF z.facts (l.take i)) ∧ k ≤ i ∧ env' = [(2, .pointer (some ⟨g2, 0, none⟩)), (7, .pointer (some ⟨g7, 0, none⟩)), (8, .string (payS (l.take i))), (20, .slice A l.length c), (21, .int .i64 (l.length : Int)), (22, .int .i64 (i : Int))] ∧ own' = [(gp, .cells #[fm', .int .i64 (z.n : Int), uv, lv] 37 (0, 0))] :: sm' :: su :: [(g7, .cells #[.map (some g19)] 33 (0, 0))] :: [(g19, o)] :: [(g2, .cells #[.pointer (some ⟨gp, 0, none⟩)] 32 (0, 0))] :: own ∧ Le H15 H') l.length [(2, _), (7, _), (8, _), (20, _), (21, _), (22, _)] ⟨rfl, rfl, rfl, rfl, rfl, rfl, trivial⟩ ⟨0, 0, _, _, _, by omega, by omega, hp.more (by omega), MapK.congr (MapK.nil Tryz.prog 95) (fun v => (oldF_nil _ v).symm), Nat.le_refl _, rfl, rfl, Le.refl _⟩ ?_
   rintro n _ _ H1 ⟨i, k, o, fm', sm', rfl, hi1, hpc, hmk, hk1, rfl, rfl, hle0⟩
   obtain ⟨cur, hcur⟩ : ∃ cur, cur = (l.take i).foldl putF z.facts := ⟨_, rfl⟩
   rw [← hcur] at hpc
   have hL := Le.trans hL hle0; have hA := rd.mono hle0 hA; have hxu := Undos.mono hle0 hxu; refine TC.seq ?_; refine TC.region ?_
   refine TL.lssB rfl rfl rfl (fun hlt => ?_) (fun hlt => ?_)
   ·
    obtain ⟨x, hx⟩ : ∃ x, l[i]? = some x := ⟨_, List.getElem?_eq_getElem (by omega)⟩
    obtain ⟨b1, o1, rfl, hpx⟩ := facts_at hA hx
    have hx1 := hl x (List.mem_of_getElem? hx)
    have hx2 := hx1.text
    obtain ⟨kl, hkl⟩ := keyOk hx1
    have hlk : look cur x.key = look z.facts x.key := by rw [hcur]; exact look_fold_other (nodup_at hnd hx)
    have hpt := payS_size (l.take i) (fun g hg => hl g (List.mem_of_mem_take hg))
    rw [List.length_take_of_le hi1] at hpt
    refine TL.nil ?_; refine TQ.then_n ?_; refine TC.seq ?_; refine TC.cond_t rfl ?_; refine TC.skip ?_; refine TQ.then_n ?_; refine TC.seq ?_; refine TC.block ?_; refine TC.seq ?_; refine TC.region ?_; refine TL.indexAddr (i) rfl rfl rfl (by omega) rfl ?_; refine TL.load_immA rfl (hpx) rfl rfl ?_
    refine TL.new rfl ?_; intro g10; refine TL.storeA 0 0 (c' := #[_, _, _, _]) (own' := [(_, .cells #[_, _, _, _] _ _)] :: _) rfl rfl rfl rfl rfl ⟨rfl, rfl, rfl, rfl, trivial⟩ (Nat.le_refl 4) rfl rfl rfl ?_; refine TL.nsr ?_; refine TL.fieldAddr rfl rfl ?_; refine TL.load_own 0 0 rfl rfl rfl rfl rfl ?_; refine TL.fieldAddr rfl rfl ?_; refine TL.load_ownA 0 0 [_, _] rfl rfl rfl ⟨rfl, rfl, trivial⟩ rfl rfl ?_; refine TL.struct [(0, [_]), (1, [_, _])] ⟨rfl, ⟨_, rfl, rfl⟩, rfl, ⟨_, rfl, rfl⟩, trivial⟩ rfl rfl ?_
    refine TL.new rfl ?_; intro g11; refine TL.storeA 0 0 (c' := #[_, _, _]) (own' := [(_, .cells #[_, _, _] _ _)] :: _) rfl rfl rfl rfl rfl ⟨rfl, rfl, rfl, trivial⟩ (by simp [putC]) rfl rfl rfl ?_; refine TL.nil ?_; refine TQ.then_n ?_; refine TC.seq ?_
    rcases hpc with ⟨rfl, hcn, rfl⟩ | ⟨gm, om, nm, rfl, rfl, hmc, hnm⟩
    ·
     have hpc : PMap cur (1000 * z.n + i) (.map none) [] := .inl ⟨rfl, hcn, rfl⟩
     refine TC.drawQV 8  [(2, _), (7, _), (8, _), (20, _), (21, _), (22, _), (10, _), (11, _)] follows_mixed ⟨rfl, rfl, rfl, rfl, rfl, rfl, rfl, rfl, trivial⟩ ?_
     refine ChainV.q (some 31) [] (by
      intro H' X F hle; have hL := Le.trans hL hle; intro hF; refine TL.load_own 5 0 rfl rfl rfl rfl rfl ?_
      exact TL.one hF) ?_
     refine ChainV.q (some 32) [] (by
      intro H' X F hle; have hL := Le.trans hL hle; intro hF; refine TL.load_ownA 0 0 [_, _, _] rfl rfl rfl ⟨rfl, rfl, rfl, trivial⟩ rfl rfl ?_
      exact TL.one hF) ?_
     refine ChainV.q (some 33) [] (by
      intro H' X F hle; have hL := Le.trans hL hle; intro hF; refine TL.load_own 7 0 rfl rfl rfl rfl rfl ?_
      exact TL.one hF) ?_
     refine ChainV.q (some 34) [(2, 0)] (fun _ _ _ _ hF => TL.nilCheck rfl rfl (TL.one hF)) ?_; refine ChainV.q (some 35) [(3, 0)] (fun _ _ _ _ hF => TL.fieldAddr rfl rfl (TL.one hF)) ?_
     refine ChainV.q (some 36) [(4, 0)] (by
      intro H' X F hle; have hL := Le.trans hL hle; intro hF; refine TL.load_own 2 0 rfl rfl rfl rfl rfl ?_
      exact TL.one hF) ?_
     refine ChainV.q (some 37) [] (by
      intro H' X F hle; have hL := Le.trans hL hle; intro hF; refine TL.load_ownA 0 0 [_, _, _] rfl rfl rfl ⟨rfl, rfl, rfl, trivial⟩ rfl rfl ?_
      exact TL.one hF) ?_
     refine ChainV.q (some 38) [(5, 1), (6, 0)] (by
      intro H' X F hle; have hL := Le.trans hL hle; intro hF; refine TL.lookNilK rfl rfl KKY hkl zstr rfl ?_
      rw [show ((if false = true then Value.tuple #[.string ⟨#[]⟩, .bool false] else .string ⟨#[]⟩) = .string ((look z.facts x.key).getD eS)) by rw [← hlk, hcn]; rfl]
      exact TL.one hF) ?_
     refine ⟨by kernel_rfl, .refl _, ?_⟩
     ·
      intro H1 hle; have hL := Le.trans hL hle; have hle0 := Le.trans hle0 hle; refine TL.toOwn (own' := _ :: _ :: _ :: _ :: _ :: _ :: _ :: _ :: own) rfl ?_; refine TL.wk (env' := [(2, _), (7, _), (8, _), (20, _), (21, _), (22, _), (10, _), (11, _), (31, _), (32, _), (38, _)]) ⟨rfl, rfl, rfl, rfl, rfl, rfl, rfl, rfl, rfl, rfl, rfl, trivial⟩ ?_
      refine TL.mapSetK 6 0 (oldF z.facts (l.take (i + 1))) rfl rfl rfl rfl rfl KKY hmk (by show _ < 9223372036854775807; omega) hkl (by rw [take_succ hx]; exact oldF_same) (fun v hv => by rw [take_succ hx]; exact oldF_other hv) rfl ?_; intro o2 hmk2
      refine TL.nsr ?_; refine TL.load_own 7 0 rfl rfl rfl rfl rfl ?_; refine TL.load_ownA 0 0 [_, _, _] rfl rfl rfl ⟨rfl, rfl, rfl, trivial⟩ rfl rfl ?_; refine TL.fieldAddr rfl rfl ?_; refine TL.load_own 1 0 rfl rfl rfl rfl rfl ?_
      refine TL.sel 8 [2, 3, 0, 1, 4, 5, 6, 7] rfl (fun o ho => ?_)
      simp only [K.sel, List.map_cons, List.map_nil, List.getD_cons_zero, List.getD_cons_succ, List.drop_succ_cons, List.drop_zero, List.cons_append, List.nil_append, List.set_cons_zero, List.set_cons_succ] at ho; subst ho
      refine TL.call (proj_set (by omega) hx1 hpc) ⟨rfl, rfl, rfl, trivial⟩ rfl ?_
      rintro _ _ H43 ⟨fm2, sm2, rfl, rfl, hp2, hle43⟩
      have hL := Le.trans hL hle43; have hle0 := Le.trans hle0 hle43; refine TL.nil ?_; refine TQ.then_n ?_; refine TC.drawQV 25  [(2, _), (7, _), (8, _), (20, _), (21, _), (22, _), (10, _), (11, _)] follows_mixed ⟨rfl, rfl, rfl, rfl, rfl, rfl, rfl, rfl, trivial⟩ ?_; refine ChainV.q (some 44) [] (fun _ _ _ _ hF => TL.move rfl rfl (TL.one hF)) ?_; refine ChainV.q (some 45) [] (fun _ _ _ _ hF => TL.fieldAddr rfl rfl (TL.one hF)) ?_
      refine ChainV.q (some 46) [(1, 0)] (by
       intro H' X F hle; have hL := Le.trans hL hle; intro hF; refine TL.load_own 3 0 rfl rfl rfl rfl rfl ?_
       exact TL.one hF) ?_
      refine ChainV.q (some 47) [(2, 0)] (by
       intro H' X F hle; have hL := Le.trans hL hle; intro hF; refine TL.convI rfl rfl ?_
       exact TL.one hF) ?_
      refine ChainV.q (some 48) [] (fun _ _ _ _ hF => TL.fieldAddr rfl rfl (TL.one hF)) ?_; refine ChainV.q (some 49) [(4, 0)] (fun _ _ _ _ hF => TL.fieldAddr rfl rfl (TL.one hF)) ?_
      refine ChainV.q (some 50) [(5, 0)] (by
       intro H' X F hle; have hL := Le.trans hL hle; intro hF; refine TL.load_own 3 0 rfl rfl rfl rfl rfl ?_
       exact TL.one hF) ?_
      refine ChainV.q (some 51) [(6, 0)] (by
       intro H' X F hle; have hL := Le.trans hL hle; intro hF; refine TL.convI rfl rfl ?_
       exact TL.one hF) ?_
      refine ChainV.t true [] (some 52) [(3, 4), (7, 0)] ([]) (fun _ => fun u s H => ∃ g, u = .slice (some ⟨g, 0, none⟩) 2 2 ∧ s = [[(g, .cells #[.int .u8 (IntKind.u8.wrap x.kind), .int .u8 (IntKind.u8.wrap x.bank)] 5 (0, 0))]]) (by
       intro H' X F hle; have hL := Le.trans hL hle; intro hF
       refine TL.litF (r := [_, _]) [(0, [_]), (1, [_])] ⟨rfl, ⟨_, rfl, rfl⟩, rfl, ⟨_, rfl, rfl⟩, trivial⟩ rfl rfl rfl rfl ?_; intro g52; refine TL.nil ?_
       exact TQ.one [_] hF (Le.refl _) ⟨_, rfl, rfl⟩) ?_
      refine ChainV.t false [8] (some 53) [(8, 0)] ([]) (fun _ => fun u s H => u = .string ⟨#[b8 x.kind, b8 x.bank]⟩ ∧ s = []) (by
       intro H' X F hle; have hL := Le.trans hL hle; intro _
       rintro _ _ Hg52 hleg52 ⟨g52, rfl, rfl⟩
       intro hF; refine TL.toOwn (own' := _ :: _) rfl ?_; refine TL.convBS 0 0 [b8 x.kind, b8 x.bank] rfl rfl rfl rfl ⟨congrArg some (b8_val _).symm, congrArg some (b8_val _).symm, trivial⟩ rfl ?_; refine TL.nil ?_
       refine TQ.freeze (fun H3 hle3 hz => ?_)
       exact TQ.one [] hF hle3 ⟨rfl, rfl⟩) ?_
      refine ChainV.q (some 54) [] (fun _ _ _ _ hF => TL.fieldAddr rfl rfl (TL.one hF)) ?_; refine ChainV.q (some 55) [(10, 0)] (fun _ _ _ _ hF => TL.fieldAddr rfl rfl (TL.one hF)) ?_
      refine ChainV.q (some 56) [(11, 0)] (by
       intro H' X F hle; have hL := Le.trans hL hle; intro hF; refine TL.load_own 3 0 rfl rfl rfl rfl rfl ?_
       exact TL.one hF) ?_
      refine ChainV.q (some 57) [(12, 0)] (by
       intro H' X F hle; have hL := Le.trans hL hle; intro hF; refine TL.call (word_Put hx1.addr) ⟨rfl, trivial⟩ rfl ?_
       rintro _ _ H57 ⟨rfl, rfl, hle57⟩
       have hL := Le.trans hL hle57; refine TL.nil ?_
       exact TQ.one [] hF hle57 ⟨rfl, rfl⟩) ?_
      refine ChainV.q (some 58) [(9, 4), (13, 0)] (by
       intro H' X F hle; have hL := Le.trans hL hle; intro _
       rintro _ _ Hc53 hlec53 ⟨rfl, rfl⟩
       intro hF; refine TL.addS rfl rfl rfl (by simp only [ByteArray.size_append, put16_size]; show 2 + 2 ≤ _; omega) ?_
       exact TL.one hF) ?_
      refine ChainV.q (some 59) [] (fun _ _ _ _ hF => TL.fieldAddr rfl rfl (TL.one hF)) ?_
      refine ChainV.q (some 60) [(15, 0)] (by
       intro H' X F hle; have hL := Le.trans hL hle; intro hF; refine TL.load_own 3 0 rfl rfl rfl rfl rfl ?_
       exact TL.one hF) ?_
      refine ChainV.q (some 61) [(16, 0)] (by
       intro H' X F hle; have hL := Le.trans hL hle; intro hF; refine TL.len_string rfl rfl ?_
       exact TL.one hF) ?_
      refine ChainV.q (some 62) [(17, 0)] (by
       intro H' X F hle; have hL := Le.trans hL hle; intro hF; refine TL.convI rfl rfl ?_
       exact TL.one hF) ?_
      refine ChainV.t true [] (some 63) [(18, 0)] ([]) (fun _ => fun u s H => ∃ g, u = .slice (some ⟨g, 0, none⟩) 1 1 ∧ s = [[(g, .cells #[.int .u8 (IntKind.u8.wrap (x.text.size : Int))] 5 (0, 0))]]) (by
       intro H' X F hle; have hL := Le.trans hL hle; intro hF
       refine TL.litF (r := [_]) [(0, [_])] ⟨rfl, ⟨_, rfl, rfl⟩, trivial⟩ rfl rfl rfl rfl ?_; intro g63; refine TL.nil ?_
       exact TQ.one [_] hF (Le.refl _) ⟨_, rfl, rfl⟩) ?_
      refine ChainV.t false [19] (some 64) [(19, 0)] ([]) (fun _ => fun u s H => u = .string ⟨#[b8 x.text.size]⟩ ∧ s = []) (by
       intro H' X F hle; have hL := Le.trans hL hle; intro _
       rintro _ _ Hg63 hleg63 ⟨g63, rfl, rfl⟩
       intro hF; refine TL.toOwn (own' := _ :: _) rfl ?_; refine TL.convBS 0 0 [b8 x.text.size] rfl rfl rfl rfl ⟨congrArg some (b8_val _).symm, trivial⟩ rfl ?_; refine TL.nil ?_
       refine TQ.freeze (fun H3 hle3 hz => ?_)
       exact TQ.one [] hF hle3 ⟨rfl, rfl⟩) ?_
      refine ChainV.q (some 65) [(14, 6), (20, 0)] (by
       intro H' X F hle; have hL := Le.trans hL hle; intro _
       rintro _ _ Hc64 hlec64 ⟨rfl, rfl⟩
       intro hF; refine TL.addS rfl rfl rfl (by simp only [ByteArray.size_append, put16_size]; show 2 + 2 + 1 ≤ _; omega) ?_
       exact TL.one hF) ?_
      refine ChainV.q (some 66) [] (fun _ _ _ _ hF => TL.fieldAddr rfl rfl (TL.one hF)) ?_
      refine ChainV.q (some 67) [(22, 0)] (by
       intro H' X F hle; have hL := Le.trans hL hle; intro hF; refine TL.load_own 3 0 rfl rfl rfl rfl rfl ?_
       exact TL.one hF) ?_
      refine ChainV.q (some 68) [(21, 2), (23, 0)] (by
       intro H' X F hle; have hL := Le.trans hL hle; intro hF; refine TL.addS rfl rfl rfl (by simp only [ByteArray.size_append, put16_size]; show 2 + 2 + 1 + _ ≤ _; omega) ?_
       exact TL.one hF) ?_
      refine ⟨by kernel_rfl, .refl _, ?_⟩
      ·
       intro H2 hle
       rintro _ _ Hg52 hleg52 ⟨g52, rfl, rfl⟩
       rintro _ _ Hc53 hlec53 ⟨rfl, rfl⟩
       rintro _ _ Hg63 hleg63 ⟨g63, rfl, rfl⟩
       rintro _ _ Hc64 hlec64 ⟨rfl, rfl⟩
       have hL := Le.trans hL hle; have hle0 := Le.trans hle0 hle; refine TL.toOwn (own' := _ :: _ :: _ :: _ :: _ :: _ :: _ :: _ :: own) rfl ?_; refine TL.wk (env' := [(2, _), (7, _), (8, _), (20, _), (21, _), (22, _), (10, _), (11, _), (44, _), (68, _)]) ⟨rfl, rfl, rfl, rfl, rfl, rfl, rfl, rfl, rfl, rfl, trivial⟩ ?_; refine TL.addS rfl rfl rfl (by simp only [ByteArray.size_append, put16_size]; show _ + (2 + 2 + 1 + _) ≤ _; omega) ?_
       refine TL.assign rfl rfl ?_; refine TL.nil ?_; refine TQ.in_n ?_; refine TQ.then_n ?_; refine TC.region ?_; refine TL.add rfl rfl rfl ⟨by omega, by omega⟩ ?_; refine TL.move rfl rfl ?_; refine TL.nil ?_
       refine TQ.sel 8 [0, 1, 4, 5, 6, 7] rfl (fun o ho => ?_)
       simp only [K.sel, List.map_cons, List.map_nil, List.getD_cons_zero, List.getD_cons_succ, List.drop_succ_cons, List.drop_zero, List.cons_append, List.nil_append, List.set_cons_zero, List.set_cons_succ] at ho; subst ho
       refine TQ.next (l.length - (i + 1)) [(2, _), (7, _), (8, _), (20, _), (21, _), (22, _)] (by omega) ⟨rfl, rfl, rfl, rfl, rfl, rfl, trivial⟩ ⟨i + 1, _, _, _, _, rfl, by omega, by rw [fold_take hx, ← hcur]; exact hp2, hmk2, ?_, by rw [take_succ hx, payS_snoc, ← payF_parts]; rfl, rfl, hle0⟩
       split <;> omega
    ·
     have hpc : PMap cur (1000 * z.n + i) (.map (some gm)) [(gm, om)] := .inr ⟨_, _, _, rfl, rfl, hmc, hnm⟩
     refine TC.drawQV 8  [(2, _), (7, _), (8, _), (20, _), (21, _), (22, _), (10, _), (11, _)] follows_mixed ⟨rfl, rfl, rfl, rfl, rfl, rfl, rfl, rfl, trivial⟩ ?_
     refine ChainV.q (some 31) [] (by
      intro H' X F hle; have hL := Le.trans hL hle; intro hF; refine TL.load_own 5 0 rfl rfl rfl rfl rfl ?_
      exact TL.one hF) ?_
     refine ChainV.q (some 32) [] (by
      intro H' X F hle; have hL := Le.trans hL hle; intro hF; refine TL.load_ownA 0 0 [_, _, _] rfl rfl rfl ⟨rfl, rfl, rfl, trivial⟩ rfl rfl ?_
      exact TL.one hF) ?_
     refine ChainV.q (some 33) [] (by
      intro H' X F hle; have hL := Le.trans hL hle; intro hF; refine TL.load_own 7 0 rfl rfl rfl rfl rfl ?_
      exact TL.one hF) ?_
     refine ChainV.q (some 34) [(2, 0)] (fun _ _ _ _ hF => TL.nilCheck rfl rfl (TL.one hF)) ?_; refine ChainV.q (some 35) [(3, 0)] (fun _ _ _ _ hF => TL.fieldAddr rfl rfl (TL.one hF)) ?_
     refine ChainV.q (some 36) [(4, 0)] (by
      intro H' X F hle; have hL := Le.trans hL hle; intro hF; refine TL.load_own 2 0 rfl rfl rfl rfl rfl ?_
      exact TL.one hF) ?_
     refine ChainV.q (some 37) [] (by
      intro H' X F hle; have hL := Le.trans hL hle; intro hF; refine TL.load_ownA 0 0 [_, _, _] rfl rfl rfl ⟨rfl, rfl, rfl, trivial⟩ rfl rfl ?_
      exact TL.one hF) ?_
     refine ChainV.q (some 38) [(5, 1), (6, 0)] (by
      intro H' X F hle; have hL := Le.trans hL hle; intro hF; refine TL.lookK (key := keyV x.key) 3 0 rfl rfl rfl rfl KKY hmc hkl zstr rfl ?_
      rw [show ((if false = true then Value.tuple #[(mapF cur (keyV x.key)).getD (.string ⟨#[]⟩), .bool (mapF cur (keyV x.key)).isSome] else (mapF cur (keyV x.key)).getD (.string ⟨#[]⟩)) = .string ((look z.facts x.key).getD eS)) by rw [mapF_key, hlk]; cases look z.facts x.key <;> rfl]
      exact TL.one hF) ?_
     refine ⟨by kernel_rfl, .refl _, ?_⟩
     ·
      intro H3 hle; have hL := Le.trans hL hle; have hle0 := Le.trans hle0 hle; refine TL.toOwn (own' := _ :: _ :: _ :: _ :: _ :: _ :: _ :: _ :: own) rfl ?_; refine TL.wk (env' := [(2, _), (7, _), (8, _), (20, _), (21, _), (22, _), (10, _), (11, _), (31, _), (32, _), (38, _)]) ⟨rfl, rfl, rfl, rfl, rfl, rfl, rfl, rfl, rfl, rfl, rfl, trivial⟩ ?_
      refine TL.mapSetK 6 0 (oldF z.facts (l.take (i + 1))) rfl rfl rfl rfl rfl KKY hmk (by show _ < 9223372036854775807; omega) hkl (by rw [take_succ hx]; exact oldF_same) (fun v hv => by rw [take_succ hx]; exact oldF_other hv) rfl ?_; intro o2 hmk2
      refine TL.nsr ?_; refine TL.load_own 7 0 rfl rfl rfl rfl rfl ?_; refine TL.load_ownA 0 0 [_, _, _] rfl rfl rfl ⟨rfl, rfl, rfl, trivial⟩ rfl rfl ?_; refine TL.fieldAddr rfl rfl ?_; refine TL.load_own 1 0 rfl rfl rfl rfl rfl ?_
      refine TL.sel 8 [2, 3, 0, 1, 4, 5, 6, 7] rfl (fun o ho => ?_)
      simp only [K.sel, List.map_cons, List.map_nil, List.getD_cons_zero, List.getD_cons_succ, List.drop_succ_cons, List.drop_zero, List.cons_append, List.nil_append, List.set_cons_zero, List.set_cons_succ] at ho; subst ho
      refine TL.call (proj_set (by omega) hx1 hpc) ⟨rfl, rfl, rfl, trivial⟩ rfl ?_
      rintro _ _ H43 ⟨fm2, sm2, rfl, rfl, hp2, hle43⟩
      have hL := Le.trans hL hle43; have hle0 := Le.trans hle0 hle43; refine TL.nil ?_; refine TQ.then_n ?_; refine TC.drawQV 25  [(2, _), (7, _), (8, _), (20, _), (21, _), (22, _), (10, _), (11, _)] follows_mixed ⟨rfl, rfl, rfl, rfl, rfl, rfl, rfl, rfl, trivial⟩ ?_; refine ChainV.q (some 44) [] (fun _ _ _ _ hF => TL.move rfl rfl (TL.one hF)) ?_; refine ChainV.q (some 45) [] (fun _ _ _ _ hF => TL.fieldAddr rfl rfl (TL.one hF)) ?_
      refine ChainV.q (some 46) [(1, 0)] (by
       intro H' X F hle; have hL := Le.trans hL hle; intro hF; refine TL.load_own 3 0 rfl rfl rfl rfl rfl ?_
       exact TL.one hF) ?_
      refine ChainV.q (some 47) [(2, 0)] (by
       intro H' X F hle; have hL := Le.trans hL hle; intro hF; refine TL.convI rfl rfl ?_
       exact TL.one hF) ?_
      refine ChainV.q (some 48) [] (fun _ _ _ _ hF => TL.fieldAddr rfl rfl (TL.one hF)) ?_; refine ChainV.q (some 49) [(4, 0)] (fun _ _ _ _ hF => TL.fieldAddr rfl rfl (TL.one hF)) ?_
      refine ChainV.q (some 50) [(5, 0)] (by
       intro H' X F hle; have hL := Le.trans hL hle; intro hF; refine TL.load_own 3 0 rfl rfl rfl rfl rfl ?_
       exact TL.one hF) ?_
      refine ChainV.q (some 51) [(6, 0)] (by
       intro H' X F hle; have hL := Le.trans hL hle; intro hF; refine TL.convI rfl rfl ?_
       exact TL.one hF) ?_
      refine ChainV.t true [] (some 52) [(3, 4), (7, 0)] ([]) (fun _ => fun u s H => ∃ g, u = .slice (some ⟨g, 0, none⟩) 2 2 ∧ s = [[(g, .cells #[.int .u8 (IntKind.u8.wrap x.kind), .int .u8 (IntKind.u8.wrap x.bank)] 5 (0, 0))]]) (by
       intro H' X F hle; have hL := Le.trans hL hle; intro hF
       refine TL.litF (r := [_, _]) [(0, [_]), (1, [_])] ⟨rfl, ⟨_, rfl, rfl⟩, rfl, ⟨_, rfl, rfl⟩, trivial⟩ rfl rfl rfl rfl ?_; intro g52; refine TL.nil ?_
       exact TQ.one [_] hF (Le.refl _) ⟨_, rfl, rfl⟩) ?_
      refine ChainV.t false [8] (some 53) [(8, 0)] ([]) (fun _ => fun u s H => u = .string ⟨#[b8 x.kind, b8 x.bank]⟩ ∧ s = []) (by
       intro H' X F hle; have hL := Le.trans hL hle; intro _
       rintro _ _ Hg52 hleg52 ⟨g52, rfl, rfl⟩
       intro hF; refine TL.toOwn (own' := _ :: _) rfl ?_; refine TL.convBS 0 0 [b8 x.kind, b8 x.bank] rfl rfl rfl rfl ⟨congrArg some (b8_val _).symm, congrArg some (b8_val _).symm, trivial⟩ rfl ?_; refine TL.nil ?_
       refine TQ.freeze (fun H3 hle3 hz => ?_)
       exact TQ.one [] hF hle3 ⟨rfl, rfl⟩) ?_
      refine ChainV.q (some 54) [] (fun _ _ _ _ hF => TL.fieldAddr rfl rfl (TL.one hF)) ?_; refine ChainV.q (some 55) [(10, 0)] (fun _ _ _ _ hF => TL.fieldAddr rfl rfl (TL.one hF)) ?_
      refine ChainV.q (some 56) [(11, 0)] (by
       intro H' X F hle; have hL := Le.trans hL hle; intro hF; refine TL.load_own 3 0 rfl rfl rfl rfl rfl ?_
       exact TL.one hF) ?_
      refine ChainV.q (some 57) [(12, 0)] (by
       intro H' X F hle; have hL := Le.trans hL hle; intro hF; refine TL.call (word_Put hx1.addr) ⟨rfl, trivial⟩ rfl ?_
       rintro _ _ H57 ⟨rfl, rfl, hle57⟩
       have hL := Le.trans hL hle57; refine TL.nil ?_
       exact TQ.one [] hF hle57 ⟨rfl, rfl⟩) ?_
      refine ChainV.q (some 58) [(9, 4), (13, 0)] (by
       intro H' X F hle; have hL := Le.trans hL hle; intro _
       rintro _ _ Hc53 hlec53 ⟨rfl, rfl⟩
       intro hF; refine TL.addS rfl rfl rfl (by simp only [ByteArray.size_append, put16_size]; show 2 + 2 ≤ _; omega) ?_
       exact TL.one hF) ?_
      refine ChainV.q (some 59) [] (fun _ _ _ _ hF => TL.fieldAddr rfl rfl (TL.one hF)) ?_
      refine ChainV.q (some 60) [(15, 0)] (by
       intro H' X F hle; have hL := Le.trans hL hle; intro hF; refine TL.load_own 3 0 rfl rfl rfl rfl rfl ?_
       exact TL.one hF) ?_
      refine ChainV.q (some 61) [(16, 0)] (by
       intro H' X F hle; have hL := Le.trans hL hle; intro hF; refine TL.len_string rfl rfl ?_
       exact TL.one hF) ?_
      refine ChainV.q (some 62) [(17, 0)] (by
       intro H' X F hle; have hL := Le.trans hL hle; intro hF; refine TL.convI rfl rfl ?_
       exact TL.one hF) ?_
      refine ChainV.t true [] (some 63) [(18, 0)] ([]) (fun _ => fun u s H => ∃ g, u = .slice (some ⟨g, 0, none⟩) 1 1 ∧ s = [[(g, .cells #[.int .u8 (IntKind.u8.wrap (x.text.size : Int))] 5 (0, 0))]]) (by
       intro H' X F hle; have hL := Le.trans hL hle; intro hF
       refine TL.litF (r := [_]) [(0, [_])] ⟨rfl, ⟨_, rfl, rfl⟩, trivial⟩ rfl rfl rfl rfl ?_; intro g63; refine TL.nil ?_
       exact TQ.one [_] hF (Le.refl _) ⟨_, rfl, rfl⟩) ?_
      refine ChainV.t false [19] (some 64) [(19, 0)] ([]) (fun _ => fun u s H => u = .string ⟨#[b8 x.text.size]⟩ ∧ s = []) (by
       intro H' X F hle; have hL := Le.trans hL hle; intro _
       rintro _ _ Hg63 hleg63 ⟨g63, rfl, rfl⟩
       intro hF; refine TL.toOwn (own' := _ :: _) rfl ?_; refine TL.convBS 0 0 [b8 x.text.size] rfl rfl rfl rfl ⟨congrArg some (b8_val _).symm, trivial⟩ rfl ?_; refine TL.nil ?_
       refine TQ.freeze (fun H3 hle3 hz => ?_)
       exact TQ.one [] hF hle3 ⟨rfl, rfl⟩) ?_
      refine ChainV.q (some 65) [(14, 6), (20, 0)] (by
       intro H' X F hle; have hL := Le.trans hL hle; intro _
       rintro _ _ Hc64 hlec64 ⟨rfl, rfl⟩
       intro hF; refine TL.addS rfl rfl rfl (by simp only [ByteArray.size_append, put16_size]; show 2 + 2 + 1 ≤ _; omega) ?_
       exact TL.one hF) ?_
      refine ChainV.q (some 66) [] (fun _ _ _ _ hF => TL.fieldAddr rfl rfl (TL.one hF)) ?_
      refine ChainV.q (some 67) [(22, 0)] (by
       intro H' X F hle; have hL := Le.trans hL hle; intro hF; refine TL.load_own 3 0 rfl rfl rfl rfl rfl ?_
       exact TL.one hF) ?_
      refine ChainV.q (some 68) [(21, 2), (23, 0)] (by
       intro H' X F hle; have hL := Le.trans hL hle; intro hF; refine TL.addS rfl rfl rfl (by simp only [ByteArray.size_append, put16_size]; show 2 + 2 + 1 + _ ≤ _; omega) ?_
       exact TL.one hF) ?_
      refine ⟨by kernel_rfl, .refl _, ?_⟩
      ·
       intro H4 hle
       rintro _ _ Hg52 hleg52 ⟨g52, rfl, rfl⟩
       rintro _ _ Hc53 hlec53 ⟨rfl, rfl⟩
       rintro _ _ Hg63 hleg63 ⟨g63, rfl, rfl⟩
       rintro _ _ Hc64 hlec64 ⟨rfl, rfl⟩
       have hL := Le.trans hL hle; have hle0 := Le.trans hle0 hle; refine TL.toOwn (own' := _ :: _ :: _ :: _ :: _ :: _ :: _ :: _ :: own) rfl ?_; refine TL.wk (env' := [(2, _), (7, _), (8, _), (20, _), (21, _), (22, _), (10, _), (11, _), (44, _), (68, _)]) ⟨rfl, rfl, rfl, rfl, rfl, rfl, rfl, rfl, rfl, rfl, trivial⟩ ?_; refine TL.addS rfl rfl rfl (by simp only [ByteArray.size_append, put16_size]; show _ + (2 + 2 + 1 + _) ≤ _; omega) ?_
       refine TL.assign rfl rfl ?_; refine TL.nil ?_; refine TQ.in_n ?_; refine TQ.then_n ?_; refine TC.region ?_; refine TL.add rfl rfl rfl ⟨by omega, by omega⟩ ?_; refine TL.move rfl rfl ?_; refine TL.nil ?_
       refine TQ.sel 8 [0, 1, 4, 5, 6, 7] rfl (fun o ho => ?_)
       simp only [K.sel, List.map_cons, List.map_nil, List.getD_cons_zero, List.getD_cons_succ, List.drop_succ_cons, List.drop_zero, List.cons_append, List.nil_append, List.set_cons_zero, List.set_cons_succ] at ho; subst ho
       refine TQ.next (l.length - (i + 1)) [(2, _), (7, _), (8, _), (20, _), (21, _), (22, _)] (by omega) ⟨rfl, rfl, rfl, rfl, rfl, rfl, trivial⟩ ⟨i + 1, _, _, _, _, rfl, by omega, by rw [fold_take hx, ← hcur]; exact hp2, hmk2, ?_, by rw [take_succ hx, payS_snoc, ← payF_parts]; rfl, rfl, hle0⟩
       split <;> omega
   ·
    refine TL.nil ?_; refine TQ.then_n ?_; refine TC.seq ?_; refine TC.cond_f rfl ?_; refine TC.exit ?_; refine TQ.then_e ?_; refine TQ.then_e ?_; refine TQ.in_e ?_; refine TQ.then_n ?_; refine TC.seq ?_
    have hil : i = l.length := by omega
    refine TC.sel 6 [2, 0, 1, 3, 4, 5] rfl (fun o ho => ?_)
    simp only [K.sel, List.map_cons, List.map_nil, List.getD_cons_zero, List.getD_cons_succ, List.drop_succ_cons, List.drop_zero, List.cons_append, List.nil_append, List.set_cons_zero, List.set_cons_succ] at ho; subst ho
    refine TC.drawCV 8  [(2, _), (7, _), (8, _), (20, _), (21, _), (22, _)] follows_mixed ⟨rfl, rfl, rfl, rfl, rfl, rfl, trivial⟩ ?_
    refine ChainV.q (some 71) [] (by
     intro H' X F hle; have hL := Le.trans hL hle; intro hF; refine TL.load_own 4 0 rfl rfl rfl rfl rfl ?_
     exact TL.one hF) ?_
    refine ChainV.q (some 72) [] (by
     intro H' X F hle; have hL := Le.trans hL hle; intro hF; refine TL.load_own 4 0 rfl rfl rfl rfl rfl ?_
     exact TL.one hF) ?_
    refine ChainV.q (some 73) [(1, 0)] (fun _ _ _ _ hF => TL.nilCheck rfl rfl (TL.one hF)) ?_; refine ChainV.q (some 74) [(2, 0)] (fun _ _ _ _ hF => TL.fieldAddr rfl rfl (TL.one hF)) ?_
    refine ChainV.q (some 75) [(3, 0)] (by
     intro H' X F hle; have hL := Le.trans hL hle; intro hF; refine TL.load_own 0 0 rfl rfl rfl rfl rfl ?_
     exact TL.one hF) ?_
    refine ChainV.q (some 76) [] (by
     intro H' X F hle; have hL := Le.trans hL hle; intro hF; refine TL.makeFunc (vs := []) (us := [_, _]) trivial ⟨rfl, rfl, trivial⟩ rfl ?_
     exact TL.one hF) ?_
    refine ChainV.t true [] (some 77) [(5, 0)] ([]) (fun _ => fun u s H => ∃ g, u = .slice (some ⟨g, 0, none⟩) 1 1 ∧ s = [[(g, .cells #[.func (.func 51) #[] #[.pointer (some ⟨g7, 0, none⟩), .pointer (some ⟨g2, 0, none⟩)]] 1 (0, 0))]]) (by
     intro H' X F hle; have hL := Le.trans hL hle; intro hF
     refine TL.litF (r := [_]) [(0, [_])] ⟨rfl, ⟨_, rfl, rfl⟩, trivial⟩ rfl rfl rfl rfl ?_; intro g77; refine TL.nil ?_
     exact TQ.one [_] hF (Le.refl _) ⟨_, rfl, rfl⟩) ?_
    refine ChainV.t false [6] (some 78) [(4, 2), (6, 0)] ([su]) (fun _ => fun r s H => ∃ sg, s = [sg] ∧ Row 1 1 r (z.stk.length + 1) (xu ++ [.func (.func 51) #[] #[.pointer (some ⟨g7, 0, none⟩), .pointer (some ⟨g2, 0, none⟩)]]) sg) (by
     intro H' X F hle; have hL := Le.trans hL hle; intro _
     rintro _ _ Hg77 hleg77 ⟨g77, rfl, rfl⟩
     intro hF; refine TL.toOwn (own' := _ :: _) rfl ?_; refine TL.append 1 rfl rfl rfl hru (Src.ofOwn 0 0 rfl rfl rfl (Ones.all (show Ones [_] from ⟨by rfl, trivial⟩)) ⟨rfl, trivial⟩) (by omega) (by omega) rfl ?_; intro v' seg' hrow'; refine TL.nil ?_
     refine TQ.freeze (fun H3 hle3 hz => ?_)
     exact TQ.one [_] hF hle3 ⟨_, rfl, hrow'⟩) ?_
    refine ⟨by kernel_rfl, .refl _, ?_⟩
    ·
     intro H5 hle
     rintro _ _ Hg77 hleg77 ⟨g77, rfl, rfl⟩
     rintro v78 _ Hr hler ⟨su78, rfl, hru78⟩
     have hL := Le.trans hL hle; have hxu := Undos.mono hle hxu; refine TL.toOwn (own' := _ :: _ :: _ :: _ :: _ :: _ :: own) rfl ?_; refine TL.wk (env' := [(2, _), (7, _), (8, _), (20, _), (21, _), (22, _), (71, _), (78, _)]) ⟨rfl, rfl, rfl, rfl, rfl, rfl, rfl, rfl, trivial⟩ ?_; refine TL.nilCheck rfl rfl ?_; refine TL.fieldAddr rfl rfl ?_; refine TL.store1 1 0 (c' := #[_, _, _, _]) (own' := _ :: [(_, .cells #[_, _, _, _] _ _)] :: _) rfl rfl rfl rfl hru78.one (by simp) rfl rfl rfl ?_; refine TL.nsr ?_; refine TL.load_own 5 0 rfl rfl rfl rfl rfl ?_; refine TL.move rfl rfl ?_
     refine TL.sel 6 [1, 0, 2, 3, 4, 5] rfl (fun o ho => ?_)
     simp only [K.sel, List.map_cons, List.map_nil, List.getD_cons_zero, List.getD_cons_succ, List.drop_succ_cons, List.drop_zero, List.cons_append, List.nil_append, List.set_cons_zero, List.set_cons_succ] at ho; subst ho
     refine TL.call (proj_record (by omega) ⟨by decide, by decide⟩ (by rw [hil, List.take_length]; omega)) ⟨rfl, rfl, rfl, trivial⟩ rfl ?_
     rintro _ _ H83 ⟨rfl, rfl, hle83⟩
     have hL := Le.trans hL hle83; have hxu := Undos.mono hle83 hxu; refine TL.assign rfl rfl ?_; refine TL.assign rfl rfl ?_; refine TL.nil ?_; refine TQ.then_n ?_; refine TC.ret ?_
     refine TQ.sel 6 [4, 0, 1, 2, 3, 5] rfl (fun o ho => ?_)
     simp only [K.sel, List.map_cons, List.map_nil, List.getD_cons_zero, List.getD_cons_succ, List.drop_succ_cons, List.drop_zero, List.cons_append, List.nil_append, List.set_cons_zero, List.set_cons_succ] at ho; subst ho
     refine TQ.freeze (fun H6 hle hz_g19 => ?_)
     have hL := Le.trans hL hle; have hxu := Undos.mono hle hxu
     refine TQ.sel 5 [3, 0, 1, 2, 4] rfl (fun o ho => ?_)
     simp only [K.sel, List.map_cons, List.map_nil, List.getD_cons_zero, List.getD_cons_succ, List.drop_succ_cons, List.drop_zero, List.cons_append, List.nil_append, List.set_cons_zero, List.set_cons_succ] at ho; subst ho
     refine TQ.freeze (fun H7 hle hz_g7 => ?_)
     have hL := Le.trans hL hle; have hxu := Undos.mono hle hxu; have hz_g19 := hz.mono hle hz_g19
     refine TQ.sel 4 [3, 0, 1, 2] rfl (fun o ho => ?_)
     simp only [K.sel, List.map_cons, List.map_nil, List.getD_cons_zero, List.getD_cons_succ, List.drop_succ_cons, List.drop_zero, List.cons_append, List.nil_append, List.set_cons_zero, List.set_cons_succ] at ho; subst ho
     refine TQ.freeze (fun H8 hle hz_g2 => ?_)
     have hL := Le.trans hL hle; have hxu := Undos.mono hle hxu; have hz_g19 := hz.mono hle hz_g19; have hz_g7 := hz.mono hle hz_g7
     refine TQ.sel 3 [0, 2, 1] rfl (fun o ho => ?_)
     simp only [K.sel, List.map_cons, List.map_nil, List.getD_cons_zero, List.getD_cons_succ, List.drop_succ_cons, List.drop_zero, List.cons_append, List.nil_append, List.set_cons_zero, List.set_cons_succ] at ho; subst ho
     refine TQ.ret2 0 rfl rfl rfl ?_
     first
       | (rw [rCom_bad (by omega)]; exact ⟨_, _, _, _, _, rfl, rfl, ⟨hp, hru, hxu⟩, hL⟩)
       | (rw [rCom_good hw0]
          rw [hil, List.take_length] at hmk hcur ⊢
          subst hcur
          have hcl : Undoable _ gp (z.facts, l) (.func (.func 51) #[] #[.pointer (some ⟨g7, 0, none⟩), .pointer (some ⟨g2, 0, none⟩)]) := ⟨g7, g2, g19, o, k, _, rfl, cel_one hz_g7, cel_one hz_g2, hz_g19 _ List.mem_cons_self, hmk, fun q hq => oldF_mem hq, fun v hv => oldF_ne hv⟩
          exact ⟨_, _, _, _, _, rfl, rfl, ⟨hpc.more (by show _ ≤ 1000 * (z.n + 1); omega), by rw [show (z.commit l).stk.length = z.stk.length + 1 from List.length_append]; exact hru78, Undos.snoc hcl hxu⟩, hL⟩)

end Go.Proofs.YteeamfkhkbfilaaGreat.K

namespace Go.Proofs.YteeamfkhkbfilaaGreat.K
open Go Go.RowKit Go.Proofs Go.MapKept Go.WideMaps

theorem imm_le {H H' : Hp} (hl : Le H H') {g : Nat} {o : Obj} (h : H g = some o) : H' g = some o := hl g o h
theorem nodup_sub_len {α : Type} : ∀ {a b : List α}, a.Nodup → (∀ x ∈ a, x ∈ b) → a.length ≤ b.length
  | [], _, _, _ => Nat.zero_le _
  | x :: r, b, hn, hs => by
    rw [List.nodup_cons] at hn
    obtain ⟨s, t, rfl⟩ := List.append_of_mem (hs x (by simp))
    have := nodup_sub_len (a := r) (b := s ++ t) hn.2 fun y hy => by
      have h1 := hs y (by simp [hy])
      have hne : y ≠ x := fun h => hn.1 (h ▸ hy)
      simp only [List.mem_append, List.mem_cons] at h1 ⊢
      rcases h1 with h1 | h1 | h1
      · exact .inl h1
      · exact absurd h1 hne
      · exact .inr h1
    simp only [List.length_append, List.length_cons] at this ⊢
    omega
theorem IterK.nd {o : Obj} {b r : Nat} {done : List MapEntry} {seg : Seg} (h : IterK o b r done seg) : done.Nodup ∧ ∀ x ∈ done, x ∈ entries o := by
  obtain ⟨es, clock, seen, rfl, rfl, h1, h2, h3⟩ := h
  exact ⟨h2, h3⟩
theorem key_inj {es : List MapEntry} (h : (es.map (·.key)).Nodup) {x y : MapEntry} (hx : x ∈ es) (hy : y ∈ es) (he : x.key = y.key) : x = y := by
  obtain ⟨i, hi⟩ := List.getElem?_of_mem hx
  obtain ⟨j, hj⟩ := List.getElem?_of_mem hy
  have hil : i < (es.map (·.key)).length := by rw [List.length_map]; exact (List.getElem?_eq_some_iff.1 hi).1
  have : (es.map (·.key))[i]? = (es.map (·.key))[j]? := by rw [List.getElem?_map, List.getElem?_map, hi, hj]; simp [he]
  have := (List.getElem?_inj hil h).1 this
  subst this
  rw [hi] at hj
  exact Option.some.inj hj
theorem map_nodup {α β : Type} {f : α → β} {l : List α} (hn : l.Nodup) (hi : ∀ x ∈ l, ∀ y ∈ l, f x = f y → x = y) : (l.map f).Nodup := by
  induction l with
  | nil => simp
  | cons x r ih =>
    rw [List.nodup_cons] at hn
    rw [List.map_cons, List.nodup_cons]
    refine ⟨fun h => ?_, ih hn.2 fun a ha b hb => hi a (by simp [ha]) b (by simp [hb])⟩
    obtain ⟨y, hy, he⟩ := List.mem_map.1 h
    have := hi y (by simp [hy]) x (by simp) he
    exact hn.1 (this ▸ hy)
/-- In whatever order, told by members. -/
theorem fold_same {ps qs l : List Fact} (hl : Good l) (hn : (ps.map Fact.key).Nodup) (hn2 : (qs.map Fact.key).Nodup) (hm : ∀ x, x ∈ ps ↔ x ∈ qs) : ps.foldl putF l = qs.foldl putF l := by
  have hnd : ∀ {l : List Fact}, (l.map Fact.key).Nodup → l.Nodup := by
    intro l
    induction l with
    | nil => simp
    | cons x r ih =>
      rw [List.map_cons, List.nodup_cons, List.nodup_cons]
      exact fun h => ⟨fun hx => h.1 (List.mem_map.2 ⟨x, hx, rfl⟩), ih h.2⟩
  have hperm : ∀ {a b : List Fact}, a.Nodup → b.Nodup → (∀ x, x ∈ a ↔ x ∈ b) → a.Perm b := by
    intro a
    induction a with
    | nil =>
      intro b _ _ h
      have : b = [] := List.eq_nil_iff_forall_not_mem.2 fun x hx => by have := (h x).2 hx; cases this
      rw [this]
    | cons x r ih =>
      intro b ha hb h
      rw [List.nodup_cons] at ha
      obtain ⟨s, t, rfl⟩ := List.append_of_mem ((h x).1 (by simp))
      refine (List.Perm.cons x (ih ha.2 (b := s ++ t) ?_ fun y => ?_)).trans List.perm_middle.symm
      · exact (List.nodup_cons.1 (List.perm_middle.nodup_iff.1 hb)).2
      · have hx2 := (List.nodup_cons.1 (List.perm_middle.nodup_iff.1 hb)).1
        have h1 := h y
        simp only [List.mem_append, List.mem_cons] at h1 ⊢ hx2
        constructor
        · intro hy
          have hne : y ≠ x := fun e => ha.1 (e ▸ hy)
          rcases h1.1 (.inr hy) with h2 | h2 | h2
          · exact .inl h2
          · exact absurd h2 hne
          · exact .inr h2
        · intro hy
          have hne : y ≠ x := fun e => hx2 (e ▸ hy)
          rcases h1.2 (hy.elim .inl (fun h => .inr (.inr h))) with h2 | h2
          · exact absurd h2 hne
          · exact h2
  exact fold_perm hl hn (hperm (hnd hn) (hnd hn2) hm)
def toFact (e : MapEntry) : Fact := match unkey e.key, e.val with
  | some k, .string t => ⟨k.1, k.2.1, k.2.2, t⟩
  | _, _ => ⟨0, 0, 0, eS⟩
theorem toFact_of {e : MapEntry} {k : Key} {t : ByteArray} (h1 : e.key = keyV k) (h2 : e.val = .string t) : toFact e = ⟨k.1, k.2.1, k.2.2, t⟩ := by
  unfold toFact
  rw [h1, h2, unkey_keyV]
/-- What a taker back holds. -/
structure Taker (l b : List Fact) (f : Value → Option Value) : Prop where
  some_ : ∀ q ∈ l, f (keyV q.key) = some (.string ((look b q.key).getD eS))
  none_ : ∀ v, f v ≠ none → ∃ q ∈ l, v = keyV q.key
theorem Taker.entry {l b : List Fact} {f : Value → Option Value} (h : Taker l b f) {o : Obj} {n : Nat} {k : TypeId} {P : Program} (ho : MapK P k o n f) {e : MapEntry} (he : e ∈ entries o) : ∃ q ∈ l, e.key = keyV q.key ∧ e.val = .string ((look b q.key).getD eS) ∧ toFact e = was b q := by
  obtain ⟨_, _, h3, _⟩ := ho.entries
  have h4 := h3 e he
  obtain ⟨q, hq, hk⟩ := h.none_ e.key (by rw [h4]; simp)
  have hv : e.val = .string ((look b q.key).getD eS) := by
    have h5 := h.some_ q hq
    rw [← hk, h4] at h5
    exact Option.some.inj h5
  exact ⟨q, hq, hk, hv, toFact_of hk hv⟩
theorem Taker.all {l b cur : List Fact} {f : Value → Option Value} (h : Taker l b f) {o : Obj} {n : Nat} {k : TypeId} {P : Program} (ho : MapK P k o n f) (hl : (l.map Fact.key).Nodup) (hg : Good cur) {done : List MapEntry} (hn : done.Nodup) (hs : ∀ x ∈ done, x ∈ entries o) (ha : ∀ e ∈ entries o, e ∈ done) :
    (done.map toFact).foldl putF cur = unput b l cur := by
  obtain ⟨_, h2, h3, h4⟩ := ho.entries
  have hkeys : ∀ (l : List Fact), ((l.map (was b)).map Fact.key) = l.map Fact.key := fun l => by rw [List.map_map]; exact List.map_congr_left fun x _ => was_key b x
  refine fold_same hg ?_ (by rw [hkeys]; exact hl) fun x => ?_
  · rw [List.map_map]
    refine map_nodup hn fun x hx y hy he => ?_
    obtain ⟨q, _, hk, _, ht⟩ := h.entry ho (hs x hx)
    obtain ⟨q', _, hk', _, ht'⟩ := h.entry ho (hs y hy)
    simp only [Function.comp, ht, ht', was_key] at he
    exact key_inj h2 (hs x hx) (hs y hy) (by rw [hk, hk', he])
  · constructor
    · intro hx
      obtain ⟨e, he, rfl⟩ := List.mem_map.1 hx
      obtain ⟨q, hq, _, _, ht⟩ := h.entry ho (hs e he)
      exact List.mem_map.2 ⟨q, hq, ht.symm⟩
    · intro hx
      obtain ⟨q, hq, rfl⟩ := List.mem_map.1 hx
      obtain ⟨e, he, hk⟩ := h4 (keyV q.key) (by rw [h.some_ q hq]; simp)
      obtain ⟨q', _, hk', _, ht⟩ := h.entry ho he
      refine List.mem_map.2 ⟨e, ha e he, ?_⟩
      rw [ht]
      have : q'.key = q.key := keyV_inj (by rw [← hk', hk])
      obtain ⟨k1, k2, k3, k4⟩ := q
      obtain ⟨p1, p2, p3, p4⟩ := q'
      simp only [Fact.key, Prod.mk.injEq] at this
      obtain ⟨rfl, rfl, rfl⟩ := this
      rfl
theorem Taker.len {l b : List Fact} {f : Value → Option Value} (h : Taker l b f) {o : Obj} {n : Nat} {k : TypeId} {P : Program} (ho : MapK P k o n f) : (entries o).length ≤ l.length := by
  obtain ⟨_, h2, _, _⟩ := ho.entries
  have := nodup_sub_len (b := l.map fun q => keyV q.key) h2 fun v hv => by
    obtain ⟨e, he, rfl⟩ := List.mem_map.1 hv
    obtain ⟨q, hq, hk, _⟩ := h.entry ho he
    exact List.mem_map.2 ⟨q, hq, hk.symm⟩
  simpa using this
end Go.Proofs.YteeamfkhkbfilaaGreat.K

namespace Go.Proofs.YteeamfkhkbfilaaGreat.K
open Go Go.RowKit Go.Proofs

theorem proj_undo1 {l b cur : List Fact} (hl : ∀ g ∈ l, FOk g) (hb : ∀ g ∈ b, FOk g) (hnd : (l.map Fact.key).Nodup) (hg : Good cur) {m : Nat} (hm : m ≤ 10000000000) (hlen : l.length ≤ 1000) {w0 : World} {H : Hp} {own : List Seg} {gp ga gb go k : Nat} {o : Obj} {f : Value → Option Value}
    (h1 : cel H ga 0 = some (.map (some go))) (h2 : cel H gb 0 = some (.pointer (some ⟨gp, 0, none⟩))) (h3 : H go = some o) (h4 : MapK Tryz.prog 95 o k f) (h5 : Taker l b f) {fm nv uv lv : Value} {sm : Seg} (hp : PMap cur m fm sm) :
    Fn Tryz.prog 51 [.pointer (some ⟨ga, 0, none⟩), .pointer (some ⟨gb, 0, none⟩)] w0 H ([(gp, .cells #[fm, nv, uv, lv] 37 (0, 0))] :: sm :: own) (fun r own' H' => ∃ fm' sm', r = .tuple #[] ∧ own' = [(gp, .cells #[fm', nv, uv, lv] 37 (0, 0))] :: sm' :: own ∧ PMap (unput b l cur) (m + l.length) fm' sm' ∧ Le H H') := by
  have hel := h5.len h4; refine Fn.enter Tryz.func51 rfl Tryz.ntmps51 rfl ?_; have hL := Le.refl H; refine TC.seq ?_; refine TC.region ?_; refine TL.load_imm rfl (h1) rfl ?_
  refine TL.rangeK rfl h3 h4 rfl ?_; intro r it hit; refine TL.nil ?_; refine TQ.then_n ?_; refine TC.block ?_; refine TC.loop (fun n env' own' H' => ∃ done it fm' sm', n = (entries o).length - done.length ∧ IterK o go r done it ∧ PMap ((done.map toFact).foldl putF cur) (m + done.length) fm' sm' ∧ env' = [(0, .pointer (some ⟨ga, 0, none⟩)), (1, .pointer (some ⟨gb, 0, none⟩)), (5, .pointer (some ⟨r, 0, none⟩))] ∧ own' = it :: [(gp, .cells #[fm', nv, uv, lv] 37 (0, 0))] :: sm' :: own ∧ Le H H') (entries o).length [(0, _), (1, _), (5, _)] ⟨rfl, rfl, rfl, trivial⟩ ⟨[], it, _, _, by simp, hit, hp, rfl, rfl, Le.refl _⟩ ?_
  rintro n _ _ H1 ⟨done, it, fm', sm', rfl, hit, hpc, rfl, rfl, hle0⟩
  obtain ⟨hdn, hds⟩ := hit.nd
  have hL := Le.trans hL hle0; have h2 := cel_le hle0 h2; have h3 := imm_le hle0 h3; refine TC.seq ?_; refine TC.region ?_
  refine TL.nextK 0 rfl rfl hit h3 h4 rfl (fun hall => ?_) (fun e it2 he hno hit2 => ?_)
  ·
   have hfin := h5.all h4 hnd hg hdn hds hall; refine TL.extract rfl rfl rfl ?_; refine TL.nil ?_; refine TQ.then_n ?_; refine TC.seq ?_; refine TC.cond_f rfl ?_; refine TC.exit ?_; refine TQ.then_e ?_; refine TQ.then_e ?_; refine TQ.in_e ?_
   refine TQ.sel 3 [1, 2] rfl (fun o ho => ?_)
   simp only [K.sel, List.map_cons, List.map_nil, List.getD_cons_zero, List.getD_cons_succ, List.drop_succ_cons, List.drop_zero, List.cons_append, List.nil_append, List.set_cons_zero, List.set_cons_succ] at ho; subst ho
   refine TQ.end0 0 rfl ?_
   rw [hfin] at hpc
   have hdl := nodup_sub_len hdn hds
   exact ⟨_, _, rfl, rfl, hpc.more (by omega), hL⟩
  ·
   obtain ⟨q, hq, hke, hve, htf⟩ := h5.entry h4 he
   obtain ⟨hd2, hs2⟩ := hit2.nd
   have hdl := nodup_sub_len hdn hds; refine TL.extract rfl rfl rfl ?_; refine TL.nil ?_; refine TQ.then_n ?_; refine TC.seq ?_; refine TC.cond_t rfl ?_; refine TC.skip ?_; refine TQ.then_n ?_; refine TC.block ?_; refine TC.seq ?_; refine TC.region ?_; refine TL.entryK 0 rfl rfl hit2 h3 h4 rfl ?_
   rw [hke, hve]
   refine TL.extract rfl rfl rfl ?_; refine TL.extract rfl rfl rfl ?_
   refine TL.new rfl ?_; intro g2; refine TL.storeA 0 0 (c' := #[_, _, _]) (own' := [(_, .cells #[_, _, _] _ _)] :: _) rfl rfl rfl rfl rfl ⟨rfl, rfl, rfl, trivial⟩ (Nat.le_refl 3) rfl rfl rfl ?_; refine TL.assign rfl rfl ?_; refine TL.nil ?_; refine TQ.then_n ?_; refine TC.region ?_; refine TL.load_imm rfl (h2) rfl ?_; refine TL.load_ownA 0 0 [_, _, _] rfl rfl rfl ⟨rfl, rfl, rfl, trivial⟩ rfl rfl ?_; refine TL.move rfl rfl ?_
   refine TL.sel 4 [2, 3, 0, 1] rfl (fun o ho => ?_)
   simp only [K.sel, List.map_cons, List.map_nil, List.getD_cons_zero, List.getD_cons_succ, List.drop_succ_cons, List.drop_zero, List.cons_append, List.nil_append, List.set_cons_zero, List.set_cons_succ] at ho; subst ho
   refine TL.call (proj_set (f := was b q) (by omega) (was_ok hb (hl q hq)) hpc) ⟨rfl, rfl, rfl, trivial⟩ rfl ?_
   rintro _ _ H14 ⟨fm2, sm2, rfl, rfl, hp2, hle14⟩
   have hL := Le.trans hL hle14; have h3 := imm_le hle14 h3; have hle0 := Le.trans hle0 hle14; refine TL.nil ?_; refine TQ.in_n ?_
   refine TQ.sel 4 [3, 0, 1] rfl (fun o ho => ?_)
   simp only [K.sel, List.map_cons, List.map_nil, List.getD_cons_zero, List.getD_cons_succ, List.drop_succ_cons, List.drop_zero, List.cons_append, List.nil_append, List.set_cons_zero, List.set_cons_succ] at ho; subst ho
   refine TQ.next ((entries o).length - (done ++ [e]).length) [(0, _), (1, _), (5, _)] (by have := nodup_sub_len hd2 hs2; simp only [List.length_append, List.length_cons, List.length_nil] at this ⊢; omega) ⟨rfl, rfl, rfl, trivial⟩ ⟨done ++ [e], _, _, _, rfl, hit2, ?_, rfl, rfl, hle0⟩
   rw [List.map_append, List.foldl_append]
   show PMap (putF _ (toFact e)) _ _ _
   rw [htf, List.length_append]
   exact hp2
theorem proj_Undo {z : RS} (hzo : z.Ok) (hn : z.n ≤ 10000000) {w0 : World} {H : Hp} {own : List Seg} {gp : Nat} {fm uv lv : Value} {sm su : Seg} {xu : List Value} (hm : PSm H gp z fm uv sm su xu) :
    Fn Tryz.prog 30 [.pointer (some ⟨gp, 0, none⟩)] w0 H ([(gp, .cells #[fm, .int .i64 (z.n : Int), uv, lv] 37 (0, 0))] :: sm :: su :: own)
      (fun r own' H' => ∃ fm' uv' sm' su' xu', r = .tuple #[.string (rUnd z).1, .int .i64 (rUnd z).2.1] ∧ own' = [(gp, .cells #[fm', .int .i64 ((rUnd z).2.2.n : Int), uv', lv] 37 (0, 0))] :: sm' :: su' :: own ∧ PSm H' gp (rUnd z).2.2 fm' uv' sm' su' xu' ∧ Le H H') := by
  obtain ⟨hp, hru, hxu⟩ := hm
  have hnow := hzo.now; have hzn := hzo.n; have hzs := hzo.stk
  obtain ⟨Ab, cb, rfl, hb1, hb2⟩ := hru.sl
  refine Fn.enter Tryz.func30 rfl Tryz.ntmps30 rfl ?_; have hL := Le.refl H; refine TC.seq ?_; refine TC.region ?_; refine TL.assign rfl rfl ?_; refine TL.assign rfl rfl ?_; refine TL.nil ?_; refine TQ.then_n ?_; refine TC.seq ?_; refine TC.seq ?_; refine TC.region ?_; refine TL.move rfl rfl ?_; refine TL.eqlP rfl rfl rfl ?_; refine TL.nil ?_; refine TQ.then_n ?_; refine TC.cond_f rfl ?_; refine TC.skip ?_; refine TQ.nsr ?_; refine TL.move rfl rfl ?_; refine TL.nilCheck rfl rfl ?_; refine TL.fieldAddr rfl rfl ?_; refine TL.load_own 0 0 rfl rfl rfl rfl rfl ?_; refine TL.len_slice rfl rfl ?_; refine TL.sub rfl rfl rfl ⟨by omega, by omega⟩ ?_; refine TL.assign rfl rfl ?_; refine TL.nil ?_; refine TQ.then_n ?_; refine TC.seq ?_; refine TC.seq ?_; refine TC.region ?_; refine TL.move rfl rfl ?_
  refine TL.lssB rfl rfl rfl (fun hneg => ?_) (fun hneg => ?_)
  ·
   refine TL.nil ?_; refine TQ.then_n ?_; refine TC.cond_t rfl ?_; refine TC.seq ?_; refine TC.region ?_; refine TL.assign rfl rfl ?_; refine TL.assign rfl rfl ?_; refine TL.nil ?_; refine TQ.then_n ?_; refine TC.ret ?_; refine TQ.then_r ?_; refine TQ.toOwn (own' := _ :: _ :: _ :: own) rfl ?_; refine TQ.ret2 0 rfl rfl rfl ?_
   first
     | (rw [rUnd_none (by omega)]; exact ⟨_, _, _, _, _, rfl, rfl, ⟨hp, hru, hxu⟩, hL⟩)
     | (rw [rUnd_some hst]
        have e : (z.undo b l).stk = st := by show z.stk.dropLast = st; rw [hst, List.dropLast_concat]
        exact ⟨_, _, _, _, _, rfl, rfl, ⟨hp2.more (by show _ ≤ 1000 * (z.n + 1); omega), by rw [e, ← hm]; exact hru3, by rw [e]; exact hxu3⟩, hL⟩)
  ·
   obtain ⟨st, ⟨b, l⟩, hst⟩ := stk_last (l := z.stk) (by omega)
   obtain ⟨m, hm⟩ : ∃ m, m = st.length := ⟨_, rfl⟩
   have hsl : z.stk.length = m + 1 := by rw [hst, hm]; simp
   obtain ⟨hbo, hlo⟩ := hzo.each (b, l) (by rw [hst]; simp)
   simp only at hbo hlo
   have hll := hlo.len
   rw [show ((z.stk.length : Int) - 1) = (m : Int) by omega]
   have hxu2 := hxu
   rw [hst] at hxu2
   obtain ⟨ys, cv, rfl, hxu3, g7, g2, go, o, n, f, rfl, h1, h2, h3, h4, h5, h6⟩ := hxu2.last
   obtain ⟨gb, capb, curb, heb, rfl, hcb1, hcb2, hgb, hru3⟩ := hru.pop hsl
   cases heb
   refine TL.nil ?_; refine TQ.then_n ?_; refine TC.cond_f rfl ?_; refine TC.skip ?_; refine TQ.nsr ?_; refine TL.move rfl rfl ?_; refine TL.nilCheck rfl rfl ?_; refine TL.fieldAddr rfl rfl ?_; refine TL.load_own 0 0 rfl rfl rfl rfl rfl ?_; refine TL.move rfl rfl ?_; refine TL.indexAddr (m) rfl rfl rfl (by omega) rfl ?_; refine TL.load_own 2 0 rfl rfl rfl hgb rfl ?_; refine TL.callV (first := []) (captured := [.pointer (some ⟨g7, 0, none⟩), .pointer (some ⟨g2, 0, none⟩)]) (vs := []) rfl (proj_undo1 hlo.fok hbo.fok (wrong_zero hlo.ok).2.2.2 hnow.good (m := 1000 * z.n) (by omega) hll h1 h2 h3 h4 ⟨h5, h6⟩ hp) trivial rfl rfl ?_
   rintro _ _ H22 ⟨fm2, sm2, rfl, rfl, hp2, hle22⟩
   have hL := Le.trans hL hle22; have hxu := Undos.mono hle22 hxu; have hxu3 := Undos.mono hle22 hxu3; have h3 := imm_le hle22 h3; refine TL.nsr ?_; refine TL.move rfl rfl ?_; refine TL.move rfl rfl ?_; refine TL.nilCheck rfl rfl ?_; refine TL.fieldAddr rfl rfl ?_; refine TL.load_own 0 0 rfl rfl rfl rfl rfl ?_; refine TL.move rfl rfl ?_; refine TL.slice 0 m rfl rfl ⟨_, _, rfl, rfl⟩ rfl rfl (by omega) (by omega) rfl ?_
   rw [slice_zero]
   refine TL.nilCheck rfl rfl ?_; refine TL.fieldAddr rfl rfl ?_; refine TL.store1 0 0 (c' := #[_, _, _, _]) (own' := [(_, .cells #[_, _, _, _] _ _)] :: _) rfl rfl rfl rfl rfl (by simp) rfl rfl rfl ?_; refine TL.nsr ?_; refine TL.move rfl rfl ?_; refine TL.call (proj_record (by omega) ⟨by decide, by decide⟩ (by decide)) ⟨rfl, rfl, rfl, trivial⟩ rfl ?_
   rintro _ _ H33 ⟨rfl, rfl, hle33⟩
   have hL := Le.trans hL hle33; have hxu := Undos.mono hle33 hxu; have hxu3 := Undos.mono hle33 hxu3; have h3 := imm_le hle33 h3; refine TL.assign rfl rfl ?_; refine TL.assign rfl rfl ?_; refine TL.nil ?_; refine TQ.then_n ?_; refine TC.ret ?_; refine TQ.toOwn (own' := _ :: _ :: _ :: own) rfl ?_; refine TQ.ret2 0 rfl rfl rfl ?_
   first
     | (rw [rUnd_none (by omega)]; exact ⟨_, _, _, _, _, rfl, rfl, ⟨hp, hru, hxu⟩, hL⟩)
     | (rw [rUnd_some hst]
        have e : (z.undo b l).stk = st := by show z.stk.dropLast = st; rw [hst, List.dropLast_concat]
        exact ⟨_, _, _, _, _, rfl, rfl, ⟨hp2.more (by show _ ≤ 1000 * (z.n + 1); omega), by rw [e, ← hm]; exact hru3, by rw [e]; exact hxu3⟩, hL⟩)
theorem proj_Get {l : List Fact} {m : Nat} {k ba ad : Int} (hk : I64 k) (hba : I64 ba) (had : U16 ad) {w0 : World} {H : Hp} {own : List Seg} {gp : Nat} {fm nv uv lv : Value} {sm : Seg} (hp : PMap l m fm sm) :
    Fn Tryz.prog 20 [.pointer (some ⟨gp, 0, none⟩), .int .i64 k, .agg #[.int .i64 ba, .int .u16 ad]] w0 H ([(gp, .cells #[fm, nv, uv, lv] 37 (0, 0))] :: sm :: own)
      (fun r own' H' => r = .tuple #[.string ((look l (k, ba, ad)).getD eS), .bool (look l (k, ba, ad)).isSome] ∧ own' = [(gp, .cells #[fm, nv, uv, lv] 37 (0, 0))] :: sm :: own ∧ Le H H') := by
  obtain ⟨kl, hkl⟩ := keyOk (f := ⟨k, ba, ad, eS⟩) ⟨hk, hba, had, Nat.zero_le _⟩
  refine Fn.enter Tryz.func20 rfl Tryz.ntmps20 rfl ?_; have hL := Le.refl H; refine TC.seq ?_; refine TC.region ?_
  refine TL.box (c := #[_, _]) rfl rfl rfl ?_; intro g5; refine TL.assign rfl rfl ?_; refine TL.assign rfl rfl ?_; refine TL.nil ?_; refine TQ.then_n ?_; refine TC.seq ?_; refine TC.seq ?_; refine TC.region ?_; refine TL.move rfl rfl ?_; refine TL.eqlP rfl rfl rfl ?_; refine TL.nil ?_; refine TQ.then_n ?_; refine TC.cond_f rfl ?_; refine TC.skip ?_; refine TQ.then_n ?_; refine TC.seq ?_
  rcases hp with ⟨rfl, rfl, rfl⟩ | ⟨gm, om, nm, rfl, rfl, hmc, hnm⟩
  ·
   refine TC.drawQV 12  [(0, _), (1, _), (2, _), (5, _), (6, _), (7, _)] follows_mixed ⟨rfl, rfl, rfl, rfl, rfl, rfl, trivial⟩ ?_; refine ChainV.q (some 13) [] (fun _ _ _ _ hF => TL.move rfl rfl (TL.one hF)) ?_; refine ChainV.q (some 14) [(0, 0)] (fun _ _ _ _ hF => TL.nilCheck rfl rfl (TL.one hF)) ?_; refine ChainV.q (some 15) [(1, 0)] (fun _ _ _ _ hF => TL.fieldAddr rfl rfl (TL.one hF)) ?_
   refine ChainV.q (some 16) [(2, 0)] (by
    intro H' X F hle; have hL := Le.trans hL hle; intro hF; refine TL.load_own 1 0 rfl rfl rfl rfl rfl ?_
    exact TL.one hF) ?_
   refine ChainV.q (some 17) [] (fun _ _ _ _ hF => TL.move rfl rfl (TL.one hF)) ?_
   refine ChainV.q (some 18) [] (by
    intro H' X F hle; have hL := Le.trans hL hle; intro hF; refine TL.load_ownA 0 0 [_, _] rfl rfl rfl ⟨rfl, rfl, trivial⟩ rfl rfl ?_
    exact TL.one hF) ?_
   refine ChainV.q (some 19) [(4, 1), (5, 0)] (by
    intro H' X F hle; have hL := Le.trans hL hle; intro hF; refine TL.struct [(0, [_]), (1, [_, _])] ⟨rfl, ⟨_, rfl, rfl⟩, rfl, ⟨_, rfl, rfl⟩, trivial⟩ rfl rfl ?_
    exact TL.one hF) ?_
   refine ChainV.q (some 20) [(3, 3), (6, 0)] (by
    intro H' X F hle; have hL := Le.trans hL hle; intro hF; refine TL.lookNilK rfl rfl KKY hkl zstr rfl ?_
    exact TL.one hF) ?_
   refine ChainV.q (some 12) [(7, 0)] (by
    intro H' X F hle; have hL := Le.trans hL hle; intro hF; refine TL.move rfl rfl ?_
    exact TL.one hF) ?_
   refine ChainV.q (some 21) [(8, 0)] (fun _ _ _ _ hF => TL.extract rfl rfl rfl (TL.one hF)) ?_; refine ChainV.q (some 22) [(8, 1)] (fun _ _ _ _ hF => TL.extract rfl rfl rfl (TL.one hF)) ?_; refine ChainV.q (some 8) [(9, 1)] (fun _ _ _ _ hF => TL.assign rfl rfl (TL.one hF)) ?_
   refine ⟨by kernel_rfl, .refl _, ?_⟩
   ·
    intro H1 hle; have hL := Le.trans hL hle; refine TL.toOwn (own' := _ :: _ :: _ :: own) rfl ?_; refine TL.wk (env' := [(0, _), (2, _), (6, _), (7, _), (22, _), (8, _)]) ⟨rfl, rfl, rfl, rfl, rfl, rfl, trivial⟩ ?_; refine TL.assign rfl rfl ?_; refine TL.nsr ?_; refine TL.move rfl rfl ?_; refine TL.move rfl rfl ?_; refine TL.assign rfl rfl ?_; refine TL.assign rfl rfl ?_; refine TL.nil ?_; refine TQ.then_n ?_; refine TC.ret ?_
    refine TQ.sel 3 [1, 2] rfl (fun o ho => ?_)
    simp only [K.sel, List.map_cons, List.map_nil, List.getD_cons_zero, List.getD_cons_succ, List.drop_succ_cons, List.drop_zero, List.cons_append, List.nil_append, List.set_cons_zero, List.set_cons_succ] at ho; subst ho
    refine TQ.ret2 0 rfl rfl rfl ?_
    exact ⟨rfl, rfl, hL⟩
  ·
   refine TC.drawQV 12  [(0, _), (1, _), (2, _), (5, _), (6, _), (7, _)] follows_mixed ⟨rfl, rfl, rfl, rfl, rfl, rfl, trivial⟩ ?_; refine ChainV.q (some 13) [] (fun _ _ _ _ hF => TL.move rfl rfl (TL.one hF)) ?_; refine ChainV.q (some 14) [(0, 0)] (fun _ _ _ _ hF => TL.nilCheck rfl rfl (TL.one hF)) ?_; refine ChainV.q (some 15) [(1, 0)] (fun _ _ _ _ hF => TL.fieldAddr rfl rfl (TL.one hF)) ?_
   refine ChainV.q (some 16) [(2, 0)] (by
    intro H' X F hle; have hL := Le.trans hL hle; intro hF; refine TL.load_own 1 0 rfl rfl rfl rfl rfl ?_
    exact TL.one hF) ?_
   refine ChainV.q (some 17) [] (fun _ _ _ _ hF => TL.move rfl rfl (TL.one hF)) ?_
   refine ChainV.q (some 18) [] (by
    intro H' X F hle; have hL := Le.trans hL hle; intro hF; refine TL.load_ownA 0 0 [_, _] rfl rfl rfl ⟨rfl, rfl, trivial⟩ rfl rfl ?_
    exact TL.one hF) ?_
   refine ChainV.q (some 19) [(4, 1), (5, 0)] (by
    intro H' X F hle; have hL := Le.trans hL hle; intro hF; refine TL.struct [(0, [_]), (1, [_, _])] ⟨rfl, ⟨_, rfl, rfl⟩, rfl, ⟨_, rfl, rfl⟩, trivial⟩ rfl rfl ?_
    exact TL.one hF) ?_
   refine ChainV.q (some 20) [(3, 3), (6, 0)] (by
    intro H' X F hle; have hL := Le.trans hL hle; intro hF; refine TL.lookK (key := keyV (k, ba, ad)) 2 0 rfl rfl rfl rfl KKY hmc hkl zstr rfl ?_
    rw [show (if true = true then Value.tuple #[(mapF l (keyV (k, ba, ad))).getD (.string ⟨#[]⟩), .bool (mapF l (keyV (k, ba, ad))).isSome] else (mapF l (keyV (k, ba, ad))).getD (.string ⟨#[]⟩)) = .tuple #[.string ((look l (k, ba, ad)).getD eS), .bool (look l (k, ba, ad)).isSome] by rw [mapF_key]; cases look l (k, ba, ad) <;> rfl]
    exact TL.one hF) ?_
   refine ChainV.q (some 12) [(7, 0)] (by
    intro H' X F hle; have hL := Le.trans hL hle; intro hF; refine TL.move rfl rfl ?_
    exact TL.one hF) ?_
   refine ChainV.q (some 21) [(8, 0)] (fun _ _ _ _ hF => TL.extract rfl rfl rfl (TL.one hF)) ?_; refine ChainV.q (some 22) [(8, 1)] (fun _ _ _ _ hF => TL.extract rfl rfl rfl (TL.one hF)) ?_; refine ChainV.q (some 8) [(9, 1)] (fun _ _ _ _ hF => TL.assign rfl rfl (TL.one hF)) ?_
   refine ⟨by kernel_rfl, .refl _, ?_⟩
   ·
    intro H2 hle; have hL := Le.trans hL hle; refine TL.toOwn (own' := _ :: _ :: _ :: own) rfl ?_; refine TL.wk (env' := [(0, _), (2, _), (6, _), (7, _), (22, _), (8, _)]) ⟨rfl, rfl, rfl, rfl, rfl, rfl, trivial⟩ ?_; refine TL.assign rfl rfl ?_; refine TL.nsr ?_; refine TL.move rfl rfl ?_; refine TL.move rfl rfl ?_; refine TL.assign rfl rfl ?_; refine TL.assign rfl rfl ?_; refine TL.nil ?_; refine TQ.then_n ?_; refine TC.ret ?_
    refine TQ.sel 3 [1, 2] rfl (fun o ho => ?_)
    simp only [K.sel, List.map_cons, List.map_nil, List.getD_cons_zero, List.getD_cons_succ, List.drop_succ_cons, List.drop_zero, List.cons_append, List.nil_append, List.set_cons_zero, List.set_cons_succ] at ho; subst ho
    refine TQ.ret2 0 rfl rfl rfl ?_
    exact ⟨rfl, rfl, hL⟩


end Go.Proofs.YteeamfkhkbfilaaGreat.K

namespace Go.Proofs.YteeamfkhkbfilaaGreat.K
open Go Go.RowKit Go.Proofs

def cmpI (a b : Int) : Int := if a < b then -1 else if b < a then 1 else 0
def firstNZ : List Int → Int
  | [] => 0
  | x :: r => if x = 0 then firstNZ r else x
def ordK (a b : Key) : Int := firstNZ [cmpI a.2.1 b.2.1, cmpI a.2.2 b.2.2, cmpI a.1 b.1]
theorem ordK_lt (a b : Key) : decide (ordK a b < 0) = kb a b := by
  rw [Bool.eq_iff_iff, decide_eq_true_iff, kb_iff]
  unfold ordK firstNZ firstNZ firstNZ firstNZ cmpI
  repeat' split
  all_goals omega
theorem nan_int {n : Int} {w0 : World} {H : Hp} {own : List Seg} :
    Fn Tryz.prog 132 [.int .i64 n] w0 H own (fun r own' H' => r = .bool false ∧ own' = own ∧ Le H H') := by
  refine Fn.enter Tryz.func132 rfl Tryz.ntmps132 rfl ?_; have hL := Le.refl H; refine TC.seq ?_; refine TC.region ?_; refine TL.assign rfl rfl ?_; refine TL.nsr ?_; refine TL.move rfl rfl ?_; refine TL.move rfl rfl ?_; refine TL.neq rfl rfl rfl ?_; refine TL.assign rfl rfl ?_; refine TL.nil ?_; refine TQ.then_n ?_; refine TC.ret ?_; refine TQ.ret1 0 rfl rfl ?_
  exact ⟨by simp, rfl, hL⟩
theorem nan_u16 {n : Int} {w0 : World} {H : Hp} {own : List Seg} :
    Fn Tryz.prog 133 [.int .u16 n] w0 H own (fun r own' H' => r = .bool false ∧ own' = own ∧ Le H H') := by
  refine Fn.enter Tryz.func133 rfl Tryz.ntmps133 rfl ?_; have hL := Le.refl H; refine TC.seq ?_; refine TC.region ?_; refine TL.assign rfl rfl ?_; refine TL.nsr ?_; refine TL.move rfl rfl ?_; refine TL.move rfl rfl ?_; refine TL.neq rfl rfl rfl ?_; refine TL.assign rfl rfl ?_; refine TL.nil ?_; refine TQ.then_n ?_; refine TC.ret ?_; refine TQ.ret1 0 rfl rfl ?_
  exact ⟨by simp, rfl, hL⟩
theorem compare_int {a b : Int} {w0 : World} {H : Hp} {own : List Seg} :
    Fn Tryz.prog 86 [.int .i64 a, .int .i64 b] w0 H own (fun r own' H' => r = .int .i64 (cmpI a b) ∧ own' = own ∧ Le H H') := by
  refine Fn.enter Tryz.func86 rfl Tryz.ntmps86 rfl ?_; have hL := Le.refl H; refine TC.seq ?_; refine TC.region ?_; refine TL.assign rfl rfl ?_; refine TL.nsr ?_; refine TL.move rfl rfl ?_; refine TL.call (nan_int) ⟨rfl, trivial⟩ rfl ?_
  rintro _ _ H8 ⟨rfl, rfl, hle8⟩
  have hL := Le.trans hL hle8; refine TL.assign rfl rfl ?_; refine TL.nsr ?_; refine TL.move rfl rfl ?_; refine TL.call (nan_int) ⟨rfl, trivial⟩ rfl ?_
  rintro _ _ H10 ⟨rfl, rfl, hle10⟩
  have hL := Le.trans hL hle10; refine TL.assign rfl rfl ?_; refine TL.nil ?_; refine TQ.then_n ?_; refine TC.seq ?_; refine TC.seq ?_; refine TC.region ?_; refine TL.move rfl rfl ?_; refine TL.nil ?_; refine TQ.then_n ?_; refine TC.cond_f rfl ?_; refine TC.skip ?_; refine TQ.then_n ?_; refine TC.seq ?_; refine TC.seq ?_; refine TC.region ?_; refine TL.move rfl rfl ?_; refine TL.nil ?_; refine TQ.then_n ?_; refine TC.cond_f rfl ?_; refine TC.skip ?_; refine TQ.then_n ?_; refine TC.seq ?_; refine TC.seq ?_; refine TC.region ?_; refine TL.move rfl rfl ?_; refine TL.move rfl rfl ?_
  refine TL.lssB rfl rfl rfl (fun h1 => ?_) (fun h1 => ?_)
  ·
   refine TL.nil ?_; refine TQ.then_n ?_; refine TC.cond_t rfl ?_; refine TC.seq ?_; refine TC.region ?_; refine TL.assign rfl rfl ?_; refine TL.nil ?_; refine TQ.then_n ?_; refine TC.ret ?_; refine TQ.then_r ?_; refine TQ.ret1 0 rfl rfl ?_
   refine ⟨congrArg (Value.int .i64) ?_, rfl, hL⟩
   symm
   unfold cmpI
   first
     | (rw [if_pos h1]; done)
     | (rw [if_neg (by omega), if_pos (by omega)]; done)
     | (rw [if_neg (by omega), if_neg (by omega)]; done)
  ·
   refine TL.nil ?_; refine TQ.then_n ?_; refine TC.cond_f rfl ?_; refine TC.skip ?_; refine TQ.then_n ?_; refine TC.seq ?_; refine TC.seq ?_; refine TC.region ?_; refine TL.move rfl rfl ?_; refine TL.move rfl rfl ?_
   refine TL.gtrB rfl rfl rfl (fun h2 => ?_) (fun h2 => ?_)
   ·
    refine TL.nil ?_; refine TQ.then_n ?_; refine TC.cond_t rfl ?_; refine TC.seq ?_; refine TC.region ?_; refine TL.assign rfl rfl ?_; refine TL.nil ?_; refine TQ.then_n ?_; refine TC.ret ?_; refine TQ.then_r ?_; refine TQ.ret1 0 rfl rfl ?_
    refine ⟨congrArg (Value.int .i64) ?_, rfl, hL⟩
    symm
    unfold cmpI
    first
      | (rw [if_pos h1]; done)
      | (rw [if_neg (by omega), if_pos (by omega)]; done)
      | (rw [if_neg (by omega), if_neg (by omega)]; done)
   ·
    refine TL.nil ?_; refine TQ.then_n ?_; refine TC.cond_f rfl ?_; refine TC.skip ?_; refine TQ.nsr ?_; refine TL.assign rfl rfl ?_; refine TL.nil ?_; refine TQ.then_n ?_; refine TC.ret ?_; refine TQ.ret1 0 rfl rfl ?_
    refine ⟨congrArg (Value.int .i64) ?_, rfl, hL⟩
    symm
    unfold cmpI
    first
      | (rw [if_pos h1]; done)
      | (rw [if_neg (by omega), if_pos (by omega)]; done)
      | (rw [if_neg (by omega), if_neg (by omega)]; done)
theorem compare_u16 {a b : Int} {w0 : World} {H : Hp} {own : List Seg} :
    Fn Tryz.prog 87 [.int .u16 a, .int .u16 b] w0 H own (fun r own' H' => r = .int .i64 (cmpI a b) ∧ own' = own ∧ Le H H') := by
  refine Fn.enter Tryz.func87 rfl Tryz.ntmps87 rfl ?_; have hL := Le.refl H; refine TC.seq ?_; refine TC.region ?_; refine TL.assign rfl rfl ?_; refine TL.nsr ?_; refine TL.move rfl rfl ?_; refine TL.call (nan_u16) ⟨rfl, trivial⟩ rfl ?_
  rintro _ _ H8 ⟨rfl, rfl, hle8⟩
  have hL := Le.trans hL hle8; refine TL.assign rfl rfl ?_; refine TL.nsr ?_; refine TL.move rfl rfl ?_; refine TL.call (nan_u16) ⟨rfl, trivial⟩ rfl ?_
  rintro _ _ H10 ⟨rfl, rfl, hle10⟩
  have hL := Le.trans hL hle10; refine TL.assign rfl rfl ?_; refine TL.nil ?_; refine TQ.then_n ?_; refine TC.seq ?_; refine TC.seq ?_; refine TC.region ?_; refine TL.move rfl rfl ?_; refine TL.nil ?_; refine TQ.then_n ?_; refine TC.cond_f rfl ?_; refine TC.skip ?_; refine TQ.then_n ?_; refine TC.seq ?_; refine TC.seq ?_; refine TC.region ?_; refine TL.move rfl rfl ?_; refine TL.nil ?_; refine TQ.then_n ?_; refine TC.cond_f rfl ?_; refine TC.skip ?_; refine TQ.then_n ?_; refine TC.seq ?_; refine TC.seq ?_; refine TC.region ?_; refine TL.move rfl rfl ?_; refine TL.move rfl rfl ?_
  refine TL.lssB rfl rfl rfl (fun h1 => ?_) (fun h1 => ?_)
  ·
   refine TL.nil ?_; refine TQ.then_n ?_; refine TC.cond_t rfl ?_; refine TC.seq ?_; refine TC.region ?_; refine TL.assign rfl rfl ?_; refine TL.nil ?_; refine TQ.then_n ?_; refine TC.ret ?_; refine TQ.then_r ?_; refine TQ.ret1 0 rfl rfl ?_
   refine ⟨congrArg (Value.int .i64) ?_, rfl, hL⟩
   symm
   unfold cmpI
   first
     | (rw [if_pos h1]; done)
     | (rw [if_neg (by omega), if_pos (by omega)]; done)
     | (rw [if_neg (by omega), if_neg (by omega)]; done)
  ·
   refine TL.nil ?_; refine TQ.then_n ?_; refine TC.cond_f rfl ?_; refine TC.skip ?_; refine TQ.then_n ?_; refine TC.seq ?_; refine TC.seq ?_; refine TC.region ?_; refine TL.move rfl rfl ?_; refine TL.move rfl rfl ?_
   refine TL.gtrB rfl rfl rfl (fun h2 => ?_) (fun h2 => ?_)
   ·
    refine TL.nil ?_; refine TQ.then_n ?_; refine TC.cond_t rfl ?_; refine TC.seq ?_; refine TC.region ?_; refine TL.assign rfl rfl ?_; refine TL.nil ?_; refine TQ.then_n ?_; refine TC.ret ?_; refine TQ.then_r ?_; refine TQ.ret1 0 rfl rfl ?_
    refine ⟨congrArg (Value.int .i64) ?_, rfl, hL⟩
    symm
    unfold cmpI
    first
      | (rw [if_pos h1]; done)
      | (rw [if_neg (by omega), if_pos (by omega)]; done)
      | (rw [if_neg (by omega), if_neg (by omega)]; done)
   ·
    refine TL.nil ?_; refine TQ.then_n ?_; refine TC.cond_f rfl ?_; refine TC.skip ?_; refine TQ.nsr ?_; refine TL.assign rfl rfl ?_; refine TL.nil ?_; refine TQ.then_n ?_; refine TC.ret ?_; refine TQ.ret1 0 rfl rfl ?_
    refine ⟨congrArg (Value.int .i64) ?_, rfl, hL⟩
    symm
    unfold cmpI
    first
      | (rw [if_pos h1]; done)
      | (rw [if_neg (by omega), if_pos (by omega)]; done)
      | (rw [if_neg (by omega), if_neg (by omega)]; done)
theorem cmp_Or {l : List Int} {w0 : World} {H : Hp} {own : List Seg} {v : Value} (hA : rd H (.s 1 ((l.map (Value.int .i64)).map D.c)) v) :
    Fn Tryz.prog 85 [v] w0 H own (fun r own' H' => r = .int .i64 (firstNZ l) ∧ own' = own ∧ Le H H') := by
  obtain ⟨A, c, rfl, hc1, hc2⟩ := vals_len hA
  simp only [List.length_map] at hA hc1 ⊢
  refine Fn.enter Tryz.func85 rfl Tryz.ntmps85 rfl ?_; have hL := Le.refl H; refine TC.seq ?_; refine TC.region ?_; refine TL.assign rfl rfl ?_; refine TL.nsr ?_; refine TL.assign rfl rfl ?_; refine TL.nil ?_; refine TQ.then_n ?_; refine TC.seq ?_; refine TC.seq ?_; refine TC.region ?_; refine TL.move rfl rfl ?_; refine TL.len_slice rfl rfl ?_; refine TL.move rfl rfl ?_; refine TL.nil ?_; refine TQ.then_n ?_; refine TC.block ?_; refine TC.loop (fun n env' own' H' => ∃ i, n = l.length - i ∧ i ≤ l.length ∧ firstNZ l = firstNZ (l.drop i) ∧ env' = [(3, .int .i64 0), (6, .slice A l.length c), (7, .int .i64 (l.length : Int)), (8, .int .i64 (i : Int))] ∧ own' = own ∧ Le H H') l.length [(3, _), (6, _), (7, _), (8, _)] ⟨rfl, rfl, rfl, rfl, trivial⟩ ⟨0, by omega, by omega, rfl, rfl, rfl, Le.refl _⟩ ?_
  rintro n _ own H1 ⟨i, rfl, hi1, hix, rfl, rfl, hle0⟩
  have hL := Le.trans hL hle0; have hA := rd.mono hle0 hA; refine TC.seq ?_; refine TC.region ?_
  refine TL.lssB rfl rfl rfl (fun hlt => ?_) (fun hlt => ?_)
  ·
   obtain ⟨x, hx⟩ : ∃ x, l[i]? = some x := ⟨_, List.getElem?_eq_getElem (by omega)⟩
   obtain ⟨b1, o1, rfl, hpx⟩ := vals_at hA (i := i) (u := .int .i64 x) (by simp [hx])
   refine TL.nil ?_; refine TQ.then_n ?_; refine TC.seq ?_; refine TC.cond_t rfl ?_; refine TC.skip ?_; refine TQ.then_n ?_; refine TC.seq ?_; refine TC.block ?_; refine TC.seq ?_; refine TC.region ?_; refine TL.indexAddr (i) rfl rfl rfl (by omega) rfl ?_; refine TL.load_imm rfl (hpx) rfl ?_; refine TL.assign rfl rfl ?_; refine TL.nsr ?_; refine TL.move rfl rfl ?_; refine TL.move rfl rfl ?_
   refine TL.neqB rfl rfl rfl (fun hne => ?_) (fun hne => ?_)
   ·
    refine TL.nil ?_; refine TQ.then_n ?_; refine TC.cond_t rfl ?_; refine TC.seq ?_; refine TC.region ?_; refine TL.move rfl rfl ?_; refine TL.assign rfl rfl ?_; refine TL.nil ?_; refine TQ.then_n ?_; refine TC.ret ?_; refine TQ.in_r ?_; refine TQ.then_r ?_; refine TQ.then_r ?_; refine TQ.in_r ?_; refine TQ.then_r ?_; refine TQ.ret1 0 rfl rfl ?_
    first
      | exact ⟨by rw [hix, drop_cons hx]; simp [firstNZ, hne], rfl, hL⟩
      | exact ⟨by rw [hix, List.drop_of_length_le (by omega)]; rfl, rfl, hL⟩
   ·
    refine TL.nil ?_; refine TQ.then_n ?_; refine TC.cond_f rfl ?_; refine TC.skip ?_; refine TQ.in_n ?_; refine TQ.then_n ?_; refine TC.region ?_; refine TL.add rfl rfl rfl ⟨by omega, by omega⟩ ?_; refine TL.move rfl rfl ?_; refine TL.nil ?_; refine TQ.toOwn (own' := own) rfl ?_
    refine TQ.next (l.length - (i + 1)) [(3, _), (6, _), (7, _), (8, _)] (by omega) ⟨rfl, rfl, rfl, rfl, trivial⟩ ⟨i + 1, rfl, by omega, by rw [hix, drop_cons hx]; simp [firstNZ, hne], rfl, rfl, hle0⟩
  ·
   refine TL.nil ?_; refine TQ.then_n ?_; refine TC.seq ?_; refine TC.cond_f rfl ?_; refine TC.exit ?_; refine TQ.then_e ?_; refine TQ.then_e ?_; refine TQ.in_e ?_; refine TQ.nsr ?_; refine TL.move rfl rfl ?_; refine TL.assign rfl rfl ?_; refine TL.nil ?_; refine TQ.then_n ?_; refine TC.ret ?_; refine TQ.ret1 0 rfl rfl ?_
   first
     | exact ⟨by rw [hix, drop_cons hx]; simp [firstNZ, hne], rfl, hL⟩
     | exact ⟨by rw [hix, List.drop_of_length_le (by omega)]; rfl, rfl, hL⟩
theorem proj_order {a b : Key} {w0 : World} {H : Hp} {own : List Seg} :
    Fn Tryz.prog 37 [keyV a, keyV b] w0 H own (fun r own' H' => r = .int .i64 (ordK a b) ∧ own' = own ∧ Le H H') := by
  refine Fn.enter Tryz.func37 rfl Tryz.ntmps37 rfl ?_; have hL := Le.refl H; refine TC.seq ?_; refine TC.region ?_
  refine TL.box (c := #[_, _, _]) rfl rfl rfl ?_; intro g2
  refine TL.box (c := #[_, _, _]) rfl rfl rfl ?_; intro g3; refine TL.assign rfl rfl ?_; refine TL.nil ?_; refine TQ.then_n ?_; refine TC.seq ?_; refine TC.drawQV 18  [(0, _), (1, _), (2, _), (3, _), (4, _)] follows_mixed ⟨rfl, rfl, rfl, rfl, rfl, trivial⟩ ?_; refine ChainV.q (some 5) [] (fun _ _ _ _ hF => TL.fieldAddr rfl rfl (TL.one hF)) ?_; refine ChainV.q (some 6) [(0, 0)] (fun _ _ _ _ hF => TL.fieldAddr rfl rfl (TL.one hF)) ?_
  refine ChainV.q (some 7) [(1, 0)] (by
   intro H' X F hle; have hL := Le.trans hL hle; intro hF; refine TL.load_own 1 0 rfl rfl rfl rfl rfl ?_
   exact TL.one hF) ?_
  refine ChainV.q (some 8) [] (fun _ _ _ _ hF => TL.fieldAddr rfl rfl (TL.one hF)) ?_; refine ChainV.q (some 9) [(3, 0)] (fun _ _ _ _ hF => TL.fieldAddr rfl rfl (TL.one hF)) ?_
  refine ChainV.q (some 10) [(4, 0)] (by
   intro H' X F hle; have hL := Le.trans hL hle; intro hF; refine TL.load_own 0 0 rfl rfl rfl rfl rfl ?_
   exact TL.one hF) ?_
  refine ChainV.q (some 11) [(2, 3), (5, 0)] (by
   intro H' X F hle; have hL := Le.trans hL hle; intro hF; refine TL.call (compare_int) ⟨rfl, rfl, trivial⟩ rfl ?_
   rintro _ _ H11 ⟨rfl, rfl, hle11⟩
   have hL := Le.trans hL hle11; refine TL.nil ?_
   exact TQ.one [] hF hle11 ⟨rfl, rfl⟩) ?_
  refine ChainV.q (some 12) [] (fun _ _ _ _ hF => TL.fieldAddr rfl rfl (TL.one hF)) ?_; refine ChainV.q (some 13) [(7, 0)] (fun _ _ _ _ hF => TL.fieldAddr rfl rfl (TL.one hF)) ?_
  refine ChainV.q (some 14) [(8, 0)] (by
   intro H' X F hle; have hL := Le.trans hL hle; intro hF; refine TL.load_own 1 0 rfl rfl rfl rfl rfl ?_
   exact TL.one hF) ?_
  refine ChainV.q (some 15) [] (fun _ _ _ _ hF => TL.fieldAddr rfl rfl (TL.one hF)) ?_; refine ChainV.q (some 16) [(10, 0)] (fun _ _ _ _ hF => TL.fieldAddr rfl rfl (TL.one hF)) ?_
  refine ChainV.q (some 17) [(11, 0)] (by
   intro H' X F hle; have hL := Le.trans hL hle; intro hF; refine TL.load_own 0 0 rfl rfl rfl rfl rfl ?_
   exact TL.one hF) ?_
  refine ChainV.q (some 18) [(9, 3), (12, 0)] (by
   intro H' X F hle; have hL := Le.trans hL hle; intro hF; refine TL.call (compare_u16) ⟨rfl, rfl, trivial⟩ rfl ?_
   rintro _ _ H18 ⟨rfl, rfl, hle18⟩
   have hL := Le.trans hL hle18; refine TL.nil ?_
   exact TQ.one [] hF hle18 ⟨rfl, rfl⟩) ?_
  refine ChainV.q (some 19) [] (fun _ _ _ _ hF => TL.fieldAddr rfl rfl (TL.one hF)) ?_
  refine ChainV.q (some 20) [(14, 0)] (by
   intro H' X F hle; have hL := Le.trans hL hle; intro hF; refine TL.load_own 1 0 rfl rfl rfl rfl rfl ?_
   exact TL.one hF) ?_
  refine ChainV.q (some 21) [] (fun _ _ _ _ hF => TL.fieldAddr rfl rfl (TL.one hF)) ?_
  refine ChainV.q (some 22) [(16, 0)] (by
   intro H' X F hle; have hL := Le.trans hL hle; intro hF; refine TL.load_own 0 0 rfl rfl rfl rfl rfl ?_
   exact TL.one hF) ?_
  refine ⟨by kernel_rfl, .refl _, ?_⟩
  ·
   intro H1 hle; have hL := Le.trans hL hle; refine TL.toOwn (own' := _ :: _ :: own) rfl ?_; refine TL.wk (env' := [(0, _), (1, _), (4, _), (11, _), (18, _), (20, _), (22, _)]) ⟨rfl, rfl, rfl, rfl, rfl, rfl, rfl, trivial⟩ ?_; refine TL.call (compare_int) ⟨rfl, rfl, trivial⟩ rfl ?_
   rintro _ _ H23 ⟨rfl, rfl, hle23⟩
   have hL := Le.trans hL hle23
   refine TL.litF (r := [_, _, _]) [(0, [_]), (1, [_]), (2, [_])] ⟨rfl, ⟨_, rfl, rfl⟩, rfl, ⟨_, rfl, rfl⟩, rfl, ⟨_, rfl, rfl⟩, trivial⟩ rfl rfl rfl rfl ?_; intro g24
   refine TL.freeze (fun H2 hle hz_g24 => ?_)
   have hL := Le.trans hL hle
   have hs : rd H2 (.s 1 (([cmpI a.2.1 b.2.1, cmpI a.2.2 b.2.2, cmpI a.1 b.1].map (Value.int .i64)).map D.c)) (.slice (some ⟨g24, 0, none⟩) 3 3) := rd.ofRow (Row.lit 3 1 3 g24 _ rfl (by omega)) hz_g24 (RdL.vals _) (Le.refl _)
   refine TL.call (cmp_Or (l := [cmpI a.2.1 b.2.1, cmpI a.2.2 b.2.2, cmpI a.1 b.1]) hs) ⟨rfl, trivial⟩ rfl ?_
   rintro _ _ H25 ⟨rfl, rfl, hle25⟩
   have hL := Le.trans hL hle25; refine TL.assign rfl rfl ?_; refine TL.nil ?_; refine TQ.then_n ?_; refine TC.ret ?_; refine TQ.ret1 2 rfl rfl ?_
   exact ⟨rfl, rfl, hL⟩


end Go.Proofs.YteeamfkhkbfilaaGreat.K

namespace Go.Proofs
open Go.Shelf
def Tryz.sortKeys_ren : Go.Shelf.Ren := ⟨fun | 6 => 83 | 15 => 131 | 14 => 130 | 28 => 166 | 29 => 167 | 20 => 158 | 21 => 159 | 22 => 160 | 23 => 161 | 24 => 162 | 25 => 163 | 26 => 164 | 27 => 165 | 46 => 178 | 47 => 179 | 48 => 180 | 49 => 181 | 50 => 182 | 57 => 200 | n => n, fun | 22 => 92 | 24 => 95 | 25 => 99 | 3 => 3 | 39 => 171 | 0 => 0 | 53 => 241 | 55 => 243 | 4 => 4 | 46 => 235 | 45 => 234 | 50 => 220 | 5 => 5 | 9 => 9 | 66 => 248 | 70 => 252 | 76 => 267 | 77 => 268 | n => n, fun | n => n⟩
theorem Tryz.sortKeys : Go.Proofs.SlLaysF0.n6 Tryz.prog Tryz.sortKeys_ren := {
  mixed := by kernel_rfl
  f6 := ⟨Tryz.f83.name, by decide, Tryz.func83.trans (congrArg some (by kernel_rfl))⟩
  f14 := ⟨Tryz.f130.name, by decide, Tryz.func130.trans (congrArg some (by kernel_rfl))⟩
  f15 := Tryz.func131.trans (congrArg some (by kernel_rfl))
  f20 := ⟨Tryz.f158.name, by decide, Tryz.func158.trans (congrArg some (by kernel_rfl))⟩
  f21 := ⟨Tryz.f159.name, by decide, Tryz.func159.trans (congrArg some (by kernel_rfl))⟩
  f22 := ⟨Tryz.f160.name, by decide, Tryz.func160.trans (congrArg some (by kernel_rfl))⟩
  f23 := ⟨Tryz.f161.name, by decide, Tryz.func161.trans (congrArg some (by kernel_rfl))⟩
  f24 := ⟨Tryz.f162.name, by decide, Tryz.func162.trans (congrArg some (by kernel_rfl))⟩
  f25 := ⟨Tryz.f163.name, by decide, Tryz.func163.trans (congrArg some (by kernel_rfl))⟩
  f26 := ⟨Tryz.f164.name, by decide, Tryz.func164.trans (congrArg some (by kernel_rfl))⟩
  f27 := ⟨Tryz.f165.name, by decide, Tryz.func165.trans (congrArg some (by kernel_rfl))⟩
  f28 := Tryz.func166.trans (congrArg some (by kernel_rfl))
  f29 := Tryz.func167.trans (congrArg some (by kernel_rfl))
  f46 := ⟨Tryz.f178.name, by decide, Tryz.func178.trans (congrArg some (by kernel_rfl))⟩
  f47 := Tryz.func179.trans (congrArg some (by kernel_rfl))
  f48 := Tryz.func180.trans (congrArg some (by kernel_rfl))
  f49 := ⟨Tryz.f181.name, by decide, Tryz.func181.trans (congrArg some (by kernel_rfl))⟩
  f50 := ⟨Tryz.f182.name, by decide, Tryz.func182.trans (congrArg some (by kernel_rfl))⟩
  f57 := ⟨Tryz.f200.name, by decide, Tryz.func200.trans (congrArg some (by kernel_rfl))⟩
  t0 := Tryz.underlying0
  a0 := Tryz.isAgg0
  z0 := Tryz.sizeOf0
  v0 := Tryz.zeroValue0
  t3 := Tryz.underlying3
  a3 := Tryz.isAgg3
  z3 := Tryz.sizeOf3
  v3 := Tryz.zeroValue3
  t4 := Tryz.underlying4
  a4 := Tryz.isAgg4
  z4 := Tryz.sizeOf4
  v4 := Tryz.zeroValue4
  t5 := Tryz.underlying5
  a5 := Tryz.isAgg5
  z5 := Tryz.sizeOf5
  v5 := Tryz.zeroValue5
  t9 := Tryz.underlying9
  a9 := Tryz.isAgg9
  z9 := Tryz.sizeOf9
  v9 := Tryz.zeroValue9
  t22 := Tryz.underlying92
  a22 := Tryz.isAgg92
  z22 := Tryz.sizeOf92
  v22 := Tryz.zeroValue92
  t25 := Tryz.underlying99
  a25 := Tryz.isAgg99
  z25 := Tryz.sizeOf99
  v25 := Tryz.zeroValue99
  t39 := Tryz.underlying171
  a39 := Tryz.isAgg171
  z39 := Tryz.sizeOf171
  v39 := Tryz.zeroValue171
  t45 := Tryz.underlying234
  a45 := Tryz.isAgg234
  z45 := Tryz.sizeOf234
  v45 := Tryz.zeroValue234
  t46 := Tryz.underlying235
  a46 := Tryz.isAgg235
  z46 := Tryz.sizeOf235
  v46 := Tryz.zeroValue235
  t50 := Tryz.underlying220
  a50 := Tryz.isAgg220
  z50 := Tryz.sizeOf220
  v50 := Tryz.zeroValue220
  t53 := Tryz.underlying241
  a53 := Tryz.isAgg241
  z53 := Tryz.sizeOf241
  v53 := Tryz.zeroValue241
  t55 := Tryz.underlying243
  a55 := Tryz.isAgg243
  z55 := Tryz.sizeOf243
  v55 := Tryz.zeroValue243
  t66 := Tryz.underlying248
  a66 := Tryz.isAgg248
  z66 := Tryz.sizeOf248
  v66 := Tryz.zeroValue248
  t70 := Tryz.underlying252
  a70 := Tryz.isAgg252
  z70 := Tryz.sizeOf252
  v70 := Tryz.zeroValue252
  t76 := Tryz.underlying267
  a76 := Tryz.isAgg267
  z76 := Tryz.sizeOf267
  v76 := Tryz.zeroValue267
  t77 := Tryz.underlying268
  a77 := Tryz.isAgg268
  z77 := Tryz.sizeOf268
  v77 := Tryz.zeroValue268 }
end Go.Proofs

namespace Go.Proofs.YteeamfkhkbfilaaGreat.K
open Go Go.RowKit Go.Proofs Go.Sort

def encK (k : Key) : List Value := [.int .i64 k.1, .int .i64 k.2.1, .int .u16 k.2.2]
abbrev keysV (l : List Key) : List Value := l.flatMap encK
theorem bits_len0 {w0 : World} {H : Hp} {own : List Seg} : Fn Tryz.prog 131 [.int .u64 0] w0 H own (fun r own' H' => own' = own ∧ Le H H') := fun w hw => by
  have h := Any.bits_Len (SlLaysF0.n15.bits (P := Tryz.prog) (ρ := Tryz.sortKeys_ren) { Tryz.sortKeys with }) 0 w (by omega) (by omega)
  refine Calls.mono h ?_
  rintro e w' ⟨rfl, rfl⟩
  exact ⟨_, own, H, rfl, ⟨rfl, Le.refl _⟩, hw⟩
theorem sortWorld_other {α : Type} [Inhabited α] (enc : α → Value) (w : World) (g m : Nat) (d : Array α) (os : Array Obj) {b : Nat} (hb : b < w.heap.size) (hg : b ≠ g) : (sortWorld enc w g 0 m d os).heap[b]? = w.heap[b]? := by
  unfold sortWorld grow putRow mapBlock Sort.ahead
  simp only
  rw [Array.getElem?_append_left (by simpa using hb), Array.getElem?_modify, if_neg (fun h => hg h.symm)]
theorem world_grown {W w' : World} (hos : w'.os = W.os) (htp : w'.tape = W.tape) (hdr : W.drawn ≤ w'.drawn) (hout : w'.output = W.output) (hb : ∀ b, b < W.heap.size → w'.heap[b]? = W.heap[b]?) : ∃ q os', w' = grow (W.drewN q) os' := by
  refine ⟨w'.drawn - W.drawn, w'.heap.extract W.heap.size w'.heap.size, ?_⟩
  have hsz : W.heap.size ≤ w'.heap.size := by
    rcases Nat.lt_or_ge w'.heap.size W.heap.size with h | h
    · have := hb w'.heap.size h
      simp at this
      omega
    · exact h
  have hheap : w'.heap = W.heap ++ w'.heap.extract W.heap.size w'.heap.size := by
    refine Array.ext_getElem? fun k => ?_
    by_cases hk : k < W.heap.size
    · rw [Array.getElem?_append_left hk, hb k hk]
    · rw [Array.getElem?_append_right (by omega), Array.getElem?_extract]
      by_cases hk2 : k < w'.heap.size
      · rw [if_pos (by omega)]
        congr 1; omega
      · rw [if_neg (by omega)]
        simp; omega
  obtain ⟨h1, h2, h3, h4, h5⟩ := w'
  simp only at hos htp hdr hout hheap
  subst hos; subst htp; subst hout
  unfold grow World.drewN
  simp only [World.mk.injEq, true_and, and_true]
  exact ⟨hheap, by omega⟩
theorem order_swo : SWO (ltOf ordK) where
  irrefl x := by show decide (ordK x x < 0) = false; rw [ordK_lt, kb_irrefl]
  trans x y z h1 h2 := by
    have h1 : decide (ordK x y < 0) = true := h1
    have h2 : decide (ordK y z < 0) = true := h2
    show decide (ordK x z < 0) = true
    rw [ordK_lt] at *
    exact kb_trans h1 h2
  ntrans x y z h1 h2 := by
    have h1 : decide (ordK x y < 0) = false := h1
    have h2 : decide (ordK y z < 0) = false := h2
    show decide (ordK x z < 0) = false
    rw [ordK_lt] at *
    rw [← Bool.not_eq_true, kb_iff] at *
    omega
theorem order_lays {w0 w : World} {H : Hp} {own : List Seg} {g size : Nat} : CmpLays Tryz.prog 37 #[] encK 3 ordK g 0 size w := by
  intro m os dk hs x y
  generalize hW : sortWorldK encK 3 w g 0 m dk os = W
  have hst : St W (fun b => W.heap[b]?) [] W := ⟨rfl, ⟨rfl, Nat.le_refl _⟩, rfl, fun b o h => h, by simp, by simp, by simp⟩
  have hf := proj_order (a := x) (b := y) (w0 := W) (H := fun b => W.heap[b]?) (own := [])
  refine (hf W hst).mono ?_
  rintro e w' ⟨v, own', H', rfl, ⟨rfl, rfl, hle'⟩, hst'⟩
  refine ⟨rfl, world_grown hst'.os hst'.tape.1 hst'.tape.2 hst'.output (fun b hb => ?_)⟩
  have h1 : W.heap[b]? = some W.heap[b] := by simp [hb]
  rw [h1]
  exact hst'.imm b _ (hle' b _ h1)
def SortedK (l : List Key) : Prop := l.Pairwise fun a b => kb b a = false
theorem keysV_len (l : List Key) : (keysV l).length = l.length * 3 := by
  induction l with
  | nil => rfl
  | cons f r ih => rw [show keysV (f :: r) = encK f ++ keysV r from rfl, List.length_append, ih]; show 3 + _ = _; simp only [List.length_cons]; omega
theorem keysV_get : ∀ (l : List Key) (t : Nat), t < l.length * 3 → (keysV l)[t]? = some ((encK (l.toArray[t / 3]!))[t % 3]!)
  | [], t, h => by simp at h
  | f :: r, t, h => by
    rw [show keysV (f :: r) = encK f ++ keysV r from rfl]
    simp only [List.length_cons] at h
    by_cases h3 : t < 3
    · rw [List.getElem?_append_left (by show t < 3; exact h3), Nat.div_eq_of_lt h3, Nat.mod_eq_of_lt h3]
      match t, h3 with
      | 0, _ => rfl
      | 1, _ => rfl
      | 2, _ => rfl
    · rw [List.getElem?_append_right (by show 3 ≤ t; omega)]
      show (keysV r)[t - 3]? = _
      rw [keysV_get r (t - 3) (by omega)]
      have e1 : t / 3 = (t - 3) / 3 + 1 := by omega
      have e2 : t % 3 = (t - 3) % 3 := by omega
      rw [e1, e2]
      congr 3
      simp only [List.getElem!_toArray]
      by_cases hlt : (t - 3) / 3 < r.length
      · simp [hlt]
      · omega
theorem keys_sort {l : List Key} (hne : l ≠ []) (hlim : l.length ≤ 1000000000000) {w0 : World} {H : Hp} {own : List Seg} {u : Value} {seg : Seg} (hrow : Row 95 3 u l.length (keysV l) seg) :
    Fn Tryz.prog 83 [u, .func (.func 37) #[] #[]] w0 H (seg :: own) (fun r own' H' => ∃ l' seg', r = .tuple #[] ∧ own' = seg' :: own ∧ Row 95 3 u l'.length (keysV l') seg' ∧ l'.Perm l ∧ SortedK l' ∧ Le H H') := by
  obtain ⟨hlen, hrow⟩ := hrow
  rcases hrow with ⟨_, h0, _⟩ | ⟨g, cap, cur, rfl, rfl, h1, h2, h3, h4⟩
  · exact absurd (List.eq_nil_of_length_eq_zero h0) hne
  · intro w hw
    have hb : w.heap[g]? = some (.cells cur 95 (0, 0)) := hw.own_blk (i := 0) (j := 0) rfl rfl
    have hlt : g < w.heap.size := (Array.getElem?_eq_some_iff.1 hb).1
    have hk3 : ∀ x : Key, (encK x).length = 3 := fun _ => rfl
    have hone : ∀ x : Key, ∀ v ∈ encK x, v.oneCell' = true := by
      intro x v hv
      simp only [encK, List.mem_cons, List.not_mem_nil, or_false] at hv
      rcases hv with rfl | rfl | rfl <;> rfl
    have hH : HoldsK encK 3 w g 0 l.toArray := by
      intro j hj
      rw [size_flatK] at hj
      have hj' : j < l.length * 3 := by simpa using hj
      refine ⟨?_, by simp [World.frozen?, hb]⟩
      rw [cell_of_cells hb, Nat.zero_add, get_flatK _ _ _ _ (by simpa using hj')]
      have := congrArg (fun x : List Value => x[j]?) h4
      simp only [List.getElem?_take] at this
      rw [if_pos hj', Array.getElem?_toList, keysV_get l j hj'] at this
      exact this
    have eg : ∀ args w, (callFunc 37 args).run Tryz.prog w = .ok (.enter 37 args) w := enters_of Tryz.func37 (by kernel_rfl) rfl
    have hc := AnyQ.slices_SortFunc Tryz.sortKeys 3 Tryz.isAgg95 Tryz.sizeOf95 encK hk3 hone ordK order_swo 37 #[] g 0 cap l.toArray w eg (order_lays (w0 := w) (H := H) (own := own)) hH hlt (by simp; omega)
    have hsz : l.toArray.size = l.length := by simp
    rw [hsz] at hc
    refine Calls.mono hc ?_
    rintro e w' ⟨rfl, d', n, os, ⟨hp1, _, hp2⟩, hs, rfl⟩
    have hd : d'.size = l.length := hp1.trans hsz
    refine ⟨.tuple #[], [(g, .cells (putCells id 0 (flatK encK 3 d') cur) 95 (0, 0))] :: own, H, rfl, ⟨d'.toList, _, rfl, rfl, ⟨keysV_len _, .inr ⟨g, cap, _, by simp [hd], rfl, by simp [hd]; omega, h2, by simp [putCells, h3], ?_⟩⟩, ?_, ?_, Le.refl _⟩, ?_⟩
    · refine List.ext_getElem? fun j => ?_
      simp only [Array.length_toList, List.getElem?_take]
      by_cases hj : j < d'.size * 3
      · rw [if_pos hj]
        have hj2 : j < cur.size := by rw [h3]; have := Nat.mul_le_mul_right 3 h1; omega
        rw [keysV_get d'.toList j (by simpa using hj), Array.toArray_toList]
        have : (putCells id 0 (flatK encK 3 d') cur)[j]? = some ((flatK encK 3 d')[j]!) := by
          simp [putCells, hj, hj2]
        rw [Array.getElem?_toList, this, get_flatK _ _ _ _ hj]
      · rw [if_neg hj, List.getElem?_eq_none (by rw [keysV_len]; simpa using hj)]
    · have e1 : d'.extract 0 l.length = d' := by rw [← hd]; simp
      have e2 : l.toArray.extract 0 l.length = l.toArray := by rw [← hsz]; simp
      rw [e1, e2] at hp2
      simpa using hp2
    · refine List.pairwise_iff_getElem.2 fun i j hi hj hij => ?_
      simp only [Array.length_toList] at hi hj
      have h5 : decide (ordK (d'[j]!) (d'[i]!) < 0) = false := hs i j (Nat.zero_le _) hij (by omega)
      rw [ordK_lt] at h5
      simp only [Array.getElem_toList]
      have e1 : d'[i]! = d'[i] := by simp [hi]
      have e2 : d'[j]! = d'[j] := by simp [hj]
      rw [e1, e2] at h5
      exact h5
    · have := hw.upd (i := 0) (w' := sortWorldK encK 3 w g 0 n d' os) (seg' := [(g, .cells (putCells id 0 (flatK encK 3 d') cur) 95 (0, 0))]) rfl rfl ⟨rfl, Nat.le_add_right _ _⟩ rfl
        (fun b hb2 hnb => sortWorld_other id w g n (flatK encK 3 d') os hb2 (by simpa using hnb)) (fun p hp => ?_) (by simp) (by simp)
      · simpa using this
      · simp only [List.mem_singleton] at hp
        subst hp
        show (sortWorldK encK 3 w g 0 n d' os).heap[g]? = _
        unfold sortWorldK putRowK grow putRow mapBlock Sort.ahead
        simp only
        rw [Array.getElem?_append_left (by simpa using hlt), Array.getElem?_modify, if_pos rfl, hb]
        rfl
end Go.Proofs.YteeamfkhkbfilaaGreat.K

namespace Go.Proofs.YteeamfkhkbfilaaGreat.K
open Go Go.RowKit Go.Proofs

theorem ins_none {A : Option Addr} {c : Nat} {fv : Value} {w0 : World} {H : Hp} {own : List Seg} :
    Fn Tryz.prog 158 [.slice A 0 c, .int .i64 0, .int .i64 0, fv] w0 H own (fun r own' H' => r = .tuple #[] ∧ own' = own ∧ Le H H') := by
  refine Fn.enter Tryz.func158 rfl Tryz.ntmps158 rfl ?_; have hL := Le.refl H; refine TC.seq ?_; refine TC.region ?_; refine TL.move rfl rfl ?_; refine TL.add rfl rfl rfl ⟨by omega, by omega⟩ ?_; refine TL.assign rfl rfl ?_; refine TL.nil ?_; refine TQ.then_n ?_; refine TC.block ?_; refine TC.loop (fun n env' own' H' => env' = [(0, .slice A 0 c), (1, .int .i64 0), (2, .int .i64 0), (3, fv), (8, .int .i64 1)] ∧ own' = own ∧ Le H H') 0 [(0, _), (1, _), (2, _), (3, _), (8, _)] ⟨rfl, rfl, rfl, rfl, rfl, trivial⟩ ⟨rfl, rfl, Le.refl _⟩ ?_
  rintro n _ own H1 ⟨rfl, rfl, hle0⟩
  have hL := Le.trans hL hle0; refine TC.seq ?_; refine TC.seq ?_; refine TC.region ?_; refine TL.move rfl rfl ?_; refine TL.move rfl rfl ?_
  refine TL.lssB rfl rfl rfl (fun hlt => ?_) (fun hlt => ?_)
  ·
   exact absurd hlt (by decide) -- dead
  ·
   refine TL.nil ?_; refine TQ.then_n ?_; refine TC.cond_f rfl ?_; refine TC.exit ?_; refine TQ.then_e ?_; refine TQ.then_e ?_; refine TQ.in_e ?_; refine TQ.end0 0 rfl ?_
   exact ⟨rfl, rfl, hL⟩
theorem pdq_none {A : Option Addr} {c : Nat} {fv lim : Value} {w0 : World} {H : Hp} {own : List Seg} :
    Fn Tryz.prog 130 [.slice A 0 c, .int .i64 0, .int .i64 0, lim, fv] w0 H own (fun r own' H' => r = .tuple #[] ∧ own' = own ∧ Le H H') := by
  refine Fn.enter Tryz.func130 rfl Tryz.ntmps130 rfl ?_; have hL := Le.refl H; refine TC.seq ?_; refine TC.region ?_; refine TL.assign rfl rfl ?_; refine TL.nsr ?_; refine TL.assign rfl rfl ?_; refine TL.nil ?_; refine TQ.then_n ?_; refine TC.block ?_; refine TC.loop (fun n env' own' H' => env' = [(0, .slice A 0 c), (1, .int .i64 0), (2, .int .i64 0), (3, lim), (4, fv), (10, .bool true), (11, .bool true)] ∧ own' = own ∧ Le H H') 0 [(0, _), (1, _), (2, _), (3, _), (4, _), (10, _), (11, _)] ⟨rfl, rfl, rfl, rfl, rfl, rfl, rfl, trivial⟩ ⟨rfl, rfl, Le.refl _⟩ ?_
  rintro n _ own H1 ⟨rfl, rfl, hle0⟩
  have hL := Le.trans hL hle0; refine TC.block ?_; refine TC.seq ?_; refine TC.region ?_; refine TL.move rfl rfl ?_; refine TL.move rfl rfl ?_; refine TL.sub rfl rfl rfl ⟨by omega, by omega⟩ ?_; refine TL.assign rfl rfl ?_; refine TL.nil ?_; refine TQ.then_n ?_; refine TC.seq ?_; refine TC.seq ?_; refine TC.region ?_; refine TL.move rfl rfl ?_
  refine TL.leqB rfl rfl rfl (fun hlt => ?_) (fun hlt => ?_)
  ·
   refine TL.nil ?_; refine TQ.then_n ?_; refine TC.cond_t rfl ?_; refine TC.seq ?_; refine TC.region ?_; refine TL.move rfl rfl ?_; refine TL.move rfl rfl ?_; refine TL.move rfl rfl ?_; refine TL.move rfl rfl ?_; refine TL.call (ins_none) ⟨rfl, rfl, rfl, rfl, trivial⟩ rfl ?_
   rintro _ _ H30 ⟨rfl, rfl, hle30⟩
   have hL := Le.trans hL hle30; refine TL.nil ?_; refine TQ.then_n ?_; refine TC.ret ?_; refine TQ.then_r ?_; refine TQ.in_r ?_; refine TQ.then_r ?_; refine TQ.in_r ?_; refine TQ.ret0 0 rfl ?_
   exact ⟨rfl, rfl, hL⟩
  ·
   exact absurd hlt (by decide) -- dead
theorem sort_none {A : Option Addr} {c : Nat} {fv : Value} {w0 : World} {H : Hp} {own : List Seg} :
    Fn Tryz.prog 83 [.slice A 0 c, fv] w0 H own (fun r own' H' => r = .tuple #[] ∧ own' = own ∧ Le H H') := by
  refine Fn.enter Tryz.func83 rfl Tryz.ntmps83 rfl ?_; have hL := Le.refl H; refine TC.seq ?_; refine TC.region ?_; refine TL.move rfl rfl ?_; refine TL.len_slice rfl rfl ?_; refine TL.assign rfl rfl ?_; refine TL.nil ?_; refine TQ.then_n ?_; refine TC.region ?_; refine TL.move rfl rfl ?_; refine TL.move rfl rfl ?_; refine TL.move rfl rfl ?_; refine TL.convI rfl rfl ?_; refine TL.call (bits_len0) ⟨rfl, trivial⟩ rfl ?_
  rintro r11 _ H11 ⟨rfl, hle11⟩
  have hL := Le.trans hL hle11; refine TL.move rfl rfl ?_; refine TL.call (pdq_none) ⟨rfl, rfl, rfl, rfl, rfl, trivial⟩ rfl ?_
  rintro _ _ H13 ⟨rfl, rfl, hle13⟩
  have hL := Le.trans hL hle13; refine TL.nil ?_; refine TQ.end0 0 rfl ?_
  exact ⟨rfl, rfl, hL⟩


end Go.Proofs.YteeamfkhkbfilaaGreat.K

namespace Go.Proofs.YteeamfkhkbfilaaGreat.K
open Go Go.RowKit Go.Proofs Go.MapKept Go.WideMaps

open Classical in
noncomputable def delH (H : Hp) (seg : Seg) : Hp := fun b => if b ∈ seg.map (·.1) then none else H b
theorem St.thaw {w0 w : World} {H : Hp} {seg : Seg} {own : List Seg} (h : St w0 H own w) (hz : ∀ p ∈ seg, H p.1 = some p.2) (hn : (seg.map (·.1)).Nodup) : St w0 (delH H seg) (seg :: own) w := by
  refine ⟨h.os, h.tape, h.output, fun b o hb => ?_, fun p hp => ?_, fun p hp => ?_, ?_⟩
  · unfold delH at hb
    split at hb
    · cases hb
    · exact h.imm b o hb
  · simp only [List.flatten_cons, List.mem_append] at hp
    rcases hp with hp | hp
    · exact h.imm _ _ (hz p hp)
    · exact h.own_at p hp
  · simp only [List.flatten_cons, List.mem_append] at hp
    unfold delH
    split
    · rfl
    · rename_i hne
      rcases hp with hp | hp
      · exact absurd (List.mem_map.2 ⟨p, hp, rfl⟩) hne
      · exact h.apart p hp
  · simp only [List.flatten_cons, List.map_append, List.nodup_append]
    refine ⟨hn, h.nodup, fun a ha b hb e => ?_⟩
    subst e
    obtain ⟨p, hp, rfl⟩ := List.mem_map.1 ha
    obtain ⟨q, hq, e⟩ := List.mem_map.1 hb
    have h1 := hz p hp
    have h2 := h.apart q hq
    rw [e, h1] at h2
    cases h2
theorem Le.del {H H' : Hp} {seg : Seg} (h : Le H H') (ha : ∀ p ∈ seg, H p.1 = none) : Le H (delH H' seg) := by
  intro b o hb
  unfold delH
  rw [if_neg]
  · exact h b o hb
  · intro hm
    obtain ⟨p, hp, rfl⟩ := List.mem_map.1 hm
    rw [ha p hp] at hb
    cases hb
theorem Fn.borrow {P : Program} {f : FuncId} {args : List Value} {w0 : World} {H : Hp} {own : List Seg} {seg : Seg} {ψ : Value → List Seg → Prop}
    (h : ∀ H1, Le H H1 → (∀ p ∈ seg, H1 p.1 = some p.2) → Fn P f args w0 H1 own (fun r own' H' => ψ r own' ∧ Le H1 H')) :
    Fn P f args w0 H (seg :: own) (fun r own' H' => ∃ o, own' = seg :: o ∧ ψ r o ∧ Le H H') := by
  intro w hw
  have hn := hw.nodup
  simp only [List.flatten_cons, List.map_append, List.nodup_append] at hn
  have hap : ∀ p ∈ seg, H p.1 = none := fun p hp => hw.apart p (by simp only [List.flatten_cons, List.mem_append]; exact .inl hp)
  obtain ⟨h1, h2, h3⟩ := hw.freeze
  refine (h _ h2 h3 w h1).mono ?_
  rintro e w' ⟨v, own', H', rfl, ⟨hp, hle⟩, hw'⟩
  have hz : ∀ p ∈ seg, H' p.1 = some p.2 := fun p hp => hle _ _ (h3 p hp)
  exact ⟨v, seg :: own', delH H' seg, rfl, ⟨own', rfl, hp, (h2.trans hle).del hap⟩, hw'.thaw hz hn.1⟩
/-- The key of an entry. -/
def ekey (e : MapEntry) : Key := (unkey e.key).getD (0, 0, 0)
theorem mapF_entry {l : List Fact} {P : Program} {k : TypeId} {o : Obj} {n : Nat} (ho : MapK P k o n (mapF l)) {e : MapEntry} (he : e ∈ entries o) : e.key = keyV (ekey e) ∧ ∃ t, look l (ekey e) = some t := by
  obtain ⟨_, _, h3, _⟩ := ho.entries
  have h4 := h3 e he
  unfold mapF at h4
  unfold ekey
  cases hu : unkey e.key with
  | none => rw [hu] at h4; cases h4
  | some q =>
    rw [hu] at h4
    refine ⟨unkey_some hu, ?_⟩
    show ∃ t, look l q = some t
    cases hl : look l q with
    | none => simp [hl] at h4
    | some t => exact ⟨t, rfl⟩
/-- All keys of the facts, each once. -/
def AllKeys (l : List Fact) (ks : List Key) : Prop := ks.Nodup ∧ ∀ k, k ∈ ks ↔ ∃ f ∈ l, f.key = k
theorem AllKeys.of {l : List Fact} {P : Program} {k : TypeId} {o : Obj} {n : Nat} (ho : MapK P k o n (mapF l)) {done : List MapEntry} (hn : done.Nodup) (hs : ∀ x ∈ done, x ∈ entries o) (ha : ∀ e ∈ entries o, e ∈ done) : AllKeys l (done.map ekey) := by
  obtain ⟨_, h2, h3, h4⟩ := ho.entries
  refine ⟨map_nodup hn fun x hx y hy he => ?_, fun q => ⟨fun hq => ?_, fun hq => ?_⟩⟩
  · have h5 := (mapF_entry ho (hs x hx)).1
    have h6 := (mapF_entry ho (hs y hy)).1
    exact key_inj h2 (hs x hx) (hs y hy) (by rw [h5, h6, he])
  · obtain ⟨e, he, rfl⟩ := List.mem_map.1 hq
    obtain ⟨t, ht⟩ := (mapF_entry ho (hs e he)).2
    obtain ⟨f, hf, h5, _⟩ := look_mem ht
    exact ⟨f, hf, h5⟩
  · obtain ⟨f, hf, rfl⟩ := hq
    have hne : look l f.key ≠ none := by
      intro hno
      have gen : ∀ {l : List Fact} {f : Fact}, f ∈ l → look l f.key ≠ none := by
        intro l
        induction l with
        | nil => intro f h; cases h
        | cons x r ih =>
          intro f h
          simp only [look]
          split
          · simp
          · rename_i hx
            rcases List.mem_cons.1 h with rfl | h
            · exact absurd rfl hx
            · exact ih h
      exact gen hf hno
    obtain ⟨e, he, hk⟩ := h4 (keyV f.key) (by rw [mapF_key]; cases h : look l f.key <;> simp_all)
    refine List.mem_map.2 ⟨e, ha e he, ?_⟩
    unfold ekey
    rw [hk]; rfl
theorem AllKeys.nil : AllKeys [] [] := ⟨List.nodup_nil, by simp⟩
theorem swap_flat {a b : Seg} {r : List Seg} : ((b :: a :: r).flatten).Perm ((a :: b :: r).flatten) := by
  simp only [List.flatten_cons, ← List.append_assoc]
  exact List.perm_append_comm.append_right _
/-- slices.AppendSeq of keys, from nothing. -/
theorem append_seq {gf : FuncId} [Callable Tryz.prog gf] {lb : List Value} {S : List Key → Prop} {w0 : World} {H : Hp} {own : List Seg} (hit : IterC Tryz.prog gf lb (fun k => [keyV k]) S (fun ks => ks.length ≤ 1000000000000) w0 H) :
    Fn Tryz.prog 129 [.slice none 0 0, .func (.func gf) #[] lb.toArray] w0 H own (fun r own' H' => ∃ ks seg, S ks ∧ Row 95 3 r ks.length (keysV ks) seg ∧ own' = seg :: own ∧ Le H H') := by
  refine Fn.enterX Tryz.func129 rfl Tryz.ntmps129 rfl ?_
  refine TCX.seq ?_; refine TCX.region ?_
  refine TLX.step rfl (TL.box (c := #[_]) rfl rfl rfl (fun g2 => TL.nil (TQX.go ?_)))
  refine TLX.step rfl (TL.assign rfl rfl (TL.nil (TQX.go ?_)))
  refine TLX.nil ?_; refine TQX.then_n ?_
  refine TCX.seq ?_; refine TCX.seq ?_; refine TCX.region ?_
  refine TLX.step rfl (TL.move rfl rfl (TL.nil (TQX.go ?_)))
  refine TLX.nil ?_; refine TQX.then_n ?_
  refine TCX.block ?_
  refine TCX.flat (own' := [] :: [(g2, .cells #[.slice none 0 0] 92 (0, 0))] :: own) (.refl _) ?_
  refine TCX.rangeFunc rfl hit (fun _ => rfl) rfl
    (fun pre own1 _ => ∃ u seg, Row 95 3 u pre.length (keysV pre) seg ∧ own1 = seg :: [(g2, .cells #[u] 92 (0, 0))] :: own) (fun _ _ _ _ => False) ?_ ?_ ?_ ?_
  · exact ⟨_, _, Row.nil _ 3, rfl⟩
  · rintro l D fn tmps mine pre k own1 H1 QB Kb hle1 ⟨u, seg, hrow, rfl⟩ hSp hRE hbody
    rw [List.length_append] at hSp
    simp only [List.length_cons, List.length_nil] at hSp
    refine TCX.region ?_
    refine TLX.step rfl (TL.new rfl (fun g5 => TL.nil (TQX.go ?_)))
    refine TLX.step rfl (TL.storeA 0 0 (c' := #[_, _, _]) (own' := [(_, .cells #[_, _, _] _ _)] :: _) rfl rfl rfl rfl rfl ⟨rfl, rfl, rfl, trivial⟩ (Nat.le_refl 3) rfl rfl rfl (TL.nil (TQX.go ?_)))
    refine TLX.nil ?_
    refine TQX.flat swap_flat ?_
    refine hbody _ _ _ ?_
    refine TCX.block ?_; refine TCX.region ?_
    refine TLX.step rfl (TL.load_own 3 0 rfl rfl rfl rfl rfl (TL.nil (TQX.go ?_)))
    refine TLX.step rfl (TL.load_ownA 1 0 [_, _, _] rfl rfl rfl ⟨rfl, rfl, rfl, trivial⟩ rfl rfl (TL.nil (TQX.go ?_)))
    refine TLX.step rfl (TL.litF (r := [_, _, _]) [(0, [_, _, _])] ⟨rfl, ⟨_, rfl, rfl⟩, trivial⟩ rfl rfl rfl rfl (fun g10 => TL.nil (TQX.go ?_)))
    refine TLX.step rfl (TL.append 3 rfl rfl rfl hrow (Src.ofOwn 0 0 rfl rfl rfl (Ones.all (show Ones [_, _, _] from ⟨by rfl, by rfl, by rfl, trivial⟩)) ⟨rfl, rfl, rfl, trivial⟩) (by omega) (by omega) rfl (fun v' seg' hrow' => TL.nil (TQX.go ?_)))
    refine TLX.step rfl (TL.store1 4 0 (c' := #[_]) (own' := _ :: _ :: _ :: _ :: [(_, .cells #[_] _ _)] :: _) rfl rfl rfl rfl hrow'.one (by simp) rfl rfl rfl (TL.nil (TQX.go ?_)))
    refine TLX.nil ?_
    refine TQX.in_n ?_
    refine TQX.ofQ ?_
    refine TQ.sel 5 [1, 3, 4] rfl (fun o ho => ?_)
    simp only [K.sel, List.map_cons, List.map_nil, List.getD_cons_zero, List.getD_cons_succ, List.drop_succ_cons, List.drop_zero, List.cons_append, List.nil_append, List.set_cons_zero, List.set_cons_succ] at ho; subst ho
    intro a w ha hw
    refine hRE.n a w (_ :: _ :: own) _ ⟨Le.refl _, _, _, ?_, rfl⟩ hw
    rw [show keysV (pre ++ [k]) = keysV pre ++ encK k by simp [keysV], List.length_append]
    exact hrow'
  · rintro l D r xs own1 H1 hle1 hS ⟨u, seg, hrow, rfl⟩
    refine TQX.in_n ?_
    refine TQX.then_n ?_
    refine TCX.seq ?_; refine TCX.region ?_
    refine TLX.step rfl (TL.load_own 2 0 rfl rfl rfl rfl rfl (TL.nil (TQX.go ?_)))
    refine TLX.step rfl (TL.assign rfl rfl (TL.nil (TQX.go ?_)))
    refine TLX.nil ?_; refine TQX.then_n ?_
    refine TCX.ret ?_
    refine TQX.flat (own' := loopSeg l D r :: [(g2, .cells #[u] 92 (0, 0))] :: seg :: own) ?_ ?_
    · exact List.Perm.append_left _ swap_flat
    exact TQX.ret1 1 rfl rfl rfl ⟨xs, seg, hS, hrow, rfl, hle1⟩
  · rintro l D r c pre own1 H1 _ _ hf
    exact hf.elim
theorem AllKeys.sorted {l : List Fact} (hg : Good l) {ks : List Key} (h : AllKeys l ks) (hs : SortedK ks) : ks = l.map Fact.key := by
  have uniq : ∀ {a b : List Key}, a.Pairwise (fun x y => kb x y = true) → b.Pairwise (fun x y => kb x y = true) → (∀ k, k ∈ a ↔ k ∈ b) → a = b := by
    intro a
    induction a with
    | nil =>
      intro b _ _ h
      exact (List.eq_nil_iff_forall_not_mem.2 fun x hx => by have := (h x).2 hx; cases this).symm
    | cons x r ih =>
      intro b ha hb h
      cases b with
      | nil => have := (h x).1 (by simp); cases this
      | cons y t =>
        rw [List.pairwise_cons] at ha hb
        have hxy : x = y := by
          rcases List.mem_cons.1 ((h x).1 (by simp)) with e | e
          · exact e
          · rcases List.mem_cons.1 ((h y).2 (by simp)) with e2 | e2
            · exact e2.symm
            · have h1 := hb.1 x e
              have h2 := ha.1 y e2
              rw [kb_asymm h1] at h2
              cases h2
        subst hxy
        congr 1
        refine ih ha.2 hb.2 fun k => ?_
        have h1 := h k
        simp only [List.mem_cons] at h1
        constructor
        · intro hk
          rcases h1.1 (.inr hk) with e | e
          · subst e; have := ha.1 k hk; rw [kb_irrefl] at this; cases this
          · exact e
        · intro hk
          rcases h1.2 (.inr hk) with e | e
          · subst e; have := hb.1 k hk; rw [kb_irrefl] at this; cases this
          · exact e
  refine uniq ?_ ?_ fun k => ?_
  · have h1 := h.1
    clear h
    induction ks with
    | nil => exact List.Pairwise.nil
    | cons x r ih =>
      unfold SortedK at hs
      rw [List.pairwise_cons] at hs
      rw [List.nodup_cons] at h1
      rw [List.pairwise_cons]
      refine ⟨fun y hy => ?_, ih hs.2 h1.2⟩
      have h2 := hs.1 y hy
      rcases kb_total (a := x) (b := y) (fun e => h1.1 (e ▸ hy)) with h3 | h3
      · exact h3
      · rw [h2] at h3; cases h3
  · rw [List.pairwise_map]; exact hg.1
  · rw [h.2 k, List.mem_map]
theorem AllKeys.perm {l : List Fact} {a b : List Key} (h : AllKeys l a) (hp : b.Perm a) : AllKeys l b := ⟨hp.nodup_iff.2 h.1, fun k => hp.mem_iff.trans (h.2 k)⟩
theorem AllKeys.len {l : List Fact} {ks : List Key} (h : AllKeys l ks) (hg : Good l) : ks.length = l.length := by
  have hnd : (l.map Fact.key).Nodup := by
    unfold List.Nodup
    rw [List.pairwise_map]
    exact hg.1.imp fun h e => by rw [e, kb_irrefl] at h; cases h
  have h1 := nodup_sub_len h.1 (b := l.map Fact.key) fun k hk => by obtain ⟨f, hf, e⟩ := (h.2 k).1 hk; exact List.mem_map.2 ⟨f, hf, e⟩
  have h2 := nodup_sub_len hnd (b := ks) fun k hk => by obtain ⟨f, hf, e⟩ := List.mem_map.1 hk; exact (h.2 k).2 ⟨f, hf, e⟩
  rw [List.length_map] at h1 h2
  omega
theorem cells_one {v : Value} (h : v.oneCell' = true) : v.cells = #[v] := by cases v <;> first | rfl | cases h
theorem Good.look {l : List Fact} (h : Good l) {f : Fact} (hf : f ∈ l) : look l f.key = some f.text := by
  have gen : ∀ {l : List Fact}, l.Pairwise (fun a b => kb a.key b.key = true) → f ∈ l → K.look l f.key = some f.text := by
    intro l
    induction l with
    | nil => intro _ h; cases h
    | cons x r ih =>
      intro hp h
      rw [List.pairwise_cons] at hp
      simp only [K.look]
      rcases List.mem_cons.1 h with rfl | h
      · rw [if_pos rfl]
      · rw [if_neg (fun e => by have := hp.1 f h; rw [e, kb_irrefl] at this; cases this)]
        exact ih hp.2 h
  exact gen h.1 hf
theorem Row.keyAt {e : TypeId} {A : Option Addr} {c : Nat} {l : List Key} {seg : Seg} (h : Row e 3 (.slice A l.length c) l.length (keysV l) seg) {k : Nat} {x : Key} (hx : l[k]? = some x) : ∃ g cur, A = some ⟨g, 0, none⟩ ∧ seg = [(g, .cells cur e (0, 0))] ∧ cAt cur (0 + k * 3) (encK x) := by
  have hk := (List.getElem?_eq_some_iff.1 hx).1
  rcases h.2 with ⟨_, h, _⟩ | ⟨g, cap, cur, e1, rfl, h1, h2, h3, h4⟩
  · omega
  · injection e1 with e1 e2 e3
    subst e1 e3
    refine ⟨g, cur, rfl, rfl, cAt_of fun j u hu => ?_⟩
    have hj : j < 3 := (List.getElem?_eq_some_iff.1 hu).1
    have h5 := keysV_get l (k * 3 + j) (by omega)
    rw [← h4, List.getElem?_take, if_pos (by omega), Array.getElem?_toList] at h5
    have e1 : (k * 3 + j) / 3 = k := by omega
    have e2 : (k * 3 + j) % 3 = j := by omega
    rw [e1, e2] at h5
    have e3 : l.toArray[k]! = x := by
      rw [List.getElem!_toArray]
      simp [List.getElem!_eq_getElem?_getD, hx]
    rw [e3] at h5
    rw [Nat.zero_add, h5]
    simp [List.getElem!_eq_getElem?_getD, hu]
end Go.Proofs.YteeamfkhkbfilaaGreat.K

namespace Go.Proofs.YteeamfkhkbfilaaGreat.K
open Go Go.RowKit Go.Proofs

theorem keys_iter {l : List Fact} {w0 : World} {HO : Hp} {ga go n : Nat} {o : Obj} (hn : n ≤ 1000000000000) (h1 : cel HO ga 0 = some (.map (some go))) (h3 : HO go = some o) (h4 : MapK Tryz.prog 95 o n (mapF l)) : IterC Tryz.prog 84 [.pointer (some ⟨ga, 0, none⟩)] (fun k : Key => [keyV k]) (AllKeys l) (fun ks => ks.length ≤ 1000000000000) w0 HO := by
  intro L J Jx own H hle0' hy hJ0
  replace h1 := cel_le hle0' h1
  replace h3 := imm_le hle0' h3
  have hen := h4.entries.1; refine Fn.enter Tryz.func84 rfl Tryz.ntmps84 rfl ?_; have hL := Le.refl H; refine TC.seq ?_; refine TC.region ?_; refine TL.load_imm rfl (h1) rfl ?_
  refine TL.rangeK rfl h3 h4 rfl ?_; intro r it hit; refine TL.nil ?_; refine TQ.then_n ?_; refine TC.block ?_; refine TC.loop (fun n env' own' H' => ∃ done it own1, n = (entries o).length - done.length ∧ IterK o go r done it ∧ J (done.map ekey) own1 H' ∧ env' = [(0, .func (.yield L) #[] #[]), (1, .pointer (some ⟨ga, 0, none⟩)), (5, .pointer (some ⟨r, 0, none⟩))] ∧ own' = it :: own1 ∧ Le H H') (entries o).length [(0, _), (1, _), (5, _)] ⟨rfl, rfl, rfl, trivial⟩ ⟨[], it, _, by simp, hit, hJ0, rfl, rfl, Le.refl _⟩ ?_
  rintro n _ _ H1 ⟨done, it, own1, rfl, hit, hJ, rfl, rfl, hle0⟩
  obtain ⟨hdn, hds⟩ := hit.nd
  have hL := Le.trans hL hle0; have h3 := imm_le hle0 h3; refine TC.seq ?_; refine TC.region ?_
  refine TL.nextK 0 rfl rfl hit h3 h4 rfl (fun hall => ?_) (fun e it2 he hno hit2 => ?_)
  ·
   have hfin := AllKeys.of h4 hdn hds hall; refine TL.extract rfl rfl rfl ?_; refine TL.nil ?_; refine TQ.then_n ?_; refine TC.seq ?_; refine TC.cond_f rfl ?_; refine TC.exit ?_; refine TQ.then_e ?_; refine TQ.then_e ?_; refine TQ.in_e ?_; refine TQ.end0 1 rfl ?_
   first
     | exact ⟨hL, .inl ⟨_, hfin, hJ⟩⟩
     | exact ⟨hL, .inr ⟨_, by show (done.map ekey ++ [ekey e]).length ≤ 1000000000000; rw [List.length_append, List.length_map]; simp only [List.length_append, List.length_cons, List.length_nil] at hdl2 ⊢; omega, hJ2⟩⟩
  ·
   have hke := (mapF_entry h4 he).1
   obtain ⟨hd2, hs2⟩ := hit2.nd
   have hdl := nodup_sub_len hdn hds; have hdl2 := nodup_sub_len hd2 hs2; refine TL.extract rfl rfl rfl ?_; refine TL.nil ?_; refine TQ.then_n ?_; refine TC.seq ?_; refine TC.cond_t rfl ?_; refine TC.skip ?_; refine TQ.then_n ?_; refine TC.block ?_; refine TC.seq ?_; refine TC.region ?_; refine TL.entryK 0 rfl rfl hit2 h3 h4 rfl ?_
   rw [hke]
   refine TL.extract rfl rfl rfl ?_
   refine TL.new rfl ?_; intro g3; refine TL.storeA 0 0 (c' := #[_, _, _]) (own' := [(_, .cells #[_, _, _] _ _)] :: _) rfl rfl rfl rfl rfl ⟨rfl, rfl, rfl, trivial⟩ (by simp) rfl rfl rfl ?_; refine TL.nil ?_; refine TQ.then_n ?_; refine TC.seq ?_; refine TC.ofX ?_; refine TCX.region ?_
   refine TLX.step rfl (TL.move rfl rfl (TL.nil (TQX.go ?_)))
   refine TLX.step rfl (TL.load_ownA 0 0 [_, _, _] rfl rfl rfl ⟨rfl, rfl, rfl, trivial⟩ rfl rfl (TL.nil (TQX.go ?_)))
   refine TLX.yield (xs := [_]) (vs := [keyV (ekey e)]) [_, _] own1 rfl ⟨rfl, trivial⟩ rfl (hy (done.map ekey) (ekey e) own1 _ hL hJ (by show (done.map ekey ++ [ekey e]).length ≤ 1000000000000; rw [List.length_append, List.length_map]; simp only [List.length_append, List.length_cons, List.length_nil] at hdl2 ⊢; omega)) rfl ?_
   rintro _ own2 H2 ⟨hle2, ⟨rfl, hJ2⟩ | ⟨rfl, hJ2⟩⟩
   ·
    refine TLX.step rfl (TL.not rfl rfl (TL.nil (TQX.go ?_)))
    refine TLX.nil ?_; refine TQX.ofQ ?_; have hL := Le.trans hL hle2; have h3 := imm_le hle2 h3; have hle0 := Le.trans hle0 hle2; refine TQ.then_n ?_; refine TC.cond_f rfl ?_; refine TC.skip ?_; refine TQ.in_n ?_
    refine TQ.sel 2 [1] rfl (fun o ho => ?_)
    simp only [K.sel, List.map_cons, List.map_nil, List.getD_cons_zero, List.getD_cons_succ, List.drop_succ_cons, List.drop_zero, List.cons_append, List.nil_append, List.set_cons_zero, List.set_cons_succ] at ho; subst ho
    refine TQ.next ((entries o).length - (done ++ [e]).length) [(0, _), (1, _), (5, _)] (by simp only [List.length_append, List.length_cons, List.length_nil] at hdl2 ⊢; omega) ⟨rfl, rfl, rfl, trivial⟩ ⟨done ++ [e], _, _, rfl, hit2, by rw [List.map_append]; exact hJ2, rfl, rfl, hle0⟩
   ·
    refine TLX.step rfl (TL.not rfl rfl (TL.nil (TQX.go ?_)))
    refine TLX.nil ?_; refine TQX.ofQ ?_; have hL := Le.trans hL hle2; have h3 := imm_le hle2 h3; refine TQ.then_n ?_; refine TC.cond_t rfl ?_; refine TC.ret ?_; refine TQ.in_r ?_; refine TQ.then_r ?_; refine TQ.in_r ?_; refine TQ.ret0 2 rfl ?_
    first
      | exact ⟨hL, .inl ⟨_, hfin, hJ⟩⟩
      | exact ⟨hL, .inr ⟨_, by show (done.map ekey ++ [ekey e]).length ≤ 1000000000000; rw [List.length_append, List.length_map]; simp only [List.length_append, List.length_cons, List.length_nil] at hdl2 ⊢; omega, hJ2⟩⟩
theorem keys_iter0 {w0 : World} {HO : Hp} {ga : Nat} (h1 : cel HO ga 0 = some (.map none)) : IterC Tryz.prog 84 [.pointer (some ⟨ga, 0, none⟩)] (fun k : Key => [keyV k]) (AllKeys []) (fun ks => ks.length ≤ 1000000000000) w0 HO := by
  intro L J Jx own H hle0' hy hJ0
  replace h1 := cel_le hle0' h1
  refine Fn.enter Tryz.func84 rfl Tryz.ntmps84 rfl ?_; have hL := Le.refl H; refine TC.seq ?_; refine TC.region ?_; refine TL.load_imm rfl (h1) rfl ?_
  refine TL.rangeNilK rfl rfl ?_; intro r; refine TL.nil ?_; refine TQ.then_n ?_; refine TC.block ?_; refine TC.loop (fun n env' own' H' => env' = [(0, .func (.yield L) #[] #[]), (1, .pointer (some ⟨ga, 0, none⟩)), (5, .pointer (some ⟨r, 0, none⟩))] ∧ own' = [(r, .mapIter none 0 #[] 0)] :: own ∧ H' = H) 0 [(0, _), (1, _), (5, _)] ⟨rfl, rfl, rfl, trivial⟩ ⟨rfl, rfl, rfl⟩ ?_
  rintro n _ _ _ ⟨rfl, rfl, rfl⟩
  refine TC.seq ?_; refine TC.region ?_; refine TL.nextNilK 0 rfl rfl rfl ?_; refine TL.extract rfl rfl rfl ?_; refine TL.nil ?_; refine TQ.then_n ?_; refine TC.seq ?_; refine TC.cond_f rfl ?_; refine TC.exit ?_; refine TQ.then_e ?_; refine TQ.then_e ?_; refine TQ.in_e ?_; refine TQ.end0 1 rfl ?_
  exact ⟨hL, .inl ⟨_, AllKeys.nil, hJ0⟩⟩
theorem maps_Keys {w0 : World} {H : Hp} {own : List Seg} {fm : Value} (hf : fm.oneCell' = true) :
    Fn Tryz.prog 36 [fm] w0 H own (fun r own' H' => ∃ g, r = .func (.func 84) #[] #[.pointer (some ⟨g, 0, none⟩)] ∧ own' = [(g, .cells #[fm] 33 (0, 0))] :: own ∧ Le H H') := by
  refine Fn.enter Tryz.func36 rfl Tryz.ntmps36 rfl ?_; have hL := Le.refl H; refine TC.seq ?_; refine TC.region ?_
  refine TL.box (c := #[_]) rfl (cells_one hf) rfl ?_; intro g1; refine TL.assign rfl rfl ?_; refine TL.nsr ?_; refine TL.makeFunc (vs := []) (us := [_]) trivial ⟨rfl, trivial⟩ rfl ?_; refine TL.assign rfl rfl ?_; refine TL.nil ?_; refine TQ.then_n ?_; refine TC.ret ?_; refine TQ.ret1 0 rfl rfl ?_
  exact ⟨_, rfl, rfl, hL⟩
theorem collect_keys {w0 : World} {H : Hp} {own : List Seg} {gf : FuncId} [Callable Tryz.prog gf] {lb : List Value} {S : List Key → Prop} (hit : IterC Tryz.prog gf lb (fun k => [keyV k]) S (fun ks => ks.length ≤ 1000000000000) w0 H) :
    Fn Tryz.prog 82 [.func (.func gf) #[] lb.toArray] w0 H own (fun r own' H' => ∃ ks seg, S ks ∧ Row 95 3 r ks.length (keysV ks) seg ∧ own' = seg :: own ∧ Le H H') := by
  refine Fn.enter Tryz.func82 rfl Tryz.ntmps82 rfl ?_; have hL := Le.refl H; refine TC.seq ?_; refine TC.region ?_; refine TL.assign rfl rfl ?_; refine TL.nsr ?_; refine TL.move rfl rfl ?_; refine TL.call (append_seq hit) ⟨rfl, rfl, trivial⟩ rfl ?_
  rintro r4 _ H4 ⟨ks, seg, hS, hrow, rfl, hle4⟩
  have hL := Le.trans hL hle4; refine TL.assign rfl rfl ?_; refine TL.nil ?_; refine TQ.then_n ?_; refine TC.ret ?_; refine TQ.ret1 0 rfl rfl ?_
  exact ⟨_, _, hS, hrow, rfl, hL⟩
theorem sorted_keys {l : List Fact} (hg : Good l) (hlen : l.length ≤ 1000000000000) {w0 : World} {H : Hp} {own : List Seg} {gf : FuncId} [Callable Tryz.prog gf] {lb : List Value} (hit : IterC Tryz.prog gf lb (fun k => [keyV k]) (AllKeys l) (fun ks => ks.length ≤ 1000000000000) w0 H) :
    Fn Tryz.prog 35 [.func (.func gf) #[] lb.toArray, .func (.func 37) #[] #[]] w0 H own (fun r own' H' => (∃ seg, own' = seg :: own ∧ Row 95 3 r l.length (keysV (l.map Fact.key)) seg) ∧ Le H H') := by
  refine Fn.enter Tryz.func35 rfl Tryz.ntmps35 rfl ?_; have hL := Le.refl H; refine TC.seq ?_; refine TC.region ?_; refine TL.assign rfl rfl ?_; refine TL.nsr ?_; refine TL.move rfl rfl ?_; refine TL.call (collect_keys hit) ⟨rfl, trivial⟩ rfl ?_
  rintro r7 _ H7 ⟨ks, seg, hS, hrow, rfl, hle7⟩
  have hkl : ks.length = l.length := hS.len hg
  have hL := Le.trans hL hle7; refine TL.assign rfl rfl ?_; refine TL.nil ?_; refine TQ.then_n ?_; refine TC.seq ?_
  by_cases hne : ks = []
  ·
   subst hne
   obtain ⟨A, c, rfl, _, _⟩ := hrow.sl
   obtain rfl : l = [] := List.length_eq_zero_iff.1 (by simpa using hkl.symm)
   refine TC.region ?_; refine TL.move rfl rfl ?_; refine TL.move rfl rfl ?_; refine TL.call (sort_none) ⟨rfl, rfl, trivial⟩ rfl ?_
   rintro _ _ H10 ⟨rfl, rfl, hle10⟩
   have hL := Le.trans hL hle10; refine TL.nsr ?_; refine TL.move rfl rfl ?_; refine TL.assign rfl rfl ?_; refine TL.nil ?_; refine TQ.then_n ?_; refine TC.ret ?_; refine TQ.ret1 0 rfl rfl ?_
   first
     | exact ⟨⟨_, rfl, hrow⟩, hL⟩
     | exact ⟨⟨_, rfl, by rw [List.length_map] at hrow2; exact hrow2⟩, hL⟩
  ·
   refine TC.region ?_; refine TL.move rfl rfl ?_; refine TL.move rfl rfl ?_; refine TL.call (keys_sort hne (by omega) hrow) ⟨rfl, rfl, trivial⟩ rfl ?_
   rintro _ _ H10 ⟨ks2, seg2, rfl, rfl, hrow2, hperm, hsd, hle10⟩
   obtain rfl : ks2 = l.map Fact.key := AllKeys.sorted hg (hS.perm hperm) hsd
   have hL := Le.trans hL hle10; refine TL.nsr ?_; refine TL.move rfl rfl ?_; refine TL.assign rfl rfl ?_; refine TL.nil ?_; refine TQ.then_n ?_; refine TC.ret ?_; refine TQ.ret1 0 rfl rfl ?_
   first
     | exact ⟨⟨_, rfl, hrow⟩, hL⟩
     | exact ⟨⟨_, rfl, by rw [List.length_map] at hrow2; exact hrow2⟩, hL⟩
theorem proj_Facts {l : List Fact} (hlo : LOk l) {m : Nat} (hm : m ≤ 1000000000000) {w0 : World} {H : Hp} {own : List Seg} {gp : Nat} {fm nv uv lv : Value} {sm : Seg} (hp : PMap l m fm sm) :
    Fn Tryz.prog 15 [.pointer (some ⟨gp, 0, none⟩)] w0 H ([(gp, .cells #[fm, nv, uv, lv] 37 (0, 0))] :: sm :: own) (fun r own' H' => ∃ seg, Row 60 4 r l.length (factsV l) seg ∧ own' = seg :: [(gp, .cells #[fm, nv, uv, lv] 37 (0, 0))] :: sm :: own ∧ Le H H') := by
  have hlen := hlo.len; refine Fn.enter Tryz.func15 rfl Tryz.ntmps15 rfl ?_; have hL := Le.refl H; refine TC.seq ?_; refine TC.region ?_; refine TL.assign rfl rfl ?_; refine TL.nil ?_; refine TQ.then_n ?_; refine TC.seq ?_; refine TC.seq ?_; refine TC.region ?_; refine TL.move rfl rfl ?_; refine TL.eqlP rfl rfl rfl ?_; refine TL.nil ?_; refine TQ.then_n ?_; refine TC.cond_f rfl ?_; refine TC.skip ?_; refine TQ.nsr ?_; refine TL.assign rfl rfl ?_; refine TL.nil ?_; refine TQ.then_n ?_; refine TC.seq ?_; refine TC.seq ?_; refine TC.nilseg ?_
  rcases hp with ⟨rfl, rfl, rfl⟩ | ⟨gm, om, nm, rfl, rfl, hmk, hnm⟩
  ·
   refine TC.region ?_; refine TL.move rfl rfl ?_; refine TL.nilCheck rfl rfl ?_; refine TL.fieldAddr rfl rfl ?_; refine TL.load_own 1 0 rfl rfl rfl rfl rfl ?_; refine TL.call (maps_Keys rfl) ⟨rfl, trivial⟩ rfl ?_
   rintro _ _ H12 ⟨g12, rfl, rfl, hle12⟩
   have hL := Le.trans hL hle12
   refine TL.freeze (fun H1 hle hz_g12 => ?_)
   have hL := Le.trans hL hle
   refine TL.sel 3 [2, 0, 1] rfl (fun o ho => ?_)
   simp only [K.sel, List.map_cons, List.map_nil, List.getD_cons_zero, List.getD_cons_succ, List.drop_succ_cons, List.drop_zero, List.cons_append, List.nil_append, List.set_cons_zero, List.set_cons_succ] at ho; subst ho
   refine TL.call ((Fn.borrow fun H1 hl1 hz1 => sorted_keys hlo.good hlo.len (lb := [.pointer (some ⟨g12, 0, none⟩)]) (keys_iter0 (cel_le hl1 (cel_one hz_g12))))) ⟨rfl, rfl, trivial⟩ rfl ?_
   rintro r13 _ H13 ⟨o13, rfl, ⟨seg13, rfl, hrk⟩, hle13⟩
   obtain ⟨A, c, rfl, hc1, hc2⟩ := hrk.sl
   have hL := Le.trans hL hle13; refine TL.len_slice rfl rfl ?_; refine TL.move rfl rfl ?_; refine TL.nil ?_; refine TQ.then_n ?_; refine TC.block ?_; refine TC.loop (fun n env' own' H' => ∃ i u row, n = ([] : List Fact).length - i ∧ i ≤ ([] : List Fact).length ∧ Row 60 4 u i (factsV (([] : List Fact).take i)) row ∧ env' = [(0, .pointer (some ⟨gp, 0, none⟩)), (3, u), (13, .slice A ([] : List Fact).length c), (14, .int .i64 (([] : List Fact).length : Int)), (15, .int .i64 (i : Int))] ∧ own' = [] :: seg13 :: row :: [(gp, .cells #[.map none, nv, uv, lv] 37 (0, 0))] :: own ∧ Le H13 H') ([] : List Fact).length [(0, _), (3, _), (13, _), (14, _), (15, _)] ⟨rfl, rfl, rfl, rfl, rfl, trivial⟩ ⟨0, _, [], by omega, by omega, Row.nil _ 4, rfl, rfl, Le.refl _⟩ ?_
   rintro n _ _ H5 ⟨i, u, row, rfl, hi1, hrow, rfl, rfl, hle0⟩
   have hL := Le.trans hL hle0; refine TC.seq ?_; refine TC.region ?_
   refine TL.lssB rfl rfl rfl (fun hlt => ?_) (fun hlt => ?_)
   ·
    exact absurd hlt (by simp only [List.length_nil] at *; omega) -- dead
   ·
    refine TL.nil ?_; refine TQ.then_n ?_; refine TC.seq ?_; refine TC.cond_f rfl ?_; refine TC.exit ?_; refine TQ.then_e ?_; refine TQ.then_e ?_; refine TQ.in_e ?_; refine TQ.nsr ?_; refine TL.move rfl rfl ?_; refine TL.assign rfl rfl ?_; refine TL.nil ?_; refine TQ.then_n ?_; refine TC.ret ?_
    refine TQ.sel 4 [2, 3, 0] rfl (fun o ho => ?_)
    simp only [K.sel, List.map_cons, List.map_nil, List.getD_cons_zero, List.getD_cons_succ, List.drop_succ_cons, List.drop_zero, List.cons_append, List.nil_append, List.set_cons_zero, List.set_cons_succ] at ho; subst ho
    refine TQ.ret1 0 rfl rfl ?_
    first
      | (obtain rfl : i = l.length := by omega
         rw [List.take_length] at hrow
         exact ⟨_, hrow, rfl, hL⟩)
      | (obtain rfl : i = 0 := by simp only [List.length_nil] at *; omega
         exact ⟨_, hrow, rfl, hL⟩)
  ·
   refine TC.region ?_; refine TL.move rfl rfl ?_; refine TL.nilCheck rfl rfl ?_; refine TL.fieldAddr rfl rfl ?_; refine TL.load_own 1 0 rfl rfl rfl rfl rfl ?_; refine TL.call (maps_Keys rfl) ⟨rfl, trivial⟩ rfl ?_
   rintro _ _ H12 ⟨g12, rfl, rfl, hle12⟩
   have hL := Le.trans hL hle12
   refine TL.freeze (fun H2 hle hz_g12 => ?_)
   have hL := Le.trans hL hle
   refine TL.sel 3 [2, 0, 1] rfl (fun o ho => ?_)
   simp only [K.sel, List.map_cons, List.map_nil, List.getD_cons_zero, List.getD_cons_succ, List.drop_succ_cons, List.drop_zero, List.cons_append, List.nil_append, List.set_cons_zero, List.set_cons_succ] at ho; subst ho
   refine TL.call ((Fn.borrow fun H1 hl1 hz1 => sorted_keys hlo.good hlo.len (lb := [.pointer (some ⟨g12, 0, none⟩)]) (keys_iter (by omega) (cel_le hl1 (cel_one hz_g12)) (hz1 _ List.mem_cons_self) hmk))) ⟨rfl, rfl, trivial⟩ rfl ?_
   rintro r13 _ H13 ⟨o13, rfl, ⟨seg13, rfl, hrk⟩, hle13⟩
   obtain ⟨A, c, rfl, hc1, hc2⟩ := hrk.sl
   have hL := Le.trans hL hle13; refine TL.len_slice rfl rfl ?_; refine TL.move rfl rfl ?_; refine TL.nil ?_; refine TQ.then_n ?_; refine TC.block ?_; refine TC.loop (fun n env' own' H' => ∃ i u row, n = l.length - i ∧ i ≤ l.length ∧ Row 60 4 u i (factsV (l.take i)) row ∧ env' = [(0, .pointer (some ⟨gp, 0, none⟩)), (3, u), (13, .slice A l.length c), (14, .int .i64 (l.length : Int)), (15, .int .i64 (i : Int))] ∧ own' = [(gm, om)] :: seg13 :: row :: [(gp, .cells #[.map (some gm), nv, uv, lv] 37 (0, 0))] :: own ∧ Le H13 H') l.length [(0, _), (3, _), (13, _), (14, _), (15, _)] ⟨rfl, rfl, rfl, rfl, rfl, trivial⟩ ⟨0, _, [], by omega, by omega, Row.nil _ 4, rfl, rfl, Le.refl _⟩ ?_
   rintro n _ _ H5 ⟨i, u, row, rfl, hi1, hrow, rfl, rfl, hle0⟩
   have hL := Le.trans hL hle0; refine TC.seq ?_; refine TC.region ?_
   refine TL.lssB rfl rfl rfl (fun hlt => ?_) (fun hlt => ?_)
   ·
    obtain ⟨x, hx⟩ : ∃ x, l[i]? = some x := ⟨_, List.getElem?_eq_getElem (by omega)⟩
    have hx1 := hlo.fok x (List.mem_of_getElem? hx)
    obtain ⟨kl, hkl⟩ := keyOk hx1
    have hlk := hlo.good.look (List.mem_of_getElem? hx)
    have hrk2 : Row 95 3 (.slice A (l.map Fact.key).length c) (l.map Fact.key).length (keysV (l.map Fact.key)) seg13 := by rw [List.length_map]; exact hrk
    obtain ⟨gk, curk, rfl, rfl, hck⟩ := hrk2.keyAt (k := i) (x := x.key) (by simp [hx])
    refine TL.nil ?_; refine TQ.then_n ?_; refine TC.seq ?_; refine TC.cond_t rfl ?_; refine TC.skip ?_; refine TQ.then_n ?_; refine TC.seq ?_; refine TC.block ?_; refine TC.seq ?_; refine TC.region ?_; refine TL.indexAddr (i) rfl rfl rfl (by omega) rfl ?_; refine TL.load_ownA 1 0 [_, _, _] rfl rfl rfl hck rfl rfl ?_
    refine TL.new rfl ?_; intro g5; refine TL.storeA 0 0 (c' := #[_, _, _]) (own' := [(_, .cells #[_, _, _] _ _)] :: _) rfl rfl rfl rfl rfl ⟨rfl, rfl, rfl, trivial⟩ (Nat.le_refl 3) rfl rfl rfl ?_; refine TL.nil ?_; refine TQ.then_n ?_; refine TC.drawQV 13  [(0, _), (3, _), (13, _), (14, _), (15, _), (5, _)] follows_mixed ⟨rfl, rfl, rfl, rfl, rfl, rfl, trivial⟩ ?_; refine ChainV.q (some 19) [] (fun _ _ _ _ hF => TL.move rfl rfl (TL.one hF)) ?_; refine ChainV.q (some 20) [] (fun _ _ _ _ hF => TL.fieldAddr rfl rfl (TL.one hF)) ?_
    refine ChainV.q (some 21) [(1, 0)] (by
     intro H' X F hle; have hL := Le.trans hL hle; intro hF; refine TL.load_own 0 0 rfl rfl rfl rfl rfl ?_
     exact TL.one hF) ?_
    refine ChainV.q (some 22) [] (fun _ _ _ _ hF => TL.fieldAddr rfl rfl (TL.one hF)) ?_
    refine ChainV.q (some 23) [(3, 0)] (by
     intro H' X F hle; have hL := Le.trans hL hle; intro hF; refine TL.load_ownA 0 0 [_, _] rfl rfl rfl ⟨rfl, rfl, trivial⟩ rfl rfl ?_
     exact TL.one hF) ?_
    refine ChainV.q (some 24) [] (fun _ _ _ _ hF => TL.move rfl rfl (TL.one hF)) ?_; refine ChainV.q (some 25) [(5, 0)] (fun _ _ _ _ hF => TL.nilCheck rfl rfl (TL.one hF)) ?_; refine ChainV.q (some 26) [(6, 0)] (fun _ _ _ _ hF => TL.fieldAddr rfl rfl (TL.one hF)) ?_
    refine ChainV.q (some 27) [(7, 0)] (by
     intro H' X F hle; have hL := Le.trans hL hle; intro hF; refine TL.load_own 4 0 rfl rfl rfl rfl rfl ?_
     exact TL.one hF) ?_
    refine ChainV.q (some 28) [] (by
     intro H' X F hle; have hL := Le.trans hL hle; intro hF; refine TL.load_ownA 0 0 [_, _, _] rfl rfl rfl ⟨rfl, rfl, rfl, trivial⟩ rfl rfl ?_
     exact TL.one hF) ?_
    refine ChainV.q (some 29) [(8, 1), (9, 0)] (by
     intro H' X F hle; have hL := Le.trans hL hle; intro hF; refine TL.lookK (key := keyV x.key) 1 0 rfl rfl rfl rfl KKY hmk hkl zstr rfl ?_
     rw [show (if false = true then Value.tuple #[(mapF l (keyV x.key)).getD (.string ⟨#[]⟩), .bool (mapF l (keyV x.key)).isSome] else (mapF l (keyV x.key)).getD (.string ⟨#[]⟩)) = .string x.text by rw [mapF_key, hlk]; rfl]
     exact TL.one hF) ?_
    refine ChainV.q (some 30) [(2, 8), (4, 6), (10, 0)] (by
     intro H' X F hle; have hL := Le.trans hL hle; intro hF; refine TL.struct [(0, [_]), (1, [_, _]), (2, [_])] ⟨rfl, ⟨_, rfl, rfl⟩, rfl, ⟨_, rfl, rfl⟩, rfl, ⟨_, rfl, rfl⟩, trivial⟩ rfl rfl ?_
     exact TL.one hF) ?_
    refine ChainV.r (some 31) [(11, 0)] ([]) (fun _ => fun u s H => ∃ g, u = .slice (some ⟨g, 0, none⟩) 1 1 ∧ s = [[(g, .cells #[.int .i64 x.kind, .int .i64 x.bank, .int .u16 x.addr, .string x.text] 60 (0, 0))]]) (by
     intro H' X F hle; have hL := Le.trans hL hle; intro hF
     refine TL.litF (r := [_, _, _, _]) [(0, [_, _, _, _])] ⟨rfl, ⟨_, rfl, rfl⟩, trivial⟩ rfl rfl rfl rfl ?_; intro g31; refine TL.nil ?_
     exact TQ.one [_] hF (Le.refl _) ⟨_, rfl, rfl⟩) ?_
    refine ⟨by kernel_rfl, .refl _, ?_⟩
    ·
     intro H3 hle
     rintro _ _ Hr hler ⟨g31, rfl, rfl⟩
     have hL := Le.trans hL hle; have hle0 := Le.trans hle0 hle; refine TL.toOwn (own' := _ :: _ :: _ :: _ :: _ :: _ :: own) rfl ?_; refine TL.wk (env' := [(0, _), (3, _), (13, _), (14, _), (15, _), (5, _), (19, _), (31, _)]) ⟨rfl, rfl, rfl, rfl, rfl, rfl, rfl, rfl, trivial⟩ ?_; refine TL.append 4 rfl rfl rfl hrow (Src.ofOwn 0 0 rfl rfl rfl (Ones.all (show Ones [_, _, _, _] from ⟨by rfl, by rfl, by rfl, by rfl, trivial⟩)) ⟨rfl, rfl, rfl, rfl, trivial⟩) (by omega) (by omega) rfl ?_; intro v1 seg1 hrow1
     have hrow2 : Row 60 4 v1 (i + 1) (factsV (l.take (i + 1))) seg1 := by rw [take_succ hx, factsV_snoc]; exact hrow1
     refine TL.assign rfl rfl ?_; refine TL.nil ?_; refine TQ.in_n ?_; refine TQ.then_n ?_; refine TC.region ?_; refine TL.add rfl rfl rfl ⟨by omega, by omega⟩ ?_; refine TL.move rfl rfl ?_; refine TL.nil ?_
     refine TQ.sel 6 [2, 3, 4, 5] rfl (fun o ho => ?_)
     simp only [K.sel, List.map_cons, List.map_nil, List.getD_cons_zero, List.getD_cons_succ, List.drop_succ_cons, List.drop_zero, List.cons_append, List.nil_append, List.set_cons_zero, List.set_cons_succ] at ho; subst ho
     refine TQ.next (l.length - (i + 1)) [(0, _), (3, _), (13, _), (14, _), (15, _)] (by omega) ⟨rfl, rfl, rfl, rfl, rfl, trivial⟩ ⟨i + 1, _, _, rfl, by omega, hrow2, rfl, rfl, hle0⟩
   ·
    refine TL.nil ?_; refine TQ.then_n ?_; refine TC.seq ?_; refine TC.cond_f rfl ?_; refine TC.exit ?_; refine TQ.then_e ?_; refine TQ.then_e ?_; refine TQ.in_e ?_; refine TQ.nsr ?_; refine TL.move rfl rfl ?_; refine TL.assign rfl rfl ?_; refine TL.nil ?_; refine TQ.then_n ?_; refine TC.ret ?_
    refine TQ.sel 4 [2, 3, 0] rfl (fun o ho => ?_)
    simp only [K.sel, List.map_cons, List.map_nil, List.getD_cons_zero, List.getD_cons_succ, List.drop_succ_cons, List.drop_zero, List.cons_append, List.nil_append, List.set_cons_zero, List.set_cons_succ] at ho; subst ho
    refine TQ.ret1 0 rfl rfl ?_
    first
      | (obtain rfl : i = l.length := by omega
         rw [List.take_length] at hrow
         exact ⟨_, hrow, rfl, hL⟩)
      | (obtain rfl : i = 0 := by simp only [List.length_nil] at *; omega
         exact ⟨_, hrow, rfl, hL⟩)


end Go.Proofs.YteeamfkhkbfilaaGreat.K

namespace Go.Proofs.YteeamfkhkbfilaaGreat.K
open Go Go.RowKit Go.Proofs

/-- The first fact of a payload, and the rest. -/
def pstep (s : ByteArray) : Option (Fact × ByteArray) := match s.data.toList with
  | b0 :: b1 :: b2 :: b3 :: b4 :: _ => if s.size < 5 + b4.toNat then none else some (⟨(b0.toNat : Int), if (b1.toNat : Int) = 255 then -1 else (b1.toNat : Int), (b2.toNat : Int) + 256 * (b3.toNat : Int), s.extract 5 (5 + b4.toNat)⟩, s.extract (5 + b4.toNat) s.size)
  | _ => none
theorem size_list (s : ByteArray) : s.data.toList.length = s.size := rfl
theorem five {s : ByteArray} (h : ¬ s.size < 5) : ∃ b0 b1 b2 b3 b4 r, s.data.toList = b0 :: b1 :: b2 :: b3 :: b4 :: r := by
  have hl := size_list s
  match h2 : s.data.toList with
  | [] => rw [h2] at hl; simp at hl; omega
  | [_] => rw [h2] at hl; simp at hl; omega
  | [_, _] => rw [h2] at hl; simp at hl; omega
  | [_, _, _] => rw [h2] at hl; simp at hl; omega
  | [_, _, _, _] => rw [h2] at hl; simp at hl; omega
  | b0 :: b1 :: b2 :: b3 :: b4 :: r => exact ⟨b0, b1, b2, b3, b4, r, rfl⟩
theorem pstep_short {s : ByteArray} (h : s.size < 5) : pstep s = none := by
  unfold pstep
  split
  · rename_i h2
    have := size_list s
    rw [h2] at this
    simp at this
    omega
  · rfl
theorem pstep_of {s : ByteArray} {b0 b1 b2 b3 b4 : UInt8} {r : List UInt8} (h : s.data.toList = b0 :: b1 :: b2 :: b3 :: b4 :: r) : pstep s = if s.size < 5 + b4.toNat then none else some (⟨(b0.toNat : Int), if (b1.toNat : Int) = 255 then -1 else (b1.toNat : Int), (b2.toNat : Int) + 256 * (b3.toNat : Int), s.extract 5 (5 + b4.toNat)⟩, s.extract (5 + b4.toNat) s.size) := by
  unfold pstep
  rw [h]
theorem pstep_rest {s r : ByteArray} {f : Fact} (h : pstep s = some (f, r)) : r.size + 5 ≤ s.size ∧ FOk f := by
  by_cases h5 : s.size < 5
  · rw [pstep_short h5] at h; cases h
  · obtain ⟨b0, b1, b2, b3, b4, t, hl⟩ := five h5
    rw [pstep_of hl] at h
    split at h
    · cases h
    · rename_i hs
      injection h with h
      injection h with h1 h2
      subst h1 h2
      have c0 := b0.toNat_lt
      have c1 := b1.toNat_lt
      have c2 := b2.toNat_lt
      have c3 := b3.toNat_lt
      have c4 := b4.toNat_lt
      refine ⟨by rw [ext_size _ _ _ (Nat.le_refl _)]; omega, ⟨?_, ?_⟩, ⟨?_, ?_⟩, ⟨?_, ?_⟩, ?_⟩
      · show _ ≤ (b0.toNat : Int); omega
      · show (b0.toNat : Int) ≤ _; omega
      · show _ ≤ (if (b1.toNat : Int) = 255 then (-1 : Int) else (b1.toNat : Int)); split <;> omega
      · show (if (b1.toNat : Int) = 255 then (-1 : Int) else (b1.toNat : Int)) ≤ _; split <;> omega
      · show 0 ≤ (b2.toNat : Int) + 256 * (b3.toNat : Int); omega
      · show (b2.toNat : Int) + 256 * (b3.toNat : Int) ≤ _; omega
      · show (s.extract 5 (5 + b4.toNat)).size ≤ _
        rw [ext_size _ _ _ (by omega)]; omega
/-- All facts of a payload. -/
def pAll (s : ByteArray) : Option (List Fact) :=
  if s.size = 0 then some [] else match h : pstep s with
    | none => none
    | some (f, r) => (pAll r).map (f :: ·)
termination_by s.size
decreasing_by have := (pstep_rest h).1; omega
theorem pAll_nil {s : ByteArray} (h : s.size = 0) : pAll s = some [] := by rw [pAll, if_pos h]
theorem pAll_none {s : ByteArray} (h : s.size ≠ 0) (hp : pstep s = none) : pAll s = none := by
  rw [pAll, if_neg h]
  split
  · rfl
  · rename_i h2; rw [hp] at h2; cases h2
theorem pAll_some {s r : ByteArray} {f : Fact} (h : s.size ≠ 0) (hp : pstep s = some (f, r)) : pAll s = (pAll r).map (f :: ·) := by
  rw [pAll, if_neg h]
  split
  · rename_i h2; rw [hp] at h2; cases h2
  · rename_i f' r' h2; rw [hp] at h2; cases h2; rfl
theorem pAll_step {s r : ByteArray} {f : Fact} {out : List Fact} (h : s.size ≠ 0) (hp : pstep s = some (f, r)) : (pAll s).map (out ++ ·) = (pAll r).map ((out ++ [f]) ++ ·) := by
  rw [pAll_some h hp]
  cases pAll r <;> simp
/-- A record. -/
structure Ent where
  kind : UInt8
  num : Int
  pay : ByteArray
abbrev from_ (s : ByteArray) (i : Nat) : ByteArray := s.extract i s.size
/-- The number of a record's payload. -/
def rlen (r : ByteArray) : Int := get32 (r.data.toList.drop 5)
def rec? (r : ByteArray) : Option Ent :=
  if r.size < 11 then none
  else if (r.size : Int) < 11 + rlen r then none
  else if get16 (r.data.toList.drop (9 + (rlen r).toNat)) ≠ crc (r.data.toList.take (9 + (rlen r).toNat)) then none
  else some ⟨(r.data.toList.headD 0), get32 (r.data.toList.drop 1), r.extract 9 (9 + (rlen r).toNat)⟩
theorem rec_size {r : ByteArray} {e : Ent} (h : rec? r = some e) : 11 + e.pay.size ≤ r.size ∧ (e.pay.size : Int) = rlen r := by
  unfold rec? at h
  split at h
  · cases h
  · split at h
    · cases h
    · split at h
      · cases h
      · injection h with h
        subst h
        have h0 := get32_nn (r.data.toList.drop 5)
        have : 0 ≤ rlen r := h0.1
        refine ⟨?_, ?_⟩
        · show 11 + (r.extract 9 (9 + (rlen r).toNat)).size ≤ _
          rw [ext_size _ _ _ (by omega)]; omega
        · show ((r.extract 9 (9 + (rlen r).toNat)).size : Int) = _
          rw [ext_size _ _ _ (by omega)]; omega
/-- All records of a log, from a place on, with the places behind them. -/
def recs (s : ByteArray) (at_ : Nat) : List (Ent × Nat) :=
  match h : rec? (from_ s at_) with
  | none => []
  | some e => (e, at_ + (11 + e.pay.size)) :: recs s (at_ + (11 + e.pay.size))
termination_by s.size - at_
decreasing_by
  have h1 := (rec_size h).1
  rw [ext_size _ _ _ (Nat.le_refl _)] at h1
  omega
theorem recs_none {s : ByteArray} {a : Nat} (h : rec? (from_ s a) = none) : recs s a = [] := by
  rw [recs]
  split
  · rfl
  · rename_i h2; rw [h] at h2; cases h2
theorem recs_some {s : ByteArray} {a : Nat} {e : Ent} (h : rec? (from_ s a) = some e) : recs s a = (e, a + (11 + e.pay.size)) :: recs s (a + (11 + e.pay.size)) := by
  rw [recs]
  split
  · rename_i h2; rw [h] at h2; cases h2
  · rename_i e' h2; rw [h] at h2; cases h2; rfl
/-- What a record does. -/
def applyE (z : RS) (e : Ent) : Option RS :=
  if e.num ≠ (z.n : Int) + 1 then none
  else if e.kind = 67 then match pAll e.pay with
    | none => none
    | some l => if wrongC l = 0 then some (z.commit l) else none
  else if e.kind = 85 then if e.pay.size ≠ 0 then none else match z.stk.getLast? with
    | none => none
    | some p => some (z.undo p.1 p.2)
  else none
def runL : RS → Nat → List (Ent × Nat) → RS × Nat
  | z, a, [] => (z, a)
  | z, a, x :: r => match applyE z x.1 with
    | none => (z, a)
    | some z' => runL z' x.2 r
def RS.init : RS := ⟨[], 0, []⟩
def openP (s : ByteArray) : RS × Nat := runL RS.init 0 (recs s 0)
theorem RS.init_ok : RS.init.Ok := ⟨⟨Good.nil, (fun _ h => nomatch h), Nat.zero_le _⟩, Nat.zero_le _, Nat.zero_le _, (fun _ h => nomatch h)⟩
theorem applyE_ok {z z' : RS} {e : Ent} (hz : z.Ok) (hn : z.n ≤ 10000000) (hp : ∀ l, pAll e.pay = some l → ∀ g ∈ l, FOk g) (h : applyE z e = some z') : z'.Ok ∧ z'.n = z.n + 1 := by
  unfold applyE at h
  split at h
  · cases h
  · split at h
    · split at h
      · cases h
      · rename_i l hl
        split at h
        · rename_i hw
          injection h with h
          subst h
          exact ⟨hz.commit hn ⟨hp l hl, hw⟩, rfl⟩
        · cases h
    · split at h
      · split at h
        · cases h
        · split at h
          · cases h
          · rename_i p hp2
            injection h with h
            subst h
            exact ⟨hz.undo hn (List.mem_of_getLast? hp2), rfl⟩
      · cases h
theorem pAll_fok : ∀ (n : Nat) {s : ByteArray} {l : List Fact}, s.size ≤ n → pAll s = some l → (∀ g ∈ l, FOk g) ∧ l.length * 5 ≤ s.size := by
  intro n
  induction n with
  | zero =>
    intro s l hs h
    rw [pAll_nil (by omega)] at h
    cases h
    exact ⟨(fun _ h => nomatch h), by simp⟩
  | succ n ih =>
    intro s l hs h
    by_cases h0 : s.size = 0
    · rw [pAll_nil h0] at h
      cases h
      exact ⟨(fun _ h => nomatch h), by simp⟩
    · cases hp : pstep s with
      | none => rw [pAll_none h0 hp] at h; cases h
      | some x =>
        obtain ⟨f, r⟩ := x
        rw [pAll_some h0 hp] at h
        obtain ⟨h1, h2⟩ := pstep_rest hp
        cases hr : pAll r with
        | none => rw [hr] at h; cases h
        | some l' =>
          rw [hr] at h
          cases h
          obtain ⟨h3, h4⟩ := ih (by omega) hr
          refine ⟨fun g hg => ?_, by simp only [List.length_cons]; omega⟩
          rcases List.mem_cons.1 hg with rfl | hg
          · exact h2
          · exact h3 g hg
end Go.Proofs.YteeamfkhkbfilaaGreat.K

namespace Go.Proofs.YteeamfkhkbfilaaGreat.K
open Go Go.RowKit Go.Proofs

theorem proj_parse {s0 : ByteArray} (hs0 : s0.size ≤ 1000000000) {w0 : World} {H : Hp} {own : List Seg} :
    Fn Tryz.prog 81 [.string s0] w0 H own (fun r own' H' => own' = own ∧ Le H H' ∧ ((pAll s0 = none ∧ r = .tuple #[.slice none 0 0, .bool false]) ∨ ∃ l v, pAll s0 = some l ∧ r = .tuple #[v, .bool (true)] ∧ rd H' (.s 4 (factsD l)) v)) := by
  refine Fn.enter Tryz.func81 rfl Tryz.ntmps81 rfl ?_; have hL := Le.refl H; refine TC.seq ?_; refine TC.region ?_; refine TL.assign rfl rfl ?_; refine TL.assign rfl rfl ?_; refine TL.nil ?_; refine TQ.then_n ?_; refine TC.seq ?_; refine TC.nilseg ?_; refine TC.region ?_; refine TL.assign rfl rfl ?_; refine TL.nil ?_; refine TQ.then_n ?_; refine TC.seq ?_; refine TC.block ?_
  refine TC.loop (fun n env' own' H' => ∃ s out u row, n = s.size ∧ s.size + out.length * 5 ≤ s0.size ∧ pAll s0 = (pAll s).map (out ++ ·) ∧ (∀ g ∈ out, FOk g) ∧ Row 60 4 u out.length (factsV out) row ∧ env' = [(0, .string s), (4, u)] ∧ own' = row :: own ∧ Le H H') s0.size [(0, _), (4, _)] ⟨rfl, rfl, trivial⟩ ⟨s0, [], _, [], rfl, by simp, by cases pAll s0 <;> simp, (fun _ h => nomatch h), Row.nil _ 4, rfl, rfl, Le.refl _⟩ ?_
  rintro n _ _ H1 ⟨s, out, u, row, rfl, hsz, hpa, hok, hrow, rfl, rfl, hle0⟩
  have hL := Le.trans hL hle0; refine TC.seq ?_; refine TC.seq ?_; refine TC.region ?_; refine TL.move rfl rfl ?_; refine TL.len_string rfl rfl ?_
  refine TL.gtrB rfl rfl rfl (fun h0 => ?_) (fun h0 => ?_)
  ·
   refine TL.nil ?_; refine TQ.then_n ?_; refine TC.cond_t rfl ?_; refine TC.skip ?_; refine TQ.then_n ?_; refine TC.block ?_; refine TC.seq ?_; refine TC.seq ?_; refine TC.region ?_; refine TL.move rfl rfl ?_; refine TL.len_string rfl rfl ?_
   refine TL.lssB rfl rfl rfl (fun h5 => ?_) (fun h5 => ?_)
   ·
    have hpn := pAll_none (s := s) (by omega) (pstep_short (by omega))
    refine TL.move rfl rfl ?_; refine TL.gno rfl rfl rfl rfl ?_; refine TL.gno rfl rfl rfl rfl ?_; refine TL.gno rfl rfl rfl rfl ?_; refine TL.gno rfl rfl rfl rfl ?_; refine TL.gno rfl rfl rfl rfl ?_; refine TL.gno rfl rfl rfl rfl ?_; refine TL.gno rfl rfl rfl rfl ?_; refine TL.pickT rfl rfl rfl rfl ?_; refine TL.nil ?_; refine TQ.then_n ?_; refine TC.cond_t rfl ?_; refine TC.seq ?_; refine TC.region ?_; refine TL.assign rfl rfl ?_; refine TL.assign rfl rfl ?_; refine TL.nil ?_; refine TQ.then_n ?_; refine TC.ret ?_; refine TQ.then_r ?_; refine TQ.in_r ?_; refine TQ.then_r ?_; refine TQ.in_r ?_; refine TQ.then_r ?_
    refine TQ.freeze (fun H1 hle hz_row => ?_)
    have hL := Le.trans hL hle; refine TQ.ret2 0 rfl rfl rfl ?_
    first
      | exact ⟨rfl, hL, .inl ⟨by rw [hpa, hpn]; rfl, rfl⟩⟩
      | exact ⟨rfl, hL, .inr ⟨out, _, by rw [hpa, pAll_nil (by omega)]; simp, rfl, facts_row hrow hz_row (Le.refl _)⟩⟩
   ·
    obtain ⟨b0, b1, b2, b3, b4, t, hl⟩ := five (s := s) (by omega)
    have c0 := b0.toNat_lt
    have c1 := b1.toNat_lt
    have c2 := b2.toNat_lt
    have c3 := b3.toNat_lt
    have c4 := b4.toNat_lt
    have hd : (s.extract 2 s.size).data.toList = s.data.toList.drop 2 := by rw [ext_list, List.take_of_length_le (show s.data.toList.length ≤ s.size from Nat.le_refl _)]
    refine TL.move rfl rfl ?_; refine TL.gyes rfl rfl rfl ?_; refine TL.move rfl rfl ?_; refine TL.gyes rfl rfl rfl ?_; refine TL.len_string rfl rfl ?_; refine TL.gyes rfl rfl rfl ?_; refine TL.move rfl rfl ?_; refine TL.gyes rfl rfl rfl ?_; refine TL.indexS 4 rfl rfl rfl (by rw [byte_get, hl]; rfl) rfl ?_
    refine TL.gyes rfl rfl rfl ?_; refine TL.convI rfl rfl ?_
    rw [wrap_i64 (n := (b4.toNat : Int)) ⟨by omega, by omega⟩]
    refine TL.gyes rfl rfl rfl ?_; refine TL.add rfl rfl rfl ⟨by omega, by omega⟩ ?_; refine TL.gyes rfl rfl rfl ?_
    refine TL.lssB rfl rfl rfl (fun hln => ?_) (fun hln => ?_)
    ·
     have hpn := pAll_none (s := s) (by omega) (by rw [pstep_of hl, if_pos (by omega)])
     refine TL.pickF rfl rfl rfl rfl ?_; refine TL.nil ?_; refine TQ.then_n ?_; refine TC.cond_t rfl ?_; refine TC.seq ?_; refine TC.region ?_; refine TL.assign rfl rfl ?_; refine TL.assign rfl rfl ?_; refine TL.nil ?_; refine TQ.then_n ?_; refine TC.ret ?_; refine TQ.then_r ?_; refine TQ.in_r ?_; refine TQ.then_r ?_; refine TQ.in_r ?_; refine TQ.then_r ?_
     refine TQ.freeze (fun H2 hle hz_row => ?_)
     have hL := Le.trans hL hle; refine TQ.ret2 0 rfl rfl rfl ?_
     first
       | exact ⟨rfl, hL, .inl ⟨by rw [hpa, hpn]; rfl, rfl⟩⟩
       | exact ⟨rfl, hL, .inr ⟨out, _, by rw [hpa, pAll_nil (by omega)]; simp, rfl, facts_row hrow hz_row (Le.refl _)⟩⟩
    ·
     have hps := pstep_of hl
     rw [if_neg (by omega)] at hps
     obtain ⟨f, hf⟩ : ∃ f : Fact, f = ⟨(b0.toNat : Int), if (b1.toNat : Int) = 255 then -1 else (b1.toNat : Int), (b2.toNat : Int) + 256 * (b3.toNat : Int), s.extract 5 (5 + b4.toNat)⟩ := ⟨_, rfl⟩
     rw [← hf] at hps
     have hpa2 := hpa.trans (pAll_step (by omega) hps)
     have hok2 : ∀ g ∈ out ++ [f], FOk g := fun g hg => by rcases List.mem_append.1 hg with hg | hg; exact hok g hg; simp at hg; subst hg; exact (pstep_rest hps).2
     refine TL.pickF rfl rfl rfl rfl ?_; refine TL.nil ?_; refine TQ.then_n ?_; refine TC.cond_f rfl ?_; refine TC.skip ?_; refine TQ.nsr ?_; refine TL.move rfl rfl ?_; refine TL.indexS 4 rfl rfl rfl (by rw [byte_get, hl]; rfl) rfl ?_
     refine TL.convI rfl rfl ?_
     rw [wrap_i64 (n := (b4.toNat : Int)) ⟨by omega, by omega⟩]
     refine TL.add rfl rfl rfl ⟨by omega, by omega⟩ ?_; refine TL.assign rfl rfl ?_; refine TL.nil ?_; refine TQ.then_n ?_; refine TC.seq ?_; refine TC.drawQV 15  [(0, _), (4, _), (5, _)] follows_mixed ⟨rfl, rfl, rfl, trivial⟩ ?_; refine ChainV.q (some 26) [] (fun _ _ _ _ hF => TL.move rfl rfl (TL.one hF)) ?_
     refine ChainV.q (some 27) [(0, 0)] (by
      intro H' X F hle; have hL := Le.trans hL hle; intro hF; refine TL.indexS 0 rfl rfl rfl (by rw [byte_get, hl]; rfl) rfl ?_
      exact TL.one hF) ?_
     refine ChainV.q (some 28) [(1, 0)] (by
      intro H' X F hle; have hL := Le.trans hL hle; intro hF; refine TL.convI rfl rfl ?_
      rw [wrap_i64 (n := (b0.toNat : Int)) ⟨by omega, by omega⟩]
      exact TL.one hF) ?_
     refine ChainV.q (some 29) [] (fun _ _ _ _ hF => TL.move rfl rfl (TL.one hF)) ?_
     refine ChainV.q (some 30) [(3, 0)] (by
      intro H' X F hle; have hL := Le.trans hL hle; intro hF; refine TL.indexS 1 rfl rfl rfl (by rw [byte_get, hl]; rfl) rfl ?_
      exact TL.one hF) ?_
     refine ChainV.q (some 31) [(4, 0)] (by
      intro H' X F hle; have hL := Le.trans hL hle; intro hF; refine TL.convI rfl rfl ?_
      rw [wrap_i64 (n := (b1.toNat : Int)) ⟨by omega, by omega⟩]
      exact TL.one hF) ?_
     refine ChainV.q (some 32) [] (fun _ _ _ _ hF => TL.move rfl rfl (TL.one hF)) ?_
     refine ChainV.q (some 33) [(6, 0)] (by
      intro H' X F hle; have hL := Le.trans hL hle; intro hF; refine TL.sliceS (li := some 2) (ri := none) 2 s.size rfl ⟨_, _, rfl, rfl⟩ rfl rfl rfl (by omega) (Nat.le_refl _) rfl ?_
      exact TL.one hF) ?_
     refine ChainV.q (some 34) [(7, 0)] (by
      intro H' X F hle; have hL := Le.trans hL hle; intro hF; refine TL.call (word_Get) ⟨rfl, trivial⟩ rfl ?_
      rintro _ _ H34 ⟨rfl, rfl, hle34⟩
      rw [hd, show get16 (s.data.toList.drop 2) = (b2.toNat : Int) + 256 * (b3.toNat : Int) by rw [hl]; rfl]
      have hL := Le.trans hL hle34; refine TL.nil ?_
      exact TQ.one [] hF hle34 ⟨rfl, rfl⟩) ?_
     refine ChainV.q (some 35) [(5, 3), (8, 0)] (by
      intro H' X F hle; have hL := Le.trans hL hle; intro hF; refine TL.struct [(0, [_]), (1, [_])] ⟨rfl, ⟨_, rfl, rfl⟩, rfl, ⟨_, rfl, rfl⟩, trivial⟩ rfl rfl ?_
      exact TL.one hF) ?_
     refine ChainV.q (some 36) [] (fun _ _ _ _ hF => TL.move rfl rfl (TL.one hF)) ?_; refine ChainV.q (some 37) [] (fun _ _ _ _ hF => TL.move rfl rfl (TL.one hF)) ?_
     refine ChainV.q (some 38) [(10, 1), (11, 0)] (by
      intro H' X F hle; have hL := Le.trans hL hle; intro hF; refine TL.sliceS (li := some 5) (ri := some (5 + (b4.toNat : Int))) 5 (5 + b4.toNat) rfl ⟨_, _, rfl, rfl⟩ ⟨_, _, rfl, rfl⟩ rfl (by show (5 + (b4.toNat : Int)) = _; omega) (by omega) (by omega) rfl ?_
      exact TL.one hF) ?_
     refine ChainV.q (some 39) [(2, 10), (9, 3), (12, 0)] (by
      intro H' X F hle; have hL := Le.trans hL hle; intro hF; refine TL.struct [(0, [_]), (1, [_, _]), (2, [_])] ⟨rfl, ⟨_, rfl, rfl⟩, rfl, ⟨_, rfl, rfl⟩, rfl, ⟨_, rfl, rfl⟩, trivial⟩ rfl rfl ?_
      exact TL.one hF) ?_
     refine ChainV.r (some 6) [] ([]) (fun _ => fun r s H => ∃ g, r = .pointer (some ⟨g, 0, none⟩) ∧ s = [[(g, .cells #[.int .i64 0, .int .i64 0, .int .u16 0, .string ⟨#[]⟩] 60 (0, 0))]]) (by
      intro H' X F hle; have hL := Le.trans hL hle; intro hF
      refine TL.new rfl ?_; intro g6; refine TL.nil ?_
      exact TQ.one [_] hF (Le.refl _) ⟨_, rfl, rfl⟩) ?_
     refine ⟨by kernel_rfl, .refl _, ?_⟩
     ·
      intro H3 hle
      rintro _ _ Hr hler ⟨g6, rfl, rfl⟩
      have hL := Le.trans hL hle; have hle0 := Le.trans hle0 hle; refine TL.toOwn (own' := _ :: _ :: own) rfl ?_; refine TL.wk (env' := [(0, _), (4, _), (5, _), (39, _), (6, _)]) ⟨rfl, rfl, rfl, rfl, rfl, trivial⟩ ?_; refine TL.storeA 0 0 (c' := #[_, _, _, _]) (own' := [(_, .cells #[_, _, _, _] _ _)] :: _) rfl rfl rfl rfl rfl ⟨rfl, rfl, rfl, rfl, trivial⟩ (by simp [putC]) rfl rfl rfl ?_; refine TL.nil ?_; refine TQ.then_n ?_; refine TC.seq ?_; refine TC.seq ?_; refine TC.region ?_; refine TL.fieldAddr rfl rfl ?_; refine TL.fieldAddr rfl rfl ?_; refine TL.load_own 0 0 rfl rfl rfl rfl rfl ?_
      refine TL.eqlB rfl rfl rfl (fun hbk => ?_) (fun hbk => ?_)
      ·
       rw [if_pos hbk] at hf
       refine TL.nil ?_; refine TQ.then_n ?_; refine TC.cond_t rfl ?_; refine TC.region ?_; refine TL.fieldAddr rfl rfl ?_; refine TL.fieldAddr rfl rfl ?_; refine TL.store1 0 0 (c' := #[_, _, _, _]) (own' := [(_, .cells #[_, _, _, _] _ _)] :: _) rfl rfl rfl rfl rfl (by simp) rfl rfl rfl ?_; refine TL.nsr ?_; refine TL.move rfl rfl ?_; refine TL.load_ownA 0 0 [_, _, _, _] rfl rfl rfl ⟨rfl, rfl, rfl, rfl, trivial⟩ rfl rfl ?_
       refine TL.litF (r := [_, _, _, _]) [(0, [_, _, _, _])] ⟨rfl, ⟨_, rfl, rfl⟩, trivial⟩ rfl rfl rfl rfl ?_; intro g48; refine TL.append 2 rfl rfl rfl hrow (Src.ofOwn 0 0 rfl rfl rfl (Ones.all (show Ones [_, _, _, _] from ⟨by rfl, by rfl, by rfl, by rfl, trivial⟩)) ⟨rfl, rfl, rfl, rfl, trivial⟩) (by omega) (by omega) rfl ?_; intro v1 seg1 hrow1
       have hrow2 : Row 60 4 v1 (out ++ [f]).length (factsV (out ++ [f])) seg1 := by rw [factsV_snoc, List.length_append, hf]; exact hrow1
       refine TL.assign rfl rfl ?_; refine TL.nil ?_; refine TQ.then_n ?_; refine TC.region ?_; refine TL.move rfl rfl ?_; refine TL.move rfl rfl ?_; refine TL.sliceS (li := some (5 + (b4.toNat : Int))) (ri := none) (5 + b4.toNat) s.size rfl ⟨_, _, rfl, rfl⟩ rfl (by show (5 + (b4.toNat : Int)) = _; omega) rfl (by omega) (Nat.le_refl _) rfl ?_
       refine TL.assign rfl rfl ?_; refine TL.nil ?_; refine TQ.in_n ?_
       refine TQ.sel 3 [2] rfl (fun o ho => ?_)
       simp only [K.sel, List.map_cons, List.map_nil, List.getD_cons_zero, List.getD_cons_succ, List.drop_succ_cons, List.drop_zero, List.cons_append, List.nil_append, List.set_cons_zero, List.set_cons_succ] at ho; subst ho
       refine TQ.next (s.extract (5 + b4.toNat) s.size).size [(0, _), (4, _)] (by rw [ext_size _ _ _ (Nat.le_refl _)]; omega) ⟨rfl, rfl, trivial⟩ ⟨_, out ++ [f], _, _, rfl, ?_, hpa2, hok2, hrow2, rfl, rfl, hle0⟩
       rw [ext_size _ _ _ (Nat.le_refl _), List.length_append]; simp only [List.length_cons, List.length_nil]; omega
      ·
       rw [if_neg hbk] at hf
       refine TL.nil ?_; refine TQ.then_n ?_; refine TC.cond_f rfl ?_; refine TC.skip ?_; refine TQ.nsr ?_; refine TL.move rfl rfl ?_; refine TL.load_ownA 0 0 [_, _, _, _] rfl rfl rfl ⟨rfl, rfl, rfl, rfl, trivial⟩ rfl rfl ?_
       refine TL.litF (r := [_, _, _, _]) [(0, [_, _, _, _])] ⟨rfl, ⟨_, rfl, rfl⟩, trivial⟩ rfl rfl rfl rfl ?_; intro g48; refine TL.append 2 rfl rfl rfl hrow (Src.ofOwn 0 0 rfl rfl rfl (Ones.all (show Ones [_, _, _, _] from ⟨by rfl, by rfl, by rfl, by rfl, trivial⟩)) ⟨rfl, rfl, rfl, rfl, trivial⟩) (by omega) (by omega) rfl ?_; intro v1 seg1 hrow1
       have hrow2 : Row 60 4 v1 (out ++ [f]).length (factsV (out ++ [f])) seg1 := by rw [factsV_snoc, List.length_append, hf]; exact hrow1
       refine TL.assign rfl rfl ?_; refine TL.nil ?_; refine TQ.then_n ?_; refine TC.region ?_; refine TL.move rfl rfl ?_; refine TL.move rfl rfl ?_; refine TL.sliceS (li := some (5 + (b4.toNat : Int))) (ri := none) (5 + b4.toNat) s.size rfl ⟨_, _, rfl, rfl⟩ rfl (by show (5 + (b4.toNat : Int)) = _; omega) rfl (by omega) (Nat.le_refl _) rfl ?_
       refine TL.assign rfl rfl ?_; refine TL.nil ?_; refine TQ.in_n ?_
       refine TQ.sel 3 [2] rfl (fun o ho => ?_)
       simp only [K.sel, List.map_cons, List.map_nil, List.getD_cons_zero, List.getD_cons_succ, List.drop_succ_cons, List.drop_zero, List.cons_append, List.nil_append, List.set_cons_zero, List.set_cons_succ] at ho; subst ho
       refine TQ.next (s.extract (5 + b4.toNat) s.size).size [(0, _), (4, _)] (by rw [ext_size _ _ _ (Nat.le_refl _)]; omega) ⟨rfl, rfl, trivial⟩ ⟨_, out ++ [f], _, _, rfl, ?_, hpa2, hok2, hrow2, rfl, rfl, hle0⟩
       rw [ext_size _ _ _ (Nat.le_refl _), List.length_append]; simp only [List.length_cons, List.length_nil]; omega
  ·
   refine TL.nil ?_; refine TQ.then_n ?_; refine TC.cond_f rfl ?_; refine TC.exit ?_; refine TQ.then_e ?_; refine TQ.then_e ?_; refine TQ.in_e ?_; refine TQ.nsr ?_; refine TL.move rfl rfl ?_; refine TL.assign rfl rfl ?_; refine TL.assign rfl rfl ?_; refine TL.nil ?_; refine TQ.then_n ?_; refine TC.ret ?_
   refine TQ.freeze (fun H4 hle hz_row => ?_)
   have hL := Le.trans hL hle; refine TQ.ret2 0 rfl rfl rfl ?_
   first
     | exact ⟨rfl, hL, .inl ⟨by rw [hpa, hpn]; rfl, rfl⟩⟩
     | exact ⟨rfl, hL, .inr ⟨out, _, by rw [hpa, pAll_nil (by omega)]; simp, rfl, facts_row hrow hz_row (Le.refl _)⟩⟩
theorem ref_parse {s0 : ByteArray} (hs0 : s0.size ≤ 1000000000) {w0 : World} {H : Hp} {own : List Seg} :
    Fn Tryz.prog 90 [.string s0] w0 H own (fun r own' H' => own' = own ∧ Le H H' ∧ ((pAll s0 = none ∧ r = .tuple #[.slice none 0 0, .bool false]) ∨ ∃ l v, pAll s0 = some l ∧ r = .tuple #[v, .bool (decide (wrongC l = 0))] ∧ rd H' (.s 4 (factsD l)) v)) := by
  refine Fn.enter Tryz.func90 rfl Tryz.ntmps90 rfl ?_; have hL := Le.refl H; refine TC.seq ?_; refine TC.region ?_; refine TL.assign rfl rfl ?_; refine TL.assign rfl rfl ?_; refine TL.nil ?_; refine TQ.then_n ?_; refine TC.seq ?_; refine TC.nilseg ?_; refine TC.region ?_; refine TL.assign rfl rfl ?_; refine TL.nil ?_; refine TQ.then_n ?_; refine TC.seq ?_; refine TC.block ?_
  refine TC.loop (fun n env' own' H' => ∃ s out u row, n = s.size ∧ s.size + out.length * 5 ≤ s0.size ∧ pAll s0 = (pAll s).map (out ++ ·) ∧ (∀ g ∈ out, FOk g) ∧ Row 60 4 u out.length (factsV out) row ∧ env' = [(0, .string s), (4, u)] ∧ own' = row :: own ∧ Le H H') s0.size [(0, _), (4, _)] ⟨rfl, rfl, trivial⟩ ⟨s0, [], _, [], rfl, by simp, by cases pAll s0 <;> simp, (fun _ h => nomatch h), Row.nil _ 4, rfl, rfl, Le.refl _⟩ ?_
  rintro n _ _ H1 ⟨s, out, u, row, rfl, hsz, hpa, hok, hrow, rfl, rfl, hle0⟩
  have hL := Le.trans hL hle0; refine TC.seq ?_; refine TC.seq ?_; refine TC.region ?_; refine TL.move rfl rfl ?_; refine TL.len_string rfl rfl ?_
  refine TL.gtrB rfl rfl rfl (fun h0 => ?_) (fun h0 => ?_)
  ·
   refine TL.nil ?_; refine TQ.then_n ?_; refine TC.cond_t rfl ?_; refine TC.skip ?_; refine TQ.then_n ?_; refine TC.block ?_; refine TC.seq ?_; refine TC.seq ?_; refine TC.region ?_; refine TL.move rfl rfl ?_; refine TL.len_string rfl rfl ?_
   refine TL.lssB rfl rfl rfl (fun h5 => ?_) (fun h5 => ?_)
   ·
    have hpn := pAll_none (s := s) (by omega) (pstep_short (by omega))
    refine TL.move rfl rfl ?_; refine TL.gno rfl rfl rfl rfl ?_; refine TL.gno rfl rfl rfl rfl ?_; refine TL.gno rfl rfl rfl rfl ?_; refine TL.gno rfl rfl rfl rfl ?_; refine TL.gno rfl rfl rfl rfl ?_; refine TL.gno rfl rfl rfl rfl ?_; refine TL.gno rfl rfl rfl rfl ?_; refine TL.pickT rfl rfl rfl rfl ?_; refine TL.nil ?_; refine TQ.then_n ?_; refine TC.cond_t rfl ?_; refine TC.seq ?_; refine TC.region ?_; refine TL.assign rfl rfl ?_; refine TL.assign rfl rfl ?_; refine TL.nil ?_; refine TQ.then_n ?_; refine TC.ret ?_; refine TQ.then_r ?_; refine TQ.in_r ?_; refine TQ.then_r ?_; refine TQ.in_r ?_; refine TQ.then_r ?_; refine TQ.ret2 1 rfl rfl rfl ?_
    first
      | exact ⟨rfl, hL, .inl ⟨by rw [hpa, hpn]; rfl, rfl⟩⟩
      | exact ⟨rfl, hL, .inr ⟨out, _, hpe, rfl, hAr⟩⟩
   ·
    obtain ⟨b0, b1, b2, b3, b4, t, hl⟩ := five (s := s) (by omega)
    have c0 := b0.toNat_lt
    have c1 := b1.toNat_lt
    have c2 := b2.toNat_lt
    have c3 := b3.toNat_lt
    have c4 := b4.toNat_lt
    have hd : (s.extract 2 s.size).data.toList = s.data.toList.drop 2 := by rw [ext_list, List.take_of_length_le (show s.data.toList.length ≤ s.size from Nat.le_refl _)]
    refine TL.move rfl rfl ?_; refine TL.gyes rfl rfl rfl ?_; refine TL.move rfl rfl ?_; refine TL.gyes rfl rfl rfl ?_; refine TL.len_string rfl rfl ?_; refine TL.gyes rfl rfl rfl ?_; refine TL.move rfl rfl ?_; refine TL.gyes rfl rfl rfl ?_; refine TL.indexS 4 rfl rfl rfl (by rw [byte_get, hl]; rfl) rfl ?_
    refine TL.gyes rfl rfl rfl ?_; refine TL.convI rfl rfl ?_
    rw [wrap_i64 (n := (b4.toNat : Int)) ⟨by omega, by omega⟩]
    refine TL.gyes rfl rfl rfl ?_; refine TL.add rfl rfl rfl ⟨by omega, by omega⟩ ?_; refine TL.gyes rfl rfl rfl ?_
    refine TL.lssB rfl rfl rfl (fun hln => ?_) (fun hln => ?_)
    ·
     have hpn := pAll_none (s := s) (by omega) (by rw [pstep_of hl, if_pos (by omega)])
     refine TL.pickF rfl rfl rfl rfl ?_; refine TL.nil ?_; refine TQ.then_n ?_; refine TC.cond_t rfl ?_; refine TC.seq ?_; refine TC.region ?_; refine TL.assign rfl rfl ?_; refine TL.assign rfl rfl ?_; refine TL.nil ?_; refine TQ.then_n ?_; refine TC.ret ?_; refine TQ.then_r ?_; refine TQ.in_r ?_; refine TQ.then_r ?_; refine TQ.in_r ?_; refine TQ.then_r ?_; refine TQ.ret2 1 rfl rfl rfl ?_
     first
       | exact ⟨rfl, hL, .inl ⟨by rw [hpa, hpn]; rfl, rfl⟩⟩
       | exact ⟨rfl, hL, .inr ⟨out, _, hpe, rfl, hAr⟩⟩
    ·
     have hps := pstep_of hl
     rw [if_neg (by omega)] at hps
     obtain ⟨f, hf⟩ : ∃ f : Fact, f = ⟨(b0.toNat : Int), if (b1.toNat : Int) = 255 then -1 else (b1.toNat : Int), (b2.toNat : Int) + 256 * (b3.toNat : Int), s.extract 5 (5 + b4.toNat)⟩ := ⟨_, rfl⟩
     rw [← hf] at hps
     have hpa2 := hpa.trans (pAll_step (by omega) hps)
     have hok2 : ∀ g ∈ out ++ [f], FOk g := fun g hg => by rcases List.mem_append.1 hg with hg | hg; exact hok g hg; simp at hg; subst hg; exact (pstep_rest hps).2
     refine TL.pickF rfl rfl rfl rfl ?_; refine TL.nil ?_; refine TQ.then_n ?_; refine TC.cond_f rfl ?_; refine TC.skip ?_; refine TQ.nsr ?_; refine TL.move rfl rfl ?_; refine TL.indexS 4 rfl rfl rfl (by rw [byte_get, hl]; rfl) rfl ?_
     refine TL.convI rfl rfl ?_
     rw [wrap_i64 (n := (b4.toNat : Int)) ⟨by omega, by omega⟩]
     refine TL.add rfl rfl rfl ⟨by omega, by omega⟩ ?_; refine TL.assign rfl rfl ?_; refine TL.nil ?_; refine TQ.then_n ?_; refine TC.seq ?_; refine TC.drawQV 15  [(0, _), (4, _), (5, _)] follows_mixed ⟨rfl, rfl, rfl, trivial⟩ ?_; refine ChainV.q (some 26) [] (fun _ _ _ _ hF => TL.move rfl rfl (TL.one hF)) ?_
     refine ChainV.q (some 27) [(0, 0)] (by
      intro H' X F hle; have hL := Le.trans hL hle; intro hF; refine TL.indexS 0 rfl rfl rfl (by rw [byte_get, hl]; rfl) rfl ?_
      exact TL.one hF) ?_
     refine ChainV.q (some 28) [(1, 0)] (by
      intro H' X F hle; have hL := Le.trans hL hle; intro hF; refine TL.convI rfl rfl ?_
      rw [wrap_i64 (n := (b0.toNat : Int)) ⟨by omega, by omega⟩]
      exact TL.one hF) ?_
     refine ChainV.q (some 29) [] (fun _ _ _ _ hF => TL.move rfl rfl (TL.one hF)) ?_
     refine ChainV.q (some 30) [(3, 0)] (by
      intro H' X F hle; have hL := Le.trans hL hle; intro hF; refine TL.indexS 1 rfl rfl rfl (by rw [byte_get, hl]; rfl) rfl ?_
      exact TL.one hF) ?_
     refine ChainV.q (some 31) [(4, 0)] (by
      intro H' X F hle; have hL := Le.trans hL hle; intro hF; refine TL.convI rfl rfl ?_
      rw [wrap_i64 (n := (b1.toNat : Int)) ⟨by omega, by omega⟩]
      exact TL.one hF) ?_
     refine ChainV.q (some 32) [] (fun _ _ _ _ hF => TL.move rfl rfl (TL.one hF)) ?_
     refine ChainV.q (some 33) [(6, 0)] (by
      intro H' X F hle; have hL := Le.trans hL hle; intro hF; refine TL.sliceS (li := some 2) (ri := none) 2 s.size rfl ⟨_, _, rfl, rfl⟩ rfl rfl rfl (by omega) (Nat.le_refl _) rfl ?_
      exact TL.one hF) ?_
     refine ChainV.q (some 34) [(7, 0)] (by
      intro H' X F hle; have hL := Le.trans hL hle; intro hF; refine TL.call (ref_Get) ⟨rfl, trivial⟩ rfl ?_
      rintro _ _ H34 ⟨rfl, rfl, hle34⟩
      rw [hd, show get16 (s.data.toList.drop 2) = (b2.toNat : Int) + 256 * (b3.toNat : Int) by rw [hl]; rfl]
      have hL := Le.trans hL hle34; refine TL.nil ?_
      exact TQ.one [] hF hle34 ⟨rfl, rfl⟩) ?_
     refine ChainV.q (some 35) [(5, 3), (8, 0)] (by
      intro H' X F hle; have hL := Le.trans hL hle; intro hF; refine TL.struct [(0, [_]), (1, [_])] ⟨rfl, ⟨_, rfl, rfl⟩, rfl, ⟨_, rfl, rfl⟩, trivial⟩ rfl rfl ?_
      exact TL.one hF) ?_
     refine ChainV.q (some 36) [] (fun _ _ _ _ hF => TL.move rfl rfl (TL.one hF)) ?_; refine ChainV.q (some 37) [] (fun _ _ _ _ hF => TL.move rfl rfl (TL.one hF)) ?_
     refine ChainV.q (some 38) [(10, 1), (11, 0)] (by
      intro H' X F hle; have hL := Le.trans hL hle; intro hF; refine TL.sliceS (li := some 5) (ri := some (5 + (b4.toNat : Int))) 5 (5 + b4.toNat) rfl ⟨_, _, rfl, rfl⟩ ⟨_, _, rfl, rfl⟩ rfl (by show (5 + (b4.toNat : Int)) = _; omega) (by omega) (by omega) rfl ?_
      exact TL.one hF) ?_
     refine ChainV.q (some 39) [(2, 10), (9, 3), (12, 0)] (by
      intro H' X F hle; have hL := Le.trans hL hle; intro hF; refine TL.struct [(0, [_]), (1, [_, _]), (2, [_])] ⟨rfl, ⟨_, rfl, rfl⟩, rfl, ⟨_, rfl, rfl⟩, rfl, ⟨_, rfl, rfl⟩, trivial⟩ rfl rfl ?_
      exact TL.one hF) ?_
     refine ChainV.r (some 6) [] ([]) (fun _ => fun r s H => ∃ g, r = .pointer (some ⟨g, 0, none⟩) ∧ s = [[(g, .cells #[.int .i64 0, .int .i64 0, .int .u16 0, .string ⟨#[]⟩] 60 (0, 0))]]) (by
      intro H' X F hle; have hL := Le.trans hL hle; intro hF
      refine TL.new rfl ?_; intro g6; refine TL.nil ?_
      exact TQ.one [_] hF (Le.refl _) ⟨_, rfl, rfl⟩) ?_
     refine ⟨by kernel_rfl, .refl _, ?_⟩
     ·
      intro H1 hle
      rintro _ _ Hr hler ⟨g6, rfl, rfl⟩
      have hL := Le.trans hL hle; have hle0 := Le.trans hle0 hle; refine TL.toOwn (own' := _ :: _ :: own) rfl ?_; refine TL.wk (env' := [(0, _), (4, _), (5, _), (39, _), (6, _)]) ⟨rfl, rfl, rfl, rfl, rfl, trivial⟩ ?_; refine TL.storeA 0 0 (c' := #[_, _, _, _]) (own' := [(_, .cells #[_, _, _, _] _ _)] :: _) rfl rfl rfl rfl rfl ⟨rfl, rfl, rfl, rfl, trivial⟩ (by simp [putC]) rfl rfl rfl ?_; refine TL.nil ?_; refine TQ.then_n ?_; refine TC.seq ?_; refine TC.seq ?_; refine TC.region ?_; refine TL.fieldAddr rfl rfl ?_; refine TL.fieldAddr rfl rfl ?_; refine TL.load_own 0 0 rfl rfl rfl rfl rfl ?_
      refine TL.eqlB rfl rfl rfl (fun hbk => ?_) (fun hbk => ?_)
      ·
       rw [if_pos hbk] at hf
       refine TL.nil ?_; refine TQ.then_n ?_; refine TC.cond_t rfl ?_; refine TC.region ?_; refine TL.fieldAddr rfl rfl ?_; refine TL.fieldAddr rfl rfl ?_; refine TL.store1 0 0 (c' := #[_, _, _, _]) (own' := [(_, .cells #[_, _, _, _] _ _)] :: _) rfl rfl rfl rfl rfl (by simp) rfl rfl rfl ?_; refine TL.nsr ?_; refine TL.move rfl rfl ?_; refine TL.load_ownA 0 0 [_, _, _, _] rfl rfl rfl ⟨rfl, rfl, rfl, rfl, trivial⟩ rfl rfl ?_
       refine TL.litF (r := [_, _, _, _]) [(0, [_, _, _, _])] ⟨rfl, ⟨_, rfl, rfl⟩, trivial⟩ rfl rfl rfl rfl ?_; intro g48; refine TL.append 2 rfl rfl rfl hrow (Src.ofOwn 0 0 rfl rfl rfl (Ones.all (show Ones [_, _, _, _] from ⟨by rfl, by rfl, by rfl, by rfl, trivial⟩)) ⟨rfl, rfl, rfl, rfl, trivial⟩) (by omega) (by omega) rfl ?_; intro v1 seg1 hrow1
       have hrow2 : Row 60 4 v1 (out ++ [f]).length (factsV (out ++ [f])) seg1 := by rw [factsV_snoc, List.length_append, hf]; exact hrow1
       refine TL.assign rfl rfl ?_; refine TL.nil ?_; refine TQ.then_n ?_; refine TC.region ?_; refine TL.move rfl rfl ?_; refine TL.move rfl rfl ?_; refine TL.sliceS (li := some (5 + (b4.toNat : Int))) (ri := none) (5 + b4.toNat) s.size rfl ⟨_, _, rfl, rfl⟩ rfl (by show (5 + (b4.toNat : Int)) = _; omega) rfl (by omega) (Nat.le_refl _) rfl ?_
       refine TL.assign rfl rfl ?_; refine TL.nil ?_; refine TQ.in_n ?_
       refine TQ.sel 3 [2] rfl (fun o ho => ?_)
       simp only [K.sel, List.map_cons, List.map_nil, List.getD_cons_zero, List.getD_cons_succ, List.drop_succ_cons, List.drop_zero, List.cons_append, List.nil_append, List.set_cons_zero, List.set_cons_succ] at ho; subst ho
       refine TQ.next (s.extract (5 + b4.toNat) s.size).size [(0, _), (4, _)] (by rw [ext_size _ _ _ (Nat.le_refl _)]; omega) ⟨rfl, rfl, trivial⟩ ⟨_, out ++ [f], _, _, rfl, ?_, hpa2, hok2, hrow2, rfl, rfl, hle0⟩
       rw [ext_size _ _ _ (Nat.le_refl _), List.length_append]; simp only [List.length_cons, List.length_nil]; omega
      ·
       rw [if_neg hbk] at hf
       refine TL.nil ?_; refine TQ.then_n ?_; refine TC.cond_f rfl ?_; refine TC.skip ?_; refine TQ.nsr ?_; refine TL.move rfl rfl ?_; refine TL.load_ownA 0 0 [_, _, _, _] rfl rfl rfl ⟨rfl, rfl, rfl, rfl, trivial⟩ rfl rfl ?_
       refine TL.litF (r := [_, _, _, _]) [(0, [_, _, _, _])] ⟨rfl, ⟨_, rfl, rfl⟩, trivial⟩ rfl rfl rfl rfl ?_; intro g48; refine TL.append 2 rfl rfl rfl hrow (Src.ofOwn 0 0 rfl rfl rfl (Ones.all (show Ones [_, _, _, _] from ⟨by rfl, by rfl, by rfl, by rfl, trivial⟩)) ⟨rfl, rfl, rfl, rfl, trivial⟩) (by omega) (by omega) rfl ?_; intro v1 seg1 hrow1
       have hrow2 : Row 60 4 v1 (out ++ [f]).length (factsV (out ++ [f])) seg1 := by rw [factsV_snoc, List.length_append, hf]; exact hrow1
       refine TL.assign rfl rfl ?_; refine TL.nil ?_; refine TQ.then_n ?_; refine TC.region ?_; refine TL.move rfl rfl ?_; refine TL.move rfl rfl ?_; refine TL.sliceS (li := some (5 + (b4.toNat : Int))) (ri := none) (5 + b4.toNat) s.size rfl ⟨_, _, rfl, rfl⟩ rfl (by show (5 + (b4.toNat : Int)) = _; omega) rfl (by omega) (Nat.le_refl _) rfl ?_
       refine TL.assign rfl rfl ?_; refine TL.nil ?_; refine TQ.in_n ?_
       refine TQ.sel 3 [2] rfl (fun o ho => ?_)
       simp only [K.sel, List.map_cons, List.map_nil, List.getD_cons_zero, List.getD_cons_succ, List.drop_succ_cons, List.drop_zero, List.cons_append, List.nil_append, List.set_cons_zero, List.set_cons_succ] at ho; subst ho
       refine TQ.next (s.extract (5 + b4.toNat) s.size).size [(0, _), (4, _)] (by rw [ext_size _ _ _ (Nat.le_refl _)]; omega) ⟨rfl, rfl, trivial⟩ ⟨_, out ++ [f], _, _, rfl, ?_, hpa2, hok2, hrow2, rfl, rfl, hle0⟩
       rw [ext_size _ _ _ (Nat.le_refl _), List.length_append]; simp only [List.length_cons, List.length_nil]; omega
  ·
   refine TL.nil ?_; refine TQ.then_n ?_; refine TC.cond_f rfl ?_; refine TC.exit ?_; refine TQ.then_e ?_; refine TQ.then_e ?_; refine TQ.in_e ?_; refine TQ.then_n ?_; refine TC.seq ?_
   refine TC.freeze (fun H2 hle hz_row => ?_)
   have hL := Le.trans hL hle
   have hpe : pAll s0 = some out := by rw [hpa, pAll_nil (by omega)]; simp
   have hAr : rd H2 (.s 4 (factsD out)) u := facts_row hrow hz_row (Le.refl _)
   refine TC.region ?_; refine TL.move rfl rfl ?_; refine TL.move rfl rfl ?_; refine TL.call (ref_Wrong hok hAr) ⟨rfl, trivial⟩ rfl ?_
   rintro _ own H55 ⟨rfl, rfl, hle55⟩
   replace hAr := hAr.mono hle55
   have hL := Le.trans hL hle55; refine TL.eql rfl rfl rfl ?_; refine TL.assign rfl rfl ?_; refine TL.assign rfl rfl ?_; refine TL.nil ?_; refine TQ.then_n ?_; refine TC.ret ?_; refine TQ.ret2 0 rfl rfl rfl ?_
   first
     | exact ⟨rfl, hL, .inl ⟨by rw [hpa, hpn]; rfl, rfl⟩⟩
     | exact ⟨rfl, hL, .inr ⟨out, _, hpe, rfl, hAr⟩⟩


end Go.Proofs.YteeamfkhkbfilaaGreat.K

namespace Go.Proofs.YteeamfkhkbfilaaGreat.K
open Go Go.RowKit Go.Proofs

theorem tri (p q : Prop) : p ∨ (¬p ∧ q) ∨ (¬p ∧ ¬q) := by
  by_cases hp : p
  · exact .inl hp
  · by_cases hq : q
    · exact .inr (.inl ⟨hp, hq⟩)
    · exact .inr (.inr ⟨hp, hq⟩)
theorem one_inj {a b : UInt8} : ((⟨#[a]⟩ : ByteArray) = ⟨#[b]⟩) ↔ a = b := by simp
theorem ext1 {s : ByteArray} {b : UInt8} {t : List UInt8} (h : s.data.toList = b :: t) : s.extract 0 1 = ⟨#[b]⟩ := by
  refine ByteArray.ext ?_
  have h2 := ext_list s 0 1
  rw [h] at h2
  simp only [List.take_succ_cons, List.take_zero, List.drop_zero] at h2
  exact Array.toList_inj.1 (by simpa using h2)
theorem from_list (s : ByteArray) (k : Nat) : (s.extract k s.size).data.toList = s.data.toList.drop k := by
  rw [ext_list, List.take_of_length_le (show s.data.toList.length ≤ s.size from Nat.le_refl _)]
theorem to_list (s : ByteArray) (k : Nat) : (s.extract 0 k).data.toList = s.data.toList.take k := by
  rw [ext_list, List.drop_zero]
def nextR (z : RS) (r : ByteArray) : RS × Int := match rec? r with
  | none => (z, 0)
  | some e => match applyE z e with
    | none => (z, 0)
    | some z' => (z', ((11 + e.pay.size : Nat) : Int))
theorem rec_short {r : ByteArray} (h : r.size < 11) : rec? r = none := by unfold rec?; rw [if_pos h]
theorem rec_long {r : ByteArray} (h : ¬ r.size < 11) (h2 : (r.size : Int) < 11 + rlen r) : rec? r = none := by unfold rec?; rw [if_neg h, if_pos h2]
theorem rec_sum {r : ByteArray} (h : ¬ r.size < 11) (h2 : ¬ (r.size : Int) < 11 + rlen r) {m : Nat} (hm : rlen r = m) (h3 : get16 (r.data.toList.drop (9 + m)) ≠ crc (r.data.toList.take (9 + m))) : rec? r = none := by
  unfold rec?
  rw [if_neg h, if_neg h2, if_pos (by rw [hm]; exact h3)]
theorem rec_ok {r : ByteArray} (h : ¬ r.size < 11) (h2 : ¬ (r.size : Int) < 11 + rlen r) {m : Nat} (hm : rlen r = m) (h3 : ¬ get16 (r.data.toList.drop (9 + m)) ≠ crc (r.data.toList.take (9 + m))) {b : UInt8} {t : List UInt8} (hb : r.data.toList = b :: t) : rec? r = some ⟨b, get32 (r.data.toList.drop 1), r.extract 9 (9 + m)⟩ := by
  unfold rec?
  rw [if_neg h, if_neg h2, if_neg (by rw [hm]; exact h3), hm]
  rw [show r.data.toList.headD 0 = b by rw [hb]; rfl]
  rfl
theorem rec_num {r : ByteArray} {e : Ent} (h : rec? r = some e) : e.num = get32 (r.data.toList.drop 1) := by
  unfold rec? at h
  split at h
  · cases h
  · split at h
    · cases h
    · split at h
      · cases h
      · injection h with h
        subst h
        rfl
theorem next_none {z : RS} {r : ByteArray} (h : rec? r = none) : nextR z r = (z, 0) := by unfold nextR; rw [h]
theorem next_bad {z : RS} {r : ByteArray} {e : Ent} (h : rec? r = some e) (h2 : applyE z e = none) : nextR z r = (z, 0) := by unfold nextR; rw [h]; simp only; rw [h2]
theorem next_ok {z z' : RS} {r : ByteArray} {e : Ent} (h : rec? r = some e) (h2 : applyE z e = some z') : nextR z r = (z', ((11 + e.pay.size : Nat) : Int)) := by unfold nextR; rw [h]; simp only; rw [h2]
theorem apply_num {z : RS} {e : Ent} (h : e.num ≠ (z.n : Int) + 1) : applyE z e = none := by unfold applyE; rw [if_pos h]
theorem next_num {z : RS} {r : ByteArray} (h : get32 (r.data.toList.drop 1) ≠ (z.n : Int) + 1) : nextR z r = (z, 0) := by
  cases hr : rec? r with
  | none => exact next_none hr
  | some e => exact next_bad hr (apply_num (by rw [rec_num hr]; exact h))
section
variable {z : RS} {b : UInt8} {n : Int} {p : ByteArray}
theorem apply_C0 (hn : ¬ n ≠ (z.n : Int) + 1) (hb : b = 67) (hp : pAll p = none) : applyE z ⟨b, n, p⟩ = none := by unfold applyE; rw [if_neg hn, if_pos hb]; simp only; rw [hp]
theorem apply_C1 (hn : ¬ n ≠ (z.n : Int) + 1) (hb : b = 67) {l : List Fact} (hp : pAll p = some l) (hw : wrongC l ≠ 0) : applyE z ⟨b, n, p⟩ = none := by unfold applyE; rw [if_neg hn, if_pos hb]; simp only; rw [hp]; simp only; rw [if_neg hw]
theorem apply_C2 (hn : ¬ n ≠ (z.n : Int) + 1) (hb : b = 67) {l : List Fact} (hp : pAll p = some l) (hw : wrongC l = 0) : applyE z ⟨b, n, p⟩ = some (z.commit l) := by unfold applyE; rw [if_neg hn, if_pos hb]; simp only; rw [hp]; simp only; rw [if_pos hw]
theorem apply_U0 (hn : ¬ n ≠ (z.n : Int) + 1) (hb : b = 85) (hp : p.size ≠ 0) : applyE z ⟨b, n, p⟩ = none := by unfold applyE; rw [if_neg hn, if_neg (by rw [hb]; exact (by decide : ¬ (85 : UInt8) = 67)), if_pos hb, if_pos hp]
theorem apply_U1 (hn : ¬ n ≠ (z.n : Int) + 1) (hb : b = 85) (hp : p.size = 0) (hs : z.stk.getLast? = none) : applyE z ⟨b, n, p⟩ = none := by unfold applyE; rw [if_neg hn, if_neg (by rw [hb]; exact (by decide : ¬ (85 : UInt8) = 67)), if_pos hb, if_neg (by simpa using hp), hs]
theorem apply_U2 (hn : ¬ n ≠ (z.n : Int) + 1) (hb : b = 85) (hp : p.size = 0) {q : List Fact × List Fact} (hs : z.stk.getLast? = some q) : applyE z ⟨b, n, p⟩ = some (z.undo q.1 q.2) := by unfold applyE; rw [if_neg hn, if_neg (by rw [hb]; exact (by decide : ¬ (85 : UInt8) = 67)), if_pos hb, if_neg (by simpa using hp), hs]
theorem apply_X (hn : ¬ n ≠ (z.n : Int) + 1) (h1 : b ≠ 67) (h2 : b ≠ 85) : applyE z ⟨b, n, p⟩ = none := by unfold applyE; rw [if_neg hn, if_neg h1, if_neg h2]
end
theorem parse_cases {s : ByteArray} {r : Value} {H : Hp} (h : (pAll s = none ∧ r = .tuple #[.slice none 0 0, .bool false]) ∨ ∃ l v, pAll s = some l ∧ r = .tuple #[v, .bool (decide (wrongC l = 0))] ∧ rd H (.s 4 (factsD l)) v) :
    (pAll s = none ∧ r = .tuple #[.slice none 0 0, .bool false]) ∨ (∃ l v, pAll s = some l ∧ wrongC l = 0 ∧ r = .tuple #[v, .bool true] ∧ rd H (.s 4 (factsD l)) v) ∨ (∃ l v, pAll s = some l ∧ wrongC l ≠ 0 ∧ r = .tuple #[v, .bool false] ∧ rd H (.s 4 (factsD l)) v) := by
  rcases h with h | ⟨l, v, h1, h2, h3⟩
  · exact .inl h
  · by_cases hw : wrongC l = 0
    · rw [decide_eq_true hw] at h2; exact .inr (.inl ⟨l, v, h1, hw, h2, h3⟩)
    · rw [decide_eq_false hw] at h2; exact .inr (.inr ⟨l, v, h1, hw, h2, h3⟩)
theorem rUnd_n {z : RS} (h : z.stk.getLast? = none) : rUnd z = (eS, 101, z) := by unfold rUnd; rw [h]
theorem rUnd_s {z : RS} {p : List Fact × List Fact} (h : z.stk.getLast? = some p) : rUnd z = (recU (z.n + 1 : Nat), 0, z.undo p.1 p.2) := by unfold rUnd; rw [h]
end Go.Proofs.YteeamfkhkbfilaaGreat.K

namespace Go.Proofs.YteeamfkhkbfilaaGreat.K
open Go Go.RowKit Go.Proofs

theorem ref_Commit1 {z : RS} (hz : z.Ok) (hn : z.n ≤ 10000000) {l : List Fact} (hl : ∀ g ∈ l, FOk g) {w0 : World} {H : Hp} {own : List Seg} {gs : Nat} {fv bv cv : Value} {sb sc : Seg} {xb xc : List Value} (hm : RSm H z fv bv cv sb sc xb xc) {v : Value} (hA : rd H (.s 4 (factsD l)) v) (hw : wrongC l = 0) :
    Fn Tryz.prog 18 [.pointer (some ⟨gs, 0, none⟩), v] w0 H ([(gs, .cells #[fv, .int .i64 (z.n : Int), bv, cv] 28 (0, 0))] :: sb :: sc :: own)
      (fun r own' H' => ∃ fv' bv' cv' sb' sc' xb' xc', r = .tuple #[.string (recC (z.n + 1 : Nat) l), .int .i64 0] ∧ own' = [(gs, .cells #[fv', .int .i64 ((z.commit l).n : Int), bv', cv'] 28 (0, 0))] :: sb' :: sc' :: own ∧ RSm H' (z.commit l) fv' bv' cv' sb' sc' xb' xc' ∧ Le H H') := by
  have h := ref_Commit (w0 := w0) (own := own) (gs := gs) hz hn hl hm hA
  rw [rCom_good hw] at h
  exact h
theorem ref_Undo1 {z : RS} (hz : z.Ok) (hn : z.n ≤ 10000000) {w0 : World} {H : Hp} {own : List Seg} {gs : Nat} {fv bv cv : Value} {sb sc : Seg} {xb xc : List Value} (hm : RSm H z fv bv cv sb sc xb xc) {p : List Fact × List Fact} (hp : z.stk.getLast? = some p) :
    Fn Tryz.prog 31 [.pointer (some ⟨gs, 0, none⟩)] w0 H ([(gs, .cells #[fv, .int .i64 (z.n : Int), bv, cv] 28 (0, 0))] :: sb :: sc :: own)
      (fun r own' H' => ∃ fv' bv' cv' sb' sc' xb' xc', r = .tuple #[.string (recU (z.n + 1 : Nat)), .int .i64 0] ∧ own' = [(gs, .cells #[fv', .int .i64 ((z.undo p.1 p.2).n : Int), bv', cv'] 28 (0, 0))] :: sb' :: sc' :: own ∧ RSm H' (z.undo p.1 p.2) fv' bv' cv' sb' sc' xb' xc' ∧ Le H H') := by
  have h := ref_Undo (w0 := w0) (own := own) (gs := gs) hz hn hm
  rw [rUnd_s hp] at h
  exact h
theorem ref_Undo0 {z : RS} (hz : z.Ok) (hn : z.n ≤ 10000000) {w0 : World} {H : Hp} {own : List Seg} {gs : Nat} {fv bv cv : Value} {sb sc : Seg} {xb xc : List Value} (hm : RSm H z fv bv cv sb sc xb xc) (hp : z.stk.getLast? = none) :
    Fn Tryz.prog 31 [.pointer (some ⟨gs, 0, none⟩)] w0 H ([(gs, .cells #[fv, .int .i64 (z.n : Int), bv, cv] 28 (0, 0))] :: sb :: sc :: own)
      (fun r own' H' => ∃ fv' bv' cv' sb' sc' xb' xc', r = .tuple #[.string eS, .int .i64 101] ∧ own' = [(gs, .cells #[fv', .int .i64 (z.n : Int), bv', cv'] 28 (0, 0))] :: sb' :: sc' :: own ∧ RSm H' z fv' bv' cv' sb' sc' xb' xc' ∧ Le H H') := by
  have h := ref_Undo (w0 := w0) (own := own) (gs := gs) hz hn hm
  rw [rUnd_n hp] at h
  exact h
theorem ref_next {z : RS} (hz : z.Ok) (hn : z.n ≤ 10000000) {s : ByteArray} (hs : s.size ≤ 1000000000) {w0 : World} {H : Hp} {own : List Seg} {gs : Nat} {fv bv cv : Value} {sb sc : Seg} {xb xc : List Value} (hm : RSm H z fv bv cv sb sc xb xc) :
    Fn Tryz.prog 39 [.pointer (some ⟨gs, 0, none⟩), .string s] w0 H ([(gs, .cells #[fv, .int .i64 (z.n : Int), bv, cv] 28 (0, 0))] :: sb :: sc :: own)
      (fun r own' H' => ∃ fv' bv' cv' sb' sc' xb' xc', r = .int .i64 (nextR z s).2 ∧ own' = [(gs, .cells #[fv', .int .i64 ((nextR z s).1.n : Int), bv', cv'] 28 (0, 0))] :: sb' :: sc' :: own ∧ RSm H' (nextR z s).1 fv' bv' cv' sb' sc' xb' xc' ∧ Le H H') := by
  have hrl := get32_nn (s.data.toList.drop 5)
  obtain ⟨m, hmm⟩ : ∃ m : Nat, rlen s = m := ⟨(rlen s).toNat, by show rlen s = ((rlen s).toNat : Int); have : 0 ≤ rlen s := hrl.1; omega⟩
  have hm32 : (m : Int) ≤ 4294967295 := by rw [← hmm]; exact hrl.2
  have hn1 := get32_nn (s.data.toList.drop 1)
  have hsl := size_list s; refine Fn.enter Tryz.func39 rfl Tryz.ntmps39 rfl ?_; have hL := Le.refl H; refine TC.seq ?_; refine TC.region ?_; refine TL.assign rfl rfl ?_; refine TL.nil ?_; refine TQ.then_n ?_; refine TC.seq ?_; refine TC.seq ?_; refine TC.region ?_; refine TL.move rfl rfl ?_; refine TL.len_string rfl rfl ?_
  refine TL.lssB rfl rfl rfl (fun h11 => ?_) (fun h11 => ?_)
  ·
   refine TL.nil ?_; refine TQ.then_n ?_; refine TC.cond_t rfl ?_; refine TC.seq ?_; refine TC.region ?_; refine TL.assign rfl rfl ?_; refine TL.nil ?_; refine TQ.then_n ?_; refine TC.ret ?_; refine TQ.then_r ?_; refine TQ.toOwn (own' := _ :: _ :: _ :: own) rfl ?_; refine TQ.ret1 0 rfl rfl ?_
   first
     | (rw [next_none (rec_short (by omega))]; exact ⟨_, _, _, _, _, _, _, rfl, rfl, hm, hL⟩)
     | (rw [next_none (rec_long (by omega) (by rw [hmm]; exact hsz))]; exact ⟨_, _, _, _, _, _, _, rfl, rfl, hm, hL⟩)
     | (rw [next_num hnm]; exact ⟨_, _, _, _, _, _, _, rfl, rfl, hm, hL⟩)
     | (rw [next_none (rec_sum (by omega) (by rw [hmm]; exact hsz) hmm hsum)]; exact ⟨_, _, _, _, _, _, _, rfl, rfl, hm, hL⟩)
     | (rw [next_bad hrec (apply_C0 hnm hC hpn)]; exact ⟨_, _, _, _, _, _, _, rfl, rfl, hm, hL⟩)
     | (rw [next_bad hrec (apply_C1 hnm hC hps hw0)]; exact ⟨_, _, _, _, _, _, _, rfl, rfl, hm, hL⟩)
     | (rw [next_ok hrec (apply_C2 hnm hC hps hw0)]; exact ⟨_, _, _, _, _, _, _, by show _ = Value.int .i64 ((11 + pl.size : Nat) : Int); rw [hpls]; rfl, rfl, hm2, hL⟩)
     | (rw [next_bad hrec (apply_U0 hnm hU (by omega))]; exact ⟨_, _, _, _, _, _, _, rfl, rfl, hm, hL⟩)
     | (rw [next_bad hrec (apply_U1 hnm hU (by omega) hgl)]; exact ⟨_, _, _, _, _, _, _, rfl, rfl, hm2, hL⟩)
     | (rw [next_ok hrec (apply_U2 hnm hU (by omega) hgl)]; exact ⟨_, _, _, _, _, _, _, by show _ = Value.int .i64 ((11 + pl.size : Nat) : Int); rw [hpls, show m = 0 by omega]; rfl, rfl, hm2, hL⟩)
     | (rw [next_bad hrec (apply_X hnm hC hU)]; exact ⟨_, _, _, _, _, _, _, rfl, rfl, hm, hL⟩)
  ·
   obtain ⟨b, t, hbt⟩ : ∃ b t, s.data.toList = b :: t := by
     match h : s.data.toList with
     | [] => rw [h] at hsl; simp at hsl; omega
     | b :: t => exact ⟨b, t, rfl⟩
   refine TL.nil ?_; refine TQ.then_n ?_; refine TC.cond_f rfl ?_; refine TC.skip ?_; refine TQ.nsr ?_; refine TL.move rfl rfl ?_; refine TL.sliceS (li := some 5) (ri := none) (5) (s.size) rfl ⟨_, _, rfl, rfl⟩ rfl rfl rfl (by omega) (by omega) rfl ?_; refine TL.call (ref_number4 (by rw [ext_size _ _ _ (Nat.le_refl _)]; omega)) ⟨rfl, trivial⟩ rfl ?_
   rintro _ _ H15 ⟨rfl, rfl, hle15⟩
   rw [from_list, show get32 (s.data.toList.drop 5) = (m : Int) from hmm]
   have hL := Le.trans hL hle15; have hm := RSm.mono hle15 hm; refine TL.assign rfl rfl ?_; refine TL.nil ?_; refine TQ.then_n ?_; refine TC.seq ?_; refine TC.seq ?_
   rcases tri ((s.size : Int) < 11 + (m : Int)) (get32 (s.data.toList.drop 1) ≠ (z.n : Int) + 1) with hsz | ⟨hsz, hnm⟩ | ⟨hsz, hnm⟩
   ·
    refine TC.drawQV 14  [(0, _), (1, _), (4, _), (5, _)] follows_mixed ⟨rfl, rfl, rfl, rfl, trivial⟩ ?_; refine ChainV.q (some 16) [] (fun _ _ _ _ hF => TL.move rfl rfl (TL.one hF)) ?_
    refine ChainV.q (some 17) [(0, 0)] (by
     intro H' X F hle; have hL := Le.trans hL hle; intro hF; refine TL.len_string rfl rfl ?_
     exact TL.one hF) ?_
    refine ChainV.q (some 18) [] (fun _ _ _ _ hF => TL.move rfl rfl (TL.one hF)) ?_; refine ChainV.q (some 19) [(2, 0)] (fun _ _ _ _ hF => TL.add rfl rfl rfl ⟨by omega, by omega⟩ (TL.one hF)) ?_
    refine ChainV.q (some 20) [(1, 2), (3, 0)] (by
     intro H' X F hle; have hL := Le.trans hL hle; intro hF; refine TL.lss rfl rfl rfl ?_
     rw [decide_eq_true hsz]
     exact TL.one hF) ?_
    refine ChainV.q (some 21) [(4, 0)] (fun _ _ _ _ hF => TL.move rfl rfl (TL.one hF)) ?_
    refine ChainV.q (some 22) [(5, 0)] (by
     intro H' X F hle; intro hF; refine TL.gno rfl rfl rfl rfl ?_
     exact TL.one hF) ?_
    refine ChainV.q (some 23) [(6, 0), (5, 1)] (by
     intro H' X F hle; intro hF; refine TL.gno rfl rfl rfl rfl ?_
     exact TL.one hF) ?_
    refine ChainV.q (some 24) [(7, 0), (5, 2)] (by
     intro H' X F hle; intro hF; refine TL.gno rfl rfl rfl rfl ?_
     exact TL.one hF) ?_
    refine ChainV.q (some 25) [(5, 3)] (by
     intro H' X F hle; intro hF; refine TL.gno rfl rfl rfl rfl ?_
     exact TL.one hF) ?_
    refine ChainV.q (some 26) [(9, 0), (5, 4)] (by
     intro H' X F hle; intro hF; refine TL.gno rfl rfl rfl rfl ?_
     exact TL.one hF) ?_
    refine ChainV.q (some 27) [(10, 0), (5, 5)] (by
     intro H' X F hle; intro hF; refine TL.gno rfl rfl rfl rfl ?_
     exact TL.one hF) ?_
    refine ChainV.q (some 28) [(11, 0), (5, 6)] (by
     intro H' X F hle; intro hF; refine TL.gno rfl rfl rfl rfl ?_
     exact TL.one hF) ?_
    refine ChainV.q (some 29) [(12, 0), (5, 7)] (by
     intro H' X F hle; intro hF; refine TL.gno rfl rfl rfl rfl ?_
     exact TL.one hF) ?_
    refine ⟨by kernel_rfl, .refl _, ?_⟩
    ·
     intro H1 hle; have hL := Le.trans hL hle; have hm := RSm.mono hle hm; refine TL.toOwn (own' := _ :: _ :: _ :: own) rfl ?_; refine TL.wk (env' := [(0, _), (1, _), (4, _), (5, _), (21, _), (24, _), (29, _)]) ⟨rfl, rfl, rfl, rfl, rfl, rfl, rfl, trivial⟩ ?_; refine TL.gno rfl rfl rfl rfl ?_; refine TL.pickT rfl rfl rfl rfl ?_; refine TL.nil ?_; refine TQ.then_n ?_; refine TC.cond_t rfl ?_; refine TC.seq ?_; refine TC.region ?_; refine TL.assign rfl rfl ?_; refine TL.nil ?_; refine TQ.then_n ?_; refine TC.ret ?_; refine TQ.then_r ?_; refine TQ.toOwn (own' := _ :: _ :: _ :: own) rfl ?_; refine TQ.ret1 0 rfl rfl ?_
     first
       | (rw [next_none (rec_short (by omega))]; exact ⟨_, _, _, _, _, _, _, rfl, rfl, hm, hL⟩)
       | (rw [next_none (rec_long (by omega) (by rw [hmm]; exact hsz))]; exact ⟨_, _, _, _, _, _, _, rfl, rfl, hm, hL⟩)
       | (rw [next_num hnm]; exact ⟨_, _, _, _, _, _, _, rfl, rfl, hm, hL⟩)
       | (rw [next_none (rec_sum (by omega) (by rw [hmm]; exact hsz) hmm hsum)]; exact ⟨_, _, _, _, _, _, _, rfl, rfl, hm, hL⟩)
       | (rw [next_bad hrec (apply_C0 hnm hC hpn)]; exact ⟨_, _, _, _, _, _, _, rfl, rfl, hm, hL⟩)
       | (rw [next_bad hrec (apply_C1 hnm hC hps hw0)]; exact ⟨_, _, _, _, _, _, _, rfl, rfl, hm, hL⟩)
       | (rw [next_ok hrec (apply_C2 hnm hC hps hw0)]; exact ⟨_, _, _, _, _, _, _, by show _ = Value.int .i64 ((11 + pl.size : Nat) : Int); rw [hpls]; rfl, rfl, hm2, hL⟩)
       | (rw [next_bad hrec (apply_U0 hnm hU (by omega))]; exact ⟨_, _, _, _, _, _, _, rfl, rfl, hm, hL⟩)
       | (rw [next_bad hrec (apply_U1 hnm hU (by omega) hgl)]; exact ⟨_, _, _, _, _, _, _, rfl, rfl, hm2, hL⟩)
       | (rw [next_ok hrec (apply_U2 hnm hU (by omega) hgl)]; exact ⟨_, _, _, _, _, _, _, by show _ = Value.int .i64 ((11 + pl.size : Nat) : Int); rw [hpls, show m = 0 by omega]; rfl, rfl, hm2, hL⟩)
       | (rw [next_bad hrec (apply_X hnm hC hU)]; exact ⟨_, _, _, _, _, _, _, rfl, rfl, hm, hL⟩)
   ·
    refine TC.drawQV 14  [(0, _), (1, _), (4, _), (5, _)] follows_mixed ⟨rfl, rfl, rfl, rfl, trivial⟩ ?_; refine ChainV.q (some 16) [] (fun _ _ _ _ hF => TL.move rfl rfl (TL.one hF)) ?_
    refine ChainV.q (some 17) [(0, 0)] (by
     intro H' X F hle; have hL := Le.trans hL hle; intro hF; refine TL.len_string rfl rfl ?_
     exact TL.one hF) ?_
    refine ChainV.q (some 18) [] (fun _ _ _ _ hF => TL.move rfl rfl (TL.one hF)) ?_; refine ChainV.q (some 19) [(2, 0)] (fun _ _ _ _ hF => TL.add rfl rfl rfl ⟨by omega, by omega⟩ (TL.one hF)) ?_
    refine ChainV.q (some 20) [(1, 2), (3, 0)] (by
     intro H' X F hle; have hL := Le.trans hL hle; intro hF; refine TL.lss rfl rfl rfl ?_
     rw [decide_eq_false hsz]
     exact TL.one hF) ?_
    refine ChainV.q (some 21) [(4, 0)] (fun _ _ _ _ hF => TL.move rfl rfl (TL.one hF)) ?_
    refine ChainV.q (some 22) [(5, 0)] (by
     intro H' X F hle; intro hF; refine TL.gyes rfl rfl rfl ?_; refine TL.move rfl rfl ?_
     exact TL.one hF) ?_
    refine ChainV.q (some 23) [(6, 0), (5, 1)] (by
     intro H' X F hle; have hL := Le.trans hL hle; intro hF; refine TL.gyes rfl rfl rfl ?_; refine TL.sliceS (li := some 1) (ri := none) (1) (s.size) rfl ⟨_, _, rfl, rfl⟩ rfl rfl rfl (by omega) (by omega) rfl ?_
     exact TL.one hF) ?_
    refine ChainV.q (some 24) [(7, 0), (5, 2)] (by
     intro H' X F hle; have hL := Le.trans hL hle; intro hF; refine TL.gyes rfl rfl rfl ?_; refine TL.call (ref_number4 (by rw [ext_size _ _ _ (Nat.le_refl _)]; omega)) ⟨rfl, trivial⟩ rfl ?_
     rintro _ _ H24 ⟨rfl, rfl, hle24⟩
     rw [from_list]
     have hL := Le.trans hL hle24; refine TL.nil ?_
     exact TQ.one [] hF hle24 ⟨rfl, rfl⟩) ?_
    refine ChainV.q (some 25) [(5, 3)] (by
     intro H' X F hle; intro hF; refine TL.gyes rfl rfl rfl ?_; refine TL.move rfl rfl ?_
     exact TL.one hF) ?_
    refine ChainV.q (some 26) [(9, 0), (5, 4)] (by
     intro H' X F hle; intro hF; refine TL.gyes rfl rfl rfl ?_; refine TL.nilCheck rfl rfl ?_
     exact TL.one hF) ?_
    refine ChainV.q (some 27) [(10, 0), (5, 5)] (by
     intro H' X F hle; intro hF; refine TL.gyes rfl rfl rfl ?_; refine TL.fieldAddr rfl rfl ?_
     exact TL.one hF) ?_
    refine ChainV.q (some 28) [(11, 0), (5, 6)] (by
     intro H' X F hle; have hL := Le.trans hL hle; intro hF; refine TL.gyes rfl rfl rfl ?_; refine TL.load_own 0 0 rfl rfl rfl rfl rfl ?_
     exact TL.one hF) ?_
    refine ChainV.q (some 29) [(12, 0), (5, 7)] (by
     intro H' X F hle; intro hF; refine TL.gyes rfl rfl rfl ?_; refine TL.add rfl rfl rfl ⟨by omega, by omega⟩ ?_
     exact TL.one hF) ?_
    refine ⟨by kernel_rfl, .refl _, ?_⟩
    ·
     intro H2 hle; have hL := Le.trans hL hle; have hm := RSm.mono hle hm; refine TL.toOwn (own' := _ :: _ :: _ :: own) rfl ?_; refine TL.wk (env' := [(0, _), (1, _), (4, _), (5, _), (21, _), (24, _), (29, _)]) ⟨rfl, rfl, rfl, rfl, rfl, rfl, rfl, trivial⟩ ?_; refine TL.gyes rfl rfl rfl ?_; refine TL.neq rfl rfl rfl ?_
     rw [decide_eq_true hnm]
     refine TL.pickF rfl rfl rfl rfl ?_; refine TL.nil ?_; refine TQ.then_n ?_; refine TC.cond_t rfl ?_; refine TC.seq ?_; refine TC.region ?_; refine TL.assign rfl rfl ?_; refine TL.nil ?_; refine TQ.then_n ?_; refine TC.ret ?_; refine TQ.then_r ?_; refine TQ.toOwn (own' := _ :: _ :: _ :: own) rfl ?_; refine TQ.ret1 0 rfl rfl ?_
     first
       | (rw [next_none (rec_short (by omega))]; exact ⟨_, _, _, _, _, _, _, rfl, rfl, hm, hL⟩)
       | (rw [next_none (rec_long (by omega) (by rw [hmm]; exact hsz))]; exact ⟨_, _, _, _, _, _, _, rfl, rfl, hm, hL⟩)
       | (rw [next_num hnm]; exact ⟨_, _, _, _, _, _, _, rfl, rfl, hm, hL⟩)
       | (rw [next_none (rec_sum (by omega) (by rw [hmm]; exact hsz) hmm hsum)]; exact ⟨_, _, _, _, _, _, _, rfl, rfl, hm, hL⟩)
       | (rw [next_bad hrec (apply_C0 hnm hC hpn)]; exact ⟨_, _, _, _, _, _, _, rfl, rfl, hm, hL⟩)
       | (rw [next_bad hrec (apply_C1 hnm hC hps hw0)]; exact ⟨_, _, _, _, _, _, _, rfl, rfl, hm, hL⟩)
       | (rw [next_ok hrec (apply_C2 hnm hC hps hw0)]; exact ⟨_, _, _, _, _, _, _, by show _ = Value.int .i64 ((11 + pl.size : Nat) : Int); rw [hpls]; rfl, rfl, hm2, hL⟩)
       | (rw [next_bad hrec (apply_U0 hnm hU (by omega))]; exact ⟨_, _, _, _, _, _, _, rfl, rfl, hm, hL⟩)
       | (rw [next_bad hrec (apply_U1 hnm hU (by omega) hgl)]; exact ⟨_, _, _, _, _, _, _, rfl, rfl, hm2, hL⟩)
       | (rw [next_ok hrec (apply_U2 hnm hU (by omega) hgl)]; exact ⟨_, _, _, _, _, _, _, by show _ = Value.int .i64 ((11 + pl.size : Nat) : Int); rw [hpls, show m = 0 by omega]; rfl, rfl, hm2, hL⟩)
       | (rw [next_bad hrec (apply_X hnm hC hU)]; exact ⟨_, _, _, _, _, _, _, rfl, rfl, hm, hL⟩)
   ·
    refine TC.drawQV 14  [(0, _), (1, _), (4, _), (5, _)] follows_mixed ⟨rfl, rfl, rfl, rfl, trivial⟩ ?_; refine ChainV.q (some 16) [] (fun _ _ _ _ hF => TL.move rfl rfl (TL.one hF)) ?_
    refine ChainV.q (some 17) [(0, 0)] (by
     intro H' X F hle; have hL := Le.trans hL hle; intro hF; refine TL.len_string rfl rfl ?_
     exact TL.one hF) ?_
    refine ChainV.q (some 18) [] (fun _ _ _ _ hF => TL.move rfl rfl (TL.one hF)) ?_; refine ChainV.q (some 19) [(2, 0)] (fun _ _ _ _ hF => TL.add rfl rfl rfl ⟨by omega, by omega⟩ (TL.one hF)) ?_
    refine ChainV.q (some 20) [(1, 2), (3, 0)] (by
     intro H' X F hle; have hL := Le.trans hL hle; intro hF; refine TL.lss rfl rfl rfl ?_
     rw [decide_eq_false hsz]
     exact TL.one hF) ?_
    refine ChainV.q (some 21) [(4, 0)] (fun _ _ _ _ hF => TL.move rfl rfl (TL.one hF)) ?_
    refine ChainV.q (some 22) [(5, 0)] (by
     intro H' X F hle; intro hF; refine TL.gyes rfl rfl rfl ?_; refine TL.move rfl rfl ?_
     exact TL.one hF) ?_
    refine ChainV.q (some 23) [(6, 0), (5, 1)] (by
     intro H' X F hle; have hL := Le.trans hL hle; intro hF; refine TL.gyes rfl rfl rfl ?_; refine TL.sliceS (li := some 1) (ri := none) (1) (s.size) rfl ⟨_, _, rfl, rfl⟩ rfl rfl rfl (by omega) (by omega) rfl ?_
     exact TL.one hF) ?_
    refine ChainV.q (some 24) [(7, 0), (5, 2)] (by
     intro H' X F hle; have hL := Le.trans hL hle; intro hF; refine TL.gyes rfl rfl rfl ?_; refine TL.call (ref_number4 (by rw [ext_size _ _ _ (Nat.le_refl _)]; omega)) ⟨rfl, trivial⟩ rfl ?_
     rintro _ _ H24 ⟨rfl, rfl, hle24⟩
     rw [from_list]
     have hL := Le.trans hL hle24; refine TL.nil ?_
     exact TQ.one [] hF hle24 ⟨rfl, rfl⟩) ?_
    refine ChainV.q (some 25) [(5, 3)] (by
     intro H' X F hle; intro hF; refine TL.gyes rfl rfl rfl ?_; refine TL.move rfl rfl ?_
     exact TL.one hF) ?_
    refine ChainV.q (some 26) [(9, 0), (5, 4)] (by
     intro H' X F hle; intro hF; refine TL.gyes rfl rfl rfl ?_; refine TL.nilCheck rfl rfl ?_
     exact TL.one hF) ?_
    refine ChainV.q (some 27) [(10, 0), (5, 5)] (by
     intro H' X F hle; intro hF; refine TL.gyes rfl rfl rfl ?_; refine TL.fieldAddr rfl rfl ?_
     exact TL.one hF) ?_
    refine ChainV.q (some 28) [(11, 0), (5, 6)] (by
     intro H' X F hle; have hL := Le.trans hL hle; intro hF; refine TL.gyes rfl rfl rfl ?_; refine TL.load_own 0 0 rfl rfl rfl rfl rfl ?_
     exact TL.one hF) ?_
    refine ChainV.q (some 29) [(12, 0), (5, 7)] (by
     intro H' X F hle; intro hF; refine TL.gyes rfl rfl rfl ?_; refine TL.add rfl rfl rfl ⟨by omega, by omega⟩ ?_
     exact TL.one hF) ?_
    refine ⟨by kernel_rfl, .refl _, ?_⟩
    ·
     intro H3 hle; have hL := Le.trans hL hle; have hm := RSm.mono hle hm; refine TL.toOwn (own' := _ :: _ :: _ :: own) rfl ?_; refine TL.wk (env' := [(0, _), (1, _), (4, _), (5, _), (21, _), (24, _), (29, _)]) ⟨rfl, rfl, rfl, rfl, rfl, rfl, rfl, trivial⟩ ?_; refine TL.gyes rfl rfl rfl ?_; refine TL.neq rfl rfl rfl ?_
     rw [decide_eq_false hnm]
     refine TL.pickF rfl rfl rfl rfl ?_; refine TL.nil ?_; refine TQ.then_n ?_; refine TC.cond_f rfl ?_; refine TC.skip ?_; refine TQ.then_n ?_; refine TC.seq ?_; refine TC.seq ?_
     by_cases hsum : get16 (s.data.toList.drop (9 + m)) ≠ crc (s.data.toList.take (9 + m))
     ·
      refine TC.drawQV 9  [(0, _), (1, _), (4, _), (5, _)] follows_mixed ⟨rfl, rfl, rfl, rfl, trivial⟩ ?_; refine ChainV.q (some 32) [] (fun _ _ _ _ hF => TL.move rfl rfl (TL.one hF)) ?_; refine ChainV.q (some 33) [] (fun _ _ _ _ hF => TL.move rfl rfl (TL.one hF)) ?_; refine ChainV.q (some 34) [(1, 0)] (fun _ _ _ _ hF => TL.add rfl rfl rfl ⟨by omega, by omega⟩ (TL.one hF)) ?_
      refine ChainV.q (some 35) [(0, 2), (2, 0)] (by
       intro H' X F hle; have hL := Le.trans hL hle; intro hF; refine TL.sliceS (li := some (9 + (m : Int))) (ri := none) (9 + m) (s.size) rfl ⟨_, _, rfl, rfl⟩ rfl (by show (9 + (m : Int) : Int) = _; omega) rfl (by omega) (by omega) rfl ?_
       exact TL.one hF) ?_
      refine ChainV.q (some 36) [(3, 0)] (by
       intro H' X F hle; have hL := Le.trans hL hle; intro hF; refine TL.call (ref_Get) ⟨rfl, trivial⟩ rfl ?_
       rintro _ _ H36 ⟨rfl, rfl, hle36⟩
       rw [from_list]
       have hL := Le.trans hL hle36; refine TL.nil ?_
       exact TQ.one [] hF hle36 ⟨rfl, rfl⟩) ?_
      refine ChainV.q (some 37) [] (fun _ _ _ _ hF => TL.move rfl rfl (TL.one hF)) ?_; refine ChainV.q (some 38) [] (fun _ _ _ _ hF => TL.move rfl rfl (TL.one hF)) ?_; refine ChainV.q (some 39) [(6, 0)] (fun _ _ _ _ hF => TL.add rfl rfl rfl ⟨by omega, by omega⟩ (TL.one hF)) ?_
      refine ChainV.q (some 40) [(5, 2), (7, 0)] (by
       intro H' X F hle; have hL := Le.trans hL hle; intro hF; refine TL.sliceS (li := none) (ri := some (9 + (m : Int))) (0) (9 + m) rfl rfl ⟨_, _, rfl, rfl⟩ rfl (by show (9 + (m : Int) : Int) = _; omega) (by omega) (by omega) rfl ?_
       exact TL.one hF) ?_
      refine ⟨by kernel_rfl, .refl _, ?_⟩
      ·
       intro H4 hle; have hL := Le.trans hL hle; have hm := RSm.mono hle hm; refine TL.toOwn (own' := _ :: _ :: _ :: own) rfl ?_; refine TL.wk (env' := [(0, _), (1, _), (4, _), (5, _), (36, _), (40, _)]) ⟨rfl, rfl, rfl, rfl, rfl, rfl, trivial⟩ ?_; refine TL.call (ref_Sum (by rw [ext_size _ _ _ (by omega)]; omega)) ⟨rfl, trivial⟩ rfl ?_
       rintro _ _ H41 ⟨rfl, rfl, hle41⟩
       rw [to_list]
       have hL := Le.trans hL hle41; have hm := RSm.mono hle41 hm; refine TL.neq rfl rfl rfl ?_
       rw [decide_eq_true hsum]
       refine TL.nil ?_; refine TQ.then_n ?_; refine TC.cond_t rfl ?_; refine TC.seq ?_; refine TC.region ?_; refine TL.assign rfl rfl ?_; refine TL.nil ?_; refine TQ.then_n ?_; refine TC.ret ?_; refine TQ.then_r ?_; refine TQ.toOwn (own' := _ :: _ :: _ :: own) rfl ?_; refine TQ.ret1 0 rfl rfl ?_
       first
         | (rw [next_none (rec_short (by omega))]; exact ⟨_, _, _, _, _, _, _, rfl, rfl, hm, hL⟩)
         | (rw [next_none (rec_long (by omega) (by rw [hmm]; exact hsz))]; exact ⟨_, _, _, _, _, _, _, rfl, rfl, hm, hL⟩)
         | (rw [next_num hnm]; exact ⟨_, _, _, _, _, _, _, rfl, rfl, hm, hL⟩)
         | (rw [next_none (rec_sum (by omega) (by rw [hmm]; exact hsz) hmm hsum)]; exact ⟨_, _, _, _, _, _, _, rfl, rfl, hm, hL⟩)
         | (rw [next_bad hrec (apply_C0 hnm hC hpn)]; exact ⟨_, _, _, _, _, _, _, rfl, rfl, hm, hL⟩)
         | (rw [next_bad hrec (apply_C1 hnm hC hps hw0)]; exact ⟨_, _, _, _, _, _, _, rfl, rfl, hm, hL⟩)
         | (rw [next_ok hrec (apply_C2 hnm hC hps hw0)]; exact ⟨_, _, _, _, _, _, _, by show _ = Value.int .i64 ((11 + pl.size : Nat) : Int); rw [hpls]; rfl, rfl, hm2, hL⟩)
         | (rw [next_bad hrec (apply_U0 hnm hU (by omega))]; exact ⟨_, _, _, _, _, _, _, rfl, rfl, hm, hL⟩)
         | (rw [next_bad hrec (apply_U1 hnm hU (by omega) hgl)]; exact ⟨_, _, _, _, _, _, _, rfl, rfl, hm2, hL⟩)
         | (rw [next_ok hrec (apply_U2 hnm hU (by omega) hgl)]; exact ⟨_, _, _, _, _, _, _, by show _ = Value.int .i64 ((11 + pl.size : Nat) : Int); rw [hpls, show m = 0 by omega]; rfl, rfl, hm2, hL⟩)
         | (rw [next_bad hrec (apply_X hnm hC hU)]; exact ⟨_, _, _, _, _, _, _, rfl, rfl, hm, hL⟩)
     ·
      have hrec := rec_ok (by omega) (by rw [hmm]; exact hsz) hmm hsum hbt
      obtain ⟨pl, hpl⟩ : ∃ pl, pl = s.extract 9 (9 + m) := ⟨_, rfl⟩
      have hpls : pl.size = m := by rw [hpl, ext_size _ _ _ (by omega)]; omega
      rw [← hpl] at hrec
      refine TC.drawQV 9  [(0, _), (1, _), (4, _), (5, _)] follows_mixed ⟨rfl, rfl, rfl, rfl, trivial⟩ ?_; refine ChainV.q (some 32) [] (fun _ _ _ _ hF => TL.move rfl rfl (TL.one hF)) ?_; refine ChainV.q (some 33) [] (fun _ _ _ _ hF => TL.move rfl rfl (TL.one hF)) ?_; refine ChainV.q (some 34) [(1, 0)] (fun _ _ _ _ hF => TL.add rfl rfl rfl ⟨by omega, by omega⟩ (TL.one hF)) ?_
      refine ChainV.q (some 35) [(0, 2), (2, 0)] (by
       intro H' X F hle; have hL := Le.trans hL hle; intro hF; refine TL.sliceS (li := some (9 + (m : Int))) (ri := none) (9 + m) (s.size) rfl ⟨_, _, rfl, rfl⟩ rfl (by show (9 + (m : Int) : Int) = _; omega) rfl (by omega) (by omega) rfl ?_
       exact TL.one hF) ?_
      refine ChainV.q (some 36) [(3, 0)] (by
       intro H' X F hle; have hL := Le.trans hL hle; intro hF; refine TL.call (ref_Get) ⟨rfl, trivial⟩ rfl ?_
       rintro _ _ H36 ⟨rfl, rfl, hle36⟩
       rw [from_list]
       have hL := Le.trans hL hle36; refine TL.nil ?_
       exact TQ.one [] hF hle36 ⟨rfl, rfl⟩) ?_
      refine ChainV.q (some 37) [] (fun _ _ _ _ hF => TL.move rfl rfl (TL.one hF)) ?_; refine ChainV.q (some 38) [] (fun _ _ _ _ hF => TL.move rfl rfl (TL.one hF)) ?_; refine ChainV.q (some 39) [(6, 0)] (fun _ _ _ _ hF => TL.add rfl rfl rfl ⟨by omega, by omega⟩ (TL.one hF)) ?_
      refine ChainV.q (some 40) [(5, 2), (7, 0)] (by
       intro H' X F hle; have hL := Le.trans hL hle; intro hF; refine TL.sliceS (li := none) (ri := some (9 + (m : Int))) (0) (9 + m) rfl rfl ⟨_, _, rfl, rfl⟩ rfl (by show (9 + (m : Int) : Int) = _; omega) (by omega) (by omega) rfl ?_
       exact TL.one hF) ?_
      refine ⟨by kernel_rfl, .refl _, ?_⟩
      ·
       intro H5 hle; have hL := Le.trans hL hle; have hm := RSm.mono hle hm; refine TL.toOwn (own' := _ :: _ :: _ :: own) rfl ?_; refine TL.wk (env' := [(0, _), (1, _), (4, _), (5, _), (36, _), (40, _)]) ⟨rfl, rfl, rfl, rfl, rfl, rfl, trivial⟩ ?_; refine TL.call (ref_Sum (by rw [ext_size _ _ _ (by omega)]; omega)) ⟨rfl, trivial⟩ rfl ?_
       rintro _ _ H41 ⟨rfl, rfl, hle41⟩
       rw [to_list]
       have hL := Le.trans hL hle41; have hm := RSm.mono hle41 hm; refine TL.neq rfl rfl rfl ?_
       rw [decide_eq_false hsum]
       refine TL.nil ?_; refine TQ.then_n ?_; refine TC.cond_f rfl ?_; refine TC.skip ?_; refine TQ.then_n ?_; refine TC.seq ?_; refine TC.seq ?_; refine TC.region ?_; refine TL.move rfl rfl ?_; refine TL.sliceS (li := none) (ri := some 1) 0 1 rfl rfl ⟨_, _, rfl, rfl⟩ rfl rfl (by omega) (by omega) rfl ?_
       rw [ext1 hbt]
       refine TL.nil ?_; refine TQ.then_n ?_; refine TC.block ?_; refine TC.seq ?_; refine TC.region ?_
       refine TL.eqlSB rfl rfl rfl (fun hC => ?_) (fun hC => ?_)
       ·
        rw [one_inj] at hC
        refine TL.assign rfl rfl ?_; refine TL.nil ?_; refine TQ.then_n ?_; refine TC.cond_t rfl ?_; refine TC.seq ?_; refine TC.region ?_; refine TL.move rfl rfl ?_; refine TL.move rfl rfl ?_; refine TL.add rfl rfl rfl ⟨by omega, by omega⟩ ?_; refine TL.sliceS (li := some 9) (ri := some (9 + (m : Int))) 9 (9 + m) rfl ⟨_, _, rfl, rfl⟩ ⟨_, _, rfl, rfl⟩ rfl (by show (9 + (m : Int)) = _; omega) (by omega) (by omega) rfl ?_
        rw [← hpl]
        refine TL.call (ref_parse (by omega)) ⟨rfl, trivial⟩ rfl ?_
        rintro r52 _ H52 ⟨rfl, hle52, hr52⟩
        rcases parse_cases hr52 with ⟨hpn, rfl⟩ | ⟨l, v52, hps, hw0, rfl, hA⟩ | ⟨l, v52, hps, hw0, rfl, hA⟩
        ·
         have hL := Le.trans hL hle52; have hm := RSm.mono hle52 hm; refine TL.move rfl rfl ?_; refine TL.extract rfl rfl rfl ?_; refine TL.extract rfl rfl rfl ?_; refine TL.assign rfl rfl ?_; refine TL.assign rfl rfl ?_; refine TL.nil ?_; refine TQ.then_n ?_; refine TC.seq ?_; refine TC.seq ?_; refine TC.region ?_; refine TL.move rfl rfl ?_; refine TL.not rfl rfl ?_; refine TL.nil ?_; refine TQ.then_n ?_; refine TC.cond_t rfl ?_; refine TC.seq ?_; refine TC.region ?_; refine TL.assign rfl rfl ?_; refine TL.nil ?_; refine TQ.then_n ?_; refine TC.ret ?_; refine TQ.then_r ?_; refine TQ.in_r ?_; refine TQ.then_r ?_; refine TQ.toOwn (own' := _ :: _ :: _ :: own) rfl ?_; refine TQ.ret1 0 rfl rfl ?_
         first
           | (rw [next_none (rec_short (by omega))]; exact ⟨_, _, _, _, _, _, _, rfl, rfl, hm, hL⟩)
           | (rw [next_none (rec_long (by omega) (by rw [hmm]; exact hsz))]; exact ⟨_, _, _, _, _, _, _, rfl, rfl, hm, hL⟩)
           | (rw [next_num hnm]; exact ⟨_, _, _, _, _, _, _, rfl, rfl, hm, hL⟩)
           | (rw [next_none (rec_sum (by omega) (by rw [hmm]; exact hsz) hmm hsum)]; exact ⟨_, _, _, _, _, _, _, rfl, rfl, hm, hL⟩)
           | (rw [next_bad hrec (apply_C0 hnm hC hpn)]; exact ⟨_, _, _, _, _, _, _, rfl, rfl, hm, hL⟩)
           | (rw [next_bad hrec (apply_C1 hnm hC hps hw0)]; exact ⟨_, _, _, _, _, _, _, rfl, rfl, hm, hL⟩)
           | (rw [next_ok hrec (apply_C2 hnm hC hps hw0)]; exact ⟨_, _, _, _, _, _, _, by show _ = Value.int .i64 ((11 + pl.size : Nat) : Int); rw [hpls]; rfl, rfl, hm2, hL⟩)
           | (rw [next_bad hrec (apply_U0 hnm hU (by omega))]; exact ⟨_, _, _, _, _, _, _, rfl, rfl, hm, hL⟩)
           | (rw [next_bad hrec (apply_U1 hnm hU (by omega) hgl)]; exact ⟨_, _, _, _, _, _, _, rfl, rfl, hm2, hL⟩)
           | (rw [next_ok hrec (apply_U2 hnm hU (by omega) hgl)]; exact ⟨_, _, _, _, _, _, _, by show _ = Value.int .i64 ((11 + pl.size : Nat) : Int); rw [hpls, show m = 0 by omega]; rfl, rfl, hm2, hL⟩)
           | (rw [next_bad hrec (apply_X hnm hC hU)]; exact ⟨_, _, _, _, _, _, _, rfl, rfl, hm, hL⟩)
        ·
         have hL := Le.trans hL hle52; have hm := RSm.mono hle52 hm; refine TL.move rfl rfl ?_; refine TL.extract rfl rfl rfl ?_; refine TL.extract rfl rfl rfl ?_; refine TL.assign rfl rfl ?_; refine TL.assign rfl rfl ?_; refine TL.nil ?_; refine TQ.then_n ?_; refine TC.seq ?_; refine TC.seq ?_; refine TC.region ?_; refine TL.move rfl rfl ?_; refine TL.not rfl rfl ?_; refine TL.nil ?_; refine TQ.then_n ?_; refine TC.cond_f rfl ?_; refine TC.skip ?_; refine TQ.nsr ?_; refine TL.move rfl rfl ?_; refine TL.move rfl rfl ?_; refine TL.call (ref_Commit1 hz hn (pAll_fok _ (Nat.le_refl _) hps).1 hm hA hw0) ⟨rfl, rfl, trivial⟩ rfl ?_
         rintro _ _ H59 ⟨fv2, bv2, cv2, sb2, sc2, xb2, xc2, rfl, rfl, hm2, hle59⟩
         have hL := Le.trans hL hle59; have hm := RSm.mono hle59 hm; refine TL.nsr ?_; refine TL.move rfl rfl ?_; refine TL.add rfl rfl rfl ⟨by omega, by omega⟩ ?_; refine TL.assign rfl rfl ?_; refine TL.nil ?_; refine TQ.then_n ?_; refine TC.ret ?_; refine TQ.in_r ?_; refine TQ.then_r ?_; refine TQ.toOwn (own' := _ :: _ :: _ :: own) rfl ?_; refine TQ.ret1 0 rfl rfl ?_
         first
           | (rw [next_none (rec_short (by omega))]; exact ⟨_, _, _, _, _, _, _, rfl, rfl, hm, hL⟩)
           | (rw [next_none (rec_long (by omega) (by rw [hmm]; exact hsz))]; exact ⟨_, _, _, _, _, _, _, rfl, rfl, hm, hL⟩)
           | (rw [next_num hnm]; exact ⟨_, _, _, _, _, _, _, rfl, rfl, hm, hL⟩)
           | (rw [next_none (rec_sum (by omega) (by rw [hmm]; exact hsz) hmm hsum)]; exact ⟨_, _, _, _, _, _, _, rfl, rfl, hm, hL⟩)
           | (rw [next_bad hrec (apply_C0 hnm hC hpn)]; exact ⟨_, _, _, _, _, _, _, rfl, rfl, hm, hL⟩)
           | (rw [next_bad hrec (apply_C1 hnm hC hps hw0)]; exact ⟨_, _, _, _, _, _, _, rfl, rfl, hm, hL⟩)
           | (rw [next_ok hrec (apply_C2 hnm hC hps hw0)]; exact ⟨_, _, _, _, _, _, _, by show _ = Value.int .i64 ((11 + pl.size : Nat) : Int); rw [hpls]; rfl, rfl, hm2, hL⟩)
           | (rw [next_bad hrec (apply_U0 hnm hU (by omega))]; exact ⟨_, _, _, _, _, _, _, rfl, rfl, hm, hL⟩)
           | (rw [next_bad hrec (apply_U1 hnm hU (by omega) hgl)]; exact ⟨_, _, _, _, _, _, _, rfl, rfl, hm2, hL⟩)
           | (rw [next_ok hrec (apply_U2 hnm hU (by omega) hgl)]; exact ⟨_, _, _, _, _, _, _, by show _ = Value.int .i64 ((11 + pl.size : Nat) : Int); rw [hpls, show m = 0 by omega]; rfl, rfl, hm2, hL⟩)
           | (rw [next_bad hrec (apply_X hnm hC hU)]; exact ⟨_, _, _, _, _, _, _, rfl, rfl, hm, hL⟩)
        ·
         have hL := Le.trans hL hle52; have hm := RSm.mono hle52 hm; refine TL.move rfl rfl ?_; refine TL.extract rfl rfl rfl ?_; refine TL.extract rfl rfl rfl ?_; refine TL.assign rfl rfl ?_; refine TL.assign rfl rfl ?_; refine TL.nil ?_; refine TQ.then_n ?_; refine TC.seq ?_; refine TC.seq ?_; refine TC.region ?_; refine TL.move rfl rfl ?_; refine TL.not rfl rfl ?_; refine TL.nil ?_; refine TQ.then_n ?_; refine TC.cond_t rfl ?_; refine TC.seq ?_; refine TC.region ?_; refine TL.assign rfl rfl ?_; refine TL.nil ?_; refine TQ.then_n ?_; refine TC.ret ?_; refine TQ.then_r ?_; refine TQ.in_r ?_; refine TQ.then_r ?_; refine TQ.toOwn (own' := _ :: _ :: _ :: own) rfl ?_; refine TQ.ret1 0 rfl rfl ?_
         first
           | (rw [next_none (rec_short (by omega))]; exact ⟨_, _, _, _, _, _, _, rfl, rfl, hm, hL⟩)
           | (rw [next_none (rec_long (by omega) (by rw [hmm]; exact hsz))]; exact ⟨_, _, _, _, _, _, _, rfl, rfl, hm, hL⟩)
           | (rw [next_num hnm]; exact ⟨_, _, _, _, _, _, _, rfl, rfl, hm, hL⟩)
           | (rw [next_none (rec_sum (by omega) (by rw [hmm]; exact hsz) hmm hsum)]; exact ⟨_, _, _, _, _, _, _, rfl, rfl, hm, hL⟩)
           | (rw [next_bad hrec (apply_C0 hnm hC hpn)]; exact ⟨_, _, _, _, _, _, _, rfl, rfl, hm, hL⟩)
           | (rw [next_bad hrec (apply_C1 hnm hC hps hw0)]; exact ⟨_, _, _, _, _, _, _, rfl, rfl, hm, hL⟩)
           | (rw [next_ok hrec (apply_C2 hnm hC hps hw0)]; exact ⟨_, _, _, _, _, _, _, by show _ = Value.int .i64 ((11 + pl.size : Nat) : Int); rw [hpls]; rfl, rfl, hm2, hL⟩)
           | (rw [next_bad hrec (apply_U0 hnm hU (by omega))]; exact ⟨_, _, _, _, _, _, _, rfl, rfl, hm, hL⟩)
           | (rw [next_bad hrec (apply_U1 hnm hU (by omega) hgl)]; exact ⟨_, _, _, _, _, _, _, rfl, rfl, hm2, hL⟩)
           | (rw [next_ok hrec (apply_U2 hnm hU (by omega) hgl)]; exact ⟨_, _, _, _, _, _, _, by show _ = Value.int .i64 ((11 + pl.size : Nat) : Int); rw [hpls, show m = 0 by omega]; rfl, rfl, hm2, hL⟩)
           | (rw [next_bad hrec (apply_X hnm hC hU)]; exact ⟨_, _, _, _, _, _, _, rfl, rfl, hm, hL⟩)
       ·
        replace hC : b ≠ 67 := fun h => hC (by rw [h])
        refine TL.assign rfl rfl ?_; refine TL.nil ?_; refine TQ.then_n ?_; refine TC.cond_f rfl ?_; refine TC.seq ?_; refine TC.region ?_
        refine TL.eqlSB rfl rfl rfl (fun hU => ?_) (fun hU => ?_)
        ·
         rw [one_inj] at hU
         refine TL.assign rfl rfl ?_; refine TL.nil ?_; refine TQ.then_n ?_; refine TC.cond_t rfl ?_; refine TC.seq ?_; refine TC.seq ?_; refine TC.region ?_; refine TL.move rfl rfl ?_
         refine TL.gtrB rfl rfl rfl (fun hU0 => ?_) (fun hU0 => ?_)
         ·
          refine TL.nil ?_; refine TQ.then_n ?_; refine TC.cond_t rfl ?_; refine TC.seq ?_; refine TC.region ?_; refine TL.assign rfl rfl ?_; refine TL.nil ?_; refine TQ.then_n ?_; refine TC.ret ?_; refine TQ.then_r ?_; refine TQ.in_r ?_; refine TQ.then_r ?_; refine TQ.toOwn (own' := _ :: _ :: _ :: own) rfl ?_; refine TQ.ret1 0 rfl rfl ?_
          first
            | (rw [next_none (rec_short (by omega))]; exact ⟨_, _, _, _, _, _, _, rfl, rfl, hm, hL⟩)
            | (rw [next_none (rec_long (by omega) (by rw [hmm]; exact hsz))]; exact ⟨_, _, _, _, _, _, _, rfl, rfl, hm, hL⟩)
            | (rw [next_num hnm]; exact ⟨_, _, _, _, _, _, _, rfl, rfl, hm, hL⟩)
            | (rw [next_none (rec_sum (by omega) (by rw [hmm]; exact hsz) hmm hsum)]; exact ⟨_, _, _, _, _, _, _, rfl, rfl, hm, hL⟩)
            | (rw [next_bad hrec (apply_C0 hnm hC hpn)]; exact ⟨_, _, _, _, _, _, _, rfl, rfl, hm, hL⟩)
            | (rw [next_bad hrec (apply_C1 hnm hC hps hw0)]; exact ⟨_, _, _, _, _, _, _, rfl, rfl, hm, hL⟩)
            | (rw [next_ok hrec (apply_C2 hnm hC hps hw0)]; exact ⟨_, _, _, _, _, _, _, by show _ = Value.int .i64 ((11 + pl.size : Nat) : Int); rw [hpls]; rfl, rfl, hm2, hL⟩)
            | (rw [next_bad hrec (apply_U0 hnm hU (by omega))]; exact ⟨_, _, _, _, _, _, _, rfl, rfl, hm, hL⟩)
            | (rw [next_bad hrec (apply_U1 hnm hU (by omega) hgl)]; exact ⟨_, _, _, _, _, _, _, rfl, rfl, hm2, hL⟩)
            | (rw [next_ok hrec (apply_U2 hnm hU (by omega) hgl)]; exact ⟨_, _, _, _, _, _, _, by show _ = Value.int .i64 ((11 + pl.size : Nat) : Int); rw [hpls, show m = 0 by omega]; rfl, rfl, hm2, hL⟩)
            | (rw [next_bad hrec (apply_X hnm hC hU)]; exact ⟨_, _, _, _, _, _, _, rfl, rfl, hm, hL⟩)
         ·
          refine TL.nil ?_; refine TQ.then_n ?_; refine TC.cond_f rfl ?_; refine TC.skip ?_; refine TQ.then_n ?_; refine TC.seq ?_
          rcases hgl : z.stk.getLast? with _ | p
          ·
           refine TC.region ?_; refine TL.move rfl rfl ?_; refine TL.call (ref_Undo0 hz hn hm hgl) ⟨rfl, trivial⟩ rfl ?_
           rintro _ _ H68 ⟨fv2, bv2, cv2, sb2, sc2, xb2, xc2, rfl, rfl, hm2, hle68⟩
           have hL := Le.trans hL hle68; have hm := RSm.mono hle68 hm; refine TL.move rfl rfl ?_; refine TL.extract rfl rfl rfl ?_; refine TL.extract rfl rfl rfl ?_; refine TL.assign rfl rfl ?_; refine TL.assign rfl rfl ?_; refine TL.nsr ?_; refine TL.move rfl rfl ?_; refine TL.eql rfl rfl rfl ?_
           rw [decide_eq_false (by decide)]
           refine TL.nil ?_; refine TQ.then_n ?_; refine TC.cond_f rfl ?_; refine TC.skip ?_; refine TQ.in_n ?_; refine TQ.nsr ?_; refine TL.assign rfl rfl ?_; refine TL.nil ?_; refine TQ.then_n ?_; refine TC.ret ?_; refine TQ.toOwn (own' := _ :: _ :: _ :: own) rfl ?_; refine TQ.ret1 0 rfl rfl ?_
           first
             | (rw [next_none (rec_short (by omega))]; exact ⟨_, _, _, _, _, _, _, rfl, rfl, hm, hL⟩)
             | (rw [next_none (rec_long (by omega) (by rw [hmm]; exact hsz))]; exact ⟨_, _, _, _, _, _, _, rfl, rfl, hm, hL⟩)
             | (rw [next_num hnm]; exact ⟨_, _, _, _, _, _, _, rfl, rfl, hm, hL⟩)
             | (rw [next_none (rec_sum (by omega) (by rw [hmm]; exact hsz) hmm hsum)]; exact ⟨_, _, _, _, _, _, _, rfl, rfl, hm, hL⟩)
             | (rw [next_bad hrec (apply_C0 hnm hC hpn)]; exact ⟨_, _, _, _, _, _, _, rfl, rfl, hm, hL⟩)
             | (rw [next_bad hrec (apply_C1 hnm hC hps hw0)]; exact ⟨_, _, _, _, _, _, _, rfl, rfl, hm, hL⟩)
             | (rw [next_ok hrec (apply_C2 hnm hC hps hw0)]; exact ⟨_, _, _, _, _, _, _, by show _ = Value.int .i64 ((11 + pl.size : Nat) : Int); rw [hpls]; rfl, rfl, hm2, hL⟩)
             | (rw [next_bad hrec (apply_U0 hnm hU (by omega))]; exact ⟨_, _, _, _, _, _, _, rfl, rfl, hm, hL⟩)
             | (rw [next_bad hrec (apply_U1 hnm hU (by omega) hgl)]; exact ⟨_, _, _, _, _, _, _, rfl, rfl, hm2, hL⟩)
             | (rw [next_ok hrec (apply_U2 hnm hU (by omega) hgl)]; exact ⟨_, _, _, _, _, _, _, by show _ = Value.int .i64 ((11 + pl.size : Nat) : Int); rw [hpls, show m = 0 by omega]; rfl, rfl, hm2, hL⟩)
             | (rw [next_bad hrec (apply_X hnm hC hU)]; exact ⟨_, _, _, _, _, _, _, rfl, rfl, hm, hL⟩)
          ·
           refine TC.region ?_; refine TL.move rfl rfl ?_; refine TL.call (ref_Undo1 hz hn hm hgl) ⟨rfl, trivial⟩ rfl ?_
           rintro _ _ H68 ⟨fv2, bv2, cv2, sb2, sc2, xb2, xc2, rfl, rfl, hm2, hle68⟩
           have hL := Le.trans hL hle68; have hm := RSm.mono hle68 hm; refine TL.move rfl rfl ?_; refine TL.extract rfl rfl rfl ?_; refine TL.extract rfl rfl rfl ?_; refine TL.assign rfl rfl ?_; refine TL.assign rfl rfl ?_; refine TL.nsr ?_; refine TL.move rfl rfl ?_; refine TL.eql rfl rfl rfl ?_
           rw [decide_eq_true (by decide)]
           refine TL.nil ?_; refine TQ.then_n ?_; refine TC.cond_t rfl ?_; refine TC.seq ?_; refine TC.region ?_; refine TL.assign rfl rfl ?_; refine TL.nil ?_; refine TQ.then_n ?_; refine TC.ret ?_; refine TQ.in_r ?_; refine TQ.then_r ?_; refine TQ.toOwn (own' := _ :: _ :: _ :: own) rfl ?_; refine TQ.ret1 0 rfl rfl ?_
           first
             | (rw [next_none (rec_short (by omega))]; exact ⟨_, _, _, _, _, _, _, rfl, rfl, hm, hL⟩)
             | (rw [next_none (rec_long (by omega) (by rw [hmm]; exact hsz))]; exact ⟨_, _, _, _, _, _, _, rfl, rfl, hm, hL⟩)
             | (rw [next_num hnm]; exact ⟨_, _, _, _, _, _, _, rfl, rfl, hm, hL⟩)
             | (rw [next_none (rec_sum (by omega) (by rw [hmm]; exact hsz) hmm hsum)]; exact ⟨_, _, _, _, _, _, _, rfl, rfl, hm, hL⟩)
             | (rw [next_bad hrec (apply_C0 hnm hC hpn)]; exact ⟨_, _, _, _, _, _, _, rfl, rfl, hm, hL⟩)
             | (rw [next_bad hrec (apply_C1 hnm hC hps hw0)]; exact ⟨_, _, _, _, _, _, _, rfl, rfl, hm, hL⟩)
             | (rw [next_ok hrec (apply_C2 hnm hC hps hw0)]; exact ⟨_, _, _, _, _, _, _, by show _ = Value.int .i64 ((11 + pl.size : Nat) : Int); rw [hpls]; rfl, rfl, hm2, hL⟩)
             | (rw [next_bad hrec (apply_U0 hnm hU (by omega))]; exact ⟨_, _, _, _, _, _, _, rfl, rfl, hm, hL⟩)
             | (rw [next_bad hrec (apply_U1 hnm hU (by omega) hgl)]; exact ⟨_, _, _, _, _, _, _, rfl, rfl, hm2, hL⟩)
             | (rw [next_ok hrec (apply_U2 hnm hU (by omega) hgl)]; exact ⟨_, _, _, _, _, _, _, by show _ = Value.int .i64 ((11 + pl.size : Nat) : Int); rw [hpls, show m = 0 by omega]; rfl, rfl, hm2, hL⟩)
             | (rw [next_bad hrec (apply_X hnm hC hU)]; exact ⟨_, _, _, _, _, _, _, rfl, rfl, hm, hL⟩)
        ·
         replace hU : b ≠ 85 := fun h => hU (by rw [h])
         refine TL.assign rfl rfl ?_; refine TL.nil ?_; refine TQ.then_n ?_; refine TC.cond_f rfl ?_; refine TC.skip ?_; refine TQ.in_n ?_; refine TQ.nsr ?_; refine TL.assign rfl rfl ?_; refine TL.nil ?_; refine TQ.then_n ?_; refine TC.ret ?_; refine TQ.toOwn (own' := _ :: _ :: _ :: own) rfl ?_; refine TQ.ret1 0 rfl rfl ?_
         first
           | (rw [next_none (rec_short (by omega))]; exact ⟨_, _, _, _, _, _, _, rfl, rfl, hm, hL⟩)
           | (rw [next_none (rec_long (by omega) (by rw [hmm]; exact hsz))]; exact ⟨_, _, _, _, _, _, _, rfl, rfl, hm, hL⟩)
           | (rw [next_num hnm]; exact ⟨_, _, _, _, _, _, _, rfl, rfl, hm, hL⟩)
           | (rw [next_none (rec_sum (by omega) (by rw [hmm]; exact hsz) hmm hsum)]; exact ⟨_, _, _, _, _, _, _, rfl, rfl, hm, hL⟩)
           | (rw [next_bad hrec (apply_C0 hnm hC hpn)]; exact ⟨_, _, _, _, _, _, _, rfl, rfl, hm, hL⟩)
           | (rw [next_bad hrec (apply_C1 hnm hC hps hw0)]; exact ⟨_, _, _, _, _, _, _, rfl, rfl, hm, hL⟩)
           | (rw [next_ok hrec (apply_C2 hnm hC hps hw0)]; exact ⟨_, _, _, _, _, _, _, by show _ = Value.int .i64 ((11 + pl.size : Nat) : Int); rw [hpls]; rfl, rfl, hm2, hL⟩)
           | (rw [next_bad hrec (apply_U0 hnm hU (by omega))]; exact ⟨_, _, _, _, _, _, _, rfl, rfl, hm, hL⟩)
           | (rw [next_bad hrec (apply_U1 hnm hU (by omega) hgl)]; exact ⟨_, _, _, _, _, _, _, rfl, rfl, hm2, hL⟩)
           | (rw [next_ok hrec (apply_U2 hnm hU (by omega) hgl)]; exact ⟨_, _, _, _, _, _, _, by show _ = Value.int .i64 ((11 + pl.size : Nat) : Int); rw [hpls, show m = 0 by omega]; rfl, rfl, hm2, hL⟩)
           | (rw [next_bad hrec (apply_X hnm hC hU)]; exact ⟨_, _, _, _, _, _, _, rfl, rfl, hm, hL⟩)

end Go.Proofs.YteeamfkhkbfilaaGreat.K

namespace Go.Proofs.YteeamfkhkbfilaaGreat.K
open Go Go.RowKit Go.Proofs

theorem runL_none {z : RS} {a : Nat} {x : Ent × Nat} {r : List (Ent × Nat)} (h : applyE z x.1 = none) : runL z a (x :: r) = (z, a) := by unfold runL; rw [h]
theorem runL_some {z z' : RS} {a : Nat} {x : Ent × Nat} {r : List (Ent × Nat)} (h : applyE z x.1 = some z') : runL z a (x :: r) = runL z' x.2 r := by
  conv => lhs; unfold runL
  rw [h]
theorem open_next (z : RS) (s : ByteArray) (a : Nat) (ha : a ≤ s.size) :
    (nextR z (from_ s a) = (z, 0) ∧ runL z a (recs s a) = (z, a)) ∨
    ∃ z' k, nextR z (from_ s a) = (z', ((k : Nat) : Int)) ∧ 11 ≤ k ∧ a + k ≤ s.size ∧ runL z a (recs s a) = runL z' (a + k) (recs s (a + k)) ∧ (z.Ok → z.n ≤ 10000000 → z'.Ok ∧ z'.n = z.n + 1) := by
  cases hr : rec? (from_ s a) with
  | none => exact .inl ⟨next_none hr, by rw [recs_none hr]; rfl⟩
  | some e =>
    cases he : applyE z e with
    | none => exact .inl ⟨next_bad hr he, by rw [recs_some hr]; exact runL_none he⟩
    | some z' =>
      have h1 := (rec_size hr).1
      rw [ext_size _ _ _ (Nat.le_refl _)] at h1
      exact .inr ⟨z', 11 + e.pay.size, next_ok hr he, by omega, by omega, by rw [recs_some hr]; exact runL_some he, fun hz hn => applyE_ok hz hn (fun l hl => (pAll_fok _ (Nat.le_refl _) hl).1) he⟩
theorem open_ok {s : ByteArray} (hs : s.size ≤ 100000000) : ∀ (n : Nat) {z : RS} {a : Nat}, n = s.size - a → a ≤ s.size → z.Ok → z.n * 11 ≤ a → (runL z a (recs s a)).1.Ok ∧ (runL z a (recs s a)).1.n * 11 ≤ (runL z a (recs s a)).2 ∧ (runL z a (recs s a)).2 ≤ s.size := by
  intro n
  induction n using Nat.strongRecOn with
  | _ n ih =>
    intro z a hn ha hz hzn
    rcases open_next z s a ha with ⟨_, h⟩ | ⟨z', k, _, h1, h2, h, h3⟩
    · rw [h]; exact ⟨hz, hzn, ha⟩
    · rw [h]
      obtain ⟨h4, h5⟩ := h3 hz (by omega)
      exact ih _ (by omega) rfl h2 h4 (by omega)
theorem openP_ok {s : ByteArray} (hs : s.size ≤ 100000000) : (openP s).1.Ok ∧ (openP s).1.n * 11 ≤ (openP s).2 ∧ (openP s).2 ≤ s.size :=
  open_ok hs _ rfl (Nat.zero_le _) RS.init_ok (Nat.zero_le _)
end Go.Proofs.YteeamfkhkbfilaaGreat.K

namespace Go.Proofs.YteeamfkhkbfilaaGreat.K
open Go Go.RowKit Go.Proofs

theorem ref_Open {s : ByteArray} (hs : s.size ≤ 100000000) {w0 : World} {H : Hp} {own : List Seg} :
    Fn Tryz.prog 17 [.string s] w0 H own (fun r own' H' => ∃ gs fv' bv' cv' sb' sc' xb' xc', r = .tuple #[.pointer (some ⟨gs, 0, none⟩), .int .i64 ((openP s).2 : Int)] ∧ own' = [(gs, .cells #[fv', .int .i64 ((openP s).1.n : Int), bv', cv'] 28 (0, 0))] :: sb' :: sc' :: own ∧ RSm H' (openP s).1 fv' bv' cv' sb' sc' xb' xc' ∧ Le H H') := by
  refine Fn.enter Tryz.func17 rfl Tryz.ntmps17 rfl ?_; have hL := Le.refl H; refine TC.seq ?_; refine TC.region ?_; refine TL.assign rfl rfl ?_; refine TL.assign rfl rfl ?_; refine TL.nil ?_; refine TQ.then_n ?_; refine TC.seq ?_; refine TC.nilseg ?_; refine TC.nilseg ?_; refine TC.region ?_; refine TL.struct [] trivial rfl rfl ?_
  refine TL.box (c := #[_, _, _, _]) rfl rfl rfl ?_; intro g8; refine TL.assign rfl rfl ?_; refine TL.nsr ?_; refine TL.assign rfl rfl ?_; refine TL.nil ?_; refine TQ.then_n ?_; refine TC.block ?_; refine TC.loop (fun n env' own' H' => ∃ z a fv' bv' cv' sb' sc' xb' xc', n = s.size - a ∧ a ≤ s.size ∧ runL z a (recs s a) = openP s ∧ z.Ok ∧ z.n * 11 ≤ a ∧ RSm H' z fv' bv' cv' sb' sc' xb' xc' ∧ env' = [(0, .string s), (4, .pointer (some ⟨g8, 0, none⟩)), (5, .int .i64 (a : Int))] ∧ own' = [(g8, .cells #[fv', .int .i64 (z.n : Int), bv', cv'] 28 (0, 0))] :: sb' :: sc' :: own ∧ Le H H') s.size [(0, _), (4, _), (5, _)] ⟨rfl, rfl, rfl, trivial⟩ ⟨RS.init, 0, _, _, _, [], [], [], [], by omega, by omega, rfl, RS.init_ok, Nat.zero_le _, ⟨rd.nil _ 4, Row.nil _ 1, Row.nil _ 1, trivial, trivial⟩, rfl, rfl, Le.refl _⟩ ?_
  rintro n _ _ H1 ⟨z, a, fv', bv', cv', sb', sc', xb', xc', rfl, ha, hop, hz, hzn, hm, rfl, rfl, hle0⟩
  have hL := Le.trans hL hle0; refine TC.block ?_; refine TC.seq ?_
  rcases open_next z s a ha with ⟨hnx, hrun⟩ | ⟨z', k, hnx, hk11, hak, hrun, hzk⟩
  ·
   refine TC.region ?_; refine TL.move rfl rfl ?_; refine TL.move rfl rfl ?_; refine TL.move rfl rfl ?_; refine TL.sliceS (li := some (a : Int)) (ri := none) a s.size rfl ⟨_, _, rfl, rfl⟩ rfl rfl rfl ha (Nat.le_refl _) rfl ?_; refine TL.call (ref_next hz (by omega) (by rw [ext_size _ _ _ (Nat.le_refl _)]; omega) hm) ⟨rfl, rfl, trivial⟩ rfl ?_
   rintro _ _ H13 ⟨fv2, bv2, cv2, sb2, sc2, xb2, xc2, rfl, rfl, hm2, hle13⟩
   rw [hnx] at hm2 ⊢
   have hL := Le.trans hL hle13; refine TL.assign rfl rfl ?_; refine TL.nil ?_; refine TQ.then_n ?_; refine TC.seq ?_; refine TC.seq ?_; refine TC.region ?_; refine TL.move rfl rfl ?_; refine TL.eql rfl rfl rfl ?_
   rw [decide_eq_true rfl]
   refine TL.nil ?_; refine TQ.then_n ?_; refine TC.cond_t rfl ?_; refine TC.seq ?_; refine TC.region ?_; refine TL.move rfl rfl ?_; refine TL.move rfl rfl ?_; refine TL.assign rfl rfl ?_; refine TL.assign rfl rfl ?_; refine TL.nil ?_; refine TQ.then_n ?_; refine TC.ret ?_; refine TQ.then_r ?_; refine TQ.in_r ?_; refine TQ.then_r ?_; refine TQ.in_r ?_; refine TQ.toOwn (own' := _ :: _ :: _ :: own) rfl ?_; refine TQ.ret2 0 rfl rfl rfl ?_
   rw [← hop, hrun]
   exact ⟨_, _, _, _, _, _, _, _, rfl, rfl, hm2, hL⟩
  ·
   refine TC.region ?_; refine TL.move rfl rfl ?_; refine TL.move rfl rfl ?_; refine TL.move rfl rfl ?_; refine TL.sliceS (li := some (a : Int)) (ri := none) a s.size rfl ⟨_, _, rfl, rfl⟩ rfl rfl rfl ha (Nat.le_refl _) rfl ?_; refine TL.call (ref_next hz (by omega) (by rw [ext_size _ _ _ (Nat.le_refl _)]; omega) hm) ⟨rfl, rfl, trivial⟩ rfl ?_
   rintro _ _ H13 ⟨fv2, bv2, cv2, sb2, sc2, xb2, xc2, rfl, rfl, hm2, hle13⟩
   rw [hnx] at hm2 ⊢
   have hL := Le.trans hL hle13; have hle0 := Le.trans hle0 hle13; refine TL.assign rfl rfl ?_; refine TL.nil ?_; refine TQ.then_n ?_; refine TC.seq ?_; refine TC.seq ?_; refine TC.region ?_; refine TL.move rfl rfl ?_; refine TL.eql rfl rfl rfl ?_
   rw [decide_eq_false (show ¬ ((k : Nat) : Int) = 0 by omega)]
   refine TL.nil ?_; refine TQ.then_n ?_; refine TC.cond_f rfl ?_; refine TC.skip ?_; refine TQ.then_n ?_; refine TC.region ?_; refine TL.move rfl rfl ?_; refine TL.move rfl rfl ?_; refine TL.add rfl rfl rfl ⟨by omega, by omega⟩ ?_; refine TL.assign rfl rfl ?_; refine TL.nil ?_; refine TQ.in_n ?_; refine TQ.toOwn (own' := _ :: _ :: _ :: own) rfl ?_
   obtain ⟨hz2, hzn2⟩ := hzk hz (by omega)
   refine TQ.next (s.size - (a + k)) [(0, _), (4, _), (5, _)] (by omega) ⟨rfl, rfl, rfl, trivial⟩ ⟨z', a + k, _, _, _, _, _, _, _, rfl, hak, by rw [← hop, hrun], hz2, by omega, hm2, rfl, rfl, hle0⟩

end Go.Proofs.YteeamfkhkbfilaaGreat.K

namespace Go.Proofs.YteeamfkhkbfilaaGreat.K
open Go Go.RowKit Go.Proofs

instance NoOut.body {P : Program} {fn : Func} {w0 : World} {φ : Value → List Seg → Hp → Prop} : NoOut (bodyPost P fn (Ret w0 φ)) := ⟨fun a w h => by obtain ⟨v, _, _, h, _⟩ := h; cases h⟩
theorem St.less {w0 w : World} {H H' : Hp} {own : List Seg} (hl : Le H H') (hw : St w0 H' own w) : St w0 H own w :=
  ⟨hw.os, hw.tape, hw.output, fun b o h => hw.imm b o (hl b o h), hw.own_at, (fun p hp => by
    cases h : H p.1 with
    | none => rfl
    | some o => have := hl _ _ h; rw [hw.apart p hp] at this; cases this), hw.nodup⟩
section
variable {ro : Option Nat} {ds : List Deferred} {P : Program} {w0 : World} {N : Nat} {Q : Exit → Act → World → Prop} {env : Env} {own : List Seg} {H H' : Hp} {ops : Array Oper} {rest : List Oper}
/-- What has come to stay may be left unsaid. -/
theorem TQ.lessH {e : Exit} (hl : Le H H') (h : TQ w0 N Q e env own H) : TQ w0 N Q e env own H' := fun a w ha hw => h a w ha (hw.less hl)
theorem TLX.lessH (hl : Le H H') (h : TLX ro ds P w0 N Q ops rest env own H) : TLX ro ds P w0 N Q ops rest env own H' := fun a w ha hw => h a w ha (hw.less hl)
end
def entV (e : Ent) : Value := .agg #[.int .u8 (e.kind.toNat : Int), .int .i64 e.num, .string e.pay]
theorem kind_eq {b : UInt8} {n : Nat} (hn : n < 256) : ((b.toNat : Int) = (n : Int)) ↔ b = UInt8.ofNat n := by
  constructor
  · intro h
    have h2 : b.toNat = n := by omega
    rw [← h2]; simp
  · rintro rfl
    rw [UInt8.toNat_ofNat']
    omega
theorem size_nil {s : ByteArray} (h : s.size = 0) : s = ⟨#[]⟩ := by
  refine ByteArray.ext ?_
  exact Array.eq_empty_of_size_eq_zero h
theorem pparse_cases {s : ByteArray} {r : Value} {H : Hp} (h : (pAll s = none ∧ r = .tuple #[.slice none 0 0, .bool false]) ∨ ∃ l v, pAll s = some l ∧ r = .tuple #[v, .bool true] ∧ rd H (.s 4 (factsD l)) v) :
    (pAll s = none ∧ r = .tuple #[.slice none 0 0, .bool false]) ∨ (∃ l v, pAll s = some l ∧ wrongC l = 0 ∧ r = .tuple #[v, .bool true] ∧ rd H (.s 4 (factsD l)) v) ∨ (∃ l v, pAll s = some l ∧ wrongC l ≠ 0 ∧ r = .tuple #[v, .bool true] ∧ rd H (.s 4 (factsD l)) v) := by
  rcases h with h | ⟨l, v, h1, h2, h3⟩
  · exact .inl h
  · by_cases hw : wrongC l = 0
    · exact .inr (.inl ⟨l, v, h1, hw, h2, h3⟩)
    · exact .inr (.inr ⟨l, v, h1, hw, h2, h3⟩)
end Go.Proofs.YteeamfkhkbfilaaGreat.K

namespace Go.Proofs.YteeamfkhkbfilaaGreat.K
open Go Go.RowKit Go.Proofs

theorem recs_iter {s : ByteArray} (hs : s.size ≤ 100000000) {w0 : World} {HO : Hp} {ga : Nat} (h1 : cel HO ga 0 = some (.string s)) :
    IterC Tryz.prog 77 [.pointer (some ⟨ga, 0, none⟩)] (fun x : Ent × Nat => [entV x.1, .int .i64 (x.2 : Int)]) (fun xs => xs = recs s 0) (fun pre => ∃ r, recs s 0 = pre ++ r) w0 HO := by
  intro L J Jx own H hle0' hy hJ0
  replace h1 := cel_le hle0' h1
  refine Fn.enter Tryz.func77 rfl Tryz.ntmps77 rfl ?_; have hL := Le.refl H; refine TC.seq ?_; refine TC.region ?_; refine TL.assign rfl rfl ?_; refine TL.nil ?_; refine TQ.then_n ?_; refine TC.block ?_; refine TC.loop (fun n env' own' H' => ∃ a pre, n = s.size - a ∧ a ≤ s.size ∧ recs s 0 = pre ++ recs s a ∧ J pre own' H' ∧ env' = [(0, .func (.yield L) #[] #[]), (1, .pointer (some ⟨ga, 0, none⟩)), (3, .int .i64 (a : Int))] ∧ Le H H') s.size [(0, _), (1, _), (3, _)] ⟨rfl, rfl, rfl, trivial⟩ ⟨0, [], by omega, by omega, rfl, hJ0, rfl, Le.refl _⟩ ?_
  rintro n _ own1 H1 ⟨a, pre, rfl, ha, hrs, hJ, rfl, hle0⟩
  have hL := Le.trans hL hle0; have h1 := cel_le hle0 h1; have hL1 := hL; have hleI := Le.refl H1; have hle01 := hle0; have hc1 := h1; refine TC.seq ?_; refine TC.seq ?_; refine TC.region ?_; refine TL.load_imm rfl (h1) rfl ?_; refine TL.len_string rfl rfl ?_; refine TL.move rfl rfl ?_; refine TL.sub rfl rfl rfl ⟨by omega, by omega⟩ ?_
  refine TL.geqB rfl rfl rfl (fun h11 => ?_) (fun h11 => ?_)
  ·
   obtain ⟨r, hr⟩ : ∃ r, r = from_ s a := ⟨_, rfl⟩
   have hrz : r.size = s.size - a := by rw [hr, ext_size _ _ _ (Nat.le_refl _)]
   have hrl := get32_nn (r.data.toList.drop 5)
   obtain ⟨m, hmm⟩ : ∃ m : Nat, rlen r = m := ⟨(rlen r).toNat, by show rlen r = ((rlen r).toNat : Int); have : 0 ≤ rlen r := hrl.1; omega⟩
   have hm32 : (m : Int) ≤ 4294967295 := by rw [← hmm]; exact hrl.2
   have hrsl := size_list r
   obtain ⟨b, t, hbt⟩ : ∃ b t, r.data.toList = b :: t := by
     match h : r.data.toList with
     | [] => rw [h] at hrsl; simp at hrsl; omega
     | b :: t => exact ⟨b, t, rfl⟩
   have hbl := b.toNat_lt; refine TL.nil ?_; refine TQ.then_n ?_; refine TC.cond_t rfl ?_; refine TC.skip ?_; refine TQ.then_n ?_; refine TC.block ?_; refine TC.seq ?_; refine TC.region ?_; refine TL.load_imm rfl (h1) rfl ?_; refine TL.move rfl rfl ?_; refine TL.sliceS (li := some (a : Int)) (ri := none) a s.size rfl ⟨_, _, rfl, rfl⟩ rfl rfl rfl ha (Nat.le_refl _) rfl ?_
   rw [show s.extract a s.size = r from hr.symm]
   refine TL.assign rfl rfl ?_; refine TL.nsr ?_; refine TL.move rfl rfl ?_; refine TL.sliceS (li := some 5) (ri := none) (5) (r.size) rfl ⟨_, _, rfl, rfl⟩ rfl rfl rfl (by omega) (by omega) rfl ?_; refine TL.call (proj_long (by rw [ext_size _ _ _ (Nat.le_refl _)]; omega)) ⟨rfl, trivial⟩ rfl ?_
   rintro _ own1 H16 ⟨rfl, rfl, hle16⟩
   rw [from_list, show get32 (r.data.toList.drop 5) = (m : Int) from hmm]
   have hL := Le.trans hL hle16; have h1 := cel_le hle16 h1; have hle0 := Le.trans hle0 hle16; have hleI := Le.trans hleI hle16; refine TL.assign rfl rfl ?_; refine TL.nil ?_; refine TQ.then_n ?_; refine TC.seq ?_; refine TC.seq ?_
   rcases tri ((r.size : Int) - 9 - 2 < (m : Int)) (get16 (r.data.toList.drop (9 + m)) ≠ crc (r.data.toList.take (9 + m))) with hsz | ⟨hsz, hsum⟩ | ⟨hsz, hsum⟩
   ·
    have hrn : rec? (from_ s a) = none := by rw [← hr]; exact rec_long (by omega) (by rw [hmm]; omega)
    have hfin : pre = recs s 0 := by rw [hrs, recs_none hrn]; simp
    refine TC.drawQV 16  [(0, _), (1, _), (3, _), (4, _), (5, _)] follows_mixed ⟨rfl, rfl, rfl, rfl, rfl, trivial⟩ ?_; refine ChainV.q (some 17) [] (fun _ _ _ _ hF => TL.move rfl rfl (TL.one hF)) ?_; refine ChainV.q (some 18) [] (fun _ _ _ _ hF => TL.move rfl rfl (TL.one hF)) ?_
    refine ChainV.q (some 19) [(1, 0)] (by
     intro H' X F hle; have hL := Le.trans hL hle; intro hF; refine TL.len_string rfl rfl ?_
     exact TL.one hF) ?_
    refine ChainV.q (some 20) [(2, 0)] (fun _ _ _ _ hF => TL.sub rfl rfl rfl ⟨by omega, by omega⟩ (TL.one hF)) ?_; refine ChainV.q (some 21) [(3, 0)] (fun _ _ _ _ hF => TL.sub rfl rfl rfl ⟨by omega, by omega⟩ (TL.one hF)) ?_
    refine ChainV.q (some 22) [(0, 4), (4, 0)] (by
     intro H' X F hle; have hL := Le.trans hL hle; intro hF; refine TL.gtr rfl rfl rfl ?_
     rw [decide_eq_true hsz]
     exact TL.one hF) ?_
    refine ChainV.q (some 23) [(5, 0)] (fun _ _ _ _ hF => TL.move rfl rfl (TL.one hF)) ?_
    refine ChainV.q (some 24) [(6, 0)] (by
     intro H' X F hle; intro hF; refine TL.gno rfl rfl rfl rfl ?_
     exact TL.one hF) ?_
    refine ChainV.q (some 25) [(6, 1)] (by
     intro H' X F hle; intro hF; refine TL.gno rfl rfl rfl rfl ?_
     exact TL.one hF) ?_
    refine ChainV.q (some 26) [(8, 0), (6, 2)] (by
     intro H' X F hle; intro hF; refine TL.gno rfl rfl rfl rfl ?_
     exact TL.one hF) ?_
    refine ChainV.q (some 27) [(7, 2), (9, 0), (6, 3)] (by
     intro H' X F hle; intro hF; refine TL.gno rfl rfl rfl rfl ?_
     exact TL.one hF) ?_
    refine ChainV.q (some 28) [(10, 0), (6, 4)] (by
     intro H' X F hle; intro hF; refine TL.gno rfl rfl rfl rfl ?_
     exact TL.one hF) ?_
    refine ChainV.q (some 29) [(6, 5)] (by
     intro H' X F hle; intro hF; refine TL.gno rfl rfl rfl rfl ?_
     exact TL.one hF) ?_
    refine ChainV.q (some 30) [(6, 6)] (by
     intro H' X F hle; intro hF; refine TL.gno rfl rfl rfl rfl ?_
     exact TL.one hF) ?_
    refine ChainV.q (some 31) [(13, 0), (6, 7)] (by
     intro H' X F hle; intro hF; refine TL.gno rfl rfl rfl rfl ?_
     exact TL.one hF) ?_
    refine ChainV.q (some 32) [(12, 2), (14, 0), (6, 8)] (by
     intro H' X F hle; intro hF; refine TL.gno rfl rfl rfl rfl ?_
     exact TL.one hF) ?_
    refine ⟨by kernel_rfl, .refl _, ?_⟩
    ·
     intro H1 hle; have hL := Le.trans hL hle; have hleI := Le.trans hleI hle; refine TL.toOwn (own' := _) rfl ?_; refine TL.wk (env' := [(0, _), (1, _), (3, _), (4, _), (5, _), (23, _), (28, _), (32, _)]) ⟨rfl, rfl, rfl, rfl, rfl, rfl, rfl, rfl, trivial⟩ ?_; refine TL.gno rfl rfl rfl rfl ?_; refine TL.gno rfl rfl rfl rfl ?_; refine TL.pickT rfl rfl rfl rfl ?_; refine TL.nil ?_; refine TQ.then_n ?_; refine TC.cond_t rfl ?_; refine TC.ret ?_; refine TQ.then_r ?_; refine TQ.in_r ?_; refine TQ.then_r ?_; refine TQ.in_r ?_; refine TQ.lessH hleI ?_; refine TQ.ret0 0 rfl ?_
     first
       | exact ⟨hL1, .inl ⟨_, hfin, hJ⟩⟩
       | exact ⟨hL, .inr ⟨_, ⟨recs s (a + (11 + m)), by rw [hrs, recs_some hrec, hpm]; simp⟩, hJ2⟩⟩
   ·
    have hrn : rec? (from_ s a) = none := by rw [← hr]; exact rec_sum (by omega) (by rw [hmm]; omega) hmm hsum
    have hfin : pre = recs s 0 := by rw [hrs, recs_none hrn]; simp
    refine TC.drawQV 16  [(0, _), (1, _), (3, _), (4, _), (5, _)] follows_mixed ⟨rfl, rfl, rfl, rfl, rfl, trivial⟩ ?_; refine ChainV.q (some 17) [] (fun _ _ _ _ hF => TL.move rfl rfl (TL.one hF)) ?_; refine ChainV.q (some 18) [] (fun _ _ _ _ hF => TL.move rfl rfl (TL.one hF)) ?_
    refine ChainV.q (some 19) [(1, 0)] (by
     intro H' X F hle; have hL := Le.trans hL hle; intro hF; refine TL.len_string rfl rfl ?_
     exact TL.one hF) ?_
    refine ChainV.q (some 20) [(2, 0)] (fun _ _ _ _ hF => TL.sub rfl rfl rfl ⟨by omega, by omega⟩ (TL.one hF)) ?_; refine ChainV.q (some 21) [(3, 0)] (fun _ _ _ _ hF => TL.sub rfl rfl rfl ⟨by omega, by omega⟩ (TL.one hF)) ?_
    refine ChainV.q (some 22) [(0, 4), (4, 0)] (by
     intro H' X F hle; have hL := Le.trans hL hle; intro hF; refine TL.gtr rfl rfl rfl ?_
     rw [decide_eq_false hsz]
     exact TL.one hF) ?_
    refine ChainV.q (some 23) [(5, 0)] (fun _ _ _ _ hF => TL.move rfl rfl (TL.one hF)) ?_
    refine ChainV.q (some 24) [(6, 0)] (by
     intro H' X F hle; intro hF; refine TL.gyes rfl rfl rfl ?_; refine TL.move rfl rfl ?_
     exact TL.one hF) ?_
    refine ChainV.q (some 25) [(6, 1)] (by
     intro H' X F hle; intro hF; refine TL.gyes rfl rfl rfl ?_; refine TL.move rfl rfl ?_
     exact TL.one hF) ?_
    refine ChainV.q (some 26) [(8, 0), (6, 2)] (by
     intro H' X F hle; intro hF; refine TL.gyes rfl rfl rfl ?_; refine TL.add rfl rfl rfl ⟨by omega, by omega⟩ ?_
     exact TL.one hF) ?_
    refine ChainV.q (some 27) [(7, 2), (9, 0), (6, 3)] (by
     intro H' X F hle; have hL := Le.trans hL hle; intro hF; refine TL.gyes rfl rfl rfl ?_; refine TL.sliceS (li := some (9 + (m : Int))) (ri := none) (9 + m) (r.size) rfl ⟨_, _, rfl, rfl⟩ rfl (by show (9 + (m : Int) : Int) = _; omega) rfl (by omega) (by omega) rfl ?_
     exact TL.one hF) ?_
    refine ChainV.q (some 28) [(10, 0), (6, 4)] (by
     intro H' X F hle; have hL := Le.trans hL hle; intro hF; refine TL.gyes rfl rfl rfl ?_; refine TL.call (word_Get) ⟨rfl, trivial⟩ rfl ?_
     rintro _ own1 H28 ⟨rfl, rfl, hle28⟩
     rw [from_list]
     have hL := Le.trans hL hle28; refine TL.nil ?_
     exact TQ.one [] hF hle28 ⟨rfl, rfl⟩) ?_
    refine ChainV.q (some 29) [(6, 5)] (by
     intro H' X F hle; intro hF; refine TL.gyes rfl rfl rfl ?_; refine TL.move rfl rfl ?_
     exact TL.one hF) ?_
    refine ChainV.q (some 30) [(6, 6)] (by
     intro H' X F hle; intro hF; refine TL.gyes rfl rfl rfl ?_; refine TL.move rfl rfl ?_
     exact TL.one hF) ?_
    refine ChainV.q (some 31) [(13, 0), (6, 7)] (by
     intro H' X F hle; intro hF; refine TL.gyes rfl rfl rfl ?_; refine TL.add rfl rfl rfl ⟨by omega, by omega⟩ ?_
     exact TL.one hF) ?_
    refine ChainV.q (some 32) [(12, 2), (14, 0), (6, 8)] (by
     intro H' X F hle; have hL := Le.trans hL hle; intro hF; refine TL.gyes rfl rfl rfl ?_; refine TL.sliceS (li := none) (ri := some (9 + (m : Int))) (0) (9 + m) rfl rfl ⟨_, _, rfl, rfl⟩ rfl (by show (9 + (m : Int) : Int) = _; omega) (by omega) (by omega) rfl ?_
     exact TL.one hF) ?_
    refine ⟨by kernel_rfl, .refl _, ?_⟩
    ·
     intro H2 hle; have hL := Le.trans hL hle; have hleI := Le.trans hleI hle; refine TL.toOwn (own' := _) rfl ?_; refine TL.wk (env' := [(0, _), (1, _), (3, _), (4, _), (5, _), (23, _), (28, _), (32, _)]) ⟨rfl, rfl, rfl, rfl, rfl, rfl, rfl, rfl, trivial⟩ ?_; refine TL.gyes rfl rfl rfl ?_; refine TL.call (word_Sum (by rw [ext_size _ _ _ (by omega)]; omega)) ⟨rfl, trivial⟩ rfl ?_
     rintro _ own1 H33 ⟨rfl, rfl, hle33⟩
     rw [to_list]
     have hL := Le.trans hL hle33; have hleI := Le.trans hleI hle33; refine TL.gyes rfl rfl rfl ?_; refine TL.neq rfl rfl rfl ?_
     rw [decide_eq_true hsum]
     refine TL.pickF rfl rfl rfl rfl ?_; refine TL.nil ?_; refine TQ.then_n ?_; refine TC.cond_t rfl ?_; refine TC.ret ?_; refine TQ.then_r ?_; refine TQ.in_r ?_; refine TQ.then_r ?_; refine TQ.in_r ?_; refine TQ.lessH hleI ?_; refine TQ.ret0 0 rfl ?_
     first
       | exact ⟨hL1, .inl ⟨_, hfin, hJ⟩⟩
       | exact ⟨hL, .inr ⟨_, ⟨recs s (a + (11 + m)), by rw [hrs, recs_some hrec, hpm]; simp⟩, hJ2⟩⟩
   ·
    have hrec := rec_ok (by omega) (by rw [hmm]; omega) hmm hsum hbt
    obtain ⟨e, he⟩ : ∃ e : Ent, e = ⟨b, get32 (r.data.toList.drop 1), r.extract 9 (9 + m)⟩ := ⟨_, rfl⟩
    rw [← he, hr] at hrec
    have hpm : e.pay.size = m := by rw [he]; show (r.extract 9 (9 + m)).size = m; rw [ext_size _ _ _ (by omega)]; omega
    refine TC.drawQV 16  [(0, _), (1, _), (3, _), (4, _), (5, _)] follows_mixed ⟨rfl, rfl, rfl, rfl, rfl, trivial⟩ ?_; refine ChainV.q (some 17) [] (fun _ _ _ _ hF => TL.move rfl rfl (TL.one hF)) ?_; refine ChainV.q (some 18) [] (fun _ _ _ _ hF => TL.move rfl rfl (TL.one hF)) ?_
    refine ChainV.q (some 19) [(1, 0)] (by
     intro H' X F hle; have hL := Le.trans hL hle; intro hF; refine TL.len_string rfl rfl ?_
     exact TL.one hF) ?_
    refine ChainV.q (some 20) [(2, 0)] (fun _ _ _ _ hF => TL.sub rfl rfl rfl ⟨by omega, by omega⟩ (TL.one hF)) ?_; refine ChainV.q (some 21) [(3, 0)] (fun _ _ _ _ hF => TL.sub rfl rfl rfl ⟨by omega, by omega⟩ (TL.one hF)) ?_
    refine ChainV.q (some 22) [(0, 4), (4, 0)] (by
     intro H' X F hle; have hL := Le.trans hL hle; intro hF; refine TL.gtr rfl rfl rfl ?_
     rw [decide_eq_false hsz]
     exact TL.one hF) ?_
    refine ChainV.q (some 23) [(5, 0)] (fun _ _ _ _ hF => TL.move rfl rfl (TL.one hF)) ?_
    refine ChainV.q (some 24) [(6, 0)] (by
     intro H' X F hle; intro hF; refine TL.gyes rfl rfl rfl ?_; refine TL.move rfl rfl ?_
     exact TL.one hF) ?_
    refine ChainV.q (some 25) [(6, 1)] (by
     intro H' X F hle; intro hF; refine TL.gyes rfl rfl rfl ?_; refine TL.move rfl rfl ?_
     exact TL.one hF) ?_
    refine ChainV.q (some 26) [(8, 0), (6, 2)] (by
     intro H' X F hle; intro hF; refine TL.gyes rfl rfl rfl ?_; refine TL.add rfl rfl rfl ⟨by omega, by omega⟩ ?_
     exact TL.one hF) ?_
    refine ChainV.q (some 27) [(7, 2), (9, 0), (6, 3)] (by
     intro H' X F hle; have hL := Le.trans hL hle; intro hF; refine TL.gyes rfl rfl rfl ?_; refine TL.sliceS (li := some (9 + (m : Int))) (ri := none) (9 + m) (r.size) rfl ⟨_, _, rfl, rfl⟩ rfl (by show (9 + (m : Int) : Int) = _; omega) rfl (by omega) (by omega) rfl ?_
     exact TL.one hF) ?_
    refine ChainV.q (some 28) [(10, 0), (6, 4)] (by
     intro H' X F hle; have hL := Le.trans hL hle; intro hF; refine TL.gyes rfl rfl rfl ?_; refine TL.call (word_Get) ⟨rfl, trivial⟩ rfl ?_
     rintro _ own1 H28 ⟨rfl, rfl, hle28⟩
     rw [from_list]
     have hL := Le.trans hL hle28; refine TL.nil ?_
     exact TQ.one [] hF hle28 ⟨rfl, rfl⟩) ?_
    refine ChainV.q (some 29) [(6, 5)] (by
     intro H' X F hle; intro hF; refine TL.gyes rfl rfl rfl ?_; refine TL.move rfl rfl ?_
     exact TL.one hF) ?_
    refine ChainV.q (some 30) [(6, 6)] (by
     intro H' X F hle; intro hF; refine TL.gyes rfl rfl rfl ?_; refine TL.move rfl rfl ?_
     exact TL.one hF) ?_
    refine ChainV.q (some 31) [(13, 0), (6, 7)] (by
     intro H' X F hle; intro hF; refine TL.gyes rfl rfl rfl ?_; refine TL.add rfl rfl rfl ⟨by omega, by omega⟩ ?_
     exact TL.one hF) ?_
    refine ChainV.q (some 32) [(12, 2), (14, 0), (6, 8)] (by
     intro H' X F hle; have hL := Le.trans hL hle; intro hF; refine TL.gyes rfl rfl rfl ?_; refine TL.sliceS (li := none) (ri := some (9 + (m : Int))) (0) (9 + m) rfl rfl ⟨_, _, rfl, rfl⟩ rfl (by show (9 + (m : Int) : Int) = _; omega) (by omega) (by omega) rfl ?_
     exact TL.one hF) ?_
    refine ⟨by kernel_rfl, .refl _, ?_⟩
    ·
     intro H3 hle; have hL := Le.trans hL hle; have h1 := cel_le hle h1; have hle0 := Le.trans hle0 hle; have hleI := Le.trans hleI hle; refine TL.toOwn (own' := _) rfl ?_; refine TL.wk (env' := [(0, _), (1, _), (3, _), (4, _), (5, _), (23, _), (28, _), (32, _)]) ⟨rfl, rfl, rfl, rfl, rfl, rfl, rfl, rfl, trivial⟩ ?_; refine TL.gyes rfl rfl rfl ?_; refine TL.call (word_Sum (by rw [ext_size _ _ _ (by omega)]; omega)) ⟨rfl, trivial⟩ rfl ?_
     rintro _ own1 H33 ⟨rfl, rfl, hle33⟩
     rw [to_list]
     have hL := Le.trans hL hle33; have h1 := cel_le hle33 h1; have hle0 := Le.trans hle0 hle33; have hleI := Le.trans hleI hle33; refine TL.gyes rfl rfl rfl ?_; refine TL.neq rfl rfl rfl ?_
     rw [decide_eq_false hsum]
     refine TL.pickF rfl rfl rfl rfl ?_; refine TL.nil ?_; refine TQ.then_n ?_; refine TC.cond_f rfl ?_; refine TC.skip ?_; refine TQ.nsr ?_; refine TL.move rfl rfl ?_; refine TL.move rfl rfl ?_; refine TL.add rfl rfl rfl ⟨by omega, by omega⟩ ?_; refine TL.add rfl rfl rfl ⟨by omega, by omega⟩ ?_; refine TL.add rfl rfl rfl ⟨by omega, by omega⟩ ?_
     rw [show ((a : Int) + (9 + (m : Int) + 2)) = ((a + (11 + m) : Nat) : Int) by omega]
     refine TL.assign rfl rfl ?_; refine TL.nil ?_; refine TQ.then_n ?_; refine TC.seq ?_; refine TC.drawXQV 12  [(0, _), (1, _), (3, _), (4, _), (5, _)] follows_mixed ⟨rfl, rfl, rfl, rfl, rfl, trivial⟩ ?_; refine ChainV.q (some 41) [] (fun _ _ _ _ hF => TL.move rfl rfl (TL.one hF)) ?_; refine ChainV.q (some 42) [] (fun _ _ _ _ hF => TL.move rfl rfl (TL.one hF)) ?_
     refine ChainV.q (some 43) [(1, 0)] (by
      intro H' X F hle; have hL := Le.trans hL hle; intro hF; refine TL.indexS 0 rfl rfl rfl (by rw [byte_get, hbt]; rfl) rfl ?_
      exact TL.one hF) ?_
     refine ChainV.q (some 44) [] (fun _ _ _ _ hF => TL.move rfl rfl (TL.one hF)) ?_
     refine ChainV.q (some 45) [(3, 0)] (by
      intro H' X F hle; have hL := Le.trans hL hle; intro hF; refine TL.sliceS (li := some 1) (ri := none) (1) (r.size) rfl ⟨_, _, rfl, rfl⟩ rfl rfl rfl (by omega) (by omega) rfl ?_
      exact TL.one hF) ?_
     refine ChainV.q (some 46) [(4, 0)] (by
      intro H' X F hle; have hL := Le.trans hL hle; intro hF; refine TL.call (proj_long (by rw [ext_size _ _ _ (Nat.le_refl _)]; omega)) ⟨rfl, trivial⟩ rfl ?_
      rintro _ own1 H46 ⟨rfl, rfl, hle46⟩
      rw [from_list]
      have hL := Le.trans hL hle46; refine TL.nil ?_
      exact TQ.one [] hF hle46 ⟨rfl, rfl⟩) ?_
     refine ChainV.q (some 47) [] (fun _ _ _ _ hF => TL.move rfl rfl (TL.one hF)) ?_; refine ChainV.q (some 48) [] (fun _ _ _ _ hF => TL.move rfl rfl (TL.one hF)) ?_; refine ChainV.q (some 49) [(7, 0)] (fun _ _ _ _ hF => TL.add rfl rfl rfl ⟨by omega, by omega⟩ (TL.one hF)) ?_
     refine ChainV.q (some 50) [(6, 2), (8, 0)] (by
      intro H' X F hle; have hL := Le.trans hL hle; intro hF; refine TL.sliceS (li := some 9) (ri := some (9 + (m : Int))) 9 (9 + m) rfl ⟨_, _, rfl, rfl⟩ ⟨_, _, rfl, rfl⟩ rfl (by show (9 + (m : Int)) = _; omega) (by omega) (by omega) rfl ?_
      exact TL.one hF) ?_
     refine ChainV.q (some 51) [(2, 7), (5, 4), (9, 0)] (by
      intro H' X F hle; have hL := Le.trans hL hle; intro hF; refine TL.struct [(0, [_]), (1, [_]), (2, [_])] ⟨rfl, ⟨_, rfl, rfl⟩, rfl, ⟨_, rfl, rfl⟩, rfl, ⟨_, rfl, rfl⟩, trivial⟩ rfl rfl ?_
      exact TL.one hF) ?_
     refine ChainV.q (some 52) [] (fun _ _ _ _ hF => TL.move rfl rfl (TL.one hF)) ?_
     refine ⟨by kernel_rfl, .refl _, ?_⟩
     ·
      intro H4 hle; have hL := Le.trans hL hle; have h1 := cel_le hle h1; have hle0 := Le.trans hle0 hle; have hleI := Le.trans hleI hle; refine TLX.toOwn (own' := own1) rfl ?_; refine TLX.lessH hleI ?_; have hL := hL1; have hleI := Le.refl H1; have hle0 := hle01; have h1 := hc1; refine TLX.yield (xs := [_, _]) (vs := [entV e, .int .i64 ((a + (11 + m) : Nat) : Int)]) [] own1 rfl ⟨by rw [he]; rfl, rfl, trivial⟩ rfl (hy pre (e, a + (11 + m)) own1 _ hL1 hJ ⟨recs s (a + (11 + m)), by rw [hrs, recs_some hrec, hpm]; simp⟩) rfl ?_
      rintro _ own2 H9 ⟨hle9, ⟨rfl, hJ2⟩ | ⟨rfl, hJ2⟩⟩
      ·
       refine TLX.step rfl (TL.not rfl rfl (TL.nil (TQX.go ?_)))
       refine TLX.nil ?_; refine TQX.ofQ ?_; have hL := Le.trans hL hle9; have hle0 := Le.trans hle0 hle9; refine TQ.then_n ?_; refine TC.cond_f rfl ?_; refine TC.skip ?_; refine TQ.in_n ?_; refine TQ.toOwn (own' := _) rfl ?_
       refine TQ.next (s.size - (a + (11 + m))) [(0, _), (1, _), (3, _)] (by omega) ⟨rfl, rfl, rfl, trivial⟩ ⟨a + (11 + m), pre ++ [(e, a + (11 + m))], rfl, by omega, ?_, hJ2, rfl, hle0⟩
       rw [hrs, recs_some hrec, hpm]; simp
      ·
       refine TLX.step rfl (TL.not rfl rfl (TL.nil (TQX.go ?_)))
       refine TLX.nil ?_; refine TQX.ofQ ?_; have hL := Le.trans hL hle9; refine TQ.then_n ?_; refine TC.cond_t rfl ?_; refine TC.ret ?_; refine TQ.in_r ?_; refine TQ.then_r ?_; refine TQ.in_r ?_; refine TQ.ret0 0 rfl ?_
       first
         | exact ⟨hL1, .inl ⟨_, hfin, hJ⟩⟩
         | exact ⟨hL, .inr ⟨_, ⟨recs s (a + (11 + m)), by rw [hrs, recs_some hrec, hpm]; simp⟩, hJ2⟩⟩
  ·
   have hrn : rec? (from_ s a) = none := rec_short (by rw [ext_size _ _ _ (Nat.le_refl _)]; omega)
   have hfin : pre = recs s 0 := by rw [hrs, recs_none hrn]; simp
   refine TL.nil ?_; refine TQ.then_n ?_; refine TC.cond_f rfl ?_; refine TC.exit ?_; refine TQ.then_e ?_; refine TQ.then_e ?_; refine TQ.in_e ?_; refine TQ.lessH hleI ?_; refine TQ.end0 0 rfl ?_
   first
     | exact ⟨hL1, .inl ⟨_, hfin, hJ⟩⟩
     | exact ⟨hL, .inr ⟨_, ⟨recs s (a + (11 + m)), by rw [hrs, recs_some hrec, hpm]; simp⟩, hJ2⟩⟩
theorem proj_records {s : ByteArray} {w0 : World} {H : Hp} {own : List Seg} :
    Fn Tryz.prog 33 [.string s] w0 H own (fun r own' H' => ∃ g, r = .func (.func 77) #[] #[.pointer (some ⟨g, 0, none⟩)] ∧ own' = [(g, .cells #[.string s] 9 (0, 0))] :: own ∧ Le H H') := by
  refine Fn.enter Tryz.func33 rfl Tryz.ntmps33 rfl ?_; have hL := Le.refl H; refine TC.seq ?_; refine TC.region ?_
  refine TL.box (c := #[_]) rfl rfl rfl ?_; intro g1; refine TL.assign rfl rfl ?_; refine TL.nsr ?_; refine TL.makeFunc (vs := []) (us := [_]) trivial ⟨rfl, trivial⟩ rfl ?_; refine TL.assign rfl rfl ?_; refine TL.nil ?_; refine TQ.then_n ?_; refine TC.ret ?_; refine TQ.ret1 0 rfl rfl ?_
  exact ⟨_, rfl, rfl, hL⟩


end Go.Proofs.YteeamfkhkbfilaaGreat.K
