/-
  Part 6 of 6 of the proof that MatchVaried returns true for every list of numbers and every number, and leaves its arguments as they were.. No condition beyond the given statement.
-/
import Derived.Maps.RangeRun
import Derived.Maps.Range
import Derived.Maps.Own
import Derived.DeepKeys4
import Derived.ProofKit
import Derived.Deep.Slices
import Derived.OpenShut
import Derived.WideKeyArr2
import Derived.Test.YticengaggjcppaaGreatRows
import Derived.Test.YticengaggjcppaaGreatPkD5
set_option linter.unusedVariables false
set_option linter.unusedSimpArgs false
set_option linter.all false
set_option maxRecDepth 100000
set_option maxHeartbeats 8000000
namespace Go.Proofs.YticengaggjcppaaGreat.X
section
open Go Go.RowKit K
variable {a c : Pg}
theorem ql (p : Pg) (nm : ByteArray) : lkL (sdP p).lf nm = ak (p.fs.map (·.nm)) nm := by
  have h2 := fi (p.fs.map (·.nm)) nm
  rw [List.length_map] at h2
  exact h2
def iniM (a c : Pg) (m : Ms) (s : ByteArray) : Ms := match ak (a.fs.map (·.nm)) s, ak (c.fs.map (·.nm)) s with
  | some x, some y => m.add (if aS a c x y then 1 else 4) ((true, x), (true, y))
  | _, _ => m
theorem jf {l : List ByteArray} {s : ByteArray} {i : Nat} (h : ak l s = some i) : l[i]? = some s := by
  unfold ak at h
  obtain ⟨h1, h2, _⟩ := List.findIdx?_eq_some_iff_getElem.1 h
  rw [List.getElem?_eq_getElem h1]
  exact congrArg some (of_decide_eq_true h2)
theorem Lnk.zero : Lnk a c ⟨[], []⟩ zerG := ⟨fun r => by cases r with | mk b k => cases b <;> rfl, fun r => by cases r with | mk b k => cases b <;> rfl, rfl, rfl, Nat.le_refl _, Nat.le_refl _⟩
theorem Lnk.ini {m : Ms} {s : Gst} {nm : ByteArray} (h : Lnk a c m s) (hf : ∀ x y, ak (a.fs.map (·.nm)) nm = some x → ak (c.fs.map (·.nm)) nm = some y → cB m ((true, x), (true, y))) : Lnk a c (iniM a c m nm) (ke a c s nm) := by
  unfold iniM ke
  rw [ql, ql]
  cases h1 : ak (a.fs.map (·.nm)) nm with
  | none => exact h
  | some x => cases h2 : ak (c.fs.map (·.nm)) nm with
    | none => exact h
    | some y => exact h.ad (hf x y h1 h2)
theorem ini_dr {m : Ms} {nm : ByteArray} (hd : m.dis) (hr : m.rng a c) (hf : ∀ x y, ak (a.fs.map (·.nm)) nm = some x → ak (c.fs.map (·.nm)) nm = some y → cB m ((true, x), (true, y))) : (iniM a c m nm).dis ∧ (iniM a c m nm).rng a c := by
  unfold iniM
  split; {
  rename_i x y h1 h2
  have hx := c7 h1
  have hy := c7 h2
  rw [List.length_map] at hx hy
  refine ⟨pQ (l := [((true, x), (true, y))]) hd (fun p hp => ?_) (by simp) (by simp), pY (l := [((true, x), (true, y))]) hr (fun p hp => ?_)⟩; {
  rw [List.mem_singleton] at hp; subst hp; exact hf x y h1 h2}; {
  rw [List.mem_singleton] at hp; subst hp; exact ⟨rfl, hx, hy⟩}}; {
  exact ⟨hd, hr⟩}
theorem free_0 {x y : Nat} : cB ⟨[], []⟩ ((true, x), (true, y)) := ⟨rfl, rfl, rfl⟩
theorem nms_ne : (⟨#[109, 97, 105, 110]⟩ : ByteArray) ≠ ⟨#[105, 110, 116, 101, 114, 114, 117, 112, 116]⟩ := by decide
theorem free_1 {n0 n1 : ByteArray} (hn : n0 ≠ n1) (x y : Nat) (h1 : ak (a.fs.map (·.nm)) n1 = some x) (h2 : ak (c.fs.map (·.nm)) n1 = some y) : cB (iniM a c ⟨[], []⟩ n0) ((true, x), (true, y)) := by
  unfold iniM
  split; {
  rename_i x0 y0 h3 h4
  have a1 := jf h1
  have a2 := jf h2
  have a3 := jf h3
  have a4 := jf h4
  refine ⟨rfl, ?_, ?_⟩; {
  unfold bR
  rw [pa_add rfl, if_neg (fun e => by cases e; rw [a1] at a3; cases a3; exact hn rfl)]
  rfl}; {
  unfold co
  rw [pc_add rfl rfl, if_neg (fun e => by cases e; rw [a2] at a4; cases a4; exact hn rfl)]
  rfl}}; {
  exact free_0}
theorem mc : LpI a c (je a c 2) (cI a c) (a.fs.length + a.gs.length + 1) := by
  have l1 := (Lnk.zero (a := a) (c := c)).ini (nm := ⟨#[109, 97, 105, 110]⟩) (fun _ _ _ _ => free_0)
  have l2 := l1.ini (nm := ⟨#[105, 110, 116, 101, 114, 114, 117, 112, 116]⟩) (fun x y h1 h2 => free_1 nms_ne x y h1 h2)
  have d1 := ini_dr (a := a) (c := c) (m := ⟨[], []⟩) (nm := ⟨#[109, 97, 105, 110]⟩) ⟨.nil, .nil, .nil, .nil⟩ ⟨by simp, by simp⟩ (fun _ _ _ _ => free_0)
  have d2 := ini_dr (nm := ⟨#[105, 110, 116, 101, 114, 114, 117, 112, 116]⟩) d1.1 d1.2 (fun x y h1 h2 => free_1 nms_ne x y h1 h2)
  exact ⟨l2, d2.1, d2.2, Ms.eqv.refl _, Nat.le_add_right _ _⟩
end
end Go.Proofs.YticengaggjcppaaGreat.X
namespace Go.Proofs.YticengaggjcppaaGreat.K
open Go Go.RowKit Go.ChangeMaps Go.MapKept Go.WideMaps
open Go.WideElems (Fit rg rd_val)
open Go.Maps (Keyed fit_look fit_store notKey_iff)
def MapK (P : Program) (k : TypeId) (o : Obj) (n : Nat) (f : Value → Option Value) : Prop :=
  ∃ es clock, o = .map es clock ∧ Fit P k R0 es clock ∧ es.size = n ∧ (∀ x ∈ es.toList, f x.key = some x.val) ∧ ∀ key, f key ≠ none → ∃ x ∈ es.toList, x.key = key
def entries : Obj → List MapEntry
  | .map es _ => es.toList
  | _ => []
def IterK (o : Obj) (b r : Nat) (done : List MapEntry) (seg : Seg) : Prop :=
  ∃ es clock seen, o = .map es clock ∧ seg = [(r, .mapIter (some b) clock seen clock)] ∧ seen.toList = done.map (·.born) ∧ done.Nodup ∧ ∀ x ∈ done, x ∈ entries o
theorem MapK.entries {P : Program} {k : TypeId} {o : Obj} {n : Nat} {f : Value → Option Value} (h : MapK P k o n f) : (K.entries o).length = n ∧ ((K.entries o).map (·.key)).Nodup ∧ (∀ x ∈ K.entries o, f x.key = some x.val) ∧ ∀ key, f key ≠ none → ∃ x ∈ K.entries o, x.key = key := by
  obtain ⟨es, clock, rfl, F, rfl, hf, hg⟩ := h
  exact ⟨by simp [K.entries], F.stamped.2.2, hf, hg⟩
section
variable {P : Program} {w0 : World} {N : Nat} {Q : Exit → Act → World → Prop} {env : Env} {own : List Seg} {H : Hp} {ops : Array Oper} {rest : List Oper}
variable {d : Option Tmp} {ty : TypeId} {pos : String} {af : Array Edge}
theorem TL.rangeK {t k e : TypeId} {x : Operand} {b n : Nat} {o : Obj} {f : Value → Option Value} (hx : ev env x = some (.map (some b))) (hb : H b = some o) [ht : Und P t (.map k e)] (ho : MapK P k o n f) (hd : okD N d = true)
    (h : ∀ r seg, IterK o b r [] seg → TL P w0 N Q ops rest (ao d (.pointer (some ⟨r, 0, none⟩)) env) (seg :: own) H) :
    TL P w0 N Q ops ({ dst := d, op := .range t x, type := ty, pos := pos, after := af, guard := none } :: rest) env own H := by
  obtain ⟨es, clock, rfl, F, rfl, hf, hg⟩ := ho
  refine TL.valE (φ := fun v own' H' => ∃ r, v = .pointer (some ⟨r, 0, none⟩) ∧ own' = [(r, .mapIter (some b) clock #[] clock)] :: own ∧ H' = H) rfl hd
    (fun a w ha hw => ⟨_, _, _, w.alloc (.mapIter (some b) clock #[] clock), ?_, ⟨w.heap.size, rfl, rfl, rfl⟩, hw.new _⟩) ?_
  {
  have hb' := MapKept.run_getObj_map (P := P) (hw.imm b _ hb)
  have : (Instr.range t (.map (some b))).run P w = .ok (.pointer (some ⟨w.heap.size, 0, none⟩)) (w.alloc (.mapIter (some b) clock #[] clock)) := by
    simp [Instr.range, run_underlying ht.eq, hb', Result.andThen]
  simp [execOp, ha.ev hx, this]}; {
  rintro v own' H' ⟨r, rfl, rfl, rfl⟩
  exact h r _ ⟨es, clock, #[], rfl, rfl, rfl, List.nodup_nil, by simp⟩}
theorem TL.nextK (i : Nat) {k : TypeId} {x : Operand} {b r n : Nat} {o : Obj} {f : Value → Option Value} {done : List MapEntry} {seg : Seg} (hx : ev env x = some (.pointer (some ⟨r, 0, none⟩))) (hi : own[i]? = some seg) (hit : IterK o b r done seg) (hb : H b = some o) (ho : MapK P k o n f) (hd : okD N d = true)
    (hover : (∀ e ∈ entries o, e ∈ done) → TL P w0 N Q ops rest (ao d (.tuple #[.bool false]) env) own H)
    (hnext : ∀ e seg', e ∈ entries o → e ∉ done → IterK o b r (done ++ [e]) seg' → TL P w0 N Q ops rest (ao d (.tuple #[.bool true, e.key, e.val]) env) (own.set i seg') H) :
    TL P w0 N Q ops ({ dst := d, op := .next x false, type := ty, pos := pos, after := af, guard := none } :: rest) env own H := fun a w ha hw => by
  obtain ⟨es, clock, seen, rfl, rfl, hseen, hnd, hsub⟩ := hit
  obtain ⟨es', clock', he, F, _, _, _⟩ := ho
  cases he
  have hr : w.heap[r]? = some (.mapIter (some b) clock seen clock) := hw.own_blk (j := 0) hi rfl
  have hmem : ∀ e ∈ es.toList, (seen.contains e.born = true ↔ e ∈ done) := by
    intro e hes
    constructor
    · intro h
      have h2 : e.born ∈ seen.toList := by simpa using h
      rw [hseen] at h2
      obtain ⟨x', hx', hb'⟩ := List.mem_map.1 h2
      have hx2 := hsub x' hx'
      have hn := F.stamped.2.1
      have : x' = e := by
        obtain ⟨p, hp⟩ := List.getElem?_of_mem hx2
        obtain ⟨q, hq⟩ := List.getElem?_of_mem hes
        have hpl := (List.getElem?_eq_some_iff.1 hp).1
        have e1 : (es.toList.map (·.born))[p]? = some x'.born := by rw [List.getElem?_map]; simp only [entries] at hp; rw [hp]; rfl
        have e2 : (es.toList.map (·.born))[q]? = some e.born := by rw [List.getElem?_map, hq]; rfl
        rw [hb', ← e2] at e1
        have := (List.getElem?_inj (by simpa [entries] using hpl) hn).1 e1
        subst this
        simp only [entries] at hp
        rw [hp] at hq
        exact Option.some.inj hq
      exact this ▸ hx'
    · intro h
      have : e.born ∈ seen.toList := by rw [hseen]; exact List.mem_map.2 ⟨e, h, rfl⟩
      simpa using this
  refine wpList_plain rfl fun K hK => ?_
  unfold Oper.wp
  rcases run_next_at (P := P) w ty r b clock clock seen es clock hr (hw.imm b _ hb) F.stamped.1 (Nat.le_refl _) with ⟨h0, hrun⟩ | ⟨e, he, w1, hw1, hrun⟩
  · have hop : (execOp a.eval { dst := d, op := .next x false, type := ty, pos := pos, after := af, guard := none }).run P w = .ok (.value (.tuple #[.bool false])) w := by simp [execOp, ha.ev hx, hrun]
    rw [hop]
    refine hK _ _ (hover (fun e hes => ?_) _ _ (ha.put hd _) hw)
    rw [← hmem e hes]
    cases hc : seen.contains e.born with
    | true => rfl
    | false =>
      have : e ∈ leftOf es seen := by
        unfold leftOf
        rw [Array.mem_filter]
        exact ⟨by simpa [entries] using hes, by simp only [hc]; rfl⟩
      rw [Array.eq_empty_of_size_eq_zero h0] at this
      simp at this
  · have hop : (execOp a.eval { dst := d, op := .next x false, type := ty, pos := pos, after := af, guard := none }).run P w = .ok (.value (.tuple #[.bool true, e.key, e.val])) (setBlock w1 r (.mapIter (some b) clock (seen.push e.born) clock)) := by simp [execOp, ha.ev hx, hrun]
    rw [hop]
    have he2 : e ∈ es.toList ∧ seen.contains e.born = false := by
      have h1 : e ∈ es ∧ ¬ e.born ∈ seen := by simpa [leftOf] using he
      exact ⟨by simpa using h1.1, by simpa using h1.2⟩
    have hno : e ∉ done := fun h => by rw [← hmem e he2.1, he2.2] at h; cases h
    have hst : St w0 H own w1 := by
      rcases hw1 with rfl | rfl
      · exact hw
      · exact hw.drew
    exact hK _ _ (hnext e [(r, .mapIter (some b) clock (seen.push e.born) clock)] he2.1 hno ⟨es, clock, seen.push e.born, rfl, rfl, by simp [hseen], by
      rw [List.nodup_append]
      exact ⟨hnd, by simp, by intro x' h1 y' h2 h3; simp at h2; subst h2; subst h3; exact hno h1⟩, by
      intro x' h1
      rcases List.mem_append.1 h1 with h1 | h1
      · exact hsub x' h1
      · simp at h1; subst h1; exact he2.1⟩ _ _ (ha.put hd _) (by simpa using hst.setObj (j := 0) hi rfl))
theorem TL.entryK (i : Nat) {k : TypeId} {x : Operand} {b r n : Nat} {o : Obj} {f : Value → Option Value} {done : List MapEntry} {e : MapEntry} {seg : Seg} (hx : ev env x = some (.pointer (some ⟨r, 0, none⟩))) (hi : own[i]? = some seg) (hit : IterK o b r (done ++ [e]) seg) (hb : H b = some o) (ho : MapK P k o n f) (hd : okD N d = true)
    (h : TL P w0 N Q ops rest (ao d (.tuple #[e.key, e.val]) env) own H) :
    TL P w0 N Q ops ({ dst := d, op := .entry x, type := ty, pos := pos, after := af, guard := none } :: rest) env own H := by
  obtain ⟨es, clock, seen, rfl, rfl, hseen, _, hsub⟩ := hit
  obtain ⟨es', clock', he, F, _, _, _⟩ := ho
  cases he
  refine TL.val rfl hd (fun a w ha hw => ⟨w, ?_, hw⟩) h
  have hs : seen = ((done.map (·.born)).toArray).push e.born := by
    have : seen.toList = (((done.map (·.born)).toArray).push e.born).toList := by simp [hseen]
    exact Array.toList_inj.1 this
  have hr : w.heap[r]? = some (.mapIter (some b) clock (((done.map (·.born)).toArray).push e.born) clock) := by rw [← hs]; exact hw.own_blk (j := 0) hi rfl
  have := run_entry_at (P := P) w r b clock _ es clock e hr (hw.imm b _ hb) (hsub e (by simp)) F.stamped.2.1
  simp [execOp, ha.ev hx, this]
end
end Go.Proofs.YticengaggjcppaaGreat.K
namespace Go.Proofs.YticengaggjcppaaGreat.X
open Go Go.RowKit Go.MapKept Go.ChangeMaps Go.Proofs K
def encC (x : aj) : List Value := [.bool x.1.1, .int .i64 (x.1.2 : Nat), .bool x.2.1, .int .i64 (x.2.2 : Nat)]
def j0 (l : List aj) : List Value := l.flatMap encC
theorem nv {a b : Seg} {r : List Seg} : ((b :: a :: r).flatten).Perm ((a :: b :: r).flatten) := by
  simp only [List.flatten_cons, ← List.append_assoc]
  exact List.perm_append_comm.append_right _
theorem ML.mapK {P : Program} {k e : TypeId} {α β : Type} [DecidableEq α] {kv : KV P k α} {vv : β → Value} {l : List (α × β)} {o : Obj} (h : ML kv e vv l o) : ∃ f, MapK P k o l.length f := by
  obtain ⟨_, h2, f, ⟨es, clock, rfl, F, hn, hf, hg⟩, h4, h5⟩ := h
  refine ⟨f, es, clock, rfl, F, hn, hf, fun key hk => ?_⟩
  obtain ⟨a, rfl⟩ := h5 key hk
  have : lkL l a ≠ none := fun e => hk (by rw [h4, e]; rfl)
  obtain ⟨b, hb⟩ := Option.ne_none_iff_exists'.1 this
  obtain ⟨kl, hkl⟩ := kv.key a (h2 _ (cx hb))
  exact hg _ kl hkl hk
theorem oI (o : Obj) : K.entries o = X.entries o := by cases o <;> rfl
theorem zrC : K.Zr Tryz.prog 177 #[.bool false, .int .i64 0, .bool false, .int .i64 0] := ⟨_, _, (show Tryz.prog.info? 177 = some Tryz.t177 from by kernel_rfl), rfl, rfl⟩
theorem qU {gf : FuncId} [Callable Tryz.prog gf] {lb : List Value} {S : List aj → Prop} {w0 : World} {H : Hp} {own : List Seg} (hit : iV Tryz.prog gf lb (fun k : aj => [r2V k]) S (fun ks => ks.length ≤ 4000000000000) w0 H) :
    K.Fn Tryz.prog 188 [.slice none 0 0, .func (.func gf) #[] lb.toArray] w0 H own (fun r own' H' => ∃ ks seg, S ks ∧ Row 177 4 r ks.length (j0 ks) seg ∧ own' = seg :: own ∧ Le H H') := by
  obtain ⟨z, hS⟩ := bC (BT.all_get T.ok (show T.bt.get 175 = some (.sl 177 4 32) from rfl))
  haveI := hS
  haveI : Und Tryz.prog 175 (.slice 177) := ⟨hS.und⟩
  haveI : Ty Tryz.prog 175 false 1 := cu (BT.all_get T.ok (show T.bt.get 175 = some (.sl 177 4 32) from rfl))
  haveI : Ty Tryz.prog 177 true 4 := cu (BT.all_get T.ok (i := 177) rfl)
  haveI := zrC
  refine Fn.enterX Tryz.func188 rfl Tryz.ntmps188 rfl ?_
  refine TCX.seq ?_; refine TCX.region ?_
  refine TLX.step rfl (TL.box (c := #[_]) rfl rfl rfl (fun g2 => Qc (TQX.go ?_)))
  refine TLX.step rfl (TL.assign rfl rfl (Qc (TQX.go ?_)))
  refine TLX.nil ?_; refine TQX.then_n ?_
  refine TCX.seq ?_; refine TCX.seq ?_; refine TCX.region ?_
  refine TLX.step rfl (TL.move rfl rfl (Qc (TQX.go ?_)))
  refine TLX.nil ?_; refine TQX.then_n ?_
  refine TCX.block ?_
  refine TCX.flat (own' := [] :: [(g2, .cells #[.slice none 0 0] 175 (0, 0))] :: own) (.refl _) ?_
  refine TCX.rangeFunc rfl hit (fun _ => rfl) rfl
    (fun pre own1 _ => ∃ u seg, Row 177 4 u pre.length (j0 pre) seg ∧ own1 = seg :: [(g2, .cells #[u] 175 (0, 0))] :: own) (fun _ _ _ _ => False) ?_ ?_ ?_ ?_
  {
  exact ⟨_, _, Row.nil _ 4, rfl⟩}; {
  rintro l D fn tmps mine pre k own1 H1 QB Kb hle1 ⟨u, seg, hrow, rfl⟩ hSp hRE hbody
  rw [List.length_append] at hSp
  simp only [List.length_cons, List.length_nil] at hSp
  refine TCX.region ?_
  refine TLX.step rfl (TL.new rfl (fun g5 => Qc (TQX.go ?_)))
  refine TLX.step rfl (TL.storeA 0 0 (c' := #[_, _, _, _]) (own' := [(_, .cells #[_, _, _, _] _ _)] :: _) rfl rfl rfl rfl rfl ⟨rfl, rfl, rfl, rfl, trivial⟩ (Nat.le_refl 4) rfl rfl rfl (Qc (TQX.go ?_)))
  refine TLX.nil ?_
  refine TQX.flat nv ?_
  refine hbody _ _ _ ?_
  refine TCX.block ?_; refine TCX.region ?_
  refine TLX.step rfl (TL.load_own 3 0 rfl rfl rfl rfl rfl (Qc (TQX.go ?_)))
  refine TLX.step rfl (TL.load_ownA 1 0 [_, _, _, _] rfl rfl rfl ⟨rfl, rfl, rfl, rfl, trivial⟩ rfl rfl (Qc (TQX.go ?_)))
  refine TLX.step rfl (TL.litF (r := [_, _, _, _]) [(0, [_, _, _, _])] ⟨rfl, ⟨_, rfl, rfl⟩, trivial⟩ rfl rfl rfl rfl (fun g10 => Qc (TQX.go ?_)))
  refine TLX.step rfl (TL.append 3 rfl rfl rfl hrow (Src.ofOwn 0 0 rfl rfl rfl (Ones.all (show Ones [_, _, _, _] from ⟨by rfl, by rfl, by rfl, by rfl, trivial⟩)) ⟨rfl, rfl, rfl, rfl, trivial⟩) (by omega) (by omega) rfl (fun v' seg' hrow' => Qc (TQX.go ?_)))
  refine TLX.step rfl (TL.store1 4 0 (c' := #[_]) (own' := _ :: _ :: _ :: _ :: [(_, .cells #[_] _ _)] :: _) rfl rfl rfl rfl hrow'.one (by simp) rfl rfl rfl (Qc (TQX.go ?_)))
  refine TLX.nil ?_
  refine TQX.in_n ?_
  refine TQX.ofQ ?_
  refine TQ.sel 5 [1, 3, 4] rfl (fun o ho => ?_)
  simp only [K.sel, nrm] at ho; subst ho
  intro a w ha hw
  refine hRE.n a w (_ :: _ :: own) _ ⟨Le.refl _, _, _, ?_, rfl⟩ hw
  rw [show j0 (pre ++ [k]) = j0 pre ++ encC k by simp [j0], List.length_append]
  exact hrow'}; {
  rintro l D r xs own1 H1 hle1 hS ⟨u, seg, hrow, rfl⟩
  refine TQX.in_n ?_
  refine TQX.then_n ?_
  refine TCX.seq ?_; refine TCX.region ?_
  refine TLX.step rfl (TL.load_own 2 0 rfl rfl rfl rfl rfl (Qc (TQX.go ?_)))
  refine TLX.step rfl (TL.assign rfl rfl (Qc (TQX.go ?_)))
  refine TLX.nil ?_; refine TQX.then_n ?_
  refine TCX.ret ?_
  refine TQX.flat (own' := aC l D r :: [(g2, .cells #[u] 175 (0, 0))] :: seg :: own) ?_ ?_; {
  exact List.Perm.append_left _ nv}
  exact TQX.ret1 1 rfl rfl rfl ⟨xs, seg, hS, hrow, rfl, hle1⟩}; {
  rintro l D r c pre own1 H1 _ _ hf
  exact hf.elim}
theorem keys_iter {l : List (aj × Unit)} {w0 : World} {HO : Hp} {ga gz go : Nat} {o : Obj} (hn : l.length ≤ 4000000000000) (h1 : cel HO ga gz = some (.map (some go))) (h3 : HO go = some o) (hm : ML kvC 4 c5 l o) : iV Tryz.prog 189 [.pointer (some ⟨ga, gz, none⟩)] (fun k : aj => [r2V k]) (fun ks => ks.Perm (l.map (·.1))) (fun ks => ks.length ≤ 4000000000000) w0 HO := by
  intro L J Jx own H hle0' hy hJ0
  replace h1 := fI hle0' h1
  replace h3 := hle0' _ _ h3
  obtain ⟨f, h4⟩ := hm.mapK
  have hen := h4.entries.1
  obtain ⟨he1, _⟩ := hm.ent
  haveI : Und Tryz.prog 226 (.map 177 4) := Und.mk (mL (BT.all_get T.ok (show T.bt.get 226 = some (.m 177 4) from rfl)))
  haveI : Ty Tryz.prog 226 false 1 := cu (BT.all_get T.ok (show T.bt.get 226 = some (.m 177 4) from rfl))
  haveI : Ty Tryz.prog 177 true 4 := cu (BT.all_get T.ok (i := 177) rfl)
  haveI := zrC
  refine Fn.enter Tryz.func189 rfl Tryz.ntmps189 rfl ?_; have hL := Le.refl H; refine TC.seq ?_; refine TC.region ?_; refine TL.load_imm rfl (h1) rfl ?_
  refine TL.rangeK rfl h3 h4 rfl ?_; intro r it hit; refine Qc ?_; refine Qd ?_; refine TC.block ?_
  refine TC.loop (fun n env' own' H' => ∃ (done : List MapEntry) (d : List (aj × Unit)) (it : Seg) (own1 : List Seg), n = (K.entries o).length - done.length ∧ IterK o go r done it ∧ (Came kvC c5 done d ∧ (d.map (·.1)).Nodup ∧ ∀ p ∈ d, p ∈ l) ∧ J (d.map (·.1)) own1 H' ∧ env' = [(0, .func (.yield L) #[] #[]), (1, .pointer (some ⟨ga, gz, none⟩)), (5, .pointer (some ⟨r, 0, none⟩))] ∧ own' = it :: own1 ∧ Le H H') (K.entries o).length [(0, _), (1, _), (5, _)] ⟨rfl, rfl, rfl, trivial⟩ ⟨[], [], it, _, by simp, hit, ⟨Came.nil, List.nodup_nil, by simp⟩, hJ0, rfl, rfl, Le.refl _⟩ ?_
  rintro n _ _ H1 ⟨done, d, it, own1, rfl, hit, ⟨hc1, hc2, hc3⟩, hJ, rfl, rfl, hle0⟩
  have hit' := hit
  obtain ⟨es, clock, seen, _, _, _, hdn, hds⟩ := hit'
  have hL := Le.trans hL hle0; have h3 := hle0 _ _ h3; refine TC.seq ?_; refine TC.region ?_
  refine TL.nextK 0 rfl rfl hit h3 h4 rfl (fun cq => ?_) (fun e it2 he hno hit2 => ?_); {
  refine TL.extract rfl rfl rfl ?_; refine Qc ?_; refine Qd ?_; refine TC.seq ?_; refine TC.cond_f rfl ?_; refine TC.exit ?_; refine TQ.then_e ?_; refine TQ.then_e ?_; refine TQ.in_e ?_; refine TQ.end0 1 rfl ?_
  exact ⟨hL, .inl ⟨_, (hc1.all hm hc2 hc3 (by rw [← oI]; exact cq)).map _, hJ⟩⟩}; {
  have hit3 := hit2
  obtain ⟨_, _, _, _, _, _, hd2, hs2⟩ := hit3
  obtain ⟨p, hp, ek, ev⟩ := he1 e (by rw [← oI]; exact he)
  have hnew := Came.new hm hc1 (by rw [← oI]; exact hds) (by rw [← oI]; exact he) hno ek
  have hc1' := hc1.snoc ek ev
  have hc2' : ((d ++ [p]).map (·.1)).Nodup := by
    rw [List.map_append, List.nodup_append]
    exact ⟨hc2, by simp, fun x hx y hy e => by rw [List.map_cons, List.map_nil, List.mem_singleton] at hy; exact hnew (hy ▸ e ▸ hx)⟩
  have hc3' : ∀ x ∈ d ++ [p], x ∈ l := fun x hx => by
    rcases List.mem_append.1 hx with hx | hx
    {
    exact hc3 x hx}; {
    rw [List.mem_singleton.1 hx]; exact hp}
  have hdl : (d ++ [p]).length ≤ l.length := ly (List.Pairwise.of_map (S := (· ≠ ·)) (·.1) (fun a b h e => h (e ▸ rfl)) hc2') hc3'
  have hdl2 := ly hd2 hs2
  refine TL.extract rfl rfl rfl ?_; refine Qc ?_; refine Qd ?_; refine TC.seq ?_; refine TC.cond_t rfl ?_; refine TC.skip ?_; refine Qd ?_; refine TC.block ?_; refine TC.seq ?_; refine TC.region ?_; refine TL.entryK 0 rfl rfl hit2 h3 h4 rfl ?_
  rw [ek]
  refine TL.extract rfl rfl rfl ?_
  refine TL.new rfl ?_; intro g3; refine TL.storeA 0 0 (c' := #[_, _, _, _]) (own' := [(_, .cells #[_, _, _, _] _ _)] :: _) rfl rfl rfl rfl rfl ⟨rfl, rfl, rfl, rfl, trivial⟩ (by simp) rfl rfl rfl ?_; refine Qc ?_; refine Qd ?_; refine TC.seq ?_; refine TC.ofX ?_; refine TCX.region ?_
  refine TLX.step rfl (TL.move rfl rfl (Qc (TQX.go ?_)))
  refine TLX.step rfl (TL.load_ownA 0 0 [_, _, _, _] rfl rfl rfl ⟨rfl, rfl, rfl, rfl, trivial⟩ rfl rfl (Qc (TQX.go ?_)))
  refine TLX.yield (xs := [_]) (vs := [r2V p.1]) [_, _] own1 rfl ⟨rfl, trivial⟩ rfl (hy (d.map (·.1)) p.1 own1 _ hL hJ (by show (d.map (·.1) ++ [p.1]).length ≤ 4000000000000; rw [List.length_append, List.length_map]; rw [List.length_append] at hdl; simp only [List.length_cons, List.length_nil] at hdl ⊢; omega)) rfl ?_
  rintro _ own2 H2 ⟨hle2, ⟨rfl, hJ2⟩ | ⟨rfl, hJ2⟩⟩; {
  refine TLX.step rfl (TL.not rfl rfl (Qc (TQX.go ?_)))
  refine TLX.nil ?_; refine TQX.ofQ ?_; have hL := Le.trans hL hle2; have h3 := hle2 _ _ h3; have hle0 := Le.trans hle0 hle2; refine Qd ?_; refine TC.cond_f rfl ?_; refine TC.skip ?_; refine TQ.in_n ?_
  refine TQ.sel 2 [1] rfl (fun o ho => ?_)
  simp only [K.sel, nrm] at ho; subst ho
  refine TQ.next ((K.entries ‹Obj›).length - (done ++ [e]).length) [(0, _), (1, _), (5, _)] (by simp only [List.length_append, List.length_cons, List.length_nil] at hdl2 ⊢; omega) ⟨rfl, rfl, rfl, trivial⟩ ⟨done ++ [e], d ++ [p], _, _, rfl, hit2, ⟨hc1', hc2', hc3'⟩, by rw [List.map_append]; exact hJ2, rfl, rfl, hle0⟩}; {
  refine TLX.step rfl (TL.not rfl rfl (Qc (TQX.go ?_)))
  refine TLX.nil ?_; refine TQX.ofQ ?_; have hL := Le.trans hL hle2; have h3 := hle2 _ _ h3; refine Qd ?_; refine TC.cond_t rfl ?_; refine TC.ret ?_; refine TQ.in_r ?_; refine TQ.then_r ?_; refine TQ.in_r ?_; refine TQ.ret0 2 rfl ?_
  exact ⟨hL, .inr ⟨_, by show (d.map (·.1) ++ [p.1]).length ≤ 4000000000000; rw [List.length_append, List.length_map]; rw [List.length_append] at hdl; simp only [List.length_cons, List.length_nil] at hdl ⊢; omega, hJ2⟩⟩}}
theorem oJ {w0 : World} {H : Hp} {own : List Seg} {gf : FuncId} [Callable Tryz.prog gf] {lb : List Value} {S : List aj → Prop} (hit : iV Tryz.prog gf lb (fun k : aj => [r2V k]) S (fun ks => ks.length ≤ 4000000000000) w0 H) :
    K.Fn Tryz.prog 129 [.func (.func gf) #[] lb.toArray] w0 H own (fun r own' H' => ∃ ks seg, S ks ∧ Row 177 4 r ks.length (j0 ks) seg ∧ own' = seg :: own ∧ Le H H') := by
  haveI : Callable Tryz.prog 188 := Callable.of Tryz.func188 rfl rfl
  refine Fn.enter Tryz.func129 rfl Tryz.ntmps129 rfl ?_; have hL := Le.refl H; refine TC.seq ?_; refine TC.region ?_; refine TL.assign rfl rfl ?_; refine Qc ?_; refine Qd ?_; refine TC.seq ?_; refine TC.region ?_; refine TL.move rfl rfl ?_; refine TL.call (qU hit) ⟨rfl, rfl, trivial⟩ rfl ?_
  rintro r4 _ H4 ⟨ks, seg, hS, hrow, rfl, hle4⟩
  have hL := Le.trans hL hle4; refine TL.assign rfl rfl ?_; refine Qc ?_; refine Qd ?_; refine TC.ret ?_; refine TQ.ret1 0 rfl rfl ?_
  exact ⟨_, _, hS, hrow, rfl, hL⟩
theorem encs_rd {H : Hp} : ∀ l : List aj, rdL H (l.map cdD).flatten (j0 l)
  | [] => trivial
  | x :: r => by
    rw [List.map_cons, List.flatten_cons]
    exact rdL.append (show rdL H (cdD x) (encC x) from ⟨⟨rfl, rfl⟩, ⟨rfl, rfl⟩, ⟨rfl, rfl⟩, ⟨rfl, rfl⟩, trivial⟩) (encs_rd r)
theorem col_c : ColC := by
  intro l hl
  refine ⟨rfl, ?_, Callable.of Tryz.func129 rfl rfl, ?_⟩; {
  rintro r ⟨d, _, rfl⟩; rfl}
  rintro ⟨w0, own, H, V, nx0, F, pk', v0, hF⟩ rfl rfl rfl sg vals ha hr ht w hw
  obtain rfl := HR0 hr
  match vals, ha with
  | [v], ⟨h1, _⟩ =>
    simp only [XV.rel, XA.rel, XC.rel, rd] at h1
    obtain ⟨us, ws, rfl, h2, h3⟩ := h1
    have hus : us = #[] := by
      cases us with | mk q => cases q with | nil => rfl | cons => exact h2.elim
    subst hus
    obtain ⟨wl⟩ := ws
    match wl, h3 with
    | [u], ⟨h4, _⟩ =>
      simp only [rd] at h4
      obtain ⟨b, o, rfl, h5⟩ := h4
      obtain ⟨⟨q, h6, h7⟩, _⟩ := h5
      simp only [rd] at h7
      obtain ⟨bo, ob, rfl, h8, h9⟩ := h7
      haveI : Callable Tryz.prog 189 := Callable.of Tryz.func189 rfl rfl
      have hw' : St w0 H own w := hw.flat (List.Perm.refl _)
      refine Calls.mono (oJ (own := own) (keys_iter hl h6 h8 h9) w hw') ?_
      rintro e w' ⟨v, own', H', rfl, ⟨ks, seg, hp, hrow, rfl, hle⟩, hw2⟩
      obtain ⟨f1, f2, f3⟩ := hw2.freeze
      refine .inl ⟨v, xr (ks.map cdD), [], V, addH H' seg, [], rfl, ⟨⟨ks, hp, rfl⟩, rfl⟩, ?_, rfl, (by intro b hb; simp at hb), List.nodup_nil, (fun b hb => by simp at hb), VLe.refl _, fun g t hg => ?_, fun g t h1 h2 => absurd h1 h2, hle.trans f2, f1.flat (List.Perm.refl _)⟩; {
      simp only [XV.rel, XA.rel, XC.rel, rd]
      rcases hrow.2 with ⟨rfl, h0, _⟩ | ⟨g, cap, cur, rfl, rfl, c1, c2, c3, c4⟩
      {
      have : ks = [] := List.length_eq_zero_iff.1 h0
      subst this
      exact ⟨none, 0, 4, rfl, Nat.le_refl _, by simp [maxLen], .inl rfl⟩}; {
      refine ⟨some ⟨g, 0, none⟩, cap, 4, by rw [List.length_map], by rw [List.length_map]; exact c1, c2, .inr ⟨g, 0, rfl, ?_⟩⟩
      have hb := f3 _ (List.mem_singleton.2 rfl)
      have hat := oq (us := j0 ks) (j := cur.toList.drop (ks.length * 4)) (e := 177) (by rw [← c4, List.take_append_drop]; exact hb) 0
      rw [List.drop_zero] at hat
      exact rdr.of hat (encs_rd ks) (fun r hr => by obtain ⟨x, _, rfl⟩ := List.mem_map.1 hr; rfl)}}; {
      cases hv : V g t with
      | none => rfl
      | some i =>
        have := (v0 g t (by show V g t ≠ none; rw [hv]; simp)).2
        cases this}
theorem ref_Match {a c : Pg} {B : Nat} (ha : a.ok B) (hc : c.ok B) (hB : B ≤ 1000000000) (fa : Fw a) (fc : Fw c) : XQ Tryz.prog pk0 15 [xd (pgD a), xd (pgD c)] (.a (.a [.d (.s ((aX a c).1.map (prD a c))), .d (.s ((aX a c).2.map prG))])) := match_of col_c ha hc hB fa fc mc
section
open Go Go.RowKit Go.Proofs K
def mtL (a c : Pg) : List Pq := (aX a c).1.map fun p => (p.a, p.b, av a c p.a p.b, p.why)
def mtG (a c : Pg) : List Pq := (aX a c).2.map fun p => (p.a, p.b, 1000, 5)
theorem fj {a c : Pg} {B : Nat} (ha : a.ok B) (hc : c.ok B) (hB : B ≤ 1000000000) (fa : Fw a) (fc : Fw c) : XQ Tryz.prog pk0 15 [xd (pgD a), xd (pgD c)] (.a (.a [.d (.s ((mtL a c).map pqD)), .d (.s ((mtG a c).map pqD))])) := by
  have h := ref_Match ha hc hB fa fc
  rw [mtL, mtG, List.map_map, List.map_map]
  exact h
variable {pk : Pk}
def hasF (l : List Pq) (a b w : Int) : Bool := match l.find? fun q => decide ((q.1 : Int) = a) && decide ((q.2.1 : Int) = b) with
  | some q => decide (q.2.2.2 = w)
  | none => false
theorem jg {l : List Pq} (hl : l.length ≤ 1000000000) (a b w : Int) : XQ Tryz.prog pk 30 [xr (l.map pqD), xi a, xi b, xi w] (xb (hasF l a b w)) := by
  refine XQ.en Tryz.func30 Tryz.ntmps30 (fun w0 own H V v0 hf => ?_)
  refine G9 rfl (Lq [0, 1, 2, 3] (fun q r => (8, xb false) :: (9, xi (q : Nat)) :: r) (fun q => []) 0 (fun q => q ≤ l.length ∧ ∀ x ∈ l.take q, (decide ((x.1 : Int) = a) && decide ((x.2.1 : Int) = b)) = false) (fun q => l.length - q) 0 rfl ⟨Nat.zero_le _, fun x hx => by cases hx⟩ ?_)
  rintro j ⟨hj, hI⟩
  refine G9 rfl (If rfl (fun h => ?_) (fun h => ?_)); {
  have hjl := of_decide_eq_true h; rw [List.length_map] at hjl
  obtain ⟨y, hy⟩ := ai (l := l) (j := j) (by omega)
  refine G9 rfl (Ix (T := T) j (ab (f := pqD) hy) rfl rfl rfl rfl ⟨rfl, rfl⟩ rfl rfl ?_)
  refine Gs (T := T) 1000 rfl ?_
  refine Is (T := T) j (pqD y) (fun _ => ⟨ab (f := pqD) hy, rfl⟩) rfl rfl rfl rfl rfl rfl rfl rfl ?_
  refine Gs (T := T) 1000 rfl ?_
  refine If rfl (fun h => ?_) (fun h => ?_); {
  refine G9 rfl ?_
  refine Ix (T := T) j (ab (f := pqD) hy) rfl rfl rfl rfl ⟨rfl, rfl⟩ rfl rfl ?_
  refine G9 rfl (Fe (T := T) rfl (congrArg xb (by rw [hasF, find_at hI hy h])))}; {
  refine G9 rfl ?_
  exact Nq (j + 1) ⟨by omega, cL hI hy h⟩ (by show _ - (j + 1) < _ - j; omega)}}; {
  have hjl := of_decide_eq_false h; rw [List.length_map] at hjl
  refine G9 rfl ?_
  rw [List.take_of_length_le (by omega)] at hI
  exact Fe (T := T) rfl (congrArg xb (by rw [hasF, List.find?_eq_none.2 (fun x hx => by rw [hI x hx]; simp)]))}
theorem cE {nm : ByteArray} {b : List Sm} (h1 : nm.size ≤ 4) (h2 : Sm.oks b) (h3 : Sm.sizes b ≤ 100) : (fnV nm b).ok 100 :=
  ⟨by show nm.size ≤ _; omega, by show 0 ≤ 100; decide, fun x h => (by cases h), ⟨⟨by omega, by omega⟩, by decide, ⟨by omega, by omega⟩, trivial⟩, by show (Ty4.mk 7 eS 0 []).size ≤ 100; decide, h2, h3, (show I64 0 from ⟨by omega, by omega⟩), (show (0 : Int) ≤ 0 ∧ (0 : Int) ≤ 65535 by omega)⟩
theorem fk : outS.ok := ⟨⟨by omega, by omega⟩, by decide, bV, ⟨by omega, by omega⟩, ⟨⟨⟨by omega, by omega⟩, by decide, ⟨by omega, by omega⟩, trivial⟩, trivial⟩, trivial, trivial, trivial⟩
theorem eM {nm : ByteArray} (h : nm.size ≤ 4) : (lm nm).ok := ⟨⟨by omega, by omega⟩, by decide, bV, ⟨by omega, by omega⟩, ⟨⟨⟨by omega, by omega⟩, by show nm.size ≤ _; omega, ⟨by omega, by omega⟩, trivial⟩, trivial⟩, trivial, trivial, trivial⟩
theorem mh {k : Int} (h : U63 k) : (simpS k).ok := ⟨h, by decide, bV, ⟨by omega, by omega⟩, trivial, trivial, trivial, trivial⟩
theorem nw {fs : List Fu} (h1 : fs.length ≤ 100) (h : ∀ f ∈ fs, f.ok 100) : Pg.ok 100 ⟨[], [], fs⟩ ∧ Fw ⟨[], [], fs⟩ := ⟨⟨Nat.zero_le _, Nat.zero_le _, h1, fun x h => (by cases h), fun x h => (by cases h), h⟩, ⟨by show fs.length ≤ _; omega, Nat.zero_le _⟩⟩
theorem fm {α : Type} {p : α → Prop} : ∀ {l : List α}, (l.foldr (fun x r => p x ∧ r) True) → ∀ x ∈ l, p x
  | [], _, x, h => by cases h
  | y :: r, h, x, hx => by
    rcases List.mem_cons.1 hx with rfl | hx
    {
    exact h.1}; {
    exact fm h.2 x hx}
theorem ok_X1 : exX1.ok 100 ∧ Fw exX1 := nw (by decide) (fm ⟨cE (by decide) ⟨eM (by decide), eM (by decide), trivial⟩ (by decide), cE (by decide) ⟨fk, trivial⟩ (by decide), cE (by decide) ⟨fk, trivial⟩ (by decide), trivial⟩)
theorem ok_X2 : exX2.ok 100 ∧ Fw exX2 := nw (by decide) (fm ⟨cE (by decide) ⟨eM (by decide), eM (by decide), trivial⟩ (by decide), cE (by decide) ⟨fk, trivial⟩ (by decide), cE (by decide) ⟨fk, trivial⟩ (by decide), trivial⟩)
theorem ok_Y1 : exY1.ok 100 ∧ Fw exY1 := nw (by decide) (fm ⟨cE (by decide) trivial (by decide), cE (by decide) ⟨fk, trivial⟩ (by decide), trivial⟩)
theorem ok_Y2 : exY2.ok 100 ∧ Fw exY2 := nw (by decide) (fm ⟨cE (by decide) ⟨mh ⟨by omega, by omega⟩, trivial⟩ (by decide), cE (by decide) ⟨fk, trivial⟩ (by decide), trivial⟩)
theorem ok_Z1 : exZ1.ok 100 ∧ Fw exZ1 := nw (by decide) (fm ⟨cE (by decide) ⟨eM (by decide), trivial⟩ (by decide), cE (by decide) ⟨fk, trivial⟩ (by decide), trivial⟩)
theorem ok_Z2 : exZ2.ok 100 ∧ Fw exZ2 := nw (by decide) (fm ⟨cE (by decide) ⟨mh ⟨by omega, by omega⟩, eM (by decide), trivial⟩ (by decide), cE (by decide) ⟨mh ⟨by omega, by omega⟩, trivial⟩ (by decide), trivial⟩)
theorem jP {s : ByteArray} (h : s.data.toList.all (fun b => !decide (b = 47)) = true) : noS s := fun b hb e => by
  have := List.all_eq_true.1 h b hb
  rw [decide_eq_true e] at this; cases this
theorem qV : XQ Tryz.prog pk0 12 [] (xb true) := by
  have pX1 := cQ (pk := pk0) (s := scX1) (by decide) (jP nos_X1) src_X1
  have pX2 := cQ (pk := pk0) (s := scX2) (by decide) (jP nos_X2) src_X2
  have pY1 := cQ (pk := pk0) (s := scY1) (by decide) (jP nos_Y1) src_Y1
  have pY2 := cQ (pk := pk0) (s := scY2) (by decide) (jP nos_Y2) src_Y2
  have pZ1 := cQ (pk := pk0) (s := scZ1) (by decide) (jP nos_Z1) src_Z1
  have pZ2 := cQ (pk := pk0) (s := scZ2) (by decide) (jP nos_Z2) src_Z2
  have mX := fj ok_X1.1 ok_X2.1 (by decide) ok_X1.2 ok_X2.2
  have mY := fj ok_Y1.1 ok_Y2.1 (by decide) ok_Y1.2 ok_Y2.2
  have mZ := fj ok_Z1.1 ok_Z2.1 (by decide) ok_Z1.2 ok_Z2.2
  have eX : mtL exX1 exX2 = [(0, 0, av exX1 exX2 0 0, 1), (1, 2, av exX1 exX2 1 2, 2), (2, 1, av exX1 exX2 2 1, 2)] := by rw [mtL, ex_x]; rfl
  have eY : mtL exY1 exY2 = [(0, 0, av exY1 exY2 0 0, 4), (1, 1, av exY1 exY2 1 1, 1)] := by rw [mtL, ex_y]; rfl
  have eZ : mtL exZ1 exZ2 = [(0, 0, av exZ1 exZ2 0 0, 4), (1, 1, av exZ1 exZ2 1 1, 2)] := by rw [mtL, ex_z]; rfl
  have h1 := jg (pk := pk0) (l := mtL exX1 exX2) (by rw [eX]; decide) 1 2 2
  have h2 := jg (pk := pk0) (l := mtL exX1 exX2) (by rw [eX]; decide) 2 1 2
  have h3 := jg (pk := pk0) (l := mtL exY1 exY2) (by rw [eY]; decide) 0 0 4
  have h4 := jg (pk := pk0) (l := mtL exY1 exY2) (by rw [eY]; decide) 1 1 1
  have h5 := jg (pk := pk0) (l := mtL exZ1 exZ2) (by rw [eZ]; decide) 1 1 2
  rw [show hasF (mtL exX1 exX2) 1 2 2 = true from by rw [eX]; rfl] at h1
  rw [show hasF (mtL exX1 exX2) 2 1 2 = true from by rw [eX]; rfl] at h2
  rw [show hasF (mtL exY1 exY2) 0 0 4 = true from by rw [eY]; rfl] at h3
  rw [show hasF (mtL exY1 exY2) 1 1 1 = true from by rw [eY]; rfl] at h4
  rw [show hasF (mtL exZ1 exZ2) 1 1 2 = true from by rw [eZ]; rfl] at h5
  clear eX eY eZ
  generalize hx1 : pgD exX1 = X1 at mX
  generalize hx2 : pgD exX2 = X2 at mX
  generalize hy1 : pgD exY1 = Y1 at mY
  generalize hy2 : pgD exY2 = Y2 at mY
  generalize hz1 : pgD exZ1 = Z1 at mZ
  generalize hz2 : pgD exZ2 = Z2 at mZ
  rw [show (⟨[], [], exX1.fs⟩ : Pg) = exX1 from rfl, hx1] at pX1
  rw [show (⟨[], [], exX2.fs⟩ : Pg) = exX2 from rfl, hx2] at pX2
  rw [show (⟨[], [], exY1.fs⟩ : Pg) = exY1 from rfl, hy1] at pY1
  rw [show (⟨[], [], exY2.fs⟩ : Pg) = exY2 from rfl, hy2] at pY2
  rw [show (⟨[], [], exZ1.fs⟩ : Pg) = exZ1 from rfl, hz1] at pZ1
  rw [show (⟨[], [], exZ2.fs⟩ : Pg) = exZ2 from rfl, hz2] at pZ2
  clear hx1 hx2 hy1 hy2 hz1 hz2
  generalize mtL exX1 exX2 = lX at mX h1 h2
  generalize mtG exX1 exX2 = gX at mX
  generalize mtL exY1 exY2 = lY at mY h3 h4
  generalize mtG exY1 exY2 = gY at mY
  generalize mtL exZ1 exZ2 = lZ at mZ h5
  generalize mtG exZ1 exZ2 = gZ at mZ
  refine XQ.en Tryz.func12 Tryz.ntmps12 (fun w0 own H V v0 hf => ?_)
  refine G9 rfl (Cq pX1 rfl rfl rfl rfl rfl ⟨rfl, rfl⟩ ?_)
  refine G9 rfl (Cq pX2 rfl rfl rfl rfl rfl ⟨rfl, rfl⟩ ?_)
  refine G9 rfl (Cq mX rfl rfl rfl rfl rfl ⟨rfl, rfl⟩ ?_)
  refine G9 rfl (Cq pY1 rfl rfl rfl rfl rfl ⟨rfl, rfl⟩ ?_)
  refine G9 rfl (Cq pY2 rfl rfl rfl rfl rfl ⟨rfl, rfl⟩ ?_)
  refine G9 rfl (Cq mY rfl rfl rfl rfl rfl ⟨rfl, rfl⟩ ?_)
  refine G9 rfl (Cq pZ1 rfl rfl rfl rfl rfl ⟨rfl, rfl⟩ ?_)
  refine G9 rfl (Cq pZ2 rfl rfl rfl rfl rfl ⟨rfl, rfl⟩ ?_)
  refine G9 rfl (Cq mZ rfl rfl rfl rfl rfl ⟨rfl, rfl⟩ ?_)
  refine G9 rfl (Cq h1 rfl rfl rfl rfl rfl ⟨rfl, rfl⟩ ?_)
  refine G9 rfl (Cq h2 rfl rfl rfl rfl rfl ⟨rfl, rfl⟩ ?_)
  refine G9 rfl (Cq h3 rfl rfl rfl rfl rfl ⟨rfl, rfl⟩ ?_)
  refine G9 rfl (Cq h4 rfl rfl rfl rfl rfl ⟨rfl, rfl⟩ ?_)
  refine G9 rfl (Cq h5 rfl rfl rfl rfl rfl ⟨rfl, rfl⟩ ?_)
  refine G9 rfl (Fe (T := T) rfl rfl)
end
theorem MP.few {p : Pg} (h : MP p) : p.ok BG ∧ Fw p ∧ 1 ≤ p.fs.length ∧ 1 ≤ p.gs.length := by
  have hok := h.facts.2
  obtain ⟨tn, s1, s2, fs, hd, ht, h1, h2, rfl, hl1, hl2, hn, hF, hh⟩ := h
  have l0 : (dT tn).length ≤ 7 := by unfold dT; (repeat' split) <;> decide
  have e2 : (dT tn ++ [gbT s1, gbW s2]).length = (dT tn).length + 2 := by rw [List.length_append]; rfl
  have l3 : (fs ++ hd).length ≤ 5 ∧ 1 ≤ (fs ++ hd).length := by
    rw [List.length_append]
    rcases hh with rfl | ⟨b, rfl, _⟩ <;> simp only [List.length_cons, List.length_nil] <;> omega
  exact ⟨hok, ⟨by show (fs ++ hd).length ≤ _; omega, by show (dT tn ++ [gbT s1, gbW s2]).length ≤ _; omega⟩, l3.2, by show 1 ≤ (dT tn ++ [gbT s1, gbW s2]).length; omega⟩
section
open Go Go.RowKit Go.Proofs K
variable {pk : Pk}
def badQ (a b : Int) (x : Pq) : Bool := decide ((x.1 : Int) = a) && decide ((x.2.1 : Int) ≠ b)
def jh (l : List Pq) (a b : Int) : Bool := !l.any (badQ a b) && l.any (fun x => decide ((x.1 : Int) = a))
theorem partB_t {l : List Pq} {a b : Nat} (h1 : ∀ q ∈ l, q.1 = a → q.2.1 = b) (h2 : ∃ q ∈ l, q.1 = a) : jh l (a : Nat) (b : Nat) = true := by
  unfold jh
  have e1 : l.any (badQ (a : Nat) (b : Nat)) = false := by
    rw [List.any_eq_false]
    intro x hx h
    unfold badQ at h
    rw [Bool.and_eq_true, decide_eq_true_eq, decide_eq_true_eq] at h
    exact h.2 (by rw [h1 x hx (by omega)])
  have e2 : l.any (fun x => decide ((x.1 : Int) = (a : Nat))) = true := by
    obtain ⟨q, hq, e⟩ := h2
    exact List.any_eq_true.2 ⟨q, hq, decide_eq_true (by rw [e])⟩
  rw [e1, e2]; rfl
theorem j4 {l : List Pq} (hl : l.length ≤ 1000000000) (a b : Int) : XQ Tryz.prog pk 17 [xr (l.map pqD), xi a, xi b] (xb (jh l a b)) := by
  refine XQ.en Tryz.func17 Tryz.ntmps17 (fun w0 own H V v0 hf => ?_)
  refine G9 rfl (Lq [0, 1, 2] (fun (q : Nat × Bool) r => (6, xb false) :: (7, xb q.2) :: (8, xi (q.1 : Nat)) :: r) (fun q => []) 0 (fun q => q.1 ≤ l.length ∧ (∀ x ∈ l.take q.1, badQ a b x = false) ∧ q.2 = (l.take q.1).any (fun x => decide ((x.1 : Int) = a))) (fun q => l.length - q.1) (0, false) rfl ⟨Nat.zero_le _, (fun x hx => by cases hx), rfl⟩ ?_)
  rintro ⟨j, fd⟩ ⟨hj, hI, hF⟩; dsimp only at hj hI hF ⊢
  refine G9 rfl (If rfl (fun h => ?_) (fun h => ?_))
  · have hjl := of_decide_eq_true h; rw [List.length_map] at hjl
    obtain ⟨y, hy⟩ := ai (l := l) (j := j) (by omega)
    refine G9 rfl (Ix (T := T) j (ab (f := pqD) hy) rfl rfl rfl rfl ⟨rfl, rfl⟩ rfl rfl ?_)
    refine Gs (T := T) 1000 rfl ?_
    refine Is (T := T) j (pqD y) (fun _ => ⟨ab (f := pqD) hy, rfl⟩) rfl rfl rfl rfl rfl rfl rfl rfl ?_
    refine Gs (T := T) 1000 rfl ?_
    refine If rfl (fun h => ?_) (fun h => ?_)
    · refine G9 rfl ?_
      exact Fe (T := T) rfl (congrArg xb (by
        have : l.any (badQ a b) = true := List.any_eq_true.2 ⟨y, List.mem_of_getElem? hy, h⟩
        rw [jh, this]; rfl))
    · have hst : (l.take (j + 1)).any (fun x => decide ((x.1 : Int) = a)) = (fd || decide ((y.1 : Int) = a)) := by
        rw [List.take_add_one, hy, List.any_append, ← hF]; show (_ || (_ || false)) = _; rw [Bool.or_false]
      cases fd with
      | true =>
        refine G9 rfl ?_
        exact Nq (j + 1, true) ⟨by show j + 1 ≤ _; omega, cL hI hy h, by rw [hst]; rfl⟩ (by show _ - (j + 1) < _ - j; omega)
      | false =>
        refine G9 rfl (Ix (T := T) j (ab (f := pqD) hy) rfl rfl rfl rfl ⟨rfl, rfl⟩ rfl rfl ?_)
        refine G9 rfl ?_
        exact Nq (j + 1, decide ((y.1 : Int) = a)) ⟨by show j + 1 ≤ _; omega, cL hI hy h, by rw [hst]; rfl⟩ (by show _ - (j + 1) < _ - j; omega)
  · have hjl := of_decide_eq_false h; rw [List.length_map] at hjl
    refine G9 rfl ?_
    rw [List.take_of_length_le (by omega)] at hI hF
    exact Fe (T := T) rfl (congrArg xb (by
      have : l.any (badQ a b) = false := List.any_eq_false.2 fun x hx => by rw [hI x hx]; simp
      rw [jh, this, hF]; rfl))
end
section
variable {a c : Pg} {R : Rf → Prop} {good : Nat → Prop} {σ : Rf → Rf} {m : Ms}
theorem qm {m' : Ms} (h : bS a c m = some m') : (∀ p ∈ m.fs, p ∈ m'.fs) ∧ ∀ p ∈ m.gs, p ∈ m'.gs := by
  obtain ⟨l, w, _, _, rfl⟩ := lL h
  obtain ⟨e1, e2⟩ := d7 w (ah l) m
  exact ⟨fun p hp => by rw [e1]; exact List.mem_append_left _ hp, fun p hp => by rw [e2]; exact List.mem_append_left _ hp⟩
theorem qn : ∀ (k : Nat) {m : Ms}, (∀ p ∈ m.fs, p ∈ (bA a c k m).fs) ∧ ∀ p ∈ m.gs, p ∈ (bA a c k m).gs
  | 0, _ => ⟨fun _ h => h, fun _ h => h⟩
  | k + 1, m => by
    rw [bA]
    split; {
    rename_i m' h
    obtain ⟨h1, h2⟩ := qm h
    obtain ⟨h3, h4⟩ := qn k (m := m')
    exact ⟨fun p hp => h3 p (h1 p hp), fun p hp => h4 p (h2 p hp)⟩}; {
    exact ⟨fun _ h => h, fun _ h => h⟩}
theorem phases (hc : Corr a c R good σ) : ∀ (k : Nat) {m : Ms}, On R σ m → m.dis → m.rng a c → a.fs.length + a.gs.length < k + (m.fs.length + m.gs.length) →
    ∃ m', On R σ m' ∧ ax a c m' = [] ∧ (∀ p ∈ m.fs, p ∈ m'.fs) ∧ (∀ p ∈ m'.fs, p ∈ (bA a c k m).fs) ∧ ∀ p ∈ m'.gs, p ∈ (bA a c k m).gs
  | 0, m, _, hd, hr, hk => by have := hr.le hd; omega
  | k + 1, m, ho, hd, hr, hk => by
    by_cases hp : ax a c m = []; {
    obtain ⟨h1, h2⟩ := qn (a := a) (c := c) (k + 1) (m := m)
    exact ⟨m, ho, hp, fun _ h => h, h1, h2⟩}; {
    obtain ⟨m1, h1, h2, _⟩ := qF hc ho hp
    obtain ⟨h3, h4⟩ := lO hr h1
    obtain ⟨m', e1, e2, e3, e4, e5⟩ := phases hc k h2 (iZ hd h1) h3 (by omega)
    rw [bA, h1]
    exact ⟨m', e1, e2, fun p hp => e3 p ((qm h1).1 p hp), e4, e5⟩}
inductive Rch (p : Pg) (good : Nat → Prop) (n : Nat) : Rf → Prop
  | main : Rch p good n (true, n)
  | ref {i : Nat} {r : Rf} : Rch p good n (true, i) → good i → r ∈ aG p i → Rch p good n r
theorem reach_in {m : Ms} {n : Nat} (hc : Corr a c R good σ) (ho : On R σ m) (hp : ax a c m = []) (hn : ∃ p ∈ m.fs, p.a = n) {r : Rf} (h : Rch a good n r) : ∃ p ∈ (if r.1 then m.fs else m.gs), p.a = r.2 ∧ p.b = (σ r).2 := by
  have key : ∀ r : Rf, bR m r = false → ∃ p ∈ (if r.1 then m.fs else m.gs), p.a = r.2 ∧ p.b = (σ r).2 := by
    rintro ⟨fl, k⟩ hf
    cases fl with
    | true =>
      have h1 : ¬ (k ∉ m.fs.map (·.a)) := fun h => by rw [freeA_t.2 h] at hf; cases hf
      obtain ⟨p, hp, rfl⟩ := List.mem_map.1 (Classical.not_not.1 h1)
      exact ⟨p, hp, rfl, (ho.1 p hp).2⟩
    | false =>
      have h1 : ¬ (k ∉ m.gs.map (·.a)) := fun h => by rw [freeA_f.2 h] at hf; cases hf
      obtain ⟨p, hp, rfl⟩ := List.mem_map.1 (Classical.not_not.1 h1)
      exact ⟨p, hp, rfl, (ho.2 p hp).2⟩
  induction h with
  | main =>
    obtain ⟨p, hp, rfl⟩ := hn
    exact ⟨p, hp, rfl, (ho.1 p hp).2⟩
  | @ref i r _ hg hr ih =>
    obtain ⟨p, hp1, hp2, _⟩ := ih
    have hp1 : p ∈ m.fs := hp1
    subst hp2
    exact key r (qG hc ho hp hp1 hg r hr)
end
section
variable {a c : Pg}
theorem mi : (aX a c).1.Perm (bA a c (a.fs.length + a.gs.length + 1) (cI a c)).fs ∧ (aX a c).2.Perm (bA a c (a.fs.length + a.gs.length + 1) (cI a c)).gs := ⟨eL _, eL _⟩
theorem qo : ∀ (k : Nat) {m : Ms}, m.rng a c → (bA a c k m).rng a c
  | 0, _, h => h
  | k + 1, m, h => by
    rw [bA]
    split; {
    rename_i m' hm; exact qo k (lO h hm).1}; {
    exact h}
theorem match_dis : (⟨(aX a c).1, (aX a c).2⟩ : Ms).dis ∧ (⟨(aX a c).1, (aX a c).2⟩ : Ms).rng a c := by
  have hd := i7 (a := a) (c := c) (a.fs.length + a.gs.length + 1) (mc (a := a) (c := c)).d
  have hr := qo (a := a) (c := c) (a.fs.length + a.gs.length + 1) (mc (a := a) (c := c)).r
  obtain ⟨h1, h2⟩ := mi (a := a) (c := c)
  have e : (bA a c (a.fs.length + a.gs.length + 1) (cI a c)).eqv ⟨(aX a c).1, (aX a c).2⟩ := ⟨h1.symm, h2.symm⟩
  exact ⟨e.dis hd, fun p hp => hr.f p (h1.mem_iff.1 hp), fun p hp => hr.g p (h2.mem_iff.1 hp)⟩
theorem j5 {R : Rf → Prop} {good : Nat → Prop} {σ : Rf → Rf} (hc : Corr a c R good σ) (hi : On R σ (cI a c)) {n : Nat} (hn : ∃ p ∈ (cI a c).fs, p.a = n) {r : Rf} (h : Rch a good n r) : ∃ p ∈ (if r.1 then (aX a c).1 else (aX a c).2), p.a = r.2 ∧ p.b = (σ r).2 := by
  have hr := (mc (a := a) (c := c)).r
  obtain ⟨m', e1, e2, e3, e4, e5⟩ := phases hc (a.fs.length + a.gs.length + 1) hi (mc (a := a) (c := c)).d hr (by omega)
  obtain ⟨q, hq, rfl⟩ := hn
  obtain ⟨p, hp, h1, h2⟩ := reach_in hc e1 e2 ⟨q, e3 q hq, rfl⟩ h
  obtain ⟨h3, h4⟩ := mi (a := a) (c := c)
  refine ⟨p, ?_, h1, h2⟩
  cases hf : r.1 with
  | true => rw [hf] at hp; exact h3.mem_iff.2 (e4 p hp)
  | false => rw [hf] at hp; exact h4.mem_iff.2 (e5 p hp)
end
mutual
theorem db : ∀ t : Ty4, bh t t = true
  | .mk k nm n ts => by rw [bh, ji ts]; simp
theorem ji : ∀ l : List Ty4, cV l l = true
  | [] => by rw [cV]
  | t :: r => by rw [cV, db t, ji r]; rfl
end
theorem j6 : ∀ l : List Par, ij l l = true
  | [] => rfl
  | t :: r => by rw [ij, db, j6 r]; simp
section
variable (c : Pg) (la : List ByteArray)
end
def RenE (c x : Pg) (ρ : ByteArray → ByteArray) (σ : Rf → Rf) (loc : List ByteArray) (e : Ex) : Prop :=
  au x loc (dI ρ e) = (au c loc e).map σ ∧ (au c loc e = none → aU (dI ρ e) = aU e)
section
variable {a c x : Pg} {ρ : ByteArray → ByteArray} {σ : Rf → Rf} {la lc : List ByteArray}
mutual
theorem formE_ren : ∀ (e e' : Ex), (∀ u ∈ evE e', RenE c x ρ σ lc u) → d4 a x la lc e (dI ρ e') = d4 a c la lc e e'
  | .mk k nm n ks, .mk k' nm' n' ks', h => by
    have h0 := h (.mk k' nm' n' ks') (by rw [evE]; exact List.mem_cons_self)
    have hs := iu ks ks' (fun u hu => h u (by rw [evE]; exact List.mem_cons_of_mem _ hu))
    obtain ⟨h1, h2⟩ := h0
    have e1 : (au x lc (dI ρ (.mk k' nm' n' ks'))).isSome = (au c lc (.mk k' nm' n' ks')).isSome := by rw [h1, Option.isSome_map]
    rw [dI] at e1 ⊢
    rw [d4, d4, hs, e1]
    cases hr : au c lc (.mk k' nm' n' ks') with
    | some r => cases hq : au a la (.mk k nm n ks) <;> simp
    | none =>
      have := h2 hr
      rw [dI] at this
      have this : (if k' = 2 ∨ k' = 14 then ρ nm' else nm') = nm' := this
      rw [this]
theorem iu : ∀ (l l' : List Ex), (∀ u ∈ aF l', RenE c x ρ σ lc u) → aW a x la lc l (dh ρ l') = aW a c la lc l l'
  | [], [], _ => by rw [dh, aW, aW]
  | [], _ :: _, _ => by rw [dh, aW, aW] <;> simp
  | _ :: _, [], _ => by rw [dh, aW, aW] <;> simp
  | e :: r, e' :: r', h => by rw [dh, aW, aW, formE_ren e e' (fun u hu => h u (by rw [aF]; exact List.mem_append_left _ hu)), iu r r' (fun u hu => h u (by rw [aF]; exact List.mem_append_right _ hu))]
end
theorem mem_inr {u : Ex} {l : List Ex} (h : u ∈ l) : (.inr u : Sm ⊕ Ex) ∈ l.map .inr := List.mem_map.2 ⟨u, h, rfl⟩
mutual
theorem formS_ren : ∀ (s s' : Sm), (∀ u, .inr u ∈ evS s' → RenE c x ρ σ lc u) → d5 a x la lc s (fE ρ s') = d5 a c la lc s s'
  | .mk k nm t n es b el cs, .mk k' nm' t' n' es' b' el' cs', h => by
    rw [fE, d5, d5, iu es es' (fun u hu => h u (by rw [evS]; exact List.mem_cons_of_mem _ (List.mem_append_left _ (mem_inr hu)))), dO b b' (fun u hu => h u (by rw [evS]; exact List.mem_cons_of_mem _ (List.mem_append_right _ (List.mem_append_left _ hu)))),
      dO el el' (fun u hu => h u (by rw [evS]; exact List.mem_cons_of_mem _ (List.mem_append_right _ (List.mem_append_right _ (List.mem_append_right _ hu))))), ml cs cs' (fun u hu => h u (by rw [evS]; exact List.mem_cons_of_mem _ (List.mem_append_right _ (List.mem_append_right _ (List.mem_append_left _ hu)))))]
theorem dO : ∀ (l l' : List Sm), (∀ u, .inr u ∈ am l' → RenE c x ρ σ lc u) → aH a x la lc l (bu ρ l') = aH a c la lc l l'
  | [], [], _ => by rw [bu, aH, aH]
  | [], _ :: _, _ => by rw [bu, aH, aH] <;> simp
  | _ :: _, [], _ => by rw [bu, aH, aH] <;> simp
  | e :: r, e' :: r', h => by rw [bu, aH, aH, formS_ren e e' (fun u hu => h u (by rw [am]; exact List.mem_append_left _ hu)), dO r r' (fun u hu => h u (by rw [am]; exact List.mem_append_right _ hu))]
theorem ml : ∀ (l l' : List (List Sm)), (∀ u, .inr u ∈ aP l' → RenE c x ρ σ lc u) → a8 a x la lc l (dJ ρ l') = a8 a c la lc l l'
  | [], [], _ => by rw [dJ, a8, a8]
  | [], _ :: _, _ => by rw [dJ, a8, a8] <;> simp
  | _ :: _, [], _ => by rw [dJ, a8, a8] <;> simp
  | e :: r, e' :: r', h => by rw [dJ, a8, a8, dO e e' (fun u hu => h u (by rw [aP]; exact List.mem_append_left _ hu)), ml r r' (fun u hu => h u (by rw [aP]; exact List.mem_append_right _ hu))]
end
theorem mo (ρ : ByteArray → ByteArray) (f : Fu) : al (kb ρ f) = al f := by
  unfold al kb
  simp only [eB, List.filterMap_map]
  congr 1
  congr 1
  funext v
  rcases v with ⟨k, nm, t, n, es, b, el, cs⟩ | ⟨k, nm, n, ks⟩
  {
  rfl}; {
  rfl}
def RenFu (c x : Pg) (ρ : ByteArray → ByteArray) (σ : Rf → Rf) (f : Fu) : Prop := ∀ u, .inr u ∈ am f.body → RenE c x ρ σ (al f) u
theorem formF_ren {f g : Fu} (h : RenFu c x ρ σ g) : cw a x f (kb ρ g) = cw a c f g := by
  unfold cw
  rw [mo]
  show (decide (f.fl = g.fl) && ij f.ps g.ps && bh f.res g.res && aH a x (al f) (al g) f.body (bu ρ g.body)) = _
  rw [dO _ _ h]
theorem gj {α β γ : Type} {f : α → Option β} {g : β → γ} {h : α → Option γ} : ∀ {l : List α}, (∀ v ∈ l, h v = (f v).map g) → l.filterMap h = (l.filterMap f).map g
  | [], _ => rfl
  | v :: r, hl => by
    have ih := gj (l := r) fun w hw => hl w (List.mem_cons_of_mem _ hw)
    simp only [List.filterMap_cons, hl v List.mem_cons_self, ih]
    cases f v <;> rfl
theorem refsF_ren {g : Fu} (h : RenFu c x ρ σ g) : aJ x (kb ρ g) = (aJ c g).map σ := by
  unfold aJ
  rw [mo]
  show (am (bu ρ g.body)).filterMap _ = _
  rw [eB, List.filterMap_map]
  refine gj fun v hv => ?_
  rcases v with v | v
  {
  rfl}; {
  exact (h v hv).1}
end
def jQ : ByteArray := ⟨#[109, 97, 105, 110]⟩
def fy : ByteArray := ⟨#[105, 110, 116, 101, 114, 114, 117, 112, 116]⟩
theorem mr : ∀ {l : List Pr}, (l.map (·.a)).Nodup → ∀ {p q : Pr}, p ∈ l → q ∈ l → p.a = q.a → p = q
  | x :: r, h, p, q, hp, hq, e => by
    rw [List.map_cons, List.nodup_cons] at h
    rcases List.mem_cons.1 hp with hp | hp <;> rcases List.mem_cons.1 hq with hq | hq
    {
    rw [hp, hq]}; {
    exact absurd (List.mem_map.2 ⟨q, hq, by rw [← e, hp]⟩) h.1}; {
    exact absurd (List.mem_map.2 ⟨p, hp, by rw [e, hq]⟩) h.1}; {
    exact mr h.2 hp hq e}
section
variable {a c : Pg} {R : Rf → Prop} {good : Nat → Prop} {σ : Rf → Rf}
theorem On.add {m : Ms} (h : On R σ m) {w : Int} {x y : Nat} (hx : R (true, x) ∧ y = (σ (true, x)).2) : On R σ (m.add w ((true, x), (true, y))) := by
  refine ⟨fun p hp => ?_, h.2⟩
  have hp' : p ∈ m.fs ++ [⟨x, y, w⟩] := hp
  rcases List.mem_append.1 hp' with hp' | hp'
  {
  exact h.1 p hp'}; {
  rw [List.mem_singleton.1 hp']; exact hx}
theorem ini_On (h : ∀ s x y, s = jQ ∨ s = fy → ak (a.fs.map (·.nm)) s = some x → ak (c.fs.map (·.nm)) s = some y → R (true, x) ∧ y = (σ (true, x)).2) : On R σ (cI a c) := by
  have st : ∀ (m : Ms) (s : ByteArray), s = jQ ∨ s = fy → On R σ m → On R σ (match ak (a.fs.map (·.nm)) s, ak (c.fs.map (·.nm)) s with
    | some x, some y => m.add (if aS a c x y then 1 else 4) ((true, x), (true, y))
    | _, _ => m) := by
    intro m s hs hm
    cases ha : ak (a.fs.map (·.nm)) s with
    | none => exact hm
    | some x =>
      cases hc : ak (c.fs.map (·.nm)) s with
      | none => exact hm
      | some y => exact hm.add (h s x y hs ha hc)
  exact st _ _ (.inr rfl) (st _ _ (.inl rfl) ⟨fun p hp => (by cases hp), fun p hp => (by cases hp)⟩)
def stI (a c : Pg) (m : Ms) (s : ByteArray) : Ms := match ak (a.fs.map (·.nm)) s, ak (c.fs.map (·.nm)) s with
  | some x, some y => m.add (if aS a c x y then 1 else 4) ((true, x), (true, y))
  | _, _ => m
theorem ini_main {n k : Nat} (h1 : ak (a.fs.map (·.nm)) jQ = some n) (h2 : ak (c.fs.map (·.nm)) jQ = some k) : ∃ p ∈ (cI a c).fs, p.a = n := by
  have st : ∀ (m : Ms) (s : ByteArray), (∃ p ∈ m.fs, p.a = n) → ∃ p ∈ (stI a c m s).fs, p.a = n := by
    intro m s hm
    unfold stI
    cases ha : ak (a.fs.map (·.nm)) s with
    | none => exact hm
    | some x =>
      cases hc : ak (c.fs.map (·.nm)) s with
      | none => exact hm
      | some y =>
        obtain ⟨p, hp, e⟩ := hm
        exact ⟨p, List.mem_append.2 (.inl hp), e⟩
  refine st (stI a c ⟨[], []⟩ jQ) fy ?_
  unfold stI
  rw [h1, h2]
  exact ⟨_, List.mem_singleton.2 rfl, rfl⟩
theorem mt_few (fa : Fw a) : (mtL a c).length ≤ 1000000000 ∧ (mtG a c).length ≤ 1000000000 := by
  have h := match_dis.2.le (a := a) (c := c) match_dis.1
  have h1 := fa.f
  have h2 := fa.g
  rw [mtL, mtG, List.length_map, List.length_map]
  exact ⟨Nat.le_trans h.1 (by omega), Nat.le_trans h.2 (by omega)⟩
theorem ms (hc : Corr a c R good σ) (hi : On R σ (cI a c)) {n k : Nat} (h1 : ak (a.fs.map (·.nm)) jQ = some n) (h2 : ak (c.fs.map (·.nm)) jQ = some k) : (∀ i, Rch a good n (true, i) → jh (mtL a c) (i : Nat) ((σ (true, i)).2 : Nat) = true) ∧ (∀ i, Rch a good n (false, i) → jh (mtG a c) (i : Nat) ((σ (false, i)).2 : Nat) = true) := by
  have hm := ini_main h1 h2
  have hd := (match_dis (a := a) (c := c)).1
  refine ⟨fun i hr => ?_, fun i hr => ?_⟩; {
  obtain ⟨p, hp, e1, e2⟩ := j5 hc hi hm hr
  refine partB_t (fun q hq e => ?_) ⟨(p.a, p.b, av a c p.a p.b, p.why), List.mem_map.2 ⟨p, hp, rfl⟩, e1⟩
  obtain ⟨p', hp', rfl⟩ := List.mem_map.1 hq
  rw [mr hd.fa hp' hp (by rw [e1]; exact e)]; exact e2}; {
  obtain ⟨p, hp, e1, e2⟩ := j5 hc hi hm hr
  refine partB_t (fun q hq e => ?_) ⟨(p.a, p.b, 1000, 5), List.mem_map.2 ⟨p, hp, rfl⟩, e1⟩
  obtain ⟨p', hp', rfl⟩ := List.mem_map.1 hq
  rw [mr hd.ga hp' hp (by rw [e1]; exact e)]; exact e2}
end
theorem gk {l : List ByteArray} (hn : l.Nodup) {i : Nat} {s : ByteArray} (h : l[i]? = some s) : ak l s = some i := by
  obtain ⟨hi, e⟩ := List.getElem?_eq_some_iff.1 h
  refine eD (fun x hx => ?_) h (decide_eq_true rfl)
  obtain ⟨j, hj⟩ := List.getElem?_of_mem hx
  rw [List.getElem?_take] at hj
  split at hj; {
  rename_i hji
  refine decide_eq_false fun e2 => ?_
  obtain ⟨hj2, e3⟩ := List.getElem?_eq_some_iff.1 hj
  have h3 := List.pairwise_iff_getElem.1 hn j i hj2 hi hji
  exact h3 (by rw [e3, e, e2])}; {
  cases hj}
theorem gq {l : List ByteArray} {s : ByteArray} (h : s ∉ l) : ak l s = none := eW fun x hx => decide_eq_false fun e => h (e ▸ hx)
theorem ren_mem : ∀ {L : NmP}, (L.map (·.1)).Nodup → ∀ {s t : ByteArray}, (s, t) ∈ L → cH (L.map (·.1)) (L.map (·.2)) s = t := by
  intro L hn s t h
  obtain ⟨i, hi⟩ := List.getElem?_of_mem h
  have h1 : (L.map (·.1))[i]? = some s := by rw [List.getElem?_map, hi]; rfl
  unfold cH
  rw [gk hn h1]
  show (L.map (·.2)).getD i eS = t
  rw [List.getD_eq_getElem?_getD, List.getElem?_map, hi]; rfl
theorem ren_no {L : NmP} {s : ByteArray} (h : s ∉ L.map (·.1)) : cH (L.map (·.1)) (L.map (·.2)) s = s := by
  unfold cH
  rw [gq h]
theorem prF_fst (fs : List Fu) (f : Nat → Nat) : ∀ i, i ≤ fs.length → (dl fs f i).map (·.1) = ((fs.take i).map (·.nm)).filter (fun s => !dU s)
  | 0, _ => rfl
  | i + 1, h => by
    have ih := prF_fst fs f i (by omega)
    obtain ⟨y, hy⟩ : ∃ y, fs[i]? = some y := ⟨_, List.getElem?_eq_getElem (by omega)⟩
    rw [dl, hy, List.take_add_one, hy, List.map_append, List.filter_append]
    show (if dU y.nm then _ else _ : NmP).map _ = _ ++ List.filter _ [y.nm]
    cases hs : dU y.nm with
    | true => rw [if_pos rfl, ih, List.filter_cons, hs]; simp
    | false => rw [if_neg (by simp), List.map_append, ih, List.filter_cons, hs]; simp
theorem prG_fst (gs : List Gb) (g : Nat → Nat) : ∀ i, i ≤ gs.length → (dV gs g i).map (·.1) = (gs.take i).map (·.nm)
  | 0, _ => rfl
  | i + 1, h => by
    have ih := prG_fst gs g i (by omega)
    obtain ⟨y, hy⟩ : ∃ y, gs[i]? = some y := ⟨_, List.getElem?_eq_getElem (by omega)⟩
    rw [dV, hy, List.take_add_one, hy]
    show List.map _ (_ ++ _) = List.map _ (_ ++ _)
    rw [List.map_append, List.map_append, ih]; rfl
theorem oK (p : Pg) (f g : Nat → Nat) : (prN p f g).map (·.1) = (p.fs.map (·.nm)).filter (fun s => !dU s) ++ p.gs.map (·.nm) := by
  rw [prN, List.map_append, prF_fst _ _ _ (Nat.le_refl _), prG_fst _ _ _ (Nat.le_refl _), List.take_length, List.take_length]
theorem prF_mem {fs : List Fu} {f : Nat → Nat} {j : Nat} {y : Fu} (hy : fs[j]? = some y) (hs : dU y.nm = false) : ∀ i, j < i → i ≤ fs.length → (y.nm, fnN (f j)) ∈ dl fs f i
  | 0, h, _ => absurd h (Nat.not_lt_zero j)
  | i + 1, h, hi => by
    obtain ⟨z, hz⟩ : ∃ z, fs[i]? = some z := ⟨_, List.getElem?_eq_getElem (by omega)⟩
    rw [dl, hz]
    by_cases hji : j < i; {
    have ih := prF_mem (f := f) hy hs i hji (by omega)
    show _ ∈ (if dU z.nm then _ else _ : NmP)
    split; {
    exact ih}; {
    exact List.mem_append_left _ ih}}; {
    obtain rfl : j = i := by omega
    rw [hz] at hy; cases hy
    show _ ∈ (if dU y.nm then _ else _ : NmP)
    rw [hs, if_neg (by simp)]
    exact List.mem_append_right _ (List.mem_singleton.2 rfl)}
theorem prG_mem {gs : List Gb} {g : Nat → Nat} {j : Nat} {y : Gb} (hy : gs[j]? = some y) : ∀ i, j < i → i ≤ gs.length → (y.nm, daN (g j)) ∈ dV gs g i
  | 0, h, _ => absurd h (Nat.not_lt_zero j)
  | i + 1, h, hi => by
    obtain ⟨z, hz⟩ : ∃ z, gs[i]? = some z := ⟨_, List.getElem?_eq_getElem (by omega)⟩
    rw [dV, hz]
    by_cases hji : j < i; {
    exact List.mem_append_left _ (prG_mem (g := g) hy i hji (by omega))}; {
    obtain rfl : j = i := by omega
    rw [hz] at hy; cases hy
    exact List.mem_append_right _ (List.mem_singleton.2 rfl)}
def fnP (s : ByteArray) : Bool := decide (s.data.toList.take 3 = [102, 110, 95])
def daP (s : ByteArray) : Bool := decide (s.data.toList.take 5 = [100, 97, 116, 97, 95])
theorem fnP_fn (k : Nat) : fnP (fnN k) = true := by
  refine decide_eq_true ?_
  rw [fnN, ByteArray.data_append, Array.toList_append]; rfl
theorem daP_da (k : Nat) : daP (daN k) = true := by
  refine decide_eq_true ?_
  rw [daN, ByteArray.data_append, Array.toList_append]; rfl
theorem app_inj {a b c : ByteArray} (h : a ++ b = a ++ c) : b = c := by
  have h1 := congrArg (fun x => x.data.toList) h
  simp only [ByteArray.data_append, Array.toList_append] at h1
  have h2 := List.append_cancel_left h1
  exact ByteArray.ext (Array.ext' h2)
theorem fnN_inj {i j : Nat} (h : fnN i = fnN j) : i = j := dgB_inj (app_inj h)
theorem daN_inj {i j : Nat} (h : daN i = daN j) : i = j := dgB_inj (app_inj h)
structure Hy (p : Pg) : Prop where
  nd : (p.fs.map (·.nm) ++ p.gs.map (·.nm)).Nodup
  pf : ∀ s ∈ p.fs.map (·.nm), fnP s = false
  gm : ∀ s ∈ p.gs.map (·.nm), dU s = false
  ex14 : ∀ u ∈ p.fs, ∀ e, .inr e ∈ am u.body → exK e = 14 → aU e ∈ p.fs.map (·.nm) ∨ (aU e ∉ p.fs.map (·.nm) ∧ aU e ∉ p.gs.map (·.nm) ∧ fnP (aU e) = false ∧ dU (aU e) = false)
  ex2 : ∀ u ∈ p.fs, ∀ e, .inr e ∈ am u.body → exK e = 2 → (aU e ∈ al u ∧ aU e ∉ p.fs.map (·.nm) ∧ aU e ∉ p.gs.map (·.nm)) ∨ (aU e ∉ al u ∧ aU e ∈ p.gs.map (·.nm)) ∨ (aU e ∉ al u ∧ aU e ∉ p.fs.map (·.nm) ∧ aU e ∉ p.gs.map (·.nm) ∧ daP (aU e) = false)
  lo : ∀ u ∈ p.fs, ∀ s ∈ al u, daP s = false
section
variable {p x : Pg} {f g : Nat → Nat}
theorem Hy.ndr (h : Hy p) (f g : Nat → Nat) : ((prN p f g).map (·.1)).Nodup := by
  rw [oK]
  refine h.nd.sublist (List.Sublist.append ?_ (List.Sublist.refl _))
  exact List.filter_sublist
theorem Hy.nf (h : Hy p) : (p.fs.map (·.nm)).Nodup := (List.nodup_append.1 h.nd).1
theorem Hy.ng (h : Hy p) : (p.gs.map (·.nm)).Nodup := (List.nodup_append.1 h.nd).2.1
theorem Hy.rf (h : Hy p) {i : Nat} {y : Fu} (hy : p.fs[i]? = some y) : rho p f g y.nm = if dU y.nm then y.nm else fnN (f i) := by
  have hi := (List.getElem?_eq_some_iff.1 hy).1
  cases hs : dU y.nm with
  | true =>
    rw [if_pos rfl]
    refine ren_no fun hm => ?_
    rw [oK] at hm
    rcases List.mem_append.1 hm with hm | hm
    {
    have := (List.mem_filter.1 hm).2
    rw [hs] at this; cases this}; {
    rw [h.gm _ hm] at hs; cases hs}
  | false =>
    rw [if_neg (by simp)]
    exact ren_mem (h.ndr f g) (List.mem_append_left _ (prF_mem hy hs _ hi (Nat.le_refl _)))
theorem Hy.rg (h : Hy p) {i : Nat} {y : Gb} (hy : p.gs[i]? = some y) : rho p f g y.nm = daN (g i) :=
  ren_mem (h.ndr f g) (List.mem_append_right _ (prG_mem hy _ (List.getElem?_eq_some_iff.1 hy).1 (Nat.le_refl _)))
theorem rn_no {s : ByteArray} (h1 : s ∉ p.fs.map (·.nm)) (h2 : s ∉ p.gs.map (·.nm)) : rho p f g s = s := by
  refine ren_no fun hm => ?_
  rw [oK] at hm
  rcases List.mem_append.1 hm with hm | hm
  {
  exact h1 (List.mem_filter.1 hm).1}; {
  exact h2 hm}
theorem qp {l : List ByteArray} {k : Nat} {s : ByteArray} (h : l[k]? = some s) (hu : ∀ j, l[j]? = some s → j = k) : ak l s = some k := by
  refine eD (fun x hx => decide_eq_false fun e => ?_) h (decide_eq_true rfl)
  subst e
  obtain ⟨j, hj⟩ := List.getElem?_of_mem hx
  rw [List.getElem?_take] at hj
  split at hj; {
  rename_i hji
  have := hu j hj; omega}; {
  cases hj}
theorem nd_at {l : List ByteArray} (hn : l.Nodup) {i j : Nat} {s : ByteArray} (h : l[i]? = some s) (h2 : l[j]? = some s) : i = j := by
  have a := gk hn h
  rw [gk hn h2] at a
  cases a; rfl
theorem VarP.fAt (hv : VarP p x f g) {j : Nat} {z : Fu} (hz : x.fs[j]? = some z) : ∃ i y, p.fs[i]? = some y ∧ j = f i ∧ z = kb (rho p f g) y := by
  have hj := (List.getElem?_eq_some_iff.1 hz).1
  rw [hv.lf] at hj
  obtain ⟨i, hi, rfl⟩ := hv.of.surj hj
  obtain ⟨y, hy⟩ : ∃ y, p.fs[i]? = some y := ⟨_, List.getElem?_eq_getElem hi⟩
  have := hv.fs i y hy
  rw [hz] at this
  exact ⟨i, y, hy, rfl, Option.some.inj this⟩
theorem VarP.gAt (hv : VarP p x f g) {j : Nat} {z : Gb} (hz : x.gs[j]? = some z) : ∃ i y, p.gs[i]? = some y ∧ j = g i ∧ z.nm = rho p f g y.nm := by
  have hj := (List.getElem?_eq_some_iff.1 hz).1
  rw [hv.lg] at hj
  obtain ⟨i, hi, rfl⟩ := hv.og.surj hj
  obtain ⟨y, hy⟩ : ∃ y, p.gs[i]? = some y := ⟨_, List.getElem?_eq_getElem hi⟩
  obtain ⟨ad, _, _, this⟩ := hv.gs i y hy
  rw [hz] at this
  exact ⟨i, y, hy, rfl, by rw [Option.some.inj this]⟩
theorem Hy.xf (h : Hy p) (hv : VarP p x f g) {i : Nat} {y : Fu} (hy : p.fs[i]? = some y) : ak (x.fs.map (·.nm)) (rho p f g y.nm) = some (f i) := by
  refine qp (by rw [List.getElem?_map, hv.fs i y hy]; rfl) fun j hj => ?_
  rw [List.getElem?_map, Option.map_eq_some_iff] at hj
  obtain ⟨z, hz, e⟩ := hj
  obtain ⟨i', y', hy', rfl, rfl⟩ := hv.fAt hz
  have e : rho p f g y'.nm = rho p f g y.nm := e
  have m1 := h.pf y.nm (List.mem_map.2 ⟨y, List.mem_of_getElem? hy, rfl⟩)
  have m2 := h.pf y'.nm (List.mem_map.2 ⟨y', List.mem_of_getElem? hy', rfl⟩)
  rw [h.rf hy, h.rf hy'] at e
  split at e <;> split at e
  {
  exact congrArg f (nd_at h.nf (s := y.nm) (by rw [List.getElem?_map, hy', ← e]; rfl) (by rw [List.getElem?_map, hy]; rfl))}; {
  rw [e, fnP_fn] at m2; cases m2}; {
  rw [← e, fnP_fn] at m1; cases m1}; {
  exact fnN_inj e}
theorem Hy.xg (h : Hy p) (hv : VarP p x f g) {i : Nat} {y : Gb} (hy : p.gs[i]? = some y) : ak (x.gs.map (·.nm)) (rho p f g y.nm) = some (g i) := by
  obtain ⟨ad, _, _, hx⟩ := hv.gs i y hy
  refine qp (by rw [List.getElem?_map, hx]; rfl) fun j hj => ?_
  rw [List.getElem?_map, Option.map_eq_some_iff] at hj
  obtain ⟨z, hz, e⟩ := hj
  obtain ⟨i', y', hy', rfl, e2⟩ := hv.gAt hz
  rw [e2, h.rg hy, h.rg hy'] at e
  exact daN_inj e
theorem Hy.xfno (h : Hy p) (hv : VarP p x f g) {s : ByteArray} (h2 : fnP s = false) (h3 : dU s = false) : ak (x.fs.map (·.nm)) s = none := by
  refine gq fun hm => ?_
  obtain ⟨z, hz, rfl⟩ := List.mem_map.1 hm
  obtain ⟨j, hj⟩ := List.getElem?_of_mem hz
  obtain ⟨i, y, hy, rfl, rfl⟩ := hv.fAt hj
  have e : (kb (rho p f g) y).nm = rho p f g y.nm := rfl
  rw [e, h.rf hy] at h2 h3
  split at h2; {
  rename_i hs; rw [if_pos hs, hs] at h3; cases h3}; {
  rw [fnP_fn] at h2; cases h2}
theorem Hy.xgno (h : Hy p) (hv : VarP p x f g) {s : ByteArray} (h2 : daP s = false) : ak (x.gs.map (·.nm)) s = none := by
  refine gq fun hm => ?_
  obtain ⟨z, hz, rfl⟩ := List.mem_map.1 hm
  obtain ⟨j, hj⟩ := List.getElem?_of_mem hz
  obtain ⟨i, y, hy, rfl, e⟩ := hv.gAt hj
  rw [e, h.rg hy, daP_da] at h2; cases h2
def vsig (f g : Nat → Nat) (r : Rf) : Rf := (r.1, if r.1 then f r.2 else g r.2)
theorem Hy.ren (h : Hy p) (hv : VarP p x f g) {u : Fu} (hu : u ∈ p.fs) : RenFu p x (rho p f g) (vsig f g) u := by
  rintro ⟨k, nm, n, ks⟩ he
  unfold RenE
  rw [dI]
  by_cases h14 : k = 14; {
  subst h14
  show (ak (x.fs.map (·.nm)) (rho p f g nm)).map (true, ·) = ((ak (p.fs.map (·.nm)) nm).map (true, ·)).map (vsig f g) ∧ ((ak (p.fs.map (·.nm)) nm).map (true, ·) = none → rho p f g nm = nm)
  rcases h.ex14 u hu _ he rfl with hm | ⟨q1, q2, q3, q4⟩
  {
  have hm : nm ∈ p.fs.map (·.nm) := hm
  obtain ⟨y, hy, rfl⟩ := List.mem_map.1 hm
  obtain ⟨i, hi⟩ := List.getElem?_of_mem hy
  have h1 : ak (p.fs.map (·.nm)) y.nm = some i := gk h.nf (by rw [List.getElem?_map, hi]; rfl)
  rw [h.xf hv hi, h1]
  exact ⟨rfl, fun e => by cases e⟩}; {
  have q1 : nm ∉ p.fs.map (·.nm) := q1
  have e1 : rho p f g nm = nm := rn_no q1 q2
  rw [e1, h.xfno (s := nm) hv q3 q4, gq q1]
  exact ⟨rfl, fun _ => rfl⟩}}; {
  by_cases h2 : k = 2; {
  subst h2
  show (if (al u).any (fun s => decide (s = rho p f g nm)) then none else (ak (x.gs.map (·.nm)) (rho p f g nm)).map (false, ·)) = (if (al u).any (fun s => decide (s = nm)) then none else (ak (p.gs.map (·.nm)) nm).map (false, ·)).map (vsig f g) ∧ ((if (al u).any (fun s => decide (s = nm)) then none else (ak (p.gs.map (·.nm)) nm).map (false, ·)) = none → rho p f g nm = nm)
  have an : ∀ {s : ByteArray}, s ∉ al u → (al u).any (fun t => decide (t = s)) = false := fun {s} hs => List.any_eq_false.2 fun t ht e => hs (of_decide_eq_true e ▸ ht)
  have ay : ∀ {s : ByteArray}, s ∈ al u → (al u).any (fun t => decide (t = s)) = true := fun {s} hs => List.any_eq_true.2 ⟨s, hs, decide_eq_true rfl⟩
  rcases h.ex2 u hu _ he rfl with ⟨q1, q2, q3⟩ | ⟨q1, q2⟩ | ⟨q1, q2, q3, q4⟩
  {
  have e1 : rho p f g nm = nm := rn_no q2 q3
  have q1 : nm ∈ al u := q1
  rw [e1, ay q1]
  exact ⟨rfl, fun _ => rfl⟩}; {
  have q1 : nm ∉ al u := q1
  have q2 : nm ∈ p.gs.map (·.nm) := q2
  obtain ⟨y, hy, rfl⟩ := List.mem_map.1 q2
  obtain ⟨i, hi⟩ := List.getElem?_of_mem hy
  have h1 : ak (p.gs.map (·.nm)) y.nm = some i := gk h.ng (by rw [List.getElem?_map, hi]; rfl)
  have q3 : rho p f g y.nm ∉ al u := fun hm => by
    have := h.lo u hu _ hm
    rw [h.rg hi, daP_da] at this; cases this
  rw [an q1, an q3, h.xg hv hi, h1]
  exact ⟨rfl, fun e => by cases e⟩}; {
  have e1 : rho p f g nm = nm := rn_no q2 q3
  have q1 : nm ∉ al u := q1
  have q3 : nm ∉ p.gs.map (·.nm) := q3
  rw [e1, an q1, h.xgno (s := nm) hv q4, gq q3]
  exact ⟨rfl, fun _ => rfl⟩}}; {
  rw [if_neg (by omega)]
  have e0 : ∀ (q : Pg) (l : List ByteArray) (m : ByteArray) (t : List Ex), au q l (.mk k m n t) = none := fun q l m t => by
    show (if k = 14 then _ else if k = 2 then _ else none) = none
    rw [if_neg h14, if_neg h2]
  rw [e0, e0]
  exact ⟨rfl, fun _ => rfl⟩}}
section
variable {a c : Pg} {la : List ByteArray} (hq : ∀ (loc : List ByteArray) (e : Ex), au a loc e = au c loc e)
include hq
mutual
theorem qW : ∀ e : Ex, d4 a c la la e e = true
  | .mk k nm n ks => by simp [d4, hq, gr ks]
theorem gr : ∀ l : List Ex, aW a c la la l l = true
  | [] => by rw [aW]
  | t :: r => by rw [aW, qW t, gr r]; rfl
end
mutual
theorem qX : ∀ s : Sm, d5 a c la la s s = true
  | .mk k nm t n es b el cs => by simp [d5, db, gr hq, dc b, dc el, j7 cs]
theorem dc : ∀ l : List Sm, aH a c la la l l = true
  | [] => by rw [aH]
  | t :: r => by rw [aH, qX t, dc r]; rfl
theorem j7 : ∀ l : List (List Sm), a8 a c la la l l = true
  | [] => by rw [a8]
  | t :: r => by rw [a8, dc t, j7 r]; rfl
end
theorem qY (f : Fu) : cw a c f f = true := by simp [cw, j6, db, dc hq]
end
theorem VarP.corr {a : Pg} {good : Nat → Prop} (h : Hy p) (hv : VarP p x f g) (hfa : a.fs.length = p.fs.length) (hga : a.gs = p.gs) (hno : a.fs.map (·.nm) = p.fs.map (·.nm)) (hgd : ∀ i, good i → p.fs[i]? = a.fs[i]?) (hbd : ∀ i, i < p.fs.length → ¬ good i → cw a x (eR a i) (kb (rho p f g) (eR p i)) = false) : Corr a x (Rf.rng p) good (vsig f g) where
  flag := fun _ _ => rfl
  inj := by
    rintro ⟨b, i⟩ ⟨b', j⟩ hi hj e
    have e1 : b = b' := congrArg Prod.fst e
    subst e1
    cases b with
    | true =>
      have e2 : f i = f j := congrArg Prod.snd e
      rw [hv.of.inj i j hi hj e2]
    | false =>
      have e2 : g i = g j := congrArg Prod.snd e
      rw [hv.og.inj i j hi hj e2]
  cl := fun i hi hg r hr => by
    have := cC _ hr
    unfold Rf.rng at this ⊢
    rw [hfa, hga] at this; exact this
  form := fun i hi hg => by
    have hi : i < p.fs.length := hi
    obtain ⟨y, hy⟩ : ∃ y, p.fs[i]? = some y := ⟨_, List.getElem?_eq_getElem hi⟩
    have hx := hv.fs i y hy
    have ha : a.fs[i]? = some y := by rw [← hgd i hg]; exact hy
    have hr := h.ren hv (List.mem_of_getElem? hy)
    have hrr : ∀ (q : Pg) (hq : q.gs = p.gs) (hn : q.fs.map (·.nm) = p.fs.map (·.nm)) (loc : List ByteArray) (e : Ex), au q loc e = au p loc e := fun q hq hn loc e => by unfold au; rw [hq, hn]
    have hra : aJ a y = aJ p y := by
      unfold aJ
      refine congrArg (fun k => (am y.body).filterMap k) (funext fun e => ?_)
      cases e with
      | inl _ => rfl
      | inr e => exact hrr a hga hno _ e
    constructor; {
    show cw a x (eR a i) (eR x (f i)) = true
    rw [aO ha, aO hx, formF_ren hr]
    exact qY (hrr a hga hno) _}; {
    show aJ x (eR x (f i)) = (aJ a (eR a i)).map _
    rw [aO ha, aO hx, refsF_ren hr, hra]}
  bad := fun i hi hg => by
    have hi : i < p.fs.length := hi
    obtain ⟨y, hy⟩ : ∃ y, p.fs[i]? = some y := ⟨_, List.getElem?_eq_getElem hi⟩
    have h1 := hbd i hi hg
    rw [aO hy] at h1
    show cw a x (eR a i) (eR x (f i)) = false
    rw [aO (hv.fs i y hy)]; exact h1
  alike := fun n hn => by
    have hn : n < p.gs.length := hn
    obtain ⟨y, hy⟩ : ∃ y, p.gs[n]? = some y := ⟨_, List.getElem?_eq_getElem hn⟩
    obtain ⟨ad, _, _, hx⟩ := hv.gs n y hy
    show (bh (iR a n).ty (iR x (g n)).ty && decide ((iR a n).bank = -1 ↔ (iR x (g n)).bank = -1)) = true
    have e1 : iR a n = y := by rw [iR, hga, List.getD_eq_getElem?_getD, hy]; rfl
    have e2 : iR x (g n) = ⟨rho p f g y.nm, y.ty, y.bank, ad, y.bytes⟩ := by rw [iR, List.getD_eq_getElem?_getD, hx]; rfl
    rw [e1, e2]
    show (bh y.ty y.ty && decide (y.bank = -1 ↔ y.bank = -1)) = true
    rw [db, decide_eq_true Iff.rfl]; rfl
theorem VarP.on {a : Pg} (h : Hy p) (hv : VarP p x f g) (hno : a.fs.map (·.nm) = p.fs.map (·.nm)) : On (Rf.rng p) (vsig f g) (cI a x) := ini_On fun s i j hs h1 h2 => by
  rw [hno] at h1
  have hi := c7 h1
  obtain ⟨y, hy⟩ : ∃ y, (p.fs.map (·.nm))[i]? = some y := ⟨_, List.getElem?_eq_getElem hi⟩
  have hs2 : dU s = true := by rcases hs with rfl | rfl <;> rfl
  have hs3 : y = s := by
    unfold ak at h1
    obtain ⟨q1, q2, _⟩ := List.findIdx?_eq_some_iff_getElem.1 h1
    obtain ⟨_, q3⟩ := List.getElem?_eq_some_iff.1 hy
    rw [← q3]; exact of_decide_eq_true q2
  subst hs3
  rw [List.getElem?_map, Option.map_eq_some_iff] at hy
  obtain ⟨z, hz, rfl⟩ := hy
  have e := h.xf hv hz
  rw [h.rf hz, if_pos hs2, h2] at e
  rw [List.length_map] at hi
  exact ⟨hi, Option.some.inj e⟩
end
theorem MP.thin {p : Pg} (h : MP p) : ∀ f ∈ p.fs, f.ps.length ≤ 3 := by
  obtain ⟨tn, s1, s2, fs, hd, ht, h1, h2, rfl, hl1, hl2, hn, hF, hh⟩ := h
  intro x hx
  rcases List.mem_append.1 hx with hx | hx
  {
  exact (hF x hx).1.pl}; {
  rcases hh with rfl | ⟨b, rfl, hb⟩
  {
  cases hx}; {
  rw [List.mem_singleton.1 hx]; exact Nat.zero_le _}}
def okV : Sm ⊕ Ex → Prop
  | .inl s => smK s = 1 → dk (fN s) = true
  | .inr e => nmK (exK e) (aU e) = true
mutual
theorem ev_nmE : ∀ e : Ex, nmE e = true → ∀ u ∈ evE e, nmK (exK u) (aU u) = true
  | .mk k nm n ks, h, u, hu => by
    rw [nmE, Bool.and_eq_true] at h
    rw [evE] at hu
    rcases List.mem_cons.1 hu with rfl | hu
    {
    exact h.1}; {
    exact oL ks h.2 u hu}
theorem oL : ∀ l : List Ex, nmEs l = true → ∀ u ∈ aF l, nmK (exK u) (aU u) = true
  | [], _, u, hu => by rw [aF] at hu; cases hu
  | e :: r, h, u, hu => by
    rw [nmEs, Bool.and_eq_true] at h
    rw [aF] at hu
    rcases List.mem_append.1 hu with hu | hu
    {
    exact ev_nmE e h.1 u hu}; {
    exact oL r h.2 u hu}
end
mutual
theorem ev_nmS : ∀ s : Sm, nmS s = true → ∀ v ∈ evS s, okV v
  | .mk k nm t n es b el cs, h, v, hv => by
    rw [nmS] at h
    simp only [Bool.and_eq_true, Bool.or_eq_true, decide_eq_true_eq] at h
    obtain ⟨⟨⟨⟨h1, h2⟩, h3⟩, h4⟩, h5⟩ := h
    rw [evS] at hv
    rcases List.mem_cons.1 hv with rfl | hv
    {
    intro (hk : k = 1)
    exact h1.resolve_left (fun q => q hk)}; {
    rcases List.mem_append.1 hv with hv | hv
    {
    obtain ⟨u, hu, rfl⟩ := List.mem_map.1 hv
    exact oL es h2 u hu}; {
    rcases List.mem_append.1 hv with hv | hv
    {
    exact fo b h3 v hv}; {
    rcases List.mem_append.1 hv with hv | hv
    {
    exact ev_nmCs cs h5 v hv}; {
    exact fo el h4 v hv}}}}
theorem fo : ∀ l : List Sm, jz l = true → ∀ v ∈ am l, okV v
  | [], _, v, hv => by rw [am] at hv; cases hv
  | s :: r, h, v, hv => by
    rw [jz, Bool.and_eq_true] at h
    rw [am] at hv
    rcases List.mem_append.1 hv with hv | hv
    {
    exact ev_nmS s h.1 v hv}; {
    exact fo r h.2 v hv}
theorem ev_nmCs : ∀ l : List (List Sm), nmCs l = true → ∀ v ∈ aP l, okV v
  | [], _, v, hv => by rw [aP] at hv; cases hv
  | s :: r, h, v, hv => by
    rw [nmCs, Bool.and_eq_true] at h
    rw [aP] at hv
    rcases List.mem_append.1 hv with hv | hv
    {
    exact fo s h.1 v hv}; {
    exact ev_nmCs r h.2 v hv}
end
theorem amg {s : ByteArray} {l : List ByteArray} : aA s l = true ↔ s ∈ l := by
  unfold aA
  rw [List.any_eq_true]
  constructor; {
  rintro ⟨x, hx, h⟩; rw [← of_decide_eq_true h]; exact hx}; {
  intro h; exact ⟨s, h, decide_eq_true rfl⟩}
structure HyL (p : Pg) : Prop where
  nd : (p.fs.map (·.nm) ++ p.gs.map (·.nm)).Nodup
  fn : ∀ s ∈ p.fs.map (·.nm), s ∈ funL ∨ s = fy
  gn : ∀ s ∈ p.gs.map (·.nm), s ∈ gloL
  mn : jQ ∈ p.fs.map (·.nm)
  ps : ∀ u ∈ p.fs, ∀ q ∈ u.ps, dk q.nm = true
  bd : ∀ u ∈ p.fs, jz u.body = true
theorem HyL.lo {p : Pg} (h : HyL p) {u : Fu} (hu : u ∈ p.fs) {s : ByteArray} (hs : s ∈ al u) : s ∈ locL := by
  unfold al at hs
  rcases List.mem_append.1 hs with hs | hs
  {
  obtain ⟨q, hq, rfl⟩ := List.mem_map.1 hs
  exact amg.1 (h.ps u hu q hq)}; {
  obtain ⟨v, hv, e⟩ := List.mem_filterMap.1 hs
  have hok := fo _ (h.bd u hu) v hv
  cases v with
  | inr _ => cases e
  | inl t =>
    have e : (if smK t = 1 then some (fN t) else none) = some s := e
    split at e; {
    rename_i hk; cases e; exact amg.1 (hok hk)}; {
    cases e}}
theorem amf {s : ByteArray} {l : List ByteArray} (h : aA s l = false) : s ∉ l := fun hm => by rw [amg.2 hm] at h; cases h
theorem dis_fg : ∀ s ∈ funL, s ∉ gloL := fun s hs => amf ((by decide : ∀ s ∈ funL, aA s gloL = false) s hs)
theorem dis_lf : ∀ s ∈ locL, s ∉ funL ∧ s ≠ fy ∧ s ∉ gloL ∧ daP s = false := fun s hs => by
  obtain ⟨q1, q2, q3, q4⟩ := (by decide : ∀ s ∈ locL, aA s funL = false ∧ s ≠ fy ∧ aA s gloL = false ∧ daP s = false) s hs
  exact ⟨amf q1, q2, amf q3, q4⟩
theorem dis_gf : ∀ s ∈ gloL, s ∉ funL ∧ s ≠ fy ∧ s ∉ locL ∧ daP s = false ∧ dU s = false := fun s hs => by
  obtain ⟨q1, q2, q3, q4⟩ := (by decide : ∀ s ∈ gloL, aA s funL = false ∧ s ≠ fy ∧ aA s locL = false ∧ daP s = false ∧ dU s = false) s hs
  exact ⟨amf q1, q2, amf q3, q4⟩
theorem fun_p : ∀ s ∈ funL, fnP s = false ∧ (s = jQ ∨ dU s = false) := by decide
theorem HyL.hy {p : Pg} (h : HyL p) : Hy p where
  nd := h.nd
  pf := fun s hs => by
    rcases h.fn s hs with h1 | rfl
    {
    exact (fun_p s h1).1}; {
    decide}
  gm := fun s hs => (dis_gf s (h.gn s hs)).2.2.2.2
  ex14 := fun u hu e he hk => by
    have h1 := fo _ (h.bd u hu) _ he
    have h1 : nmK (exK e) (aU e) = true := h1
    rw [hk] at h1
    have h2 := amg.1 (show aA (aU e) funL = true from h1)
    by_cases hm : aU e ∈ p.fs.map (·.nm); {
    exact .inl hm}; {
    obtain ⟨q1, q2⟩ := fun_p _ h2
    exact .inr ⟨hm, fun hg => dis_fg _ h2 (h.gn _ hg), q1, q2.resolve_left fun e9 => hm (e9 ▸ h.mn)⟩}
  ex2 := fun u hu e he hk => by
    have h1 := fo _ (h.bd u hu) _ he
    have h1 : nmK (exK e) (aU e) = true := h1
    rw [hk] at h1
    have h1 : (dk (aU e) || gloN (aU e)) = true := h1
    rw [Bool.or_eq_true] at h1
    have nf : aU e ∉ funL → aU e ≠ fy → aU e ∉ p.fs.map (·.nm) := fun a b hm => (h.fn _ hm).elim a b
    rcases h1 with h1 | h1
    {
    obtain ⟨q1, q2, q3, q4⟩ := dis_lf _ (amg.1 (show aA _ locL = true from h1))
    by_cases hm : aU e ∈ al u; {
    exact .inl ⟨hm, nf q1 q2, fun hg => q3 (h.gn _ hg)⟩}; {
    exact .inr (.inr ⟨hm, nf q1 q2, fun hg => q3 (h.gn _ hg), q4⟩)}}; {
    obtain ⟨q1, q2, q3, q4, _⟩ := dis_gf _ (amg.1 (show aA _ gloL = true from h1))
    have hm : aU e ∉ al u := fun hm => q3 (h.lo hu hm)
    by_cases hg : aU e ∈ p.gs.map (·.nm); {
    exact .inr (.inl ⟨hm, hg⟩)}; {
    exact .inr (.inr ⟨hm, nf q1 q2, hg, q4⟩)}}
  lo := fun u hu s hs => (dis_lf s (h.lo hu hs)).2.2.2
theorem nd_all : (funL ++ [fy] ++ gloL).Nodup := by decide
theorem MP.hyl {p : Pg} (h : MP p) : HyL p := by
  obtain ⟨tn, s1, s2, fs, hd, ht, h1, h2, rfl, hl1, hl2, hn, hF, hh⟩ := h
  have hgn : ((dT tn ++ [gbT s1, gbW s2]).map (·.nm)).Sublist gloL := by
    rw [List.map_append]
    unfold dT
    show List.Sublist (_ ++ [(⟨#[116, 97, 98]⟩ : ByteArray), ⟨#[119, 111, 114, 100, 115]⟩]) _
    (repeat' split) <;> decide
  have hhn : (hd.map (·.nm)).Sublist [fy] := by
    rcases hh with rfl | ⟨b, rfl, _⟩
    {
    exact List.nil_sublist _}; {
    exact List.Sublist.refl _}
  have hfn : ((fs ++ hd).map (·.nm)).Sublist (funL ++ [fy]) := by
    rw [List.map_append, hn]
    exact (List.take_sublist _ _).append hhn
  have hin : ∀ u ∈ fs ++ hd, (∀ q ∈ u.ps, dk q.nm = true) ∧ jz u.body = true := fun u hu => by
    rcases List.mem_append.1 hu with hu | hu
    {
    obtain ⟨a, b⟩ := hF u hu
    exact ⟨fun q hq => (a.ps q hq).1, b.u⟩}; {
    rcases hh with rfl | ⟨b, rfl, hb⟩
    {
    cases hu}; {
    rw [List.mem_singleton.1 hu]; exact ⟨fun q hq => (by cases hq), hb.u⟩}}
  refine ⟨nd_all.sublist (hfn.append hgn), fun s hs => ?_, fun s hs => hgn.subset hs, ?_, fun u hu => (hin u hu).1, fun u hu => (hin u hu).2⟩; {
  rcases List.mem_append.1 (hfn.subset hs) with h | h
  {
  exact .inl h}; {
  exact .inr (List.mem_singleton.1 h)}}; {
  show jQ ∈ (fs ++ hd).map (·.nm)
  rw [List.map_append, hn]
  refine List.mem_append_left _ ?_
  obtain ⟨k, hk⟩ : ∃ k, fs.length = k + 1 := ⟨fs.length - 1, by omega⟩
  rw [hk]
  exact List.mem_cons_self}
section
open Go Go.RowKit Go.Proofs K
variable {pk : Pk}
def fiI : Option Nat → Int
  | some i => (i : Nat)
  | none => -1
theorem qr {p : Pg} (hl : p.fs.length ≤ 1000000000) (s : ByteArray) : XQ Tryz.prog pk 24 [xd (pgD p), xs s] (xi (fiI (ak (p.fs.map (·.nm)) s))) := by
  refine XQ.en Tryz.func24 Tryz.ntmps24 (fun w0 own H V v0 hf => ?_)
  refine G (T := T) 100001 rfl ?_
  refine (FzTo.bz 0 rfl).c ?_
  refine G9 rfl (Lq [1, 2] (fun q r => (4, xi 0) :: (5, xi (q : Nat)) :: r) (fun q => []) 1 (fun q => q ≤ p.fs.length ∧ ∀ x ∈ (p.fs.map (·.nm)).take q, decide (x = s) = false) (fun q => p.fs.length - q) 0 rfl ⟨Nat.zero_le _, fun x hx => by cases hx⟩ ?_)
  rintro j ⟨hj, hI⟩
  refine G9 rfl (If rfl (fun h => ?_) (fun h => ?_)); {
  have hjl := of_decide_eq_true h; rw [List.length_map] at hjl
  obtain ⟨y, hy⟩ := ai (l := p.fs) (j := j) (by omega)
  have hy2 : (p.fs.map (·.nm))[j]? = some y.nm := ab hy
  refine G9 rfl (Ix (T := T) j (ab (f := fuD) hy) rfl rfl rfl rfl ⟨rfl, rfl⟩ rfl rfl ?_)
  refine G9 rfl (If rfl (fun h => ?_) (fun h => ?_)); {
  refine G9 rfl ?_
  exact Fe (T := T) rfl (congrArg xi (by rw [eD hI hy2 h]; rfl))}; {
  refine G9 rfl ?_
  exact Nq (j + 1) ⟨by omega, cL hI hy2 h⟩ (by show _ - (j + 1) < _ - j; omega)}}; {
  have hjl := of_decide_eq_false h; rw [List.length_map] at hjl
  refine G9 rfl ?_
  rw [List.take_of_length_le (by rw [List.length_map]; omega)] at hI
  exact Fe (T := T) rfl (congrArg xi (by rw [eW hI]; rfl))}
theorem qZ {p : Pg} (hl : p.gs.length ≤ 1000000000) (s : ByteArray) : XQ Tryz.prog pk 167 [xd (pgD p), xs s] (xi (fiI (ak (p.gs.map (·.nm)) s))) := by
  refine XQ.en Tryz.func167 Tryz.ntmps167 (fun w0 own H V v0 hf => ?_)
  refine G (T := T) 100001 rfl ?_
  refine (FzTo.bz 0 rfl).c ?_
  refine G9 rfl (Lq [1, 2] (fun q r => (4, xi 0) :: (5, xi (q : Nat)) :: r) (fun q => []) 1 (fun q => q ≤ p.gs.length ∧ ∀ x ∈ (p.gs.map (·.nm)).take q, decide (x = s) = false) (fun q => p.gs.length - q) 0 rfl ⟨Nat.zero_le _, fun x hx => by cases hx⟩ ?_)
  rintro j ⟨hj, hI⟩
  refine G9 rfl (If rfl (fun h => ?_) (fun h => ?_)); {
  have hjl := of_decide_eq_true h; rw [List.length_map] at hjl
  obtain ⟨y, hy⟩ := ai (l := p.gs) (j := j) (by omega)
  have hy2 : (p.gs.map (·.nm))[j]? = some y.nm := ab hy
  refine G9 rfl (Ix (T := T) j (ab (f := gbD) hy) rfl rfl rfl rfl ⟨rfl, rfl⟩ rfl rfl ?_)
  refine G9 rfl (If rfl (fun h => ?_) (fun h => ?_)); {
  refine G9 rfl ?_
  exact Fe (T := T) rfl (congrArg xi (by rw [eD hI hy2 h]; rfl))}; {
  refine G9 rfl ?_
  exact Nq (j + 1) ⟨by omega, cL hI hy2 h⟩ (by show _ - (j + 1) < _ - j; omega)}}; {
  have hjl := of_decide_eq_false h; rw [List.length_map] at hjl
  refine G9 rfl ?_
  rw [List.take_of_length_le (by rw [List.length_map]; omega)] at hI
  exact Fe (T := T) rfl (congrArg xi (by rw [eW hI]; rfl))}
theorem dgL_le : ∀ (k n : Nat), n < 10 ^ (k + 1) → (dgL n).length ≤ k + 1
  | 0, n, h => by rw [ce (by omega)]; exact Nat.le_refl _
  | k + 1, n, h => by
    by_cases h9 : n < 10; {
    rw [ce h9]; show 1 ≤ _; omega}; {
    rw [eV h9, List.length_append]
    have := dgL_le k (n / 10) (by rw [Nat.pow_succ] at h; omega)
    show _ + 1 ≤ _; omega}
theorem qt : ∀ (k n : Nat), n < 10 ^ (k + 1) → k ≤ 18 → n ≤ 9223372036854775807 → XQ Tryz.prog pk 27 [xi (n : Nat)] (xs (dgB n)) := by
  intro k
  induction k with
  | zero =>
    intro n h _ _
    have := cJ (pk := pk) (n := n) (by omega)
    rw [dgB, ce (by omega)]
    exact this
  | succ k ih =>
    intro n h hk hn
    by_cases h9 : n < 10
    · have := cJ (pk := pk) (n := n) (by omega)
      rw [dgB, ce (by omega)]
      exact this
    have h10 : n / 10 < 10 ^ (k + 1) := by rw [Nat.pow_succ] at h; omega
    have hc := ih (n / 10) h10 (by omega) (by omega)
    have hsz := dH (n / 10)
    have hs1 : (⟨#[dg1 (n % 10)]⟩ : ByteArray).size = 1 := rfl
    have hln := dgL_le k (n / 10) h10
    refine XQ.en Tryz.func27 Tryz.ntmps27 (fun w0 own H V v0 hf => ?_)
    have t1 : 0 ≤ (n : Int).tmod 10 ∧ (n : Int).tmod 10 < 10 := ⟨Int.tmod_nonneg 10 (Int.natCast_nonneg n), Int.tmod_lt_of_pos (n : Int) (by omega)⟩
    have t2 := oh n
    refine G (T := T) 9 rfl ?_
    rw [ie n]
    refine Cd (T := T) [dg1 (n % 10)] rfl rfl rfl rfl rfl rfl ⟨rfl, rfl⟩ ?_
    refine G9 rfl (IfF rfl (decide_eq_false (by omega)) ?_)
    refine G (T := T) 15 rfl ?_
    rw [oh]
    refine G9 rfl (Cq hc rfl rfl rfl rfl rfl ⟨rfl, rfl⟩ ?_)
    refine G9 rfl ?_
    exact Fe (T := T) rfl (congrArg xs (by
      show _ = (⟨(dgL n).toArray⟩ : ByteArray)
      rw [eV h9]
      apply ByteArray.ext
      simp [dgB]))
theorem qu {n : Int} (h0 : 0 ≤ n) (h1 : n ≤ 9223372036854775807) : XQ Tryz.prog pk 27 [xi n] (xs (dgB n.toNat)) ∧ (dgB n.toNat).size ≤ 19 := by
  obtain ⟨k, rfl⟩ := Int.eq_ofNat_of_zero_le h0
  have hk : k < 10 ^ (18 + 1) := by omega
  exact ⟨qt 18 k hk (Nat.le_refl _) (by omega), by rw [dH]; exact dgL_le 18 k hk⟩
abbrev p0R : XV := .a (.c (.p 0 0 0))
abbrev scB (p : Pg) (v n : Nat) (N : List (List D)) (m : Nat) (M : List (List D)) : XH := [⟨0, 0, .cells [.d (.s (p.ts.map tdD)), .d (.s (p.gs.map gbD)), .d (.s (p.fs.map fuD)), .l 1 v 1 0 n n, .l 2 v 4 0 m m] 266⟩, ⟨1, v, .row n N 9 1⟩, ⟨2, v, .row m M 55 4⟩]
theorem sc_add {p : Pg} {n m : Nat} {N M : List (List D)} (hn : n ≤ 1000000000000) (hm : M.length = m) (hmn : m = n) {s : ByteArray} {t : Ty4} : XM Tryz.prog pk 172 [p0R, xs s, xd (tyD t)] (scB p 0 n N m M) 3 3 (fun r hp' => r = .t [] ∧ hp' = scB p 1 (n + 1) (N ++ [a7 s]) (m + 1) (M ++ [tyD t])) := by
  obtain ⟨k, nm, a, ks⟩ := t
  rw [nS]
  refine XM.en Tryz.func172 Tryz.ntmps172 (fun w0 own H V v0 hf => ?_)
  refine G9 rfl ?_
  subst hm
  refine Iq (T := T) M.length rfl rfl rfl rfl rfl ⟨rfl, rfl⟩ rfl (by omega) rfl ?_
  refine Sr (T := T) (by rw [List.getElem?_append_right (Nat.le_refl _), Nat.sub_self]; rfl) rfl rfl rfl rfl rfl rfl rfl ⟨rfl, rfl⟩ rfl rfl ?_
  rw [setR_last (by rfl)]
  refine G9 rfl (Fm (T := T) (fun g => g) (.t []) (scB p 1 (n + 1) (N ++ [a7 s]) (M.length + 1) (M ++ [[.c (.int .i64 k), .c (.string nm), .c (.int .i64 a), .s (ks.map tyD)]])) ⟨rfl, rfl⟩ rfl)
def letF : Sm ⊕ Ex → Option (ByteArray × Ty4)
  | .inl s => if smK s = 1 then some (fN s, sty s) else none
  | .inr _ => none
def aT (l : List Sm) : List (ByteArray × Ty4) := (am l).filterMap letF
def d9 (l : List (List Sm)) : List (ByteArray × Ty4) := (aP l).filterMap letF
theorem lets_ex (l : List Ex) : (l.map (Sum.inr : Ex → Sm ⊕ Ex)).filterMap letF = [] := by
  induction l with
  | nil => rfl
  | cons e r ih => rw [List.map_cons, List.filterMap_cons]; exact ih
theorem iw (k : Int) (nm : ByteArray) (t : Ty4) (n : Int) (es : List Ex) (b el : List Sm) (cs : List (List Sm)) (r : List Sm) : aT (.mk k nm t n es b el cs :: r) = ((if k = 1 then [(nm, t)] else []) ++ aT b ++ d9 cs ++ aT el) ++ aT r := by
  unfold aT d9
  rw [am, evS, List.filterMap_append, List.filterMap_cons, List.filterMap_append, List.filterMap_append, List.filterMap_append, lets_ex]
  have e : letF (.inl (.mk k nm t n es b el cs)) = if k = 1 then some (nm, t) else none := rfl
  rw [e]
  by_cases hk : k = 1; {
  rw [if_pos hk, if_pos hk]; simp}; {
  rw [if_neg hk, if_neg hk]; simp}
theorem iy (c : List Sm) (r : List (List Sm)) : d9 (c :: r) = aT c ++ d9 r := by
  unfold aT d9
  rw [aP, List.filterMap_append]
theorem jj : ∀ (l r : List Sm), aT (l ++ r) = aT l ++ aT r
  | [], r => rfl
  | .mk k nm t n es b el cs :: l, r => by rw [List.cons_append, iw, iw, jj l r, List.append_assoc (_ ++ aT el)]
theorem jm : ∀ (l r : List (List Sm)), d9 (l ++ r) = d9 l ++ d9 r
  | [], r => rfl
  | c :: l, r => by rw [List.cons_append, iy, iy, jm l r, List.append_assoc]
theorem re {l : List Sm} {j : Nat} {k : Int} {nm : ByteArray} {t : Ty4} {n : Int} {es : List Ex} {b el : List Sm} {cs : List (List Sm)} (h : l[j]? = some (.mk k nm t n es b el cs)) : aT (l.take (j + 1)) = aT (l.take j) ++ ((if k = 1 then [(nm, t)] else []) ++ aT b ++ d9 cs ++ aT el) := by
  rw [List.take_add_one, h, jj]
  show _ ++ aT [_] = _
  rw [iw]
  show _ ++ (_ ++ []) = _
  rw [List.append_nil]
theorem rh {l : List (List Sm)} {j : Nat} {c : List Sm} (h : l[j]? = some c) : d9 (l.take (j + 1)) = d9 (l.take j) ++ aT c := by
  rw [List.take_add_one, h, jm]
  show _ ++ d9 [_] = _
  rw [iy]
  show _ ++ (_ ++ []) = _
  rw [List.append_nil]
mutual
theorem lets_lenS : ∀ s : Sm, ((evS s).filterMap letF).length ≤ s.size
  | .mk k nm t n es b el cs => by
    have h1 := dP b
    have h2 := dP el
    have h3 := iz cs
    rw [evS, List.filterMap_cons, List.filterMap_append, List.filterMap_append, List.filterMap_append, lets_ex, Sm.size]
    split; {
    simp only [List.nil_append, List.length_append]; omega}; {
    simp only [List.nil_append, List.length_append, List.length_cons]; omega}
theorem dP : ∀ l : List Sm, ((am l).filterMap letF).length ≤ Sm.sizes l
  | [] => Nat.le_refl _
  | s :: r => by
    have h1 := lets_lenS s
    have h2 := dP r
    rw [am, List.filterMap_append, List.length_append, Sm.sizes]; omega
theorem iz : ∀ l : List (List Sm), ((aP l).filterMap letF).length ≤ Sm.csizes l
  | [] => Nat.le_refl _
  | s :: r => by
    have h1 := dP s
    have h2 := iz r
    rw [aP, List.filterMap_append, List.length_append, Sm.csizes]; omega
end
theorem gL (l : List Sm) : (aT l).length ≤ Sm.sizes l := dP l
abbrev lnR (l : List (ByteArray × Ty4)) : List (List D) := l.map fun y => a7 y.1
abbrev ltR (l : List (ByteArray × Ty4)) : List (List D) := l.map fun y => tyD y.2
abbrev scL (p : Pg) (v : Nat) (l : List (ByteArray × Ty4)) : XH := scB p v l.length (lnR l) l.length (ltR l)
theorem sc_addL {p : Pg} {l : List (ByteArray × Ty4)} (hn : l.length ≤ 1000000000000) {s : ByteArray} {t : Ty4} : XM Tryz.prog pk 172 [p0R, xs s, xd (tyD t)] (scL p 0 l) 3 3 (fun r hp' => r = .t [] ∧ hp' = scL p 1 (l ++ [(s, t)])) := by
  have h := sc_add (pk := pk) (p := p) (n := l.length) (m := l.length) (N := lnR l) (M := ltR l) (s := s) (t := t) hn (by rw [List.length_map]) rfl
  have e1 : (l ++ [(s, t)]).length = l.length + 1 := by rw [List.length_append]; rfl
  have e2 : lnR (l ++ [(s, t)]) = lnR l ++ [a7 s] := by rw [lnR, List.map_append]; rfl
  have e3 : ltR (l ++ [(s, t)]) = ltR l ++ [tyD t] := by rw [ltR, List.map_append]; rfl
  show XM _ _ _ _ _ _ _ (fun r hp' => r = .t [] ∧ hp' = scB p 1 (l ++ [(s, t)]).length (lnR (l ++ [(s, t)])) (l ++ [(s, t)]).length (ltR (l ++ [(s, t)])))
  rw [e1, e2, e3]
  exact h
theorem Sm.sizes_tk : ∀ {l : List Sm} {j : Nat} {y : Sm}, l[j]? = some y → Sm.sizes (l.take j) + y.size ≤ Sm.sizes l
  | x :: r, 0, y, h => by cases h; show 0 + _ ≤ _; rw [Sm.sizes]; omega
  | x :: r, j + 1, y, h => by
    have := Sm.sizes_tk (l := r) (j := j) (y := y) (by simpa using h)
    rw [List.take_succ_cons, Sm.sizes, Sm.sizes]; omega
theorem Sm.csizes_tk : ∀ {l : List (List Sm)} {j : Nat} {y : List Sm}, l[j]? = some y → Sm.csizes (l.take j) + Sm.sizes y + 1 ≤ Sm.csizes l
  | x :: r, 0, y, h => by cases h; show 0 + _ + 1 ≤ _; rw [Sm.csizes]; omega
  | x :: r, j + 1, y, h => by
    have := Sm.csizes_tk (l := r) (j := j) (y := y) (by simpa using h)
    rw [List.take_succ_cons, Sm.csizes, Sm.csizes]; omega
theorem nz (l : List (List Sm)) : (d9 l).length ≤ Sm.csizes l := iz l
theorem sc_lets {p : Pg} : ∀ (m : Nat), m ≤ 100000000000 → ∀ {l : List Sm}, Sm.sizes l ≤ m → ∀ {q : List (ByteArray × Ty4)}, q.length + Sm.sizes l ≤ 1000000000000 → XM Tryz.prog pk 173 [p0R, xr (l.map smD)] (scL p 0 q) 3 3 (fun r hp' => r = .t [] ∧ hp' = scL p 1 (q ++ aT l)) := by
  intro m
  induction m with
  | zero =>
    intro _ l hs q hq
    cases l with
    | cons e r => have := e.size_pos; simp only [Sm.sizes] at hs; omega
    | nil =>
      rw [show q ++ aT [] = q from List.append_nil q]
      refine XM.en Tryz.func173 Tryz.ntmps173 (fun w0 own H V v0 hf => ?_)
      refine G9 rfl (Un 1 ?_)
      refine G9 rfl (IfF rfl rfl ?_)
      refine G9 rfl (Fm (T := T) (fun g => g) (.t []) (scL p 1 q) ⟨rfl, rfl⟩ rfl)
  | succ m ih =>
  intro hm l hs q hq
  have hlen := Sm.slen_le l
  refine XM.en Tryz.func173 Tryz.ntmps173 (fun w0 own H V v0 hf => ?_)
  refine G9 rfl (Lq [0, 1] (fun (u : Nat × List (ByteArray × Ty4)) r => (4, xi (u.1 : Nat)) :: r) (fun u => scL p 1 u.2) 3 (fun u => u.1 ≤ l.length ∧ u.2 = q ++ aT (l.take u.1)) (fun u => l.length - u.1) (0, q) rfl ⟨Nat.zero_le _, (List.append_nil q).symm⟩ ?_)
  rintro ⟨j, S⟩ ⟨hj, hS⟩; dsimp only at hj hS ⊢
  refine G9 rfl (If rfl (fun h => ?_) (fun h => ?_)); {
  have hjl := of_decide_eq_true h; rw [List.length_map] at hjl
  obtain ⟨y, hy⟩ := ai (l := l) (j := j) (by omega)
  have hys := Sm.size_mem (List.mem_of_getElem? hy)
  have hst := Sm.sizes_tk hy
  have hSl : S.length ≤ q.length + Sm.sizes (l.take j) := by
    have h1 := gL (l.take j)
    rw [hS, List.length_append]; omega
  obtain ⟨k, nm, t, n, es, b, el, cs⟩ := y
  simp only [Sm.size] at hys hst
  have hstep := re hy
  have hbl := gL b
  refine G9 rfl (Ix (T := T) j (ab (f := smD) hy) rfl rfl rfl rfl ⟨rfl, rfl⟩ rfl rfl ?_)
  refine G9 rfl (Cf [0, 1, 4] (fun (u : List (ByteArray × Ty4)) r => r) (fun u => scL p 1 u) 3 (fun u => u = S ++ (if k = 1 then [(nm, t)] else [])) rfl ?_ ?_); {
  refine If rfl (fun h => ?_) (fun h => ?_); {
  have hk : k = 1 := of_decide_eq_true h
  refine G9 rfl (Ix (T := T) j (ab (f := smD) hy) rfl rfl rfl rfl ⟨rfl, rfl⟩ rfl rfl ?_)
  refine G9 rfl (Ix (T := T) j (ab (f := smD) hy) rfl rfl rfl rfl ⟨rfl, rfl⟩ rfl rfl ?_)
  refine G9 rfl (Ckz [0, 1, 2] (scL p 2 (S ++ [(nm, t)])) (sc_addL (pk := pk) (p := p) (l := S) (s := nm) (t := t) (by omega)) rfl rfl rfl rfl rfl rfl rfl ⟨⟨rfl, rfl⟩, rfl⟩ rfl rfl ?_)
  refine G9 rfl (Dn (S ++ [(nm, t)]) (by rw [if_pos hk]))}; {
  have hk : ¬ k = 1 := of_decide_eq_false h
  refine G9 rfl (Dn S (by rw [if_neg hk, List.append_nil]))}}
  rintro U hU
  have hUl : U.length ≤ S.length + 1 := by rw [hU, List.length_append]; split <;> simp
  have key : ∀ {X : List Sm} {U : List (ByteArray × Ty4)}, Sm.sizes X ≤ m → U.length + Sm.sizes X ≤ 1000000000000 → XM Tryz.prog pk 173 [p0R, xr (X.map smD)] (scL p 0 U) 3 3 (fun r hp' => r = .t [] ∧ hp' = scL p 1 (U ++ aT X)) := fun h1 h2 => ih (by omega) h1 h2
  refine G9 rfl (Ix (T := T) j (ab (f := smD) hy) rfl rfl rfl rfl ⟨rfl, rfl⟩ rfl rfl ?_)
  rw [be]
  refine G9 rfl (Ckz [0, 1, 2] (scL p 2 (U ++ aT b)) (key (X := b) (U := U) (by omega) (by omega)) rfl rfl rfl rfl rfl rfl rfl ⟨⟨rfl, rfl⟩, rfl⟩ rfl rfl ?_)
  refine G9 rfl (Lq [0, 1, 4] (fun (u : Nat × List (ByteArray × Ty4)) r => (5, xi (u.1 : Nat)) :: r) (fun u => scL p 1 u.2) 3 (fun u => u.1 ≤ cs.length ∧ u.2 = U ++ aT b ++ d9 (cs.take u.1)) (fun u => cs.length - u.1) (0, U ++ aT b) rfl ⟨Nat.zero_le _, (List.append_nil _).symm⟩ ?_)
  rintro ⟨i, C⟩ ⟨hi, hC⟩; dsimp only at hi hC ⊢
  have hclen := Sm.sclen_le cs
  refine G9 rfl (Ix (T := T) j (ab (f := smD) hy) rfl rfl rfl rfl ⟨rfl, rfl⟩ rfl rfl ?_)
  rw [be]
  refine G9 rfl (If rfl (fun h => ?_) (fun h => ?_)); {
  have hil := of_decide_eq_true h; rw [List.length_map] at hil
  obtain ⟨c, hc⟩ := ai (l := cs) (j := i) (by omega)
  have hcz := Sm.csizes_tk hc
  have hcl := nz (cs.take i)
  have hCl : C.length ≤ U.length + Sm.sizes b + Sm.csizes (cs.take i) := by
    rw [hC, List.length_append, List.length_append]; omega
  refine G9 rfl (Ix (T := T) j (ab (f := smD) hy) rfl rfl rfl rfl ⟨rfl, rfl⟩ rfl rfl ?_)
  rw [be]
  refine G9 rfl (Ix (T := T) i (ab (f := blD) hc) rfl rfl rfl rfl ⟨rfl, rfl⟩ rfl rfl ?_)
  refine G9 rfl (Ckz [0, 1, 2] (scL p 2 (C ++ aT c)) (key (X := c) (U := C) (by omega) (by omega)) rfl rfl rfl rfl rfl rfl rfl ⟨⟨rfl, rfl⟩, rfl⟩ rfl rfl ?_)
  refine G9 rfl ?_
  exact Nq (i + 1, C ++ aT c) ⟨by show i + 1 ≤ _; omega, by show C ++ aT c = _; rw [rh hc, hC, List.append_assoc]⟩ (by show _ - (i + 1) < _ - i; omega)}; {
  have hil := of_decide_eq_false h; rw [List.length_map] at hil
  rw [List.take_of_length_le (by omega)] at hC
  have hcl := nz cs
  have hCl : C.length ≤ U.length + Sm.sizes b + Sm.csizes cs := by
    rw [hC, List.length_append, List.length_append]; omega
  refine G9 rfl (Ix (T := T) j (ab (f := smD) hy) rfl rfl rfl rfl ⟨rfl, rfl⟩ rfl rfl ?_)
  rw [be]
  refine G9 rfl (Ckz [0, 1, 2] (scL p 2 (C ++ aT el)) (key (X := el) (U := C) (by omega) (by omega)) rfl rfl rfl rfl rfl rfl rfl ⟨⟨rfl, rfl⟩, rfl⟩ rfl rfl ?_)
  refine G9 rfl ?_
  refine Nq (j + 1, C ++ aT el) ⟨by show j + 1 ≤ _; omega, ?_⟩ (by show _ - (j + 1) < _ - j; omega)
  show C ++ aT el = _
  rw [hstep, hC, hU, hS]
  simp only [List.append_assoc]}}; {
  have hjl := of_decide_eq_false h; rw [List.length_map] at hjl
  rw [List.take_of_length_le (by omega)] at hS
  subst hS
  refine G9 rfl (Fm (T := T) (fun g => g) (.t []) (scL p 1 (q ++ aT l)) ⟨rfl, rfl⟩ rfl)}
end
section
open Go Go.RowKit Go.Proofs K
variable {pk : Pk}
abbrev fmB (p : Pg) (sc : List D) (t : ByteArray) (v n : Nat) (R : List (List D)) : XH := [⟨0, 0, .cells [.d (.s (p.ts.map tdD)), .d (.s (p.gs.map gbD)), .d (.s (p.fs.map fuD)), .d (.p sc), .d (.c (.string t)), .l 1 v 2 0 n n] 124⟩, ⟨1, v, .row n R 126 2⟩]
abbrev FmC (pk : Pk) (f : FuncId) (args : List XV) (p : Pg) (sc : List D) (t : ByteArray) (n : Nat) (R : List (List D)) (c : Nat) : Prop := XM Tryz.prog pk f (p0R :: args) (fmB p sc t 0 n R) 2 2 (fun r hp' => ∃ t' : ByteArray, t'.size ≤ t.size + c ∧ r = .t [] ∧ hp' = fmB p sc t' 0 n R)
section
variable {p : Pg} {sc : List D} {t : ByteArray} {n : Nat} {R : List (List D)}
theorem bc {k : Int} (h0 : 0 ≤ k) (h1 : k ≤ 9223372036854775807) (ht : t.size ≤ 9000000000000000000) : FmC pk 156 [xi k] p sc t n R 20 := by
  obtain ⟨hd, hs⟩ := qu (pk := pk) h0 h1
  generalize dgB k.toNat = d at hd hs
  have h2 : (⟨#[44]⟩ : ByteArray).size = 1 := rfl
  have e1 : (t ++ d).size = t.size + d.size := ByteArray.size_append
  have e2 : (t ++ d ++ ⟨#[44]⟩).size = t.size + d.size + 1 := by rw [ByteArray.size_append, e1]; rfl
  refine XM.en Tryz.func156 Tryz.ntmps156 (fun w0 own H V v0 hf => ?_)
  refine G9 rfl (IfF rfl (decide_eq_false (by omega)) ?_)
  refine G9 rfl (Cq hd rfl rfl rfl rfl rfl ⟨rfl, rfl⟩ ?_)
  refine G9 rfl (Fm (T := T) (fun g => g) (.t []) (fmB p sc (t ++ d ++ ⟨#[44]⟩) 0 n R) ⟨t ++ d ++ ⟨#[44]⟩, by omega, rfl, rfl⟩ rfl)
theorem kB {s : ByteArray} (hs : s.size ≤ 1000000) (ht : t.size ≤ 8000000000000000000) : FmC pk 157 [xs s] p sc t n R 1000020 := by
  refine XM.en Tryz.func157 Tryz.ntmps157 (fun w0 own H V v0 hf => ?_)
  refine G9 rfl (Cmc [0, 1] (bc (pk := pk) (p := p) (sc := sc) (t := t) (n := n) (R := R) (k := (s.size : Nat)) (by omega) (by omega) (by omega)) rfl rfl rfl rfl rfl rfl rfl ⟨⟨rfl, rfl⟩, rfl⟩ ?_)
  rintro r hp' ⟨t1, h1, rfl, rfl⟩
  have e1 : (t1 ++ s).size = t1.size + s.size := ByteArray.size_append
  refine G9 rfl (Fm (T := T) (fun g => g) (.t []) (fmB p sc (t1 ++ s) 0 n R) ⟨t1 ++ s, by omega, rfl, rfl⟩ rfl)
theorem Ty4.sizes_tk : ∀ {l : List Ty4} {j : Nat} {y : Ty4}, l[j]? = some y → Ty4.sizes (l.take j) + y.size ≤ Ty4.sizes l
  | x :: r, 0, y, h => by cases h; show 0 + _ ≤ _; rw [Ty4.sizes]; omega
  | x :: r, j + 1, y, h => by
    have := Ty4.sizes_tk (l := r) (j := j) (y := y) (by simpa using h)
    rw [List.take_succ_cons, Ty4.sizes, Ty4.sizes]; omega
theorem Ty4.sizes_tk2 : ∀ {l : List Ty4} {j : Nat} {y : Ty4}, l[j]? = some y → Ty4.sizes (l.take (j + 1)) = Ty4.sizes (l.take j) + y.size
  | x :: r, 0, y, h => by cases h; show Ty4.sizes [x] = 0 + x.size; rw [Ty4.sizes, Ty4.sizes]; omega
  | x :: r, j + 1, y, h => by
    have := Ty4.sizes_tk2 (l := r) (j := j) (y := y) (by simpa using h)
    rw [List.take_succ_cons, List.take_succ_cons, Ty4.sizes, Ty4.sizes]; omega
theorem fm_typ : ∀ (m : Nat), m ≤ 1000000000000 → ∀ {y : Ty4}, y.size ≤ m → y.ok → ∀ {t : ByteArray}, t.size + 2000000 * y.size ≤ 8000000000000000000 → FmC pk 158 [xd (tyD y)] p sc t n R (2000000 * y.size) := by
  intro m
  induction m with
  | zero => intro _ y h; have := y.size_pos; omega
  | succ m ih =>
  rintro hm ⟨k, nm, a, ks⟩ hs ⟨o1, o2, o3, o4⟩ t ht
  have hsz : (Ty4.mk k nm a ks).size = Ty4.sizes ks + 1 := rfl
  have hkl := Ty4.len_le ks
  rw [nS]
  refine XM.en Tryz.func158 Tryz.ntmps158 (fun w0 own H V v0 hf => ?_)
  refine G (T := T) 100001 rfl ?_
  refine (FzTo.bz 2 rfl).c ?_
  refine G9 rfl (Cmc [0, 1] (bc (pk := pk) o1.1 o1.2 (by omega)) rfl rfl rfl rfl rfl rfl rfl ⟨⟨rfl, rfl⟩, rfl⟩ ?_)
  rintro r hp' ⟨t1, h1, rfl, rfl⟩
  refine G9 rfl (Cmc [0, 1] (kB (pk := pk) o2 (by omega)) rfl rfl rfl rfl rfl rfl rfl ⟨⟨rfl, rfl⟩, rfl⟩ ?_)
  rintro r hp' ⟨t2, h2, rfl, rfl⟩
  refine G9 rfl (Cmc [0, 1] (bc (pk := pk) o3.1 o3.2 (by omega)) rfl rfl rfl rfl rfl rfl rfl ⟨⟨rfl, rfl⟩, rfl⟩ ?_)
  rintro r hp' ⟨t3, h3, rfl, rfl⟩
  refine G9 rfl ?_
  refine Cmc [0, 1] (bc (pk := pk) (k := ((ks.map tyD).length : Nat)) (by omega) (by rw [List.length_map]; omega) (by omega)) rfl rfl rfl rfl rfl rfl rfl ⟨⟨rfl, rfl⟩, rfl⟩ ?_
  rintro r hp' ⟨t4, h4, rfl, rfl⟩
  refine G9 rfl ?_
  refine Lq [0, 3] (fun (u : Nat × ByteArray) r => (4, xi (u.1 : Nat)) :: r) (fun u => fmB p sc u.2 0 n R) 3 (fun u => u.1 ≤ ks.length ∧ u.2.size ≤ t.size + 1000080 + 2000000 * Ty4.sizes (ks.take u.1)) (fun u => ks.length - u.1) (0, t4) rfl ⟨Nat.zero_le _, by show t4.size ≤ _ + 2000000 * 0; omega⟩ ?_
  rintro ⟨j, T'⟩ ⟨hj, hT⟩; dsimp only at hj hT ⊢
  refine G9 rfl (If rfl (fun h => ?_) (fun h => ?_)); {
  have hjl := of_decide_eq_true h; rw [List.length_map] at hjl
  obtain ⟨y, hy⟩ := ai (l := ks) (j := j) (by omega)
  have hst := Ty4.sizes_tk hy
  have hst2 := Ty4.sizes_tk2 hy
  refine G9 rfl (Ix (T := T) j (ab (f := tyD) hy) rfl rfl rfl rfl ⟨rfl, rfl⟩ rfl rfl ?_)
  refine G9 rfl (Cmc [0, 1] (ih (by omega) (y := y) (by omega) (Ty4.oks_mem o4 (List.mem_of_getElem? hy)) (t := T') (by omega)) rfl rfl rfl rfl rfl rfl rfl ⟨⟨rfl, rfl⟩, rfl⟩ ?_)
  rintro r hp' ⟨t5, h5, rfl, rfl⟩
  refine G9 rfl ?_
  exact Nq (j + 1, t5) ⟨by show j + 1 ≤ _; omega, by show t5.size ≤ t.size + 1000080 + 2000000 * Ty4.sizes (ks.take (j + 1)); omega⟩ (by show _ - (j + 1) < _ - j; omega)}; {
  have hjl := of_decide_eq_false h; rw [List.length_map] at hjl
  rw [List.take_of_length_le (by omega)] at hT
  refine G9 rfl (Fm (T := T) (fun g => g) (.t []) (fmB p sc T' 0 n R) ⟨T', by omega, rfl, rfl⟩ rfl)}
end
theorem rj {l : List ByteArray} (hl : l.length ≤ 1000000000000) (s : ByteArray) : XQ Tryz.prog pk 96 [xs s, xr (l.map a7)] (xb (aA s l)) := by
  refine XQ.en Tryz.func96 Tryz.ntmps96 (fun w0 own H V v0 hf => ?_)
  refine G9 rfl (Lq [0, 1] (fun q r => (4, xb false) :: (5, xi (q : Nat)) :: r) (fun q => []) 0 (fun q => q ≤ l.length ∧ (l.take q).any (fun x => decide (x = s)) = false) (fun q => l.length - q) 0 rfl ⟨Nat.zero_le _, rfl⟩ ?_)
  rintro j ⟨hj, hI⟩
  refine G9 rfl (If rfl (fun h => ?_) (fun h => ?_)); {
  have hjl := of_decide_eq_true h; rw [List.length_map] at hjl
  obtain ⟨y, hy⟩ := ai (l := l) (j := j) (by omega)
  refine G9 rfl (Ix (T := T) j (ab hy) rfl rfl rfl rfl ⟨rfl, rfl⟩ rfl rfl ?_)
  refine G9 rfl (If rfl (fun h => ?_) (fun h => ?_)); {
  refine G9 rfl ?_
  exact Fe (T := T) rfl (congrArg xb (List.any_eq_true.2 ⟨y, List.mem_of_getElem? hy, h⟩).symm)}; {
  refine G9 rfl ?_
  exact Nq (j + 1) ⟨by omega, eo hI hy h⟩ (by show _ - (j + 1) < _ - j; omega)}}; {
  have hjl := of_decide_eq_false h; rw [List.length_map] at hjl
  refine G9 rfl ?_
  rw [List.take_of_length_le (by omega)] at hI
  exact Fe (T := T) rfl (congrArg xb hI.symm)}
abbrev scD (p : Pg) (L : List (ByteArray × Ty4)) : List D := [.s (p.ts.map tdD), .s (p.gs.map gbD), .s (p.fs.map fuD), .s (lnR L), .s (ltR L)]
abbrev fmL (p : Pg) (L : List (ByteArray × Ty4)) (t : ByteArray) (v : Nat) (Q : List Rf) : XH := fmB p (scD p L) t v Q.length (Q.map rfD)
section
variable {p : Pg} {L : List (ByteArray × Ty4)} {t : ByteArray} {Q : List Rf}
theorem lnR_str : lnR L = (L.map (·.1)).map a7 := by rw [List.map_map]; rfl
theorem fm_local (hL : L.length ≤ 1000000000000) (s : ByteArray) : XM Tryz.prog pk 220 [p0R, xs s] (fmL p L t 0 Q) 2 2 (fun r hp' => r = xb (aA s (L.map (·.1))) ∧ hp' = fmL p L t 0 Q) := by
  have ha := rj (pk := pk) (l := L.map (·.1)) (by rw [List.length_map]; exact hL) s
  rw [← lnR_str] at ha
  refine XM.en Tryz.func220 Tryz.ntmps220 (fun w0 own H V v0 hf => ?_)
  refine G9 rfl (Cq ha rfl rfl rfl rfl rfl ⟨rfl, rfl⟩ ?_)
  refine G9 rfl (Fm (T := T) (fun g => g) (xb (aA s (L.map (·.1)))) (fmL p L t 0 Q) ⟨rfl, rfl⟩ rfl)
def bZ (p : Pg) (loc : List ByteArray) (l : List Ex) : List Rf := (aF l).filterMap (au p loc)
theorem iA {loc : List ByteArray} : ∀ {l : List Ex} {j : Nat} {y : Ex}, l[j]? = some y → bZ p loc (l.take (j + 1)) = bZ p loc (l.take j) ++ bZ p loc [y]
  | x :: r, 0, y, h => by cases h; rfl
  | x :: r, j + 1, y, h => by
    have ih := iA (loc := loc) (l := r) (j := j) (y := y) (by simpa using h)
    unfold bZ at ih ⊢
    rw [List.take_succ_cons, List.take_succ_cons, aF, aF, List.filterMap_append, List.filterMap_append, ih, List.append_assoc]
theorem Ex.sizes_tk : ∀ {l : List Ex} {j : Nat} {y : Ex}, l[j]? = some y → Ex.sizes (l.take j) + y.size ≤ Ex.sizes l
  | x :: r, 0, y, h => by cases h; show 0 + _ ≤ _; rw [Ex.sizes]; omega
  | x :: r, j + 1, y, h => by
    have := Ex.sizes_tk (l := r) (j := j) (y := y) (by simpa using h)
    rw [List.take_succ_cons, Ex.sizes, Ex.sizes]; omega
theorem Ex.sizes_tk2 : ∀ {l : List Ex} {j : Nat} {y : Ex}, l[j]? = some y → Ex.sizes (l.take (j + 1)) = Ex.sizes (l.take j) + y.size
  | x :: r, 0, y, h => by cases h; show Ex.sizes [x] = 0 + x.size; rw [Ex.sizes, Ex.sizes]; omega
  | x :: r, j + 1, y, h => by
    have := Ex.sizes_tk2 (l := r) (j := j) (y := y) (by simpa using h)
    rw [List.take_succ_cons, List.take_succ_cons, Ex.sizes, Ex.sizes]; omega
mutual
theorem rk {loc : List ByteArray} : ∀ e : Ex, ((evE e).filterMap (au p loc)).length ≤ e.size
  | .mk k nm n ks => by
    have := de (loc := loc) ks
    rw [evE, Ex.size, List.filterMap_cons]
    split; {
    omega}; {
    rw [List.length_cons]; omega}
theorem de {loc : List ByteArray} : ∀ l : List Ex, ((aF l).filterMap (au p loc)).length ≤ Ex.sizes l
  | [] => Nat.le_refl _
  | e :: r => by
    have := rk (loc := loc) e
    have := de (loc := loc) r
    rw [aF, List.filterMap_append, List.length_append, Ex.sizes]; omega
end
theorem refsE_mk {loc : List ByteArray} (k : Int) (nm : ByteArray) (n : Int) (ks : List Ex) : bZ p loc [.mk k nm n ks] = (au p loc (.mk k nm n ks)).toList ++ bZ p loc ks := by
  unfold bZ
  rw [aF, evE, aF, List.append_nil, List.filterMap_cons]
  cases au p loc (.mk k nm n ks) <;> rfl
theorem fm_expr (hL : L.length ≤ 1000000000000) (hp : p.fs.length ≤ 1000000000) (hg : p.gs.length ≤ 1000000000) : ∀ (m : Nat), m ≤ 1000000000000 → ∀ {e : Ex}, e.size ≤ m → e.ok → ∀ {t : ByteArray} {Q : List Rf}, t.size + 3000000 * e.size ≤ 8000000000000000000 → Q.length + e.size ≤ 1000000000000 →
    XM Tryz.prog pk 198 [p0R, xd (exD e)] (fmL p L t 0 Q) 2 2 (fun r hp' => ∃ t' : ByteArray, t'.size ≤ t.size + 3000000 * e.size ∧ r = .t [] ∧ hp' = fmL p L t' 1 (Q ++ bZ p (L.map (·.1)) [e])) := by
  intro m
  induction m with
  | zero => intro _ e h; have := e.size_pos; omega
  | succ m ih =>
  rintro hm ⟨k, nm, a, ks⟩ hs ⟨o1, o2, o3, o4⟩ t Q ht hQ
  have hsz : (Ex.mk k nm a ks).size = Ex.sizes ks + 1 := rfl
  have hkl := Ex.len_le ks
  have hrm := refsE_mk (p := p) (loc := L.map (·.1)) k nm a ks
  rw [bl]
  refine XM.en Tryz.func198 Tryz.ntmps198 (fun w0 own H V v0 hf => ?_)
  refine G (T := T) 100001 rfl ?_
  refine (FzTo.bz 2 rfl).c ?_
  refine G9 rfl (Cmc [0, 1] (bc (pk := pk) o1.1 o1.2 (by omega)) rfl rfl rfl rfl rfl rfl rfl ⟨⟨rfl, rfl⟩, rfl⟩ ?_)
  rintro r hp' ⟨t1, h1, rfl, rfl⟩
  refine G9 rfl (Cmc [0, 1] (bc (pk := pk) o3.1 (by omega) (by omega)) rfl rfl rfl rfl rfl rfl rfl ⟨⟨rfl, rfl⟩, rfl⟩ ?_)
  rintro r hp' ⟨t2, h2, rfl, rfl⟩
  refine G9 rfl (Cf [0, 3] (fun (u : Int) r => (4, xi u) :: r) (fun _ => fmL p L t2 0 Q) 2 (fun u => u = if k = 14 then fiI (ak (p.fs.map (·.nm)) nm) else -1) rfl ?_ ?_)
  · refine If rfl (fun h => ?_) (fun h => ?_)
    · have hk : k = 14 := of_decide_eq_true h
      refine G9 rfl (Cq (qr (pk := pk) hp nm) rfl rfl rfl rfl rfl ⟨rfl, rfl⟩ ?_)
      refine G9 rfl (Dn _ (by rw [if_pos hk]))
    · have hk : ¬ k = 14 := of_decide_eq_false h
      refine G9 rfl (Dn _ (by rw [if_neg hk]))
  rintro u hu
  refine G9 rfl (Cmc [0, 1] (fm_local (pk := pk) hL nm) rfl rfl rfl rfl rfl rfl rfl ⟨⟨rfl, rfl⟩, rfl⟩ ?_)
  rintro r hp' ⟨rfl, rfl⟩
  refine Gs (T := T) 1000 rfl ?_
  have hval : (if (decide (k = 2) && !aA nm (L.map (·.1))) = true then fiI (ak (p.gs.map (·.nm)) nm) else u) = fiI ((au p (L.map (·.1)) (.mk k nm a ks)).map (·.2)) := by
    rw [hu]
    show _ = fiI (Option.map _ (if k = 14 then _ else if k = 2 then (if (L.map (·.1)).any (fun s => decide (s = nm)) then none else _) else none))
    have ham : aA nm (L.map (·.1)) = (L.map (·.1)).any (fun s => decide (s = nm)) := rfl
    rw [ham]
    by_cases h14 : k = 14
    · rw [if_pos h14, if_pos h14, if_neg (by rw [h14]; simp), Option.map_map]
      exact congrArg fiI (congrFun Option.map_id _).symm
    · rw [if_neg h14, if_neg h14]
      by_cases h2 : k = 2
      · rw [if_pos h2]
        cases (L.map (·.1)).any (fun s => decide (s = nm)) with
        | true => rw [if_neg (by simp)]; rfl
        | false =>
          rw [if_pos (by rw [h2]; rfl), if_neg (by simp), Option.map_map]
          exact congrArg fiI (congrFun Option.map_id _).symm
      · rw [if_neg h2, if_neg (by simp [h2])]; rfl
  refine Cf [0, 3] (fun (u : Int) r => (4, xi u) :: r) (fun _ => fmL p L t2 0 Q) 2 (fun u => u = fiI ((au p (L.map (·.1)) (.mk k nm a ks)).map (·.2))) rfl ?_ ?_
  · refine If rfl (fun h => ?_) (fun h => ?_)
    · refine G9 rfl ?_
      refine Cq (qZ (pk := pk) hg nm) rfl rfl rfl rfl rfl ⟨rfl, rfl⟩ ?_
      refine G9 rfl (Dn _ (by rw [← hval, if_pos h]))
    · refine G9 rfl ?_
      exact Dn _ (by rw [← hval, if_neg (by rw [h]; simp)])
  clear hval hu
  rintro w rfl
  have hb : ∀ r, au p (L.map (·.1)) (.mk k nm a ks) = some r → r.1 = decide (k = 14) := by
    intro r hr
    have hr2 : (if k = 14 then (ak (p.fs.map (·.nm)) nm).map (true, ·) else if k = 2 then (if (L.map (·.1)).any (fun s => decide (s = nm)) then none else (ak (p.gs.map (·.nm)) nm).map (false, ·)) else none) = some r := hr
    by_cases h14 : k = 14
    · rw [if_pos h14] at hr2
      obtain ⟨i, _, rfl⟩ := Option.map_eq_some_iff.1 hr2
      exact (decide_eq_true h14).symm
    · rw [if_neg h14] at hr2
      split at hr2
      · split at hr2
        · cases hr2
        · obtain ⟨i, _, rfl⟩ := Option.map_eq_some_iff.1 hr2
          exact (decide_eq_false h14).symm
      · cases hr2
  generalize au p (L.map (·.1)) (.mk k nm a ks) = rf at hrm hb ⊢
  refine G9 rfl ?_
  obtain ⟨Q2, hQ2⟩ : ∃ Q2, Q2 = Q ++ rf.toList := ⟨_, rfl⟩
  refine Cf [0, 3] (fun (u : ByteArray) r => r) (fun u => fmL p L u 1 Q2) 2 (fun u => u.size ≤ t2.size + 1000020) rfl ?_ ?_
  · cases rf with
    | some r =>
      obtain ⟨b, i⟩ := r
      have hb' : b = decide (k = 14) := hb _ rfl
      have e0 : (⟨#[63]⟩ : ByteArray).size = 1 := rfl
      have e1 : (t2 ++ ⟨#[63]⟩).size = t2.size + 1 := by rw [ByteArray.size_append]; rfl
      refine IfT rfl (decide_eq_true (by show (0 : Int) ≤ ((i : Nat) : Int); omega)) ?_
      refine G9 rfl ?_
      have e3 : fmL p L (t2 ++ ⟨#[63]⟩) 1 Q2 = fmB p (scD p L) (t2 ++ ⟨#[63]⟩) 1 (Q.length + 1) (Q.map rfD ++ [[.c (.bool (decide (k = 14))), .c (.int .i64 (i : Nat))]]) := by
        rw [hQ2, hb']
        show fmB p (scD p L) _ 1 (Q ++ [_]).length ((Q ++ [_]).map rfD) = _
        rw [List.length_append, List.map_append]; rfl
      exact Dn (t2 ++ ⟨#[63]⟩) (by rw [e1]; omega) (by
        show Mt _ _ _ ⟨_, fmL p L (t2 ++ ⟨#[63]⟩) 1 Q2, 2⟩ id
        rw [e3]; exact ⟨⟨_, _, rfl, rfl⟩, rfl, rfl⟩)
    | none =>
      have e2 : Q2 = Q := hQ2.trans (List.append_nil _)
      clear hQ2
      subst e2
      refine IfF rfl (decide_eq_false (by show ¬ (0 : Int) ≤ -1; omega)) ?_
      refine G9 rfl (Cmc [0, 1] (kB (pk := pk) o2 (by omega)) rfl rfl rfl rfl rfl rfl rfl ⟨⟨rfl, rfl⟩, rfl⟩ ?_)
      rintro r hp' ⟨t3, h3, rfl, rfl⟩
      refine G9 rfl (Dn t3 h3)
  rintro t3 h3
  have hrl : rf.toList.length ≤ 1 := by cases rf <;> simp
  have key : ∀ {y : Ex} {t : ByteArray} {Q : List Rf}, y.size ≤ m → y.ok → t.size + 3000000 * y.size ≤ 8000000000000000000 → Q.length + y.size ≤ 1000000000000 → XM Tryz.prog pk 198 [p0R, xd (exD y)] (fmL p L t 0 Q) 2 2 (fun r hp' => ∃ t' : ByteArray, t'.size ≤ t.size + 3000000 * y.size ∧ r = .t [] ∧ hp' = fmL p L t' 1 (Q ++ bZ p (L.map (·.1)) [y])) := fun h1 h2 h3 h4 => ih (by omega) h1 h2 h3 h4
  refine G9 rfl ?_
  refine Cmc [0, 1] (bc (pk := pk) (t := t3) (n := Q2.length) (R := Q2.map rfD) (k := ((ks.map exD).length : Nat)) (by omega) (by rw [List.length_map]; omega) (by omega)) rfl rfl rfl rfl rfl rfl rfl ⟨⟨rfl, rfl⟩, rfl⟩ ?_
  rintro r hp' ⟨t4, h4, rfl, rfl⟩
  refine G9 rfl ?_
  refine Lq [0, 3] (fun (u : Nat × ByteArray × List Rf) r => (6, xi (u.1 : Nat)) :: r) (fun u => fmL p L u.2.1 1 u.2.2) 2 (fun u => u.1 ≤ ks.length ∧ u.2.1.size ≤ t.size + 2000080 + 3000000 * Ex.sizes (ks.take u.1) ∧ u.2.2 = Q ++ rf.toList ++ bZ p (L.map (·.1)) (ks.take u.1)) (fun u => ks.length - u.1) (0, t4, Q2) rfl ⟨Nat.zero_le _, by show t4.size ≤ _ + 3000000 * 0; omega, hQ2.trans (List.append_nil _).symm⟩ ?_
  rintro ⟨j, T', S⟩ ⟨hj, hT, hS⟩; dsimp only at hj hT hS ⊢
  refine G9 rfl (If rfl (fun h => ?_) (fun h => ?_))
  · have hjl := of_decide_eq_true h; rw [List.length_map] at hjl
    obtain ⟨y, hy⟩ := ai (l := ks) (j := j) (by omega)
    have hst := Ex.sizes_tk hy
    have hst2 := Ex.sizes_tk2 hy
    have hSl : S.length ≤ Q.length + 1 + Ex.sizes (ks.take j) := by
      have h1 := de (p := p) (loc := L.map (·.1)) (ks.take j)
      rw [hS, List.length_append, List.length_append]; show _ + (bZ p _ _).length ≤ _; unfold bZ; omega
    refine G9 rfl (Ix (T := T) j (ab (f := exD) hy) rfl rfl rfl rfl ⟨rfl, rfl⟩ rfl rfl ?_)
    refine G9 rfl (Cmc [0, 1] (key (y := y) (t := T') (Q := S) (by omega) (Ex.oks_mem o4 (List.mem_of_getElem? hy)) (by omega) (by omega)) rfl rfl rfl rfl rfl rfl rfl ⟨⟨rfl, rfl⟩, rfl⟩ ?_)
    rintro r hp' ⟨t5, h5, rfl, rfl⟩
    refine G9 rfl ?_
    exact Nq (j + 1, t5, S ++ bZ p (L.map (·.1)) [y]) ⟨by show j + 1 ≤ _; omega, by show t5.size ≤ t.size + 2000080 + 3000000 * Ex.sizes (ks.take (j + 1)); omega, by show _ = _ ++ bZ p _ (ks.take (j + 1)); rw [iA hy, hS, List.append_assoc, List.append_assoc]⟩ (by show _ - (j + 1) < _ - j; omega)
  · have hjl := of_decide_eq_false h; rw [List.length_map] at hjl
    rw [List.take_of_length_le (by omega)] at hT hS
    refine G9 rfl (Fm (T := T) (fun g => g) (.t []) (fmL p L T' 1 S) ⟨T', by omega, rfl, by rw [hrm, hS, List.append_assoc]⟩ rfl)
end
end
section
open Go Go.RowKit Go.Proofs K
variable {pk : Pk}
def refG (p : Pg) (loc : List ByteArray) : Sm ⊕ Ex → Option Rf
  | .inl _ => none
  | .inr e => au p loc e
def bB (p : Pg) (loc : List ByteArray) (l : List Sm) : List Rf := (am l).filterMap (refG p loc)
def dQ (p : Pg) (loc : List ByteArray) (l : List (List Sm)) : List Rf := (aP l).filterMap (refG p loc)
section
variable {p : Pg} {loc : List ByteArray}
theorem refG_ex (l : List Ex) : (l.map (Sum.inr : Ex → Sm ⊕ Ex)).filterMap (refG p loc) = l.filterMap (au p loc) := by
  induction l with
  | nil => rfl
  | cons e r ih =>
    rw [List.map_cons, List.filterMap_cons, List.filterMap_cons, ih]; rfl
theorem iB (k : Int) (nm : ByteArray) (t : Ty4) (n : Int) (es : List Ex) (b el : List Sm) (cs : List (List Sm)) (r : List Sm) : bB p loc (.mk k nm t n es b el cs :: r) = (bZ p loc es ++ bB p loc b ++ dQ p loc cs ++ bB p loc el) ++ bB p loc r := by
  unfold bB dQ bZ
  rw [am, evS, List.filterMap_append, List.filterMap_cons, List.filterMap_append, List.filterMap_append, List.filterMap_append, refG_ex]
  show (_ ++ (_ ++ (_ ++ _))) ++ _ = _
  simp only [List.append_assoc]
theorem iC (c : List Sm) (r : List (List Sm)) : dQ p loc (c :: r) = bB p loc c ++ dQ p loc r := by
  unfold bB dQ
  rw [aP, List.filterMap_append]
theorem jn : ∀ (l r : List Sm), bB p loc (l ++ r) = bB p loc l ++ bB p loc r
  | [], r => rfl
  | .mk k nm t n es b el cs :: l, r => by rw [List.cons_append, iB, iB, jn l r, List.append_assoc (_ ++ bB p loc el)]
theorem jo : ∀ (l r : List (List Sm)), dQ p loc (l ++ r) = dQ p loc l ++ dQ p loc r
  | [], r => rfl
  | c :: l, r => by rw [List.cons_append, iC, iC, jo l r, List.append_assoc]
theorem rl {l : List Sm} {j : Nat} {k : Int} {nm : ByteArray} {t : Ty4} {n : Int} {es : List Ex} {b el : List Sm} {cs : List (List Sm)} (h : l[j]? = some (.mk k nm t n es b el cs)) : bB p loc (l.take (j + 1)) = bB p loc (l.take j) ++ (bZ p loc es ++ bB p loc b ++ dQ p loc cs ++ bB p loc el) := by
  rw [List.take_add_one, h, jn]
  show _ ++ bB p loc [_] = _
  rw [iB]
  show _ ++ (_ ++ []) = _
  rw [List.append_nil]
theorem rm {l : List (List Sm)} {j : Nat} {c : List Sm} (h : l[j]? = some c) : dQ p loc (l.take (j + 1)) = dQ p loc (l.take j) ++ bB p loc c := by
  rw [List.take_add_one, h, jo]
  show _ ++ dQ p loc [_] = _
  rw [iC]
  show _ ++ (_ ++ []) = _
  rw [List.append_nil]
mutual
theorem refs_lenS : ∀ s : Sm, ((evS s).filterMap (refG p loc)).length ≤ s.size
  | .mk k nm t n es b el cs => by
    have h0 := de (p := p) (loc := loc) es
    have h1 := dR b
    have h2 := dR el
    have h3 := iD cs
    rw [evS, List.filterMap_cons, List.filterMap_append, List.filterMap_append, List.filterMap_append, refG_ex, Sm.size]
    show List.length (_ ++ _) ≤ _
    simp only [List.length_append]; omega
theorem dR : ∀ l : List Sm, ((am l).filterMap (refG p loc)).length ≤ Sm.sizes l
  | [] => Nat.le_refl _
  | s :: r => by
    have h1 := refs_lenS s
    have h2 := dR r
    rw [am, List.filterMap_append, List.length_append, Sm.sizes]; omega
theorem iD : ∀ l : List (List Sm), ((aP l).filterMap (refG p loc)).length ≤ Sm.csizes l
  | [] => Nat.le_refl _
  | s :: r => by
    have h1 := dR s
    have h2 := iD r
    rw [aP, List.filterMap_append, List.length_append, Sm.csizes]; omega
end
theorem jR (l : List Sm) : (bB p loc l).length ≤ Sm.sizes l := dR l
theorem nA (l : List (List Sm)) : (dQ p loc l).length ≤ Sm.csizes l := iD l
theorem nB (l : List Ex) : (bZ p loc l).length ≤ Ex.sizes l := de l
theorem Sm.sizes_tk2 : ∀ {l : List Sm} {j : Nat} {y : Sm}, l[j]? = some y → Sm.sizes (l.take (j + 1)) = Sm.sizes (l.take j) + y.size
  | x :: r, 0, y, h => by cases h; show Sm.sizes [x] = 0 + x.size; rw [Sm.sizes, Sm.sizes]; omega
  | x :: r, j + 1, y, h => by
    have := Sm.sizes_tk2 (l := r) (j := j) (y := y) (by simpa using h)
    rw [List.take_succ_cons, List.take_succ_cons, Sm.sizes, Sm.sizes]; omega
theorem Sm.csizes_tk2 : ∀ {l : List (List Sm)} {j : Nat} {y : List Sm}, l[j]? = some y → Sm.csizes (l.take (j + 1)) = Sm.csizes (l.take j) + Sm.sizes y + 1
  | x :: r, 0, y, h => by cases h; show Sm.csizes [x] = 0 + Sm.sizes x + 1; rw [Sm.csizes, Sm.csizes]; omega
  | x :: r, j + 1, y, h => by
    have := Sm.csizes_tk2 (l := r) (j := j) (y := y) (by simpa using h)
    rw [List.take_succ_cons, List.take_succ_cons, Sm.csizes, Sm.csizes]; omega
end
section
variable {p : Pg} {L : List (ByteArray × Ty4)}
theorem fm_stmts (hL : L.length ≤ 1000000000000) (hp : p.fs.length ≤ 1000000000) (hg : p.gs.length ≤ 1000000000) : ∀ (m : Nat), m ≤ 100000000000 → ∀ {l : List Sm}, Sm.sizes l = m → Sm.oks l → ∀ {t : ByteArray} {Q : List Rf}, t.size + 20 + 3000000 * Sm.sizes l ≤ 8000000000000000000 → Q.length + Sm.sizes l ≤ 1000000000000 →
    XM Tryz.prog pk 159 [p0R, xr (l.map smD)] (fmL p L t 0 Q) 2 2 (fun r hp' => ∃ t' : ByteArray, t'.size ≤ t.size + 20 + 3000000 * Sm.sizes l ∧ r = .t [] ∧ hp' = fmL p L t' 1 (Q ++ bB p (L.map (·.1)) l)) := by
  intro m
  induction m using Nat.strongRecOn with
  | _ m ih =>
  intro hm l hs ho t Q ht hQ
  subst hs
  have hlen := Sm.slen_le l
  refine XM.en Tryz.func159 Tryz.ntmps159 (fun w0 own H V v0 hf => ?_)
  refine G9 rfl ?_
  refine Cmc [0, 1] (bc (pk := pk) (k := ((l.map smD).length : Nat)) (by omega) (by rw [List.length_map]; omega) (by omega)) rfl rfl rfl rfl rfl rfl rfl ⟨⟨rfl, rfl⟩, rfl⟩ ?_
  rintro r hp' ⟨t1, h1, rfl, rfl⟩
  refine G9 rfl ?_
  refine Lq [0, 1] (fun (u : Nat × ByteArray × List Rf) r => (4, xi (u.1 : Nat)) :: r) (fun u => fmL p L u.2.1 1 u.2.2) 2 (fun u => u.1 ≤ l.length ∧ u.2.1.size ≤ t.size + 20 + 3000000 * Sm.sizes (l.take u.1) ∧ u.2.2 = Q ++ bB p (L.map (·.1)) (l.take u.1)) (fun u => l.length - u.1) (0, t1, Q) rfl ⟨Nat.zero_le _, by show t1.size ≤ _ + 3000000 * 0; omega, (List.append_nil _).symm⟩ ?_
  rintro ⟨j, T', S⟩ ⟨hj, hT, hS⟩; dsimp only at hj hT hS ⊢
  refine G9 rfl (If rfl (fun h => ?_) (fun h => ?_)); {
  have hjl := of_decide_eq_true h; rw [List.length_map] at hjl
  obtain ⟨y, hy⟩ := ai (l := l) (j := j) (by omega)
  have hmem := List.mem_of_getElem? hy
  have hst := Sm.sizes_tk hy
  have hst2 := Sm.sizes_tk2 hy
  have hSl : S.length ≤ Q.length + Sm.sizes (l.take j) := by
    have h1 := jR (p := p) (loc := L.map (·.1)) (l.take j)
    rw [hS, List.length_append]; omega
  obtain ⟨k, nm, ty, n, es, b, el, cs⟩ := y
  obtain ⟨o1, o2, o3, o4, o5, o6, o7, o8⟩ := Sm.oks_mem ho hmem
  have hsz : (Sm.mk k nm ty n es b el cs).size = ty.size + Ex.sizes es + Sm.sizes b + Sm.sizes el + Sm.csizes cs + 1 := rfl
  have hstep := rl (p := p) (loc := L.map (·.1)) hy
  have hel := Ex.len_le es
  have hcl := Sm.clen_le cs
  have key : ∀ {X : List Sm} {t : ByteArray} {Q : List Rf}, Sm.sizes X < Sm.sizes l → Sm.oks X → t.size + 20 + 3000000 * Sm.sizes X ≤ 8000000000000000000 → Q.length + Sm.sizes X ≤ 1000000000000 →
    XM Tryz.prog pk 159 [p0R, xr (X.map smD)] (fmL p L t 0 Q) 2 2 (fun r hp' => ∃ t' : ByteArray, t'.size ≤ t.size + 20 + 3000000 * Sm.sizes X ∧ r = .t [] ∧ hp' = fmL p L t' 1 (Q ++ bB p (L.map (·.1)) X)) := fun h1 h2 h3 h4 => ih _ h1 (by omega) rfl h2 h3 h4
  have hx : (l.map smD)[j]? = some [.c (.int .i64 k), .c (.string nm), .c (.int .i64 (tk ty)), .c (.string (tnm ty)), .c (.int .i64 (tn ty)), .s (tyS ty), .c (.int .u16 n), .s (es.map exD), .s (b.map smD), .s (el.map smD), .s (cs.map blD)] := by rw [← be]; exact ab hy
  refine G9 rfl (Ix (T := T) j hx rfl rfl rfl rfl ⟨rfl, rfl⟩ rfl rfl ?_)
  refine G (T := T) 100005 rfl ?_
  refine (FzTo.bz 2 rfl).c ?_
  refine G9 rfl (Cmc [0, 1] (bc (pk := pk) (t := T') (n := S.length) (R := S.map rfD) o1.1 o1.2 (by omega)) rfl rfl rfl rfl rfl rfl rfl ⟨⟨rfl, rfl⟩, rfl⟩ ?_)
  rintro r hp' ⟨t2, h2, rfl, rfl⟩
  refine G9 rfl (Cmc [0, 1] (kB (pk := pk) (t := t2) (n := S.length) (R := S.map rfD) o2 (by omega)) rfl rfl rfl rfl rfl rfl rfl ⟨⟨rfl, rfl⟩, rfl⟩ ?_)
  rintro r hp' ⟨t3, h3, rfl, rfl⟩
  refine G9 rfl (Cmc [0, 1] (fm_typ (pk := pk) (p := p) (sc := scD p L) (t := t3) (n := S.length) (R := S.map rfD) ty.size (by omega) (y := ty) (Nat.le_refl _) o3 (by omega)) rfl rfl rfl rfl rfl rfl rfl ⟨⟨rfl, rfl⟩, rfl⟩ ?_)
  rintro r hp' ⟨t4, h4, rfl, rfl⟩
  refine G9 rfl (Cmc [0, 1] (bc (pk := pk) (t := t4) (n := S.length) (R := S.map rfD) o4.1 (by omega) (by omega)) rfl rfl rfl rfl rfl rfl rfl ⟨⟨rfl, rfl⟩, rfl⟩ ?_)
  rintro r hp' ⟨t5, h5, rfl, rfl⟩
  refine G9 rfl ?_
  refine Cmc [0, 1] (bc (pk := pk) (t := t5) (n := S.length) (R := S.map rfD) (k := ((es.map exD).length : Nat)) (by omega) (by rw [List.length_map]; omega) (by omega)) rfl rfl rfl rfl rfl rfl rfl ⟨⟨rfl, rfl⟩, rfl⟩ ?_
  rintro r hp' ⟨t6, h6, rfl, rfl⟩
  refine G9 rfl ?_
  refine Lq [0, 1, 4, 5] (fun (u : Nat × ByteArray × List Rf) r => (6, xi (u.1 : Nat)) :: r) (fun u => fmL p L u.2.1 1 u.2.2) 3 (fun u => u.1 ≤ es.length ∧ u.2.1.size ≤ t6.size + 3000000 * Ex.sizes (es.take u.1) ∧ u.2.2 = S ++ bZ p (L.map (·.1)) (es.take u.1)) (fun u => es.length - u.1) (0, t6, S) rfl ⟨Nat.zero_le _, by show t6.size ≤ _ + 3000000 * 0; omega, (List.append_nil _).symm⟩ ?_
  rintro ⟨i, T2, S2⟩ ⟨hi, hT2, hS2⟩; dsimp only at hi hT2 hS2 ⊢
  refine G9 rfl (If rfl (fun h => ?_) (fun h => ?_)); {
  have hil := of_decide_eq_true h; rw [List.length_map] at hil
  obtain ⟨e, he⟩ := ai (l := es) (j := i) (by omega)
  have hst3 := Ex.sizes_tk he
  have hst4 := Ex.sizes_tk2 he
  have hSl2 : S2.length ≤ S.length + Ex.sizes (es.take i) := by
    have h1 := nB (p := p) (loc := L.map (·.1)) (es.take i)
    rw [hS2, List.length_append]; omega
  refine G9 rfl (Ix (T := T) i (ab (f := exD) he) rfl rfl rfl rfl ⟨rfl, rfl⟩ rfl rfl ?_)
  refine G9 rfl (Cmc [0, 1] (fm_expr (pk := pk) hL hp hg e.size (by omega) (e := e) (Nat.le_refl _) (Ex.oks_mem o5 (List.mem_of_getElem? he)) (t := T2) (Q := S2) (by omega) (by omega)) rfl rfl rfl rfl rfl rfl rfl ⟨⟨rfl, rfl⟩, rfl⟩ ?_)
  rintro r hp' ⟨t7, h7, rfl, rfl⟩
  refine G9 rfl ?_
  exact Nq (i + 1, t7, S2 ++ bZ p (L.map (·.1)) [e]) ⟨by show i + 1 ≤ _; omega, by show t7.size ≤ t6.size + 3000000 * Ex.sizes (es.take (i + 1)); omega, by show _ = _ ++ bZ p _ (es.take (i + 1)); rw [iA he, hS2, List.append_assoc]⟩ (by show _ - (i + 1) < _ - i; omega)}
  have hil := of_decide_eq_false h; rw [List.length_map] at hil
  rw [List.take_of_length_le (by omega)] at hT2 hS2
  have hSl2 : S2.length ≤ S.length + Ex.sizes es := by
    have h1 := nB (p := p) (loc := L.map (·.1)) es
    rw [hS2, List.length_append]; omega
  refine G9 rfl (Cmc [0, 1] (key (X := b) (t := T2) (Q := S2) (by omega) o6 (by omega) (by omega)) rfl rfl rfl rfl rfl rfl rfl ⟨⟨rfl, rfl⟩, rfl⟩ ?_)
  rintro r hp' ⟨t7, h7, rfl, rfl⟩
  obtain ⟨S3, hS3⟩ : ∃ S3, S3 = S2 ++ bB p (L.map (·.1)) b := ⟨_, rfl⟩
  rw [← hS3]
  have hSl3 : S3.length ≤ S2.length + Sm.sizes b := by
    have h1 := jR (p := p) (loc := L.map (·.1)) b
    rw [hS3, List.length_append]; omega
  refine G9 rfl ?_
  refine Cmc [0, 1] (bc (pk := pk) (t := t7) (n := S3.length) (R := S3.map rfD) (k := ((cs.map blD).length : Nat)) (by omega) (by rw [List.length_map]; omega) (by omega)) rfl rfl rfl rfl rfl rfl rfl ⟨⟨rfl, rfl⟩, rfl⟩ ?_
  rintro r hp' ⟨t8, h8, rfl, rfl⟩
  refine G9 rfl ?_
  refine Lq [0, 1, 4, 5] (fun (u : Nat × ByteArray × List Rf) r => (7, xi (u.1 : Nat)) :: r) (fun u => fmL p L u.2.1 1 u.2.2) 3 (fun u => u.1 ≤ cs.length ∧ u.2.1.size ≤ t8.size + 3000000 * Sm.csizes (cs.take u.1) ∧ u.2.2 = S3 ++ dQ p (L.map (·.1)) (cs.take u.1)) (fun u => cs.length - u.1) (0, t8, S3) rfl ⟨Nat.zero_le _, by show t8.size ≤ _ + 3000000 * 0; omega, (List.append_nil _).symm⟩ ?_
  rintro ⟨i, T3, S4⟩ ⟨hi2, hT3, hS4⟩; dsimp only at hi2 hT3 hS4 ⊢
  refine G9 rfl (If rfl (fun h => ?_) (fun h => ?_)); {
  have hil2 := of_decide_eq_true h; rw [List.length_map] at hil2
  obtain ⟨c, hc⟩ := ai (l := cs) (j := i) (by omega)
  have hst3 := Sm.csizes_tk hc
  have hst4 := Sm.csizes_tk2 hc
  have hSl4 : S4.length ≤ S3.length + Sm.csizes (cs.take i) := by
    have h1 := nA (p := p) (loc := L.map (·.1)) (cs.take i)
    rw [hS4, List.length_append]; omega
  refine G9 rfl (Ix (T := T) i (ab (f := blD) hc) rfl rfl rfl rfl ⟨rfl, rfl⟩ rfl rfl ?_)
  refine G9 rfl (Cmc [0, 1] (key (X := c) (t := T3) (Q := S4) (by omega) (Sm.okc_mem o8 (List.mem_of_getElem? hc)) (by omega) (by omega)) rfl rfl rfl rfl rfl rfl rfl ⟨⟨rfl, rfl⟩, rfl⟩ ?_)
  rintro r hp' ⟨t9, h9, rfl, rfl⟩
  refine G9 rfl ?_
  exact Nq (i + 1, t9, S4 ++ bB p (L.map (·.1)) c) ⟨by show i + 1 ≤ _; omega, by show t9.size ≤ t8.size + 3000000 * Sm.csizes (cs.take (i + 1)); omega, by show _ = _ ++ dQ p _ (cs.take (i + 1)); rw [rm hc, hS4, List.append_assoc]⟩ (by show _ - (i + 1) < _ - i; omega)}
  have hil2 := of_decide_eq_false h; rw [List.length_map] at hil2
  rw [List.take_of_length_le (by omega)] at hT3 hS4
  have hSl4 : S4.length ≤ S3.length + Sm.csizes cs := by
    have h1 := nA (p := p) (loc := L.map (·.1)) cs
    rw [hS4, List.length_append]; omega
  refine G9 rfl (Cmc [0, 1] (key (X := el) (t := T3) (Q := S4) (by omega) o7 (by omega) (by omega)) rfl rfl rfl rfl rfl rfl rfl ⟨⟨rfl, rfl⟩, rfl⟩ ?_)
  rintro r hp' ⟨t9, h9, rfl, rfl⟩
  refine G9 rfl ?_
  exact Nq (j + 1, t9, S4 ++ bB p (L.map (·.1)) el) ⟨by show j + 1 ≤ _; omega, by show t9.size ≤ t.size + 20 + 3000000 * Sm.sizes (l.take (j + 1)); omega, by show _ = _ ++ bB p _ (l.take (j + 1)); rw [hstep, hS4, hS3, hS2, hS]; simp only [List.append_assoc]⟩ (by show _ - (j + 1) < _ - j; omega)}; {
  have hjl := of_decide_eq_false h; rw [List.length_map] at hjl
  rw [List.take_of_length_le (by omega)] at hT hS
  refine G9 rfl (Fm (T := T) (fun g => g) (.t []) (fmL p L T' 1 S) ⟨T', by omega, rfl, by rw [hS]⟩ rfl)}
end
end
section
open Go Go.RowKit Go.Proofs K
variable {pk : Pk}
def j8 (f : Fu) : List (ByteArray × Ty4) := f.ps.map fun q => (q.nm, q.ty)
def cF (f : Fu) : List (ByteArray × Ty4) := j8 f ++ aT f.body
abbrev scM (p : Pg) (v : Nat) (l : List (ByteArray × Ty4)) : XH := [⟨2, 0, .cells [.d (.s (p.ts.map tdD)), .d (.s (p.gs.map gbD)), .d (.s (p.fs.map fuD)), .l 3 v 1 0 l.length l.length, .l 4 v 4 0 l.length l.length] 266⟩, ⟨3, v, .row l.length (lnR l) 9 1⟩, ⟨4, v, .row l.length (ltR l) 55 4⟩]
theorem rp {p : Pg} {f : Fu} (hl : f.ps.length ≤ 1000000) (hb : Sm.sizes f.body ≤ 10000000000) : XQ Tryz.prog pk 102 [xd (pgD p), xd (fuD f)] (.a (.c (.d (.p (scD p (cF f)))))) := by
  refine XQ.en Tryz.func102 Tryz.ntmps102 (fun w0 own H V v0 hf => ?_)
  refine G (T := T) 100001 rfl ?_
  refine (FzTo.bz 0 rfl).c ?_
  refine (FzTo.bz 1 rfl).c ?_
  refine G9 rfl ((Nrh 2 3 9 1 rfl rfl rfl rfl rfl).c ?_)
  refine (Nrh 2 4 55 4 rfl rfl rfl rfl rfl).c ?_
  refine Lq [3, 5] (fun (u : Nat × List (ByteArray × Ty4)) r => (6, xi (u.1 : Nat)) :: r) (fun u => scM p 1 u.2) 5 (fun u => u.1 ≤ f.ps.length ∧ u.2 = (j8 f).take u.1) (fun u => f.ps.length - u.1) (0, []) rfl ⟨Nat.zero_le _, rfl⟩ ?_
  rintro ⟨j, S⟩ ⟨hj, hS⟩; dsimp only at hj hS ⊢
  refine G9 rfl (If rfl (fun h => ?_) (fun h => ?_)); {
  have hjl := of_decide_eq_true h; rw [List.length_map] at hjl
  obtain ⟨y, hy⟩ := ai (l := f.ps) (j := j) (by omega)
  have hSl : S.length ≤ 1000000 := by rw [hS, j8, List.length_take, List.length_map]; omega
  refine G9 rfl (Ix (T := T) j (ab (f := paD) hy) rfl rfl rfl rfl ⟨rfl, rfl⟩ rfl rfl ?_)
  refine G9 rfl (Ix (T := T) j (ab (f := paD) hy) rfl rfl rfl rfl ⟨rfl, rfl⟩ rfl rfl ?_)
  refine G9 rfl (Ckz [2, 3, 4] (scM p 2 (S ++ [(y.nm, y.ty)])) (sc_addL (pk := pk) (p := p) (l := S) (s := y.nm) (t := y.ty) (by omega)) rfl rfl rfl rfl rfl rfl rfl ⟨⟨rfl, rfl⟩, rfl⟩ rfl rfl ?_)
  refine G9 rfl ?_
  exact Nq (j + 1, S ++ [(y.nm, y.ty)]) ⟨by show j + 1 ≤ _; omega, by show _ = _; rw [hS, List.take_add_one (i := j), show (j8 f)[j]? = some (y.nm, y.ty) from ab hy]; rfl⟩ (by show _ - (j + 1) < _ - j; omega)}
  have hjl := of_decide_eq_false h; rw [List.length_map] at hjl
  have hpl : (j8 f).length = f.ps.length := List.length_map ..
  rw [List.take_of_length_le (by omega)] at hS
  subst hS
  have hll := gL f.body
  refine G9 rfl (Ckz [2, 3, 4] (scM p 2 (cF f)) (sc_lets (pk := pk) (p := p) (Sm.sizes f.body) (by omega) (l := f.body) (Nat.le_refl _) (q := j8 f) (by omega)) rfl rfl rfl rfl rfl rfl rfl ⟨⟨rfl, rfl⟩, rfl⟩ rfl rfl ?_)
  refine G9 rfl (MS.fz9 3 rfl ?_)
  refine MS.fz9 4 rfl ((FzTo.bz 2 rfl).e ?_)
  exact Fe (T := T) rfl rfl
theorem letsF_fst (l : List Sm) : (aT l).map (·.1) = (am l).filterMap fun
    | .inl s => if smK s = 1 then some (fN s) else none
    | .inr _ => none := by
  unfold aT
  rw [List.map_filterMap]
  refine congrArg (fun g => (am l).filterMap g) (funext fun e => ?_)
  cases e with
  | inl s =>
    show Option.map _ (if smK s = 1 then some (fN s, sty s) else none) = if smK s = 1 then some (fN s) else none
    split <;> rfl
  | inr e => rfl
theorem rq (f : Fu) : (cF f).map (·.1) = al f := by
  unfold cF al j8
  rw [List.map_append, List.map_map, letsF_fst]; rfl
theorem refsF_S (p : Pg) (f : Fu) : aJ p f = bB p (al f) f.body := rfl
abbrev fmV (p : Pg) (f : Fu) (t : ByteArray) : D := .p [.s (p.ts.map tdD), .s (p.gs.map gbD), .s (p.fs.map fuD), .p (scD p (cF f)), .c (.string t), .s ((aJ p f).map rfD)]
abbrev fmM (p : Pg) (L : List (ByteArray × Ty4)) (t : ByteArray) (v : Nat) (Q : List Rf) : XH := [⟨2, 0, .cells [.d (.s (p.ts.map tdD)), .d (.s (p.gs.map gbD)), .d (.s (p.fs.map fuD)), .d (.p (scD p L)), .d (.c (.string t)), .l 3 v 2 0 Q.length Q.length] 124⟩, ⟨3, v, .row Q.length (Q.map rfD) 126 2⟩]
theorem rr {p : Pg} {f : Fu} {B : Nat} (hB : B ≤ 1000000000) (hpl : f.ps.length ≤ 1000) (ho : f.ok B) (hp : p.fs.length ≤ 1000000000) (hg : p.gs.length ≤ 1000000000) : XP Tryz.prog pk 89 [xd (pgD p), xd (fuD f)] (fun r => ∃ t, r = .a (.c (.d (fmV p f t)))) := by
  obtain ⟨o1, o2, o3, o4, o5, o6, o7, o8, o9⟩ := ho
  refine XP.en Tryz.func89 Tryz.ntmps89 (by rintro r ⟨t, rfl⟩; rfl) (fun w0 own H V v0 hf => ?_)
  refine G (T := T) 100001 rfl ?_
  refine (FzTo.bz 0 rfl).c ?_
  refine (FzTo.bz 1 rfl).c ?_
  refine G9 rfl (Cq (rp (pk := pk) (p := p) (f := f) (by omega) (by omega)) rfl rfl rfl rfl rfl ⟨rfl, rfl⟩ ?_)
  refine G9 rfl ?_
  have hLl : (cF f).length ≤ 1000000000000 := by
    have h1 := gL f.body
    unfold cF j8; rw [List.length_append, List.length_map]; omega
  have hfst := rq f
  refine (Nrh 2 5 126 2 rfl rfl rfl rfl rfl).c ?_
  refine Cf [3, 5] (fun (u : ByteArray) r => r) (fun u => fmM p (cF f) u 0 []) 4 (fun u => u.size ≤ 6) rfl ?_ ?_; {
  refine If rfl (fun h => ?_) (fun h => ?_); {
  refine G9 rfl ?_
  exact Dn (⟨#[101, 120, 116, 101, 114, 110]⟩ : ByteArray) (Nat.le_refl _)}; {
  refine G9 rfl ?_
  exact Dn eS (Nat.zero_le _)}}
  rintro t0 h0
  refine G9 rfl ?_
  refine Cmc [2, 3] (bc (pk := pk) (p := p) (sc := scD p (cF f)) (t := t0) (n := 0) (R := []) (k := ((f.ps.map paD).length : Nat)) (by omega) (by rw [List.length_map]; omega) (by omega)) rfl rfl rfl rfl rfl rfl rfl ⟨⟨rfl, rfl⟩, rfl⟩ ?_
  rintro r hp' ⟨t1, h1, rfl, rfl⟩
  refine G9 rfl ?_
  refine Lq [3, 5] (fun (u : Nat × ByteArray) r => (6, xi (u.1 : Nat)) :: r) (fun u => fmM p (cF f) u.2 0 []) 4 (fun u => u.1 ≤ f.ps.length ∧ u.2.size ≤ 26 + 2001000000000000 * u.1) (fun u => f.ps.length - u.1) (0, t1) rfl ⟨Nat.zero_le _, by show t1.size ≤ 26 + 2001000000000000 * 0; omega⟩ ?_
  rintro ⟨j, T'⟩ ⟨hj, hT⟩; dsimp only at hj hT ⊢
  refine G9 rfl (If rfl (fun h => ?_) (fun h => ?_)); {
  have hjl := of_decide_eq_true h; rw [List.length_map] at hjl
  obtain ⟨y, hy⟩ := ai (l := f.ps) (j := j) (by omega)
  obtain ⟨q1, q2, q3⟩ := o3 y (List.mem_of_getElem? hy)
  refine G9 rfl (Ix (T := T) j (ab (f := paD) hy) rfl rfl rfl rfl ⟨rfl, rfl⟩ rfl rfl ?_)
  refine G9 rfl (Cmc [2, 3] (kB (pk := pk) (p := p) (sc := scD p (cF f)) (t := T') (n := 0) (R := []) q1 (by omega)) rfl rfl rfl rfl rfl rfl rfl ⟨⟨rfl, rfl⟩, rfl⟩ ?_)
  rintro r hp' ⟨t2, h2, rfl, rfl⟩
  refine G9 rfl (Ix (T := T) j (ab (f := paD) hy) rfl rfl rfl rfl ⟨rfl, rfl⟩ rfl rfl ?_)
  refine G9 rfl (Cmc [2, 3] (fm_typ (pk := pk) (p := p) (sc := scD p (cF f)) (t := t2) (n := 0) (R := []) y.ty.size (by omega) (y := y.ty) (Nat.le_refl _) q2 (by omega)) rfl rfl rfl rfl rfl rfl rfl ⟨⟨rfl, rfl⟩, rfl⟩ ?_)
  rintro r hp' ⟨t3, h3, rfl, rfl⟩
  refine G9 rfl ?_
  exact Nq (j + 1, t3) ⟨by show j + 1 ≤ _; omega, by show t3.size ≤ 26 + 2001000000000000 * (j + 1); omega⟩ (by show _ - (j + 1) < _ - j; omega)}
  have hjl := of_decide_eq_false h; rw [List.length_map] at hjl
  refine G9 rfl (Cmc [2, 3] (fm_typ (pk := pk) (p := p) (sc := scD p (cF f)) (t := T') (n := 0) (R := []) f.res.size (by omega) (y := f.res) (Nat.le_refl _) o4 (by omega)) rfl rfl rfl rfl rfl rfl rfl ⟨⟨rfl, rfl⟩, rfl⟩ ?_)
  rintro r hp' ⟨t3, h3, rfl, rfl⟩
  refine G9 rfl ?_
  refine Cmc [2, 3] (fm_stmts (pk := pk) (p := p) (L := cF f) hLl hp hg (Sm.sizes f.body) (by omega) (l := f.body) rfl o6 (t := t3) (Q := []) (by omega) (by show 0 + _ ≤ _; omega)) rfl rfl rfl rfl rfl rfl rfl ⟨⟨rfl, rfl⟩, rfl⟩ ?_
  rintro r hp' ⟨t4, h4, rfl, rfl⟩
  rw [List.nil_append, hfst, ← refsF_S]
  refine G9 rfl (MS.fz9 3 rfl ?_)
  refine (FzTo.bz 2 rfl).e ?_
  exact Fp (T := T) (.a (.c (.d (fmV p f t4)))) ⟨t4, rfl⟩ rfl rfl
def FmsR (p : Pg) (k : Nat) (R : List (List D)) : Prop := R.length = k ∧ ∀ i f, i < k → p.fs[i]? = some f → ∃ t, R[i]? = some [fmV p f t]
theorem FmsR.snoc {p : Pg} {k : Nat} {R : List (List D)} {f : Fu} {t : ByteArray} (h : FmsR p k R) (hf : p.fs[k]? = some f) : FmsR p (k + 1) (R ++ [[fmV p f t]]) := by
  obtain ⟨h1, h2⟩ := h
  refine ⟨by rw [List.length_append, h1]; rfl, fun i g hi hg => ?_⟩
  by_cases hik : i < k; {
  obtain ⟨t, ht⟩ := h2 i g hik hg
  exact ⟨t, by rw [List.getElem?_append_left (by omega)]; exact ht⟩}; {
  have : i = k := by omega
  subst this
  rw [hf] at hg; cases hg
  exact ⟨t, by rw [List.getElem?_append_right (by omega), h1, Nat.sub_self]; rfl⟩}
theorem ref_forms {p : Pg} {B : Nat} (hB : B ≤ 1000000000) (hok : p.ok B) (hpl : ∀ f ∈ p.fs, f.ps.length ≤ 1000) : XP Tryz.prog pk 46 [xd (pgD p)] (fun r => ∃ R, r = xr R ∧ FmsR p p.fs.length R) := by
  have hfl := hok.fl
  have hgl := hok.gl
  refine XP.en Tryz.func46 Tryz.ntmps46 (by rintro r ⟨R, rfl, _⟩; rfl) (fun w0 own H V v0 hf => ?_)
  refine G (T := T) 100001 rfl ?_
  refine (FzTo.bz 0 rfl).c ?_
  refine G9 rfl ((Nr 3 120 1 rfl rfl).c ?_)
  refine Lq [1] (fun (u : Nat × List (List D)) r => (3, .a (.c (.l 1 0 1 0 u.1 u.1))) :: (4, xi (u.1 : Nat)) :: r) (fun u => [⟨1, 0, .row u.1 u.2 120 1⟩]) 2 (fun u => u.1 ≤ p.fs.length ∧ FmsR p u.1 u.2) (fun u => p.fs.length - u.1) (0, []) rfl ⟨Nat.zero_le _, rfl, fun i f hi => absurd hi (Nat.not_lt_zero i)⟩ ?_
  rintro ⟨j, R⟩ ⟨hj, hR⟩; dsimp only at hj hR ⊢
  refine G9 rfl (If rfl (fun h => ?_) (fun h => ?_)); {
  have hjl := of_decide_eq_true h; rw [List.length_map] at hjl
  obtain ⟨y, hy⟩ := ai (l := p.fs) (j := j) (by omega)
  have hmem := List.mem_of_getElem? hy
  refine G9 rfl (Ix (T := T) j (ab (f := fuD) hy) rfl rfl rfl rfl ⟨rfl, rfl⟩ rfl rfl ?_)
  refine G9 rfl (Ce (rr (p := p) (f := y) hB (hpl y hmem) (hok.f y hmem) (by omega) (by omega)) rfl rfl rfl rfl rfl ⟨rfl, rfl⟩ ?_)
  rintro _ ⟨t, rfl⟩
  refine G9 rfl ?_
  exact Nq (j + 1, R ++ [[fmV p y t]]) ⟨by show j + 1 ≤ _; omega, hR.snoc hy⟩ (by show _ - (j + 1) < _ - j; omega)}; {
  have hjl := of_decide_eq_false h; rw [List.length_map] at hjl
  refine G9 rfl (MS.fz9 1 rfl ?_)
  have hj9 : j = p.fs.length := by omega
  rw [hj9] at hR
  exact Fp (T := T) (xr R) ⟨R, rfl, hR⟩ rfl rfl}
end
section
open Go Go.RowKit Go.Proofs K
variable {pk : Pk}
def bnD (b : Bool) : List D := [.c (.bool b)]
theorem oM {l : List Bool} {j : Nat} {b z : Bool} (h : l[j]? = some z) : dS (l.map bnD) j 0 [.c (.bool b)] = (l.set j b).map bnD := by
  rw [dS, List.getElem?_map, h, List.map_set]; rfl
theorem oN : ∀ {l : List Bool} {i : Nat}, l[i]? = some false → (l.set i true).count false + 1 = l.count false
  | x :: r, 0, h => by cases h; simp
  | x :: r, i + 1, h => by
    have ih := oN (l := r) (i := i) (by simpa using h)
    rw [List.set_cons_succ, List.count_cons, List.count_cons]; omega
abbrev RcP (p : Pg) (n : Nat) (r : Rf) : Prop := Rch p (fun _ => True) n r
structure ReI (p : Pg) (n0 : Nat) (bf bg : List Bool) (td : List Nat) : Prop where
  lf : bf.length = p.fs.length
  lg : bg.length = p.gs.length
  mf : ∀ i, bf[i]? = some true → RcP p n0 (true, i)
  mg : ∀ i, bg[i]? = some true → RcP p n0 (false, i)
  td : ∀ i ∈ td, i < p.fs.length ∧ RcP p n0 (true, i)
def muR (bf : List Bool) (td : List Nat) : Nat := 2 * bf.count false + td.length
theorem mv {l : List Bool} {n : Nat} {P : Nat → Prop} (h : ∀ i, l[i]? = some true → P i) (hn : P n) : ∀ i, (l.set n true)[i]? = some true → P i := by
  intro i hi
  rw [List.getElem?_set] at hi
  split at hi; {
  rename_i e; subst e; exact hn}; {
  exact h i hi}
theorem oO {α : Type} {l : List α} {n : Nat} (h : n < l.length) : ∃ y, l[n]? = some y := ⟨_, List.getElem?_eq_getElem h⟩
theorem qv {p : Pg} {B : Nat} (hB : B ≤ 1000000000) (hok : p.ok B) (hpl : ∀ f ∈ p.fs, f.ps.length ≤ 1000) : XP Tryz.prog pk 16 [xd (pgD p)] (fun r => ∃ bf bg : List Bool, r = .t [.c (.d (.s (bf.map bnD))), .c (.d (.s (bg.map bnD)))] ∧ bf.length = p.fs.length ∧ bg.length = p.gs.length ∧ (∀ i, bf[i]? = some true → ∃ n0, ak (p.fs.map (·.nm)) ⟨#[109, 97, 105, 110]⟩ = some n0 ∧ RcP p n0 (true, i)) ∧ ∀ i, bg[i]? = some true → ∃ n0, ak (p.fs.map (·.nm)) ⟨#[109, 97, 105, 110]⟩ = some n0 ∧ RcP p n0 (false, i)) := by
  have hfl := hok.fl
  have hgl := hok.gl
  refine XP.en Tryz.func16 Tryz.ntmps16 (by rintro r ⟨bf, bg, rfl, _⟩; rfl) (fun w0 own H V v0 hf => ?_)
  refine G (T := T) 100001 rfl ?_
  refine (FzTo.bz 0 rfl).c ?_
  refine G9 rfl (Ce (ref_forms hB hok hpl) rfl rfl rfl rfl rfl ⟨rfl, rfl⟩ ?_)
  rintro _ ⟨R, rfl, hR⟩
  refine G9 rfl (Mz (T := T) p.fs.length (bnD false) rfl rfl rfl rfl ⟨rfl, rfl⟩ (by rw [List.length_map]) (by omega) (by omega) (fun z hz H => kp rfl rfl z hz H) ?_)
  refine G9 rfl (Mz (T := T) p.gs.length (bnD false) rfl rfl rfl rfl ⟨rfl, rfl⟩ (by rw [List.length_map]) (by omega) (by omega) (fun z hz H => kp rfl rfl z hz H) ?_)
  refine G9 rfl (Cq (qr (pk := pk) (p := p) (by omega) _) rfl rfl rfl rfl rfl ⟨rfl, rfl⟩ ?_)
  refine G9 rfl ?_
  cases hm : ak (p.fs.map (·.nm)) ⟨#[109, 97, 105, 110]⟩ with
  | none =>
    refine IfT rfl rfl ?_
    refine G9 rfl ?_
    refine MS.fze 1 rfl ?_ (by repeat' (first | exact trivial | apply And.intro | rfl | (simp; done)))
    refine MS.fze 2 rfl ?_ (by repeat' (first | exact trivial | apply And.intro | rfl | (simp; done)))
    have e1 : ∀ k, List.replicate k (bnD false) = (List.replicate k false).map bnD := fun k => by rw [List.map_replicate]
    exact Fp (T := T) (.t [.c (.d (.s (List.replicate p.fs.length (bnD false)))), .c (.d (.s (List.replicate p.gs.length (bnD false))))]) ⟨List.replicate p.fs.length false, List.replicate p.gs.length false, by rw [e1, e1], List.length_replicate, List.length_replicate, fun i h => by (rw [List.getElem?_replicate] at h; split at h <;> cases h), fun i h => by (rw [List.getElem?_replicate] at h; split at h <;> cases h)⟩ rfl rfl
  | some n0 =>
  have hn0 := c7 hm; rw [List.length_map] at hn0
  refine IfF rfl (decide_eq_false (by show ¬ ((n0 : Nat) : Int) < 0; omega)) ?_
  refine G9 rfl (Iq (T := T) n0 rfl rfl rfl rfl rfl ⟨rfl, rfl⟩ rfl (by omega) rfl ?_)
  have e1 : ∀ k, List.replicate k (bnD false) = (List.replicate k false).map bnD := fun k => by rw [List.map_replicate]
  rw [e1, e1]
  have hz0 : (List.replicate p.fs.length false)[n0]? = some false := by rw [List.getElem?_replicate, if_pos hn0]
  refine Sr (T := T) (ab (f := bnD) hz0) rfl rfl rfl rfl rfl rfl rfl ⟨rfl, rfl⟩ rfl rfl ?_
  rw [oM hz0]
  refine G (T := T) 32 rfl ?_
  refine Br (T := T) rfl rfl rfl rfl rfl ⟨rfl, rfl⟩ ?_
  refine G9 rfl ?_
  have hI0 : ReI p n0 ((List.replicate p.fs.length false).set n0 true) (List.replicate p.gs.length false) [n0] := by
    refine ⟨by rw [List.length_set, List.length_replicate], List.length_replicate .., mv (P := fun i => RcP p n0 (true, i)) (fun i hi => ?_) .main, fun i hi => ?_, fun i hi => ?_⟩; {
    rw [List.getElem?_replicate] at hi; split at hi <;> cases hi}
    {
    rw [List.getElem?_replicate] at hi; split at hi <;> cases hi}
    {
    rw [List.mem_singleton] at hi; subst hi; exact ⟨hn0, .main⟩}
  have hM0 : muR ((List.replicate p.fs.length false).set n0 true) [n0] ≤ 2 * p.fs.length + 1 := by
    have h1 := oN hz0
    rw [List.count_replicate_self] at h1
    unfold muR; show _ + 1 ≤ _; omega
  refine Lq [4] (fun (u : List Bool × List Bool × List Nat) r => (5, .a (.c (.l 1 0 1 0 p.fs.length p.fs.length))) :: (6, .a (.c (.l 2 0 1 0 p.gs.length p.gs.length))) :: (8, .a (.c (.l 3 1 1 0 u.2.2.length u.2.2.length))) :: r) (fun u => [⟨1, 0, .row p.fs.length (u.1.map bnD) 4 1⟩, ⟨2, 0, .row p.gs.length (u.2.1.map bnD) 4 1⟩, ⟨3, 1, .row u.2.2.length (u.2.2.map ci) 3 1⟩]) 4 (fun u => ReI p n0 u.1 u.2.1 u.2.2 ∧ muR u.1 u.2.2 ≤ 2 * p.fs.length + 1) (fun u => muR u.1 u.2.2) ((List.replicate p.fs.length false).set n0 true, List.replicate p.gs.length false, [n0]) rfl ⟨hI0, hM0⟩ ?_
  rintro ⟨bf, bg, td⟩ ⟨hI, hM⟩; dsimp only at hI hM ⊢
  refine G9 rfl (If rfl (fun h => ?_) (fun h => ?_)); {
  have htl := of_decide_eq_true h
  have htb : td.length ≤ 2 * p.fs.length + 1 := by have h9 := hM; unfold muR at h9; omega
  obtain ⟨k, hk⟩ := oO (l := td) (n := td.length - 1) (by omega)
  obtain ⟨hkl, hkr⟩ := hI.td k (List.mem_of_getElem? hk)
  obtain ⟨f, hf9⟩ := ai (l := p.fs) (j := k) hkl
  obtain ⟨t, ht⟩ := hR.2 k f hkl hf9
  have hrl : (aJ p f).length ≤ B := Nat.le_trans (jR f.body) (hok.f f (List.mem_of_getElem? hf9)).2.2.2.2.2.2.1
  refine G9 rfl (Iq (T := T) (td.length - 1) rfl rfl rfl rfl rfl ⟨rfl, rfl⟩ (by omega) (by omega) rfl ?_)
  refine Lr (T := T) (ab (f := ci) hk) rfl rfl rfl rfl ⟨rfl, rfl⟩ rfl rfl ?_
  refine G9 rfl (Ix (T := T) k ht rfl rfl rfl rfl ⟨rfl, rfl⟩ rfl rfl ?_)
  refine G (T := T) 49 rfl ?_
  refine Po (T := T) (td.length - 1) rfl rfl rfl rfl rfl rfl ⟨rfl, rfl⟩ (by omega) (by omega) rfl rfl ?_
  obtain ⟨td', htd, hl'⟩ : ∃ td', td' = td.take (td.length - 1) ∧ td'.length = td.length - 1 := ⟨_, rfl, by rw [List.length_take]; omega⟩
  rw [← List.map_take, ← htd, ← hl']
  have hI1 : ReI p n0 bf bg td' := ⟨hI.lf, hI.lg, hI.mf, hI.mg, fun i hi => hI.td i (by rw [htd] at hi; exact List.mem_of_mem_take hi)⟩
  have hM1 : muR bf td' + 1 ≤ muR bf td := by unfold muR; omega
  refine G9 rfl (Lq [4, 9] (fun (u : Nat × List Bool × List Bool × List Nat) r => (5, .a (.c (.l 1 0 1 0 p.fs.length p.fs.length))) :: (6, .a (.c (.l 2 0 1 0 p.gs.length p.gs.length))) :: (8, .a (.c (.l 3 1 1 0 u.2.2.2.length u.2.2.2.length))) :: (10, xi (u.1 : Nat)) :: r) (fun u => [⟨1, 0, .row p.fs.length (u.2.1.map bnD) 4 1⟩, ⟨2, 0, .row p.gs.length (u.2.2.1.map bnD) 4 1⟩, ⟨3, 1, .row u.2.2.2.length (u.2.2.2.map ci) 3 1⟩]) 4 (fun u => u.1 ≤ (aJ p f).length ∧ ReI p n0 u.2.1 u.2.2.1 u.2.2.2 ∧ muR u.2.1 u.2.2.2 + 1 ≤ muR bf td) (fun u => (aJ p f).length - u.1) (0, bf, bg, td') rfl ⟨Nat.zero_le _, hI1, hM1⟩ ?_)
  rintro ⟨i, cf, cg, ud⟩ ⟨hi, hJ, hN⟩; dsimp only at hi hJ hN ⊢
  have hub : ud.length ≤ 2 * p.fs.length + 1 := by have h9 := hN; unfold muR at h9 hM; omega
  refine G9 rfl (If rfl (fun h => ?_) (fun h => ?_)); {
  have hil := of_decide_eq_true h; rw [List.length_map] at hil
  obtain ⟨⟨b, n⟩, hq⟩ := ai (l := aJ p f) (j := i) (by omega)
  have hrm := List.mem_of_getElem? hq
  have hrg := cC _ hrm
  have hre : RcP p n0 (b, n) := .ref hkr trivial (by rw [aG, aO hf9]; exact hrm)
  refine G9 rfl (Ix (T := T) i (ab (f := rfD) hq) rfl rfl rfl rfl ⟨rfl, rfl⟩ rfl rfl ?_)
  refine G (T := T) 100016 rfl ?_
  refine (FzTo.bz 4 rfl).c ?_
  cases b with
  | false =>
    have hng : n < p.gs.length := hrg
    obtain ⟨z, hz⟩ := oO (l := cg) (n := n) (by rw [hJ.lg]; exact hng)
    refine G9 rfl (IfT rfl rfl ?_)
    refine G9 rfl (Iq (T := T) n rfl rfl rfl rfl rfl ⟨rfl, rfl⟩ rfl hng rfl ?_)
    refine Sr (T := T) (ab (f := bnD) hz) rfl rfl rfl rfl rfl rfl rfl ⟨rfl, rfl⟩ rfl rfl ?_
    rw [oM hz]
    refine G9 rfl (IfF rfl rfl ?_)
    refine G9 rfl ?_
    exact Nq (i + 1, cf, cg.set n true, ud) ⟨by show i + 1 ≤ _; omega, ⟨hJ.lf, by rw [List.length_set]; exact hJ.lg, hJ.mf, mv (P := fun i => RcP p n0 (false, i)) hJ.mg hre, hJ.td⟩, hN⟩ (by show _ - (i + 1) < _ - i; omega)
  | true =>
    have hng : n < p.fs.length := hrg
    obtain ⟨z, hz⟩ := oO (l := cf) (n := n) (by rw [hJ.lf]; exact hng)
    refine G9 rfl (IfF rfl rfl ?_)
    refine G9 rfl (Iq (T := T) n rfl rfl rfl rfl rfl ⟨rfl, rfl⟩ rfl hng rfl ?_)
    refine Lr (T := T) (ab (f := bnD) hz) rfl rfl rfl rfl ⟨rfl, rfl⟩ rfl rfl ?_
    refine G9 rfl ?_
    cases z with
    | true =>
      refine IfF rfl rfl ?_
      refine G9 rfl ?_
      exact Nq (i + 1, cf, cg, ud) ⟨by show i + 1 ≤ _; omega, hJ, hN⟩ (by show _ - (i + 1) < _ - i; omega)
    | false =>
      refine IfT rfl rfl ?_
      refine G9 rfl (Iq (T := T) n rfl rfl rfl rfl rfl ⟨rfl, rfl⟩ rfl hng rfl ?_)
      refine Sr (T := T) (ab (f := bnD) hz) rfl rfl rfl rfl rfl rfl rfl ⟨rfl, rfl⟩ rfl rfl ?_
      rw [oM hz]
      refine G9 rfl ?_
      have e8 : (ud ++ [n]).length = ud.length + 1 := by rw [List.length_append]; rfl
      have e9 : (ud ++ [n]).map ci = ud.map ci ++ [ci n] := by rw [List.map_append]; rfl
      have hcs := oN hz
      refine Nq (i + 1, cf.set n true, cg, ud ++ [n]) ⟨by show i + 1 ≤ _; omega, ⟨by rw [List.length_set]; exact hJ.lf, hJ.lg, mv (P := fun i => RcP p n0 (true, i)) hJ.mf hre, hJ.mg, fun x hx => ?_⟩, ?_⟩ (by show _ - (i + 1) < _ - i; omega) ?_; {
      rcases List.mem_append.1 hx with hx | hx
      {
      exact hJ.td x hx}; {
      rw [List.mem_singleton] at hx; subst hx; exact ⟨hng, hre⟩}}; {
      have h9 := hN; unfold muR at h9 ⊢; show 2 * (cf.set n true).count false + (ud ++ [n]).length + 1 ≤ _; rw [e8]; omega}; {
      dsimp only; rw [e8, e9]; exact ⟨⟨_, _, rfl, rfl⟩, rfl, rfl⟩}}
  {
  refine G9 rfl ?_
  exact Nq (cf, cg, ud) ⟨hJ, by show muR cf ud ≤ _; omega⟩ (by show muR cf ud < muR bf td; omega)}}; {
  refine G9 rfl ?_
  refine MS.fze 1 rfl ?_ (by repeat' (first | exact trivial | apply And.intro | rfl | (rw [List.length_map]; exact hI.lf.symm)))
  refine MS.fze 2 rfl ?_ (by repeat' (first | exact trivial | apply And.intro | rfl | (rw [List.length_map]; exact hI.lg.symm)))
  refine Fp (T := T) (.t [.c (.d (.s (bf.map bnD))), .c (.d (.s (bg.map bnD)))]) ⟨bf, bg, rfl, hI.lf, hI.lg, fun i h => ⟨n0, rfl, hI.mf i h⟩, fun i h => ⟨n0, rfl, hI.mg i h⟩⟩ rfl rfl}
end
theorem VarP.mn {p x : Pg} {f g : Nat → Nat} (h : Hy p) (hv : VarP p x f g) {n : Nat} (h1 : ak (p.fs.map (·.nm)) jQ = some n) : ak (x.fs.map (·.nm)) jQ = some (f n) := by
  have hn := c7 h1; rw [List.length_map] at hn
  obtain ⟨y, hy⟩ : ∃ y, p.fs[n]? = some y := ⟨_, List.getElem?_eq_getElem hn⟩
  have e : y.nm = jQ := by
    unfold ak at h1
    obtain ⟨q1, q2, _⟩ := List.findIdx?_eq_some_iff_getElem.1 h1
    have q3 : (p.fs.map (·.nm))[n]? = some y.nm := by rw [List.getElem?_map, hy]; rfl
    obtain ⟨_, q4⟩ := List.getElem?_eq_some_iff.1 q3
    rw [← q4]; exact of_decide_eq_true q2
  have e2 := h.xf hv hy
  rw [h.rf hy, e, if_pos (by decide)] at e2
  exact e2
theorem kf {l : List Int} {s : Int} (h1 : ∀ n ∈ l, I64 n) (hs : I64 s) : XQ Tryz.prog pk0 4 [xr (l.map intD), xi s] (xb true) := by
  have hBG : BG = 400000000 := rfl
  refine XQ.en Tryz.func4 Tryz.ntmps4 (fun w0 own H V v0 hf => ?_)
  refine Ln 0 rfl (fun hl => ?_); rw [List.length_map] at hl
  refine G9 rfl (Cq qV rfl rfl rfl rfl rfl ⟨rfl, rfl⟩ ?_)
  refine G9 rfl (Ce (mk_Made h1 hl) rfl rfl rfl rfl rfl ⟨rfl, rfl⟩ ?_)
  rintro _ ⟨p, rfl, hp⟩
  obtain ⟨pok, pfw, pf1, pg1⟩ := hp.few
  have pfl := pfw.f
  have pgl := pfw.g
  have hy := hp.hyl.hy
  have hth := hp.thin
  refine G (T := T) 100003 rfl ?_
  refine (FzTo.bz 0 rfl).c ?_
  refine G9 rfl (Ce (qC pok (by omega) (by omega) (by omega) hs) rfl rfl rfl rfl rfl ⟨rfl, rfl⟩ ?_)
  rintro _ ⟨x, f, g, rfl, hv⟩
  obtain ⟨xok, xfw⟩ := hv.ok pok pfw
  have hco := hv.corr (a := p) (good := fun _ => True) hy rfl rfl rfl (fun _ _ => rfl) (fun _ _ h => absurd trivial h)
  have hon := hv.on (a := p) hy rfl
  refine G (T := T) 100004 rfl ?_
  refine (FzTo.bz 1 rfl).c ?_
  refine G9 rfl (Cq (fj pok xok (by omega) pfw xfw) rfl rfl rfl rfl rfl ⟨rfl, rfl⟩ ?_)
  refine G (T := T) 100005 rfl ?_
  refine (FzTo.bz 2 rfl).c ?_
  refine G9 rfl (Ce (qv (p := p) (B := BG) (by omega) pok (fun u hu => Nat.le_trans (hth u hu) (by decide))) rfl rfl rfl rfl rfl ⟨rfl, rfl⟩ ?_)
  rintro _ ⟨bf, bg, rfl, lf, lg, hrf, hrg⟩
  obtain ⟨ml1, ml2⟩ := mt_few (a := p) (c := x) pfw
  refine G9 rfl (Lq [5, 8, 9, 10, 12, 11] (fun (q : Nat) r => (13, xi (q : Nat)) :: r) (fun _ => []) 3 (fun q => q ≤ bf.length) (fun q => bf.length - q) 0 rfl (Nat.zero_le _) ?_)
  intro i hi
  refine G9 rfl (If rfl (fun h => ?_) (fun h => ?_)); {
  have hil := of_decide_eq_true h; rw [List.length_map] at hil
  obtain ⟨u, hu⟩ := ai (l := bf) (j := i) (by omega)
  refine G9 rfl (Ix (T := T) i (ab (f := bnD) hu) rfl rfl rfl rfl ⟨rfl, rfl⟩ rfl rfl ?_)
  cases u with
  | true =>
    obtain ⟨n0, hn0, hr⟩ := hrf i hu
    have hpt : jh (mtL p x) (i : Nat) (f i : Nat) = true := (ms hco hon hn0 (hv.mn hy hn0)).1 i hr
    refine G9 rfl (Ix (T := T) i (ab (f := ci) (bL (g := f) (by omega))) rfl rfl rfl rfl ⟨rfl, rfl⟩ rfl rfl ?_)
    refine G9 rfl (Cq (j4 ml1 (i : Nat) (f i : Nat)) rfl rfl rfl rfl rfl ⟨rfl, rfl⟩ ?_)
    refine G9 rfl (IfF rfl (congrArg not hpt) ?_)
    refine G9 rfl ?_
    exact Nq (i + 1) (by show i + 1 ≤ _; omega) (by show _ - (i + 1) < _ - i; omega)
  | false =>
    refine G9 rfl (IfF rfl rfl ?_)
    refine G9 rfl ?_
    exact Nq (i + 1) (by show i + 1 ≤ _; omega) (by show _ - (i + 1) < _ - i; omega)}
  refine G9 rfl (Lq [5, 9, 10, 12] (fun (q : Nat) r => (14, xi (q : Nat)) :: r) (fun _ => []) 3 (fun q => q ≤ bg.length) (fun q => bg.length - q) 0 rfl (Nat.zero_le _) ?_)
  intro i hi
  refine G9 rfl (If rfl (fun h => ?_) (fun h => ?_)); {
  have hil := of_decide_eq_true h; rw [List.length_map] at hil
  obtain ⟨u, hu⟩ := ai (l := bg) (j := i) (by omega)
  refine G9 rfl (Ix (T := T) i (ab (f := bnD) hu) rfl rfl rfl rfl ⟨rfl, rfl⟩ rfl rfl ?_)
  cases u with
  | true =>
    obtain ⟨n0, hn0, hr⟩ := hrg i hu
    have hpt : jh (mtG p x) (i : Nat) (g i : Nat) = true := (ms hco hon hn0 (hv.mn hy hn0)).2 i hr
    refine G9 rfl (Ix (T := T) i (ab (f := ci) (bL (g := g) (by omega))) rfl rfl rfl rfl ⟨rfl, rfl⟩ rfl rfl ?_)
    refine G9 rfl (Cq (j4 ml2 (i : Nat) (g i : Nat)) rfl rfl rfl rfl rfl ⟨rfl, rfl⟩ ?_)
    refine G9 rfl (IfF rfl (congrArg not hpt) ?_)
    refine G9 rfl ?_
    exact Nq (i + 1) (by show i + 1 ≤ _; omega) (by show _ - (i + 1) < _ - i; omega)
  | false =>
    refine G9 rfl (IfF rfl rfl ?_)
    refine G9 rfl ?_
    exact Nq (i + 1) (by show i + 1 ≤ _; omega) (by show _ - (i + 1) < _ - i; omega)}
  refine G9 rfl (Fe (T := T) rfl rfl)
end Go.Proofs.YticengaggjcppaaGreat.X
namespace Go.Proofs.YticengaggjcppaaGreat.K
open Go Go.RowKit Go.ChangeShapes Go.WideShapes Go.Deep
def j9 (k : IntKind) (l : List Int) : List D := (l.map (Value.int k)).map D.c
abbrev InK (k : IntKind) (n : Int) : Prop := k.min ≤ n ∧ n ≤ k.max
theorem lit_in {k : IntKind} {n : Int} (h : (Lit.int k n).wf = true) : InK k n := by
  unfold Lit.wf at h
  simp only [Bool.and_eq_true, decide_eq_true_eq] at h
  exact h
theorem inK_i64 {n : Int} (h : InK .i64 n) : -9223372036854775808 ≤ n ∧ n ≤ 9223372036854775807 := by
  have e1 : IntKind.i64.min = -9223372036854775808 := by decide
  have e2 : IntKind.i64.max = 9223372036854775807 := by decide
  obtain ⟨h1, h2⟩ := h
  rw [e1] at h1; rw [e2] at h2
  exact ⟨h1, h2⟩
def allH (W : World) : Hp := fun b => W.heap[b]?
theorem St.all (W : World) : St W (allH W) [] W := ⟨rfl, ⟨rfl, by omega⟩, rfl, fun _ _ h => h, by simp, by simp, by simp⟩
theorem spot_none {W : World} {a : Addr} {v : Value} (h : W.cell? a = some v) : a = ⟨a.block, a.off, none⟩ := by
  obtain ⟨b, o, s⟩ := a
  cases s with
  | none => rfl
  | some s =>
    unfold World.cell? at h
    split at h <;> simp at h
theorem cel_of {W : World} {b o : Nat} {v : Value} (h : W.cell? ⟨b, o, none⟩ = some v) : cel (allH W) b o = some v := by
  unfold World.cell? at h
  unfold cel allH
  split at h; {
  rename_i hb
  rw [hb]
  simpa using h}; {
  cases h}
theorem add_zero' (a : Addr) : a.add 0 = a := by unfold Addr.add; simp
section
variable {P : Program} {H : Type} {enc : TypeId × Value → H} {W : World}
theorem rt {t e : TypeId} {k : IntKind} (ht : P.underlying t = some (.slice e)) (he : P.underlying e = some (.int k)) (hc : P.cellsOf e = 1) {a : Option Addr} {len cap : Nat} {d : DataW H} {ps : List MemPlace}
    (h : DataW.Trod enc P W 0 (fun _ => true) true t (.slice a len cap) d ps) : ∃ l : List Int, (∀ n ∈ l, InK k n) ∧ rd (allH W) (.s 1 (j9 k l)) (.slice a len cap) := by
  obtain ⟨fuel, hf⟩ := h
  have hcs : (Value.slice a len cap).cells.toList = [.slice a len cap] := rfl
  rw [hcs] at hf
  rcases open_ints ht he hc hf with ⟨hcs, _⟩ | ⟨a, len', cap', zs, hcs, _, hl, hm, hz, _, hcell, hwz⟩
  {
  simp only [List.cons.injEq, Value.slice.injEq, and_true] at hcs
  obtain ⟨rfl, rfl, rfl⟩ := hcs
  exact ⟨[], by simp, rd.nil _ _⟩}; {
  simp only [List.cons.injEq, Value.slice.injEq, and_true] at hcs
  obtain ⟨rfl, rfl, rfl⟩ := hcs
  simp only [if_true] at hz
  refine ⟨zs.take len, fun n hn => ?_, ?_⟩; {
  exact lit_in (hwz n (List.mem_of_mem_take hn))}; {
  simp only [rd]
  refine ⟨_, _, _, rfl, by simp [j9]; omega, hl, by simpa [maxLen] using hm, ?_⟩
  by_cases h0 : len = 0; {
  exact .inl h0}; {
  have e := hcell 0 (by omega)
  rw [add_zero'] at e
  have ea := spot_none e
  refine .inr ⟨a.block, a.off, by rw [← ea], rds.mk fun i x hx => ?_⟩
  simp only [j9, List.getElem?_map, List.getElem?_take] at hx
  split at hx; {
  rename_i hlt
  have h1 := hcell i (by omega)
  have h2 : zs[i]? = some zs[i] := List.getElem?_eq_getElem (by omega)
  rw [h2] at hx
  simp only [Option.map_some, Option.some.injEq] at hx
  subst hx
  refine ⟨.int k zs[i], ?_, by simp [rd]⟩
  rw [ea, di] at h1
  rw [List.getD_eq_getElem?_getD, h2] at h1
  exact cel_of h1}; {
  simp at hx}}}}
theorem nC (hl : laidOutB P = true) {W' : World} (hb : ∀ k, k < W.heap.size → W'.heap[k]? = W.heap[k]?) {sp : Nat → Bool} : ∀ {ts : List TypeId} {vs : List Value} {ds : List (DataW H)} {ps : List MemPlace},
    (ts.all fun t => P.readableRec t && decide (t < P.types.size)) = true → DataW.TrodAll enc P W 0 (fun _ => true) true ts vs ds ps → (∀ x ∈ ps, x.block < W.heap.size) → (∀ x ∈ ps, sp x.block = true) → DataW.TrodAll enc P W' 0 sp true ts vs ds ps
  | [], [], [], _, _, h, _, _ => h
  | t :: ts, v :: vs, d :: ds, _, hts, h, hlt, hsp => by
    obtain ⟨p, q, h1, h2, rfl⟩ := h
    simp only [List.all_cons, Bool.and_eq_true, decide_eq_true_eq] at hts
    refine ⟨p, q, WideElems.Trod_stays hl hts.1.1 hts.1.2 h1 (fun x hx => ?_) (fun x hx => hsp x (List.mem_append_left _ hx)), nC hl hb hts.2 h2 (fun x hx => hlt x (List.mem_append_right _ hx)) (fun x hx => hsp x (List.mem_append_right _ hx)), rfl⟩
    have hx' := hlt x (List.mem_append_left _ hx)
    cases x with
    | cell b o => exact World.cell?_of_block (w := W) (hb b hx')
    | map b => exact hb b hx'
theorem law_post {f : Func} {s : ChangeSpec} {apart fresh handsOn again : Bool} {W' : World} {args : Array Value} {ds gs : List (DataW H)} {fJ : List MemPlace} {bt : TypeId} (hl : laidOutB P = true)
    (hW : DataW.Whole enc P f.params.toList s.vars apart W args.toList ds gs fJ) (hvs : s.vars = []) (hfn : s.fn H (ds ++ gs) = { results := [.lit (.bool true)], args := ds }) (hrt : f.resultTypes = #[bt]) (hbt : P.underlying bt = some .bool)
    (hts : (f.params.toList.all fun t => P.readableRec t && decide (t < P.types.size)) = true)
    (hos : W'.os = W.os) (hout : W'.output = W.output) (hb : ∀ k, k < W.heap.size → W'.heap[k]? = W.heap[k]?) : s.post enc P f apart fresh handsOn again W args (.bool true) W' := by
  have hlt := hW.lt
  have hW0 := hW
  obtain ⟨p, q, hA, hV, rfl, hfz, hnd⟩ := hW
  have hq : q = [] := by
    rw [hvs] at hV
    obtain ⟨_, rfl⟩ := trodVars_none hV
    rfl
  subst hq
  have hg : gs = [] := by
    rw [hvs] at hV
    obtain ⟨rfl, _⟩ := trodVars_none hV
    rfl
  subst hg
  simp only [List.append_nil] at hlt hfz hnd hW0
  have hres : ∀ (b : Nat) (sp : Nat → Bool) (hd : Bool), DataW.TrodAll enc P W' b sp hd f.resultTypes.toList ((Value.bool true).resultList f.resultTypes.size) (s.fn H (ds ++ [])).results [] := by
    intro b sp hd
    rw [hfn, hrt]
    exact trodAll_mk1 (shut_bool hbt true)
  have hargs : ∀ sp : Nat → Bool, (∀ x ∈ p, sp x.block = true) → DataW.TrodAll enc P W' 0 sp true f.params.toList args.toList (s.fn H (ds ++ [])).args p := by
    intro sp hsp
    rw [hfn]
    exact nC hl hb hts hA hlt hsp
  have hvars : ∀ sp : Nat → Bool, DataW.TrodVars enc P W' sp s.vars (s.fn H (ds ++ [])).vars [] := by
    intro sp
    rw [hfn, hvs]
    rfl
  have hok : ∀ (j : Nat) (t : TypeId) (r : Value), f.resultTypes[j]? = some t → ((Value.bool true).resultList f.resultTypes.size)[j]? = some r → Value.okWide P W' .any 0 t r := by
    rw [hrt]
    intro j t r hj hr
    match j, hj, hr with
    | 0, hj, hr =>
      simp [Value.resultList] at hj hr
      subst hj; subst hr
      simp [Value.okWide, hbt, Cell.okWide, Cell.ok]
    | j + 1, hj, hr => simp at hj
  have hk : W.keptBut W' (fun x => x ∈ p ∧ (x ∈ ([] : List MemPlace) ∨ x ∈ p ∨ x ∈ ([] : List MemPlace))) := by
    refine ⟨hos, hout, fun i hi => ?_⟩
    rw [hb i hi]
    split <;> simp_all
  have hfz' : W'.noneFrozen p := by
    intro b off hp
    have := hfz b off hp
    rw [← this]
    exact World.frozen?_of_block (w := W) (hb b (hlt _ hp))
  refine ⟨ds, [], p, [], p, [], by simpa using hW0, hres _ _ _, hargs _ (fun x hx => by simpa using hlt x hx), hvars _, hk, fun _ => ⟨hok, _, _, ([] ++ p) ++ [], ⟨[] ++ p, [], trodAll_append (hargs _ (fun _ _ => rfl)) (hres _ _ _), hvars _, rfl, by simpa using hfz', fun ha => by simpa using hnd ha⟩, fun x hx _ => by simpa using hx⟩⟩
end
section
end
end Go.Proofs.YticengaggjcppaaGreat.K
namespace Go.Proofs.YticengaggjcppaaGreat.X
open Go Go.RowKit K
theorem nD {H : Hp} {b : Nat} {k : IntKind} : ∀ {l : List Int} {o : Nat}, K.rds H b o (j9 k l) → rdr H b 1 o (l.map fun n => [.c (.int k n)])
  | [], o, _ => by simp only [List.map_nil, rdr]
  | n :: l, o, h => by
    simp only [j9, List.map_cons, K.rds] at h
    simp only [List.map_cons, rdr, rds]
    obtain ⟨⟨u, h1, h2⟩, h3⟩ := h
    exact ⟨⟨rfl, ⟨u, h1, by simp only [rd]; exact ⟨h2, rfl⟩⟩, trivial⟩, nD (l := l) h3⟩
theorem rd_kints {H : Hp} {k : IntKind} {l : List Int} {v : Value} (h : K.rd H (.s 1 (j9 k l)) v) : rd H (.s (l.map fun n => [.c (.int k n)])) v := by
  simp only [K.rd] at h
  obtain ⟨A, n, c, rfl, h1, h2, h3, h4⟩ := h
  have hn : n = (l.map fun n => [D.c (.int k n)]).length := by simpa [j9] using h1.symm
  simp only [rd]
  refine ⟨A, c, 1, by rw [hn], by rw [← hn]; exact h2, (by simpa [maxLen] using h3), ?_⟩
  rcases h4 with h4 | ⟨b, o, rfl, h4⟩
  {
  exact .inl (List.eq_nil_of_length_eq_zero (by rw [← hn]; exact h4))}; {
  exact .inr ⟨b, o, rfl, nD h4⟩}
end Go.Proofs.YticengaggjcppaaGreat.X
namespace Go.Proofs.YticengaggjcppaaGreat.K
open Go Go.RowKit Go.Proofs Go.ChangeShapes Go.WideShapes Go.Deep
section
variable {P : Program} {H : Type} {enc : TypeId × Value → H} {W : World}
end
section
variable {H : Type} {enc : TypeId × Value → H} {W : World}
end
end Go.Proofs.YticengaggjcppaaGreat.K
namespace Go.Proofs.YticengaggjcppaaGreat.X
open Go Go.RowKit Go.Proofs K
theorem res_true {P : Program} {f : FuncId} {vals : List Value} {w0 : World} {own : List Seg} {H : Hp} (h : K.Fn P f vals w0 H own (fun r o H' => (xb true).rel (fun _ _ => none) H' r ∧ o = own ∧ Le H H')) : K.Fn P f vals w0 H own (fun r o H' => r = .bool true ∧ o = own ∧ Le H H') :=
  h.mono fun r o H' ⟨h1, h2, h3⟩ => ⟨by
    simp only [XV.rel, XA.rel, XC.rel, rd] at h1
    exact h1.1, h2, h3⟩
end Go.Proofs.YticengaggjcppaaGreat.X
namespace Go.Proofs.YticengaggjcppaaGreat.K
open Go Go.RowKit Go.Proofs
theorem ru {l : List Int} {n : Int} (h1 : ∀ n ∈ l, I64 n) (h3 : I64 n) {w0 : World} {H : Hp} {own : List Seg} {v1 : Value} (hA : rd H (.s 1 (j9 .i64 l)) v1) :
    Fn Tryz.prog 4 [v1, .int .i64 n] w0 H own (fun r o H' => r = .bool true ∧ o = own ∧ Le H H') :=
  X.res_true (X.XQ.toFn (X.kf (l := l) (s := n) h1 h3) id trivial ⟨X.rd_kints hA, by simp only [X.XV.rel, X.XA.rel, X.XC.rel, X.rd]; exact ⟨trivial, rfl⟩, trivial⟩)
end Go.Proofs.YticengaggjcppaaGreat.K
namespace Go.Proofs.YticengaggjcppaaGreat
open Go Go.RowKit Go.ChangeShapes Go.WideShapes
namespace Row4
theorem own0 : ownKnob Tryz.prog.godebug = none := by kernel_rfl
theorem laid0 : laidOutB Tryz.prog = true := by kernel_rfl
theorem lifted (os : Os) (started : os.Started) (H : Type) (enc : TypeId × Value → H) :
    ReturnsInHanded {} Tryz.checked os 4 .any (Rows.matchVariedSpec.pre6 enc Tryz.prog Tryz.f4 Rows.matchVariedRow.domain false) (Rows.matchVariedSpec.post enc Tryz.prog Tryz.f4 false true false false) := by
  refine returnsInHanded_of_change (C := Tryz.checked) own0 started (by kernel_rfl) Tryz.func4
    (ChangeSpec.witness6 (enc := enc) (C := Tryz.checked) false ⟨#[], #[.slice none 0 0, .int .i64 0], []⟩ 8 (by kernel_rfl) (by kernel_rfl) (by kernel_rfl) (by kernel_rfl)) ?_
  intro W base args ds gs fJ hval0 hW hcnd _
  have hval : ∀ (j : Nat) t v, Tryz.f4.params[j]? = some t → args[j]? = some v → Value.okWide Tryz.prog W .any base t v := hval0
  have hW' : DataW.Whole enc Tryz.prog Tryz.f4.params.toList Rows.matchVariedSpec.vars false W args.toList ds gs fJ := hW
  obtain ⟨p, q, hA0, hV, rfl, hfz, hnd⟩ := hW
  have hA : DataW.TrodAll enc Tryz.prog W 0 (fun _ => true) true Tryz.f4.params.toList args.toList ds p := hA0
  rw [Tryz.params4] at hA hval
  obtain ⟨v0, v1, d0, d1, p0, p1, rfl, rfl, rfl, h0, h1⟩ := trodAll_two hA
  obtain ⟨rfl, rfl⟩ := trodVars_none hV
  obtain ⟨a0, n0, c0, rfl⟩ := okWide_slice Tryz.underlying22 (hval 0 22 v0 rfl rfl)
  obtain ⟨l0, k0, r0⟩ := K.rt Tryz.underlying22 Tryz.underlying3 (by kernel_rfl) h0
  obtain ⟨l1, rfl, _, _, k1⟩ := open_int Tryz.underlying3 (hval 1 3 v1 rfl rfl) h1
  refine (K.ru (fun n h => K.inK_i64 (k0 n h)) (K.inK_i64 (K.lit_in k1)) r0 W (K.St.all W)).mono fun e W1 hh => ?_
  obtain ⟨v, own1, H1, rfl, ⟨rfl, _, hle⟩, hst⟩ := hh
  exact ⟨_, rfl, K.law_post laid0 hW' rfl rfl rfl Tryz.underlying4 (by kernel_rfl) hst.os hst.output (fun k hk => by
    have e1 : W.heap[k]? = some W.heap[k] := by simp [hk]
    rw [e1]
    exact hst.imm k _ (hle k _ e1))⟩
end Row4
theorem varied_holds : Rows.MatchVariedSaid :=
  OpenClaim.holds_of_wide 4 Tryz.f4 rfl rfl rfl rfl rfl rfl rfl ⟨rfl, rfl, rfl, rfl, rfl⟩ rfl rfl rfl rfl rfl (by kernel_rfl) Tryz.func4 (by kernel_rfl)
    (of_decide_eq_true (by kernel_rfl)) (by unfold Func.isWrapper; first | (rw [if_pos (by decide +kernel)]; kernel_rfl) | (rw [if_neg (by decide +kernel)]; exact ⟨rfl, rfl⟩))
    (fun os started H enc _ => Row4.lifted os started H enc)
end Go.Proofs.YticengaggjcppaaGreat
