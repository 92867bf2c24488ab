/-
  Part 6 of 6 of the proof that MatchAlike returns true for every two lists of numbers and every number, and leaves its arguments as they were.. No condition beyond the given statement.
-/
import Derived.Maps.RangeRun
import Derived.Maps.Range
import Derived.Maps.Own
import Derived.DeepKeys4
import Derived.ProofKit
import Derived.Deep.Slices
import Derived.OpenShut
import Derived.WideKeyArr2
import Derived.Test.YticengaggjcppaaGreatRows
import Derived.Test.YticengaggjcppaaGreatPkA5
set_option linter.unusedVariables false
set_option linter.unusedSimpArgs false
set_option linter.all false
set_option maxRecDepth 100000
set_option maxHeartbeats 8000000
namespace Go.Proofs.YticengaggjcppaaGreat.K
open Go Go.RowKit Go.ChangeMaps Go.MapKept Go.WideMaps
open Go.WideElems (Fit rg rd_val)
open Go.Maps (Keyed fit_look fit_store notKey_iff)
def MapK (P : Program) (k : TypeId) (o : Obj) (n : Nat) (f : Value → Option Value) : Prop :=
  ∃ es clock, o = .map es clock ∧ Fit P k R0 es clock ∧ es.size = n ∧ (∀ x ∈ es.toList, f x.key = some x.val) ∧ ∀ key, f key ≠ none → ∃ x ∈ es.toList, x.key = key
def entries : Obj → List MapEntry
  | .map es _ => es.toList
  | _ => []
def IterK (o : Obj) (b r : Nat) (done : List MapEntry) (seg : Seg) : Prop :=
  ∃ es clock seen, o = .map es clock ∧ seg = [(r, .mapIter (some b) clock seen clock)] ∧ seen.toList = done.map (·.born) ∧ done.Nodup ∧ ∀ x ∈ done, x ∈ entries o
theorem MapK.entries {P : Program} {k : TypeId} {o : Obj} {n : Nat} {f : Value → Option Value} (h : MapK P k o n f) : (K.entries o).length = n ∧ ((K.entries o).map (·.key)).Nodup ∧ (∀ x ∈ K.entries o, f x.key = some x.val) ∧ ∀ key, f key ≠ none → ∃ x ∈ K.entries o, x.key = key := by
  obtain ⟨es, clock, rfl, F, rfl, hf, hg⟩ := h
  exact ⟨by simp [K.entries], F.stamped.2.2, hf, hg⟩
section
variable {P : Program} {w0 : World} {N : Nat} {Q : Exit → Act → World → Prop} {env : Env} {own : List Seg} {H : Hp} {ops : Array Oper} {rest : List Oper}
variable {d : Option Tmp} {ty : TypeId} {pos : String} {af : Array Edge}
theorem TL.rangeK {t k e : TypeId} {x : Operand} {b n : Nat} {o : Obj} {f : Value → Option Value} (hx : ev env x = some (.map (some b))) (hb : H b = some o) [ht : Und P t (.map k e)] (ho : MapK P k o n f) (hd : okD N d = true)
    (h : ∀ r seg, IterK o b r [] seg → TL P w0 N Q ops rest (ak d (.pointer (some ⟨r, 0, none⟩)) env) (seg :: own) H) :
    TL P w0 N Q ops ({ dst := d, op := .range t x, type := ty, pos := pos, after := af, guard := none } :: rest) env own H := by
  obtain ⟨es, clock, rfl, F, rfl, hf, hg⟩ := ho
  refine TL.valE (φ := fun v own' H' => ∃ r, v = .pointer (some ⟨r, 0, none⟩) ∧ own' = [(r, .mapIter (some b) clock #[] clock)] :: own ∧ H' = H) rfl hd
    (fun a w ha hw => ⟨_, _, _, w.alloc (.mapIter (some b) clock #[] clock), ?_, ⟨w.heap.size, rfl, rfl, rfl⟩, hw.new _⟩) ?_
  · have hb' := MapKept.run_getObj_map (P := P) (hw.imm b _ hb)
    have : (Instr.range t (.map (some b))).run P w = .ok (.pointer (some ⟨w.heap.size, 0, none⟩)) (w.alloc (.mapIter (some b) clock #[] clock)) := by
      simp [Instr.range, run_underlying ht.eq, hb', Result.andThen]
    simp [execOp, ha.ev hx, this]
  · rintro v own' H' ⟨r, rfl, rfl, rfl⟩
    exact h r _ ⟨es, clock, #[], rfl, rfl, rfl, List.nodup_nil, by simp⟩
theorem TL.nextK (i : Nat) {k : TypeId} {x : Operand} {b r n : Nat} {o : Obj} {f : Value → Option Value} {done : List MapEntry} {seg : Seg} (hx : ev env x = some (.pointer (some ⟨r, 0, none⟩))) (hi : own[i]? = some seg) (hit : IterK o b r done seg) (hb : H b = some o) (ho : MapK P k o n f) (hd : okD N d = true)
    (hover : (∀ e ∈ entries o, e ∈ done) → TL P w0 N Q ops rest (ak d (.tuple #[.bool false]) env) own H)
    (hnext : ∀ e seg', e ∈ entries o → e ∉ done → IterK o b r (done ++ [e]) seg' → TL P w0 N Q ops rest (ak d (.tuple #[.bool true, e.key, e.val]) env) (own.set i seg') H) :
    TL P w0 N Q ops ({ dst := d, op := .next x false, type := ty, pos := pos, after := af, guard := none } :: rest) env own H := fun a w ha hw => by
  obtain ⟨es, clock, seen, rfl, rfl, hseen, hnd, hsub⟩ := hit
  obtain ⟨es', clock', he, F, _, _, _⟩ := ho
  cases he
  have hr : w.heap[r]? = some (.mapIter (some b) clock seen clock) := hw.own_blk (j := 0) hi rfl
  have hmem : ∀ e ∈ es.toList, (seen.contains e.born = true ↔ e ∈ done) := by
    intro e hes
    constructor
    · intro h
      have h2 : e.born ∈ seen.toList := by simpa using h
      rw [hseen] at h2
      obtain ⟨x', hx', hb'⟩ := List.mem_map.1 h2
      have hx2 := hsub x' hx'
      have hn := F.stamped.2.1
      have : x' = e := by
        obtain ⟨p, hp⟩ := List.getElem?_of_mem hx2
        obtain ⟨q, hq⟩ := List.getElem?_of_mem hes
        have hpl := (List.getElem?_eq_some_iff.1 hp).1
        have e1 : (es.toList.map (·.born))[p]? = some x'.born := by rw [List.getElem?_map]; simp only [entries] at hp; rw [hp]; rfl
        have e2 : (es.toList.map (·.born))[q]? = some e.born := by rw [List.getElem?_map, hq]; rfl
        rw [hb', ← e2] at e1
        have := (List.getElem?_inj (by simpa [entries] using hpl) hn).1 e1
        subst this
        simp only [entries] at hp
        rw [hp] at hq
        exact Option.some.inj hq
      exact this ▸ hx'
    · intro h
      have : e.born ∈ seen.toList := by rw [hseen]; exact List.mem_map.2 ⟨e, h, rfl⟩
      simpa using this
  refine wpList_plain rfl fun K hK => ?_
  unfold Oper.wp
  rcases run_next_at (P := P) w ty r b clock clock seen es clock hr (hw.imm b _ hb) F.stamped.1 (Nat.le_refl _) with ⟨h0, hrun⟩ | ⟨e, he, w1, hw1, hrun⟩
  · have hop : (execOp a.eval { dst := d, op := .next x false, type := ty, pos := pos, after := af, guard := none }).run P w = .ok (.value (.tuple #[.bool false])) w := by simp [execOp, ha.ev hx, hrun]
    rw [hop]
    refine hK _ _ (hover (fun e hes => ?_) _ _ (ha.put hd _) hw)
    rw [← hmem e hes]
    cases hc : seen.contains e.born with
    | true => rfl
    | false =>
      have : e ∈ leftOf es seen := by
        unfold leftOf
        rw [Array.mem_filter]
        exact ⟨by simpa [entries] using hes, by simp only [hc]; rfl⟩
      rw [Array.eq_empty_of_size_eq_zero h0] at this
      simp at this
  · have hop : (execOp a.eval { dst := d, op := .next x false, type := ty, pos := pos, after := af, guard := none }).run P w = .ok (.value (.tuple #[.bool true, e.key, e.val])) (setBlock w1 r (.mapIter (some b) clock (seen.push e.born) clock)) := by simp [execOp, ha.ev hx, hrun]
    rw [hop]
    have he2 : e ∈ es.toList ∧ seen.contains e.born = false := by
      have h1 : e ∈ es ∧ ¬ e.born ∈ seen := by simpa [leftOf] using he
      exact ⟨by simpa using h1.1, by simpa using h1.2⟩
    have hno : e ∉ done := fun h => by rw [← hmem e he2.1, he2.2] at h; cases h
    have hst : St w0 H own w1 := by
      rcases hw1 with rfl | rfl
      · exact hw
      · exact hw.drew
    exact hK _ _ (hnext e [(r, .mapIter (some b) clock (seen.push e.born) clock)] he2.1 hno ⟨es, clock, seen.push e.born, rfl, rfl, by simp [hseen], by
      rw [List.nodup_append]
      exact ⟨hnd, by simp, by intro x' h1 y' h2 h3; simp at h2; subst h2; subst h3; exact hno h1⟩, by
      intro x' h1
      rcases List.mem_append.1 h1 with h1 | h1
      · exact hsub x' h1
      · simp at h1; subst h1; exact he2.1⟩ _ _ (ha.put hd _) (by simpa using hst.setObj (j := 0) hi rfl))
theorem TL.entryK (i : Nat) {k : TypeId} {x : Operand} {b r n : Nat} {o : Obj} {f : Value → Option Value} {done : List MapEntry} {e : MapEntry} {seg : Seg} (hx : ev env x = some (.pointer (some ⟨r, 0, none⟩))) (hi : own[i]? = some seg) (hit : IterK o b r (done ++ [e]) seg) (hb : H b = some o) (ho : MapK P k o n f) (hd : okD N d = true)
    (h : TL P w0 N Q ops rest (ak d (.tuple #[e.key, e.val]) env) own H) :
    TL P w0 N Q ops ({ dst := d, op := .entry x, type := ty, pos := pos, after := af, guard := none } :: rest) env own H := by
  obtain ⟨es, clock, seen, rfl, rfl, hseen, _, hsub⟩ := hit
  obtain ⟨es', clock', he, F, _, _, _⟩ := ho
  cases he
  refine TL.val rfl hd (fun a w ha hw => ⟨w, ?_, hw⟩) h
  have hs : seen = ((done.map (·.born)).toArray).push e.born := by
    have : seen.toList = (((done.map (·.born)).toArray).push e.born).toList := by simp [hseen]
    exact Array.toList_inj.1 this
  have hr : w.heap[r]? = some (.mapIter (some b) clock (((done.map (·.born)).toArray).push e.born) clock) := by rw [← hs]; exact hw.own_blk (j := 0) hi rfl
  have := run_entry_at (P := P) w r b clock _ es clock e hr (hw.imm b _ hb) (hsub e (by simp)) F.stamped.2.1
  simp [execOp, ha.ev hx, this]
end
end Go.Proofs.YticengaggjcppaaGreat.K
namespace Go.Proofs.YticengaggjcppaaGreat.X
open Go Go.RowKit Go.MapKept Go.ChangeMaps Go.Proofs K
def encC (x : aj) : List Value := [.bool x.1.1, .int .i64 (x.1.2 : Nat), .bool x.2.1, .int .i64 (x.2.2 : Nat)]
def i9 (l : List aj) : List Value := l.flatMap encC
theorem lR {a b : Seg} {r : List Seg} : ((b :: a :: r).flatten).Perm ((a :: b :: r).flatten) := by
  simp only [List.flatten_cons, ← List.append_assoc]
  exact List.perm_append_comm.append_right _
theorem ML.mapK {P : Program} {k e : TypeId} {α β : Type} [DecidableEq α] {kv : KV P k α} {vv : β → Value} {l : List (α × β)} {o : Obj} (h : ML kv e vv l o) : ∃ f, MapK P k o l.length f := by
  obtain ⟨_, h2, f, ⟨es, clock, rfl, F, hn, hf, hg⟩, h4, h5⟩ := h
  refine ⟨f, es, clock, rfl, F, hn, hf, fun key hk => ?_⟩
  obtain ⟨a, rfl⟩ := h5 key hk
  have : lkL l a ≠ none := fun e => hk (by rw [h4, e]; rfl)
  obtain ⟨b, hb⟩ := Option.ne_none_iff_exists'.1 this
  obtain ⟨kl, hkl⟩ := kv.key a (h2 _ (cd hb))
  exact hg _ kl hkl hk
theorem m5 (o : Obj) : K.entries o = X.entries o := by cases o <;> rfl
theorem zrC : K.Zr Tryz.prog 177 #[.bool false, .int .i64 0, .bool false, .int .i64 0] := ⟨_, _, (show Tryz.prog.info? 177 = some Tryz.t177 from by kernel_rfl), rfl, rfl⟩
theorem ph {gf : FuncId} [Callable Tryz.prog gf] {lb : List Value} {S : List aj → Prop} {w0 : World} {H : Hp} {own : List Seg} (hit : gT Tryz.prog gf lb (fun k : aj => [r2V k]) S (fun ks => ks.length ≤ 4000000000000) w0 H) :
    K.Fn Tryz.prog 188 [.slice none 0 0, .func (.func gf) #[] lb.toArray] w0 H own (fun r own' H' => ∃ ks seg, S ks ∧ Row 177 4 r ks.length (i9 ks) seg ∧ own' = seg :: own ∧ Le H H') := by
  obtain ⟨z, hS⟩ := bg (BT.all_get T.ok (show T.bt.get 175 = some (.sl 177 4 32) from rfl))
  haveI := hS
  haveI : Und Tryz.prog 175 (.slice 177) := ⟨hS.und⟩
  haveI : Ty Tryz.prog 175 false 1 := bW (BT.all_get T.ok (show T.bt.get 175 = some (.sl 177 4 32) from rfl))
  haveI : Ty Tryz.prog 177 true 4 := bW (BT.all_get T.ok (i := 177) rfl)
  haveI := zrC
  refine Fn.enterX Tryz.func188 rfl Tryz.ntmps188 rfl ?_
  refine TCX.seq ?_; refine TCX.region ?_
  refine TLX.step rfl (TL.box (c := #[_]) rfl rfl rfl (fun g2 => Qc (TQX.go ?_)))
  refine TLX.step rfl (TL.assign rfl rfl (Qc (TQX.go ?_)))
  refine TLX.nil ?_; refine TQX.then_n ?_
  refine TCX.seq ?_; refine TCX.seq ?_; refine TCX.region ?_
  refine TLX.step rfl (TL.move rfl rfl (Qc (TQX.go ?_)))
  refine TLX.nil ?_; refine TQX.then_n ?_
  refine TCX.block ?_
  refine TCX.flat (own' := [] :: [(g2, .cells #[.slice none 0 0] 175 (0, 0))] :: own) (.refl _) ?_
  refine TCX.rangeFunc rfl hit (fun _ => rfl) rfl
    (fun pre own1 _ => ∃ u seg, Row 177 4 u pre.length (i9 pre) seg ∧ own1 = seg :: [(g2, .cells #[u] 175 (0, 0))] :: own) (fun _ _ _ _ => False) ?_ ?_ ?_ ?_
  {
  exact ⟨_, _, Row.nil _ 4, rfl⟩}; {
  rintro l D fn tmps mine pre k own1 H1 QB Kb hle1 ⟨u, seg, hrow, rfl⟩ hSp hRE hbody
  rw [List.length_append] at hSp
  simp only [List.length_cons, List.length_nil] at hSp
  refine TCX.region ?_
  refine TLX.step rfl (TL.new rfl (fun g5 => Qc (TQX.go ?_)))
  refine TLX.step rfl (TL.storeA 0 0 (c' := #[_, _, _, _]) (own' := [(_, .cells #[_, _, _, _] _ _)] :: _) rfl rfl rfl rfl rfl ⟨rfl, rfl, rfl, rfl, trivial⟩ (Nat.le_refl 4) rfl rfl rfl (Qc (TQX.go ?_)))
  refine TLX.nil ?_
  refine TQX.flat lR ?_
  refine hbody _ _ _ ?_
  refine TCX.block ?_; refine TCX.region ?_
  refine TLX.step rfl (TL.load_own 3 0 rfl rfl rfl rfl rfl (Qc (TQX.go ?_)))
  refine TLX.step rfl (TL.load_ownA 1 0 [_, _, _, _] rfl rfl rfl ⟨rfl, rfl, rfl, rfl, trivial⟩ rfl rfl (Qc (TQX.go ?_)))
  refine TLX.step rfl (TL.litF (r := [_, _, _, _]) [(0, [_, _, _, _])] ⟨rfl, ⟨_, rfl, rfl⟩, trivial⟩ rfl rfl rfl rfl (fun g10 => Qc (TQX.go ?_)))
  refine TLX.step rfl (TL.append 3 rfl rfl rfl hrow (Src.ofOwn 0 0 rfl rfl rfl (Ones.all (show Ones [_, _, _, _] from ⟨by rfl, by rfl, by rfl, by rfl, trivial⟩)) ⟨rfl, rfl, rfl, rfl, trivial⟩) (by omega) (by omega) rfl (fun v' seg' hrow' => Qc (TQX.go ?_)))
  refine TLX.step rfl (TL.store1 4 0 (c' := #[_]) (own' := _ :: _ :: _ :: _ :: [(_, .cells #[_] _ _)] :: _) rfl rfl rfl rfl hrow'.one (by simp) rfl rfl rfl (Qc (TQX.go ?_)))
  refine TLX.nil ?_
  refine TQX.in_n ?_
  refine TQX.ofQ ?_
  refine TQ.sel 5 [1, 3, 4] rfl (fun o ho => ?_)
  simp only [K.sel, nrm] at ho; subst ho
  intro a w ha hw
  refine hRE.n a w (_ :: _ :: own) _ ⟨Le.refl _, _, _, ?_, rfl⟩ hw
  rw [show i9 (pre ++ [k]) = i9 pre ++ encC k by simp [i9], List.length_append]
  exact hrow'}; {
  rintro l D r xs own1 H1 hle1 hS ⟨u, seg, hrow, rfl⟩
  refine TQX.in_n ?_
  refine TQX.then_n ?_
  refine TCX.seq ?_; refine TCX.region ?_
  refine TLX.step rfl (TL.load_own 2 0 rfl rfl rfl rfl rfl (Qc (TQX.go ?_)))
  refine TLX.step rfl (TL.assign rfl rfl (Qc (TQX.go ?_)))
  refine TLX.nil ?_; refine TQX.then_n ?_
  refine TCX.ret ?_
  refine TQX.flat (own' := aw l D r :: [(g2, .cells #[u] 175 (0, 0))] :: seg :: own) ?_ ?_; {
  exact List.Perm.append_left _ lR}
  exact TQX.ret1 1 rfl rfl rfl ⟨xs, seg, hS, hrow, rfl, hle1⟩}; {
  rintro l D r c pre own1 H1 _ _ hf
  exact hf.elim}
theorem keys_iter {l : List (aj × Unit)} {w0 : World} {HO : Hp} {ga gz go : Nat} {o : Obj} (hn : l.length ≤ 4000000000000) (h1 : cel HO ga gz = some (.map (some go))) (h3 : HO go = some o) (hm : ML kvC 4 cG l o) : gT Tryz.prog 189 [.pointer (some ⟨ga, gz, none⟩)] (fun k : aj => [r2V k]) (fun ks => ks.Perm (l.map (·.1))) (fun ks => ks.length ≤ 4000000000000) w0 HO := by
  intro L J Jx own H hle0' hy hJ0
  replace h1 := em hle0' h1
  replace h3 := hle0' _ _ h3
  obtain ⟨f, h4⟩ := hm.mapK
  have hen := h4.entries.1
  obtain ⟨he1, _⟩ := hm.ent
  haveI : Und Tryz.prog 226 (.map 177 4) := Und.mk (kS (BT.all_get T.ok (show T.bt.get 226 = some (.m 177 4) from rfl)))
  haveI : Ty Tryz.prog 226 false 1 := bW (BT.all_get T.ok (show T.bt.get 226 = some (.m 177 4) from rfl))
  haveI : Ty Tryz.prog 177 true 4 := bW (BT.all_get T.ok (i := 177) rfl)
  haveI := zrC
  refine Fn.enter Tryz.func189 rfl Tryz.ntmps189 rfl ?_; have hL := Le.refl H; refine TC.seq ?_; refine TC.region ?_; refine TL.load_imm rfl (h1) rfl ?_
  refine TL.rangeK rfl h3 h4 rfl ?_; intro r it hit; refine Qc ?_; refine Qd ?_; refine TC.block ?_
  refine TC.loop (fun n env' own' H' => ∃ (done : List MapEntry) (d : List (aj × Unit)) (it : Seg) (own1 : List Seg), n = (K.entries o).length - done.length ∧ IterK o go r done it ∧ (Came kvC cG done d ∧ (d.map (·.1)).Nodup ∧ ∀ p ∈ d, p ∈ l) ∧ J (d.map (·.1)) own1 H' ∧ env' = [(0, .func (.yield L) #[] #[]), (1, .pointer (some ⟨ga, gz, none⟩)), (5, .pointer (some ⟨r, 0, none⟩))] ∧ own' = it :: own1 ∧ Le H H') (K.entries o).length [(0, _), (1, _), (5, _)] ⟨rfl, rfl, rfl, trivial⟩ ⟨[], [], it, _, by simp, hit, ⟨Came.nil, List.nodup_nil, by simp⟩, hJ0, rfl, rfl, Le.refl _⟩ ?_
  rintro n _ _ H1 ⟨done, d, it, own1, rfl, hit, ⟨hc1, hc2, hc3⟩, hJ, rfl, rfl, hle0⟩
  have hit' := hit
  obtain ⟨es, clock, seen, _, _, _, hdn, hds⟩ := hit'
  have hL := Le.trans hL hle0; have h3 := hle0 _ _ h3; refine TC.seq ?_; refine TC.region ?_
  refine TL.nextK 0 rfl rfl hit h3 h4 rfl (fun bU => ?_) (fun e it2 he hno hit2 => ?_); {
  refine TL.extract rfl rfl rfl ?_; refine Qc ?_; refine Qd ?_; refine TC.seq ?_; refine TC.cond_f rfl ?_; refine TC.exit ?_; refine TQ.then_e ?_; refine TQ.then_e ?_; refine TQ.in_e ?_; refine TQ.end0 1 rfl ?_
  exact ⟨hL, .inl ⟨_, (hc1.all hm hc2 hc3 (by rw [← m5]; exact bU)).map _, hJ⟩⟩}; {
  have hit3 := hit2
  obtain ⟨_, _, _, _, _, _, hd2, hs2⟩ := hit3
  obtain ⟨p, hp, ek, ev⟩ := he1 e (by rw [← m5]; exact he)
  have hnew := Came.new hm hc1 (by rw [← m5]; exact hds) (by rw [← m5]; exact he) hno ek
  have hc1' := hc1.snoc ek ev
  have hc2' : ((d ++ [p]).map (·.1)).Nodup := by
    rw [List.map_append, List.nodup_append]
    exact ⟨hc2, by simp, fun x hx y hy e => by rw [List.map_cons, List.map_nil, List.mem_singleton] at hy; exact hnew (hy ▸ e ▸ hx)⟩
  have hc3' : ∀ x ∈ d ++ [p], x ∈ l := fun x hx => by
    rcases List.mem_append.1 hx with hx | hx
    {
    exact hc3 x hx}; {
    rw [List.mem_singleton.1 hx]; exact hp}
  have hdl : (d ++ [p]).length ≤ l.length := j0 (List.Pairwise.of_map (S := (· ≠ ·)) (·.1) (fun a b h e => h (e ▸ rfl)) hc2') hc3'
  have hdl2 := j0 hd2 hs2
  refine TL.extract rfl rfl rfl ?_; refine Qc ?_; refine Qd ?_; refine TC.seq ?_; refine TC.cond_t rfl ?_; refine TC.skip ?_; refine Qd ?_; refine TC.block ?_; refine TC.seq ?_; refine TC.region ?_; refine TL.entryK 0 rfl rfl hit2 h3 h4 rfl ?_
  rw [ek]
  refine TL.extract rfl rfl rfl ?_
  refine TL.new rfl ?_; intro g3; refine TL.storeA 0 0 (c' := #[_, _, _, _]) (own' := [(_, .cells #[_, _, _, _] _ _)] :: _) rfl rfl rfl rfl rfl ⟨rfl, rfl, rfl, rfl, trivial⟩ (by simp) rfl rfl rfl ?_; refine Qc ?_; refine Qd ?_; refine TC.seq ?_; refine TC.ofX ?_; refine TCX.region ?_
  refine TLX.step rfl (TL.move rfl rfl (Qc (TQX.go ?_)))
  refine TLX.step rfl (TL.load_ownA 0 0 [_, _, _, _] rfl rfl rfl ⟨rfl, rfl, rfl, rfl, trivial⟩ rfl rfl (Qc (TQX.go ?_)))
  refine TLX.yield (xs := [_]) (vs := [r2V p.1]) [_, _] own1 rfl ⟨rfl, trivial⟩ rfl (hy (d.map (·.1)) p.1 own1 _ hL hJ (by show (d.map (·.1) ++ [p.1]).length ≤ 4000000000000; rw [List.length_append, List.length_map]; rw [List.length_append] at hdl; simp only [List.length_cons, List.length_nil] at hdl ⊢; omega)) rfl ?_
  rintro _ own2 H2 ⟨hle2, ⟨rfl, hJ2⟩ | ⟨rfl, hJ2⟩⟩; {
  refine TLX.step rfl (TL.not rfl rfl (Qc (TQX.go ?_)))
  refine TLX.nil ?_; refine TQX.ofQ ?_; have hL := Le.trans hL hle2; have h3 := hle2 _ _ h3; have hle0 := Le.trans hle0 hle2; refine Qd ?_; refine TC.cond_f rfl ?_; refine TC.skip ?_; refine TQ.in_n ?_
  refine TQ.sel 2 [1] rfl (fun o ho => ?_)
  simp only [K.sel, nrm] at ho; subst ho
  refine TQ.next ((K.entries ‹Obj›).length - (done ++ [e]).length) [(0, _), (1, _), (5, _)] (by simp only [List.length_append, List.length_cons, List.length_nil] at hdl2 ⊢; omega) ⟨rfl, rfl, rfl, trivial⟩ ⟨done ++ [e], d ++ [p], _, _, rfl, hit2, ⟨hc1', hc2', hc3'⟩, by rw [List.map_append]; exact hJ2, rfl, rfl, hle0⟩}; {
  refine TLX.step rfl (TL.not rfl rfl (Qc (TQX.go ?_)))
  refine TLX.nil ?_; refine TQX.ofQ ?_; have hL := Le.trans hL hle2; have h3 := hle2 _ _ h3; refine Qd ?_; refine TC.cond_t rfl ?_; refine TC.ret ?_; refine TQ.in_r ?_; refine TQ.then_r ?_; refine TQ.in_r ?_; refine TQ.ret0 2 rfl ?_
  exact ⟨hL, .inr ⟨_, by show (d.map (·.1) ++ [p.1]).length ≤ 4000000000000; rw [List.length_append, List.length_map]; rw [List.length_append] at hdl; simp only [List.length_cons, List.length_nil] at hdl ⊢; omega, hJ2⟩⟩}}
theorem m6 {w0 : World} {H : Hp} {own : List Seg} {gf : FuncId} [Callable Tryz.prog gf] {lb : List Value} {S : List aj → Prop} (hit : gT Tryz.prog gf lb (fun k : aj => [r2V k]) S (fun ks => ks.length ≤ 4000000000000) w0 H) :
    K.Fn Tryz.prog 129 [.func (.func gf) #[] lb.toArray] w0 H own (fun r own' H' => ∃ ks seg, S ks ∧ Row 177 4 r ks.length (i9 ks) seg ∧ own' = seg :: own ∧ Le H H') := by
  haveI : Callable Tryz.prog 188 := Callable.of Tryz.func188 rfl rfl
  refine Fn.enter Tryz.func129 rfl Tryz.ntmps129 rfl ?_; have hL := Le.refl H; refine TC.seq ?_; refine TC.region ?_; refine TL.assign rfl rfl ?_; refine Qc ?_; refine Qd ?_; refine TC.seq ?_; refine TC.region ?_; refine TL.move rfl rfl ?_; refine TL.call (ph hit) ⟨rfl, rfl, trivial⟩ rfl ?_
  rintro r4 _ H4 ⟨ks, seg, hS, hrow, rfl, hle4⟩
  have hL := Le.trans hL hle4; refine TL.assign rfl rfl ?_; refine Qc ?_; refine Qd ?_; refine TC.ret ?_; refine TQ.ret1 0 rfl rfl ?_
  exact ⟨_, _, hS, hrow, rfl, hL⟩
theorem encs_rd {H : Hp} : ∀ l : List aj, rdL H (l.map cdD).flatten (i9 l)
  | [] => trivial
  | x :: r => by
    rw [List.map_cons, List.flatten_cons]
    exact rdL.append (show rdL H (cdD x) (encC x) from ⟨⟨rfl, rfl⟩, ⟨rfl, rfl⟩, ⟨rfl, rfl⟩, ⟨rfl, rfl⟩, trivial⟩) (encs_rd r)
theorem col_c : ColC := by
  intro l hl
  refine ⟨rfl, ?_, Callable.of Tryz.func129 rfl rfl, ?_⟩
  · rintro r ⟨d, _, rfl⟩; rfl
  rintro ⟨w0, own, H, V, nx0, F, pk', v0, hF⟩ rfl rfl rfl sg vals ha hr ht w hw
  obtain rfl := HR0 hr
  match vals, ha with
  | [v], ⟨h1, _⟩ =>
    simp only [XV.rel, XA.rel, XC.rel, rd] at h1
    obtain ⟨us, ws, rfl, h2, h3⟩ := h1
    have hus : us = #[] := by
      cases us with | mk q => cases q with | nil => rfl | cons => exact h2.elim
    subst hus
    obtain ⟨wl⟩ := ws
    match wl, h3 with
    | [u], ⟨h4, _⟩ =>
      simp only [rd] at h4
      obtain ⟨b, o, rfl, h5⟩ := h4
      obtain ⟨⟨q, h6, h7⟩, _⟩ := h5
      simp only [rd] at h7
      obtain ⟨bo, ob, rfl, h8, h9⟩ := h7
      haveI : Callable Tryz.prog 189 := Callable.of Tryz.func189 rfl rfl
      have hw' : St w0 H own w := hw.flat (List.Perm.refl _)
      refine Calls.mono (m6 (own := own) (keys_iter hl h6 h8 h9) w hw') ?_
      rintro e w' ⟨v, own', H', rfl, ⟨ks, seg, hp, hrow, rfl, hle⟩, hw2⟩
      obtain ⟨f1, f2, f3⟩ := hw2.freeze
      refine .inl ⟨v, xr (ks.map cdD), [], V, addH H' seg, [], rfl, ⟨⟨ks, hp, rfl⟩, rfl⟩, ?_, rfl, (by intro b hb; simp at hb), List.nodup_nil, (fun b hb => by simp at hb), VLe.refl _, fun g t hg => ?_, fun g t h1 h2 => absurd h1 h2, hle.trans f2, f1.flat (List.Perm.refl _)⟩
      · simp only [XV.rel, XA.rel, XC.rel, rd]
        rcases hrow.2 with ⟨rfl, h0, _⟩ | ⟨g, cap, cur, rfl, rfl, c1, c2, c3, c4⟩
        · have : ks = [] := List.length_eq_zero_iff.1 h0
          subst this
          exact ⟨none, 0, 4, rfl, Nat.le_refl _, by simp [maxLen], .inl rfl⟩
        · refine ⟨some ⟨g, 0, none⟩, cap, 4, by rw [List.length_map], by rw [List.length_map]; exact c1, c2, .inr ⟨g, 0, rfl, ?_⟩⟩
          have hb := f3 _ (List.mem_singleton.2 rfl)
          have hat := mM (us := i9 ks) (j := cur.toList.drop (ks.length * 4)) (e := 177) (by rw [← c4, List.take_append_drop]; exact hb) 0
          rw [List.drop_zero] at hat
          exact rdr.of hat (encs_rd ks) (fun r hr => by obtain ⟨x, _, rfl⟩ := List.mem_map.1 hr; rfl)
      · cases hv : V g t with
        | none => rfl
        | some i =>
          have := (v0 g t (by show V g t ≠ none; rw [hv]; simp)).2
          cases this
theorem ref_Match {a c : Pg} {B : Nat} (ha : a.ok B) (hc : c.ok B) (hB : B ≤ 1000000000) (fa : Fw a) (fc : Fw c) : XQ Tryz.prog pk0 15 [xd (pgD a), xd (pgD c)] (.a (.a [.d (.s ((bO a c).1.map (prD a c))), .d (.s ((bO a c).2.map prG))])) := match_of col_c ha hc hB fa fc ini_ok
section
open Go Go.RowKit Go.Proofs K
def mtL (a c : Pg) : List Pq := (bO a c).1.map fun p => (p.a, p.b, am a c p.a p.b, p.why)
def mtG (a c : Pg) : List Pq := (bO a c).2.map fun p => (p.a, p.b, 1000, 5)
theorem gu {a c : Pg} {B : Nat} (ha : a.ok B) (hc : c.ok B) (hB : B ≤ 1000000000) (fa : Fw a) (fc : Fw c) : XQ Tryz.prog pk0 15 [xd (pgD a), xd (pgD c)] (.a (.a [.d (.s ((mtL a c).map pqD)), .d (.s ((mtG a c).map pqD))])) := by
  have h := ref_Match ha hc hB fa fc
  rw [mtL, mtG, List.map_map, List.map_map]
  exact h
variable {pk : Pk}
def hasF (l : List Pq) (a b w : Int) : Bool := match l.find? fun q => decide ((q.1 : Int) = a) && decide ((q.2.1 : Int) = b) with
  | some q => decide (q.2.2.2 = w)
  | none => false
theorem ig {l : List Pq} (hl : l.length ≤ 1000000000) (a b w : Int) : XQ Tryz.prog pk 30 [xr (l.map pqD), xi a, xi b, xi w] (xb (hasF l a b w)) := by
  refine XQ.en Tryz.func30 Tryz.ntmps30 (fun w0 own H V v0 hf => ?_)
  refine G (T := T) 1000 rfl ?_
  refine Lq [0, 1, 2, 3] (fun q r => (8, xb false) :: (9, xi (q : Nat)) :: r) (fun q => []) 0 (fun q => q ≤ l.length ∧ ∀ x ∈ l.take q, (decide ((x.1 : Int) = a) && decide ((x.2.1 : Int) = b)) = false) (fun q => l.length - q) 0 rfl ⟨Nat.zero_le _, fun x hx => by cases hx⟩ ?_
  rintro j ⟨hj, hI⟩
  refine G (T := T) 1000 rfl ?_
  refine If rfl (fun h => ?_) (fun h => ?_)
  · have hjl := of_decide_eq_true h; rw [List.length_map] at hjl
    obtain ⟨y, hy⟩ := ai (l := l) (j := j) (by omega)
    refine G (T := T) 1000 rfl ?_
    refine Ix (T := T) j (ae (f := pqD) hy) rfl rfl rfl rfl ⟨rfl, rfl⟩ rfl rfl ?_
    refine Gs (T := T) 1000 rfl ?_
    refine Is (T := T) j (pqD y) (fun _ => ⟨ae (f := pqD) hy, rfl⟩) rfl rfl rfl rfl rfl rfl rfl rfl ?_
    refine Gs (T := T) 1000 rfl ?_
    refine If rfl (fun h => ?_) (fun h => ?_)
    · refine G (T := T) 1000 rfl ?_
      refine Ix (T := T) j (ae (f := pqD) hy) rfl rfl rfl rfl ⟨rfl, rfl⟩ rfl rfl ?_
      refine G (T := T) 1000 rfl ?_
      exact Fe (T := T) rfl (congrArg xb (by rw [hasF, find_at hI hy h]))
    · refine G (T := T) 1000 rfl ?_
      exact Nq (j + 1) ⟨by omega, iE hI hy h⟩ (by show _ - (j + 1) < _ - j; omega)
  · have hjl := of_decide_eq_false h; rw [List.length_map] at hjl
    refine G (T := T) 1000 rfl ?_
    rw [List.take_of_length_le (by omega)] at hI
    exact Fe (T := T) rfl (congrArg xb (by rw [hasF, List.find?_eq_none.2 (fun x hx => by rw [hI x hx]; simp)]))
theorem cm {nm : ByteArray} {b : List Sm} (h1 : nm.size ≤ 4) (h2 : Sm.oks b) (h3 : Sm.sizes b ≤ 100) : (fnV nm b).ok 100 :=
  ⟨by show nm.size ≤ _; omega, by show 0 ≤ 100; decide, fun x h => (by cases h), ⟨⟨by omega, by omega⟩, by decide, ⟨by omega, by omega⟩, trivial⟩, by show (Ty4.mk 7 eS 0 []).size ≤ 100; decide, h2, h3, (show I64 0 from ⟨by omega, by omega⟩), (show (0 : Int) ≤ 0 ∧ (0 : Int) ≤ 65535 by omega)⟩
theorem d7 : outS.ok := ⟨⟨by omega, by omega⟩, by decide, bH, ⟨by omega, by omega⟩, ⟨⟨⟨by omega, by omega⟩, by decide, ⟨by omega, by omega⟩, trivial⟩, trivial⟩, trivial, trivial, trivial⟩
theorem dS {nm : ByteArray} (h : nm.size ≤ 4) : (jV nm).ok := ⟨⟨by omega, by omega⟩, by decide, bH, ⟨by omega, by omega⟩, ⟨⟨⟨by omega, by omega⟩, by show nm.size ≤ _; omega, ⟨by omega, by omega⟩, trivial⟩, trivial⟩, trivial, trivial, trivial⟩
theorem kI {k : Int} (h : U63 k) : (simpS k).ok := ⟨h, by decide, bH, ⟨by omega, by omega⟩, trivial, trivial, trivial, trivial⟩
theorem lS {fs : List Fu} (h1 : fs.length ≤ 100) (h : ∀ f ∈ fs, f.ok 100) : Pg.ok 100 ⟨[], [], fs⟩ ∧ Fw ⟨[], [], fs⟩ := ⟨⟨Nat.zero_le _, Nat.zero_le _, h1, fun x h => (by cases h), fun x h => (by cases h), h⟩, ⟨by show fs.length ≤ _; omega, Nat.zero_le _⟩⟩
theorem d8 {α : Type} {p : α → Prop} : ∀ {l : List α}, (l.foldr (fun x r => p x ∧ r) True) → ∀ x ∈ l, p x
  | [], _, x, h => by cases h
  | y :: r, h, x, hx => by
    rcases List.mem_cons.1 hx with rfl | hx
    · exact h.1
    · exact d8 h.2 x hx
theorem ok_X1 : exX1.ok 100 ∧ Fw exX1 := lS (by decide) (d8 ⟨cm (by decide) ⟨dS (by decide), dS (by decide), trivial⟩ (by decide), cm (by decide) ⟨d7, trivial⟩ (by decide), cm (by decide) ⟨d7, trivial⟩ (by decide), trivial⟩)
theorem ok_X2 : exX2.ok 100 ∧ Fw exX2 := lS (by decide) (d8 ⟨cm (by decide) ⟨dS (by decide), dS (by decide), trivial⟩ (by decide), cm (by decide) ⟨d7, trivial⟩ (by decide), cm (by decide) ⟨d7, trivial⟩ (by decide), trivial⟩)
theorem ok_Y1 : exY1.ok 100 ∧ Fw exY1 := lS (by decide) (d8 ⟨cm (by decide) trivial (by decide), cm (by decide) ⟨d7, trivial⟩ (by decide), trivial⟩)
theorem ok_Y2 : exY2.ok 100 ∧ Fw exY2 := lS (by decide) (d8 ⟨cm (by decide) ⟨kI ⟨by omega, by omega⟩, trivial⟩ (by decide), cm (by decide) ⟨d7, trivial⟩ (by decide), trivial⟩)
theorem ok_Z1 : exZ1.ok 100 ∧ Fw exZ1 := lS (by decide) (d8 ⟨cm (by decide) ⟨dS (by decide), trivial⟩ (by decide), cm (by decide) ⟨d7, trivial⟩ (by decide), trivial⟩)
theorem ok_Z2 : exZ2.ok 100 ∧ Fw exZ2 := lS (by decide) (d8 ⟨cm (by decide) ⟨kI ⟨by omega, by omega⟩, dS (by decide), trivial⟩ (by decide), cm (by decide) ⟨kI ⟨by omega, by omega⟩, trivial⟩ (by decide), trivial⟩)
theorem iP {s : ByteArray} (h : s.data.toList.all (fun b => !decide (b = 47)) = true) : noS s := fun b hb e => by
  have := List.all_eq_true.1 h b hb
  rw [decide_eq_true e] at this; cases this
theorem pi : XQ Tryz.prog pk0 12 [] (xb true) := by
  have pX1 := cv (pk := pk0) (s := scX1) (by decide) (iP nos_X1) src_X1
  have pX2 := cv (pk := pk0) (s := scX2) (by decide) (iP nos_X2) src_X2
  have pY1 := cv (pk := pk0) (s := scY1) (by decide) (iP nos_Y1) src_Y1
  have pY2 := cv (pk := pk0) (s := scY2) (by decide) (iP nos_Y2) src_Y2
  have pZ1 := cv (pk := pk0) (s := scZ1) (by decide) (iP nos_Z1) src_Z1
  have pZ2 := cv (pk := pk0) (s := scZ2) (by decide) (iP nos_Z2) src_Z2
  have mX := gu ok_X1.1 ok_X2.1 (by decide) ok_X1.2 ok_X2.2
  have mY := gu ok_Y1.1 ok_Y2.1 (by decide) ok_Y1.2 ok_Y2.2
  have mZ := gu ok_Z1.1 ok_Z2.1 (by decide) ok_Z1.2 ok_Z2.2
  have eX : mtL exX1 exX2 = [(0, 0, am exX1 exX2 0 0, 1), (1, 2, am exX1 exX2 1 2, 2), (2, 1, am exX1 exX2 2 1, 2)] := by rw [mtL, ex_x]; rfl
  have eY : mtL exY1 exY2 = [(0, 0, am exY1 exY2 0 0, 4), (1, 1, am exY1 exY2 1 1, 1)] := by rw [mtL, ex_y]; rfl
  have eZ : mtL exZ1 exZ2 = [(0, 0, am exZ1 exZ2 0 0, 4), (1, 1, am exZ1 exZ2 1 1, 2)] := by rw [mtL, ex_z]; rfl
  have h1 := ig (pk := pk0) (l := mtL exX1 exX2) (by rw [eX]; decide) 1 2 2
  have h2 := ig (pk := pk0) (l := mtL exX1 exX2) (by rw [eX]; decide) 2 1 2
  have h3 := ig (pk := pk0) (l := mtL exY1 exY2) (by rw [eY]; decide) 0 0 4
  have h4 := ig (pk := pk0) (l := mtL exY1 exY2) (by rw [eY]; decide) 1 1 1
  have h5 := ig (pk := pk0) (l := mtL exZ1 exZ2) (by rw [eZ]; decide) 1 1 2
  rw [show hasF (mtL exX1 exX2) 1 2 2 = true from by rw [eX]; rfl] at h1
  rw [show hasF (mtL exX1 exX2) 2 1 2 = true from by rw [eX]; rfl] at h2
  rw [show hasF (mtL exY1 exY2) 0 0 4 = true from by rw [eY]; rfl] at h3
  rw [show hasF (mtL exY1 exY2) 1 1 1 = true from by rw [eY]; rfl] at h4
  rw [show hasF (mtL exZ1 exZ2) 1 1 2 = true from by rw [eZ]; rfl] at h5
  clear eX eY eZ
  generalize hx1 : pgD exX1 = X1 at mX
  generalize hx2 : pgD exX2 = X2 at mX
  generalize hy1 : pgD exY1 = Y1 at mY
  generalize hy2 : pgD exY2 = Y2 at mY
  generalize hz1 : pgD exZ1 = Z1 at mZ
  generalize hz2 : pgD exZ2 = Z2 at mZ
  rw [show (⟨[], [], exX1.fs⟩ : Pg) = exX1 from rfl, hx1] at pX1
  rw [show (⟨[], [], exX2.fs⟩ : Pg) = exX2 from rfl, hx2] at pX2
  rw [show (⟨[], [], exY1.fs⟩ : Pg) = exY1 from rfl, hy1] at pY1
  rw [show (⟨[], [], exY2.fs⟩ : Pg) = exY2 from rfl, hy2] at pY2
  rw [show (⟨[], [], exZ1.fs⟩ : Pg) = exZ1 from rfl, hz1] at pZ1
  rw [show (⟨[], [], exZ2.fs⟩ : Pg) = exZ2 from rfl, hz2] at pZ2
  clear hx1 hx2 hy1 hy2 hz1 hz2
  generalize mtL exX1 exX2 = lX at mX h1 h2
  generalize mtG exX1 exX2 = gX at mX
  generalize mtL exY1 exY2 = lY at mY h3 h4
  generalize mtG exY1 exY2 = gY at mY
  generalize mtL exZ1 exZ2 = lZ at mZ h5
  generalize mtG exZ1 exZ2 = gZ at mZ
  refine XQ.en Tryz.func12 Tryz.ntmps12 (fun w0 own H V v0 hf => ?_)
  refine G (T := T) 1000 rfl ?_
  refine Cq pX1 rfl rfl rfl rfl rfl ⟨rfl, rfl⟩ ?_
  refine G (T := T) 1000 rfl ?_
  refine Cq pX2 rfl rfl rfl rfl rfl ⟨rfl, rfl⟩ ?_
  refine G (T := T) 1000 rfl ?_
  refine Cq mX rfl rfl rfl rfl rfl ⟨rfl, rfl⟩ ?_
  refine G (T := T) 1000 rfl ?_
  refine Cq pY1 rfl rfl rfl rfl rfl ⟨rfl, rfl⟩ ?_
  refine G (T := T) 1000 rfl ?_
  refine Cq pY2 rfl rfl rfl rfl rfl ⟨rfl, rfl⟩ ?_
  refine G (T := T) 1000 rfl ?_
  refine Cq mY rfl rfl rfl rfl rfl ⟨rfl, rfl⟩ ?_
  refine G (T := T) 1000 rfl ?_
  refine Cq pZ1 rfl rfl rfl rfl rfl ⟨rfl, rfl⟩ ?_
  refine G (T := T) 1000 rfl ?_
  refine Cq pZ2 rfl rfl rfl rfl rfl ⟨rfl, rfl⟩ ?_
  refine G (T := T) 1000 rfl ?_
  refine Cq mZ rfl rfl rfl rfl rfl ⟨rfl, rfl⟩ ?_
  refine G (T := T) 1000 rfl ?_
  refine Cq h1 rfl rfl rfl rfl rfl ⟨rfl, rfl⟩ ?_
  refine G (T := T) 1000 rfl ?_
  refine Cq h2 rfl rfl rfl rfl rfl ⟨rfl, rfl⟩ ?_
  refine G (T := T) 1000 rfl ?_
  refine Cq h3 rfl rfl rfl rfl rfl ⟨rfl, rfl⟩ ?_
  refine G (T := T) 1000 rfl ?_
  refine Cq h4 rfl rfl rfl rfl rfl ⟨rfl, rfl⟩ ?_
  refine G (T := T) 1000 rfl ?_
  refine Cq h5 rfl rfl rfl rfl rfl ⟨rfl, rfl⟩ ?_
  refine G (T := T) 1000 rfl ?_
  exact Fe (T := T) rfl rfl
end
theorem MP.few {p : Pg} (h : MP p) : p.ok BG ∧ Fw p ∧ 1 ≤ p.fs.length ∧ 1 ≤ p.gs.length := by
  have hok := h.facts.2
  obtain ⟨tn, s1, s2, fs, hd, ht, h1, h2, rfl, hl1, hl2, hn, hF, hh⟩ := h
  have l0 : (dI tn).length ≤ 7 := by unfold dI; (repeat' split) <;> decide
  have e2 : (dI tn ++ [gbT s1, gbW s2]).length = (dI tn).length + 2 := by rw [List.length_append]; rfl
  have l3 : (fs ++ hd).length ≤ 5 ∧ 1 ≤ (fs ++ hd).length := by
    rw [List.length_append]
    rcases hh with rfl | ⟨b, rfl, _⟩ <;> simp only [List.length_cons, List.length_nil] <;> omega
  exact ⟨hok, ⟨by show (fs ++ hd).length ≤ _; omega, by show (dI tn ++ [gbT s1, gbW s2]).length ≤ _; omega⟩, l3.2, by show 1 ≤ (dI tn ++ [gbT s1, gbW s2]).length; omega⟩
theorem kJ {l m : List Int} {s : Int} (h1 : ∀ n ∈ l, I64 n) (h2 : ∀ n ∈ m, I64 n) (hs : I64 s) : XQ Tryz.prog pk0 11 [xr (l.map intD), xr (m.map intD), xi s] (xb true) := by
  have hBG : BG = 400000000 := rfl
  refine XQ.en Tryz.func11 Tryz.ntmps11 (fun w0 own H V v0 hf => ?_)
  refine Ln 0 rfl (fun hl => ?_); rw [List.length_map] at hl
  refine Ln 1 rfl (fun hl2 => ?_); rw [List.length_map] at hl2
  refine G (T := T) 1000 rfl ?_
  refine Cq pi rfl rfl rfl rfl rfl ⟨rfl, rfl⟩ ?_
  refine G (T := T) 1000 rfl ?_
  refine Ce (mk_Made h1 hl) rfl rfl rfl rfl rfl ⟨rfl, rfl⟩ ?_
  rintro _ ⟨p, rfl, hp⟩
  obtain ⟨pok, pfw, pf1, pg1⟩ := hp.few
  refine G (T := T) 1000 rfl ?_
  refine Ce (mk_Made h2 hl2) rfl rfl rfl rfl rfl ⟨rfl, rfl⟩ ?_
  rintro _ ⟨x, rfl, hx⟩
  obtain ⟨xok, xfw, xf1, xg1⟩ := hx.few
  refine G (T := T) 1000 rfl ?_
  refine Ce (oO pok (by omega) pfw.f pfw.g hs) rfl rfl rfl rfl rfl ⟨rfl, rfl⟩ ?_
  rintro _ ⟨y, f, g, rfl, hv⟩
  obtain ⟨yok, yfw⟩ := hv.ok pok pfw
  have pfl := pfw.f
  have xfl := xfw.f
  have ylf := hv.lf
  refine G (T := T) 1000 rfl ?_
  refine (FzTo.bz 0 rfl).c ?_
  refine (FzTo.bz 1 rfl).c ?_
  refine (FzTo.bz 2 rfl).c ?_
  refine Lq [7, 8, 9, 10, 11] (fun (q : Nat) r => (6, xb false) :: (13, xi (q : Nat)) :: r) (fun _ => []) 3 (fun q => q ≤ p.fs.length) (fun q => p.fs.length - q) 0 rfl (Nat.zero_le _) ?_
  intro i hi
  refine G (T := T) 1000 rfl ?_
  refine If rfl (fun h => ?_) (fun h => ?_)
  · have hil := of_decide_eq_true h; rw [List.length_map] at hil
    obtain ⟨u, hu⟩ := ai (l := p.fs) (j := i) (by omega)
    have hfi := hv.of.lt i (by omega)
    have hyu := hv.fs i u hu
    have huk := pok.f u (List.mem_of_getElem? hu)
    have s1 := cA (pk := pk0) huk (yok.f _ (List.mem_of_getElem? hyu)) (by omega)
    rw [simF_ren] at s1
    refine G (T := T) 1000 rfl ?_
    refine Ix (T := T) i (ae (f := fuD) hu) rfl rfl rfl rfl ⟨rfl, rfl⟩ rfl rfl ?_
    refine G (T := T) 1000 rfl ?_
    refine Ix (T := T) i (ae (f := cP) (bD (g := f) (by omega))) rfl rfl rfl rfl ⟨rfl, rfl⟩ rfl rfl ?_
    refine G (T := T) 1000 rfl ?_
    refine Ix (T := T) (f i) (ae (f := fuD) hyu) rfl rfl rfl rfl ⟨rfl, rfl⟩ rfl rfl ?_
    refine G (T := T) 1000 rfl ?_
    refine Cq s1 rfl rfl rfl rfl rfl ⟨rfl, rfl⟩ ?_
    refine G (T := T) 1000 rfl ?_
    refine IfF rfl rfl ?_
    refine G (T := T) 1000 rfl ?_
    refine Lq [7, 8, 9, 10, 11, 13] (fun (q : Nat) r => (6, xb false) :: (14, xi (q : Nat)) :: r) (fun _ => []) 3 (fun q => q ≤ x.fs.length) (fun q => x.fs.length - q) 0 rfl (Nat.zero_le _) ?_
    intro j hj
    refine G (T := T) 1000 rfl ?_
    refine If rfl (fun h => ?_) (fun h => ?_)
    · have hjl := of_decide_eq_true h; rw [List.length_map] at hjl
      obtain ⟨z, hz⟩ := ai (l := x.fs) (j := j) (by omega)
      have hzk := xok.f z (List.mem_of_getElem? hz)
      have s2 := cA (pk := pk0) huk hzk (by omega)
      have s3 := cA (pk := pk0) hzk huk (by omega)
      have hr := oM u z
      rw [simF_comm z u] at s3
      generalize ef u z = v at s2 s3 hr
      refine G (T := T) 1000 rfl ?_
      refine Ix (T := T) i (ae (f := fuD) hu) rfl rfl rfl rfl ⟨rfl, rfl⟩ rfl rfl ?_
      refine G (T := T) 1000 rfl ?_
      refine Ix (T := T) j (ae (f := fuD) hz) rfl rfl rfl rfl ⟨rfl, rfl⟩ rfl rfl ?_
      refine G (T := T) 1000 rfl ?_
      refine Cq s2 rfl rfl rfl rfl rfl ⟨rfl, rfl⟩ ?_
      refine G (T := T) 71 rfl ?_
      rw [show decide (v < 0) = false from decide_eq_false (by omega)]
      refine G (T := T) 74 rfl ?_
      rw [show decide (1000 < v) = false from decide_eq_false (by omega)]
      refine G (T := T) 1000 rfl ?_
      refine Ix (T := T) j (ae (f := fuD) hz) rfl rfl rfl rfl ⟨rfl, rfl⟩ rfl rfl ?_
      refine G (T := T) 1000 rfl ?_
      refine Ix (T := T) i (ae (f := fuD) hu) rfl rfl rfl rfl ⟨rfl, rfl⟩ rfl rfl ?_
      refine G (T := T) 1000 rfl ?_
      refine Cq s3 rfl rfl rfl rfl rfl ⟨rfl, rfl⟩ ?_
      refine G (T := T) 1000 rfl ?_
      refine IfF rfl (decide_eq_false (fun h => h rfl)) ?_
      refine G (T := T) 1000 rfl ?_
      exact Nq (j + 1) (by show j + 1 ≤ _; omega) (by show _ - (j + 1) < _ - j; omega)
    · have hjl := of_decide_eq_false h; rw [List.length_map] at hjl
      refine G (T := T) 1000 rfl ?_
      exact Nq (i + 1) (by show i + 1 ≤ _; omega) (by show _ - (i + 1) < _ - i; omega)
  have hil := of_decide_eq_false h; rw [List.length_map] at hil
  refine G (T := T) 1000 rfl ?_
  exact Fe (T := T) rfl rfl
end Go.Proofs.YticengaggjcppaaGreat.X
namespace Go.Proofs.YticengaggjcppaaGreat.K
open Go Go.RowKit Go.ChangeShapes Go.WideShapes Go.Deep
def ij (k : IntKind) (l : List Int) : List D := (l.map (Value.int k)).map D.c
abbrev InK (k : IntKind) (n : Int) : Prop := k.min ≤ n ∧ n ≤ k.max
theorem lit_in {k : IntKind} {n : Int} (h : (Lit.int k n).wf = true) : InK k n := by
  unfold Lit.wf at h
  simp only [Bool.and_eq_true, decide_eq_true_eq] at h
  exact h
theorem m7 {n : Int} (h : InK .i64 n) : -9223372036854775808 ≤ n ∧ n ≤ 9223372036854775807 := by
  have e1 : IntKind.i64.min = -9223372036854775808 := by decide
  have e2 : IntKind.i64.max = 9223372036854775807 := by decide
  obtain ⟨h1, h2⟩ := h
  rw [e1] at h1; rw [e2] at h2
  exact ⟨h1, h2⟩
def allH (W : World) : Hp := fun b => W.heap[b]?
theorem St.all (W : World) : St W (allH W) [] W := ⟨rfl, ⟨rfl, by omega⟩, rfl, fun _ _ h => h, by simp, by simp, by simp⟩
theorem spot_none {W : World} {a : Addr} {v : Value} (h : W.cell? a = some v) : a = ⟨a.block, a.off, none⟩ := by
  obtain ⟨b, o, s⟩ := a
  cases s with
  | none => rfl
  | some s =>
    unfold World.cell? at h
    split at h <;> simp at h
theorem cel_of {W : World} {b o : Nat} {v : Value} (h : W.cell? ⟨b, o, none⟩ = some v) : cel (allH W) b o = some v := by
  unfold World.cell? at h
  unfold cel allH
  split at h
  · rename_i hb
    rw [hb]
    simpa using h
  · cases h
theorem add_zero' (a : Addr) : a.add 0 = a := by unfold Addr.add; simp
section
variable {P : Program} {H : Type} {enc : TypeId × Value → H} {W : World}
theorem kK {t e : TypeId} {k : IntKind} (ht : P.underlying t = some (.slice e)) (he : P.underlying e = some (.int k)) (hc : P.cellsOf e = 1) {a : Option Addr} {len cap : Nat} {d : DataW H} {ps : List MemPlace}
    (h : DataW.Trod enc P W 0 (fun _ => true) true t (.slice a len cap) d ps) : ∃ l : List Int, (∀ n ∈ l, InK k n) ∧ rd (allH W) (.s 1 (ij k l)) (.slice a len cap) := by
  obtain ⟨fuel, hf⟩ := h
  have hcs : (Value.slice a len cap).cells.toList = [.slice a len cap] := rfl
  rw [hcs] at hf
  rcases open_ints ht he hc hf with ⟨hcs, _⟩ | ⟨a, len', cap', zs, hcs, _, hl, hm, hz, _, hcell, hwz⟩
  · simp only [List.cons.injEq, Value.slice.injEq, and_true] at hcs
    obtain ⟨rfl, rfl, rfl⟩ := hcs
    exact ⟨[], by simp, rd.nil _ _⟩
  · simp only [List.cons.injEq, Value.slice.injEq, and_true] at hcs
    obtain ⟨rfl, rfl, rfl⟩ := hcs
    simp only [if_true] at hz
    refine ⟨zs.take len, fun n hn => ?_, ?_⟩
    · exact lit_in (hwz n (List.mem_of_mem_take hn))
    · simp only [rd]
      refine ⟨_, _, _, rfl, by simp [ij]; omega, hl, by simpa [maxLen] using hm, ?_⟩
      by_cases h0 : len = 0
      · exact .inl h0
      · have e := hcell 0 (by omega)
        rw [add_zero'] at e
        have ea := spot_none e
        refine .inr ⟨a.block, a.off, by rw [← ea], rds.mk fun i x hx => ?_⟩
        simp only [ij, List.getElem?_map, List.getElem?_take] at hx
        split at hx
        · rename_i hlt
          have h1 := hcell i (by omega)
          have h2 : zs[i]? = some zs[i] := List.getElem?_eq_getElem (by omega)
          rw [h2] at hx
          simp only [Option.map_some, Option.some.injEq] at hx
          subst hx
          refine ⟨.int k zs[i], ?_, by simp [rd]⟩
          rw [ea, cN] at h1
          rw [List.getD_eq_getElem?_getD, h2] at h1
          exact cel_of h1
        · simp at hx
theorem lT (hl : laidOutB P = true) {W' : World} (hb : ∀ k, k < W.heap.size → W'.heap[k]? = W.heap[k]?) {sp : Nat → Bool} : ∀ {ts : List TypeId} {vs : List Value} {ds : List (DataW H)} {ps : List MemPlace},
    (ts.all fun t => P.readableRec t && decide (t < P.types.size)) = true → DataW.TrodAll enc P W 0 (fun _ => true) true ts vs ds ps → (∀ x ∈ ps, x.block < W.heap.size) → (∀ x ∈ ps, sp x.block = true) → DataW.TrodAll enc P W' 0 sp true ts vs ds ps
  | [], [], [], _, _, h, _, _ => h
  | t :: ts, v :: vs, d :: ds, _, hts, h, hlt, hsp => by
    obtain ⟨p, q, h1, h2, rfl⟩ := h
    simp only [List.all_cons, Bool.and_eq_true, decide_eq_true_eq] at hts
    refine ⟨p, q, WideElems.Trod_stays hl hts.1.1 hts.1.2 h1 (fun x hx => ?_) (fun x hx => hsp x (List.mem_append_left _ hx)), lT hl hb hts.2 h2 (fun x hx => hlt x (List.mem_append_right _ hx)) (fun x hx => hsp x (List.mem_append_right _ hx)), rfl⟩
    have hx' := hlt x (List.mem_append_left _ hx)
    cases x with
    | cell b o => exact World.cell?_of_block (w := W) (hb b hx')
    | map b => exact hb b hx'
theorem law_post {f : Func} {s : ChangeSpec} {apart fresh handsOn again : Bool} {W' : World} {args : Array Value} {ds gs : List (DataW H)} {eo : List MemPlace} {bt : TypeId} (hl : laidOutB P = true)
    (hW : DataW.Whole enc P f.params.toList s.vars apart W args.toList ds gs eo) (hvs : s.vars = []) (hfn : s.fn H (ds ++ gs) = { results := [.lit (.bool true)], args := ds }) (hrt : f.resultTypes = #[bt]) (hbt : P.underlying bt = some .bool)
    (hts : (f.params.toList.all fun t => P.readableRec t && decide (t < P.types.size)) = true)
    (hos : W'.os = W.os) (hout : W'.output = W.output) (hb : ∀ k, k < W.heap.size → W'.heap[k]? = W.heap[k]?) : s.post enc P f apart fresh handsOn again W args (.bool true) W' := by
  have hlt := hW.lt
  have hW0 := hW
  obtain ⟨p, q, hA, hV, rfl, hfz, hnd⟩ := hW
  have hq : q = [] := by
    rw [hvs] at hV
    obtain ⟨_, rfl⟩ := trodVars_none hV
    rfl
  subst hq
  have hg : gs = [] := by
    rw [hvs] at hV
    obtain ⟨rfl, _⟩ := trodVars_none hV
    rfl
  subst hg
  simp only [List.append_nil] at hlt hfz hnd hW0
  have hres : ∀ (b : Nat) (sp : Nat → Bool) (hd : Bool), DataW.TrodAll enc P W' b sp hd f.resultTypes.toList ((Value.bool true).resultList f.resultTypes.size) (s.fn H (ds ++ [])).results [] := by
    intro b sp hd
    rw [hfn, hrt]
    exact trodAll_mk1 (shut_bool hbt true)
  have hargs : ∀ sp : Nat → Bool, (∀ x ∈ p, sp x.block = true) → DataW.TrodAll enc P W' 0 sp true f.params.toList args.toList (s.fn H (ds ++ [])).args p := by
    intro sp hsp
    rw [hfn]
    exact lT hl hb hts hA hlt hsp
  have hvars : ∀ sp : Nat → Bool, DataW.TrodVars enc P W' sp s.vars (s.fn H (ds ++ [])).vars [] := by
    intro sp
    rw [hfn, hvs]
    rfl
  have hok : ∀ (j : Nat) (t : TypeId) (r : Value), f.resultTypes[j]? = some t → ((Value.bool true).resultList f.resultTypes.size)[j]? = some r → Value.okWide P W' .any 0 t r := by
    rw [hrt]
    intro j t r hj hr
    match j, hj, hr with
    | 0, hj, hr =>
      simp [Value.resultList] at hj hr
      subst hj; subst hr
      simp [Value.okWide, hbt, Cell.okWide, Cell.ok]
    | j + 1, hj, hr => simp at hj
  have hk : W.keptBut W' (fun x => x ∈ p ∧ (x ∈ ([] : List MemPlace) ∨ x ∈ p ∨ x ∈ ([] : List MemPlace))) := by
    refine ⟨hos, hout, fun i hi => ?_⟩
    rw [hb i hi]
    split <;> simp_all
  have hfz' : W'.noneFrozen p := by
    intro b off hp
    have := hfz b off hp
    rw [← this]
    exact World.frozen?_of_block (w := W) (hb b (hlt _ hp))
  refine ⟨ds, [], p, [], p, [], by simpa using hW0, hres _ _ _, hargs _ (fun x hx => by simpa using hlt x hx), hvars _, hk, fun _ => ⟨hok, _, _, ([] ++ p) ++ [], ⟨[] ++ p, [], trodAll_append (hargs _ (fun _ _ => rfl)) (hres _ _ _), hvars _, rfl, by simpa using hfz', fun ha => by simpa using hnd ha⟩, fun x hx _ => by simpa using hx⟩⟩
end
section
end
end Go.Proofs.YticengaggjcppaaGreat.K
namespace Go.Proofs.YticengaggjcppaaGreat.X
open Go Go.RowKit K
theorem lU {H : Hp} {b : Nat} {k : IntKind} : ∀ {l : List Int} {o : Nat}, K.rds H b o (ij k l) → rdr H b 1 o (l.map fun n => [.c (.int k n)])
  | [], o, _ => by simp only [List.map_nil, rdr]
  | n :: l, o, h => by
    simp only [ij, List.map_cons, K.rds] at h
    simp only [List.map_cons, rdr, rds]
    obtain ⟨⟨u, h1, h2⟩, h3⟩ := h
    exact ⟨⟨rfl, ⟨u, h1, by simp only [rd]; exact ⟨h2, rfl⟩⟩, trivial⟩, lU (l := l) h3⟩
theorem oF {H : Hp} {k : IntKind} {l : List Int} {v : Value} (h : K.rd H (.s 1 (ij k l)) v) : rd H (.s (l.map fun n => [.c (.int k n)])) v := by
  simp only [K.rd] at h
  obtain ⟨A, n, c, rfl, h1, h2, h3, h4⟩ := h
  have hn : n = (l.map fun n => [D.c (.int k n)]).length := by simpa [ij] using h1.symm
  simp only [rd]
  refine ⟨A, c, 1, by rw [hn], by rw [← hn]; exact h2, (by simpa [maxLen] using h3), ?_⟩
  rcases h4 with h4 | ⟨b, o, rfl, h4⟩
  · exact .inl (List.eq_nil_of_length_eq_zero (by rw [← hn]; exact h4))
  · exact .inr ⟨b, o, rfl, lU h4⟩
end Go.Proofs.YticengaggjcppaaGreat.X
namespace Go.Proofs.YticengaggjcppaaGreat.K
open Go Go.RowKit Go.Proofs Go.ChangeShapes Go.WideShapes Go.Deep
section
variable {P : Program} {H : Type} {enc : TypeId × Value → H} {W : World}
end
section
variable {H : Type} {enc : TypeId × Value → H} {W : World}
end
end Go.Proofs.YticengaggjcppaaGreat.K
namespace Go.Proofs.YticengaggjcppaaGreat.X
open Go Go.RowKit Go.Proofs K
theorem res_true {P : Program} {f : FuncId} {vals : List Value} {w0 : World} {own : List Seg} {H : Hp} (h : K.Fn P f vals w0 H own (fun r o H' => (xb true).rel (fun _ _ => none) H' r ∧ o = own ∧ Le H H')) : K.Fn P f vals w0 H own (fun r o H' => r = .bool true ∧ o = own ∧ Le H H') :=
  h.mono fun r o H' ⟨h1, h2, h3⟩ => ⟨by
    simp only [XV.rel, XA.rel, XC.rel, rd] at h1
    exact h1.1, h2, h3⟩
end Go.Proofs.YticengaggjcppaaGreat.X
namespace Go.Proofs.YticengaggjcppaaGreat.K
open Go Go.RowKit Go.Proofs
theorem law_alike {l m : List Int} {n : Int} (h1 : ∀ n ∈ l, I64 n) (h2 : ∀ n ∈ m, I64 n) (h3 : I64 n) {w0 : World} {H : Hp} {own : List Seg} {v1 v2 : Value} (hA : rd H (.s 1 (ij .i64 l)) v1) (hB : rd H (.s 1 (ij .i64 m)) v2) :
    Fn Tryz.prog 11 [v1, v2, .int .i64 n] w0 H own (fun r o H' => r = .bool true ∧ o = own ∧ Le H H') :=
  X.res_true (X.XQ.toFn (X.kJ (l := l) (m := m) (s := n) h1 h2 h3) id trivial ⟨X.oF hA, X.oF hB, by simp only [X.XV.rel, X.XA.rel, X.XC.rel, X.rd]; exact ⟨trivial, rfl⟩, trivial⟩)
end Go.Proofs.YticengaggjcppaaGreat.K
namespace Go.Proofs.YticengaggjcppaaGreat
open Go Go.RowKit Go.ChangeShapes Go.WideShapes
namespace Row11
theorem own0 : ownKnob Tryz.prog.godebug = none := by kernel_rfl
theorem laid0 : laidOutB Tryz.prog = true := by kernel_rfl
theorem lifted (os : Os) (started : os.Started) (H : Type) (enc : TypeId × Value → H) :
    ReturnsInHanded {} Tryz.checked os 11 .any (Rows.matchAlikeSpec.pre6 enc Tryz.prog Tryz.f11 Rows.matchAlikeRow.domain false) (Rows.matchAlikeSpec.post enc Tryz.prog Tryz.f11 false true false false) := by
  refine returnsInHanded_of_change (C := Tryz.checked) own0 started (by kernel_rfl) Tryz.func11
    (ChangeSpec.witness6 (enc := enc) (C := Tryz.checked) false ⟨#[], #[.slice none 0 0, .slice none 0 0, .int .i64 0], []⟩ 8 (by kernel_rfl) (by kernel_rfl) (by kernel_rfl) (by kernel_rfl)) ?_
  intro W base args ds gs eo hval0 hW hcnd _
  have hval : ∀ (j : Nat) t v, Tryz.f11.params[j]? = some t → args[j]? = some v → Value.okWide Tryz.prog W .any base t v := hval0
  have hW' : DataW.Whole enc Tryz.prog Tryz.f11.params.toList Rows.matchAlikeSpec.vars false W args.toList ds gs eo := hW
  obtain ⟨p, q, hA0, hV, rfl, hfz, hnd⟩ := hW
  have hA : DataW.TrodAll enc Tryz.prog W 0 (fun _ => true) true Tryz.f11.params.toList args.toList ds p := hA0
  rw [Tryz.params11] at hA hval
  obtain ⟨v0, v1, v2, d0, d1, d2, p0, p1, p2, rfl, rfl, rfl, h0, h1, h2⟩ := trodAll_three hA
  obtain ⟨rfl, rfl⟩ := trodVars_none hV
  obtain ⟨a0, n0, c0, rfl⟩ := okWide_slice Tryz.underlying22 (hval 0 22 v0 rfl rfl)
  obtain ⟨l0, k0, r0⟩ := K.kK Tryz.underlying22 Tryz.underlying3 (by kernel_rfl) h0
  obtain ⟨a1, n1, c1, rfl⟩ := okWide_slice Tryz.underlying22 (hval 1 22 v1 rfl rfl)
  obtain ⟨l1, k1, r1⟩ := K.kK Tryz.underlying22 Tryz.underlying3 (by kernel_rfl) h1
  obtain ⟨l2, rfl, _, _, k2⟩ := open_int Tryz.underlying3 (hval 2 3 v2 rfl rfl) h2
  refine (K.law_alike (fun n h => K.m7 (k0 n h)) (fun n h => K.m7 (k1 n h)) (K.m7 (K.lit_in k2)) r0 r1 W (K.St.all W)).mono fun e W1 hh => ?_
  obtain ⟨v, own1, H1, rfl, ⟨rfl, _, hle⟩, hst⟩ := hh
  exact ⟨_, rfl, K.law_post laid0 hW' rfl rfl rfl Tryz.underlying4 (by kernel_rfl) hst.os hst.output (fun k hk => by
    have e1 : W.heap[k]? = some W.heap[k] := by simp [hk]
    rw [e1]
    exact hst.imm k _ (hle k _ e1))⟩
end Row11
theorem alike_holds : Rows.MatchAlikeSaid :=
  OpenClaim.holds_of_wide 11 Tryz.f11 rfl rfl rfl rfl rfl rfl rfl ⟨rfl, rfl, rfl, rfl, rfl⟩ rfl rfl rfl rfl rfl (by kernel_rfl) Tryz.func11 (by kernel_rfl)
    (of_decide_eq_true (by kernel_rfl)) (by unfold Func.isWrapper; first | (rw [if_pos (by decide +kernel)]; kernel_rfl) | (rw [if_neg (by decide +kernel)]; exact ⟨rfl, rfl⟩))
    (fun os started H enc _ => Row11.lifted os started H enc)
end Go.Proofs.YticengaggjcppaaGreat
