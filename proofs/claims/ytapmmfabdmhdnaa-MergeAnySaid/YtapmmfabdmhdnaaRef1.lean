/-
  The reference: extend, conflict, sames, insert.
-/
import Derived.Test.YtapmmfabdmhdnaaHelp
import Derived.Test.YtapmmfabdmhdnaaTurn
import Derived.Test.YtapmmfabdmhdnaaLog
set_option linter.unusedVariables false
set_option linter.unusedSimpArgs false
set_option maxHeartbeats 4000000
namespace Go.Proofs.Ytapmmfabdmhdnaa.K
open Go Go.RowKit Go.Proofs

section
variable {P : Program} {w0 : World} {N : Nat} {Q : Exit → Act → World → Prop} {env : Env} {own : List Seg} {H : Hp} {ops : Array Oper} {rest : List Oper}
variable {d : Option Tmp} {ty : TypeId} {pos : String} {af : Array Edge}
theorem TL.gund {op : Op} {j : Nat} {want : Bool} {t : Tmp} (hj : (ops[j]?).bind (·.dst) = some t) (ht : lk env t = some undef) (hd : okD N d = true)
    (h : TL P w0 N Q ops rest (putE d undef env) own H) :
    TL P w0 N Q ops ({ dst := d, op := op, type := ty, pos := pos, after := af, guard := some (j, want) } :: rest) env own H := fun a w ha hw => by
  have hy : yielded ops a.tmps j = none := by
    unfold yielded
    rw [hj]
    have h1 := ha.slots t _ ht
    simp [h1, undef]
  have h1 := h _ w (ha.put hd undef) hw
  simp only [wpList, Region.wanted, hy]
  rw [if_neg (by simp)]
  exact h1
end
theorem pV_snoc (p : Path) (n : Nat) : pV (p ++ [n]) = pV p ++ [.int .i64 (n : Int)] := by simp [pV]
theorem ref_extend {p : Path} {n : Nat} (hp : p.length ≤ 1073741824) {w0 : World} {H : Hp} {own : List Seg} {v : Value} (hA : rd H (pD p) v) :
    Fn Try.prog 73 [v, .int .i64 (n : Int)] w0 H own (fun r own' H' => rd H' (pD (p ++ [n])) r ∧ own' = own ∧ Le H H') := by
  obtain ⟨A, c, rfl, hc1, hc2⟩ := path_len hA
  refine Fn.enter Try.func73 rfl Try.ntmps73 rfl ?_
  have hL := Le.refl H
  refine TC.seq ?_
  refine TC.region ?_
  refine TL.assign rfl rfl ?_
  refine TL.nil ?_
  refine TQ.then_n ?_
  refine TC.seq ?_
  refine TC.region ?_
  refine TL.litF (r := []) [] trivial rfl rfl rfl rfl ?_; intro g5
  refine TL.move rfl rfl ?_
  refine TL.nilseg ?_
  refine TL.appendA 0 rfl rfl rfl (.inr ⟨_, rfl, rfl, rfl, rfl⟩) (vals_src (l := pV p) hA (pV_one p)) (by omega) (by omega) rfl ?_
  intro v7 sg7 hrow7
  refine TL.move rfl rfl ?_
  refine TL.litF (r := [_]) [(0, [_])] ⟨rfl, ⟨_, rfl, rfl⟩, trivial⟩ rfl rfl rfl rfl ?_; intro g9
  refine TL.appendA 1 rfl rfl rfl hrow7 (Src.ofOwn 0 0 rfl rfl rfl (Ones.all (show Ones [_] from ⟨by rfl, trivial⟩)) ⟨rfl, trivial⟩) (by omega) (by omega) rfl ?_
  intro v10 sg10 hrow10
  refine TL.assign rfl rfl ?_
  refine TL.nil ?_
  refine TQ.then_n ?_
  refine TC.ret ?_
  refine TQ.sel 3 [1, 0, 2] rfl (fun o ho => ?_)
  simp only [K.sel, List.map_cons, List.map_nil, List.getD_cons_zero, List.getD_cons_succ, List.drop_succ_cons, List.drop_zero, List.cons_append, List.nil_append, List.set_cons_zero, List.set_cons_succ] at ho; subst ho
  refine TQ.freeze (fun H1 hle hz_row0 => ?_)
  have hL := Le.trans hL hle
  have hA := rd.mono hle hA
  refine TQ.ret1 2 rfl rfl ?_
  refine ⟨?_, rfl, hL⟩
  refine rd.ofRowA hrow10 hz_row0 ?_ (Le.refl _)
  rw [List.nil_append, ← pV_snoc]
  exact RdL.vals _
theorem insB_app {p x : Path} : ∀ (l : List Path), insB p (l ++ [x]) = if l.any (fun q => decide (cmpP p q < 0)) = true then insB p l ++ [x] else if cmpP p x < 0 then l ++ [p] ++ [x] else l ++ [x] ++ [p]
  | [] => by simp [insB]
  | a :: l => by
    have ih := insB_app (p := p) (x := x) l
    simp only [List.cons_append, insB, List.any_cons]
    by_cases h : cmpP p a < 0
    · simp [h]
    · simp only [h, if_false, decide_false, Bool.false_or]
      rw [ih]
      split
      · rfl
      · split <;> rfl
theorem insB_none {p : Path} : ∀ {l : List Path}, l.any (fun q => decide (cmpP p q < 0)) = false → insB p l = l ++ [p]
  | [], _ => rfl
  | a :: l, h => by
    simp only [List.any_cons, Bool.or_eq_false_iff, decide_eq_false_iff_not] at h
    simp only [insB, if_neg h.1, insB_none h.2]; rfl
def anyP (p : Path) (l : List Path) : Bool := l.any fun q => decide (cmpP p q < 0)
def outP (p : Path) (ps : List Path) (k : Nat) : List Path := if anyP p (ps.take k) = true then insB p (ps.take k) else ps.take k
theorem outP_keep {p x : Path} {ps : List Path} {k : Nat} (hx : ps[k]? = some x) (h : anyP p (ps.take k) = true ∨ ¬ cmpP p x < 0) : outP p ps (k + 1) = outP p ps k ++ [x] ∧ anyP p (ps.take (k + 1)) = anyP p (ps.take k) := by
  have e : ps.take (k + 1) = ps.take k ++ [x] := by rw [List.take_add_one, hx]; rfl
  have ea : anyP p (ps.take (k + 1)) = anyP p (ps.take k) := by
    rw [e]
    unfold anyP
    rw [List.any_append]
    rcases h with h | h
    · unfold anyP at h; simp [h]
    · simp [h]
  refine ⟨?_, ea⟩
  unfold outP
  rw [ea]
  split
  · rename_i hd
    rw [e, insB_app, if_pos (show ((ps.take k).any fun q => decide (cmpP p q < 0)) = true from hd)]
  · exact e
theorem outP_ins {p x : Path} {ps : List Path} {k : Nat} (hx : ps[k]? = some x) (h0 : anyP p (ps.take k) = false) (hl : cmpP p x < 0) : outP p ps (k + 1) = outP p ps k ++ [p] ++ [x] ∧ anyP p (ps.take (k + 1)) = true := by
  have e : ps.take (k + 1) = ps.take k ++ [x] := by rw [List.take_add_one, hx]; rfl
  have ea : anyP p (ps.take (k + 1)) = true := by
    rw [e]; unfold anyP; rw [List.any_append]; simp [hl]
  refine ⟨?_, ea⟩
  unfold outP
  have h0' : ¬ ((ps.take k).any fun q => decide (cmpP p q < 0)) = true := by unfold anyP at h0; rw [h0]; simp
  rw [ea, if_pos rfl, h0, if_neg (by simp), e, insB_app, if_neg h0', if_pos hl]
theorem outP_end {p : Path} {ps : List Path} {k : Nat} (hk : ps.length ≤ k) (h : ∀ x ∈ ps.take k, x ≠ p) : addP ps p = if anyP p (ps.take k) = true then outP p ps k else outP p ps k ++ [p] := by
  have e : ps.take k = ps := List.take_of_length_le hk
  rw [e] at h
  unfold addP outP
  rw [if_neg (fun hc => h p hc rfl), e]
  split
  · rfl
  · rename_i hd
    exact insB_none (by unfold anyP at hd; simpa using hd)
theorem insB_len (p : Path) : ∀ l : List Path, (insB p l).length = l.length + 1
  | [] => rfl
  | a :: r => by simp only [insB]; split <;> simp [insB_len p r]
theorem outP_len (p : Path) (ps : List Path) (k : Nat) : (outP p ps k).length ≤ k + 1 ∧ (anyP p (ps.take k) = false → (outP p ps k).length ≤ k) := by
  have h : (ps.take k).length ≤ k := by simp; omega
  unfold outP
  split
  · rename_i hd
    rw [insB_len]
    exact ⟨by omega, fun hc => by rw [hc] at hd; cases hd⟩
  · exact ⟨by omega, fun _ => h⟩
theorem addP_len (ps : List Path) (p : Path) : (addP ps p).length ≤ ps.length + 1 := by
  have gen : ∀ l : List Path, (insB p l).length = l.length + 1 := by
    intro l
    induction l with
    | nil => rfl
    | cons a r ih => simp only [insB]; split <;> simp [ih]
  unfold addP; split
  · omega
  · rw [gen]; omega
theorem foldP_len : ∀ (l ps : List Path), (l.foldl addP ps).length ≤ ps.length + l.length
  | [], ps => by simp
  | a :: l, ps => by
    have h1 := foldP_len l (addP ps a)
    have h2 := addP_len ps a
    simp only [List.foldl_cons, List.length_cons]; omega
theorem paths_snoc {H : Hp} {ps : List Path} {xs : List Value} {p : Path} {v : Value} (h : RdL H (ps.map pD) xs) (hv : rd H (pD p) v) : RdL H ((ps ++ [p]).map pD) (xs ++ [v]) := by
  rw [List.map_append]
  exact h.append ⟨hv, trivial⟩
theorem ref_conflict {p : Path} {ps : List Path} (hps : ps.length ≤ 1073741824) {w0 : World} {H : Hp} {own : List Seg} {gm e : Nat} {u v : Value} (hA : rd H (pD p) v) (hlog : rd H (.s 1 (ps.map pD)) u) :
    Fn Try.prog 70 [.pointer (some ⟨gm, 0, none⟩), v] w0 H ([(gm, .cells #[u] e (0, 0))] :: own)
      (fun r own' H' => ∃ u', r = .tuple #[] ∧ own' = [(gm, .cells #[u'] e (0, 0))] :: own ∧ rd H' (.s 1 ((addP ps p).map pD)) u' ∧ Le H H') := by
  obtain ⟨A, c, rfl, hc1, hc2⟩ := paths_len hlog
  have hone := rd.one (sz := 1) hA
  refine Fn.enter Try.func70 rfl Try.ntmps70 rfl ?_
  have hL := Le.refl H
  refine TC.seq ?_
  refine TC.region ?_
  refine TL.assign rfl rfl ?_
  refine TL.nil ?_
  refine TQ.then_n ?_
  refine TC.seq ?_
  refine TC.nilseg ?_
  refine TC.region ?_
  refine TL.assign rfl rfl ?_
  refine TL.nil ?_
  refine TQ.then_n ?_
  refine TC.seq ?_
  refine TC.seq ?_
  refine TC.region ?_
  refine TL.assign rfl rfl ?_
  refine TL.nil ?_
  refine TQ.then_n ?_
  refine TC.block ?_
  refine TC.loop (fun z env' own' H' => ∃ (k : Nat) (dn : Bool) (o : Value) (xs : List Value) (seg : Seg), z = ps.length - k ∧ k ≤ ps.length ∧ (∀ x ∈ ps.take k, x ≠ p) ∧ dn = anyP p (ps.take k) ∧ Row 22 1 o (outP p ps k).length xs seg ∧ RdL H' ((outP p ps k).map pD) xs ∧ env' = [(0, .pointer (some ⟨gm, 0, none⟩)), (1, v), (4, o), (5, .bool dn), (6, .int .i64 (k : Int))] ∧ own' = seg :: [(gm, .cells #[.slice A ps.length c] e (0, 0))] :: own ∧ Le H H') ps.length [(0, _), (1, _), (4, _), (5, _), (6, _)] ⟨rfl, rfl, rfl, rfl, rfl, trivial⟩ ⟨0, false, _, [], [], by omega, by omega, by simp, rfl, Row.nil 22 1, trivial, rfl, rfl, Le.refl _⟩ ?_
  rintro z _ _ H3 ⟨k, dn, o, xs, seg, rfl, hk1, hne, hdn, hrow, hxs, rfl, rfl, hle3⟩
  obtain ⟨hol, hol0⟩ := outP_len p ps k
  have hL := Le.trans hL hle3
  have hA := rd.mono hle3 hA
  have hlog := rd.mono hle3 hlog
  refine TC.seq ?_
  refine TC.seq ?_
  refine TC.region ?_
  refine TL.move rfl rfl ?_
  refine TL.move rfl rfl ?_
  refine TL.nilCheck rfl rfl ?_
  refine TL.fieldAddr rfl rfl ?_
  refine TL.load_own 1 0 rfl rfl rfl rfl rfl ?_
  refine TL.len_slice rfl rfl ?_
  refine TL.lssB rfl rfl rfl (fun hlt => ?_) (fun hlt => ?_)
  ·
   obtain ⟨x, hx⟩ : ∃ x, ps[k]? = some x := ⟨_, List.getElem?_eq_getElem (by omega)⟩
   obtain ⟨b1, o1, u1, rfl, hp, hrx⟩ := paths_at hlog hx
   refine TL.nil ?_
   refine TQ.then_n ?_
   refine TC.cond_t rfl ?_
   refine TC.skip ?_
   refine TQ.then_n ?_
   refine TC.seq ?_
   refine TC.block ?_
   refine TC.seq ?_
   refine TC.region ?_
   refine TL.move rfl rfl ?_
   refine TL.move rfl rfl ?_
   refine TL.nilCheck rfl rfl ?_
   refine TL.fieldAddr rfl rfl ?_
   refine TL.load_own 1 0 rfl rfl rfl rfl rfl ?_
   refine TL.move rfl rfl ?_
   refine TL.indexAddr (k) rfl rfl rfl (by omega) rfl ?_
   refine TL.load_imm rfl (hp) rfl ?_
   refine TL.call (ref_before hA hrx) ⟨rfl, rfl, trivial⟩ rfl ?_
   rintro _ _ H4 ⟨rfl, rfl, hle4⟩
   have hL := Le.trans hL hle4
   have hA := rd.mono hle4 hA
   have hlog := rd.mono hle4 hlog
   have hle3 := Le.trans hle3 hle4
   have hxs := RdL.mono hle4 hxs
   have hp := cel_le hle4 hp
   have hrx := rd.mono hle4 hrx
   by_cases hl : cmpP p x < 0
   ·
    rw [decide_eq_true hl]
    refine TL.assign rfl rfl ?_
    refine TL.nil ?_
    refine TQ.then_n ?_
    refine TC.seq ?_
    refine TC.region ?_
    refine TL.move rfl rfl ?_
    refine TL.nilCheck rfl rfl ?_
    refine TL.fieldAddr rfl rfl ?_
    refine TL.load_own 1 0 rfl rfl rfl rfl rfl ?_
    refine TL.move rfl rfl ?_
    refine TL.indexAddr (k) rfl rfl rfl (by omega) rfl ?_
    refine TL.load_imm rfl (hp) rfl ?_
    refine TL.move rfl rfl ?_
    refine TL.call (ref_before hrx hA) ⟨rfl, rfl, trivial⟩ rfl ?_
    rintro _ _ H5 ⟨rfl, rfl, hle5⟩
    have hL := Le.trans hL hle5
    have hA := rd.mono hle5 hA
    have hlog := rd.mono hle5 hlog
    have hle3 := Le.trans hle3 hle5
    have hxs := RdL.mono hle5 hxs
    have hp := cel_le hle5 hp
    have hrx := rd.mono hle5 hrx
    by_cases hm : cmpP x p < 0
    ·
     rw [decide_eq_true hm]
     refine TL.assign rfl rfl ?_
     refine TL.nil ?_
     refine TQ.then_n ?_
     refine TC.seq ?_
     refine TC.seq ?_
     refine TC.region ?_
     refine TL.move rfl rfl ?_
     refine TL.not rfl rfl ?_
     refine TL.move rfl rfl ?_
     refine TL.gno rfl rfl rfl rfl ?_
     refine TL.gno rfl rfl rfl rfl ?_
     refine TL.pickF rfl rfl rfl rfl ?_
     refine TL.nil ?_
     refine TQ.then_n ?_
     refine TC.cond_f rfl ?_
     refine TC.skip ?_
     refine TQ.then_n ?_
     refine TC.seq ?_
     refine TC.seq ?_
     refine TC.region ?_
     refine TL.move rfl rfl ?_
     refine TL.move rfl rfl ?_
     refine TL.gyes rfl rfl rfl ?_
     refine TL.move rfl rfl ?_
     refine TL.gyes rfl rfl rfl ?_
     refine TL.not rfl rfl ?_
     refine TL.pickT rfl rfl rfl rfl ?_
     refine TL.nil ?_
     refine TQ.then_n ?_
     refine TC.cond rfl (fun hd => ?_) (fun hd => ?_)
     ·
      refine TC.seq ?_
      refine TC.region ?_
      refine TL.move rfl rfl ?_
      refine TL.move rfl rfl ?_
      refine TL.litF (r := [_]) [(0, [_])] ⟨rfl, ⟨_, rfl, one_cells hone⟩, trivial⟩ rfl rfl rfl rfl ?_; intro g49
      refine TL.append 1 rfl rfl rfl hrow (Src.ofOwn 0 0 rfl rfl rfl (Ones.all (show Ones [_] from ⟨hone, trivial⟩)) ⟨rfl, trivial⟩) (by omega) (by omega) rfl ?_
      intro o2 sg2 hrow
      refine TL.assign rfl rfl ?_
      refine TL.nil ?_
      refine TQ.then_n ?_
      refine TC.region ?_
      refine TL.assign rfl rfl ?_
      refine TL.nil ?_
      refine TQ.then_n ?_
      refine TC.region ?_
      refine TL.move rfl rfl ?_
      refine TL.move rfl rfl ?_
      refine TL.nilCheck rfl rfl ?_
      refine TL.fieldAddr rfl rfl ?_
      refine TL.load_own 2 0 rfl rfl rfl rfl rfl ?_
      refine TL.move rfl rfl ?_
      refine TL.indexAddr (k) rfl rfl rfl (by omega) rfl ?_
      refine TL.load_imm rfl (hp) rfl ?_
      refine TL.litF (r := [_]) [(0, [_])] ⟨rfl, ⟨_, rfl, one_cells (rd.one (sz := 1) hrx)⟩, trivial⟩ rfl rfl rfl rfl ?_; intro g59
      refine TL.append 2 rfl rfl rfl hrow (Src.ofOwn 0 0 rfl rfl rfl (Ones.all (show Ones [_] from ⟨rd.one (sz := 1) hrx, trivial⟩)) ⟨rfl, trivial⟩) (by omega) (by omega) rfl ?_
      intro o3 sg3 hrow
      refine TL.assign rfl rfl ?_
      refine TL.nil ?_
      refine TQ.in_n ?_
      refine TQ.then_n ?_
      refine TC.region ?_
      refine TL.move rfl rfl ?_
      refine TL.add rfl rfl rfl ⟨by omega, by omega⟩ ?_
      refine TL.assign rfl rfl ?_
      refine TL.nil ?_
      refine TQ.sel 4 [2, 3] rfl (fun o ho => ?_)
      simp only [K.sel, List.map_cons, List.map_nil, List.getD_cons_zero, List.getD_cons_succ, List.drop_succ_cons, List.drop_zero, List.cons_append, List.nil_append, List.set_cons_zero, List.set_cons_succ] at ho; subst ho
      obtain ⟨q1, q2⟩ := outP_ins hx (by rw [← hdn]; simpa using hd) hl
      refine TQ.next (ps.length - (k + 1)) [(0, _), (1, _), (4, _), (5, _), (6, _)] (by omega) ⟨rfl, rfl, rfl, rfl, rfl, trivial⟩ ⟨k + 1, true, _, xs ++ [v] ++ [u1], _, rfl, by omega, ?_, q2.symm, by rw [q1, List.length_append, List.length_append]; exact hrow, by rw [q1]; exact paths_snoc (paths_snoc hxs hA) hrx, by simp, rfl, hle3⟩
      intro y hy
      rw [List.take_add_one, hx] at hy
      rcases List.mem_append.1 hy with hy | hy
      · exact hne y hy
      · simp only [Option.toList_some, List.mem_singleton] at hy
        subst hy
        intro he
        subst he
        rw [cmpP_refl] at *
        omega
     ·
      refine TC.skip ?_
      refine TQ.then_n ?_
      refine TC.region ?_
      refine TL.move rfl rfl ?_
      refine TL.move rfl rfl ?_
      refine TL.nilCheck rfl rfl ?_
      refine TL.fieldAddr rfl rfl ?_
      refine TL.load_own 1 0 rfl rfl rfl rfl rfl ?_
      refine TL.move rfl rfl ?_
      refine TL.indexAddr (k) rfl rfl rfl (by omega) rfl ?_
      refine TL.load_imm rfl (hp) rfl ?_
      refine TL.litF (r := [_]) [(0, [_])] ⟨rfl, ⟨_, rfl, one_cells (rd.one (sz := 1) hrx)⟩, trivial⟩ rfl rfl rfl rfl ?_; intro g59
      refine TL.append 1 rfl rfl rfl hrow (Src.ofOwn 0 0 rfl rfl rfl (Ones.all (show Ones [_] from ⟨rd.one (sz := 1) hrx, trivial⟩)) ⟨rfl, trivial⟩) (by omega) (by omega) rfl ?_
      intro o3 sg3 hrow
      refine TL.assign rfl rfl ?_
      refine TL.nil ?_
      refine TQ.in_n ?_
      refine TQ.then_n ?_
      refine TC.region ?_
      refine TL.move rfl rfl ?_
      refine TL.add rfl rfl rfl ⟨by omega, by omega⟩ ?_
      refine TL.assign rfl rfl ?_
      refine TL.nil ?_
      refine TQ.sel 3 [1, 2] rfl (fun o ho => ?_)
      simp only [K.sel, List.map_cons, List.map_nil, List.getD_cons_zero, List.getD_cons_succ, List.drop_succ_cons, List.drop_zero, List.cons_append, List.nil_append, List.set_cons_zero, List.set_cons_succ] at ho; subst ho
      obtain ⟨q1, q2⟩ := outP_keep (p := p) hx (by first | exact .inr hl | (left; rw [← hdn]; simpa using hd))
      refine TQ.next (ps.length - (k + 1)) [(0, _), (1, _), (4, _), (5, _), (6, _)] (by omega) ⟨rfl, rfl, rfl, rfl, rfl, trivial⟩ ⟨k + 1, dn, _, xs ++ [u1], _, rfl, by omega, ?_, by rw [q2]; exact hdn, by rw [q1, List.length_append]; exact hrow, by rw [q1]; exact paths_snoc hxs hrx, by simp, rfl, hle3⟩
      intro y hy
      rw [List.take_add_one, hx] at hy
      rcases List.mem_append.1 hy with hy | hy
      · exact hne y hy
      · simp only [Option.toList_some, List.mem_singleton] at hy
        subst hy
        intro he
        subst he
        rw [cmpP_refl] at *
        omega
    ·
     rw [decide_eq_false hm]
     refine TL.assign rfl rfl ?_
     refine TL.nil ?_
     refine TQ.then_n ?_
     refine TC.seq ?_
     refine TC.seq ?_
     refine TC.region ?_
     refine TL.move rfl rfl ?_
     refine TL.not rfl rfl ?_
     refine TL.move rfl rfl ?_
     refine TL.gno rfl rfl rfl rfl ?_
     refine TL.gno rfl rfl rfl rfl ?_
     refine TL.pickF rfl rfl rfl rfl ?_
     refine TL.nil ?_
     refine TQ.then_n ?_
     refine TC.cond_f rfl ?_
     refine TC.skip ?_
     refine TQ.then_n ?_
     refine TC.seq ?_
     refine TC.seq ?_
     refine TC.region ?_
     refine TL.move rfl rfl ?_
     refine TL.move rfl rfl ?_
     refine TL.gyes rfl rfl rfl ?_
     refine TL.move rfl rfl ?_
     refine TL.gyes rfl rfl rfl ?_
     refine TL.not rfl rfl ?_
     refine TL.pickT rfl rfl rfl rfl ?_
     refine TL.nil ?_
     refine TQ.then_n ?_
     refine TC.cond rfl (fun hd => ?_) (fun hd => ?_)
     ·
      refine TC.seq ?_
      refine TC.region ?_
      refine TL.move rfl rfl ?_
      refine TL.move rfl rfl ?_
      refine TL.litF (r := [_]) [(0, [_])] ⟨rfl, ⟨_, rfl, one_cells hone⟩, trivial⟩ rfl rfl rfl rfl ?_; intro g49
      refine TL.append 1 rfl rfl rfl hrow (Src.ofOwn 0 0 rfl rfl rfl (Ones.all (show Ones [_] from ⟨hone, trivial⟩)) ⟨rfl, trivial⟩) (by omega) (by omega) rfl ?_
      intro o2 sg2 hrow
      refine TL.assign rfl rfl ?_
      refine TL.nil ?_
      refine TQ.then_n ?_
      refine TC.region ?_
      refine TL.assign rfl rfl ?_
      refine TL.nil ?_
      refine TQ.then_n ?_
      refine TC.region ?_
      refine TL.move rfl rfl ?_
      refine TL.move rfl rfl ?_
      refine TL.nilCheck rfl rfl ?_
      refine TL.fieldAddr rfl rfl ?_
      refine TL.load_own 2 0 rfl rfl rfl rfl rfl ?_
      refine TL.move rfl rfl ?_
      refine TL.indexAddr (k) rfl rfl rfl (by omega) rfl ?_
      refine TL.load_imm rfl (hp) rfl ?_
      refine TL.litF (r := [_]) [(0, [_])] ⟨rfl, ⟨_, rfl, one_cells (rd.one (sz := 1) hrx)⟩, trivial⟩ rfl rfl rfl rfl ?_; intro g59
      refine TL.append 2 rfl rfl rfl hrow (Src.ofOwn 0 0 rfl rfl rfl (Ones.all (show Ones [_] from ⟨rd.one (sz := 1) hrx, trivial⟩)) ⟨rfl, trivial⟩) (by omega) (by omega) rfl ?_
      intro o3 sg3 hrow
      refine TL.assign rfl rfl ?_
      refine TL.nil ?_
      refine TQ.in_n ?_
      refine TQ.then_n ?_
      refine TC.region ?_
      refine TL.move rfl rfl ?_
      refine TL.add rfl rfl rfl ⟨by omega, by omega⟩ ?_
      refine TL.assign rfl rfl ?_
      refine TL.nil ?_
      refine TQ.sel 4 [2, 3] rfl (fun o ho => ?_)
      simp only [K.sel, List.map_cons, List.map_nil, List.getD_cons_zero, List.getD_cons_succ, List.drop_succ_cons, List.drop_zero, List.cons_append, List.nil_append, List.set_cons_zero, List.set_cons_succ] at ho; subst ho
      obtain ⟨q1, q2⟩ := outP_ins hx (by rw [← hdn]; simpa using hd) hl
      refine TQ.next (ps.length - (k + 1)) [(0, _), (1, _), (4, _), (5, _), (6, _)] (by omega) ⟨rfl, rfl, rfl, rfl, rfl, trivial⟩ ⟨k + 1, true, _, xs ++ [v] ++ [u1], _, rfl, by omega, ?_, q2.symm, by rw [q1, List.length_append, List.length_append]; exact hrow, by rw [q1]; exact paths_snoc (paths_snoc hxs hA) hrx, by simp, rfl, hle3⟩
      intro y hy
      rw [List.take_add_one, hx] at hy
      rcases List.mem_append.1 hy with hy | hy
      · exact hne y hy
      · simp only [Option.toList_some, List.mem_singleton] at hy
        subst hy
        intro he
        subst he
        rw [cmpP_refl] at *
        omega
     ·
      refine TC.skip ?_
      refine TQ.then_n ?_
      refine TC.region ?_
      refine TL.move rfl rfl ?_
      refine TL.move rfl rfl ?_
      refine TL.nilCheck rfl rfl ?_
      refine TL.fieldAddr rfl rfl ?_
      refine TL.load_own 1 0 rfl rfl rfl rfl rfl ?_
      refine TL.move rfl rfl ?_
      refine TL.indexAddr (k) rfl rfl rfl (by omega) rfl ?_
      refine TL.load_imm rfl (hp) rfl ?_
      refine TL.litF (r := [_]) [(0, [_])] ⟨rfl, ⟨_, rfl, one_cells (rd.one (sz := 1) hrx)⟩, trivial⟩ rfl rfl rfl rfl ?_; intro g59
      refine TL.append 1 rfl rfl rfl hrow (Src.ofOwn 0 0 rfl rfl rfl (Ones.all (show Ones [_] from ⟨rd.one (sz := 1) hrx, trivial⟩)) ⟨rfl, trivial⟩) (by omega) (by omega) rfl ?_
      intro o3 sg3 hrow
      refine TL.assign rfl rfl ?_
      refine TL.nil ?_
      refine TQ.in_n ?_
      refine TQ.then_n ?_
      refine TC.region ?_
      refine TL.move rfl rfl ?_
      refine TL.add rfl rfl rfl ⟨by omega, by omega⟩ ?_
      refine TL.assign rfl rfl ?_
      refine TL.nil ?_
      refine TQ.sel 3 [1, 2] rfl (fun o ho => ?_)
      simp only [K.sel, List.map_cons, List.map_nil, List.getD_cons_zero, List.getD_cons_succ, List.drop_succ_cons, List.drop_zero, List.cons_append, List.nil_append, List.set_cons_zero, List.set_cons_succ] at ho; subst ho
      obtain ⟨q1, q2⟩ := outP_keep (p := p) hx (by first | exact .inr hl | (left; rw [← hdn]; simpa using hd))
      refine TQ.next (ps.length - (k + 1)) [(0, _), (1, _), (4, _), (5, _), (6, _)] (by omega) ⟨rfl, rfl, rfl, rfl, rfl, trivial⟩ ⟨k + 1, dn, _, xs ++ [u1], _, rfl, by omega, ?_, by rw [q2]; exact hdn, by rw [q1, List.length_append]; exact hrow, by rw [q1]; exact paths_snoc hxs hrx, by simp, rfl, hle3⟩
      intro y hy
      rw [List.take_add_one, hx] at hy
      rcases List.mem_append.1 hy with hy | hy
      · exact hne y hy
      · simp only [Option.toList_some, List.mem_singleton] at hy
        subst hy
        intro he
        subst he
        rw [cmpP_refl] at *
        omega
   ·
    rw [decide_eq_false hl]
    refine TL.assign rfl rfl ?_
    refine TL.nil ?_
    refine TQ.then_n ?_
    refine TC.seq ?_
    refine TC.region ?_
    refine TL.move rfl rfl ?_
    refine TL.nilCheck rfl rfl ?_
    refine TL.fieldAddr rfl rfl ?_
    refine TL.load_own 1 0 rfl rfl rfl rfl rfl ?_
    refine TL.move rfl rfl ?_
    refine TL.indexAddr (k) rfl rfl rfl (by omega) rfl ?_
    refine TL.load_imm rfl (hp) rfl ?_
    refine TL.move rfl rfl ?_
    refine TL.call (ref_before hrx hA) ⟨rfl, rfl, trivial⟩ rfl ?_
    rintro _ _ H5 ⟨rfl, rfl, hle5⟩
    have hL := Le.trans hL hle5
    have hA := rd.mono hle5 hA
    have hlog := rd.mono hle5 hlog
    have hle3 := Le.trans hle3 hle5
    have hxs := RdL.mono hle5 hxs
    have hp := cel_le hle5 hp
    have hrx := rd.mono hle5 hrx
    by_cases hm : cmpP x p < 0
    ·
     rw [decide_eq_true hm]
     refine TL.assign rfl rfl ?_
     refine TL.nil ?_
     refine TQ.then_n ?_
     refine TC.seq ?_
     refine TC.seq ?_
     refine TC.region ?_
     refine TL.move rfl rfl ?_
     refine TL.not rfl rfl ?_
     refine TL.move rfl rfl ?_
     refine TL.gyes rfl rfl rfl ?_
     refine TL.move rfl rfl ?_
     refine TL.gyes rfl rfl rfl ?_
     refine TL.not rfl rfl ?_
     refine TL.pickT rfl rfl rfl rfl ?_
     refine TL.nil ?_
     refine TQ.then_n ?_
     refine TC.cond_f rfl ?_
     refine TC.skip ?_
     refine TQ.then_n ?_
     refine TC.seq ?_
     refine TC.seq ?_
     refine TC.region ?_
     refine TL.move rfl rfl ?_
     refine TL.move rfl rfl ?_
     refine TL.gno rfl rfl rfl rfl ?_
     refine TL.gno rfl rfl rfl rfl ?_
     refine TL.pickF rfl rfl rfl rfl ?_
     refine TL.nil ?_
     refine TQ.then_n ?_
     refine TC.cond_f rfl ?_
     refine TC.skip ?_
     refine TQ.then_n ?_
     refine TC.region ?_
     refine TL.move rfl rfl ?_
     refine TL.move rfl rfl ?_
     refine TL.nilCheck rfl rfl ?_
     refine TL.fieldAddr rfl rfl ?_
     refine TL.load_own 1 0 rfl rfl rfl rfl rfl ?_
     refine TL.move rfl rfl ?_
     refine TL.indexAddr (k) rfl rfl rfl (by omega) rfl ?_
     refine TL.load_imm rfl (hp) rfl ?_
     refine TL.litF (r := [_]) [(0, [_])] ⟨rfl, ⟨_, rfl, one_cells (rd.one (sz := 1) hrx)⟩, trivial⟩ rfl rfl rfl rfl ?_; intro g59
     refine TL.append 1 rfl rfl rfl hrow (Src.ofOwn 0 0 rfl rfl rfl (Ones.all (show Ones [_] from ⟨rd.one (sz := 1) hrx, trivial⟩)) ⟨rfl, trivial⟩) (by omega) (by omega) rfl ?_
     intro o3 sg3 hrow
     refine TL.assign rfl rfl ?_
     refine TL.nil ?_
     refine TQ.in_n ?_
     refine TQ.then_n ?_
     refine TC.region ?_
     refine TL.move rfl rfl ?_
     refine TL.add rfl rfl rfl ⟨by omega, by omega⟩ ?_
     refine TL.assign rfl rfl ?_
     refine TL.nil ?_
     refine TQ.sel 3 [1, 2] rfl (fun o ho => ?_)
     simp only [K.sel, List.map_cons, List.map_nil, List.getD_cons_zero, List.getD_cons_succ, List.drop_succ_cons, List.drop_zero, List.cons_append, List.nil_append, List.set_cons_zero, List.set_cons_succ] at ho; subst ho
     obtain ⟨q1, q2⟩ := outP_keep (p := p) hx (by first | exact .inr hl | (left; rw [← hdn]; simpa using hd))
     refine TQ.next (ps.length - (k + 1)) [(0, _), (1, _), (4, _), (5, _), (6, _)] (by omega) ⟨rfl, rfl, rfl, rfl, rfl, trivial⟩ ⟨k + 1, dn, _, xs ++ [u1], _, rfl, by omega, ?_, by rw [q2]; exact hdn, by rw [q1, List.length_append]; exact hrow, by rw [q1]; exact paths_snoc hxs hrx, by simp, rfl, hle3⟩
     intro y hy
     rw [List.take_add_one, hx] at hy
     rcases List.mem_append.1 hy with hy | hy
     · exact hne y hy
     · simp only [Option.toList_some, List.mem_singleton] at hy
       subst hy
       intro he
       subst he
       rw [cmpP_refl] at *
       omega
    ·
     rw [decide_eq_false hm]
     refine TL.assign rfl rfl ?_
     refine TL.nil ?_
     refine TQ.then_n ?_
     refine TC.seq ?_
     refine TC.seq ?_
     refine TC.region ?_
     refine TL.move rfl rfl ?_
     refine TL.not rfl rfl ?_
     refine TL.move rfl rfl ?_
     refine TL.gyes rfl rfl rfl ?_
     refine TL.move rfl rfl ?_
     refine TL.gyes rfl rfl rfl ?_
     refine TL.not rfl rfl ?_
     refine TL.pickT rfl rfl rfl rfl ?_
     refine TL.nil ?_
     refine TQ.then_n ?_
     refine TC.cond_t rfl ?_
     refine TC.ret ?_
     refine TQ.then_r ?_
     refine TQ.in_r ?_
     refine TQ.then_r ?_
     refine TQ.then_r ?_
     refine TQ.in_r ?_
     refine TQ.then_r ?_
     refine TQ.sel 2 [1] rfl (fun o ho => ?_)
     simp only [K.sel, List.map_cons, List.map_nil, List.getD_cons_zero, List.getD_cons_succ, List.drop_succ_cons, List.drop_zero, List.cons_append, List.nil_append, List.set_cons_zero, List.set_cons_succ] at ho; subst ho
     refine TQ.ret0 0 rfl ?_
     exact ⟨_, rfl, rfl, by rw [show addP ps p = ps from if_pos (by rw [cmp_both.1 ⟨hl, hm⟩]; exact List.mem_of_getElem? hx)]; exact hlog, hL⟩
  ·
   refine TL.nil ?_
   refine TQ.then_n ?_
   refine TC.cond_f rfl ?_
   refine TC.exit ?_
   refine TQ.then_e ?_
   refine TQ.then_e ?_
   refine TQ.in_e ?_
   refine TQ.then_n ?_
   refine TC.seq ?_
   refine TC.seq ?_
   have hend := outP_end (p := p) (ps := ps) (k := k) (by omega) hne
   refine TC.region ?_
   refine TL.move rfl rfl ?_
   refine TL.not rfl rfl ?_
   refine TL.nil ?_
   refine TQ.then_n ?_
   refine TC.cond rfl (fun hd => ?_) (fun hd => ?_)
   ·
    have hd2 : anyP p (ps.take k) = false := by rw [← hdn]; simpa using hd
    rw [hd2, if_neg (by simp)] at hend
    refine TC.region ?_
    refine TL.move rfl rfl ?_
    refine TL.move rfl rfl ?_
    refine TL.litF (r := [_]) [(0, [_])] ⟨rfl, ⟨_, rfl, one_cells hone⟩, trivial⟩ rfl rfl rfl rfl ?_; intro g65
    refine TL.append 1 rfl rfl rfl hrow (Src.ofOwn 0 0 rfl rfl rfl (Ones.all (show Ones [_] from ⟨hone, trivial⟩)) ⟨rfl, trivial⟩) (by omega) (by omega) rfl ?_
    intro o4 sg4 hrow
    have hxs2 := paths_snoc hxs hA
    rw [← hend] at hxs2
    refine TL.assign rfl rfl ?_
    refine TL.nil ?_
    refine TQ.then_n ?_
    have hfin := hend
    refine TC.region ?_
    refine TL.move rfl rfl ?_
    refine TL.move rfl rfl ?_
    refine TL.nilCheck rfl rfl ?_
    refine TL.fieldAddr rfl rfl ?_
    refine TL.store1 2 0 (c' := #[_]) (own' := _ :: _ :: [(_, .cells #[_] _ _)] :: _) rfl rfl rfl rfl hrow.one (by simp) rfl rfl rfl ?_
    refine TL.nil ?_
    refine TQ.sel 3 [1, 0, 2] rfl (fun o ho => ?_)
    simp only [K.sel, List.map_cons, List.map_nil, List.getD_cons_zero, List.getD_cons_succ, List.drop_succ_cons, List.drop_zero, List.cons_append, List.nil_append, List.set_cons_zero, List.set_cons_succ] at ho; subst ho
    refine TQ.freeze (fun H4 hle hz_row => ?_)
    have hL := Le.trans hL hle
    have hA := rd.mono hle hA
    have hlog := rd.mono hle hlog
    have hle3 := Le.trans hle3 hle
    have hxs := RdL.mono hle hxs
    have hxs2 := RdL.mono hle hxs2
    refine TQ.sel 2 [1] rfl (fun o ho => ?_)
    simp only [K.sel, List.map_cons, List.map_nil, List.getD_cons_zero, List.getD_cons_succ, List.drop_succ_cons, List.drop_zero, List.cons_append, List.nil_append, List.set_cons_zero, List.set_cons_succ] at ho; subst ho
    refine TQ.end0 0 rfl ?_
    first
      | exact ⟨_, rfl, rfl, rd.ofRow hrow hz_row hxs2 (Le.refl _), hL⟩
      | exact ⟨_, rfl, rfl, by rw [hend]; exact rd.ofRow hrow hz_row hxs (Le.refl _), hL⟩
   ·
    have hd2 : anyP p (ps.take k) = true := by rw [← hdn]; simpa using hd
    rw [hd2, if_pos rfl] at hend
    refine TC.skip ?_
    refine TQ.then_n ?_
    have hfin := hend
    refine TC.region ?_
    refine TL.move rfl rfl ?_
    refine TL.move rfl rfl ?_
    refine TL.nilCheck rfl rfl ?_
    refine TL.fieldAddr rfl rfl ?_
    refine TL.store1 1 0 (c' := #[_]) (own' := _ :: [(_, .cells #[_] _ _)] :: _) rfl rfl rfl rfl hrow.one (by simp) rfl rfl rfl ?_
    refine TL.nil ?_
    refine TQ.freeze (fun H5 hle hz_row => ?_)
    have hL := Le.trans hL hle
    have hA := rd.mono hle hA
    have hlog := rd.mono hle hlog
    have hle3 := Le.trans hle3 hle
    have hxs := RdL.mono hle hxs
    refine TQ.toOwn (own' := _ :: own) rfl ?_
    refine TQ.end0 0 rfl ?_
    first
      | exact ⟨_, rfl, rfl, rd.ofRow hrow hz_row hxs2 (Le.refl _), hL⟩
      | exact ⟨_, rfl, rfl, by rw [hend]; exact rd.ofRow hrow hz_row hxs (Le.refl _), hL⟩
theorem ref_sames {l r : List Tr} {w0 : World} {H : Hp} {own : List Seg} {lv rv : Value} (hl : rd H (.s 2 (Tr.ds l)) lv) (hr : rd H (.s 2 (Tr.ds r)) rv) :
    Fn Try.prog 93 [lv, rv] w0 H own (fun v own' H' => v = .bool (Tr.eqbs l r) ∧ own' = own ∧ Le H H') := by
  have o1 := hl.one
  have o2 := hr.one
  refine Fn.enter Try.func93 rfl Try.ntmps93 rfl ?_
  have hL := Le.refl H
  refine TC.seq ?_
  refine TC.region ?_
  refine TL.assign rfl rfl ?_
  refine TL.nil ?_
  refine TQ.then_n ?_
  refine TC.seq ?_
  refine TC.region ?_
  refine TL.move rfl rfl ?_
  refine TL.struct [(1, [_])] ⟨rfl, ⟨_, rfl, one_cells o1⟩, trivial⟩ rfl rfl ?_
  refine TL.move rfl rfl ?_
  refine TL.struct [(1, [_])] ⟨rfl, ⟨_, rfl, one_cells o2⟩, trivial⟩ rfl rfl ?_
  refine TL.call (ref_same _ (Tr.node ⟨#[]⟩ l) (Tr.node ⟨#[]⟩ r) (Nat.le_refl _) (tr_mk hl) (tr_mk hr)) ⟨rfl, rfl, trivial⟩ rfl ?_
  rintro _ own H2 ⟨rfl, rfl, hle2⟩
  have hL := Le.trans hL hle2
  have hl := rd.mono hle2 hl
  have hr := rd.mono hle2 hr
  refine TL.assign rfl rfl ?_
  refine TL.nil ?_
  refine TQ.then_n ?_
  refine TC.ret ?_
  refine TQ.ret1 0 rfl rfl ?_
  exact ⟨by simp [Tr.eqb], rfl, hL⟩
def RLog (H : Hp) (u : Value) (ps : List Path) : Prop := rd H (.s 1 (ps.map pD)) u
theorem RLog.mono {H H' : Hp} (hl : Le H H') {u : Value} {ps : List Path} : RLog H u ps → RLog H' u ps := rd.mono hl
theorem ref_insert {l r : List Tr} {p : Path} {ps : List Path} (hps : ps.length ≤ 1073741824) {w0 : World} {H : Hp} {own : List Seg} {gm e : Nat} {u lv rv v : Value}
    (hl : rd H (.s 2 (Tr.ds l)) lv) (hr : rd H (.s 2 (Tr.ds r)) rv) (hA : rd H (pD p) v) (hlog : RLog H u ps) :
    Fn Try.prog 72 [.pointer (some ⟨gm, 0, none⟩), lv, rv, v] w0 H ([(gm, .cells #[u] e (0, 0))] :: own)
      (fun x own' H' => ∃ u', rd H' (.s 2 (Tr.ds (insP l r p).1)) x ∧ own' = [(gm, .cells #[u'] e (0, 0))] :: own ∧ RLog H' u' ((insP l r p).2.foldl addP ps) ∧ Le H H') := by
  obtain ⟨A, ca, rfl, ha1, ha2⟩ := trs_len hl
  obtain ⟨B, cb, rfl, hb1, hb2⟩ := trs_len hr
  refine Fn.enter Try.func72 rfl Try.ntmps72 rfl ?_
  have hL := Le.refl H
  refine TC.seq ?_
  refine TC.region ?_
  refine TL.assign rfl rfl ?_
  refine TL.nil ?_
  refine TQ.then_n ?_
  refine TC.seq ?_
  refine TC.seq ?_
  refine TC.region ?_
  refine TL.move rfl rfl ?_
  refine TL.len_slice rfl rfl ?_
  refine TL.eqlB rfl rfl rfl (fun h0 => ?_) (fun h0 => ?_)
  ·
   refine TL.nil ?_
   refine TQ.then_n ?_
   refine TC.cond_t rfl ?_
   refine TC.seq ?_
   refine TC.region ?_
   refine TL.move rfl rfl ?_
   refine TL.assign rfl rfl ?_
   refine TL.nil ?_
   refine TQ.then_n ?_
   refine TC.ret ?_
   refine TQ.then_r ?_
   refine TQ.ret1 0 rfl rfl ?_
   first
     | exact ⟨_, by rw [ins_a (by omega)]; exact hr, rfl, by rw [ins_a (by omega)]; exact hlog, hL⟩
     | exact ⟨_, by rw [ins_c (by omega) (by omega) (by simpa [Tr.eqbs_eq] using hq)]; exact rd.nil _ _, rfl, by rw [ins_c (by omega) (by omega) (by simpa [Tr.eqbs_eq] using hq)]; exact hlog3, hL⟩
     | exact ⟨_, by rw [ins_b (by omega) (.inr (by simpa [Tr.eqbs_eq] using hq))]; exact hl, rfl, by rw [ins_b (by omega) (.inr (by simpa [Tr.eqbs_eq] using hq))]; exact hlog, hL⟩
     | exact ⟨_, by rw [ins_b (by omega) (.inl (by omega))]; exact hl, rfl, by rw [ins_b (by omega) (.inl (by omega))]; exact hlog, hL⟩
  ·
   refine TL.nil ?_
   refine TQ.then_n ?_
   refine TC.cond_f rfl ?_
   refine TC.skip ?_
   refine TQ.then_n ?_
   refine TC.seq ?_
   refine TC.seq ?_
   refine TC.region ?_
   refine TL.move rfl rfl ?_
   refine TL.len_slice rfl rfl ?_
   refine TL.gtrB rfl rfl rfl (fun h1 => ?_) (fun h1 => ?_)
   ·
    refine TL.nil ?_
    refine TQ.then_n ?_
    refine TC.cond_t rfl ?_
    refine TC.seq ?_
    refine TC.region ?_
    refine TL.move rfl rfl ?_
    refine TL.move rfl rfl ?_
    refine TL.call (ref_sames hl hr) ⟨rfl, rfl, trivial⟩ rfl ?_
    rintro _ _ H2 ⟨rfl, rfl, hle2⟩
    have hL := Le.trans hL hle2
    have hl := rd.mono hle2 hl
    have hr := rd.mono hle2 hr
    have hA := rd.mono hle2 hA
    have hlog := RLog.mono hle2 hlog
    refine TL.assign rfl rfl ?_
    refine TL.nil ?_
    refine TQ.then_n ?_
    refine TC.seq ?_
    refine TC.region ?_
    refine TL.move rfl rfl ?_
    refine TL.not rfl rfl ?_
    refine TL.nil ?_
    refine TQ.then_n ?_
    refine TC.cond rfl (fun hq => ?_) (fun hq => ?_)
    ·
     refine TC.seq ?_
     refine TC.region ?_
     refine TL.move rfl rfl ?_
     refine TL.move rfl rfl ?_
     refine TL.call (ref_conflict hps hA hlog) ⟨rfl, rfl, trivial⟩ rfl ?_
     rintro _ _ H3 ⟨u3, rfl, rfl, hlog3, hle3⟩
     replace hlog3 : RLog _ u3 _ := hlog3
     have hL := Le.trans hL hle3
     have hl := rd.mono hle3 hl
     have hr := rd.mono hle3 hr
     have hA := rd.mono hle3 hA
     have hlog := RLog.mono hle3 hlog
     refine TL.nil ?_
     refine TQ.then_n ?_
     refine TC.seq ?_
     refine TC.region ?_
     refine TL.assign rfl rfl ?_
     refine TL.nil ?_
     refine TQ.then_n ?_
     refine TC.ret ?_
     refine TQ.then_r ?_
     refine TQ.ret1 0 rfl rfl ?_
     first
       | exact ⟨_, by rw [ins_a (by omega)]; exact hr, rfl, by rw [ins_a (by omega)]; exact hlog, hL⟩
       | exact ⟨_, by rw [ins_c (by omega) (by omega) (by simpa [Tr.eqbs_eq] using hq)]; exact rd.nil _ _, rfl, by rw [ins_c (by omega) (by omega) (by simpa [Tr.eqbs_eq] using hq)]; exact hlog3, hL⟩
       | exact ⟨_, by rw [ins_b (by omega) (.inr (by simpa [Tr.eqbs_eq] using hq))]; exact hl, rfl, by rw [ins_b (by omega) (.inr (by simpa [Tr.eqbs_eq] using hq))]; exact hlog, hL⟩
       | exact ⟨_, by rw [ins_b (by omega) (.inl (by omega))]; exact hl, rfl, by rw [ins_b (by omega) (.inl (by omega))]; exact hlog, hL⟩
    ·
     refine TC.skip ?_
     refine TQ.then_n ?_
     refine TC.seq ?_
     refine TC.region ?_
     refine TL.move rfl rfl ?_
     refine TL.assign rfl rfl ?_
     refine TL.nil ?_
     refine TQ.then_n ?_
     refine TC.ret ?_
     refine TQ.ret1 0 rfl rfl ?_
     first
       | exact ⟨_, by rw [ins_a (by omega)]; exact hr, rfl, by rw [ins_a (by omega)]; exact hlog, hL⟩
       | exact ⟨_, by rw [ins_c (by omega) (by omega) (by simpa [Tr.eqbs_eq] using hq)]; exact rd.nil _ _, rfl, by rw [ins_c (by omega) (by omega) (by simpa [Tr.eqbs_eq] using hq)]; exact hlog3, hL⟩
       | exact ⟨_, by rw [ins_b (by omega) (.inr (by simpa [Tr.eqbs_eq] using hq))]; exact hl, rfl, by rw [ins_b (by omega) (.inr (by simpa [Tr.eqbs_eq] using hq))]; exact hlog, hL⟩
       | exact ⟨_, by rw [ins_b (by omega) (.inl (by omega))]; exact hl, rfl, by rw [ins_b (by omega) (.inl (by omega))]; exact hlog, hL⟩
   ·
    refine TL.nil ?_
    refine TQ.then_n ?_
    refine TC.cond_f rfl ?_
    refine TC.skip ?_
    refine TQ.then_n ?_
    refine TC.seq ?_
    refine TC.region ?_
    refine TL.move rfl rfl ?_
    refine TL.assign rfl rfl ?_
    refine TL.nil ?_
    refine TQ.then_n ?_
    refine TC.ret ?_
    refine TQ.ret1 0 rfl rfl ?_
    first
      | exact ⟨_, by rw [ins_a (by omega)]; exact hr, rfl, by rw [ins_a (by omega)]; exact hlog, hL⟩
      | exact ⟨_, by rw [ins_c (by omega) (by omega) (by simpa [Tr.eqbs_eq] using hq)]; exact rd.nil _ _, rfl, by rw [ins_c (by omega) (by omega) (by simpa [Tr.eqbs_eq] using hq)]; exact hlog3, hL⟩
      | exact ⟨_, by rw [ins_b (by omega) (.inr (by simpa [Tr.eqbs_eq] using hq))]; exact hl, rfl, by rw [ins_b (by omega) (.inr (by simpa [Tr.eqbs_eq] using hq))]; exact hlog, hL⟩
      | exact ⟨_, by rw [ins_b (by omega) (.inl (by omega))]; exact hl, rfl, by rw [ins_b (by omega) (.inl (by omega))]; exact hlog, hL⟩

end Go.Proofs.Ytapmmfabdmhdnaa.K
