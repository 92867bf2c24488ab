/-
  The frame of a law: its arguments as data in blocks that stay; its end: true, and every argument reads as it did.
  Everything here is a lemma over an arbitrary program P; no condition beyond those typed.
-/
import Derived.Test.YtapmmfabdmhdnaaData
import Derived.ProofKit
import Derived.Deep.Slices
import Derived.OpenShut
set_option linter.unusedVariables false
set_option linter.unusedSimpArgs false
namespace Go.Proofs.Ytapmmfabdmhdnaa.K
open Go Go.RowKit Go.ChangeShapes Go.WideShapes Go.Deep

/-- Numbers as data: of a kind; three by three. -/
def kints (k : IntKind) (l : List Int) : List D := (l.map (Value.int k)).map D.c
def tripV : List (Int × Int × Int) → List Value
  | [] => []
  | (a, b, c) :: r => .int .i64 a :: .int .i64 b :: .int .i64 c :: tripV r
def trips (l : List (Int × Int × Int)) : List D := (tripV l).map D.c
theorem tripV_len : ∀ l : List (Int × Int × Int), (tripV l).length = l.length * 3
  | [] => rfl
  | (a, b, c) :: r => by simp [tripV, tripV_len r]; omega
theorem tripV_get : ∀ (l : List (Int × Int × Int)) (i : Nat) (q : Int × Int × Int), l[i]? = some q → (tripV l)[i * 3]? = some (.int .i64 q.1) ∧ (tripV l)[i * 3 + 1]? = some (.int .i64 q.2.1) ∧ (tripV l)[i * 3 + 2]? = some (.int .i64 q.2.2)
  | [], i, q, h => by simp at h
  | (a, b, c) :: r, 0, q, h => by simp at h; subst h; simp [tripV]
  | (a, b, c) :: r, i + 1, q, h => by
    have := tripV_get r i q (by simpa using h)
    rw [show (i + 1) * 3 = i * 3 + 1 + 1 + 1 by omega]
    simpa [tripV] using this
abbrev InK (k : IntKind) (n : Int) : Prop := k.min ≤ n ∧ n ≤ k.max
theorem lit_in {k : IntKind} {n : Int} (h : (Lit.int k n).wf = true) : InK k n := by
  unfold Lit.wf at h
  simp only [Bool.and_eq_true, decide_eq_true_eq] at h
  exact h
theorem inK_i64 {n : Int} (h : InK .i64 n) : -9223372036854775808 ≤ n ∧ n ≤ 9223372036854775807 := by
  have e1 : IntKind.i64.min = -9223372036854775808 := by decide
  have e2 : IntKind.i64.max = 9223372036854775807 := by decide
  obtain ⟨h1, h2⟩ := h
  rw [e1] at h1; rw [e2] at h2
  exact ⟨h1, h2⟩

def allH (W : World) : Hp := fun b => W.heap[b]?
theorem St.all (W : World) : St W (allH W) [] W := ⟨rfl, ⟨rfl, Nat.le_refl _⟩, rfl, fun _ _ h => h, by simp, by simp, by simp⟩

theorem spot_none {W : World} {a : Addr} {v : Value} (h : W.cell? a = some v) : a = ⟨a.block, a.off, none⟩ := by
  obtain ⟨b, o, s⟩ := a
  cases s with
  | none => rfl
  | some s =>
    unfold World.cell? at h
    split at h <;> simp at h
theorem cel_of {W : World} {b o : Nat} {v : Value} (h : W.cell? ⟨b, o, none⟩ = some v) : cel (allH W) b o = some v := by
  unfold World.cell? at h
  unfold cel allH
  split at h
  · rename_i hb
    rw [hb]
    simpa using h
  · cases h
theorem add_zero' (a : Addr) : a.add 0 = a := by unfold Addr.add; simp
theorem block_add (a : Addr) (i : Nat) : (a.add i).block = a.block := by unfold Addr.add; split <;> rfl

section
variable {P : Program} {H : Type} {enc : TypeId × Value → H} {W : World}

theorem open_kints {t e : TypeId} {k : IntKind} (ht : P.underlying t = some (.slice e)) (he : P.underlying e = some (.int k)) (hc : P.cellsOf e = 1) {a : Option Addr} {len cap : Nat} {d : DataW H} {ps : List MemPlace}
    (h : DataW.Trod enc P W 0 (fun _ => true) true t (.slice a len cap) d ps) : ∃ l : List Int, (∀ n ∈ l, InK k n) ∧ rd (allH W) (.s 1 (kints k l)) (.slice a len cap) := by
  obtain ⟨fuel, hf⟩ := h
  have hcs : (Value.slice a len cap).cells.toList = [.slice a len cap] := rfl
  rw [hcs] at hf
  rcases open_ints ht he hc hf with ⟨hcs, _⟩ | ⟨a, len', cap', zs, hcs, _, hl, hm, hz, _, hcell, hwz⟩
  · simp only [List.cons.injEq, Value.slice.injEq, and_true] at hcs
    obtain ⟨rfl, rfl, rfl⟩ := hcs
    exact ⟨[], by simp, rd.nil _ _⟩
  · simp only [List.cons.injEq, Value.slice.injEq, and_true] at hcs
    obtain ⟨rfl, rfl, rfl⟩ := hcs
    simp only [if_true] at hz
    refine ⟨zs.take len, fun n hn => ?_, ?_⟩
    · exact lit_in (hwz n (List.mem_of_mem_take hn))
    · simp only [rd]
      refine ⟨_, _, _, rfl, by simp [kints]; omega, hl, by simpa [maxLen] using hm, ?_⟩
      by_cases h0 : len = 0
      · exact .inl h0
      · have e := hcell 0 (by omega)
        rw [add_zero'] at e
        have ea := spot_none e
        refine .inr ⟨a.block, a.off, by rw [← ea], rds.mk fun i x hx => ?_⟩
        simp only [kints, List.getElem?_map, List.getElem?_take] at hx
        split at hx
        · rename_i hlt
          have h1 := hcell i (by omega)
          have h2 : zs[i]? = some zs[i] := List.getElem?_eq_getElem (by omega)
          rw [h2] at hx
          simp only [Option.map_some, Option.some.injEq] at hx
          subst hx
          refine ⟨.int k zs[i], ?_, by simp [rd]⟩
          rw [ea, add_off] at h1
          rw [List.getD_eq_getElem?_getD, h2] at h1
          exact cel_of h1
        · simp at hx

theorem open_trips {t e i : TypeId} (ht : P.underlying t = some (.slice e)) (he : P.underlying e = some (.array 3 i)) (hi : P.underlying i = some (.int .i64)) (hc : P.cellsOf e = 3) (hc1 : P.cellsOf i = 1) {a : Option Addr} {len cap : Nat} {d : DataW H} {ps : List MemPlace}
    (h : DataW.Trod enc P W 0 (fun _ => true) true t (.slice a len cap) d ps) : ∃ l : List (Int × Int × Int), (∀ q ∈ l, InK .i64 q.1 ∧ InK .i64 q.2.1 ∧ InK .i64 q.2.2) ∧ rd (allH W) (.s 3 (trips l)) (.slice a len cap) := by
  obtain ⟨fuel, hf⟩ := h
  have hcs : (Value.slice a len cap).cells.toList = [.slice a len cap] := rfl
  rw [hcs] at hf
  rcases open_slice ht hf with ⟨hcs, _⟩ | ⟨a, len', cap', m, n, D, Pl, hcs, _, hl, hm, hmm, _, hcell⟩
  · simp only [List.cons.injEq, Value.slice.injEq, and_true] at hcs
    obtain ⟨rfl, rfl, rfl⟩ := hcs
    exact ⟨[], by simp, rd.nil _ _⟩
  · simp only [List.cons.injEq, Value.slice.injEq, and_true] at hcs
    obtain ⟨rfl, rfl, rfl⟩ := hcs
    simp only [if_true] at hmm
    subst hmm
    have one : ∀ j, j < len → ∃ q : Int × Int × Int, (InK .i64 q.1 ∧ InK .i64 q.2.1 ∧ InK .i64 q.2.2) ∧ W.cell? (a.add (j * 3)) = some (.int .i64 q.1) ∧ W.cell? (a.add (j * 3 + 1)) = some (.int .i64 q.2.1) ∧ W.cell? (a.add (j * 3 + 2)) = some (.int .i64 q.2.2) := by
      intro j hj
      obtain ⟨cs', h1, h2⟩ := hcell j (by omega)
      rw [hc] at h1
      obtain ⟨_, hlen, hget⟩ := World.cells?_some h1
      obtain ⟨xs, mm, _, _, _, hxs, hel⟩ := DataW.trod_array he h2
      match cs', hlen, hget, hel with
      | [c0, c1, c2], _, hget, hel =>
        have e0 := hel 0 (by omega)
        have e1 := hel 1 (by omega)
        have e2 := hel 2 (by omega)
        rw [List.getElem?_eq_getElem (by omega)] at e0 e1 e2
        rw [hc1] at e0 e1 e2
        obtain ⟨n0, g0, _, w0⟩ := DataW.trod_int hi e0
        obtain ⟨n1, g1, _, w1⟩ := DataW.trod_int hi e1
        obtain ⟨n2, g2, _, w2⟩ := DataW.trod_int hi e2
        simp at g0 g1 g2
        subst g0; subst g1; subst g2
        have k0 := hget 0 (by omega)
        have k1 := hget 1 (by omega)
        have k2 := hget 2 (by omega)
        rw [add_zero'] at k0
        rw [add_add] at k1 k2
        exact ⟨(n0, n1, n2), ⟨lit_in w0, lit_in w1, lit_in w2⟩, by simpa using k0, by simpa using k1, by simpa using k2⟩
    obtain ⟨f, hF⟩ := choose_lt one
    refine ⟨(List.range len).map f, fun q hq => ?_, ?_⟩
    · obtain ⟨j, hj, rfl⟩ := List.mem_map.1 hq
      exact (hF j (List.mem_range.1 hj)).1
    · simp only [rd]
      refine ⟨_, _, _, rfl, by simp [trips, tripV_len], hl, by simpa [maxLen] using hm, ?_⟩
      by_cases h0 : len = 0
      · exact .inl h0
      · have e := (hF 0 (by omega)).2.1
        rw [Nat.zero_mul, add_zero'] at e
        have ea := spot_none e
        refine .inr ⟨a.block, a.off, by rw [← ea], rds.mk fun x y hx => ?_⟩
        simp only [trips, List.getElem?_map] at hx
        obtain ⟨v, hv, rfl⟩ := Option.map_eq_some_iff.1 hx
        refine ⟨v, ?_, by simp [rd]⟩
        have hlt : x < len * 3 := by
          have := (List.getElem?_eq_some_iff.1 hv).1
          rw [tripV_len] at this
          simpa using this
        have hj := hF (x / 3) (by omega)
        have hg := tripV_get ((List.range len).map f) (x / 3) (f (x / 3)) (by simp [show x / 3 < len by omega])
        obtain ⟨y, hy⟩ : ∃ y, x / 3 = y := ⟨_, rfl⟩
        rw [hy] at hj hg
        have hc3 : x = y * 3 ∨ x = y * 3 + 1 ∨ x = y * 3 + 2 := by omega
        rcases hc3 with hx3 | hx3 | hx3
        · have h1 := hj.2.1
          rw [hx3, hg.1] at hv
          injection hv with hv
          rw [← hv, hx3]
          rw [ea, add_off] at h1
          exact cel_of h1
        · have h1 := hj.2.2.1
          rw [hx3, hg.2.1] at hv
          injection hv with hv
          rw [← hv, hx3]
          rw [ea, add_off] at h1
          exact cel_of h1
        · have h1 := hj.2.2.2
          rw [hx3, hg.2.2] at hv
          injection hv with hv
          rw [← hv, hx3]
          rw [ea, add_off] at h1
          exact cel_of h1

theorem args_stay (hl : laidOutB P = true) {W' : World} (hb : ∀ k, k < W.heap.size → W'.heap[k]? = W.heap[k]?) {sp : Nat → Bool} : ∀ {ts : List TypeId} {vs : List Value} {ds : List (DataW H)} {ps : List MemPlace},
    (ts.all fun t => P.readableRec t && decide (t < P.types.size)) = true → DataW.TrodAll enc P W 0 (fun _ => true) true ts vs ds ps → (∀ x ∈ ps, x.block < W.heap.size) → (∀ x ∈ ps, sp x.block = true) → DataW.TrodAll enc P W' 0 sp true ts vs ds ps
  | [], [], [], _, _, h, _, _ => h
  | t :: ts, v :: vs, d :: ds, _, hts, h, hlt, hsp => by
    obtain ⟨p, q, h1, h2, rfl⟩ := h
    simp only [List.all_cons, Bool.and_eq_true, decide_eq_true_eq] at hts
    refine ⟨p, q, WideElems.Trod_stays hl hts.1.1 hts.1.2 h1 (fun x hx => ?_) (fun x hx => hsp x (List.mem_append_left _ hx)), args_stay hl hb hts.2 h2 (fun x hx => hlt x (List.mem_append_right _ hx)) (fun x hx => hsp x (List.mem_append_right _ hx)), rfl⟩
    have hx' := hlt x (List.mem_append_left _ hx)
    cases x with
    | cell b o => exact World.cell?_of_block (w := W) (hb b hx')
    | map b => exact hb b hx'

/-- The post of a law that answers true and leaves the blocks as they were. -/
theorem law_post {f : Func} {s : ChangeSpec} {apart fresh handsOn again : Bool} {W' : World} {args : Array Value} {ds gs : List (DataW H)} {before : List MemPlace} {bt : TypeId} (hl : laidOutB P = true)
    (hW : DataW.Whole enc P f.params.toList s.vars apart W args.toList ds gs before) (hvs : s.vars = []) (hfn : s.fn H (ds ++ gs) = { results := [.lit (.bool true)], args := ds }) (hrt : f.resultTypes = #[bt]) (hbt : P.underlying bt = some .bool)
    (hts : (f.params.toList.all fun t => P.readableRec t && decide (t < P.types.size)) = true)
    (hos : W'.os = W.os) (hout : W'.output = W.output) (hb : ∀ k, k < W.heap.size → W'.heap[k]? = W.heap[k]?) : s.post enc P f apart fresh handsOn again W args (.bool true) W' := by
  have hlt := hW.lt
  have hW0 := hW
  obtain ⟨p, q, hA, hV, rfl, hfz, hnd⟩ := hW
  have hq : q = [] := by
    rw [hvs] at hV
    obtain ⟨_, rfl⟩ := trodVars_none hV
    rfl
  subst hq
  have hg : gs = [] := by
    rw [hvs] at hV
    obtain ⟨rfl, _⟩ := trodVars_none hV
    rfl
  subst hg
  simp only [List.append_nil] at hlt hfz hnd hW0
  have hres : ∀ (b : Nat) (sp : Nat → Bool) (hd : Bool), DataW.TrodAll enc P W' b sp hd f.resultTypes.toList ((Value.bool true).resultList f.resultTypes.size) (s.fn H (ds ++ [])).results [] := by
    intro b sp hd
    rw [hfn, hrt]
    exact trodAll_mk1 (shut_bool hbt true)
  have hargs : ∀ sp : Nat → Bool, (∀ x ∈ p, sp x.block = true) → DataW.TrodAll enc P W' 0 sp true f.params.toList args.toList (s.fn H (ds ++ [])).args p := by
    intro sp hsp
    rw [hfn]
    exact args_stay hl hb hts hA hlt hsp
  have hvars : ∀ sp : Nat → Bool, DataW.TrodVars enc P W' sp s.vars (s.fn H (ds ++ [])).vars [] := by
    intro sp
    rw [hfn, hvs]
    rfl
  have hok : ∀ (j : Nat) (t : TypeId) (r : Value), f.resultTypes[j]? = some t → ((Value.bool true).resultList f.resultTypes.size)[j]? = some r → Value.okWide P W' .any 0 t r := by
    rw [hrt]
    intro j t r hj hr
    match j, hj, hr with
    | 0, hj, hr =>
      simp [Value.resultList] at hj hr
      subst hj; subst hr
      simp [Value.okWide, hbt, Cell.okWide, Cell.ok]
    | j + 1, hj, hr => simp at hj
  have hk : W.keptBut W' (fun x => x ∈ p ∧ (x ∈ ([] : List MemPlace) ∨ x ∈ p ∨ x ∈ ([] : List MemPlace))) := by
    refine ⟨hos, hout, fun i hi => ?_⟩
    rw [hb i hi]
    split <;> simp_all
  have hfz' : W'.noneFrozen p := by
    intro b off hp
    have := hfz b off hp
    rw [← this]
    exact World.frozen?_of_block (w := W) (hb b (hlt _ hp))
  refine ⟨ds, [], p, [], p, [], by simpa using hW0, hres _ _ _, hargs _ (fun x hx => by simpa using hlt x hx), hvars _, hk, fun _ => ⟨hok, _, _, ([] ++ p) ++ [], ⟨[] ++ p, [], trodAll_append (hargs _ (fun _ _ => rfl)) (hres _ _ _), hvars _, rfl, by simpa using hfz', fun ha => by simpa using hnd ha⟩, fun x hx _ => by simpa using hx⟩⟩
end
section
theorem trips_len {H : Hp} {l : List (Int × Int × Int)} {v : Value} (h : rd H (.s 3 (trips l)) v) : ∃ A c, v = .slice A l.length c ∧ l.length ≤ c ∧ c ≤ 9223372036854775807 := by
  obtain ⟨A, n, c, rfl, h1, h2, h3⟩ := h.s_len
  have e : (trips l).length = l.length * 3 := by simp [trips, tripV_len]
  have : n = l.length := by omega
  subst this
  exact ⟨A, c, rfl, h2, h3⟩
theorem trips_at {H : Hp} {l : List (Int × Int × Int)} {A : Option Addr} {n c : Nat} (h : rd H (.s 3 (trips l)) (.slice A n c)) {i : Nat} {q : Int × Int × Int} (hi : l[i]? = some q) :
    ∃ b o, A = some ⟨b, o, none⟩ ∧ hAt H b (o + i * 3) [.int .i64 q.1, .int .i64 q.2.1, .int .i64 q.2.2] := by
  have hlt : i < l.length := (List.getElem?_eq_some_iff.1 hi).1
  have hn : n = l.length := by
    obtain ⟨A', c', e, _⟩ := trips_len h
    injection e
  subst hn
  obtain ⟨_, b, o, rfl, hr⟩ := h.s_at (by omega)
  obtain ⟨g0, g1, g2⟩ := tripV_get l i q hi
  obtain ⟨u0, h0, r0⟩ := hr.get (i * 3) (.c (.int .i64 q.1)) (by simp only [trips, List.getElem?_map, g0]; rfl)
  obtain ⟨u1, h1, r1⟩ := hr.get (i * 3 + 1) (.c (.int .i64 q.2.1)) (by simp only [trips, List.getElem?_map, g1]; rfl)
  obtain ⟨u2, h2, r2⟩ := hr.get (i * 3 + 2) (.c (.int .i64 q.2.2)) (by simp only [trips, List.getElem?_map, g2]; rfl)
  simp only [rd] at r0 r1 r2
  subst r0; subst r1; subst r2
  exact ⟨b, o, rfl, h0, by rw [← h1]; congr 1, by rw [← h2]; congr 1, trivial⟩
end
end Go.Proofs.Ytapmmfabdmhdnaa.K
