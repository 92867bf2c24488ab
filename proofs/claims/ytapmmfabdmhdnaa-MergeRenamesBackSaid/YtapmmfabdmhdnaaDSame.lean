/-
  Same of the program.
-/
import Derived.Test.YtapmmfabdmhdnaaSame
set_option linter.unusedVariables false
set_option linter.unusedSimpArgs false
set_option maxHeartbeats 4000000
namespace Go.Proofs.Ytapmmfabdmhdnaa.K
open Go Go.RowKit Go.Proofs

/-- What diff.Same does at two trees. -/
def SameOk (t u : Tr) : Prop := ∀ {w0 : World} {H : Hp} {own : List Seg} {a0 a1 b0 b1 : Value}, RdL H t.d [a0, a1] → RdL H u.d [b0, b1] →
    Fn Try.prog 53 [.agg #[a0, a1], .agg #[b0, b1]] w0 H own (fun v own' H' => v = .bool (t.eqb u) ∧ own' = own ∧ Le H H')
theorem eqf_len {ks ks' : List Tr} (h : (ks.length : Int) ≠ ks'.length) : Value.bool false = .bool (Tr.eqbs ks ks') := by
  rw [Tr.eqbs_eq, decide_eq_false (by rintro rfl; exact h rfl)]
theorem eqf_kid {ks ks' : List Tr} {k : Nat} {x y : Tr} (hx : ks[k]? = some x) (hy : ks'[k]? = some y) (h : x.eqb y = false) : Value.bool false = .bool (Tr.eqbs ks ks') := by
  rw [Tr.eqbs_eq, decide_eq_false]
  rintro rfl
  rw [hx] at hy
  injection hy with hy
  subst hy
  simp [Tr.eqb_eq] at h
theorem eqf_all {ks ks' : List Tr} {k : Nat} (hn : (ks.length : Int) = ks'.length) (h : ks.take k = ks'.take k) (hk : (ks.length : Int) ≤ k) : Value.bool true = .bool (Tr.eqbs ks ks') := by
  rw [List.take_of_length_le (by omega), List.take_of_length_le (by omega)] at h
  rw [Tr.eqbs_eq, decide_eq_true h]

theorem equalFunc_same {ks ks' : List Tr} (ih : ∀ x ∈ ks, ∀ y, SameOk x y) {w0 : World} {H : Hp} {own : List Seg} {va vb : Value} (hA : rd H (.s 2 (Tr.ds ks)) va) (hB : rd H (.s 2 (Tr.ds ks')) vb) :
    Fn Try.prog 75 [va, vb, .func (.func 53) #[] #[]] w0 H own (fun v own' H' => v = .bool (Tr.eqbs ks ks') ∧ own' = own ∧ Le H H') := by
  obtain ⟨A, c, rfl, hc1, hc2⟩ := trs_len hA
  obtain ⟨B, c', rfl, hc1', hc2'⟩ := trs_len hB
  refine Fn.enter Try.func75 rfl Try.ntmps75 rfl ?_
  have hL := Le.refl H
  refine TC.seq ?_
  refine TC.region ?_
  refine TL.assign rfl rfl ?_
  refine TL.nil ?_
  refine TQ.then_n ?_
  refine TC.seq ?_
  refine TC.seq ?_
  refine TC.region ?_
  refine TL.move rfl rfl ?_
  refine TL.len_slice rfl rfl ?_
  refine TL.move rfl rfl ?_
  refine TL.len_slice rfl rfl ?_
  refine TL.neqB rfl rfl rfl (fun hn => ?_) (fun hn => ?_)
  ·
   refine TL.nil ?_
   refine TQ.then_n ?_
   refine TC.cond_t rfl ?_
   refine TC.seq ?_
   refine TC.region ?_
   refine TL.assign rfl rfl ?_
   refine TL.nil ?_
   refine TQ.then_n ?_
   refine TC.ret ?_
   refine TQ.then_r ?_
   refine TQ.ret1 0 rfl rfl ?_
   refine ⟨?_, rfl, hL⟩
   first
     | exact eqf_len (by assumption)
     | exact eqf_kid hx hy hne
     | exact eqf_all hn hk2 hlt
  ·
   refine TL.nil ?_
   refine TQ.then_n ?_
   refine TC.cond_f rfl ?_
   refine TC.skip ?_
   refine TQ.then_n ?_
   refine TC.seq ?_
   refine TC.seq ?_
   refine TC.region ?_
   refine TL.move rfl rfl ?_
   refine TL.len_slice rfl rfl ?_
   refine TL.move rfl rfl ?_
   refine TL.nil ?_
   refine TQ.then_n ?_
   refine TC.block ?_
   refine TC.loop (fun n env' own' H' => ∃ k : Nat, n = ks.length - k ∧ k ≤ ks.length ∧ ks.take k = ks'.take k ∧ env' = [(1, .slice B ks'.length c'), (2, .func (.func 53) #[] #[]), (15, .slice A ks.length c), (16, .int .i64 (ks.length : Int)), (17, .int .i64 (k : Int))] ∧ own' = own ∧ Le H H') ks.length [(1, _), (2, _), (15, _), (16, _), (17, _)] ⟨rfl, rfl, rfl, rfl, rfl, trivial⟩ ⟨0, by omega, by omega, by simp, rfl, rfl, Le.refl _⟩ ?_
   rintro n _ _ H1 ⟨k, rfl, hk1, hk2, rfl, rfl, hle0⟩
   have hL := Le.trans hL hle0
   have hA := rd.mono hle0 hA
   have hB := rd.mono hle0 hB
   refine TC.seq ?_
   refine TC.region ?_
   refine TL.lssB rfl rfl rfl (fun hlt => ?_) (fun hlt => ?_)
   ·
    obtain ⟨x, hx⟩ : ∃ x, ks[k]? = some x := ⟨_, List.getElem?_eq_getElem (by omega)⟩
    obtain ⟨y, hy⟩ : ∃ y, ks'[k]? = some y := ⟨_, List.getElem?_eq_getElem (by omega)⟩
    obtain ⟨b1, o1, p0, p1, rfl, hp, hpr⟩ := trs_at hA hx
    obtain ⟨b2, o2, q0, q1, rfl, hq, hqr⟩ := trs_at hB hy
    refine TL.nil ?_
    refine TQ.then_n ?_
    refine TC.seq ?_
    refine TC.cond_t rfl ?_
    refine TC.skip ?_
    refine TQ.then_n ?_
    refine TC.seq ?_
    refine TC.block ?_
    refine TC.seq ?_
    refine TC.region ?_
    refine TL.move rfl rfl ?_
    refine TL.indexAddr (k) rfl rfl rfl (by omega) rfl ?_
    refine TL.load_immA rfl (hp) rfl rfl ?_
    refine TL.new rfl ?_; intro g8
    refine TL.assign rfl rfl ?_
    refine TL.storeA 0 0 (c' := #[_, _]) (own' := [(_, .cells #[_, _] _ _)] :: _) rfl rfl rfl rfl rfl (tr_ones hpr) (by simp) rfl rfl rfl ?_
    refine TL.nil ?_
    refine TQ.then_n ?_
    refine TC.seq ?_
    refine TC.region ?_
    refine TL.move rfl rfl ?_
    refine TL.move rfl rfl ?_
    refine TL.indexAddr (k) rfl rfl rfl (by omega) rfl ?_
    refine TL.load_immA rfl (hq) rfl rfl ?_
    refine TL.new rfl ?_; intro g9
    refine TL.storeA 0 0 (c' := #[_, _]) (own' := [(_, .cells #[_, _] _ _)] :: _) rfl rfl rfl rfl rfl (tr_ones hqr) (by simp) rfl rfl rfl ?_
    refine TL.nil ?_
    refine TQ.then_n ?_
    refine TC.seq ?_
    refine TC.region ?_
    refine TL.move rfl rfl ?_
    refine TL.load_ownA 1 0 [_, _] rfl rfl rfl ⟨rfl, rfl, trivial⟩ rfl rfl ?_
    refine TL.load_ownA 0 0 [_, _] rfl rfl rfl ⟨rfl, rfl, trivial⟩ rfl rfl ?_
    refine TL.callV (vs := [_, _]) rfl (ih x (List.mem_of_getElem? hx) y hpr hqr) ⟨rfl, rfl, trivial⟩ rfl rfl ?_
    rintro _ _ H2 ⟨rfl, rfl, hle2⟩
    have hL := Le.trans hL hle2
    have hA := rd.mono hle2 hA
    have hB := rd.mono hle2 hB
    have hle0 := Le.trans hle0 hle2
    have hp := hAt.mono hle2 hp
    have hpr := RdL.mono hle2 hpr
    have hq := hAt.mono hle2 hq
    have hqr := RdL.mono hle2 hqr
    refine TL.not rfl rfl ?_
    refine TL.nil ?_
    refine TQ.then_n ?_
    refine TC.cond rfl (fun hb => ?_) (fun hb => ?_)
    ·
     have hne : x.eqb y = false := by simpa using hb
     refine TC.seq ?_
     refine TC.region ?_
     refine TL.assign rfl rfl ?_
     refine TL.nil ?_
     refine TQ.then_n ?_
     refine TC.ret ?_
     refine TQ.in_r ?_
     refine TQ.then_r ?_
     refine TQ.then_r ?_
     refine TQ.in_r ?_
     refine TQ.then_r ?_
     refine TQ.ret1 2 rfl rfl ?_
     refine ⟨?_, rfl, hL⟩
     first
       | exact eqf_len (by assumption)
       | exact eqf_kid hx hy hne
       | exact eqf_all hn hk2 hlt
    ·
     replace hb : x = y := (Tr.eqb_iff x y).1 (by simpa using hb)
     refine TC.skip ?_
     refine TQ.in_n ?_
     refine TQ.then_n ?_
     refine TC.region ?_
     refine TL.add rfl rfl rfl ⟨by omega, by omega⟩ ?_
     refine TL.move rfl rfl ?_
     refine TL.nil ?_
     refine TQ.drop 2 ?_
     refine TQ.next (ks.length - (k + 1)) [(1, _), (2, _), (15, _), (16, _), (17, _)] (by omega) ⟨rfl, rfl, rfl, rfl, rfl, trivial⟩ ⟨k + 1, rfl, by omega, ?_, by simp, rfl, hle0⟩
     rw [List.take_add_one, List.take_add_one, hx, hy, hk2, hb]
   ·
    refine TL.nil ?_
    refine TQ.then_n ?_
    refine TC.seq ?_
    refine TC.cond_f rfl ?_
    refine TC.exit ?_
    refine TQ.then_e ?_
    refine TQ.then_e ?_
    refine TQ.in_e ?_
    refine TQ.then_n ?_
    refine TC.seq ?_
    refine TC.region ?_
    refine TL.assign rfl rfl ?_
    refine TL.nil ?_
    refine TQ.then_n ?_
    refine TC.ret ?_
    refine TQ.ret1 0 rfl rfl ?_
    refine ⟨?_, rfl, hL⟩
    first
      | exact eqf_len (by assumption)
      | exact eqf_kid hx hy hne
      | exact eqf_all hn hk2 hlt
theorem diff_same (k : Nat) : ∀ (t u : Tr), t.size ≤ k → SameOk t u := by
  induction k with
  | zero => intro t u h; have := t.size_pos; omega
  | succ k ih =>
    rintro ⟨l, ks⟩ ⟨l', ks'⟩ hk w0 H own a0 a1 b0 b1 ht hu
    obtain ⟨rfl, A, c, rfl, hc1, hc2, hA⟩ := tr_cells ht
    obtain ⟨rfl, B, c', rfl, hc1', hc2', hB⟩ := tr_cells hu
    refine Fn.enter Try.func53 rfl Try.ntmps53 rfl ?_
    have hL := Le.refl H
    refine TC.seq ?_
    refine TC.region ?_
    refine TL.box (c := #[_, _]) rfl rfl rfl ?_; intro g2
    refine TL.box (c := #[_, _]) rfl rfl rfl ?_; intro g3
    refine TL.assign rfl rfl ?_
    refine TL.nil ?_
    refine TQ.then_n ?_
    refine TC.seq ?_
    refine TC.region ?_
    refine TL.fieldAddr rfl rfl ?_
    refine TL.load_own 1 0 rfl rfl rfl rfl rfl ?_
    refine TL.fieldAddr rfl rfl ?_
    refine TL.load_own 0 0 rfl rfl rfl rfl rfl ?_
    refine TL.eqlSB rfl rfl rfl (fun hl => ?_) (fun hl => ?_)
    ·
     refine TL.move rfl rfl ?_
     refine TL.gyes rfl rfl rfl ?_
     refine TL.fieldAddr rfl rfl ?_
     refine TL.gyes rfl rfl rfl ?_
     refine TL.load_own 1 0 rfl rfl rfl rfl rfl ?_
     refine TL.gyes rfl rfl rfl ?_
     refine TL.fieldAddr rfl rfl ?_
     refine TL.gyes rfl rfl rfl ?_
     refine TL.load_own 0 0 rfl rfl rfl rfl rfl ?_
     refine TL.gyes rfl rfl rfl ?_
     refine TL.call (equalFunc_same (fun x hx y => ih x y (Tr.size_kid hx hk)) hA hB) ⟨rfl, rfl, rfl, trivial⟩ rfl ?_
     rintro _ _ H2 ⟨rfl, rfl, hle2⟩
     have hL := Le.trans hL hle2
     have hA := rd.mono hle2 hA
     have hB := rd.mono hle2 hB
     refine TL.pickT rfl rfl rfl rfl ?_
     refine TL.assign rfl rfl ?_
     refine TL.nil ?_
     refine TQ.then_n ?_
     refine TC.ret ?_
     refine TQ.ret1 2 rfl rfl ?_
     refine ⟨?_, rfl, hL⟩
     first
       | rw [Tr.eqb, bytes_beq, decide_eq_true hl]; rfl
       | rw [Tr.eqb, bytes_beq, decide_eq_false hl]; rfl
    ·
     refine TL.move rfl rfl ?_
     refine TL.gno rfl rfl rfl rfl ?_
     refine TL.gno rfl rfl rfl rfl ?_
     refine TL.gno rfl rfl rfl rfl ?_
     refine TL.gno rfl rfl rfl rfl ?_
     refine TL.gno rfl rfl rfl rfl ?_
     refine TL.pickF rfl rfl rfl rfl ?_
     refine TL.assign rfl rfl ?_
     refine TL.nil ?_
     refine TQ.then_n ?_
     refine TC.ret ?_
     refine TQ.ret1 2 rfl rfl ?_
     refine ⟨?_, rfl, hL⟩
     first
       | rw [Tr.eqb, bytes_beq, decide_eq_true hl]; rfl
       | rw [Tr.eqb, bytes_beq, decide_eq_false hl]; rfl
theorem dsame (t u : Tr) : SameOk t u := diff_same t.size t u (Nat.le_refl _)

theorem merge_equal {ks ks' : List Tr} {w0 : World} {H : Hp} {own : List Seg} {va vb : Value} (hA : rd H (.s 2 (Tr.ds ks)) va) (hB : rd H (.s 2 (Tr.ds ks')) vb) :
    Fn Try.prog 78 [va, vb, .func (.func 53) #[] #[]] w0 H own (fun v own' H' => v = .bool (Tr.eqbs ks ks') ∧ own' = own ∧ Le H H') := by
  refine Fn.enter Try.func78 rfl Try.ntmps78 rfl ?_
  have hL := Le.refl H
  refine TC.seq ?_
  refine TC.region ?_
  refine TL.assign rfl rfl ?_
  refine TL.nil ?_
  refine TQ.then_n ?_
  refine TC.seq ?_
  refine TC.region ?_
  refine TL.move rfl rfl ?_
  refine TL.move rfl rfl ?_
  refine TL.move rfl rfl ?_
  refine TL.call (equalFunc_same (fun x _ y => dsame x y) hA hB) ⟨rfl, rfl, rfl, trivial⟩ rfl ?_
  rintro _ _ H2 ⟨rfl, rfl, hle2⟩
  have hL := Le.trans hL hle2
  have hA := rd.mono hle2 hA
  have hB := rd.mono hle2 hB
  refine TL.assign rfl rfl ?_
  refine TL.nil ?_
  refine TQ.then_n ?_
  refine TC.ret ?_
  refine TQ.ret1 0 rfl rfl ?_
  exact ⟨rfl, rfl, hL⟩

end Go.Proofs.Ytapmmfabdmhdnaa.K
