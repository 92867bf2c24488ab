/-
  grower: the numbers become a tree.
-/
import Derived.Test.YtapmmfabdmhdnaaMade1
set_option linter.unusedVariables false
set_option linter.unusedSimpArgs false
set_option maxHeartbeats 4000000
namespace Go.Proofs.Ytapmmfabdmhdnaa.K
open Go Go.RowKit Go.Proofs

/-- Numbers as data. -/
def ints (l : List Int) : List D := (l.map (Value.int .i64)).map D.c

def gnext (l : List Int) (at_ : Nat) (m : Int) : Int × Nat := if at_ < l.length then (l.getD at_ 0 % m, at_ + 1) else (0, at_)
def growK (f : Nat → Tr × Nat) : Nat → Nat → List Tr × Nat
  | 0, at_ => ([], at_)
  | n + 1, at_ => ((growK f n at_).1 ++ [(f (growK f n at_).2).1], (f (growK f n at_).2).2)
def lab1 (x : Int) : ByteArray := ⟨[UInt8.ofNat (97 + x.toNat)].toArray⟩
def grow (l : List Int) : Nat → Nat → Tr × Nat
  | 0, at_ => (.node (lab1 (gnext l at_ 6).1) [], (gnext l (gnext l at_ 6).2 5).2)
  | d + 1, at_ =>
    (.node (lab1 (gnext l at_ 6).1) (growK (grow l d) (gnext l (gnext l at_ 6).2 5).1.toNat (gnext l (gnext l at_ 6).2 5).2).1,
      (growK (grow l d) (gnext l (gnext l at_ 6).2 5).1.toNat (gnext l (gnext l at_ 6).2 5).2).2)
def cntK (d : Nat) (n : Int) : Nat := if d = 0 then 0 else n.toNat
theorem grow_eq (l : List Int) (d at_ : Nat) : grow l d at_ =
    (.node (lab1 (gnext l at_ 6).1) (growK (grow l (d - 1)) (cntK d (gnext l (gnext l at_ 6).2 5).1) (gnext l (gnext l at_ 6).2 5).2).1,
      (growK (grow l (d - 1)) (cntK d (gnext l (gnext l at_ 6).2 5).1) (gnext l (gnext l at_ 6).2 5).2).2) := by
  cases d <;> simp [grow, cntK, growK]
theorem gnext_le {l : List Int} {at_ : Nat} {m : Int} (h : at_ ≤ l.length) : (gnext l at_ m).2 ≤ l.length := by unfold gnext; split <;> simp <;> omega
theorem gnext_bd {l : List Int} {at_ : Nat} {m : Int} (hm : 0 < m) : 0 ≤ (gnext l at_ m).1 ∧ (gnext l at_ m).1 < m := by
  unfold gnext
  split
  · exact ⟨Int.emod_nonneg _ (by omega), Int.emod_lt_of_pos _ hm⟩
  · exact ⟨Int.le_refl _, hm⟩
theorem growK_le {l : List Int} {f : Nat → Tr × Nat} (hf : ∀ a, a ≤ l.length → (f a).2 ≤ l.length) {at_ : Nat} (h : at_ ≤ l.length) : ∀ n, (growK f n at_).2 ≤ l.length
  | 0 => h
  | n + 1 => hf _ (growK_le hf h n)
theorem grow_le (l : List Int) : ∀ (d at_ : Nat), at_ ≤ l.length → (grow l d at_).2 ≤ l.length
  | 0, at_, h => gnext_le (gnext_le h)
  | d + 1, at_, h => growK_le (grow_le l d) (gnext_le (gnext_le h)) _

theorem ref_next {l : List Int} (hl : ∀ n ∈ l, I64 n) {at_ : Nat} {m : Int} (hat : at_ ≤ l.length) (hm : 0 < m) (hm2 : m ≤ 1000) {w0 : World} {H : Hp} {own : List Seg} {gg : Nat} {v : Value} (hA : rd H (.s 1 (ints l)) v) :
    Fn Try.prog 48 [.pointer (some ⟨gg, 0, none⟩), .int .i64 m] w0 H ([(gg, .cells #[v, .int .i64 (at_ : Int)] 70 (0, 0))] :: own)
      (fun r own' H' => r = .int .i64 (gnext l at_ m).1 ∧ own' = [(gg, .cells #[v, .int .i64 ((gnext l at_ m).2 : Int)] 70 (0, 0))] :: own ∧ Le H H') := by
  obtain ⟨A, c, rfl, hc1, hc2⟩ := vals_len hA
  simp only [List.length_map] at hA hc1 ⊢
  refine Fn.enter Try.func48 rfl Try.ntmps48 rfl ?_
  have hL := Le.refl H
  refine TC.seq ?_
  refine TC.region ?_
  refine TL.assign rfl rfl ?_
  refine TL.nil ?_
  refine TQ.then_n ?_
  refine TC.seq ?_
  refine TC.seq ?_
  refine TC.drawQV 9  [(0, _), (1, _), (4, _)] follows_mixed ⟨rfl, rfl, rfl, trivial⟩ ?_
  refine ChainV.q (some 5) [] (by
   intro H' X F hle
   intro hF
   refine TL.move rfl rfl ?_
   refine TL.nil ?_
   exact TQ.one [] hF (Le.refl _) ⟨rfl, rfl⟩) ?_
  refine ChainV.q (some 6) [(0, 0)] (by
   intro H' X F hle
   intro hF
   refine TL.nilCheck rfl rfl ?_
   refine TL.nil ?_
   exact TQ.one [] hF (Le.refl _) ⟨rfl, rfl⟩) ?_
  refine ChainV.q (some 7) [(1, 0)] (by
   intro H' X F hle
   intro hF
   refine TL.fieldAddr rfl rfl ?_
   refine TL.nil ?_
   exact TQ.one [] hF (Le.refl _) ⟨rfl, rfl⟩) ?_
  refine ChainV.q (some 8) [(2, 0)] (by
   intro H' X F hle
   have hL := Le.trans hL hle
   have hA := rd.mono hle hA
   intro hF
   refine TL.load_own 0 0 rfl rfl rfl rfl rfl ?_
   refine TL.nil ?_
   exact TQ.one [] hF (Le.refl _) ⟨rfl, rfl⟩) ?_
  refine ChainV.q (some 9) [] (by
   intro H' X F hle
   intro hF
   refine TL.move rfl rfl ?_
   refine TL.nil ?_
   exact TQ.one [] hF (Le.refl _) ⟨rfl, rfl⟩) ?_
  refine ChainV.q (some 10) [(4, 0)] (by
   intro H' X F hle
   intro hF
   refine TL.nilCheck rfl rfl ?_
   refine TL.nil ?_
   exact TQ.one [] hF (Le.refl _) ⟨rfl, rfl⟩) ?_
  refine ChainV.q (some 11) [(5, 0)] (by
   intro H' X F hle
   intro hF
   refine TL.fieldAddr rfl rfl ?_
   refine TL.nil ?_
   exact TQ.one [] hF (Le.refl _) ⟨rfl, rfl⟩) ?_
  refine ChainV.q (some 12) [(6, 0)] (by
   intro H' X F hle
   have hL := Le.trans hL hle
   have hA := rd.mono hle hA
   intro hF
   refine TL.load_own 0 0 rfl rfl rfl rfl rfl ?_
   refine TL.nil ?_
   exact TQ.one [] hF (Le.refl _) ⟨rfl, rfl⟩) ?_
  refine ChainV.q (some 13) [(7, 0)] (by
   intro H' X F hle
   have hL := Le.trans hL hle
   have hA := rd.mono hle hA
   intro hF
   refine TL.len_slice rfl rfl ?_
   refine TL.nil ?_
   exact TQ.one [] hF (Le.refl _) ⟨rfl, rfl⟩) ?_
  refine ⟨by kernel_rfl, .refl _, ?_⟩
  ·
   intro H1 hle
   have hL := Le.trans hL hle
   have hA := rd.mono hle hA
   refine TL.toOwn (own' := _ :: own) rfl ?_
   refine TL.wk (env' := [(0, _), (1, _), (4, _), (8, _), (13, _)]) ⟨rfl, rfl, rfl, rfl, rfl, trivial⟩ ?_
   refine TL.geqB rfl rfl rfl (fun hge => ?_) (fun hge => ?_)
   ·
    have hg : gnext l at_ m = (0, at_) := by unfold gnext; rw [if_neg (by omega)]
    refine TL.nil ?_
    refine TQ.then_n ?_
    refine TC.cond_t rfl ?_
    refine TC.seq ?_
    refine TC.region ?_
    refine TL.assign rfl rfl ?_
    refine TL.nil ?_
    refine TQ.then_n ?_
    refine TC.ret ?_
    refine TQ.then_r ?_
    refine TQ.ret1 0 rfl rfl ?_
    exact ⟨by rw [hg], by rw [hg]; rfl, hL⟩
   ·
    have hlt : at_ < l.length := by omega
    obtain ⟨b1, o1, rfl, hp⟩ := vals_at hA (i := at_) (u := .int .i64 l[at_]) (by simp [hlt])
    have hx := hl l[at_] (List.getElem_mem hlt)
    have hg : gnext l at_ m = (l[at_] % m, at_ + 1) := by unfold gnext; rw [if_pos hlt]; simp [hlt]
    refine TL.nil ?_
    refine TQ.then_n ?_
    refine TC.cond_f rfl ?_
    refine TC.skip ?_
    refine TQ.then_n ?_
    refine TC.seq ?_
    refine TC.region ?_
    refine TL.move rfl rfl ?_
    refine TL.move rfl rfl ?_
    refine TL.nilCheck rfl rfl ?_
    refine TL.fieldAddr rfl rfl ?_
    refine TL.load_own 0 0 rfl rfl rfl rfl rfl ?_
    refine TL.add rfl rfl rfl ⟨by omega, by omega⟩ ?_
    refine TL.nilCheck rfl rfl ?_
    refine TL.fieldAddr rfl rfl ?_
    refine TL.store1 0 0 (c' := #[_, _]) (own' := [(_, .cells #[_, _] _ _)] :: _) rfl rfl rfl rfl rfl (by simp) rfl rfl rfl ?_
    refine TL.nil ?_
    refine TQ.then_n ?_
    refine TC.seq ?_
    refine TC.drawQV 12  [(0, _), (1, _), (4, _)] follows_mixed ⟨rfl, rfl, rfl, trivial⟩ ?_
    refine ChainV.q (some 23) [] (by
     intro H' X F hle
     intro hF
     refine TL.move rfl rfl ?_
     refine TL.nil ?_
     exact TQ.one [] hF (Le.refl _) ⟨rfl, rfl⟩) ?_
    refine ChainV.q (some 24) [(0, 0)] (by
     intro H' X F hle
     intro hF
     refine TL.nilCheck rfl rfl ?_
     refine TL.nil ?_
     exact TQ.one [] hF (Le.refl _) ⟨rfl, rfl⟩) ?_
    refine ChainV.q (some 25) [(1, 0)] (by
     intro H' X F hle
     intro hF
     refine TL.fieldAddr rfl rfl ?_
     refine TL.nil ?_
     exact TQ.one [] hF (Le.refl _) ⟨rfl, rfl⟩) ?_
    refine ChainV.q (some 26) [(2, 0)] (by
     intro H' X F hle
     have hL := Le.trans hL hle
     have hA := rd.mono hle hA
     have hp := cel_le hle hp
     intro hF
     refine TL.load_own 0 0 rfl rfl rfl rfl rfl ?_
     refine TL.nil ?_
     exact TQ.one [] hF (Le.refl _) ⟨rfl, rfl⟩) ?_
    refine ChainV.q (some 27) [] (by
     intro H' X F hle
     intro hF
     refine TL.move rfl rfl ?_
     refine TL.nil ?_
     exact TQ.one [] hF (Le.refl _) ⟨rfl, rfl⟩) ?_
    refine ChainV.q (some 28) [(4, 0)] (by
     intro H' X F hle
     intro hF
     refine TL.nilCheck rfl rfl ?_
     refine TL.nil ?_
     exact TQ.one [] hF (Le.refl _) ⟨rfl, rfl⟩) ?_
    refine ChainV.q (some 29) [(5, 0)] (by
     intro H' X F hle
     intro hF
     refine TL.fieldAddr rfl rfl ?_
     refine TL.nil ?_
     exact TQ.one [] hF (Le.refl _) ⟨rfl, rfl⟩) ?_
    refine ChainV.q (some 30) [(6, 0)] (by
     intro H' X F hle
     have hL := Le.trans hL hle
     have hA := rd.mono hle hA
     have hp := cel_le hle hp
     intro hF
     refine TL.load_own 0 0 rfl rfl rfl rfl rfl ?_
     refine TL.nil ?_
     exact TQ.one [] hF (Le.refl _) ⟨rfl, rfl⟩) ?_
    refine ChainV.q (some 31) [(7, 0)] (by
     intro H' X F hle
     intro hF
     refine TL.sub rfl rfl rfl ⟨by omega, by omega⟩ ?_
     refine TL.nil ?_
     exact TQ.one [] hF (Le.refl _) ⟨rfl, rfl⟩) ?_
    refine ChainV.q (some 32) [(3, 5), (8, 0)] (by
     intro H' X F hle
     intro hF
     refine TL.indexAddr (at_) rfl rfl (by omega) (by omega) rfl ?_
     refine TL.nil ?_
     exact TQ.one [] hF (Le.refl _) ⟨rfl, rfl⟩) ?_
    refine ChainV.q (some 33) [(9, 0)] (by
     intro H' X F hle
     have hL := Le.trans hL hle
     have hA := rd.mono hle hA
     have hp := cel_le hle hp
     intro hF
     refine TL.load_imm rfl (hp) rfl ?_
     refine TL.nil ?_
     exact TQ.one [] hF (Le.refl _) ⟨rfl, rfl⟩) ?_
    refine ChainV.q (some 34) [] (by
     intro H' X F hle
     intro hF
     refine TL.move rfl rfl ?_
     refine TL.nil ?_
     exact TQ.one [] hF (Le.refl _) ⟨rfl, rfl⟩) ?_
    refine ⟨by kernel_rfl, .refl _, ?_⟩
    ·
     intro H2 hle
     have hL := Le.trans hL hle
     have hA := rd.mono hle hA
     have hp := cel_le hle hp
     refine TL.toOwn (own' := _ :: own) rfl ?_
     refine TL.wk (env' := [(0, _), (4, _), (33, _), (34, _)]) ⟨rfl, rfl, rfl, rfl, trivial⟩ ?_
     refine TL.call (ref_Mod hx hm (by omega)) ⟨rfl, rfl, trivial⟩ rfl ?_
     rintro _ _ H2 ⟨rfl, rfl, hle2⟩
     have hL := Le.trans hL hle2
     have hA := rd.mono hle2 hA
     have hp := cel_le hle2 hp
     refine TL.assign rfl rfl ?_
     refine TL.nil ?_
     refine TQ.then_n ?_
     refine TC.ret ?_
     refine TQ.ret1 0 rfl rfl ?_
     exact ⟨by rw [hg], by rw [hg]; rfl, hL⟩
theorem lab_byte {x : Int} (h0 : 0 ≤ x) (h1 : x < 6) : IntKind.u8.wrap (97 + x) = ((UInt8.ofNat (97 + x.toNat)).toNat : Int) := by
  have : (UInt8.ofNat (97 + x.toNat)).toNat = 97 + x.toNat := by simp; omega
  rw [this]
  have : IntKind.u8.wrap (97 + x) = 97 + x := by
    simp only [IntKind.wrap, IntKind.bits, IntKind.signed, Bool.false_and, Bool.false_eq_true, if_false]
    omega
  rw [this]; omega

theorem ref_tree {l : List Int} (hl : ∀ n ∈ l, I64 n) (hll : l.length ≤ 9223372036854775807) (d : Nat) : ∀ {at_ : Nat} {deep : Int}, deep = (d : Int) → d ≤ 100 → at_ ≤ l.length → ∀ {w0 : World} {H : Hp} {own : List Seg} {gg : Nat} {v : Value}, rd H (.s 1 (ints l)) v →
    Fn Try.prog 28 [.pointer (some ⟨gg, 0, none⟩), .int .i64 deep] w0 H ([(gg, .cells #[v, .int .i64 (at_ : Int)] 70 (0, 0))] :: own)
      (fun r own' H' => ∃ c0 c1, r = .agg #[c0, c1] ∧ RdL H' (grow l d at_).1.d [c0, c1] ∧ own' = [(gg, .cells #[v, .int .i64 ((grow l d at_).2 : Int)] 70 (0, 0))] :: own ∧ Le H H') := by
  induction d using Nat.strongRecOn with
  | _ d ih =>
  intro at_ deep hdeep hd100 hat w0 H own gg v hA
  have hb1 := gnext_bd (l := l) (at_ := at_) (m := 6) (by omega)
  have ha1 := gnext_le (l := l) (at_ := at_) (m := 6) hat
  have hb2 := gnext_bd (l := l) (at_ := (gnext l at_ 6).2) (m := 5) (by omega)
  have ha2 := gnext_le (l := l) (at_ := (gnext l at_ 6).2) (m := 5) ha1
  rw [grow_eq]
  generalize hx1 : gnext l at_ 6 = x1 at *
  generalize hx2 : gnext l x1.2 5 = x2 at *
  have hlab := lab_byte hb1.1 hb1.2
  have hcnt : cntK d x2.1 ≤ 4 := by unfold cntK; split <;> omega
  refine Fn.enter Try.func28 rfl Try.ntmps28 rfl ?_
  have hL := Le.refl H
  refine TC.seq ?_
  refine TC.region ?_
  refine TL.new rfl ?_; intro g4
  refine TL.nil ?_
  refine TQ.then_n ?_
  refine TC.seq ?_
  refine TC.region ?_
  refine TL.move rfl rfl ?_
  refine TL.sel 2 [1, 0] rfl (fun o ho => ?_)
  simp only [K.sel, List.map_cons, List.map_nil, List.getD_cons_zero, List.getD_cons_succ, List.drop_succ_cons, List.drop_zero, List.cons_append, List.nil_append, List.set_cons_zero, List.set_cons_succ] at ho; subst ho
  refine TL.call (ref_next hl (m := 6) hat (by omega) (by omega) hA) ⟨rfl, rfl, trivial⟩ rfl ?_
  rintro _ _ H2 ⟨rfl, rfl, hle2⟩
  rw [hx1]
  have hL := Le.trans hL hle2
  have hA := rd.mono hle2 hA
  refine TL.add rfl rfl rfl ⟨by omega, by omega⟩ ?_
  refine TL.convI rfl rfl ?_
  refine TL.litF (r := [_]) [(0, [_])] ⟨rfl, ⟨_, rfl, rfl⟩, trivial⟩ rfl rfl rfl rfl ?_; intro g12
  refine TL.convBS 0 0 [UInt8.ofNat (97 + x1.1.toNat)] rfl rfl rfl rfl ⟨congrArg (fun z => some (Value.int .u8 z)) hlab, trivial⟩ rfl ?_
  refine TL.struct [(0, [_])] ⟨rfl, ⟨_, rfl, rfl⟩, trivial⟩ rfl rfl ?_
  refine TL.new rfl ?_; intro g5
  refine TL.storeA 0 0 (c' := #[_, _]) (own' := [(_, .cells #[_, _] _ _)] :: _) rfl rfl rfl rfl rfl ⟨rfl, rfl, trivial⟩ (by simp) rfl rfl rfl ?_
  refine TL.nil ?_
  refine TQ.then_n ?_
  refine TC.seq ?_
  refine TC.region ?_
  refine TL.move rfl rfl ?_
  refine TL.sel 4 [2, 0, 1, 3] rfl (fun o ho => ?_)
  simp only [K.sel, List.map_cons, List.map_nil, List.getD_cons_zero, List.getD_cons_succ, List.drop_succ_cons, List.drop_zero, List.cons_append, List.nil_append, List.set_cons_zero, List.set_cons_succ] at ho; subst ho
  refine TL.call (ref_next hl (m := 5) ha1 (by omega) (by omega) hA) ⟨rfl, rfl, trivial⟩ rfl ?_
  rintro _ _ H3 ⟨rfl, rfl, hle3⟩
  rw [hx2]
  have hL := Le.trans hL hle3
  have hA := rd.mono hle3 hA
  refine TL.assign rfl rfl ?_
  refine TL.nil ?_
  refine TQ.then_n ?_
  refine TC.seq ?_
  refine TC.seq ?_
  refine TC.sel 4 [0, 1, 3] rfl (fun o ho => ?_)
  simp only [K.sel, List.map_cons, List.map_nil, List.getD_cons_zero, List.getD_cons_succ, List.drop_succ_cons, List.drop_zero, List.cons_append, List.nil_append, List.set_cons_zero, List.set_cons_succ] at ho; subst ho
  refine TC.nilseg ?_
  refine TC.region ?_
  refine TL.assign rfl rfl ?_
  refine TL.nil ?_
  refine TQ.then_n ?_
  refine TC.block ?_
  refine TC.loop (fun n env' own' H' => ∃ k' u xs seg, n = cntK d x2.1 - k' ∧ k' ≤ cntK d x2.1 ∧ Row 27 2 u k' xs seg ∧ RdL H' (Tr.ds (growK (grow l (d - 1)) k' x2.2).1) xs ∧ env' = [(0, .pointer (some ⟨gg, 0, none⟩)), (1, .int .i64 deep), (4, .pointer (some ⟨g4, 0, none⟩)), (5, .pointer (some ⟨g5, 0, none⟩)), (6, .int .i64 x2.1), (7, .int .i64 (k' : Int))] ∧ own' = seg :: [(gg, .cells #[v, .int .i64 ((growK (grow l (d - 1)) k' x2.2).2 : Int)] 70 (0, 0))] :: [(g5, .cells #[.string (lab1 x1.1), u] 27 (0, 0))] :: [(g4, .cells #[.string ⟨#[]⟩, .slice none 0 0] 27 (0, 0))] :: own ∧ Le H3 H') (cntK d x2.1) [(0, _), (1, _), (4, _), (5, _), (6, _), (7, _)]  ⟨rfl, rfl, rfl, rfl, rfl, rfl, trivial⟩ ⟨0, _, [], [], by omega, by omega, Row.nil 27 2, trivial, rfl, rfl, Le.refl _⟩ ?_
  rintro n _ _ H4 ⟨k', u, xs, seg, rfl, hk1, hrow, hxs, rfl, rfl, hle0⟩
  have hL := Le.trans hL hle0
  have hA := rd.mono hle0 hA
  refine TC.seq ?_
  refine TC.seq ?_
  refine TC.region ?_
  refine TL.move rfl rfl ?_
  refine TL.move rfl rfl ?_
  refine TL.lssB rfl rfl rfl (fun hlt => ?_) (fun hlt => ?_)
  ·
   refine TL.move rfl rfl ?_
   refine TL.gyes rfl rfl rfl ?_
   refine TL.move rfl rfl ?_
   refine TL.gyes rfl rfl rfl ?_
   refine TL.gtrB rfl rfl rfl (fun hpos => ?_) (fun hpos => ?_)
   ·
    refine TL.pickT rfl rfl rfl rfl ?_
    refine TL.nil ?_
    refine TQ.then_n ?_
    refine TC.cond_t rfl ?_
    refine TC.skip ?_
    refine TQ.then_n ?_
    refine TC.seq ?_
    refine TC.block ?_
    have hd0 : 0 < d := by omega
    have hlt2 : k' < cntK d x2.1 := by
      have hc : cntK d x2.1 = (if d = 0 then 0 else x2.1.toNat) := rfl
      rw [if_neg (by omega)] at hc; omega
    refine TC.sel 4 [1, 0, 2, 3] rfl (fun o ho => ?_)
    simp only [K.sel, List.map_cons, List.map_nil, List.getD_cons_zero, List.getD_cons_succ, List.drop_succ_cons, List.drop_zero, List.cons_append, List.nil_append, List.set_cons_zero, List.set_cons_succ] at ho; subst ho
    refine TC.drawCV 7  [(0, _), (1, _), (4, _), (5, _), (6, _), (7, _)] follows_mixed ⟨rfl, rfl, rfl, rfl, rfl, rfl, trivial⟩ ?_
    refine ChainV.q (some 26) [] (by
     intro H' X F hle
     intro hF
     refine TL.fieldAddr rfl rfl ?_
     refine TL.nil ?_
     exact TQ.one [] hF (Le.refl _) ⟨rfl, rfl⟩) ?_
    refine ChainV.q (some 27) [(0, 0)] (by
     intro H' X F hle
     have hL := Le.trans hL hle
     have hA := rd.mono hle hA
     have hle0 := Le.trans hle0 hle
     have hxs := RdL.mono hle hxs
     intro hF
     refine TL.load_own 1 0 rfl rfl rfl rfl rfl ?_
     refine TL.nil ?_
     exact TQ.one [] hF (Le.refl _) ⟨rfl, rfl⟩) ?_
    refine ChainV.q (some 28) [] (by
     intro H' X F hle
     intro hF
     refine TL.move rfl rfl ?_
     refine TL.nil ?_
     exact TQ.one [] hF (Le.refl _) ⟨rfl, rfl⟩) ?_
    refine ChainV.q (some 29) [] (by
     intro H' X F hle
     intro hF
     refine TL.move rfl rfl ?_
     refine TL.nil ?_
     exact TQ.one [] hF (Le.refl _) ⟨rfl, rfl⟩) ?_
    refine ChainV.q (some 30) [(3, 0)] (by
     intro H' X F hle
     intro hF
     refine TL.sub rfl rfl rfl ⟨by omega, by omega⟩ ?_
     refine TL.nil ?_
     exact TQ.one [] hF (Le.refl _) ⟨rfl, rfl⟩) ?_
    refine ChainV.r (some 31) [(2, 2), (4, 0)] ([[(gg, .cells #[v, .int .i64 ((growK (grow l (d - 1)) k' x2.2).2 : Int)] 70 (0, 0))]]) (fun _ => fun u s H => ∃ c0 c1, u = .agg #[c0, c1] ∧ RdL H (grow l (d - 1) (growK (grow l (d - 1)) k' x2.2).2).1.d [c0, c1] ∧ s = [[(gg, .cells #[v, .int .i64 ((growK (grow l (d - 1)) (k' + 1) x2.2).2 : Int)] 70 (0, 0))]]) (by
     intro H' X F hle
     have hL := Le.trans hL hle
     have hA := rd.mono hle hA
     have hle0 := Le.trans hle0 hle
     have hxs := RdL.mono hle hxs
     intro hF
     refine TL.call (ih (d - 1) (by omega) (by omega) (by omega) (growK_le (grow_le l (d - 1)) ha2 k') hA) ⟨rfl, rfl, trivial⟩ rfl ?_
     rintro _ _ H5 ⟨c0, c1, rfl, hr, rfl, hle5⟩
     refine TL.nil ?_
     exact TQ.one [_] hF hle5 ⟨c0, c1, rfl, hr, rfl⟩) ?_
    refine ChainV.r (some 32) [(5, 0)] ([]) (fun _ => fun u s H => ∃ g c0 c1, u = .slice (some ⟨g, 0, none⟩) 1 1 ∧ s = [[(g, .cells #[c0, c1] 27 (0, 0))]] ∧ RdL H (grow l (d - 1) (growK (grow l (d - 1)) k' x2.2).2).1.d [c0, c1]) (by
     intro H' X F hle
     have hL := Le.trans hL hle
     have hA := rd.mono hle hA
     have hle0 := Le.trans hle0 hle
     have hxs := RdL.mono hle hxs
     intro _
     rintro _ _ Hr hler ⟨c0, c1, rfl, hr, rfl⟩
     intro hF
     refine TL.litF (r := [_, _]) [(0, [_, _])] ⟨rfl, ⟨_, rfl, rfl⟩, trivial⟩ rfl rfl rfl rfl ?_; intro g32
     refine TL.nil ?_
     exact TQ.one [_] hF (Le.refl _) ⟨_, _, _, rfl, rfl, RdL.mono hler hr⟩) ?_
    refine ⟨by kernel_rfl, .refl _, ?_⟩
    ·
     intro H1 hle
     rintro _ _ Hr hler ⟨c0, c1, rfl, hr, rfl⟩
     rintro _ _ Hr hler ⟨g32, d0, d1, rfl, rfl, hr⟩
     replace hr := RdL.mono hler hr
     have hL := Le.trans hL hle
     have hA := rd.mono hle hA
     have hle0 := Le.trans hle0 hle
     have hxs := RdL.mono hle hxs
     refine TL.toOwn (own' := _ :: _ :: _ :: _ :: _ :: own) rfl ?_
     refine TL.wk (env' := [(0, _), (1, _), (4, _), (5, _), (6, _), (7, _), (27, _), (32, _)]) ⟨rfl, rfl, rfl, rfl, rfl, rfl, rfl, rfl, trivial⟩ ?_
     refine TL.append 2 rfl rfl rfl hrow (Src.ofOwn 0 0 rfl rfl rfl (Ones.all (tr_ones hr)) ⟨rfl, rfl, trivial⟩) (by omega) (by omega) rfl ?_
     intro v' seg' hrow'
     refine TL.fieldAddr rfl rfl ?_
     refine TL.store1 3 0 (c' := #[_, _]) (own' := _ :: _ :: _ :: [(_, .cells #[_, _] _ _)] :: _) rfl rfl rfl rfl hrow'.one (by simp) rfl rfl rfl ?_
     refine TL.nil ?_
     refine TQ.in_n ?_
     refine TQ.then_n ?_
     refine TC.region ?_
     refine TL.move rfl rfl ?_
     refine TL.add rfl rfl rfl ⟨by omega, by omega⟩ ?_
     refine TL.assign rfl rfl ?_
     refine TL.nil ?_
     refine TQ.sel 5 [2, 1, 3, 4] rfl (fun o ho => ?_)
     simp only [K.sel, List.map_cons, List.map_nil, List.getD_cons_zero, List.getD_cons_succ, List.drop_succ_cons, List.drop_zero, List.cons_append, List.nil_append, List.set_cons_zero, List.set_cons_succ] at ho; subst ho
     refine TQ.next (cntK d x2.1 - (k' + 1)) [(0, _), (1, _), (4, _), (5, _), (6, _), (7, _)] (by omega) ⟨rfl, rfl, rfl, rfl, rfl, rfl, trivial⟩ ⟨k' + 1, v', _, seg', rfl, by omega, hrow', ?_, by simp, rfl, hle0⟩
     exact trs_snoc hxs hr
   ·
    refine TL.pickT rfl rfl rfl rfl ?_
    refine TL.nil ?_
    refine TQ.then_n ?_
    refine TC.cond_f rfl ?_
    refine TC.exit ?_
    refine TQ.then_e ?_
    refine TQ.then_e ?_
    refine TQ.in_e ?_
    refine TQ.then_n ?_
    refine TC.seq ?_
    refine TC.region ?_
    refine TL.load_ownA 2 0 [_, _] rfl rfl rfl ⟨rfl, rfl, trivial⟩ rfl rfl ?_
    refine TL.storeA 3 0 (c' := #[_, _]) (own' := _ :: _ :: _ :: [(_, .cells #[_, _] _ _)] :: _) rfl rfl rfl rfl rfl ⟨rfl, hrow.one, trivial⟩ (by simp) rfl rfl rfl ?_
    refine TL.nil ?_
    refine TQ.then_n ?_
    refine TC.ret ?_
    refine TQ.freeze (fun H2 hle hz_row => ?_)
    have hL := Le.trans hL hle
    have hA := rd.mono hle hA
    have hle0 := Le.trans hle0 hle
    have hxs := RdL.mono hle hxs
    have hk2 : k' = cntK d x2.1 := by
      have hc : cntK d x2.1 = (if d = 0 then 0 else x2.1.toNat) := rfl
      by_cases hd : d = 0
      · rw [if_pos hd] at hc; omega
      · rw [if_neg hd] at hc; omega
    refine TQ.sel 3 [2, 1, 0] rfl (fun o ho => ?_)
    simp only [K.sel, List.map_cons, List.map_nil, List.getD_cons_zero, List.getD_cons_succ, List.drop_succ_cons, List.drop_zero, List.cons_append, List.nil_append, List.set_cons_zero, List.set_cons_succ] at ho; subst ho
    refine TQ.retC 0 0 2 [_, _] rfl rfl rfl rfl ⟨rfl, rfl, trivial⟩ rfl rfl ?_
    subst hk2
    exact ⟨_, _, rfl, tr_mk (rd.ofRow hrow hz_row hxs (Le.refl _)), rfl, hL⟩
  ·
   refine TL.move rfl rfl ?_
   refine TL.gno rfl rfl rfl rfl ?_
   refine TL.gno rfl rfl rfl rfl ?_
   refine TL.pickF rfl rfl rfl rfl ?_
   refine TL.nil ?_
   refine TQ.then_n ?_
   refine TC.cond_f rfl ?_
   refine TC.exit ?_
   refine TQ.then_e ?_
   refine TQ.then_e ?_
   refine TQ.in_e ?_
   refine TQ.then_n ?_
   refine TC.seq ?_
   refine TC.region ?_
   refine TL.load_ownA 2 0 [_, _] rfl rfl rfl ⟨rfl, rfl, trivial⟩ rfl rfl ?_
   refine TL.storeA 3 0 (c' := #[_, _]) (own' := _ :: _ :: _ :: [(_, .cells #[_, _] _ _)] :: _) rfl rfl rfl rfl rfl ⟨rfl, hrow.one, trivial⟩ (by simp) rfl rfl rfl ?_
   refine TL.nil ?_
   refine TQ.then_n ?_
   refine TC.ret ?_
   refine TQ.freeze (fun H3 hle hz_row => ?_)
   have hL := Le.trans hL hle
   have hA := rd.mono hle hA
   have hle0 := Le.trans hle0 hle
   have hxs := RdL.mono hle hxs
   have hk2 : k' = cntK d x2.1 := by
     have hc : cntK d x2.1 = (if d = 0 then 0 else x2.1.toNat) := rfl
     by_cases hd : d = 0
     · rw [if_pos hd] at hc; omega
     · rw [if_neg hd] at hc; omega
   refine TQ.sel 3 [2, 1, 0] rfl (fun o ho => ?_)
   simp only [K.sel, List.map_cons, List.map_nil, List.getD_cons_zero, List.getD_cons_succ, List.drop_succ_cons, List.drop_zero, List.cons_append, List.nil_append, List.set_cons_zero, List.set_cons_succ] at ho; subst ho
   refine TQ.retC 0 0 2 [_, _] rfl rfl rfl rfl ⟨rfl, rfl, trivial⟩ rfl rfl ?_
   subst hk2
   exact ⟨_, _, rfl, tr_mk (rd.ofRow hrow hz_row hxs (Le.refl _)), rfl, hL⟩

end Go.Proofs.Ytapmmfabdmhdnaa.K
