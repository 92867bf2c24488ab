/-
  Mod and Size.
-/
import Derived.Test.YtapmmfabdmhdnaaSmall
set_option linter.unusedVariables false
set_option linter.unusedSimpArgs false
set_option maxHeartbeats 4000000
namespace Go.Proofs.Ytapmmfabdmhdnaa.K
open Go Go.RowKit Go.Proofs

theorem mod_eq {n m : Int} (hm : 0 < m) : ((n.tmod m + m).tmod m) = n % m := by
  have h1 := Int.emod_nonneg n (by omega : m ≠ 0)
  have h2 := Int.emod_lt_of_pos n hm
  have h3 := Int.tmod_lt_of_pos n hm
  have h4 : -m < n.tmod m := by
    have := Int.lt_tmod_of_pos n hm
    omega
  have h5 : (n.tmod m + m) % m = n % m := by
    rw [Int.add_emod_right]
    rw [Int.tmod_eq_emod]
    split
    · simp
    · rename_i hh
      have : ((m.natAbs : Int)) = m := by omega
      rw [this, Int.sub_emod_right]
      simp
  rw [Int.tmod_eq_emod_of_nonneg (by omega), h5]

theorem ref_Mod {n m : Int} (hn : I64 n) (hm : 0 < m) (hm2 : m ≤ 1099511627776) {w0 : World} {H : Hp} {own : List Seg} :
    Fn Try.prog 51 [.int .i64 n, .int .i64 m] w0 H own (fun v own' H' => v = .int .i64 (n % m) ∧ own' = own ∧ Le H H') := by
  have b1 := Int.tmod_lt_of_pos n hm
  have b2 : -m < n.tmod m := by
    have := Int.lt_tmod_of_pos n hm
    omega
  refine Fn.enter Try.func51 rfl Try.ntmps51 rfl ?_
  have hL := Le.refl H
  refine TC.seq ?_
  refine TC.region ?_
  refine TL.assign rfl rfl ?_
  refine TL.nil ?_
  refine TQ.then_n ?_
  refine TC.seq ?_
  refine TC.region ?_
  refine TL.move rfl rfl ?_
  refine TL.move rfl rfl ?_
  refine TL.rem rfl rfl rfl (by omega) ?_
  refine TL.move rfl rfl ?_
  refine TL.add rfl rfl rfl ⟨by omega, by omega⟩ ?_
  refine TL.move rfl rfl ?_
  refine TL.rem rfl rfl rfl (by omega) ?_
  refine TL.assign rfl rfl ?_
  refine TL.nil ?_
  refine TQ.then_n ?_
  refine TC.ret ?_
  refine TQ.ret1 0 rfl rfl ?_
  exact ⟨by rw [mod_eq hm], rfl, hL⟩
theorem Tr.sizes_take (ks : List Tr) (k : Nat) (x : Tr) (hx : ks[k]? = some x) : Tr.sizes (ks.take (k + 1)) = Tr.sizes (ks.take k) + x.size := by
  have gen : ∀ (a b : List Tr), Tr.sizes (a ++ b) = Tr.sizes a + Tr.sizes b := by
    intro a b
    induction a with
    | nil => simp [Tr.sizes]
    | cons t r ih => simp only [List.cons_append, Tr.sizes, ih]; omega
  rw [List.take_add_one, hx, gen]
  simp [Tr.sizes]
theorem Tr.sizes_take_le (ks : List Tr) : ∀ k, Tr.sizes (ks.take k) ≤ Tr.sizes ks := by
  induction ks with
  | nil => intro k; simp
  | cons t r ih =>
    intro k
    cases k with
    | zero => simp [Tr.sizes]
    | succ k => simp only [List.take_succ_cons, Tr.sizes]; have := ih k; omega

theorem ref_Size (k : Nat) : ∀ (t : Tr), t.size ≤ k → k ≤ 1073741824 → ∀ {w0 : World} {H : Hp} {own : List Seg} {a0 a1 : Value}, RdL H t.d [a0, a1] →
    Fn Try.prog 52 [.agg #[a0, a1]] w0 H own (fun v own' H' => v = .int .i64 (t.size : Int) ∧ own' = own ∧ Le H H') := by
  induction k with
  | zero => intro t h; have := t.size_pos; omega
  | succ k ih =>
    rintro ⟨l, ks⟩ hk hlim w0 H own a0 a1 ht
    obtain ⟨rfl, A, c, rfl, hc1, hc2, hA⟩ := tr_cells ht
    have hks : ks.length ≤ 1073741824 := by have := Tr.len_le ks; simp only [Tr.size] at hk; omega
    have hsz : Tr.sizes ks ≤ 1073741824 := by simp only [Tr.size] at hk; omega
    refine Fn.enter Try.func52 rfl Try.ntmps52 rfl ?_
    have hL := Le.refl H
    refine TC.seq ?_
    refine TC.region ?_
    refine TL.box (c := #[_, _]) rfl rfl rfl ?_; intro g1
    refine TL.assign rfl rfl ?_
    refine TL.nil ?_
    refine TQ.then_n ?_
    refine TC.seq ?_
    refine TC.region ?_
    refine TL.assign rfl rfl ?_
    refine TL.nil ?_
    refine TQ.then_n ?_
    refine TC.seq ?_
    refine TC.seq ?_
    refine TC.region ?_
    refine TL.assign rfl rfl ?_
    refine TL.nil ?_
    refine TQ.then_n ?_
    refine TC.block ?_
    refine TC.loop (fun n env' own' H' => ∃ k', n = ks.length - k' ∧ k' ≤ ks.length ∧ env' = [(1, .pointer (some ⟨g1, 0, none⟩)), (3, .int .i64 ((Tr.sizes (ks.take k') + 1 : Nat) : Int)), (4, .int .i64 (k' : Int))] ∧ own' = [(g1, .cells #[.string l, .slice A ks.length c] 27 (0, 0))] :: own ∧ Le H H') ks.length [(1, _), (3, _), (4, _)] ⟨rfl, rfl, rfl, trivial⟩ ⟨0, by omega, by omega, by simp [Tr.sizes], rfl, Le.refl _⟩ ?_
    rintro n _ _ H1 ⟨k', rfl, hk1, rfl, rfl, hle0⟩
    have hb1 := Tr.sizes_take_le ks k'
    have hL := Le.trans hL hle0
    have hA := rd.mono hle0 hA
    refine TC.seq ?_
    refine TC.seq ?_
    refine TC.region ?_
    refine TL.move rfl rfl ?_
    refine TL.fieldAddr rfl rfl ?_
    refine TL.load_own 0 0 rfl rfl rfl rfl rfl ?_
    refine TL.len_slice rfl rfl ?_
    refine TL.lssB rfl rfl rfl (fun hlt => ?_) (fun hlt => ?_)
    ·
     obtain ⟨x, hx⟩ : ∃ x, ks[k']? = some x := ⟨_, List.getElem?_eq_getElem (by omega)⟩
     have hxs := Tr.size_mem (List.mem_of_getElem? hx)
     obtain ⟨b1, o1, p0, p1, rfl, hp, hpr⟩ := trs_at hA hx
     refine TL.nil ?_
     refine TQ.then_n ?_
     refine TC.cond_t rfl ?_
     refine TC.skip ?_
     refine TQ.then_n ?_
     refine TC.seq ?_
     refine TC.block ?_
     refine TC.region ?_
     refine TL.move rfl rfl ?_
     refine TL.fieldAddr rfl rfl ?_
     refine TL.load_own 0 0 rfl rfl rfl rfl rfl ?_
     refine TL.move rfl rfl ?_
     refine TL.indexAddr (k') rfl rfl rfl (by omega) rfl ?_
     refine TL.load_immA rfl (hp) rfl rfl ?_
     refine TL.call (ih x (Tr.size_kid (List.mem_of_getElem? hx) hk) (by omega) hpr) ⟨rfl, trivial⟩ rfl ?_
     rintro _ _ H2 ⟨rfl, rfl, hle2⟩
     have hL := Le.trans hL hle2
     have hA := rd.mono hle2 hA
     have hle0 := Le.trans hle0 hle2
     have hp := hAt.mono hle2 hp
     have hpr := RdL.mono hle2 hpr
     refine TL.add rfl rfl rfl ⟨by omega, by omega⟩ ?_
     refine TL.assign rfl rfl ?_
     refine TL.nil ?_
     refine TQ.in_n ?_
     refine TQ.then_n ?_
     refine TC.region ?_
     refine TL.move rfl rfl ?_
     refine TL.add rfl rfl rfl ⟨by omega, by omega⟩ ?_
     refine TL.assign rfl rfl ?_
     refine TL.nil ?_
     refine TQ.next (ks.length - (k' + 1)) [(1, _), (3, _), (4, _)] (by omega) ⟨rfl, rfl, rfl, trivial⟩ ⟨k' + 1, rfl, by omega, ?_, rfl, hle0⟩
     rw [Tr.sizes_take ks k' x hx]
     congr 4
     · omega
    ·
     refine TL.nil ?_
     refine TQ.then_n ?_
     refine TC.cond_f rfl ?_
     refine TC.exit ?_
     refine TQ.then_e ?_
     refine TQ.then_e ?_
     refine TQ.in_e ?_
     refine TQ.then_n ?_
     refine TC.seq ?_
     refine TC.region ?_
     refine TL.move rfl rfl ?_
     refine TL.assign rfl rfl ?_
     refine TL.nil ?_
     refine TQ.then_n ?_
     refine TC.ret ?_
     refine TQ.ret1 1 rfl rfl ?_
     refine ⟨?_, rfl, hL⟩
     rw [List.take_of_length_le (by omega)]
     rfl

end Go.Proofs.Ytapmmfabdmhdnaa.K
