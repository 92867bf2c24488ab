/-
  cmp.Compare, slices.Compare.
-/
import Derived.Test.YtapmmfabdmhdnaaComp
import Derived.Test.YtapmmfabdmhdnaaPairs
set_option linter.unusedVariables false
set_option linter.unusedSimpArgs false
set_option maxHeartbeats 4000000
namespace Go.Proofs.Ytapmmfabdmhdnaa.K
open Go Go.RowKit Go.Proofs

def cmpI (x y : Int) : Int := if x < y then -1 else if y < x then 1 else 0
def cmpP : Path → Path → Int
  | [], [] => 0
  | [], _ :: _ => -1
  | _ :: _, [] => 1
  | a :: p, b :: q => if (a : Int) < b then -1 else if (b : Int) < a then 1 else cmpP p q
theorem cmp_isNaN {x : Int} {w0 : World} {H : Hp} {own : List Seg} :
    Fn Try.prog 89 [.int .i64 x] w0 H own (fun v own' H' => v = .bool false ∧ own' = own ∧ Le H H') := by
  refine Fn.enter Try.func89 rfl Try.ntmps89 rfl ?_
  have hL := Le.refl H
  refine TC.seq ?_
  refine TC.region ?_
  refine TL.assign rfl rfl ?_
  refine TL.nil ?_
  refine TQ.then_n ?_
  refine TC.seq ?_
  refine TC.region ?_
  refine TL.move rfl rfl ?_
  refine TL.move rfl rfl ?_
  refine TL.neqB rfl rfl rfl (fun hne => ?_) (fun hne => ?_)
  ·
   exact absurd rfl hne -- dead
  ·
   refine TL.assign rfl rfl ?_
   refine TL.nil ?_
   refine TQ.then_n ?_
   refine TC.ret ?_
   refine TQ.ret1 0 rfl rfl ?_
   exact ⟨rfl, rfl, hL⟩
theorem cmp_Compare {x y : Int} {w0 : World} {H : Hp} {own : List Seg} :
    Fn Try.prog 61 [.int .i64 x, .int .i64 y] w0 H own (fun v own' H' => v = .int .i64 (cmpI x y) ∧ own' = own ∧ Le H H') := by
  refine Fn.enter Try.func61 rfl Try.ntmps61 rfl ?_
  have hL := Le.refl H
  refine TC.seq ?_
  refine TC.region ?_
  refine TL.assign rfl rfl ?_
  refine TL.nil ?_
  refine TQ.then_n ?_
  refine TC.seq ?_
  refine TC.region ?_
  refine TL.move rfl rfl ?_
  refine TL.call (cmp_isNaN) ⟨rfl, trivial⟩ rfl ?_
  rintro _ _ H2 ⟨rfl, rfl, hle2⟩
  have hL := Le.trans hL hle2
  refine TL.assign rfl rfl ?_
  refine TL.nil ?_
  refine TQ.then_n ?_
  refine TC.seq ?_
  refine TC.region ?_
  refine TL.move rfl rfl ?_
  refine TL.call (cmp_isNaN) ⟨rfl, trivial⟩ rfl ?_
  rintro _ _ H2 ⟨rfl, rfl, hle2⟩
  have hL := Le.trans hL hle2
  refine TL.assign rfl rfl ?_
  refine TL.nil ?_
  refine TQ.then_n ?_
  refine TC.seq ?_
  refine TC.seq ?_
  refine TC.region ?_
  refine TL.move rfl rfl ?_
  refine TL.nil ?_
  refine TQ.then_n ?_
  refine TC.cond_f rfl ?_
  refine TC.skip ?_
  refine TQ.then_n ?_
  refine TC.seq ?_
  refine TC.seq ?_
  refine TC.region ?_
  refine TL.move rfl rfl ?_
  refine TL.nil ?_
  refine TQ.then_n ?_
  refine TC.cond_f rfl ?_
  refine TC.skip ?_
  refine TQ.then_n ?_
  refine TC.seq ?_
  refine TC.seq ?_
  refine TC.region ?_
  refine TL.move rfl rfl ?_
  refine TL.move rfl rfl ?_
  refine TL.lssB rfl rfl rfl (fun h1 => ?_) (fun h1 => ?_)
  ·
   refine TL.nil ?_
   refine TQ.then_n ?_
   refine TC.cond_t rfl ?_
   refine TC.seq ?_
   refine TC.region ?_
   refine TL.assign rfl rfl ?_
   refine TL.nil ?_
   refine TQ.then_n ?_
   refine TC.ret ?_
   refine TQ.then_r ?_
   refine TQ.ret1 0 rfl rfl ?_
   refine ⟨?_, rfl, hL⟩
   unfold cmpI
   first
     | rw [if_pos h1]
     | rw [if_neg (by omega), if_pos h2]
     | rw [if_neg (by omega), if_neg (by omega)]
  ·
   refine TL.nil ?_
   refine TQ.then_n ?_
   refine TC.cond_f rfl ?_
   refine TC.skip ?_
   refine TQ.then_n ?_
   refine TC.seq ?_
   refine TC.seq ?_
   refine TC.region ?_
   refine TL.move rfl rfl ?_
   refine TL.move rfl rfl ?_
   refine TL.gtrB rfl rfl rfl (fun h2 => ?_) (fun h2 => ?_)
   ·
    refine TL.nil ?_
    refine TQ.then_n ?_
    refine TC.cond_t rfl ?_
    refine TC.seq ?_
    refine TC.region ?_
    refine TL.assign rfl rfl ?_
    refine TL.nil ?_
    refine TQ.then_n ?_
    refine TC.ret ?_
    refine TQ.then_r ?_
    refine TQ.ret1 0 rfl rfl ?_
    refine ⟨?_, rfl, hL⟩
    unfold cmpI
    first
      | rw [if_pos h1]
      | rw [if_neg (by omega), if_pos h2]
      | rw [if_neg (by omega), if_neg (by omega)]
   ·
    refine TL.nil ?_
    refine TQ.then_n ?_
    refine TC.cond_f rfl ?_
    refine TC.skip ?_
    refine TQ.then_n ?_
    refine TC.seq ?_
    refine TC.region ?_
    refine TL.assign rfl rfl ?_
    refine TL.nil ?_
    refine TQ.then_n ?_
    refine TC.ret ?_
    refine TQ.ret1 0 rfl rfl ?_
    refine ⟨?_, rfl, hL⟩
    unfold cmpI
    first
      | rw [if_pos h1]
      | rw [if_neg (by omega), if_pos h2]
      | rw [if_neg (by omega), if_neg (by omega)]
theorem cmpP_nil (q : Path) : cmpP [] q = if q = [] then 0 else -1 := by cases q <;> simp [cmpP]
theorem slices_compare {p q : Path} {w0 : World} {H : Hp} {own : List Seg} {va vb : Value} (hA : rd H (pD p) va) (hB : rd H (pD q) vb) :
    Fn Try.prog 34 [va, vb] w0 H own (fun v own' H' => v = .int .i64 (cmpP p q) ∧ own' = own ∧ Le H H') := by
  obtain ⟨A, c, rfl, hc1, hc2⟩ := path_len hA
  obtain ⟨B, c', rfl, hc1', hc2'⟩ := path_len hB
  refine Fn.enter Try.func34 rfl Try.ntmps34 rfl ?_
  have hL := Le.refl H
  refine TC.seq ?_
  refine TC.region ?_
  refine TL.assign rfl rfl ?_
  refine TL.nil ?_
  refine TQ.then_n ?_
  refine TC.seq ?_
  refine TC.seq ?_
  refine TC.region ?_
  refine TL.move rfl rfl ?_
  refine TL.len_slice rfl rfl ?_
  refine TL.move rfl rfl ?_
  refine TL.nil ?_
  refine TQ.then_n ?_
  refine TC.block ?_
  refine TC.loop (fun n env' own' H' => ∃ k : Nat, n = p.length - k ∧ k ≤ p.length ∧ k ≤ q.length ∧ cmpP p q = cmpP (p.drop k) (q.drop k) ∧ env' = [(0, .slice A p.length c), (1, .slice B q.length c'), (9, .slice A p.length c), (10, .int .i64 (p.length : Int)), (11, .int .i64 (k : Int))] ∧ own = own' ∧ Le H H') p.length [(0, _), (1, _), (9, _), (10, _), (11, _)] ⟨rfl, rfl, rfl, rfl, rfl, trivial⟩ ⟨0, by omega, by omega, by omega, by simp, rfl, rfl, Le.refl _⟩ ?_
  rintro n _ _ H1 ⟨k, rfl, hk1, hkq, hk2, rfl, rfl, hle0⟩
  have hL := Le.trans hL hle0
  have hA := rd.mono hle0 hA
  have hB := rd.mono hle0 hB
  refine TC.seq ?_
  refine TC.region ?_
  refine TL.lssB rfl rfl rfl (fun hlt => ?_) (fun hlt => ?_)
  ·
   obtain ⟨x, hx⟩ : ∃ x, p[k]? = some x := ⟨_, List.getElem?_eq_getElem (by omega)⟩
   obtain ⟨b1, o1, rfl, hp⟩ := path_at hA hx
   refine TL.nil ?_
   refine TQ.then_n ?_
   refine TC.seq ?_
   refine TC.cond_t rfl ?_
   refine TC.skip ?_
   refine TQ.then_n ?_
   refine TC.seq ?_
   refine TC.block ?_
   refine TC.seq ?_
   refine TC.region ?_
   refine TL.move rfl rfl ?_
   refine TL.indexAddr (k) rfl rfl rfl (by omega) rfl ?_
   refine TL.load_imm rfl (hp) rfl ?_
   refine TL.assign rfl rfl ?_
   refine TL.assign rfl rfl ?_
   refine TL.nil ?_
   refine TQ.then_n ?_
   refine TC.seq ?_
   refine TC.seq ?_
   refine TC.region ?_
   refine TL.move rfl rfl ?_
   refine TL.move rfl rfl ?_
   refine TL.len_slice rfl rfl ?_
   refine TL.geqB rfl rfl rfl (fun hge => ?_) (fun hge => ?_)
   ·
    refine TL.nil ?_
    refine TQ.then_n ?_
    refine TC.cond_t rfl ?_
    refine TC.seq ?_
    refine TC.region ?_
    refine TL.assign rfl rfl ?_
    refine TL.nil ?_
    refine TQ.then_n ?_
    refine TC.ret ?_
    refine TQ.then_r ?_
    refine TQ.in_r ?_
    refine TQ.then_r ?_
    refine TQ.then_r ?_
    refine TQ.in_r ?_
    refine TQ.then_r ?_
    refine TQ.ret1 0 rfl rfl ?_
    refine ⟨?_, rfl, hL⟩
    rw [hk2]
    first
      | (rw [drop_cons hx, drop_cons hy, cmpP]
         unfold cmpI at hz ⊢
         split
         · rfl
         · split
           · rfl
           · rename_i u1 u2
             rw [if_neg u1, if_neg u2] at hz
             exact absurd rfl hz)
      | (rw [drop_cons hx, show q.drop k = [] from List.drop_eq_nil_of_le (by omega)]
         rfl)
      | (rw [show p.drop k = [] from List.drop_eq_nil_of_le (by omega), cmpP_nil]
         first
           | (rw [if_neg (by intro h; have := congrArg List.length h; simp at this; omega)])
           | (rw [if_pos (List.drop_eq_nil_of_le (by omega))]))
   ·
    obtain ⟨y, hy⟩ : ∃ y, q[k]? = some y := ⟨_, List.getElem?_eq_getElem (by omega)⟩
    obtain ⟨b2, o2, rfl, hq⟩ := path_at hB hy
    refine TL.nil ?_
    refine TQ.then_n ?_
    refine TC.cond_f rfl ?_
    refine TC.skip ?_
    refine TQ.then_n ?_
    refine TC.seq ?_
    refine TC.region ?_
    refine TL.move rfl rfl ?_
    refine TL.move rfl rfl ?_
    refine TL.indexAddr (k) rfl rfl rfl (by omega) rfl ?_
    refine TL.load_imm rfl (hq) rfl ?_
    refine TL.assign rfl rfl ?_
    refine TL.nil ?_
    refine TQ.then_n ?_
    refine TC.seq ?_
    refine TC.region ?_
    refine TL.move rfl rfl ?_
    refine TL.move rfl rfl ?_
    refine TL.call (cmp_Compare) ⟨rfl, rfl, trivial⟩ rfl ?_
    rintro _ _ H2 ⟨rfl, rfl, hle2⟩
    have hL := Le.trans hL hle2
    have hA := rd.mono hle2 hA
    have hB := rd.mono hle2 hB
    have hle0 := Le.trans hle0 hle2
    have hp := cel_le hle2 hp
    have hq := cel_le hle2 hq
    refine TL.assign rfl rfl ?_
    refine TL.nil ?_
    refine TQ.then_n ?_
    refine TC.seq ?_
    refine TC.region ?_
    refine TL.move rfl rfl ?_
    refine TL.neqB rfl rfl rfl (fun hz => ?_) (fun hz => ?_)
    ·
     refine TL.nil ?_
     refine TQ.then_n ?_
     refine TC.cond_t rfl ?_
     refine TC.seq ?_
     refine TC.region ?_
     refine TL.move rfl rfl ?_
     refine TL.assign rfl rfl ?_
     refine TL.nil ?_
     refine TQ.then_n ?_
     refine TC.ret ?_
     refine TQ.in_r ?_
     refine TQ.then_r ?_
     refine TQ.then_r ?_
     refine TQ.in_r ?_
     refine TQ.then_r ?_
     refine TQ.ret1 0 rfl rfl ?_
     refine ⟨?_, rfl, hL⟩
     rw [hk2]
     first
       | (rw [drop_cons hx, drop_cons hy, cmpP]
          unfold cmpI at hz ⊢
          split
          · rfl
          · split
            · rfl
            · rename_i u1 u2
              rw [if_neg u1, if_neg u2] at hz
              exact absurd rfl hz)
       | (rw [drop_cons hx, show q.drop k = [] from List.drop_eq_nil_of_le (by omega)]
          rfl)
       | (rw [show p.drop k = [] from List.drop_eq_nil_of_le (by omega), cmpP_nil]
          first
            | (rw [if_neg (by intro h; have := congrArg List.length h; simp at this; omega)])
            | (rw [if_pos (List.drop_eq_nil_of_le (by omega))]))
    ·
     refine TL.nil ?_
     refine TQ.then_n ?_
     refine TC.cond_f rfl ?_
     refine TC.skip ?_
     refine TQ.in_n ?_
     refine TQ.then_n ?_
     refine TC.region ?_
     refine TL.add rfl rfl rfl ⟨by omega, by omega⟩ ?_
     refine TL.move rfl rfl ?_
     refine TL.nil ?_
     refine TQ.next (p.length - (k + 1)) [(0, _), (1, _), (9, _), (10, _), (11, _)] (by omega) ⟨rfl, rfl, rfl, rfl, rfl, trivial⟩ ⟨k + 1, rfl, by omega, by omega, ?_, by simp, rfl, hle0⟩
     rw [hk2, drop_cons hx, drop_cons hy]
     unfold cmpI at hz
     rw [cmpP]
     split at hz
     · omega
     · split at hz
       · omega
       · rename_i u1 u2
         rw [if_neg u1, if_neg u2]
  ·
   refine TL.nil ?_
   refine TQ.then_n ?_
   refine TC.seq ?_
   refine TC.cond_f rfl ?_
   refine TC.exit ?_
   refine TQ.then_e ?_
   refine TQ.then_e ?_
   refine TQ.in_e ?_
   refine TQ.then_n ?_
   refine TC.seq ?_
   refine TC.seq ?_
   refine TC.region ?_
   refine TL.move rfl rfl ?_
   refine TL.len_slice rfl rfl ?_
   refine TL.move rfl rfl ?_
   refine TL.len_slice rfl rfl ?_
   refine TL.lssB rfl rfl rfl (fun hlen => ?_) (fun hlen => ?_)
   ·
    refine TL.nil ?_
    refine TQ.then_n ?_
    refine TC.cond_t rfl ?_
    refine TC.seq ?_
    refine TC.region ?_
    refine TL.assign rfl rfl ?_
    refine TL.nil ?_
    refine TQ.then_n ?_
    refine TC.ret ?_
    refine TQ.then_r ?_
    refine TQ.ret1 0 rfl rfl ?_
    refine ⟨?_, rfl, hL⟩
    rw [hk2]
    first
      | (rw [drop_cons hx, drop_cons hy, cmpP]
         unfold cmpI at hz ⊢
         split
         · rfl
         · split
           · rfl
           · rename_i u1 u2
             rw [if_neg u1, if_neg u2] at hz
             exact absurd rfl hz)
      | (rw [drop_cons hx, show q.drop k = [] from List.drop_eq_nil_of_le (by omega)]
         rfl)
      | (rw [show p.drop k = [] from List.drop_eq_nil_of_le (by omega), cmpP_nil]
         first
           | (rw [if_neg (by intro h; have := congrArg List.length h; simp at this; omega)])
           | (rw [if_pos (List.drop_eq_nil_of_le (by omega))]))
   ·
    refine TL.nil ?_
    refine TQ.then_n ?_
    refine TC.cond_f rfl ?_
    refine TC.skip ?_
    refine TQ.then_n ?_
    refine TC.seq ?_
    refine TC.region ?_
    refine TL.assign rfl rfl ?_
    refine TL.nil ?_
    refine TQ.then_n ?_
    refine TC.ret ?_
    refine TQ.ret1 0 rfl rfl ?_
    refine ⟨?_, rfl, hL⟩
    rw [hk2]
    first
      | (rw [drop_cons hx, drop_cons hy, cmpP]
         unfold cmpI at hz ⊢
         split
         · rfl
         · split
           · rfl
           · rename_i u1 u2
             rw [if_neg u1, if_neg u2] at hz
             exact absurd rfl hz)
      | (rw [drop_cons hx, show q.drop k = [] from List.drop_eq_nil_of_le (by omega)]
         rfl)
      | (rw [show p.drop k = [] from List.drop_eq_nil_of_le (by omega), cmpP_nil]
         first
           | (rw [if_neg (by intro h; have := congrArg List.length h; simp at this; omega)])
           | (rw [if_pos (List.drop_eq_nil_of_le (by omega))]))

end Go.Proofs.Ytapmmfabdmhdnaa.K
