/-
  append onto a row of our own whose old block is still looked at: it stays, or it is the new one's beginning. Slices of rows that stay.
  Everything here is a lemma over an arbitrary program P; no condition beyond those typed.
-/
import Derived.Test.YtapmmfabdmhdnaaMore
set_option linter.unusedVariables false
set_option linter.unusedSimpArgs false
namespace Go.Proofs.Ytapmmfabdmhdnaa.K
open Go Go.RowKit

/-- The blocks hold what the slice value v held: n elements, the cells xs. -/
def Kept (e : TypeId) (sz : Nat) (v : Value) (n : Nat) (xs : List Value) (bl : Seg) : Prop :=
  ∃ g cap cur, v = .slice (some ⟨g, 0, none⟩) n cap ∧ (g, Obj.cells cur e (0, 0)) ∈ bl ∧ n ≤ cap ∧ cap ≤ 9223372036854775807 ∧ cur.toList.take (n * sz) = xs

theorem run_append_keep {P : Program} {w0 w : World} {H : Hp} {own : List Seg} (hw : St w0 H own w) {t ty e : TypeId} {i : TypeInfo} {z : Value} {size : Nat} (ht : P.underlying t = some (.slice e)) (hi : P.info? e = some i) (hz : i.zero = some z)
    (hsize : i.size = size) (hzs : z.cells.size = size) (hsz : 0 < size) {k : Nat} {seg : Seg} (hk : own[k]? = some seg)
    {v : Value} {n : Nat} {xs : List Value} (hrow : Row e size v n xs seg) (hn : 0 < n) {A : Option Addr} {m c : Nat} {news : List Value} (hsrc : Src w0 H own A size m news) (hm : 0 < m)
    (h63 : n + m ≤ 9223372036854775807) (hbytes : (n + m) * i.bytes ≤ 140737488355328) :
    ∃ v' seg' old w', (Builtin.append_ #[t, t] ty #[v, .slice A m c]).run P w = .ok v' w' ∧ Row e size v' (n + m) (xs ++ news) seg' ∧ Kept e size v n xs (old ++ seg') ∧ St w0 H (old :: own.set k seg') w' := by
  subst hsize
  obtain ⟨hxl, hr⟩ := hrow
  rcases hr with ⟨rfl, rfl, _⟩ | ⟨g, cap, cur, rfl, rfl, h1, h2, h3, h4⟩
  · omega
  obtain ⟨hl, h1c, hs⟩ := hsrc
  rcases hs with ⟨rfl, _⟩ | ⟨b, o, rfl, hcells⟩
  · omega
  have hg := hw.own_blk hk (j := 0) rfl
  have hnews : ∀ j u, news[j]? = some u → w.cell? ((⟨b, o, none⟩ : Addr).add j) = some u := fun j u hu => by rw [add_off]; exact hcells w hw j u hu
  have hmax : cap ≤ 9223372036854775807 := by simpa [maxLen] using h2
  have hlen : (xs ++ news).length = (n + m) * i.size := by rw [List.length_append, hxl, hl, Nat.add_mul]
  by_cases hroom : n + m ≤ cap
  · have hfit : n * i.size + news.length ≤ cur.size := by rw [hl, h3, ← Nat.add_mul]; exact Nat.mul_le_mul_right _ hroom
    have hr := run_append_room (P := P) w t ty e i ht hi g n cap cur hg ⟨b, o, none⟩ m c news hl hnews h1c hroom hfit
    have hX : (cur.toList.take (n * i.size) ++ news ++ cur.toList.drop (n * i.size + news.length)).take ((n + m) * i.size) = xs ++ news := by
      rw [h4, ← hlen]; exact List.take_left
    refine ⟨_, [(g, .cells (cur.toList.take (n * i.size) ++ news ++ cur.toList.drop (n * i.size + news.length)).toArray e (0, 0))], [], _, hr, ⟨hlen, .inr ⟨g, cap, _, rfl, rfl, hroom, h2, ?_, hX⟩⟩, ⟨g, cap, _, rfl, List.mem_append_right _ (List.mem_singleton.2 rfl), h1, hmax, ?_⟩, ?_⟩
    · simp only [List.size_toArray, List.length_append, List.length_take, List.length_drop, Array.length_toList]
      omega
    · show (cur.toList.take (n * i.size) ++ news ++ cur.toList.drop (n * i.size + news.length)).take (n * i.size) = xs
      rw [h4, List.append_assoc, ← hxl]; exact List.take_left
    · exact (hw.setRow hk (j := 0) rfl).nil_seg
  · have hr := run_append_grow (P := P) w t ty e i z ht hi hz ⟨g, 0, none⟩ n cap xs hxl (fun j u hu => by
      rw [add_off, cell_of_cells hg, Nat.zero_add]
      rw [← h4, List.getElem?_take] at hu
      split at hu
      · simpa using hu
      · cases hu) ⟨b, o, none⟩ m c news hl hnews (by omega) (by omega) (growslice_fits (by omega) hbytes)
    have hge := grownCap_ge w (n + m) cap e
    have hcm : grownCap w (n + m) cap e ≤ maxLen := grownCap_le_maxLen w (n + m) cap e (by simpa [maxLen] using h63)
    refine ⟨_, [(w.heap.size, .cells (xs.toArray ++ news.toArray ++ Builtin.zeroCells z.cells (grownCap w (n + m) cap e - (n + m))) e (0, 0))], [(g, .cells cur e (0, 0))], _, hr, ⟨hlen, .inr ⟨w.heap.size, _, _, rfl, rfl, hge, hcm, ?_, ?_⟩⟩, ⟨g, cap, cur, rfl, List.mem_append_left _ (List.mem_singleton.2 rfl), h1, hmax, h4⟩, ?_⟩
    · simp only [Array.size_append, List.size_toArray, size_zeroCells, hzs, hxl, hl, ← Nat.add_mul]
      congr 1
      omega
    · simp only [Array.toList_append, List.append_assoc]
      rw [← List.append_assoc, ← hlen]
      exact List.take_left
    · have h5 := hw.drew.new (.cells (xs.toArray ++ news.toArray ++ Builtin.zeroCells z.cells (grownCap w (n + m) cap e - (n + m))) e)
      refine h5.perm ?_
      obtain ⟨l1, l2, rfl, rfl⟩ := split_at hk
      rw [show (l1 ++ [(g, Obj.cells cur e (0, 0))] :: l2).set l1.length [(w.heap.size, Obj.cells (xs.toArray ++ news.toArray ++ Builtin.zeroCells z.cells (grownCap w (n + m) cap e - (n + m))) e (0, 0))] = l1 ++ [(w.heap.size, Obj.cells (xs.toArray ++ news.toArray ++ Builtin.zeroCells z.cells (grownCap w (n + m) cap e - (n + m))) e (0, 0))] :: l2 by simp]
      refine (List.Perm.cons _ List.perm_middle).trans ?_
      refine (List.Perm.swap _ _ _).trans ?_
      exact List.Perm.cons _ List.perm_middle.symm

section
variable {P : Program} {w0 : World} {N : Nat} {Q : Exit → Act → World → Prop} {env : Env} {own : List Seg} {H : Hp} {ops : Array Oper} {rest : List Oper}
variable {d : Option Tmp} {ty : TypeId} {pos : String} {af : Array Edge}
theorem TL.appendK (k : Nat) {t e : TypeId} {x y : Operand} {size by_ : Nat} {z : Value} [hU : Sl P t e size by_ z] {seg : Seg} {v : Value} {A : Option Addr} {n m c : Nat} {xs news : List Value} (hx : ev env x = some v) (hy : ev env y = some (.slice A m c)) (hk : own[k]? = some seg)
    (hrow : Row e size v n xs seg) (hn : 0 < n) (hsrc : Src w0 H own A size m news) (hm : 0 < m) (h63 : n + m ≤ 9223372036854775807) (hbytes : (n + m) * by_ ≤ 140737488355328) (hd : okD N d = true)
    (h : ∀ v' seg' old, Row e size v' (n + m) (xs ++ news) seg' → Kept e size v n xs (old ++ seg') → TL P w0 N Q ops rest (putE d v' env) (old :: own.set k seg') H) :
    TL P w0 N Q ops ({ dst := d, op := .call { callee := .builtin .append, args := #[x, y], argTypes := #[t, t] }, type := ty, pos := pos, after := af, guard := none } :: rest) env own H :=
  TL.valE (φ := fun v' own' H' => ∃ seg' old, Row e size v' (n + m) (xs ++ news) seg' ∧ Kept e size v n xs (old ++ seg') ∧ own' = old :: own.set k seg' ∧ H' = H) rfl hd
    (fun a w ha hw => by
      obtain ⟨i, hi, hz, hs, hb⟩ := hU.ex
      obtain ⟨v', seg', old, w', hr, h1, h2, h3⟩ := run_append_keep (P := P) (ty := ty) (c := c) hw hU.und hi hz hs hU.zs hU.pos hk hrow hn hsrc hm h63 (by rw [hb]; exact hbytes)
      exact ⟨v', _, _, w', by simp [execOp, resolve, invoke, builtin, ha.ev hx, ha.ev hy, hr], ⟨seg', old, h1, h2, rfl, rfl⟩, h3⟩)
    (by rintro v own' H' ⟨seg', old, h1, h2, rfl, rfl⟩; exact h v seg' old h1 h2)
end
/-- A beginning of what a row held. -/
theorem Kept.view {e : TypeId} {sz : Nat} {v : Value} {n : Nat} {xs : List Value} {bl : Seg} (h : Kept e sz v n xs bl) {H : Hp} (hz : ∀ p ∈ bl, H p.1 = some p.2) {ds : List D} (hr : RdL H ds xs) (hxl : xs.length = n * sz) {A : Option Addr} {c : Nat} (hv : v = .slice A n c) {j : Nat} (hj : j ≤ n) :
    rd H (.s sz (ds.take (j * sz))) (.slice A j c) := by
  obtain ⟨g, cap, cur, hv2, hmem, h1, h2, h3⟩ := h
  rw [hv] at hv2
  injection hv2 with e1 e2 e3
  subst e1 e3
  have hle : j * sz ≤ n * sz := Nat.mul_le_mul_right _ hj
  simp only [rd]
  refine ⟨_, _, _, rfl, by rw [List.length_take, hr.len, hxl]; omega, by omega, h2, .inr ⟨g, 0, rfl, rds.mk fun i d hd => ?_⟩⟩
  rw [List.getElem?_take] at hd
  split at hd
  · obtain ⟨u, hu, hrd⟩ := hr.get i d hd
    refine ⟨u, ?_, hrd⟩
    unfold cel
    rw [hz _ hmem]
    rw [← h3, List.getElem?_take] at hu
    split at hu
    · simpa using hu
    · cases hu
  · cases hd
end Go.Proofs.Ytapmmfabdmhdnaa.K
