/-
  Part 4 of 6 of the proof that DiffBad returns true for every list of numbers, every path and every number, and leaves its arguments as they were. No condition beyond the given statement.
-/
import Derived.Test.YtlmahofogapkgaaGreatDoorPkX3
set_option linter.unusedVariables false
set_option linter.unusedSimpArgs false
set_option linter.all false
set_option maxRecDepth 20000
set_option maxHeartbeats 8000000
namespace Go.Proofs.YtlmahofogapkgaaGreatDoor.X
section
open Go Go.RowKit Go.Proofs K
variable {pk : Pk}
theorem ty_nn {k n : Int} {nm : ByteArray} {ts : List Ty4} (h : rTy (.mk k nm n ts) = true ∨ aA (.mk k nm n ts) 7 = true) : 0 ≤ n ∧ (1 ≤ k ∧ k ≤ 7) ∧ (k = 4 → nm ≠ ⟨#[]⟩) := by
  rcases h with h | h
  · rw [rTy] at h
    split at h
    · simp only [Bool.and_eq_true, decide_eq_true_eq] at h
      have h1 := h.1.1
      rw [ai] at h1
      simp only [Bool.and_eq_true, decide_eq_true_eq] at h1
      exact ⟨by omega, by omega, fun _ => h1.1.1.1.1⟩
    · split at h
      · simp only [Bool.and_eq_true, decide_eq_true_eq] at h
        exact ⟨by omega, by omega, fun e => by omega⟩
      · split at h
        · simp only [Bool.and_eq_true, decide_eq_true_eq] at h
          exact ⟨by omega, by omega, fun e => by omega⟩
        · cases h
  · simp only [aA, Bool.and_eq_true, decide_eq_true_eq] at h
    exact ⟨by omega, by omega, fun e => by omega⟩
theorem g7 {w p q : ByteArray} (hp : p ≠ ⟨#[]⟩) (hq : w ++ ⟨#[32]⟩ = q) : ao w p = q ++ p := by rw [ao, if_neg hp, ← hq]; exact (ByteArray.append_assoc (a := w)).symm
theorem oI : ∀ (m : Nat), m ≤ 100000000000 → ∀ {t : Ty4}, t.size ≤ m → t.ok → (rTy t = true ∨ aA t 7 = true) → XQ Tryz.prog pk 110 [xd (tyD t)] (xd (trd (tTy t))) := by
  intro m
  induction m with
  | zero => intro _ t hm; have := t.size_pos; omega
  | succ m ih =>
  intro hB t hm hok hr
  obtain ⟨k, nm, n, ts⟩ := t
  obtain ⟨hk, hn, hn2, hts⟩ := hok
  obtain ⟨s1, s2⟩ := ty_kids hr
  obtain ⟨hn0, hk7, hnm⟩ := ty_nn hr
  have bm : ∀ u ∈ ts, rTy u = true := fun u hu => by
    by_cases h5 : k = 5 ∨ k = 6
    · exact List.all_eq_true.1 (ty_num hr h5).2 u hu
    · rw [s2 h5] at hu; cases hu
  have hsz : (Ty4.mk k nm n ts).size = Ty4.sizes ts + 1 := rfl
  have hlen := Ty4.len_le ts
  have hdec := bQ hn0 (by omega)
  rw [fw, show tTy (.mk k nm n ts) = .node (tyL k nm n) (ts.map tTy) from by rw [tTy, nq], al]
  refine XQ.en Tryz.func110 Tryz.ntmps110 (fun w0 own H V v0 hf => ?_)
  refine G (T := T) 100001 rfl ?_
  refine (FzTo.bz 0 rfl).c ?_
  have z1 : (ByteArray.mk #[116, 121, 112, 101, 32]).size = 5 := rfl
  have z2 : (ByteArray.mk #[97, 114, 114, 97, 121, 32]).size = 6 := rfl
  have z3 : (ByteArray.mk #[112, 116, 114, 32]).size = 4 := rfl
  refine G (T := T) 1000 rfl ?_
  refine Cq (bk hn0 (by omega)) rfl rfl rfl rfl rfl ⟨rfl, rfl⟩ ?_
  refine G (T := T) 1000 rfl ?_
  refine Cq (bk hn0 (by omega)) rfl rfl rfl rfl rfl ⟨rfl, rfl⟩ ?_
  refine G (T := T) 21 rfl ?_
  refine Lo (T := T) (.d (.c (.string (tyL k nm n)))) ?_ rfl rfl rfl rfl rfl ⟨rfl, rfl⟩ ?_
  · obtain rfl | rfl | rfl | rfl | rfl | rfl | rfl : k = 1 ∨ k = 2 ∨ k = 3 ∨ k = 4 ∨ k = 5 ∨ k = 6 ∨ k = 7 := by omega
    · rfl
    · rfl
    · rfl
    · rw [show tyL 4 nm n = ao em nm from rfl, g7 (hnm rfl) (q := ⟨#[116, 121, 112, 101, 32]⟩) rfl]; rfl
    · rw [show tyL 5 nm n = ao bZ (bd n.toNat) from rfl, g7 (decB_ne _) (q := ⟨#[97, 114, 114, 97, 121, 32]⟩) rfl]; rfl
    · rw [show tyL 6 nm n = ao fe (bd n.toNat) from rfl, g7 (decB_ne _) (q := ⟨#[112, 116, 114, 32]⟩) rfl]; rfl
    · rfl
  refine G (T := T) 1000 rfl ?_
  refine (Nrh 3 1 35 2 rfl rfl rfl rfl rfl).c ?_
  refine Lq [1, 2, 4] (fun (q : Nat × List (List D)) r => (5, xi (q.1 : Nat)) :: r) (fun q => [⟨4, 1, .row q.1 q.2 35 2⟩, ⟨3, 0, .cells [.d (.c (.string (tyL k nm n))), .l 4 1 2 0 q.1 q.1] 35⟩, ⟨1, 0, .cells [.d (.c (.string eS)), .z] 35⟩]) 5 (fun q => q.1 ≤ ts.length ∧ q.2 = aj ((ts.take q.1).map tTy)) (fun q => ts.length - q.1) (0, []) rfl ⟨Nat.zero_le _, rfl⟩ ?_
  rintro ⟨j, R⟩ ⟨hj, hR⟩; dsimp only at hj hR ⊢
  refine G (T := T) 1000 rfl ?_
  refine If rfl (fun h => ?_) (fun h => ?_)
  · have hjl := of_decide_eq_true h; rw [List.length_map] at hjl
    obtain ⟨y, hy⟩ := ae (l := ts) (j := j) (by omega)
    have hym := List.mem_of_getElem? hy
    refine G (T := T) 35 rfl ?_
    refine Ix (T := T) j (ab hy) rfl rfl rfl rfl ⟨rfl, rfl⟩ rfl rfl ?_
    refine G (T := T) 1000 rfl ?_
    refine Cq (ih (t := y) (by omega) (by have := Ty4.size_mem hym; omega) (Ty4.oks_mem hts hym) (.inl (bm y hym))) rfl rfl rfl rfl rfl ⟨rfl, rfl⟩ ?_
    refine G (T := T) 1000 rfl ?_
    exact Nq (j + 1, R ++ [trd (tTy y)]) ⟨by omega, by dsimp only; rw [hR, aH tTy hy, aO]⟩ (by show _ - (j + 1) < _ - j; omega)
  · have hjl := of_decide_eq_false h; rw [List.length_map] at hjl
    refine G (T := T) 1000 rfl ?_
    rw [List.take_of_length_le (by omega)] at hR; subst hR
    refine MS.fze 4 rfl ?_ (by repeat' (first | exact trivial | apply And.intro | rfl))
    exact Fq (T := T) rfl rfl
theorem oJ : ∀ (m : Nat), m ≤ 100000000000 → ∀ {e : Ex}, e.size ≤ m → e.ok → rEx e = true → XQ Tryz.prog pk 180 [xd (exD e)] (xd (trd (tEx e))) := by
  intro m
  induction m with
  | zero => intro _ e hm; have := e.size_pos; omega
  | succ m ih =>
  intro hB e hm hok hr
  obtain ⟨k, nm, n, ks⟩ := e
  obtain ⟨hk, hn, hn2, hks⟩ := hok
  have hsz : (Ex.mk k nm n ks).size = Ex.sizes ks + 1 := rfl
  have hlen := Ex.len_le ks
  rw [rEx, bw] at hr
  simp only [Bool.and_eq_true] at hr
  have hk15 := of_decide_eq_true hr.1.1.1.1
  have bm := List.all_eq_true.1 hr.2
  have hdec := bQ hn2.1 (by omega)
  rw [et, show tEx (.mk k nm n ks) = .node (ao (exW k) (if ce k then bd n.toNat else nm)) (ks.map tEx) from by rw [tEx, f0], al]
  refine XQ.en Tryz.func180 Tryz.ntmps180 (fun w0 own H V v0 hf => ?_)
  refine G (T := T) 100001 rfl ?_
  refine (FzTo.bz 0 rfl).c ?_
  refine G (T := T) 10 rfl ?_
  have lbl : ∀ {cs : List XC}, cs = [.d (.c (.string eS)), .d (.c (.string iz)), .d (.c (.string w_id)), .d (.c (.string eo)), .d (.c (.string fQ)), .d (.c (.string fR)), .d (.c (.string jI)), .d (.c (.string jJ)), .d (.c (.string fS)), .d (.c (.string jK)), .d (.c (.string fT)), .d (.c (.string w_in)), .d (.c (.string eM)), .d (.c (.string dq)), .d (.c (.string ep)), .d (.c (.string jL))] → at_ cs (0 + k.toNat * 1) = some (.d (.c (.string (exW k)))) := by
    rintro _ rfl
    rcases kind15 hk15 with rfl | rfl | rfl | rfl | rfl | rfl | rfl | rfl | rfl | rfl | rfl | rfl | rfl | rfl | rfl <;> rfl
  refine Lo (T := T) (.d (.c (.string (exW k)))) (lbl rfl) rfl rfl rfl rfl rfl ⟨rfl, rfl⟩ ?_
  refine G (T := T) 1000 rfl ?_
  refine Cq (aU (w := exW k) (p := nm) (exW_le k) (by omega)) rfl rfl rfl rfl rfl ⟨rfl, rfl⟩ ?_
  refine Gs (T := T) 1000 rfl ?_
  refine Cf [1, 2, 4] (fun (_ : Unit) r => r) (fun _ => [⟨3, 0, .cells [.d (.c (.string (ao (exW k) (if ce k then bd n.toNat else nm)))), .z] 35⟩, ⟨1, 0, .cells [.d (.c (.string eS)), .z] 35⟩]) 4 (fun _ => True) rfl ?_ ?_
  · refine If rfl (fun h => ?_) (fun h => ?_)
    · have h9 : ce k = true := by rw [← h]; simp [ce, Bool.or_assoc]
      rw [if_pos h9]
      refine G (T := T) 35 rfl ?_
      refine Lo (T := T) (.d (.c (.string (exW k)))) (lbl rfl) rfl rfl rfl rfl rfl ⟨rfl, rfl⟩ ?_
      refine G (T := T) 1000 rfl ?_
      refine Cq (bk hn2.1 (by omega)) rfl rfl rfl rfl rfl ⟨rfl, rfl⟩ ?_
      refine G (T := T) 1000 rfl ?_
      refine Cq (aU (w := exW k) (p := bd n.toNat) (exW_le k) (by omega)) rfl rfl rfl rfl rfl ⟨rfl, rfl⟩ ?_
      refine G (T := T) 1000 rfl ?_
      exact Dn () trivial
    · have h9 : ¬ ce k = true := by
        rw [show ce k = false from by rw [← h]; simp [ce, Bool.or_assoc]]; simp
      rw [if_neg h9]
      refine G (T := T) 1000 rfl ?_
      exact Dn () trivial
  rintro _ -
  refine G (T := T) 1000 rfl ?_
  refine (Nrh 3 1 35 2 rfl rfl rfl rfl rfl).c ?_
  generalize ao (exW k) (if ce k then bd n.toNat else nm) = L
  refine Lq [1, 2, 4] (fun (q : Nat × List (List D)) r => (5, xi (q.1 : Nat)) :: r) (fun q => [⟨4, 1, .row q.1 q.2 35 2⟩, ⟨3, 0, .cells [.d (.c (.string L)), .l 4 1 2 0 q.1 q.1] 35⟩, ⟨1, 0, .cells [.d (.c (.string eS)), .z] 35⟩]) 5 (fun q => q.1 ≤ ks.length ∧ q.2 = aj ((ks.take q.1).map tEx)) (fun q => ks.length - q.1) (0, []) rfl ⟨Nat.zero_le _, rfl⟩ ?_
  rintro ⟨j, R⟩ ⟨hj, hR⟩; dsimp only at hj hR ⊢
  refine G (T := T) 1000 rfl ?_
  refine If rfl (fun h => ?_) (fun h => ?_)
  · have hjl := of_decide_eq_true h; rw [List.length_map] at hjl
    obtain ⟨y, hy⟩ := ae (l := ks) (j := j) (by omega)
    have hym := List.mem_of_getElem? hy
    refine G (T := T) 53 rfl ?_
    refine Ix (T := T) j (ab hy) rfl rfl rfl rfl ⟨rfl, rfl⟩ rfl rfl ?_
    refine G (T := T) 1000 rfl ?_
    refine Cq (ih (e := y) (by omega) (by have := Ex.size_mem hym; omega) (Ex.oks_mem hks hym) (bm y hym)) rfl rfl rfl rfl rfl ⟨rfl, rfl⟩ ?_
    refine G (T := T) 1000 rfl ?_
    exact Nq (j + 1, R ++ [trd (tEx y)]) ⟨by omega, by dsimp only; rw [hR, aH tEx hy, aO]⟩ (by show _ - (j + 1) < _ - j; omega)
  · have hjl := of_decide_eq_false h; rw [List.length_map] at hjl
    refine G (T := T) 1000 rfl ?_
    rw [List.take_of_length_le (by omega)] at hR; subst hR
    refine MS.fze 4 rfl ?_ (by repeat' (first | exact trivial | apply And.intro | rfl))
    exact Fq (T := T) rfl rfl
end
section
open Go Go.RowKit Go.Proofs K
variable {pk : Pk}
theorem j6 {t : Ty4} (hs : t.size ≤ 100000000000) (h : t.ok) (hr : rTy t = true ∨ aA t 7 = true) : XQ Tryz.prog pk 110 [xd (tyD t)] (xd (trd (tTy t))) := oI _ hs (Nat.le_refl _) h hr
theorem gu {w : ByteArray} (hw : w.size ≤ 1000) {l : List Par} {B : Nat} (hB : B ≤ 100000000000) (hl : l.length ≤ B) (hok : ∀ p ∈ l, p.ok B) (hr : ∀ p ∈ l, cm p = true) : XQ Tryz.prog pk 59 [xs w, xr (l.map paD)] (xr (aj (l.map (cC w)))) := by
  refine XQ.en Tryz.func59 Tryz.ntmps59 (fun w0 own H V v0 hf => ?_)
  refine G (T := T) 1000 rfl ?_
  refine (Nr 5 35 2 rfl rfl).c ?_
  refine Lq [0, 1] (fun (q : Nat × List (List D)) r => (5, .a (.c (.l 0 1 2 0 q.1 q.1))) :: (6, xi (q.1 : Nat)) :: r) (fun q => [⟨0, 1, .row q.1 q.2 35 2⟩]) 1 (fun q => q.1 ≤ l.length ∧ q.2 = aj ((l.take q.1).map (cC w))) (fun q => l.length - q.1) (0, []) rfl ⟨Nat.zero_le _, rfl⟩ ?_
  rintro ⟨j, R⟩ ⟨hj, hR⟩; dsimp only at hj hR ⊢
  refine G (T := T) 1000 rfl ?_
  refine If rfl (fun h => ?_) (fun h => ?_)
  · have hjl := of_decide_eq_true h; rw [List.length_map] at hjl
    obtain ⟨y, hy⟩ := ae (l := l) (j := j) (by omega)
    have hym := List.mem_of_getElem? hy
    obtain ⟨o1, o2, o3⟩ := hok y hym
    have hry := hr y hym
    rw [cm, Bool.and_eq_true] at hry
    refine G (T := T) 1000 rfl ?_
    refine Ix (T := T) j (ab hy) rfl rfl rfl rfl ⟨rfl, rfl⟩ rfl rfl ?_
    refine G (T := T) 1000 rfl ?_
    refine Cq (aU hw (p := y.nm) (by omega)) rfl rfl rfl rfl rfl ⟨rfl, rfl⟩ ?_
    refine G (T := T) 1000 rfl ?_
    refine Ix (T := T) j (ab hy) rfl rfl rfl rfl ⟨rfl, rfl⟩ rfl rfl ?_
    refine G (T := T) 1000 rfl ?_
    refine Cq (j6 (by omega) o2 (.inl hry.2)) rfl rfl rfl rfl rfl ⟨rfl, rfl⟩ ?_
    refine G (T := T) 1000 rfl ?_
    exact Nq (j + 1, R ++ [trd (cC w y)]) ⟨by omega, by dsimp only; rw [hR, aH (cC w) hy, aO]⟩ (by show _ - (j + 1) < _ - j; omega)
  · have hjl := of_decide_eq_false h; rw [List.length_map] at hjl
    refine G (T := T) 1000 rfl ?_
    rw [List.take_of_length_le (by omega)] at hR; subst hR
    refine MS.fze 0 rfl ?_ (by repeat' (first | exact trivial | apply And.intro | rfl))
    exact Fq (T := T) rfl rfl
theorem iF {l : List Sm} (hl : l.length ≤ 100000000000) (hs : ∀ s ∈ l, XQ Tryz.prog pk 152 [xd (smD s)] (xd (trd (tSm s)))) : XQ Tryz.prog pk 113 [xr (l.map smD)] (xr (aj (l.map tSm))) := by
  refine XQ.en Tryz.func113 Tryz.ntmps113 (fun w0 own H V v0 hf => ?_)
  refine G (T := T) 1000 rfl ?_
  refine (Nr 3 35 2 rfl rfl).c ?_
  refine Lq [0] (fun (q : Nat × List (List D)) r => (3, .a (.c (.l 0 1 2 0 q.1 q.1))) :: (4, xi (q.1 : Nat)) :: r) (fun q => [⟨0, 1, .row q.1 q.2 35 2⟩]) 1 (fun q => q.1 ≤ l.length ∧ q.2 = aj ((l.take q.1).map tSm)) (fun q => l.length - q.1) (0, []) rfl ⟨Nat.zero_le _, rfl⟩ ?_
  rintro ⟨j, R⟩ ⟨hj, hR⟩; dsimp only at hj hR ⊢
  refine G (T := T) 1000 rfl ?_
  refine If rfl (fun h => ?_) (fun h => ?_)
  · have hjl := of_decide_eq_true h; rw [List.length_map] at hjl
    obtain ⟨y, hy⟩ := ae (l := l) (j := j) (by omega)
    have hym := List.mem_of_getElem? hy
    refine G (T := T) 1000 rfl ?_
    refine Ix (T := T) j (ab hy) rfl rfl rfl rfl ⟨rfl, rfl⟩ rfl rfl ?_
    refine G (T := T) 1000 rfl ?_
    refine Cq (hs y hym) rfl rfl rfl rfl rfl ⟨rfl, rfl⟩ ?_
    refine G (T := T) 1000 rfl ?_
    exact Nq (j + 1, R ++ [trd (tSm y)]) ⟨by omega, by dsimp only; rw [hR, aH tSm hy, aO]⟩ (by show _ - (j + 1) < _ - j; omega)
  · have hjl := of_decide_eq_false h; rw [List.length_map] at hjl
    refine G (T := T) 1000 rfl ?_
    rw [List.take_of_length_le (by omega)] at hR; subst hR
    refine MS.fze 0 rfl ?_ (by repeat' (first | exact trivial | apply And.intro | rfl))
    exact Fq (T := T) rfl rfl
theorem mL {g : Gb} {B : Nat} (hB : B ≤ 90000000000) (hok : g.ok B) (hr : rGb g = true) : XQ Tryz.prog pk 60 [xd (gbD g)] (xd (trd (tGb g))) := by
  obtain ⟨h1, h2, h3, h4, h5, h6⟩ := hok
  rw [rGb] at hr
  simp only [Bool.and_eq_true, Bool.or_eq_true, decide_eq_true_eq] at hr
  obtain ⟨⟨r1, r2⟩, r3⟩ := hr
  have hd1 := bQ h5.1 (by omega)
  refine XQ.en Tryz.func60 Tryz.ntmps60 (fun w0 own H V v0 hf => ?_)
  refine G (T := T) 100001 rfl ?_
  refine (FzTo.bz 0 rfl).c ?_
  refine G (T := T) 1000 rfl ?_
  refine Cq (bk h5.1 (by omega)) rfl rfl rfl rfl rfl ⟨rfl, rfl⟩ ?_
  refine G (T := T) 1000 rfl ?_
  refine Cq (aU (w := w_at) (p := bd g.addr.toNat) (by decide) (by omega)) rfl rfl rfl rfl rfl ⟨rfl, rfl⟩ ?_
  refine G (T := T) 1000 rfl ?_
  refine If rfl (fun h => ?_) (fun h => ?_)
  · have h9 := of_decide_eq_true h
    rw [tGb, if_pos (by omega)]
    refine G (T := T) 1000 rfl ?_
    refine Cq (aU (w := fX) (p := g.nm) (by decide) (by omega)) rfl rfl rfl rfl rfl ⟨rfl, rfl⟩ ?_
    refine G (T := T) 1000 rfl ?_
    refine Cq (j6 (by omega) h2 (.inl r2)) rfl rfl rfl rfl rfl ⟨rfl, rfl⟩ ?_
    refine G (T := T) 1000 rfl ?_
    exact Fq (T := T) rfl rfl
  have h9 := of_decide_eq_false h
  have hd2 := bQ (n := g.bank) (by omega) (by omega)
  have hd3 : (hexB g.bytes).size ≤ 200000000000 := by rw [g6]; omega
  rw [tGb, if_neg (by omega)]
  refine G (T := T) 1000 rfl ?_
  refine Cq (aU (w := iU) (p := g.nm) (by decide) (by omega)) rfl rfl rfl rfl rfl ⟨rfl, rfl⟩ ?_
  refine G (T := T) 1000 rfl ?_
  refine Cq (j6 (by omega) h2 (.inl r2)) rfl rfl rfl rfl rfl ⟨rfl, rfl⟩ ?_
  refine G (T := T) 1000 rfl ?_
  refine Cq (bk (n := g.bank) (by omega) (by omega)) rfl rfl rfl rfl rfl ⟨rfl, rfl⟩ ?_
  refine G (T := T) 1000 rfl ?_
  refine Cq (aU (w := dS) (p := bd g.bank.toNat) (by decide) (by omega)) rfl rfl rfl rfl rfl ⟨rfl, rfl⟩ ?_
  refine G (T := T) 1000 rfl ?_
  refine Cq (ref_hex (by omega)) rfl rfl rfl rfl rfl ⟨rfl, rfl⟩ ?_
  refine G (T := T) 1000 rfl ?_
  refine Cq (aU (w := fY) (p := hexB g.bytes) (by decide) hd3) rfl rfl rfl rfl rfl ⟨rfl, rfl⟩ ?_
  refine G (T := T) 1000 rfl ?_
  exact Fq (T := T) rfl rfl
theorem oK (hS : ∀ {s : Sm}, s.size ≤ 100000000000 → s.ok → rSm s = true → XQ Tryz.prog pk 152 [xd (smD s)] (xd (trd (tSm s)))) {f : Fu} {B : Nat} (hB : B ≤ 90000000000) (hok : f.ok B) (hr : rFu f = true) : XQ Tryz.prog pk 61 [xd (fuD f)] (xd (trd (tFu f))) := by
  obtain ⟨h1, h2, h3, h4, h5, h6, h7, h8, h9⟩ := hok
  rw [rFu] at hr
  simp only [Bool.and_eq_true, Bool.or_eq_true] at hr
  obtain ⟨⟨⟨r1, r2⟩, r3⟩, r4⟩ := hr
  refine XQ.en Tryz.func61 Tryz.ntmps61 (fun w0 own H V v0 hf => ?_)
  refine G (T := T) 100001 rfl ?_
  refine (FzTo.bz 0 rfl).c ?_
  refine G (T := T) 1000 rfl ?_
  refine Cq (gu (w := bq) (B := B) (by decide) (by omega) h2 h3 (List.all_eq_true.1 r2)) rfl rfl rfl rfl rfl ⟨rfl, rfl⟩ ?_
  refine G (T := T) 1000 rfl ?_
  refine Cq (j6 (by omega) h4 r3.symm) rfl rfl rfl rfl rfl ⟨rfl, rfl⟩ ?_
  refine G (T := T) 1000 rfl ?_
  refine If rfl (fun h => ?_) (fun h => ?_)
  · rw [if_pos h] at r4
    simp only [Bool.and_eq_true, decide_eq_true_eq] at r4
    have hd1 := bQ (n := f.x) (by omega) (by omega)
    have hd2 := bQ h9.1 (by omega)
    rw [tFu, if_pos h]
    refine G (T := T) 1000 rfl ?_
    refine Cq (aU (w := cd) (p := f.nm) (by decide) (by omega)) rfl rfl rfl rfl rfl ⟨rfl, rfl⟩ ?_
    refine G (T := T) 1000 rfl ?_
    refine Cq (bk (n := f.x) (by omega) (by omega)) rfl rfl rfl rfl rfl ⟨rfl, rfl⟩ ?_
    refine G (T := T) 1000 rfl ?_
    refine Cq (aU (w := dS) (p := bd f.x.toNat) (by decide) (by omega)) rfl rfl rfl rfl rfl ⟨rfl, rfl⟩ ?_
    refine G (T := T) 1000 rfl ?_
    refine Cq (bk h9.1 (by omega)) rfl rfl rfl rfl rfl ⟨rfl, rfl⟩ ?_
    refine G (T := T) 1000 rfl ?_
    refine Cq (aU (w := w_at) (p := bd f.y.toNat) (by decide) (by omega)) rfl rfl rfl rfl rfl ⟨rfl, rfl⟩ ?_
    refine G (T := T) 1000 rfl ?_
    refine Fq (T := T) rfl ?_
    rw [al]
    show _ = xd [.c (.string (ao cd f.nm)), .s [trd (.node aT (f.ps.map (cC bq))), trd (.node cX [tTy f.res]), trd (eY dS f.x), trd (eY w_at f.y)]]
    rw [al, al]
    rfl
  rw [if_neg (by rw [h]; simp)] at r4
  simp only [Bool.and_eq_true, aZ] at r4
  rw [tFu, if_neg (by rw [h]; simp), dv]
  refine G (T := T) 1000 rfl ?_
  refine Cq (aU (w := w_fn) (p := f.nm) (by decide) (by omega)) rfl rfl rfl rfl rfl ⟨rfl, rfl⟩ ?_
  refine G (T := T) 1000 rfl ?_
  refine Cq (iF (by have := Sm.len_le f.body; omega) (fun s hs => hS (by have := Sm.size_mem hs; omega) (Sm.oks_mem h6 hs) (List.all_eq_true.1 r4.2 s hs))) rfl rfl rfl rfl rfl ⟨rfl, rfl⟩ ?_
  refine G (T := T) 1000 rfl ?_
  refine Fq (T := T) rfl ?_
  rw [al]
  show _ = xd [.c (.string (ao w_fn f.nm)), .s [trd (.node aT (f.ps.map (cC bq))), trd (.node cX [tTy f.res]), trd (.node bp (f.body.map tSm))]]
  rw [al, al, al]
  rfl
end
section
open Go Go.RowKit Go.Proofs K
variable {pk : Pk}
theorem smW_le (k : Int) : (smW k).size ≤ 1000 := by unfold smW; repeat' (first | apply ite_le | decide)
theorem oL : ∀ (m : Nat), m ≤ 100000000000 → ∀ {s : Sm}, s.size ≤ m → s.ok → rSm s = true → XQ Tryz.prog pk 152 [xd (smD s)] (xd (trd (tSm s))) := by
  intro m
  induction m with
  | zero => intro _ e hm; have := e.size_pos; omega
  | succ m ih =>
  intro hB s hm hok hr
  obtain ⟨k, nm, t, n, es, b, el, cs⟩ := s
  obtain ⟨hk, hn, ht, hn2, hx, hb, he, hc⟩ := hok
  obtain ⟨hk14, rt, rx, rb, re, rc⟩ := kZ hr
  have hsz : (Sm.mk k nm t n es b el cs).size = t.size + Ex.sizes es + Sm.sizes b + Sm.sizes el + Sm.csizes cs + 1 := rfl
  have l1 := Ex.len_le es
  have l2 := Sm.clen_le cs
  have l3 := Sm.len_le b
  have hdec := bQ hn2.1 (by omega)
  have blk : ∀ {l : List Sm}, Sm.sizes l ≤ m → Sm.oks l → (∀ s ∈ l, rSm s = true) → XQ Tryz.prog pk 113 [xr (l.map smD)] (xr (aj (l.map tSm))) := fun {l} h1 h2 h3 => iF (by have := Sm.len_le l; omega) (fun s hs => ih (by omega) (by have := Sm.size_mem hs; omega) (Sm.oks_mem h2 hs) (h3 s hs))
  rw [aQ, bP, al]
  refine XQ.en Tryz.func152 Tryz.ntmps152 (fun w0 own H V v0 hf => ?_)
  refine G (T := T) 100001 rfl ?_
  refine (FzTo.bz 0 rfl).c ?_
  refine G (T := T) 13 rfl ?_
  refine Lo (T := T) (.d (.c (.string (smW k)))) ?_ rfl rfl rfl rfl rfl ⟨rfl, rfl⟩ ?_
  · rcases kind14 hk14 with rfl | rfl | rfl | rfl | rfl | rfl | rfl | rfl | rfl | rfl | rfl | rfl | rfl | rfl <;> rfl
  refine G (T := T) 1000 rfl ?_
  refine Cq (aU (w := smW k) (p := nm) (smW_le k) (by omega)) rfl rfl rfl rfl rfl ⟨rfl, rfl⟩ ?_
  refine G (T := T) 1000 rfl ?_
  refine Cf [1, 2, 4] (fun (_ : Unit) r => r) (fun _ => [⟨3, 0, .cells [.d (.c (.string (smL k nm n))), .z] 35⟩, ⟨1, 0, .cells [.d (.c (.string eS)), .z] 35⟩]) 4 (fun _ => True) rfl ?_ ?_
  · refine If rfl (fun h => ?_) (fun h => ?_)
    · have h9 := of_decide_eq_true h
      refine G (T := T) 1000 rfl ?_
      refine Cq (bk hn2.1 (by omega)) rfl rfl rfl rfl rfl ⟨rfl, rfl⟩ ?_
      refine G (T := T) 1000 rfl ?_
      refine Cq (aU (w := jN) (p := bd n.toNat) (by decide) (by omega)) rfl rfl rfl rfl rfl ⟨rfl, rfl⟩ ?_
      refine G (T := T) 1000 rfl ?_
      rw [show smL k nm n = ao jN (bd n.toNat) from by subst h9; rfl]
      exact Dn () trivial
    · have h9 := of_decide_eq_false h
      refine G (T := T) 1000 rfl ?_
      rw [show smL k nm n = ao (smW k) nm from by rw [smL, if_neg h9]]
      exact Dn () trivial
  rintro _ -
  refine G (T := T) 100005 rfl ?_
  refine (Nrh 3 1 35 2 rfl rfl rfl rfl rfl).c ?_
  generalize smL k nm n = L
  refine G (T := T) 1000 rfl ?_
  refine Cf [1, 2, 4] (fun (q : Nat × List (List D)) r => r) (fun q => [⟨4, 1, .row q.1 q.2 35 2⟩, ⟨3, 0, .cells [.d (.c (.string L)), .l 4 1 2 0 q.1 q.1] 35⟩, ⟨1, 0, .cells [.d (.c (.string eS)), .z] 35⟩]) 5 (fun q => q.1 ≤ 1 ∧ q.2 = aj (if k = 1 then [tTy t] else [])) rfl ?_ ?_
  · refine If rfl (fun h => ?_) (fun h => ?_)
    · have h9 := of_decide_eq_true h
      refine G (T := T) 1000 rfl ?_
      refine Cq (j6 (by omega) ht (.inl (rt h9))) rfl rfl rfl rfl rfl ⟨rfl, rfl⟩ ?_
      refine G (T := T) 1000 rfl ?_
      exact Dn (1, [trd (tTy t)]) ⟨by dsimp only; omega, by rw [if_pos h9]; rfl⟩
    · have h9 := of_decide_eq_false h
      refine G (T := T) 1000 rfl ?_
      exact Dn (0, []) ⟨by dsimp only; omega, by rw [if_neg h9]; rfl⟩
  rintro ⟨c0, R0⟩ ⟨hc0, hR0⟩; dsimp only at hc0 hR0 ⊢
  refine G (T := T) 1000 rfl ?_
  refine Lq [1, 2, 4] (fun (q : Nat × Nat × List (List D)) r => (5, xi (q.1 : Nat)) :: r) (fun q => [⟨4, 1, .row q.2.1 q.2.2 35 2⟩, ⟨3, 0, .cells [.d (.c (.string L)), .l 4 1 2 0 q.2.1 q.2.1] 35⟩, ⟨1, 0, .cells [.d (.c (.string eS)), .z] 35⟩]) 5 (fun q => q.1 ≤ es.length ∧ q.2.1 = c0 + q.1 ∧ q.2.2 = R0 ++ aj ((es.take q.1).map tEx)) (fun q => es.length - q.1) (0, c0, R0) rfl ⟨Nat.zero_le _, rfl, by simp⟩ ?_
  rintro ⟨j, z, R⟩ ⟨hj, hz, hR⟩; dsimp only at hj hz hR ⊢
  refine G (T := T) 1000 rfl ?_
  refine If rfl (fun h => ?_) (fun h => ?_)
  · have hjl := of_decide_eq_true h; rw [List.length_map] at hjl
    obtain ⟨y, hy⟩ := ae (l := es) (j := j) (by omega)
    have hym := List.mem_of_getElem? hy
    refine G (T := T) 48 rfl ?_
    refine Ix (T := T) j (ab hy) rfl rfl rfl rfl ⟨rfl, rfl⟩ rfl rfl ?_
    refine G (T := T) 1000 rfl ?_
    refine Cq (oJ _ (by have := Ex.size_mem hym; omega) (Nat.le_refl _) (Ex.oks_mem hx hym) (rx y hym)) rfl rfl rfl rfl rfl ⟨rfl, rfl⟩ ?_
    refine G (T := T) 1000 rfl ?_
    exact Nq (j + 1, z + 1, R ++ [trd (tEx y)]) ⟨by omega, by dsimp only; omega, by dsimp only; rw [hR, aH tEx hy, aO, List.append_assoc]⟩ (by show _ - (j + 1) < _ - j; omega)
  have hjl := of_decide_eq_false h; rw [List.length_map] at hjl
  rw [List.take_of_length_le (by omega)] at hR
  refine G (T := T) 1000 rfl ?_
  refine Cq (blk (by omega) hb rb) rfl rfl rfl rfl rfl ⟨rfl, rfl⟩ ?_
  refine G (T := T) 1000 rfl ?_
  refine Cq (blk (by omega) he re) rfl rfl rfl rfl rfl ⟨rfl, rfl⟩ ?_
  have fin : ∀ {X : List Tr} {rows : List (List D)}, smT k (b.map tSm) (el.map tSm) (cs.map cJ) = X → rows = aj X → aj ((if k = 1 then [tTy t] else []) ++ (es.map tEx ++ smT k (b.map tSm) (el.map tSm) (cs.map cJ))) = R ++ rows := fun h1 h2 => by
    rw [h1, h2, hR, hR0]; simp only [aj, List.map_append, List.append_assoc]
  have hzl : z ≤ 100000000001 := by omega
  refine G (T := T) 1000 rfl ?_
  refine If rfl (fun h => ?_) (fun h => ?_)
  · have h9 := of_decide_eq_true h
    refine G (T := T) 1000 rfl ?_
    refine MS.fze 4 rfl ?_ (by repeat' (first | exact trivial | apply And.intro | rfl))
    refine Fq (T := T) rfl ?_
    rw [fin (X := [.node cW (b.map tSm), .node di (el.map tSm)]) (rows := [[.c (.string cW), .s (aj (b.map tSm))], [.c (.string di), .s (aj (el.map tSm))]]) (by rw [smT, if_pos h9]) (by rw [← al, ← al]; rfl)]
    rfl
  have h3 := of_decide_eq_false h
  refine G (T := T) 1000 rfl ?_
  refine If rfl (fun h => ?_) (fun h => ?_)
  · have h9 := of_decide_eq_true h
    refine G (T := T) 1000 rfl ?_
    refine MS.fze 4 rfl ?_ (by repeat' (first | exact trivial | apply And.intro | rfl))
    refine Fq (T := T) rfl ?_
    rw [fin (X := [.node bp (b.map tSm)]) (rows := [[.c (.string bp), .s (aj (b.map tSm))]]) (by rw [smT, if_neg h3, if_pos h9]) (by rw [← al]; rfl)]
    rfl
  have h4 := of_decide_eq_false h
  have hB2 : ∀ r ∈ aj (b.map tSm), r.length = 2 := fun r hr => by
    simp only [aj, List.mem_map] at hr
    obtain ⟨u, _, rfl⟩ := hr
    rfl
  have hBl : (aj (b.map tSm)).length ≤ 100000000000 := by simp only [aj, List.length_map]; omega
  have fin5 : k = 5 ∨ k = 6 → aj ((if k = 1 then [tTy t] else []) ++ (es.map tEx ++ smT k (b.map tSm) (el.map tSm) (cs.map cJ))) = R ++ aj (b.map tSm) := fun hq => fin (by rw [smT, if_neg h3, if_neg h4, if_pos hq]) rfl
  generalize aj ((if k = 1 then [tTy t] else []) ++ (es.map tEx ++ smT k (b.map tSm) (el.map tSm) (cs.map cJ))) = W at fin fin5 ⊢
  generalize aj (b.map tSm) = BB at hB2 hBl fin5 ⊢
  refine G (T := T) 1000 rfl ?_
  refine If rfl (fun h => ?_) (fun h => ?_)
  · have h9 := of_decide_eq_true h
    refine G (T := T) 1000 rfl ?_
    refine IfT rfl h ?_
    rw [fin5 (.inl h9)]
    rcases BB with _ | ⟨q1, _ | ⟨q2, _ | ⟨q3, qr⟩⟩⟩ <;>
    (refine Gs (T := T) 1000 rfl ?_
     refine MS.fze 4 rfl ?_ (by repeat' (first | exact trivial | apply And.intro | rfl))
     exact Fq (T := T) rfl rfl)
  have h5 := of_decide_eq_false h
  refine G (T := T) 1000 rfl ?_
  refine If rfl (fun h => ?_) (fun h => ?_)
  · have h9 := of_decide_eq_true h
    rw [fin5 (.inr h9)]
    rcases BB with _ | ⟨q1, _ | ⟨q2, _ | ⟨q3, qr⟩⟩⟩ <;>
    (refine Gs (T := T) 1000 rfl ?_
     refine MS.fze 4 rfl ?_ (by repeat' (first | exact trivial | apply And.intro | rfl))
     exact Fq (T := T) rfl rfl)
  have h6 := of_decide_eq_false h
  refine G (T := T) 1000 rfl ?_
  refine If rfl (fun h => ?_) (fun h => ?_)
  · have h9 := of_decide_eq_true h
    refine G (T := T) 1000 rfl ?_
    refine Lq [1, 2, 4, 7] (fun (q : Nat × Nat × List (List D)) r => (8, xi (q.1 : Nat)) :: r) (fun q => [⟨4, 1, .row q.2.1 q.2.2 35 2⟩, ⟨3, 0, .cells [.d (.c (.string L)), .l 4 1 2 0 q.2.1 q.2.1] 35⟩, ⟨1, 0, .cells [.d (.c (.string eS)), .z] 35⟩]) 5 (fun q => q.1 ≤ cs.length ∧ q.2.1 = z + q.1 ∧ q.2.2 = R ++ aj ((cs.take q.1).map cJ)) (fun q => cs.length - q.1) (0, z, R) rfl ⟨Nat.zero_le _, rfl, by simp⟩ ?_
    rintro ⟨i, z2, R2⟩ ⟨hi, hz2, hR2⟩; dsimp only at hi hz2 hR2 ⊢
    refine G (T := T) 1000 rfl ?_
    refine If rfl (fun h => ?_) (fun h => ?_)
    · have hil := of_decide_eq_true h; rw [List.length_map] at hil
      obtain ⟨c, hci⟩ := ae (l := cs) (j := i) (by omega)
      have hcm := List.mem_of_getElem? hci
      refine G (T := T) 104 rfl ?_
      refine Ix (T := T) i (ab hci) rfl rfl rfl rfl ⟨rfl, rfl⟩ rfl rfl ?_
      refine G (T := T) 1000 rfl ?_
      refine Cq (blk (by have := Sm.csize_mem hcm; omega) (Sm.okc_mem hc hcm) (rc c hcm)) rfl rfl rfl rfl rfl ⟨rfl, rfl⟩ ?_
      refine G (T := T) 1000 rfl ?_
      exact Nq (i + 1, z2 + 1, R2 ++ [[.c (.string my), .s (aj (c.map tSm))]]) ⟨by omega, by dsimp only; omega, by dsimp only; rw [hR2, aH cJ hci, aO, al, List.append_assoc]⟩ (by show _ - (i + 1) < _ - i; omega)
    have hil := of_decide_eq_false h; rw [List.length_map] at hil
    rw [List.take_of_length_le (by omega)] at hR2
    refine G (T := T) 1000 rfl ?_
    refine MS.fze 4 rfl ?_ (by repeat' (first | exact trivial | apply And.intro | rfl))
    refine Fq (T := T) rfl ?_
    rw [fin (X := cs.map cJ ++ [.node bh (el.map tSm)]) (rows := aj (cs.map cJ) ++ [[.c (.string bh), .s (aj (el.map tSm))]]) (by rw [smT, if_neg h3, if_neg h4, if_neg (by omega), if_pos h9]) (by rw [aO, al]), ← List.append_assoc, ← hR2]
    rfl
  have h9 := of_decide_eq_false h
  refine G (T := T) 1000 rfl ?_
  refine MS.fze 4 rfl ?_ (by repeat' (first | exact trivial | apply And.intro | rfl))
  refine Fq (T := T) rfl ?_
  rw [fin (X := []) (rows := []) (by rw [smT, if_neg h3, if_neg h4, if_neg (by omega), if_neg h9]) rfl, List.append_nil]
  rfl
end
section
open Go Go.RowKit Go.Proofs K
variable {pk : Pk}
theorem iY {α : Type} {l : List α} {j : Nat} {y : α} (h : l[j]? = some y) : l.drop j = y :: l.drop (j + 1) := by
  obtain ⟨h1, h2⟩ := List.getElem?_eq_some_iff.1 h
  rw [List.drop_eq_getElem_cons h1, h2]
theorem j7 : ∀ {a b : List Tr}, a.length ≠ b.length → Tr.eqbs a b = false
  | [], [], h => absurd rfl h
  | [], _ :: _, _ => rfl
  | _ :: _, [], _ => rfl
  | t :: ts, u :: us, h => by rw [Tr.eqbs, j7 (fun e => h (by simp [e])), Bool.and_false]
theorem ref_same (m : Nat) (hB : m ≤ 100000000000) : ∀ (t u : Tr), t.size ≤ m → XQ Tryz.prog pk 18 [xd (trd t), xd (trd u)] (xb (t.eqb u)) := by
  induction m with
  | zero => intro t u h; have := t.size_pos; omega
  | succ m ih =>
  intro t u hm
  obtain ⟨l, ks⟩ := t
  obtain ⟨l', js⟩ := u
  have hl := Tr.len_le ks
  have hsz : (Tr.node l ks).size = Tr.sizes ks + 1 := rfl
  rw [al, al, Tr.eqb, gO]
  refine XQ.en Tryz.func18 Tryz.ntmps18 (fun w0 own H V v0 hf => ?_)
  refine Gs (T := T) 100001 rfl ?_
  refine (FzTo.bz 0 rfl).c ?_
  refine (FzTo.bz 1 rfl).c ?_
  refine Gs (T := T) 1000 rfl ?_
  refine If rfl (fun h => ?_) (fun h => ?_)
  · rw [List.length_map, List.length_map] at h
    refine G (T := T) 1000 rfl ?_
    refine Fe (T := T) rfl (congrArg xb ?_)
    rw [Bool.or_eq_true] at h
    rcases h with h | h
    · rw [decide_eq_false (of_decide_eq_true h)]; rfl
    · rw [j7 (by have := of_decide_eq_true h; omega), Bool.and_false]
  rw [List.length_map, List.length_map, Bool.or_eq_false_iff] at h
  have hll : l = l' := Decidable.not_not.1 (of_decide_eq_false h.1)
  have hlen : ks.length = js.length := by have := of_decide_eq_false h.2; omega
  rw [decide_eq_true hll, Bool.true_and]
  refine G (T := T) 1000 rfl ?_
  refine Lq [2, 3] (fun q r => (4, xb false) :: (5, xi (q : Nat)) :: r) (fun q => []) 2 (fun q => q ≤ ks.length ∧ Tr.eqbs ks js = Tr.eqbs (ks.drop q) (js.drop q)) (fun q => ks.length - q) 0 rfl ⟨Nat.zero_le _, rfl⟩ ?_
  rintro j ⟨hj, hI⟩
  refine G (T := T) 1000 rfl ?_
  refine If rfl (fun h => ?_) (fun h => ?_)
  · have hjl := of_decide_eq_true h; rw [List.length_map] at hjl
    obtain ⟨y, hy⟩ := ae (l := ks) (j := j) (by omega)
    obtain ⟨z, hz⟩ := ae (l := js) (j := j) (by omega)
    rw [iY hy, iY hz, Tr.eqbs] at hI
    refine G (T := T) 1000 rfl ?_
    refine Ix (T := T) j (ab hy) rfl rfl rfl rfl ⟨rfl, rfl⟩ rfl rfl ?_
    refine G (T := T) 1000 rfl ?_
    refine Ix (T := T) j (ab hz) rfl rfl rfl rfl ⟨rfl, rfl⟩ rfl rfl ?_
    refine G (T := T) 1000 rfl ?_
    refine Cq (ih (by omega) y z (Tr.size_kid (List.mem_of_getElem? hy) hm)) rfl rfl rfl rfl rfl ⟨rfl, rfl⟩ ?_
    refine G (T := T) 1000 rfl ?_
    refine If rfl (fun h => ?_) (fun h => ?_)
    · refine G (T := T) 1000 rfl ?_
      exact Fe (T := T) rfl (congrArg xb (by rw [hI, show y.eqb z = false by simpa using h]; rfl))
    · refine G (T := T) 1000 rfl ?_
      exact Nq (j + 1) ⟨by omega, by rw [hI, show y.eqb z = true by simpa using h, Bool.true_and]⟩ (by show _ - (j + 1) < _ - j; omega)
  · have hjl := of_decide_eq_false h; rw [List.length_map] at hjl
    refine G (T := T) 1000 rfl ?_
    exact Fe (T := T) rfl (congrArg xb (by rw [hI, List.drop_of_length_le (by omega), List.drop_of_length_le (by omega)]; rfl))
end
section
open Go Go.RowKit Go.Proofs K
variable {pk : Pk}
def dW (n : Int) : Bool := (decide (97 ≤ n) && decide (n ≤ 122)) || (decide (65 ≤ n) && decide (n ≤ 90))
theorem k6 (b : UInt8) : fO (b.toNat : Int) = dW (b.toNat : Int) := by
  have h : ∀ n : Nat, n < 256 → fO (n : Int) = dW (n : Int) := by decide +kernel
  exact h _ b.toNat_lt
theorem ref_digit (n : Int) : XQ Tryz.prog pk 76 [xu8 n] (xb (jF n)) := by
  refine XQ.en Tryz.func76 Tryz.ntmps76 (fun w0 own H V v0 hf => ?_)
  refine Gs (T := T) 1000 rfl ?_
  exact Fe (T := T) rfl rfl
theorem j8 (n : Int) : XQ Tryz.prog pk 75 [xu8 n] (xb (dW n)) := by
  refine XQ.en Tryz.func75 Tryz.ntmps75 (fun w0 own H V v0 hf => ?_)
  refine Gs (T := T) 1000 rfl ?_
  exact Fe (T := T) rfl rfl
theorem k7 {l : List ByteArray} (hl : l.length ≤ 1000000) (s : ByteArray) : XQ Tryz.prog pk 73 [xs s, xr (l.map cu)] (xb (aF s l)) := by
  refine XQ.en Tryz.func73 Tryz.ntmps73 (fun w0 own H V v0 hf => ?_)
  refine G (T := T) 1000 rfl ?_
  refine Lq [0, 1] (fun q r => (4, xb false) :: (5, xi (q : Nat)) :: r) (fun q => []) 0 (fun q => q ≤ l.length ∧ (l.take q).any (fun x => decide (x = s)) = false) (fun q => l.length - q) 0 rfl ⟨Nat.zero_le _, rfl⟩ ?_
  rintro j ⟨hj, hI⟩
  refine G (T := T) 1000 rfl ?_
  refine If rfl (fun h => ?_) (fun h => ?_)
  · have hjl := of_decide_eq_true h; rw [List.length_map] at hjl
    obtain ⟨y, hy⟩ := ae (l := l) (j := j) (by omega)
    refine G (T := T) 1000 rfl ?_
    refine Ix (T := T) j (ab hy) rfl rfl rfl rfl ⟨rfl, rfl⟩ rfl rfl ?_
    refine G (T := T) 1000 rfl ?_
    refine If rfl (fun h => ?_) (fun h => ?_)
    · refine G (T := T) 1000 rfl ?_
      exact Fe (T := T) rfl (congrArg xb (List.any_eq_true.2 ⟨y, List.mem_of_getElem? hy, h⟩).symm)
    · refine G (T := T) 1000 rfl ?_
      exact Nq (j + 1) ⟨by omega, eu hI hy h⟩ (by show _ - (j + 1) < _ - j; omega)
  · have hjl := of_decide_eq_false h; rw [List.length_map] at hjl
    refine G (T := T) 1000 rfl ?_
    rw [List.take_of_length_le (by omega)] at hI
    exact Fe (T := T) rfl (congrArg xb hI.symm)
theorem mM : XQ Tryz.prog pk 74 [] (xr (kws.map cu)) := by
  refine XQ.en Tryz.func74 Tryz.ntmps74 (fun w0 own H V v0 hf => ?_)
  refine G (T := T) 1000 rfl ?_
  exact Fe (T := T) rfl rfl
theorem bR {s : ByteArray} (hs : s.size ≤ 9223372036854775806) : XQ Tryz.prog pk 28 [xs s] (xb (ai s)) := by
  refine XQ.en Tryz.func28 Tryz.ntmps28 (fun w0 own H V v0 hf => ?_)
  refine G (T := T) 1000 rfl ?_
  refine Cq mM rfl rfl rfl rfl rfl ⟨rfl, rfl⟩ ?_
  refine G (T := T) 1000 rfl ?_
  refine Cq (k7 (by decide) s) rfl rfl rfl rfl rfl ⟨rfl, rfl⟩ ?_
  refine G (T := T) 12 rfl ?_
  refine Sp 11 rfl (fun h => ?_) (fun h => ?_)
  · have h1 : s.size = 0 := by have := of_decide_eq_true h; omega
    have h2 : s = ⟨#[]⟩ := by obtain ⟨a⟩ := s; exact congrArg ByteArray.mk (Array.eq_empty_of_size_eq_zero h1)
    refine G (T := T) 1000 rfl ?_
    refine IfT rfl rfl ?_
    refine G (T := T) 1000 rfl ?_
    exact Fe (T := T) rfl (congrArg xb (by rw [ai, h2]; simp))
  have h1 : 1 ≤ s.size := by have := of_decide_eq_false h; omega
  have hne : s ≠ ⟨#[]⟩ := fun e => by rw [e] at h1; exact absurd h1 (by decide)
  refine Gs (T := T) 1000 rfl ?_
  refine Cs (fun _ => j8 _) rfl rfl rfl rfl rfl rfl rfl rfl ?_
  refine Gs (T := T) 1000 rfl ?_
  have hid : ai s = (!(((false || decide (24 < (s.size : Int))) || !dW ((s.data.getD (0 : Int).toNat 0).toNat : Int)) || aF s kws) && decide (eh (fun b => iw (b.toNat : Int)) s.data.toList 0 = s.size)) := by
    rw [ai, decide_eq_true hne, Bool.true_and, jU s hne, k6, show decide (24 < (s.size : Int)) = !decide (s.size ≤ 24) from by rw [← decide_not]; exact decide_eq_decide.2 (by omega)]
    show _ = (!(((false || _) || _) || (kws.any fun x => decide (x = s))) && _)
    cases decide (s.size ≤ 24) <;> cases dW ((s.data.getD (0 : Int).toNat 0).toNat : Int) <;> cases (kws.any fun x => decide (x = s)) <;> simp
  refine If rfl (fun h => ?_) (fun h => ?_)
  · refine G (T := T) 1000 rfl ?_
    exact Fe (T := T) rfl (congrArg xb (by rw [hid, h]; rfl))
  rw [h, Bool.not_false, Bool.true_and] at hid
  refine G (T := T) 1000 rfl ?_
  refine Lq [0] (fun q r => (2, xb false) :: (4, xi (q : Nat)) :: r) (fun q => []) 0 (fun k => k ≤ s.size ∧ eh (fun b => iw (b.toNat : Int)) s.data.toList 0 = eh (fun b => iw (b.toNat : Int)) (s.data.toList.drop k) k) (fun q => s.size - q) 0 rfl ⟨Nat.zero_le _, rfl⟩ ?_
  rintro k ⟨hk, hI⟩
  refine G (T := T) 1000 rfl ?_
  refine If rfl (fun h => ?_) (fun h => ?_)
  · have hlt : k < s.size := by have := of_decide_eq_true h; omega
    rw [sp_at hlt] at hI; simp only [eh] at hI
    refine Gs (T := T) 1000 rfl ?_
    refine Cq (j8 _) rfl rfl rfl rfl rfl ⟨rfl, rfl⟩ ?_
    refine Gs (T := T) 1000 rfl ?_
    refine Cs (fun _ => ref_digit _) rfl rfl rfl rfl rfl rfl rfl rfl ?_
    refine Gs (T := T) 1000 rfl ?_
    have hp : ∀ b : UInt8, (((!dW (b.toNat : Int)) && !jF (b.toNat : Int)) && decide ((b.toNat : Int) ≠ 95)) = !iw (b.toNat : Int) := fun b => by
      rw [iw, k6, decide_not]
      cases dW (b.toNat : Int) <;> cases jF (b.toNat : Int) <;> simp
    refine If rfl (fun h => ?_) (fun h => ?_)
    · rw [hp] at h
      refine G (T := T) 1000 rfl ?_
      exact Fe (T := T) rfl (congrArg xb (by rw [hid, hI, if_neg (by simpa using h)]; exact (decide_eq_false (by omega)).symm))
    · rw [hp] at h
      refine G (T := T) 1000 rfl ?_
      exact Nq (k + 1) ⟨hlt, by rw [hI, if_pos (by simpa using h)]⟩ (by show _ - (k + 1) < _ - k; omega)
  · have hlt : s.size ≤ k := by have := of_decide_eq_false h; omega
    refine G (T := T) 1000 rfl ?_
    exact Fe (T := T) rfl (congrArg xb (by rw [hid, hI, List.drop_of_length_le (by simpa using hlt)]; exact (decide_eq_true (show k = s.size by omega)).symm))
end
open Go Go.RowKit Go.Proofs K
def aD (s : ByteArray) : Ex := .mk 2 s 0 []
def d9 (n : Int) : Ex := .mk 1 eS n []
def iN (op : ByteArray) (a b : Ex) : Ex := .mk 13 op 0 [a, b]
def fldE (e : Ex) (s : ByteArray) : Ex := .mk 3 s 0 [e]
def idxE (e i : Ex) : Ex := .mk 4 eS 0 [e, i]
def locL : List ByteArray := [⟨#[97]⟩, ⟨#[98]⟩, ⟨#[99]⟩, ⟨#[112]⟩, ⟨#[118, 49]⟩, ⟨#[118, 50]⟩, ⟨#[118, 51]⟩, ⟨#[118, 52]⟩, ⟨#[118, 53]⟩, ⟨#[118, 54]⟩, ⟨#[118, 55]⟩, ⟨#[118, 56]⟩, ⟨#[118, 57]⟩]
def gloL : List ByteArray := [⟨#[103, 48]⟩, ⟨#[103, 49]⟩, ⟨#[103, 50]⟩, ⟨#[97, 114, 114]⟩, ⟨#[98, 121, 116, 101, 115]⟩, ⟨#[103, 115]⟩, ⟨#[103, 117]⟩, ⟨#[116, 97, 98]⟩, ⟨#[119, 111, 114, 100, 115]⟩]
def funL : List ByteArray := [⟨#[109, 97, 105, 110]⟩, ⟨#[102, 105, 114, 115, 116]⟩, ⟨#[115, 101, 99, 111, 110, 100]⟩, ⟨#[116, 104, 105, 114, 100, 95, 102, 117, 110, 99, 116, 105, 111, 110, 95, 111, 102, 95, 116, 104, 101, 109, 95, 88]⟩]
def dB (s : ByteArray) : Bool := aF s locL
def gloN (s : ByteArray) : Bool := aF s gloL
def funN (s : ByteArray) : Bool := aF s funL
theorem eC {s : ByteArray} {l : List ByteArray} (hl : (l.all ai) = true) (h : aF s l = true) : ai s = true := by
  obtain ⟨x, hx, hs⟩ := List.any_eq_true.1 h
  simp only [decide_eq_true_eq] at hs
  subst hs
  exact List.all_eq_true.1 hl x hx
theorem mN {s : ByteArray} (h : dB s = true) : ai s = true := eC (by decide +kernel) h
theorem gloN_id {s : ByteArray} (h : gloN s = true) : ai s = true := eC (by decide +kernel) h
theorem mO {s : ByteArray} (h : funN s = true) : ai s = true := eC (by decide +kernel) h
def nmK (k : Int) (nm : ByteArray) : Bool := if k = 2 then dB nm || gloN nm else if k = 14 then funN nm else true
mutual
def nmE : Ex → Bool
  | .mk k nm _ ks => nmK k nm && nmEs ks
def nmEs : List Ex → Bool
  | [] => true
  | t :: r => nmE t && nmEs r
end
theorem j9 : ∀ l, nmEs l = l.all nmE
  | [] => rfl
  | t :: r => by simp only [nmEs, List.all_cons, j9 r]
mutual
def nmS : Sm → Bool
  | .mk k nm _ _ xs b el cs => (decide (k ≠ 1) || dB nm) && nmEs xs && nmSs b && nmSs el && nmCs cs
def nmSs : List Sm → Bool
  | [] => true
  | t :: r => nmS t && nmSs r
def nmCs : List (List Sm) → Bool
  | [] => true
  | c :: r => nmSs c && nmCs r
end
theorem gv : ∀ l, nmSs l = l.all nmS
  | [] => rfl
  | t :: r => by simp only [nmSs, List.all_cons, gv r]
theorem ka : ∀ l, nmCs l = l.all nmSs
  | [] => rfl
  | t :: r => by simp only [nmCs, List.all_cons, ka r]
structure EG (B : Nat) (e : Ex) : Prop where
  r : rEx e = true
  o : e.ok
  s : e.size ≤ B
  u : nmE e = true
def EGp (B : Nat) (e : Ex) : Prop := EG B e ∧ bo e.kind = true
def EGc (B : Nat) (e : Ex) : Prop := EG B e ∧ e.kind = 14
structure EGs (B : Nat) (l : List Ex) : Prop where
  r : rExs l = true
  o : Ex.oks l
  s : Ex.sizes l ≤ B
  u : nmEs l = true
theorem EG.mono {B C : Nat} {e : Ex} (h : EG B e) (hl : B ≤ C) : EG C e := ⟨h.r, h.o, Nat.le_trans h.s hl, h.u⟩
theorem EGs.mono {B C : Nat} {e : List Ex} (h : EGs B e) (hl : B ≤ C) : EGs C e := ⟨h.r, h.o, Nat.le_trans h.s hl, h.u⟩
theorem EGs.nil : EGs 0 [] := ⟨rfl, trivial, Nat.le_refl _, rfl⟩
theorem EGs.cons {B C : Nat} {e : Ex} {l : List Ex} (h : EG B e) (k : EGs C l) : EGs (B + C) (e :: l) := ⟨by simp [rExs, h.r, k.r], ⟨h.o, k.o⟩, by have := h.s; have := k.s; simp only [Ex.sizes]; omega, by simp [nmEs, h.u, k.u]⟩
theorem EGs.one {B : Nat} {e : Ex} (h : EG B e) : EGs B [e] := (EGs.cons h EGs.nil).mono (by omega)
theorem EGs.snoc {B C : Nat} {e : Ex} {l : List Ex} (h : EGs B l) (k : EG C e) : EGs (B + C) (l ++ [e]) := ⟨by rw [bw, List.all_append, ← bw]; simp [h.r, k.r], Ex.oks_append.2 ⟨h.o, k.o, trivial⟩, by have := h.s; have := k.s; simp only [Ex.sizes_append, Ex.sizes]; omega, by rw [j9, List.all_append, ← j9]; simp [h.u, k.u]⟩
theorem ak {s : ByteArray} (h : ai s = true) : s.size ≤ 24 := by
  simp only [ai, Bool.and_eq_true, decide_eq_true_eq] at h
  exact h.1.1.1.2
theorem EG.of {B : Nat} {k n : Int} {nm : ByteArray} {ks : List Ex} (hk : 1 ≤ k ∧ k ≤ 15) (hn : bn k nm = true) (hs : nm.size ≤ 1000000) (hl : k = 14 ∨ (ks.length : Int) = cT k) (h0 : 0 ≤ n) (h1 : n < cI k) (h : EGs B ks) (hu : nmK k nm = true := by rfl) : EG (B + 1) (.mk k nm n ks) := by
  have hx : cI k ≤ 65536 := by unfold cI; split; omega; split; omega; split <;> omega
  refine ⟨?_, ⟨⟨by omega, by omega⟩, hs, ⟨h0, by omega⟩, h.o⟩, by have := h.s; simp only [Ex.size]; omega, by rw [nmE, hu, h.u]; rfl⟩
  simp only [rEx, Bool.and_eq_true, Bool.or_eq_true, decide_eq_true_eq]
  exact ⟨⟨⟨⟨hk, hn⟩, hl⟩, h1⟩, h.r⟩
theorem eg_nm {s : ByteArray} (h : dB s = true ∨ gloN s = true) : EG 1 (aD s) := by
  have hi : ai s = true := h.elim mN gloN_id
  exact EG.of (k := 2) (by omega) hi (by have := ak hi; omega) (.inr rfl) (by omega) (by decide) EGs.nil (by show (dB s || gloN s) = true; rcases h with h | h <;> simp [h])
theorem g8 {s : ByteArray} (h : dB s = true) : EG 1 (aD s) := eg_nm (.inl h)
theorem bJ {s : ByteArray} (h : gloN s = true) : EG 1 (aD s) := eg_nm (.inr h)
theorem fA {n : Int} (h0 : 0 ≤ n) (h1 : n ≤ 65535) : EG 1 (d9 n) := EG.of (k := 1) (by omega) rfl (by decide) (.inr rfl) h0 (by show n < 65536; omega) EGs.nil
theorem eD {s : ByteArray} {l : List ByteArray} {m : Nat} (hl : (l.all fun x => Nat.ble x.size m) = true) (h : aF s l = true) : s.size ≤ m := by
  obtain ⟨x, hx, hs⟩ := List.any_eq_true.1 h
  have := List.all_eq_true.1 hl x hx
  simp only [decide_eq_true_eq] at hs
  subst hs
  exact Nat.le_of_ble_eq_true this
theorem eE {A B : Nat} {op : ByteArray} {a b : Ex} (h : aF op opsL = true) (ha : EG A a) (hb : EG B b) : EG (A + B + 1) (iN op a b) :=
  EG.of (k := 13) (by omega) h (Nat.le_trans (eD (m := 2) (by decide) h) (by omega)) (.inr rfl) (by omega) (by decide) ((EGs.cons ha (EGs.one hb)))
theorem ke {A : Nat} {s : ByteArray} {e : Ex} (h : ai s = true) (ha : EG A e) : EG (A + 1) (fldE e s) := EG.of (k := 3) (by omega) h (by have := ak h; omega) (.inr rfl) (by omega) (by decide) (EGs.one ha)
theorem mP {A B : Nat} {a b : Ex} (ha : EG A a) (hb : EG B b) : EG (A + B + 1) (idxE a b) := EG.of (k := 4) (by omega) rfl (by decide) (.inr rfl) (by omega) (by decide) ((EGs.cons ha (EGs.one hb)))
theorem eg_one {A : Nat} {k : Int} {e : Ex} (hk : k = 5 ∨ k = 6) (ha : EG A e) : EG (A + 1) (.mk k eS 0 [e]) := by
  rcases hk with rfl | rfl
  · exact EG.of (k := 5) (by omega) rfl (by decide) (.inr rfl) (by omega) (by decide) (EGs.one ha)
  · exact EG.of (k := 6) (by omega) rfl (by decide) (.inr rfl) (by omega) (by decide) (EGs.one ha)
theorem eg_un {A : Nat} {op : ByteArray} {e : Ex} (h : aF op unL = true) (ha : EG A e) : EG (A + 1) (.mk 12 op 0 [e]) := EG.of (k := 12) (by omega) h (Nat.le_trans (eD (m := 1) (by decide) h) (by omega)) (.inr rfl) (by omega) (by decide) (EGs.one ha)
theorem eg_cast {A : Nat} {op : ByteArray} {e : Ex} (h : aF op castL = true) (ha : EG A e) : EG (A + 1) (.mk 15 op 0 [e]) := EG.of (k := 15) (by omega) h (Nat.le_trans (eD (m := 3) (by decide) h) (by omega)) (.inr rfl) (by omega) (by decide) (EGs.one ha)
theorem eg_inp {n : Int} (h0 : 0 ≤ n) (h1 : n < 256) : EG 1 (.mk 11 eS n []) := EG.of (k := 11) (by omega) rfl (by decide) (.inr rfl) h0 (by show n < 256; omega) EGs.nil
theorem eg_call {A : Nat} {nm : ByteArray} {l : List Ex} (h : funN nm = true) (ha : EGs A l) : EG (A + 1) (.mk 14 nm 0 l) := EG.of (k := 14) (by omega) (mO h) (by have := ak (mO h); omega) (.inl rfl) (by omega) (by decide) ha h
structure FR (f : Fu) : Prop where
  nm : funN f.nm = true
  ps : ∀ p ∈ f.ps, dB p.nm = true ∧ rTy p.ty = true ∧ p.ty.ok ∧ p.ty.size ≤ 8
  pl : f.ps.length ≤ 3
  res : (rTy f.res = true ∨ aA f.res 7 = true) ∧ f.res.ok ∧ f.res.size ≤ 8
  body : f.body = [] ∧ f.fl = false ∧ f.x = 0 ∧ f.y = 0
def SB (d : Nat) : Nat := 8 * 4 ^ d
theorem iZ (d : Nat) : SB (d + 1) = 4 * SB d := by unfold SB; rw [Nat.pow_succ]; omega
theorem g9 : ∀ d : Nat, 8 ≤ SB d
  | 0 => by decide
  | d + 1 => by have := g9 d; rw [iZ]; omega
def constL : List Int := [0, 1, 2, 3, 5, 7, 15, 16, 127, 128, 255, 256, 1000, 32767, 32768, 65535]
theorem constL_in {i : Nat} {x : Int} (h : constL[i]? = some x) : 0 ≤ x ∧ x ≤ 65535 := by
  have : ∀ x ∈ constL, 0 ≤ x ∧ x ≤ 65535 := by decide
  exact this x (List.mem_of_getElem? h)
theorem EGs.step {i d : Nat} {es : List Ex} {e : Ex} (h : EGs (i * SB d) es) (he : EG (SB d) e) : EGs ((i + 1) * SB d) (es ++ [e]) := (h.snoc he).mono (by rw [Nat.add_mul]; omega)
structure SG (B : Nat) (e : Sm) : Prop where
  r : rSm e = true
  o : e.ok
  s : e.size ≤ B
  u : nmS e = true
structure SGs (B : Nat) (l : List Sm) : Prop where
  r : cB l = true
  o : Sm.oks l
  s : Sm.sizes l ≤ B
  u : nmSs l = true
structure SGc (B : Nat) (l : List (List Sm)) : Prop where
  r : rCs l = true
  o : Sm.okc l
  s : Sm.csizes l ≤ B
  u : nmCs l = true
theorem SG.mono {B C : Nat} {e : Sm} (h : SG B e) (hl : B ≤ C) : SG C e := ⟨h.r, h.o, Nat.le_trans h.s hl, h.u⟩
theorem SGs.mono {B C : Nat} {e : List Sm} (h : SGs B e) (hl : B ≤ C) : SGs C e := ⟨h.r, h.o, Nat.le_trans h.s hl, h.u⟩
theorem SGc.mono {B C : Nat} {e : List (List Sm)} (h : SGc B e) (hl : B ≤ C) : SGc C e := ⟨h.r, h.o, Nat.le_trans h.s hl, h.u⟩
theorem SGs.nil : SGs 0 [] := ⟨rfl, trivial, Nat.le_refl _, rfl⟩
theorem SGc.nil : SGc 0 [] := ⟨rfl, trivial, Nat.le_refl _, rfl⟩
theorem SGs.cons {B C : Nat} {e : Sm} {l : List Sm} (h : SG B e) (k : SGs C l) : SGs (B + C) (e :: l) := ⟨by simp [cB, h.r, k.r], ⟨h.o, k.o⟩, by have := h.s; have := k.s; simp only [Sm.sizes]; omega, by simp [nmSs, h.u, k.u]⟩
theorem SGs.one {B : Nat} {e : Sm} (h : SG B e) : SGs B [e] := (SGs.cons h SGs.nil).mono (by omega)
theorem SGs.append {B C : Nat} {a b : List Sm} (h : SGs B a) (k : SGs C b) : SGs (B + C) (a ++ b) := ⟨by rw [aZ, List.all_append, ← aZ, ← aZ]; simp [h.r, k.r], Sm.oks_append.2 ⟨h.o, k.o⟩, by have := h.s; have := k.s; simp only [Sm.sizes_append]; omega, by rw [gv, List.all_append, ← gv, ← gv]; simp [h.u, k.u]⟩
theorem SGs.snoc {B C : Nat} {e : Sm} {l : List Sm} (h : SGs B l) (k : SG C e) : SGs (B + C) (l ++ [e]) := h.append (SGs.one k)
theorem SGc.snoc {B C : Nat} {e : List Sm} {l : List (List Sm)} (h : SGc B l) (k : SGs C e) : SGc (B + C + 1) (l ++ [e]) := ⟨by rw [eL, List.all_append, ← eL]; simp [h.r, k.r], Sm.okc_append.2 ⟨h.o, k.o, trivial⟩, by have := h.s; have := k.s; simp only [Sm.csizes_append, Sm.csizes]; omega, by rw [ka, List.all_append, ← ka]; simp [h.u, nmCs, k.u]⟩
theorem aV : ty4z.ok := ⟨⟨by omega, by omega⟩, by decide, ⟨by omega, by omega⟩, trivial⟩
theorem SG.of {A B C D T : Nat} {k n : Int} {nm : ByteArray} {t : Ty4} {xs : List Ex} {b el : List Sm} {cs : List (List Sm)} (hk : 1 ≤ k ∧ k ≤ 14) (hl : aJ k ≤ (xs.length : Int)) (hm : (xs.length : Int) ≤ bg k) (hnm : bI k nm = true) (hns : nm.size ≤ 1000000)
    (ht : (if k = 1 then rTy t else aA t 0) = true) (hto : t.ok) (hts : t.size ≤ T) (hn : n = 0 ∨ smPo k = true) (h0 : 0 ≤ n) (h1 : n < 256) (hb : smBd k = true ∨ b = []) (hel : smEl k = true ∨ el = []) (hcs : smCs k = true ∨ cs = [])
    (hd : k = 14 → bK (fun j => decide (j = 14)) xs = true) (ha : k = 2 → bK bo xs = true) (hx : EGs A xs) (hB : SGs B b) (hE : SGs C el) (hC : SGc D cs) (hu : k = 1 → dB nm = true := by omega) : SG (T + A + B + C + D + 1) (.mk k nm t n xs b el cs) := by
  refine ⟨?_, ⟨⟨by omega, by omega⟩, hns, hto, ⟨h0, by omega⟩, hx.o, hB.o, hE.o, hC.o⟩, by have := hx.s; have := hB.s; have := hE.s; have := hC.s; simp only [Sm.size]; omega, ?_⟩
  rotate_left
  · rw [nmS, hx.u, hB.u, hE.u, hC.u, Bool.and_true, Bool.and_true, Bool.and_true, Bool.and_true]
    by_cases q : k = 1
    · rw [hu q]; simp
    · simp [q]
  simp only [rSm, Bool.and_eq_true, Bool.or_eq_true, decide_eq_true_eq, Bool.not_eq_true', decide_eq_false_iff_not, List.length_eq_zero_iff]
  refine ⟨⟨⟨⟨⟨⟨⟨⟨⟨⟨⟨⟨⟨⟨hk, hl⟩, hm⟩, hx.r⟩, hnm⟩, ht⟩, ?_⟩, hb⟩, hel⟩, hcs⟩, ?_⟩, ?_⟩, hB.r⟩, hE.r⟩, hC.r⟩
  · rcases hn with h | h
    · exact .inl h
    · exact .inr ⟨h, h1⟩
  · by_cases h : k = 14
    · exact .inr (hd h)
    · exact .inl h
  · by_cases h : k = 2
    · exact .inr (ha h)
    · exact .inl h
theorem sg_let {A T : Nat} {nm : ByteArray} {t : Ty4} {e : Ex} (hl : dB nm = true) (ht : rTy t = true) (ho : t.ok) (hs : t.size ≤ T) (he : EG A e) : SG (T + A + 1) (.mk 1 nm t 0 [e] [] [] []) := by
  have h := mN hl
  exact SG.of (B := 0) (C := 0) (D := 0) (k := 1) (by omega) (show (1 : Int) ≤ 1 from by omega) (show (1 : Int) ≤ 1 from by omega) h (by have := ak h; omega) ht ho hs (.inl rfl) (by omega) (by omega) (.inr rfl) (.inr rfl) (.inr rfl) (by omega) (by omega) (EGs.one he) SGs.nil SGs.nil SGc.nil (fun _ => hl)
theorem sg_asg {A B : Nat} {a e : Ex} (ha : EGp A a) (he : EG B e) : SG (1 + (A + B) + 1) (.mk 2 eS ty4z 0 [a, e] [] [] []) :=
  SG.of (B := 0) (C := 0) (D := 0) (k := 2) (by omega) (show (2 : Int) ≤ 2 from by omega) (show (2 : Int) ≤ 2 from by omega) rfl (by decide) (by decide) aV (by decide) (.inl rfl) (by omega) (by omega) (.inr rfl) (.inr rfl) (.inr rfl) (by omega) (fun _ => ha.2) (EGs.cons ha.1 (EGs.one he)) SGs.nil SGs.nil SGc.nil
theorem k8 {A B C : Nat} {e : Ex} {b el : List Sm} (he : EG A e) (hb : SGs B b) (hc : SGs C el) : SG (1 + A + B + C + 1) (.mk 3 eS ty4z 0 [e] b el []) :=
  SG.of (D := 0) (k := 3) (by omega) (show (1 : Int) ≤ 1 from by omega) (show (1 : Int) ≤ 1 from by omega) rfl (by decide) (by decide) aV (by decide) (.inl rfl) (by omega) (by omega) (.inl rfl) (.inl rfl) (.inr rfl) (by omega) (by omega) (EGs.one he) hb hc SGc.nil
theorem sg_while {A B : Nat} {nm : ByteArray} {e : Ex} {b : List Sm} (h : nm = eS ∨ ai nm = true) (he : EG A e) (hb : SGs B b) : SG (1 + A + B + 1) (.mk 4 nm ty4z 0 [e] b [] []) :=
  SG.of (C := 0) (D := 0) (k := 4) (by omega) (show (1 : Int) ≤ 1 from by omega) (show (1 : Int) ≤ 1 from by omega) (by rcases h with rfl | h; exact rfl; simp [bI, ei, fu, h]) (by rcases h with rfl | h; decide; have := ak h; omega) (by decide) aV (by decide) (.inl rfl) (by omega) (by omega) (.inl rfl) (.inr rfl) (.inr rfl) (by omega) (by omega) (EGs.one he) hb SGs.nil SGc.nil
theorem sg_loop {B : Nat} {k : Int} {nm : ByteArray} {b : List Sm} (hk : k = 5 ∨ k = 6) (h : ai nm = true) (hb : SGs B b) : SG (1 + B + 1) (.mk k nm ty4z 0 [] b [] []) := by
  have hs := ak h
  rcases hk with rfl | rfl
  · exact (SG.of (A := 0) (C := 0) (D := 0) (k := 5) (by omega) (by decide) (by decide) (by simp [bI, ei, fu, h]) (by omega) (by decide) aV (by decide : ty4z.size ≤ 1) (.inl rfl) (by omega) (by omega) (.inl rfl) (.inr rfl) (.inr rfl) (by omega) (by omega) EGs.nil hb SGs.nil SGc.nil).mono (by omega)
  · exact (SG.of (A := 0) (C := 0) (D := 0) (k := 6) (by omega) (by decide) (by decide) (by simp [bI, ei, fu, h]) (by omega) (by decide) aV (by decide : ty4z.size ≤ 1) (.inl rfl) (by omega) (by omega) (.inl rfl) (.inr rfl) (.inr rfl) (by omega) (by omega) EGs.nil hb SGs.nil SGc.nil).mono (by omega)
theorem mQ {k : Int} {nm : ByteArray} (hk : k = 7 ∨ k = 8) (h : ai nm = true) : SG 2 (.mk k nm ty4z 0 [] [] [] []) := by
  have hs := ak h
  rcases hk with rfl | rfl
  · exact (SG.of (A := 0) (B := 0) (C := 0) (D := 0) (k := 7) (by omega) (by decide) (by decide) (by simp [bI, ei, h]) (by omega) (by decide) aV (by decide : ty4z.size ≤ 1) (.inl rfl) (by omega) (by omega) (.inr rfl) (.inr rfl) (.inr rfl) (by omega) (by omega) EGs.nil SGs.nil SGs.nil SGc.nil).mono (by omega)
  · exact (SG.of (A := 0) (B := 0) (C := 0) (D := 0) (k := 8) (by omega) (by decide) (by decide) (by simp [bI, ei, h]) (by omega) (by decide) aV (by decide : ty4z.size ≤ 1) (.inl rfl) (by omega) (by omega) (.inr rfl) (.inr rfl) (.inr rfl) (by omega) (by omega) EGs.nil SGs.nil SGs.nil SGc.nil).mono (by omega)
theorem sg_switch {A C D : Nat} {e : Ex} {el : List Sm} {cs : List (List Sm)} (he : EG A e) (hc : SGs C el) (hd : SGc D cs) : SG (1 + A + C + D + 1) (.mk 9 eS ty4z 0 [e] [] el cs) :=
  (SG.of (B := 0) (xs := [e]) (k := 9) (by omega) (show (1 : Int) ≤ 1 from by omega) (show (1 : Int) ≤ 1 from by omega) rfl (by decide) (by decide) aV (by decide : ty4z.size ≤ 1) (.inl rfl) (by omega) (by omega) (.inr rfl) (.inl rfl) (.inl rfl) (by omega) (by omega) (EGs.one he) SGs.nil hc hd).mono (by omega)
theorem sg_ret {A : Nat} {l : List Ex} (hl : l.length ≤ 1) (he : EGs A l) : SG (1 + A + 1) (.mk 10 eS ty4z 0 l [] [] []) :=
  (SG.of (B := 0) (C := 0) (D := 0) (k := 10) (by omega) (by show (0 : Int) ≤ _; omega) (by show _ ≤ (1 : Int); omega) rfl (by decide) (by decide) aV (by decide : ty4z.size ≤ 1) (.inl rfl) (by omega) (by omega) (.inr rfl) (.inr rfl) (.inr rfl) (by omega) (by omega) he SGs.nil SGs.nil SGc.nil).mono (by omega)
theorem sg_out {A : Nat} {n : Int} {e : Ex} (h0 : 0 ≤ n) (h1 : n < 256) (he : EG A e) : SG (1 + A + 1) (.mk 11 eS ty4z n [e] [] [] []) :=
  (SG.of (B := 0) (C := 0) (D := 0) (xs := [e]) (k := 11) (by omega) (show (1 : Int) ≤ 1 from by omega) (show (1 : Int) ≤ 1 from by omega) rfl (by decide) (by decide) aV (by decide : ty4z.size ≤ 1) (.inr rfl) h0 h1 (.inr rfl) (.inr rfl) (.inr rfl) (by omega) (by omega) (EGs.one he) SGs.nil SGs.nil SGc.nil).mono (by omega)
theorem sg_mark {k : Int} (hk : k = 12 ∨ k = 13) : SG 2 (.mk k eS ty4z 0 [] [] [] []) := by
  rcases hk with rfl | rfl
  · exact (SG.of (A := 0) (B := 0) (C := 0) (D := 0) (k := 12) (by omega) (by decide) (by decide) rfl (by decide) (by decide) aV (by decide : ty4z.size ≤ 1) (.inl rfl) (by omega) (by omega) (.inr rfl) (.inr rfl) (.inr rfl) (by omega) (by omega) EGs.nil SGs.nil SGs.nil SGc.nil).mono (by omega)
  · exact (SG.of (A := 0) (B := 0) (C := 0) (D := 0) (k := 13) (by omega) (by decide) (by decide) rfl (by decide) (by decide) aV (by decide : ty4z.size ≤ 1) (.inl rfl) (by omega) (by omega) (.inr rfl) (.inr rfl) (.inr rfl) (by omega) (by omega) EGs.nil SGs.nil SGs.nil SGc.nil).mono (by omega)
theorem sg_do {A : Nat} {e : Ex} (he : EGc A e) : SG (1 + A + 1) (.mk 14 eS ty4z 0 [e] [] [] []) :=
  (SG.of (B := 0) (C := 0) (D := 0) (xs := [e]) (k := 14) (by omega) (show (1 : Int) ≤ 1 from by omega) (show (1 : Int) ≤ 1 from by omega) rfl (by decide) (by decide) aV (by decide : ty4z.size ≤ 1) (.inl rfl) (by omega) (by omega) (.inr rfl) (.inr rfl) (.inr rfl) (fun _ => by simp [bK, he.2]) (by omega) (EGs.one he.1) SGs.nil SGs.nil SGc.nil).mono (by omega)
def ZB : Nat → Nat
  | 0 => 20000
  | k + 1 => 24 * ZB k + 100000
theorem ZB_pos : ∀ k, 20000 ≤ ZB k
  | 0 => Nat.le_refl _
  | k + 1 => by have := ZB_pos k; simp only [ZB]; omega
theorem ZB_le {k : Nat} (h : k ≤ 4) : ZB k ≤ 10000000000 := by
  have : k = 0 ∨ k = 1 ∨ k = 2 ∨ k = 3 ∨ k = 4 := by omega
  rcases this with rfl | rfl | rfl | rfl | rfl <;> simp [ZB]
def PB : Nat → Nat
  | 0 => 5000
  | k + 1 => 4 * ZB k + 12000
theorem PB_le (k : Nat) : 4 * PB k ≤ ZB k := by
  cases k with
  | zero => show 4 * 5000 ≤ 20000; omega
  | succ k =>
    have h := ZB_pos k
    have e1 : PB (k + 1) = 4 * ZB k + 12000 := rfl
    have e2 : ZB (k + 1) = 24 * ZB k + 100000 := rfl
    omega
theorem PB_pos (k : Nat) : 5000 ≤ PB k := by
  cases k with
  | zero => exact Nat.le_refl _
  | succ k =>
    have e1 : PB (k + 1) = 4 * ZB k + 12000 := rfl
    omega
theorem PB_pred {k : Nat} (h : 1 ≤ k) : PB k = 4 * ZB (k - 1) + 12000 := by
  obtain ⟨j, rfl⟩ : ∃ j, k = j + 1 := ⟨k - 1, by omega⟩
  rfl
theorem pb_step {i k B : Nat} (h : B ≤ PB k) : i * PB k + B ≤ (i + 1) * PB k := by rw [Nat.add_mul]; omega
theorem pb_all {i k : Nat} (h : i ≤ 4) : i * PB k ≤ 4 * PB k := Nat.mul_le_mul_right _ h
theorem SB2 : SB 2 = 128 := by decide
theorem SB3 : SB 3 = 512 := by decide
theorem SB4 : SB 4 = 2048 := by decide
theorem nJ {k q A z : Nat} (hz : PB k = 4 * z + 12000) (hq : q ≤ 3) (hA : A ≤ 600 := by rw [SB3]; omega) : 1 + A + z + q * (z + 1) + 1 ≤ PB k := by
  have : q * (z + 1) ≤ 3 * (z + 1) := Nat.mul_le_mul_right _ hq
  omega
section
open Go Go.RowKit Go.Proofs K
variable {pk : Pk}
def modR (n m : Int) : Int := (n.tmod m + m).tmod m
theorem modR_in {n m : Int} (hm : 0 < m) : 0 ≤ modR n m ∧ modR n m < m := by
  unfold modR
  have h1 : -m < n.tmod m := by
    have := Int.lt_tmod_of_pos n hm; omega
  exact ⟨Int.tmod_nonneg _ (by omega), Int.tmod_lt_of_pos _ hm⟩
theorem ref_Mod {n m : Int} (hm : 0 < m) (hm2 : m ≤ 1000000) : XQ Tryz.prog pk 26 [xi n, xi m] (xi (modR n m)) := by
  have h1 : -m < n.tmod m := by
    have := Int.lt_tmod_of_pos n hm; omega
  have h2 := Int.tmod_lt_of_pos n hm
  refine XQ.en Tryz.func26 Tryz.ntmps26 (fun w0 own H V v0 hf => ?_)
  refine G (T := T) 1000 rfl ?_
  exact Fe (T := T) rfl rfl
theorem wrap16 {n : Int} (h0 : 0 ≤ n) (h1 : n ≤ 65535) : IntKind.u16.wrap n = n := by
  obtain ⟨k, rfl⟩ := Int.eq_ofNat_of_zero_le h0
  simp only [IntKind.wrap, IntKind.signed, IntKind.bits, Bool.false_and]
  rw [if_neg (by simp)]
  omega
theorem bA {n : Int} (h0 : 0 ≤ n) (h1 : n ≤ 65535) : XQ Tryz.prog pk 71 [xi n] (xd (exD (d9 n))) := by
  refine XQ.en Tryz.func71 Tryz.ntmps71 (fun w0 own H V v0 hf => ?_)
  refine G (T := T) 1000 rfl ?_
  rw [wrap16 h0 h1]
  exact Fq (T := T) rfl rfl
theorem az (s : ByteArray) : XQ Tryz.prog pk 69 [xs s] (xd (exD (aD s))) := by
  refine XQ.en Tryz.func69 Tryz.ntmps69 (fun w0 own H V v0 hf => ?_)
  refine G (T := T) 1000 rfl ?_
  exact Fq (T := T) rfl rfl
theorem bB (op : ByteArray) (a b : Ex) : XQ Tryz.prog pk 70 [xs op, xd (exD a), xd (exD b)] (xd (exD (iN op a b))) := by
  refine XQ.en Tryz.func70 Tryz.ntmps70 (fun w0 own H V v0 hf => ?_)
  refine G (T := T) 1000 rfl ?_
  exact Fq (T := T) rfl rfl
theorem dC (e : Ex) (s : ByteArray) : XQ Tryz.prog pk 124 [xd (exD e), xs s] (xd (exD (fldE e s))) := by
  refine XQ.en Tryz.func124 Tryz.ntmps124 (fun w0 own H V v0 hf => ?_)
  refine G (T := T) 1000 rfl ?_
  exact Fq (T := T) rfl rfl
theorem cE (a b : Ex) : XQ Tryz.prog pk 125 [xd (exD a), xd (exD b)] (xd (exD (idxE a b))) := by
  refine XQ.en Tryz.func125 Tryz.ntmps125 (fun w0 own H V v0 hf => ?_)
  refine G (T := T) 1000 rfl ?_
  exact Fq (T := T) rfl rfl
def atP (l : List Int) (v : Value) : Prop := ∃ a : Nat, a ≤ l.length ∧ v = .int .i64 (a : Int)
def ndP (v : Value) : Prop := ∃ n : Int, v = .int .i64 n
structure KC where
  l : List Int
  fs : List Fu
  tn : Nat
  me : Nat
  vars : List ByteArray
  labels : List ByteArray
  lf : Nat
  mn : Nat
  ct : Nat
abbrev mkQx (a b c : Nat) (l : List Int) (fs : List Fu) (tn me n : Nat) (R : List (List D)) (labels : List ByteArray) (lf mn ct t1 t2 : Nat) : XH := [⟨a, 0, .cells [.d (.s (l.map iM)), .w (atP l), .d (.c (.int .i64 (tn : Int))), .d (.c (.int .i64 (lf : Int))), .w ndP, .l b t1 1 0 n n, .d (.c (.int .i64 (mn : Int))), .l c t2 1 0 labels.length labels.length, .d (.c (.int .i64 (ct : Int))), .d (.c (.int .i64 (me : Int))), .d (.s (fs.map fuD))] 138⟩,
  ⟨b, t1, .row n R 9 1⟩, ⟨c, t2, .row labels.length (labels.map cu) 9 1⟩]
abbrev mkQn (a b c : Nat) (l : List Int) (fs : List Fu) (tn me : Nat) (vars labels : List ByteArray) (lf mn ct t1 t2 : Nat) : XH := mkQx a b c l fs tn me vars.length (vars.map cu) labels lf mn ct t1 t2
abbrev mkQ (l : List Int) (fs : List Fu) (tn me : Nat) (vars labels : List ByteArray) (lf mn ct t1 t2 : Nat) : XH := mkQn 0 1 2 l fs tn me vars labels lf mn ct t1 t2
abbrev mkT (c : KC) (t : Nat) : XH := mkQ c.l c.fs c.tn c.me c.vars c.labels c.lf c.mn c.ct t t
abbrev mkB (c : KC) : XH := mkT c 0
structure KC.ok (c : KC) : Prop where
  hl : ∀ n ∈ c.l, I64 n
  hll : c.l.length ≤ 1000000
  hv : ∀ s ∈ c.vars, dB s = true
  hvl : c.vars.length ≤ 1000
  hme : c.me < c.fs.length
  hfl : c.fs.length ≤ 1000
  hf : ∀ f ∈ c.fs, FR f
  htn : c.tn ≤ 1000
  hlb : ∀ s ∈ c.labels, ai s = true
  hlbl : c.labels.length ≤ 1000
abbrev pm : XV := .a (.c (.p 0 0 0))
theorem ay {c : KC} (h1 : ∀ n ∈ c.l, I64 n) (h2 : c.l.length ≤ 1000000) {n : Int} (hn : 0 < n) (hn2 : n ≤ 1000000) : XKp Tryz.prog pk 65 [pm, xi n] (mkB c) 3 (fun r => ∃ k : Int, r = xi k ∧ 0 ≤ k ∧ k < n) := by
  refine XM.en Tryz.func65 Tryz.ntmps65 (fun w0 own H V v0 hf => ?_)
  refine G (T := T) 100001 rfl ?_
  refine Op 0 1 rfl rfl ?_
  rintro _ ⟨a, ha, rfl⟩
  refine ⟨_, _, rfl, rfl, ?_⟩
  refine G (T := T) 1000 rfl ?_
  refine If rfl (fun h => ?_) (fun h => ?_)
  · refine G (T := T) 1000 rfl ?_
    refine (SRto.wk 0 1 (atP c.l) rfl rfl rfl rfl ⟨a, ha, rfl⟩).e ?_
    exact Fm (T := T) id (xi 0) (mkB c) ⟨⟨0, rfl, Int.le_refl _, hn⟩, rfl⟩ rfl
  · have hlt := of_decide_eq_false h; rw [List.length_map] at hlt
    obtain ⟨y, hy⟩ := ae (l := c.l) (j := a) (by omega)
    refine G (T := T) 1000 rfl ?_
    refine Ix (T := T) a (ab hy) rfl rfl rfl rfl ⟨rfl, rfl⟩ (by omega) rfl ?_
    refine G (T := T) 1000 rfl ?_
    refine Cq (ref_Mod hn hn2) rfl rfl rfl rfl rfl ⟨rfl, rfl⟩ ?_
    refine G (T := T) 1000 rfl ?_
    refine (SRto.wk 0 1 (atP c.l) rfl rfl rfl rfl ⟨a + 1, by omega, by push_cast; rfl⟩).e ?_
    have := modR_in (n := y) hn
    exact Fm (T := T) id (xi (modR y n)) (mkB c) ⟨⟨_, rfl, this.1, this.2⟩, rfl⟩ rfl
theorem nK {c : KC} (h1 : ∀ n ∈ c.l, I64 n) (h2 : c.l.length ≤ 1000000) : XKp Tryz.prog pk 155 [pm] (mkB c) 3 (fun r => ∃ e, r = xd (exD e) ∧ EG 1 e) := by
  refine XM.en Tryz.func155 Tryz.ntmps155 (fun w0 own H V v0 hf => ?_)
  refine G (T := T) 1000 rfl ?_
  refine Ck [0, 1, 2] (ay h1 h2 (n := 16) (by omega) (by omega)) rfl rfl rfl rfl rfl rfl rfl ⟨⟨rfl, rfl⟩, rfl⟩ ?_
  rintro _ ⟨k, rfl, k1, k2⟩
  obtain ⟨j, rfl⟩ := Int.eq_ofNat_of_zero_le k1
  obtain ⟨y, hy⟩ := ae (l := constL) (j := j) (by show j < 16; omega)
  have hyc := constL_in hy
  refine G (T := T) 10 rfl ?_
  refine Ix (T := T) (rows := constL.map iM) j (ab hy) rfl rfl rfl rfl ⟨rfl, rfl⟩ rfl rfl ?_
  refine G (T := T) 1000 rfl ?_
  refine Cq (bA hyc.1 hyc.2) rfl rfl rfl rfl rfl ⟨rfl, rfl⟩ ?_
  refine G (T := T) 1000 rfl ?_
  exact Fm (T := T) id (xd (exD (d9 y))) (mkB c) ⟨⟨_, rfl, fA hyc.1 hyc.2⟩, rfl⟩ rfl
end
section
open Go Go.RowKit Go.Proofs K
variable {pk : Pk}
def ExprC (pk : Pk) (d : Nat) : Prop := ∀ c : KC, c.ok → XKp Tryz.prog pk 117 [pm, xi (d : Nat)] (mkB c) 3 (fun r => ∃ e, r = xd (exD e) ∧ EG (SB d) e)
abbrev ex0 (g : Nat) : XB := ⟨g, 0, .cells [.d (.c (.int .i64 0)), .d (.c (.string eS)), .d (.c (.int .u16 0)), .z] 87⟩
theorem dD {d : Nat} (ih : ExprC pk d) (hd : d ≤ 100) {c : KC} (hc : c.ok) {n : Nat} (h1 : 1 ≤ n) (hn : n ≤ 1000) : XKp Tryz.prog pk 154 [pm, xi ((d + 1 : Nat) : Int), xi (n : Nat)] (mkB c) 3 (fun r => ∃ e, r = xd (exD e) ∧ EG (SB d + 2) e) := by
  refine XM.en Tryz.func154 Tryz.ntmps154 (fun w0 own H V v0 hf => ?_)
  refine G (T := T) 1000 rfl ?_
  rw [show ((d + 1 : Nat) : Int) - 1 = (d : Nat) by omega]
  refine Ck [0, 1, 2] (ih c hc) rfl rfl rfl rfl rfl rfl rfl ⟨⟨rfl, rfl⟩, rfl⟩ ?_
  rintro _ ⟨e, rfl, he⟩
  refine G (T := T) 1000 rfl ?_
  refine Cq (bA (n := (n : Nat) - 1) (by omega) (by omega)) rfl rfl rfl rfl rfl ⟨rfl, rfl⟩ ?_
  refine G (T := T) 1000 rfl ?_
  refine Cq (bB ⟨#[38]⟩ e (d9 ((n : Nat) - 1))) rfl rfl rfl rfl rfl ⟨rfl, rfl⟩ ?_
  refine G (T := T) 1000 rfl ?_
  exact Fm (T := T) id (xd (exD (iN ⟨#[38]⟩ e (d9 ((n : Nat) - 1))))) (mkB c) ⟨⟨_, rfl, (eE (by decide) he (fA (by omega) (by omega))).mono (by omega)⟩, rfl⟩ rfl
theorem hO {c : KC} (hc : c.ok) : XKp Tryz.prog pk 156 [pm] (mkB c) 3 (fun r => ∃ e, r = xd (exD e) ∧ EG 2 e ∧ bo e.kind = true) := by
  obtain ⟨f, hf9⟩ := ae (l := c.fs) (j := c.me) hc.hme
  have hF := hc.hf f (List.mem_of_getElem? hf9)
  obtain ⟨p, hp⟩ : ∃ p : Par, 0 < f.ps.length → f.ps[0]? = some p ∧ p ∈ f.ps := by
    match f.ps with
    | [] => exact ⟨⟨eS, .mk 0 eS 0 []⟩, fun h => by simp at h⟩
    | x :: r => exact ⟨x, fun _ => ⟨rfl, List.mem_cons_self ..⟩⟩
  refine XM.en Tryz.func156 Tryz.ntmps156 (fun w0 own H V v0 hf => ?_)
  refine G (T := T) 12 rfl ?_
  refine Ix (T := T) c.me (ab hf9) rfl rfl rfl rfl ⟨rfl, rfl⟩ rfl rfl ?_
  refine G (T := T) 100002 rfl ?_
  refine (FzTo.bz 4 rfl).c ?_
  refine Gs (T := T) 21 rfl ?_
  refine Is (T := T) 0 (paD p) (fun h => ?_) rfl rfl rfl rfl rfl rfl rfl rfl ?_
  · have h9 := of_decide_eq_true h; rw [List.length_map] at h9
    exact ⟨ab (hp (by omega)).1, rfl⟩
  refine Gs (T := T) 28 rfl ?_
  generalize hb9 : (decide ((0 : Int) < ((f.ps.map paD).length : Int)) && decide (tk p.ty = 6)) = b9
  have fin : ∀ {e : Ex}, EG 2 e → bo e.kind = true → (fun (r : XV) (hp' : XH) => (∃ e, r = xd (exD e) ∧ EG 2 e ∧ bo e.kind = true) ∧ hp' = mkB c) (xd (exD e)) (mkB c) := fun h1 h2 => ⟨⟨_, rfl, h1, h2⟩, rfl⟩
  cases b9 with
  | true =>
    simp only [Bool.and_eq_true] at hb9
    have h9 := of_decide_eq_true hb9.1; rw [List.length_map] at h9
    obtain ⟨hp1, hp2⟩ := hp (by omega)
    refine G (T := T) 1000 rfl ?_
    refine Ck [0, 1, 2] (ay hc.hl hc.hll (n := 2) (by omega) (by omega)) rfl rfl rfl rfl rfl rfl rfl ⟨⟨rfl, rfl⟩, rfl⟩ ?_
    rintro _ ⟨k, rfl, k1, k2⟩
    refine G (T := T) 1000 rfl ?_
    refine If rfl (fun h => ?_) (fun h => ?_)
    · refine G (T := T) 34 rfl ?_
      refine Ix (T := T) 0 (ab hp1) rfl rfl rfl rfl ⟨rfl, rfl⟩ rfl rfl ?_
      refine G (T := T) 1000 rfl ?_
      refine Cq (az p.nm) rfl rfl rfl rfl rfl ⟨rfl, rfl⟩ ?_
      refine G (T := T) 1000 rfl ?_
      exact Fm (T := T) id (xd (exD (.mk 5 eS 0 [aD p.nm]))) (mkB c) (fin (eg_one (.inl rfl) (g8 (hF.ps p hp2).1)) rfl) rfl
    · refine G (T := T) 1000 rfl ?_
      refine Cq (az ⟨#[103, 115]⟩) rfl rfl rfl rfl rfl ⟨rfl, rfl⟩ ?_
      refine G (T := T) 1000 rfl ?_
      exact Fm (T := T) id (xd (exD (aD ⟨#[103, 115]⟩))) (mkB c) (fin ((bJ (by decide)).mono (by omega)) rfl) rfl
  | false =>
    refine G (T := T) 1000 rfl ?_
    refine IfF rfl rfl ?_
    refine G (T := T) 1000 rfl ?_
    refine Cq (az ⟨#[103, 115]⟩) rfl rfl rfl rfl rfl ⟨rfl, rfl⟩ ?_
    refine G (T := T) 1000 rfl ?_
    exact Fm (T := T) id (xd (exD (aD ⟨#[103, 115]⟩))) (mkB c) (fin ((bJ (by decide)).mono (by omega)) rfl) rfl
theorem dh {l : List ByteArray} {p : ByteArray → Prop} (h : ∀ s ∈ l, p s) {k : Int} (h0 : 0 ≤ k) (h1 : k < (l.length : Int)) : ∃ j y, k = ((j : Nat) : Int) ∧ l[j]? = some y ∧ p y := by
  obtain ⟨j, rfl⟩ := Int.eq_ofNat_of_zero_le h0
  obtain ⟨y, hy⟩ := ae (l := l) (j := j) (by omega)
  exact ⟨j, y, rfl, hy, h y (List.mem_of_getElem? hy)⟩
theorem nL {d : Nat} (ih : ExprC pk d) (hd : d ≤ 100) {c : KC} (hc : c.ok) : XKp Tryz.prog pk 118 [pm, xi ((d + 1 : Nat) : Int)] (mkB c) 3 (fun r => ∃ e, r = xd (exD e) ∧ EGp (SB d + 8) e) := by
  have hvl := hc.hvl
  have fin : ∀ {e : Ex} {B : Nat}, EG B e → B ≤ SB d + 8 → bo e.kind = true → (fun (r : XV) (hp' : XH) => (∃ e, r = xd (exD e) ∧ EGp (SB d + 8) e) ∧ hp' = mkB c) (xd (exD e)) (mkB c) := fun h1 h2 h3 => ⟨⟨_, rfl, h1.mono h2, h3⟩, rfl⟩
  have hpos := g9 d
  refine XM.en Tryz.func118 Tryz.ntmps118 (fun w0 own H V v0 hf => ?_)
  refine G (T := T) 1000 rfl ?_
  refine Ck [0, 1, 2] (ay hc.hl hc.hll (n := 14) (by omega) (by omega)) rfl rfl rfl rfl rfl rfl rfl ⟨⟨rfl, rfl⟩, rfl⟩ ?_
  rintro _ ⟨k0, rfl, _, _⟩
  refine G (T := T) 100002 rfl ?_
  refine Op 0 4 rfl rfl ?_
  rintro _ ⟨nd, rfl⟩
  refine ⟨_, _, rfl, rfl, ?_⟩
  refine G (T := T) 13 rfl ?_
  refine Sw rfl rfl rfl ⟨rfl, rfl⟩ ?_
  refine G (T := T) 1000 rfl ?_
  refine Cf [0, 1, 4] (fun (k : Int) r => (5, xi k) :: r) (fun _ => mkB c ++ [ex0 3]) 4 (fun _ => True) rfl ?_ ?_
  · refine If rfl (fun h => ?_) (fun h => ?_)
    · refine G (T := T) 1000 rfl ?_
      refine (SRto.wk 0 4 ndP rfl rfl rfl rfl ⟨_, rfl⟩).e ?_
      exact Dn 13 trivial
    · refine G (T := T) 1000 rfl ?_
      refine (SRto.wk 0 4 ndP rfl rfl rfl rfl ⟨_, rfl⟩).e ?_
      exact Dn k0 trivial
  rintro k -
  refine Gs (T := T) 1000 rfl ?_
  refine If rfl (fun h => ?_) (fun h => ?_)
  · have hlen : 0 < c.vars.length := by
      have := of_decide_eq_true (Bool.and_eq_true_iff.1 h).2; omega
    refine G (T := T) 1000 rfl ?_
    refine Ck [0, 1, 2] (ay hc.hl hc.hll (n := (c.vars.length : Nat)) (by omega) (by omega)) rfl rfl rfl rfl rfl rfl rfl ⟨⟨rfl, rfl⟩, rfl⟩ ?_
    rintro _ ⟨q, rfl, q1, q2⟩
    obtain ⟨j, y, rfl, hy, hyl⟩ := dh hc.hv q1 q2
    refine G (T := T) 43 rfl ?_
    refine Iq (T := T) j rfl rfl rfl rfl rfl ⟨rfl, rfl⟩ rfl (by omega) rfl ?_
    refine Lr (T := T) (ab hy) rfl rfl rfl rfl ⟨rfl, rfl⟩ rfl rfl ?_
    refine G (T := T) 1000 rfl ?_
    refine Cq (az y) rfl rfl rfl rfl rfl ⟨rfl, rfl⟩ ?_
    refine G (T := T) 1000 rfl ?_
    exact Fm (T := T) id (xd (exD (aD y))) (mkB c) (fin (g8 hyl) (by omega) rfl) rfl
  refine Gs (T := T) 1000 rfl ?_
  refine If rfl (fun h => ?_) (fun h => ?_)
  · refine G (T := T) 1000 rfl ?_
    refine Cq (az ⟨#[97, 114, 114]⟩) rfl rfl rfl rfl rfl ⟨rfl, rfl⟩ ?_
    refine G (T := T) 1000 rfl ?_
    refine Ck [0, 1, 2] (dD ih hd hc (n := 8) (by omega) (by omega)) rfl rfl rfl rfl rfl rfl rfl ⟨⟨rfl, rfl⟩, rfl⟩ ?_
    rintro _ ⟨e, rfl, he⟩
    refine G (T := T) 1000 rfl ?_
    refine Cq (cE (aD ⟨#[97, 114, 114]⟩) e) rfl rfl rfl rfl rfl ⟨rfl, rfl⟩ ?_
    refine G (T := T) 1000 rfl ?_
    exact Fm (T := T) id (xd (exD (idxE (aD ⟨#[97, 114, 114]⟩) e))) (mkB c) (fin (mP (bJ (by decide)) he) (by omega) rfl) rfl
  refine Gs (T := T) 1000 rfl ?_
  refine If rfl (fun h => ?_) (fun h => ?_)
  · refine G (T := T) 1000 rfl ?_
    refine Cq (az ⟨#[98, 121, 116, 101, 115]⟩) rfl rfl rfl rfl rfl ⟨rfl, rfl⟩ ?_
    refine G (T := T) 1000 rfl ?_
    refine Ck [0, 1, 2] (dD ih hd hc (n := 16) (by omega) (by omega)) rfl rfl rfl rfl rfl rfl rfl ⟨⟨rfl, rfl⟩, rfl⟩ ?_
    rintro _ ⟨e, rfl, he⟩
    refine G (T := T) 1000 rfl ?_
    refine Cq (cE (aD ⟨#[98, 121, 116, 101, 115]⟩) e) rfl rfl rfl rfl rfl ⟨rfl, rfl⟩ ?_
    refine G (T := T) 1000 rfl ?_
    exact Fm (T := T) id (xd (exD (idxE (aD ⟨#[98, 121, 116, 101, 115]⟩) e))) (mkB c) (fin (mP (bJ (by decide)) he) (by omega) rfl) rfl
  refine Gs (T := T) 1000 rfl ?_
  refine If rfl (fun h => ?_) (fun h => ?_)
  · refine G (T := T) 1000 rfl ?_
    refine Ck [0, 1, 2] (hO hc) rfl rfl rfl rfl rfl rfl rfl ⟨⟨rfl, rfl⟩, rfl⟩ ?_
    rintro _ ⟨e, rfl, he, hp⟩
    refine G (T := T) 1000 rfl ?_
    refine Cq (dC e ⟨#[97]⟩) rfl rfl rfl rfl rfl ⟨rfl, rfl⟩ ?_
    refine G (T := T) 1000 rfl ?_
    exact Fm (T := T) id (xd (exD (fldE e ⟨#[97]⟩))) (mkB c) (fin (ke (by decide +kernel) he) (by omega) rfl) rfl
  refine Gs (T := T) 1000 rfl ?_
  refine If rfl (fun h => ?_) (fun h => ?_)
  · refine G (T := T) 1000 rfl ?_
    refine Ck [0, 1, 2] (hO hc) rfl rfl rfl rfl rfl rfl rfl ⟨⟨rfl, rfl⟩, rfl⟩ ?_
    rintro _ ⟨e, rfl, he, hp⟩
    refine G (T := T) 1000 rfl ?_
    refine Cq (dC e ⟨#[98]⟩) rfl rfl rfl rfl rfl ⟨rfl, rfl⟩ ?_
    refine G (T := T) 1000 rfl ?_
    exact Fm (T := T) id (xd (exD (fldE e ⟨#[98]⟩))) (mkB c) (fin (ke (by decide +kernel) he) (by omega) rfl) rfl
  refine Gs (T := T) 1000 rfl ?_
  refine If rfl (fun h => ?_) (fun h => ?_)
  · refine G (T := T) 1000 rfl ?_
    refine Ck [0, 1, 2] (hO hc) rfl rfl rfl rfl rfl rfl rfl ⟨⟨rfl, rfl⟩, rfl⟩ ?_
    rintro _ ⟨e, rfl, he, hp⟩
    refine G (T := T) 1000 rfl ?_
    refine Cq (dC e ⟨#[100]⟩) rfl rfl rfl rfl rfl ⟨rfl, rfl⟩ ?_
    refine G (T := T) 1000 rfl ?_
    refine Ck [0, 1, 2] (dD ih hd hc (n := 4) (by omega) (by omega)) rfl rfl rfl rfl rfl rfl rfl ⟨⟨rfl, rfl⟩, rfl⟩ ?_
    rintro _ ⟨e2, rfl, he2⟩
    refine G (T := T) 1000 rfl ?_
    refine Cq (cE (fldE e ⟨#[100]⟩) e2) rfl rfl rfl rfl rfl ⟨rfl, rfl⟩ ?_
    refine G (T := T) 1000 rfl ?_
    exact Fm (T := T) id (xd (exD (idxE (fldE e ⟨#[100]⟩) e2))) (mkB c) (fin (mP (ke (by decide +kernel) he) he2) (by omega) rfl) rfl
  refine Gs (T := T) 1000 rfl ?_
  refine If rfl (fun h => ?_) (fun h => ?_)
  · refine G (T := T) 1000 rfl ?_
    refine Cq (az ⟨#[103, 117]⟩) rfl rfl rfl rfl rfl ⟨rfl, rfl⟩ ?_
    refine G (T := T) 1000 rfl ?_
    refine Cq (dC (aD ⟨#[103, 117]⟩) ⟨#[119]⟩) rfl rfl rfl rfl rfl ⟨rfl, rfl⟩ ?_
    refine G (T := T) 1000 rfl ?_
    exact Fm (T := T) id (xd (exD (fldE (aD ⟨#[103, 117]⟩) ⟨#[119]⟩))) (mkB c) (fin (ke (by decide +kernel) (bJ (by decide))) (by omega) rfl) rfl
  refine Gs (T := T) 1000 rfl ?_
  refine If rfl (fun h => ?_) (fun h => ?_)
  · refine G (T := T) 1000 rfl ?_
    refine Cq (az ⟨#[103, 117]⟩) rfl rfl rfl rfl rfl ⟨rfl, rfl⟩ ?_
    refine G (T := T) 1000 rfl ?_
    refine Cq (dC (aD ⟨#[103, 117]⟩) ⟨#[108]⟩) rfl rfl rfl rfl rfl ⟨rfl, rfl⟩ ?_
    refine G (T := T) 1000 rfl ?_
    exact Fm (T := T) id (xd (exD (fldE (aD ⟨#[103, 117]⟩) ⟨#[108]⟩))) (mkB c) (fin (ke (by decide +kernel) (bJ (by decide))) (by omega) rfl) rfl
  refine Gs (T := T) 1000 rfl ?_
  refine If rfl (fun h => ?_) (fun h => ?_)
  · refine G (T := T) 1000 rfl ?_
    refine Cq (az ⟨#[103, 49]⟩) rfl rfl rfl rfl rfl ⟨rfl, rfl⟩ ?_
    refine G (T := T) 1000 rfl ?_
    exact Fm (T := T) id (xd (exD (aD ⟨#[103, 49]⟩))) (mkB c) (fin (bJ (by decide)) (by omega) rfl) rfl
  refine Gs (T := T) 1000 rfl ?_
  refine If rfl (fun h => ?_) (fun h => ?_)
  · refine G (T := T) 1000 rfl ?_
    refine Cq (az ⟨#[103, 50]⟩) rfl rfl rfl rfl rfl ⟨rfl, rfl⟩ ?_
    refine G (T := T) 1000 rfl ?_
    exact Fm (T := T) id (xd (exD (aD ⟨#[103, 50]⟩))) (mkB c) (fin (bJ (by decide)) (by omega) rfl) rfl
  refine G (T := T) 1000 rfl ?_
  refine Cq (az ⟨#[103, 48]⟩) rfl rfl rfl rfl rfl ⟨rfl, rfl⟩ ?_
  refine G (T := T) 1000 rfl ?_
  exact Fm (T := T) id (xd (exD (aD ⟨#[103, 48]⟩))) (mkB c) (fin (bJ (by decide)) (by omega) rfl) rfl
end
section
open Go Go.RowKit Go.Proofs K
variable {pk : Pk}
def gsA : Ex := .mk 6 eS 0 [aD ⟨#[103, 115]⟩]
def callE (f : Fu) (l : List Ex) : Ex := .mk 14 f.nm 0 l
theorem mk_call {d : Nat} (ih : ExprC pk d) (hd : d ≤ 100) {c : KC} (hc : c.ok) {f : Fu} (hF : FR f) : XKp Tryz.prog pk 121 [pm, xd (fuD f), xi ((d + 1 : Nat) : Int)] (mkB c) 3 (fun r => ∃ e, r = xd (exD e) ∧ EGc (3 * SB d + 1) e) := by
  have hpl := hF.pl
  have hpos := g9 d
  refine XM.en Tryz.func121 Tryz.ntmps121 (fun w0 own H V v0 hf => ?_)
  refine G (T := T) 100001 rfl ?_
  refine (FzTo.bz 3 rfl).c ?_
  refine G (T := T) 100002 rfl ?_
  refine (Nrh 5 3 87 4 rfl rfl rfl rfl rfl).c ?_
  refine G (T := T) 1000 rfl ?_
  refine Lq [0, 2, 4, 6, 7] (fun (q : Nat × List Ex) r => (8, xi (q.1 : Nat)) :: r) (fun q => mkB c ++ [⟨6, 1, .row q.2.length (q.2.map exD) 87 4⟩, ⟨5, 0, .cells [.d (.c (.int .i64 14)), .d (.c (.string f.nm)), .d (.c (.int .u16 0)), .l 6 1 4 0 q.2.length q.2.length] 87⟩, ex0 4]) 7 (fun q => q.1 ≤ f.ps.length ∧ q.2.length = q.1 ∧ EGs (q.1 * SB d) q.2) (fun q => f.ps.length - q.1) (0, []) rfl ⟨Nat.zero_le _, rfl, EGs.nil.mono (by omega)⟩ ?_
  rintro ⟨j, L⟩ ⟨hj, hL, hE⟩; dsimp only at hj hL hE ⊢
  refine G (T := T) 1000 rfl ?_
  refine If rfl (fun h => ?_) (fun h => ?_)
  · have hjl := of_decide_eq_true h; rw [List.length_map] at hjl
    obtain ⟨y, hy⟩ := ae (l := f.ps) (j := j) (by omega)
    refine G (T := T) 1000 rfl ?_
    refine Ix (T := T) j (ab hy) rfl rfl rfl rfl ⟨rfl, rfl⟩ rfl rfl ?_
    refine G (T := T) 1000 rfl ?_
    have nxt : ∀ {e : Ex}, EG (SB d) e → (j + 1 ≤ f.ps.length ∧ (L ++ [e]).length = j + 1 ∧ EGs ((j + 1) * SB d) (L ++ [e])) := fun h => ⟨by omega, by rw [List.length_append, hL]; rfl, hE.step h⟩
    refine If rfl (fun h => ?_) (fun h => ?_)
    · refine G (T := T) 1000 rfl ?_
      refine Cq (az ⟨#[103, 115]⟩) rfl rfl rfl rfl rfl ⟨rfl, rfl⟩ ?_
      refine G (T := T) 1000 rfl ?_
      have e9 : L.map exD ++ [exD gsA] = (L ++ [gsA]).map exD := by rw [List.map_append]; rfl
      refine Nq (j + 1, L ++ [gsA]) (nxt ((eg_one (.inr rfl) (bJ (by decide))).mono (by omega))) (by show _ - (j + 1) < _ - j; omega) ?_
      dsimp only
      rw [← e9, List.length_append]
      exact ⟨⟨_, _, rfl, rfl⟩, rfl, rfl⟩
    · refine G (T := T) 1000 rfl ?_
      rw [show ((d + 1 : Nat) : Int) - 1 = (d : Nat) by omega]
      refine Ck [0, 1, 2] (ih c hc) rfl rfl rfl rfl rfl rfl rfl ⟨⟨rfl, rfl⟩, rfl⟩ ?_
      rintro _ ⟨e, rfl, he⟩
      refine G (T := T) 1000 rfl ?_
      have e9 : L.map exD ++ [exD e] = (L ++ [e]).map exD := by rw [List.map_append]; rfl
      refine Nq (j + 1, L ++ [e]) (nxt he) (by show _ - (j + 1) < _ - j; omega) ?_
      dsimp only
      rw [← e9, List.length_append]
      exact ⟨⟨_, _, rfl, rfl⟩, rfl, rfl⟩
  · have hjl := of_decide_eq_false h; rw [List.length_map] at hjl
    have hjj : j ≤ 3 := by omega
    refine G (T := T) 100008 rfl ?_
    refine Zc 6 rfl ?_
    refine G (T := T) 1000 rfl ?_
    have hB := Nat.mul_le_mul_right (SB d) hjj
    exact Fm (T := T) id (xd [.c (.int .i64 14), .c (.string f.nm), .c (.int .u16 0), .s (L.map exD)]) (mkB c) ⟨⟨callE f L, by rw [callE, et], eg_call hF.nm (hE.mono hB), rfl⟩, rfl⟩ rfl
end
section
open Go Go.RowKit Go.Proofs K
variable {pk : Pk}
def glo3 : List ByteArray := [⟨#[103, 48]⟩, ⟨#[103, 49]⟩, ⟨#[103, 50]⟩]
def una3 : List ByteArray := [⟨#[45]⟩, ⟨#[126]⟩, ⟨#[33]⟩]
def cas3 : List ByteArray := [⟨#[117, 56]⟩, ⟨#[117, 49, 54]⟩, ⟨#[115, 49, 54]⟩]
def div2 : List ByteArray := [⟨#[47]⟩, ⟨#[37]⟩]
def bin16 : List ByteArray := [⟨#[43]⟩, ⟨#[45]⟩, ⟨#[42]⟩, ⟨#[38]⟩, ⟨#[124]⟩, ⟨#[94]⟩, ⟨#[60, 60]⟩, ⟨#[62, 62]⟩, ⟨#[60]⟩, ⟨#[60, 61]⟩, ⟨#[62]⟩, ⟨#[62, 61]⟩, ⟨#[61, 61]⟩, ⟨#[33, 61]⟩, ⟨#[43]⟩, ⟨#[45]⟩]
theorem bM : ∀ d, d ≤ 100 → ExprC pk d := by
  intro D
  induction D using Nat.strongRecOn with
  | _ D ih =>
  intro hD c hc
  have hvl := hc.hvl
  have hfl := hc.hfl
  have hme := hc.hme
  have hmap : (c.fs.map fuD).length = c.fs.length := List.length_map ..
  have hpos := g9 D
  have big : 2 ≤ D → ∃ d, D = d + 2 ∧ SB D = 4 * SB (d + 1) ∧ SB (d + 1) = 4 * SB d ∧ 8 ≤ SB d := fun h => by
    obtain ⟨d, rfl⟩ : ∃ d, D = d + 2 := ⟨D - 2, by omega⟩
    exact ⟨d, rfl, iZ _, iZ _, g9 _⟩
  have fin : ∀ {e : Ex} {B : Nat}, EG B e → B ≤ SB D → (fun (r : XV) (hp' : XH) => (∃ e, r = xd (exD e) ∧ EG (SB D) e) ∧ hp' = mkB c) (xd (exD e)) (mkB c) := fun h1 h2 => ⟨⟨_, rfl, h1.mono h2⟩, rfl⟩
  have tab : ∀ {s : ByteArray} {d : Nat} {e : Ex}, gloN s = true → D = d + 2 → EG (SB (d + 1) + 2) e → (fun (r : XV) (hp' : XH) => (∃ e, r = xd (exD e) ∧ EG (SB D) e) ∧ hp' = mkB c) (xd (exD (idxE (aD s) e))) (mkB c) := fun {s d e} h1 h2 h3 => fin (mP (bJ h1) h3) (by have : SB (d + 2) = 4 * SB (d + 1) := iZ (d + 1); have := g9 (d + 1); subst h2; omega)
  refine XM.en Tryz.func117 Tryz.ntmps117 (fun w0 own H V v0 hf => ?_)
  refine G (T := T) 100001 rfl ?_
  refine Op 0 4 rfl rfl ?_
  rintro _ ⟨nd, rfl⟩
  refine ⟨_, _, rfl, rfl, ?_⟩
  refine G (T := T) 16 rfl ?_
  refine Sw rfl rfl rfl ⟨rfl, rfl⟩ ?_
  refine G (T := T) 100002 rfl ?_
  refine (SRto.wk 0 4 ndP rfl rfl rfl rfl ⟨_, rfl⟩).c ?_
  refine G (T := T) 1000 rfl ?_
  refine Ck [0, 1, 2] (ay hc.hl hc.hll (n := 20) (by omega) (by omega)) rfl rfl rfl rfl rfl rfl rfl ⟨⟨rfl, rfl⟩, rfl⟩ ?_
  rintro _ ⟨k0, rfl, k1, k2⟩
  refine G (T := T) 100003 rfl ?_
  refine Op 0 4 rfl rfl ?_
  rintro _ ⟨nd2, rfl⟩
  refine ⟨_, _, rfl, rfl, ?_⟩
  refine Gs (T := T) 1000 rfl ?_
  refine Cf [0, 1, 4] (fun (k : Int) r => (5, xi k) :: r) (fun _ => mkB c ++ [ex0 3]) 4 (fun k => 2 ≤ D ∨ k ≤ 4) rfl ?_ ?_
  · refine If rfl (fun h => ?_) (fun h => ?_)
    · refine G (T := T) 1000 rfl ?_
      refine (SRto.wk 0 4 ndP rfl rfl rfl rfl ⟨_, rfl⟩).e ?_
      have := Int.tmod_lt_of_pos k0 (show (0 : Int) < 5 by omega)
      exact Dn (k0.tmod 5) (.inr (by omega))
    · have h9 := of_decide_eq_false (Bool.or_eq_false_iff.1 h).1
      refine G (T := T) 1000 rfl ?_
      refine (SRto.wk 0 4 ndP rfl rfl rfl rfl ⟨_, rfl⟩).e ?_
      exact Dn k0 (.inl (by omega))
  rintro k hk
  refine Gs (T := T) 1000 rfl ?_
  refine If rfl (fun h => ?_) (fun h => ?_)
  · have hlen : 0 < c.vars.length := by
      rcases Bool.or_eq_true_iff.1 h with h | h
      all_goals have := of_decide_eq_true (Bool.and_eq_true_iff.1 h).2; omega
    refine G (T := T) 1000 rfl ?_
    refine Ck [0, 1, 2] (ay hc.hl hc.hll (n := (c.vars.length : Nat)) (by omega) (by omega)) rfl rfl rfl rfl rfl rfl rfl ⟨⟨rfl, rfl⟩, rfl⟩ ?_
    rintro _ ⟨q, rfl, q1, q2⟩
    obtain ⟨j, y, rfl, hy, hyl⟩ := dh hc.hv q1 q2
    refine G (T := T) 66 rfl ?_
    refine Iq (T := T) j rfl rfl rfl rfl rfl ⟨rfl, rfl⟩ rfl (by omega) rfl ?_
    refine Lr (T := T) (ab hy) rfl rfl rfl rfl ⟨rfl, rfl⟩ rfl rfl ?_
    refine G (T := T) 1000 rfl ?_
    refine Cq (az y) rfl rfl rfl rfl rfl ⟨rfl, rfl⟩ ?_
    refine G (T := T) 1000 rfl ?_
    exact Fm (T := T) id (xd (exD (aD y))) (mkB c) (fin (g8 hyl) (by omega)) rfl
  refine Gs (T := T) 1000 rfl ?_
  refine If rfl (fun h => ?_) (fun h => ?_)
  · refine G (T := T) 1000 rfl ?_
    refine Ck [0, 1, 2] (ay hc.hl hc.hll (n := 5) (by omega) (by omega)) rfl rfl rfl rfl rfl rfl rfl ⟨⟨rfl, rfl⟩, rfl⟩ ?_
    rintro _ ⟨q, rfl, q1, q2⟩
    refine G (T := T) 76 rfl ?_
    rw [wrap16 (n := 1 + q) (by omega) (by omega)]
    refine G (T := T) 1000 rfl ?_
    exact Fm (T := T) id (xd (exD (.mk 11 eS (1 + q) []))) (mkB c) (fin (eg_inp (by omega) (by omega)) (by omega)) rfl
  refine Gs (T := T) 1000 rfl ?_
  refine If rfl (fun h => ?_) (fun h => ?_)
  · refine G (T := T) 1000 rfl ?_
    refine Ck [0, 1, 2] (ay hc.hl hc.hll (n := 3) (by omega) (by omega)) rfl rfl rfl rfl rfl rfl rfl ⟨⟨rfl, rfl⟩, rfl⟩ ?_
    rintro _ ⟨q, rfl, q1, q2⟩
    obtain ⟨j, y, rfl, hy, hyl⟩ := dh (l := glo3) (p := fun s => gloN s = true) (by decide) q1 q2
    refine G (T := T) 83 rfl ?_
    refine Ix (T := T) (rows := glo3.map cu) j (ab hy) rfl rfl rfl rfl ⟨rfl, rfl⟩ rfl rfl ?_
    refine G (T := T) 1000 rfl ?_
    refine Cq (az y) rfl rfl rfl rfl rfl ⟨rfl, rfl⟩ ?_
    refine G (T := T) 1000 rfl ?_
    exact Fm (T := T) id (xd (exD (aD y))) (mkB c) (fin (bJ hyl) (by omega)) rfl
  refine Gs (T := T) 1000 rfl ?_
  refine If rfl (fun h => ?_) (fun h => ?_)
  · obtain ⟨d, rfl, s1, s2, s3⟩ := big (by
      rcases Bool.or_eq_true_iff.1 h with h | h
      all_goals have := of_decide_eq_true h; omega)
    refine G (T := T) 1000 rfl ?_
    refine Ck [0, 1, 2] (nL (ih (d + 1) (by omega) (by omega)) (by omega) hc) rfl rfl rfl rfl rfl rfl rfl ⟨⟨rfl, rfl⟩, rfl⟩ ?_
    rintro _ ⟨e, rfl, he⟩
    refine G (T := T) 1000 rfl ?_
    exact Fm (T := T) id (xd (exD e)) (mkB c) (fin he.1 (by omega)) rfl
  refine Gs (T := T) 1000 rfl ?_
  refine If rfl (fun h => ?_) (fun h => ?_)
  · obtain ⟨d, hd, s1, s2, s3⟩ := big (by have := of_decide_eq_true h; omega)
    refine G (T := T) 100014 rfl ?_
    refine Op 0 4 rfl rfl ?_
    rintro _ ⟨nd3, rfl⟩
    refine ⟨_, _, rfl, rfl, ?_⟩
    refine G (T := T) 104 rfl ?_
    refine Sw rfl rfl rfl ⟨rfl, rfl⟩ ?_
    refine G (T := T) 100015 rfl ?_
    refine (SRto.wk 0 4 ndP rfl rfl rfl rfl ⟨_, rfl⟩).c ?_
    refine G (T := T) 1000 rfl ?_
    refine Cq (az ⟨#[116, 97, 98]⟩) rfl rfl rfl rfl rfl ⟨rfl, rfl⟩ ?_
    refine G (T := T) 1000 rfl ?_
    subst hd
    refine Ck [0, 1, 2] (dD (ih (d + 1) (by omega) (by omega)) (by omega) hc (n := 8) (by omega) (by omega)) rfl rfl rfl rfl rfl rfl rfl ⟨⟨rfl, rfl⟩, rfl⟩ ?_
    rintro _ ⟨e, rfl, he⟩
    refine G (T := T) 1000 rfl ?_
    refine Cq (cE (aD ⟨#[116, 97, 98]⟩) e) rfl rfl rfl rfl rfl ⟨rfl, rfl⟩ ?_
    refine G (T := T) 1000 rfl ?_
    exact Fm (T := T) id (xd (exD (idxE (aD ⟨#[116, 97, 98]⟩) e))) (mkB c) (tab (by decide) rfl he) rfl
  refine Gs (T := T) 1000 rfl ?_
  refine If rfl (fun h => ?_) (fun h => ?_)
  · obtain ⟨d, hd, s1, s2, s3⟩ := big (by have := of_decide_eq_true h; omega)
    refine G (T := T) 100017 rfl ?_
    refine Op 0 4 rfl rfl ?_
    rintro _ ⟨nd3, rfl⟩
    refine ⟨_, _, rfl, rfl, ?_⟩
    refine G (T := T) 120 rfl ?_
    refine Sw rfl rfl rfl ⟨rfl, rfl⟩ ?_
    refine G (T := T) 100018 rfl ?_
    refine (SRto.wk 0 4 ndP rfl rfl rfl rfl ⟨_, rfl⟩).c ?_
    refine G (T := T) 1000 rfl ?_
    refine Cq (az ⟨#[119, 111, 114, 100, 115]⟩) rfl rfl rfl rfl rfl ⟨rfl, rfl⟩ ?_
    refine G (T := T) 1000 rfl ?_
    subst hd
    refine Ck [0, 1, 2] (dD (ih (d + 1) (by omega) (by omega)) (by omega) hc (n := 4) (by omega) (by omega)) rfl rfl rfl rfl rfl rfl rfl ⟨⟨rfl, rfl⟩, rfl⟩ ?_
    rintro _ ⟨e, rfl, he⟩
    refine G (T := T) 1000 rfl ?_
    refine Cq (cE (aD ⟨#[119, 111, 114, 100, 115]⟩) e) rfl rfl rfl rfl rfl ⟨rfl, rfl⟩ ?_
    refine G (T := T) 1000 rfl ?_
    exact Fm (T := T) id (xd (exD (idxE (aD ⟨#[119, 111, 114, 100, 115]⟩) e))) (mkB c) (tab (by decide) rfl he) rfl
  have one : ∀ {d : Nat}, D = d + 2 → ((D : Nat) : Int) - 1 = ((d + 1 : Nat) : Int) := fun h => by omega
  refine Gs (T := T) 1000 rfl ?_
  refine If rfl (fun h => ?_) (fun h => ?_)
  · obtain ⟨d, hd, s1, s2, s3⟩ := big (by have := of_decide_eq_true h; omega)
    refine G (T := T) 100020 rfl ?_
    refine Ods (T := T) [0, 1, 5, 6, 7, 2, 3, 4, 8, 9, 10, 11] rfl ?_
    refine G (T := T) 1000 rfl ?_
    refine Ck [0, 1, 2] (ay hc.hl hc.hll (n := 3) (by omega) (by omega)) rfl rfl rfl rfl rfl rfl rfl ⟨⟨rfl, rfl⟩, rfl⟩ ?_
    rintro _ ⟨q, rfl, q1, q2⟩
    obtain ⟨j, y, rfl, hy, hyl⟩ := dh (l := una3) (p := fun s => aF s unL = true) (by decide) q1 q2
    refine G (T := T) 134 rfl ?_
    refine Ix (T := T) (rows := una3.map cu) j (ab hy) rfl rfl rfl rfl ⟨rfl, rfl⟩ rfl rfl ?_
    refine G (T := T) 1000 rfl ?_
    rw [one hd]
    refine Ck [0, 1, 2] (ih (d + 1) (by omega) (by omega) c hc) rfl rfl rfl rfl rfl rfl rfl ⟨⟨rfl, rfl⟩, rfl⟩ ?_
    rintro _ ⟨e, rfl, he⟩
    refine G (T := T) 1000 rfl ?_
    exact Fm (T := T) id (xd (exD (.mk 12 y 0 [e]))) (mkB c) (fin (eg_un hyl he) (by omega)) rfl
  refine Gs (T := T) 1000 rfl ?_
  refine If rfl (fun h => ?_) (fun h => ?_)
  · obtain ⟨d, hd, s1, s2, s3⟩ := big (by have := of_decide_eq_true h; omega)
    refine G (T := T) 100022 rfl ?_
    refine Ods (T := T) [0, 1, 5, 6, 7, 2, 3, 4, 8, 9, 10, 11] rfl ?_
    refine G (T := T) 1000 rfl ?_
    refine Ck [0, 1, 2] (ay hc.hl hc.hll (n := 3) (by omega) (by omega)) rfl rfl rfl rfl rfl rfl rfl ⟨⟨rfl, rfl⟩, rfl⟩ ?_
    rintro _ ⟨q, rfl, q1, q2⟩
    obtain ⟨j, y, rfl, hy, hyl⟩ := dh (l := cas3) (p := fun s => aF s castL = true) (by decide) q1 q2
    refine G (T := T) 148 rfl ?_
    refine Ix (T := T) (rows := cas3.map cu) j (ab hy) rfl rfl rfl rfl ⟨rfl, rfl⟩ rfl rfl ?_
    refine G (T := T) 1000 rfl ?_
    rw [one hd]
    refine Ck [0, 1, 2] (ih (d + 1) (by omega) (by omega) c hc) rfl rfl rfl rfl rfl rfl rfl ⟨⟨rfl, rfl⟩, rfl⟩ ?_
    rintro _ ⟨e, rfl, he⟩
    refine G (T := T) 1000 rfl ?_
    exact Fm (T := T) id (xd (exD (.mk 15 y 0 [e]))) (mkB c) (fin (eg_cast hyl he) (by omega)) rfl
  refine G (T := T) 100023 rfl ?_
  refine Cu [0, 1, 4, 5] (fun (_ : Unit) r => (156, xb (decide (k = 11) && decide ((c.me : Int) + 1 < ((c.fs.map fuD).length : Int)))) :: r) (fun _ => mkB c ++ [ex0 3]) 4 (fun _ => True) rfl ?_ ?_
  · refine G (T := T) 160 rfl ?_
    refine Sp 159 rfl (fun h => ?_) (fun h => ?_)
    · refine G (T := T) 1000 rfl ?_
      rw [h, Bool.true_and]
      exact Dn () trivial
    · refine G (T := T) 1000 rfl ?_
      rw [h, Bool.false_and]
      exact Dn () trivial
  rintro _ -
  have hcon := nK (pk := pk) hc.hl hc.hll
  refine If rfl (fun h => ?_) (fun h => ?_)
  · have h9 := (Bool.and_eq_true_iff.1 h).2
    obtain ⟨d, hd, s1, s2, s3⟩ := big (by have := of_decide_eq_true (Bool.and_eq_true_iff.1 h).1; omega)
    have hlen := of_decide_eq_true h9
    have hlen2 := hlen
    rw [List.length_map] at hlen2
    refine G (T := T) 100024 rfl ?_
    refine Ods (T := T) [0, 1, 2, 3, 4, 5, 6, 7, 8, 9, 10, 11, 12, 13, 14, 15, 16, 17, 18, 19, 20, 25, 21, 22, 23, 24, 26] rfl ?_
    refine G (T := T) 1000 rfl ?_
    refine Ck [0, 1, 2] (ay hc.hl hc.hll (n := ((c.fs.map fuD).length : Int) - (c.me : Int) - 1) (by omega) (by rw [List.length_map]; omega)) rfl rfl rfl rfl rfl rfl rfl ⟨⟨rfl, rfl⟩, rfl⟩ ?_
    rintro _ ⟨q, rfl, q1, q2⟩
    rw [List.length_map] at q2
    obtain ⟨j, rfl⟩ := Int.eq_ofNat_of_zero_le q1
    obtain ⟨f, hf9⟩ := ae (l := c.fs) (j := c.me + 1 + j) (by omega)
    have hF := hc.hf f (List.mem_of_getElem? hf9)
    refine G (T := T) 195 rfl ?_
    refine Ix (T := T) (c.me + 1 + j) (ab hf9) rfl rfl rfl rfl ⟨rfl, rfl⟩ (by push_cast; rfl) rfl ?_
    refine G (T := T) 100025 rfl ?_
    refine (FzTo.bz 4 rfl).c ?_
    refine G (T := T) 1000 rfl ?_
    refine If rfl (fun h => ?_) (fun h => ?_)
    · refine G (T := T) 1000 rfl ?_
      subst hd
      refine Ck [0, 1, 2] (mk_call (ih (d + 1) (by omega) (by omega)) (by omega) hc hF) rfl rfl rfl rfl rfl rfl rfl ⟨⟨rfl, rfl⟩, rfl⟩ ?_
      rintro _ ⟨e, rfl, he⟩
      refine G (T := T) 1000 rfl ?_
      exact Fm (T := T) id (xd (exD e)) (mkB c) (fin he.1 (by omega)) rfl
    · refine G (T := T) 1000 rfl ?_
      refine Ck [0, 1, 2] hcon rfl rfl rfl rfl rfl rfl rfl ⟨⟨rfl, rfl⟩, rfl⟩ ?_
      rintro _ ⟨e, rfl, he⟩
      refine G (T := T) 1000 rfl ?_
      exact Fm (T := T) id (xd (exD e)) (mkB c) (fin he (by omega)) rfl
  refine G (T := T) 1000 rfl ?_
  refine If rfl (fun h => ?_) (fun h => ?_)
  · obtain ⟨d, hd, s1, s2, s3⟩ := big (by have := of_decide_eq_true h; omega)
    refine G (T := T) 100028 rfl ?_
    refine Op 0 4 rfl rfl ?_
    rintro _ ⟨nd3, rfl⟩
    refine ⟨_, _, rfl, rfl, ?_⟩
    refine G (T := T) 213 rfl ?_
    refine Sw rfl rfl rfl ⟨rfl, rfl⟩ ?_
    refine G (T := T) 100029 rfl ?_
    refine (SRto.wk 0 4 ndP rfl rfl rfl rfl ⟨_, rfl⟩).c ?_
    refine G (T := T) 1000 rfl ?_
    refine Ck [0, 1, 2] (ay hc.hl hc.hll (n := 2) (by omega) (by omega)) rfl rfl rfl rfl rfl rfl rfl ⟨⟨rfl, rfl⟩, rfl⟩ ?_
    rintro _ ⟨q, rfl, q1, q2⟩
    obtain ⟨j, y, rfl, hy, hyl⟩ := dh (l := div2) (p := fun s => aF s opsL = true) (by decide) q1 q2
    refine G (T := T) 219 rfl ?_
    refine Ix (T := T) (rows := div2.map cu) j (ab hy) rfl rfl rfl rfl ⟨rfl, rfl⟩ rfl rfl ?_
    refine G (T := T) 1000 rfl ?_
    rw [one hd]
    refine Ck [0, 1, 2] (ih (d + 1) (by omega) (by omega) c hc) rfl rfl rfl rfl rfl rfl rfl ⟨⟨rfl, rfl⟩, rfl⟩ ?_
    rintro _ ⟨e, rfl, he⟩
    refine G (T := T) 100031 rfl ?_
    refine (FzTo.bz 4 rfl).c ?_
    refine G (T := T) 1000 rfl ?_
    refine Ck [0, 1, 2] (ay hc.hl hc.hll (n := 8) (by omega) (by omega)) rfl rfl rfl rfl rfl rfl rfl ⟨⟨rfl, rfl⟩, rfl⟩ ?_
    rintro _ ⟨q8, rfl, _, _⟩
    refine G (T := T) 1000 rfl ?_
    refine If rfl (fun h => ?_) (fun h => ?_)
    · refine G (T := T) 1000 rfl ?_
      rw [one hd]
      refine Ck [0, 1, 2] (ih (d + 1) (by omega) (by omega) c hc) rfl rfl rfl rfl rfl rfl rfl ⟨⟨rfl, rfl⟩, rfl⟩ ?_
      rintro _ ⟨e2, rfl, he2⟩
      refine G (T := T) 1000 rfl ?_
      refine Cq (bB y e e2) rfl rfl rfl rfl rfl ⟨rfl, rfl⟩ ?_
      refine G (T := T) 1000 rfl ?_
      exact Fm (T := T) id (xd (exD (iN y e e2))) (mkB c) (fin (eE hyl he he2) (by omega)) rfl
    · refine G (T := T) 1000 rfl ?_
      rw [show ((D : Nat) : Int) - 2 = ((d : Nat) : Int) by omega]
      refine Ck [0, 1, 2] (ih d (by omega) (by omega) c hc) rfl rfl rfl rfl rfl rfl rfl ⟨⟨rfl, rfl⟩, rfl⟩ ?_
      rintro _ ⟨e2, rfl, he2⟩
      refine G (T := T) 1000 rfl ?_
      refine Cq (bA (n := 1) (by omega) (by omega)) rfl rfl rfl rfl rfl ⟨rfl, rfl⟩ ?_
      refine G (T := T) 1000 rfl ?_
      refine Cq (bB ⟨#[124]⟩ e2 (d9 1)) rfl rfl rfl rfl rfl ⟨rfl, rfl⟩ ?_
      refine G (T := T) 1000 rfl ?_
      refine Cq (bB y e (iN ⟨#[124]⟩ e2 (d9 1))) rfl rfl rfl rfl rfl ⟨rfl, rfl⟩ ?_
      refine G (T := T) 1000 rfl ?_
      exact Fm (T := T) id (xd (exD (iN y e (iN ⟨#[124]⟩ e2 (d9 1))))) (mkB c) (fin (eE hyl he (eE (by decide) he2 (fA (by omega) (by omega)))) (by omega)) rfl
  refine G (T := T) 1000 rfl ?_
  refine If rfl (fun h => ?_) (fun h => ?_)
  · obtain ⟨d, hd, s1, s2, s3⟩ := big (by have := of_decide_eq_true h; omega)
    refine G (T := T) 1000 rfl ?_
    refine Ck [0, 1, 2] (ay hc.hl hc.hll (n := 16) (by omega) (by omega)) rfl rfl rfl rfl rfl rfl rfl ⟨⟨rfl, rfl⟩, rfl⟩ ?_
    rintro _ ⟨q, rfl, q1, q2⟩
    obtain ⟨j, y, rfl, hy, hyl⟩ := dh (l := bin16) (p := fun s => aF s opsL = true) (by decide) q1 q2
    refine G (T := T) 253 rfl ?_
    refine Ix (T := T) (rows := bin16.map cu) j (ab hy) rfl rfl rfl rfl ⟨rfl, rfl⟩ rfl rfl ?_
    refine G (T := T) 1000 rfl ?_
    rw [one hd]
    refine Ck [0, 1, 2] (ih (d + 1) (by omega) (by omega) c hc) rfl rfl rfl rfl rfl rfl rfl ⟨⟨rfl, rfl⟩, rfl⟩ ?_
    rintro _ ⟨e, rfl, he⟩
    refine G (T := T) 100038 rfl ?_
    refine (FzTo.bz 4 rfl).c ?_
    refine G (T := T) 1000 rfl ?_
    rw [one hd]
    refine Ck [0, 1, 2] (ih (d + 1) (by omega) (by omega) c hc) rfl rfl rfl rfl rfl rfl rfl ⟨⟨rfl, rfl⟩, rfl⟩ ?_
    rintro _ ⟨e2, rfl, he2⟩
    refine G (T := T) 1000 rfl ?_
    refine Cq (bB y e e2) rfl rfl rfl rfl rfl ⟨rfl, rfl⟩ ?_
    refine G (T := T) 1000 rfl ?_
    exact Fm (T := T) id (xd (exD (iN y e e2))) (mkB c) (fin (eE hyl he he2) (by omega)) rfl
  refine G (T := T) 1000 rfl ?_
  refine Ck [0, 1, 2] hcon rfl rfl rfl rfl rfl rfl rfl ⟨⟨rfl, rfl⟩, rfl⟩ ?_
  rintro _ ⟨e, rfl, he⟩
  refine G (T := T) 1000 rfl ?_
  exact Fm (T := T) id (xd (exD e)) (mkB c) (fin he (by omega)) rfl
end
section
open Go Go.RowKit Go.Proofs K
variable {pk : Pk}
def dg1 (n : Nat) : UInt8 := UInt8.ofNat (48 + n)
def vN (n : Nat) : ByteArray := ⟨#[118, dg1 n]⟩
def lN (n : Nat) : ByteArray := ⟨#[76, dg1 n]⟩
theorem vN_loc : ∀ n, 1 ≤ n → n ≤ 9 → dB (vN n) = true := by
  intro n h1 h2
  have : ∀ n : Nat, n ≤ 9 → 1 ≤ n → dB (vN n) = true := by decide +kernel
  exact this n h2 h1
theorem lN_id : ∀ n, n ≤ 9 → ai (lN n) = true := by decide +kernel
theorem ia {n : Nat} (h : n < 10) : XQ Tryz.prog pk 153 [xi (n : Nat)] (xs ⟨#[dg1 n]⟩) := by
  refine XQ.en Tryz.func153 Tryz.ntmps153 (fun w0 own H V v0 hf => ?_)
  have t1 : 0 ≤ (n : Int).tmod 10 ∧ (n : Int).tmod 10 < 10 := ⟨Int.tmod_nonneg 10 (Int.natCast_nonneg n), Int.tmod_lt_of_pos (n : Int) (by omega)⟩
  refine G (T := T) 9 rfl ?_
  rw [fx n, Nat.mod_eq_of_lt h]
  refine Cd (T := T) [dg1 n] rfl rfl rfl rfl rfl rfl ⟨rfl, rfl⟩ ?_
  refine G (T := T) 1000 rfl ?_
  refine IfT rfl (decide_eq_true (by omega)) ?_
  refine G (T := T) 1000 rfl ?_
  exact Fe (T := T) rfl rfl
theorem nM {c : KC} (h : c.mn < 8) : XS' Tryz.prog pk 116 [pm] (mkB c) 3 (fun _ : Unit => True) (fun _ => xs (vN (c.mn + 1))) (fun _ => mkQ c.l c.fs c.tn c.me c.vars c.labels c.lf (c.mn + 1) c.ct 0 0) := by
  refine XM.en Tryz.func116 Tryz.ntmps116 (fun w0 own H V v0 hf => ?_)
  refine G (T := T) 1000 rfl ?_
  refine Cq (ia (n := c.mn + 1) (by omega)) rfl rfl rfl rfl rfl ⟨rfl, rfl⟩ ?_
  refine G (T := T) 1000 rfl ?_ ⟨by show 1 + 1 ≤ 9223372036854775807; omega, trivial⟩
  exact Fm (T := T) id (xs (vN (c.mn + 1))) (mkQ c.l c.fs c.tn c.me c.vars c.labels c.lf (c.mn + 1) c.ct 0 0) ⟨(), trivial, rfl, rfl⟩ rfl
def outS (n : Int) (e : Ex) : Sm := .mk 11 eS ty4z n [e] [] [] []
theorem k9 {c : KC} (hc : c.ok) : XKp Tryz.prog pk 123 [pm] (mkB c) 3 (fun r => ∃ s, r = xd (smD s) ∧ SG (SB 4 + 2) s) := by
  refine XM.en Tryz.func123 Tryz.ntmps123 (fun w0 own H V v0 hf => ?_)
  refine G (T := T) 1000 rfl ?_
  refine Ck [0, 1, 2] (ay hc.hl hc.hll (n := 9) (by omega) (by omega)) rfl rfl rfl rfl rfl rfl rfl ⟨⟨rfl, rfl⟩, rfl⟩ ?_
  rintro _ ⟨q, rfl, q1, q2⟩
  refine G (T := T) 7 rfl ?_
  rw [wrap16 (n := 1 + q) (by omega) (by omega)]
  refine G (T := T) 1000 rfl ?_
  refine Ck [0, 1, 2] (bM 4 (by omega) c hc) rfl rfl rfl rfl rfl rfl rfl ⟨⟨rfl, rfl⟩, rfl⟩ ?_
  rintro _ ⟨e, rfl, he⟩
  refine G (T := T) 1000 rfl ?_
  exact Fm (T := T) id (xd (smD (outS (1 + q) e))) (mkB c) ⟨⟨_, rfl, (sg_out (by omega) (by omega) he).mono (by omega)⟩, rfl⟩ rfl
theorem mk_giving {c : KC} (hc : c.ok) : XKp Tryz.prog pk 122 [pm] (mkB c) 3 (fun r => ∃ s, r = xd (smD s) ∧ SG (SB 3 + 2) s) := by
  obtain ⟨f, hf9⟩ := ae (l := c.fs) (j := c.me) hc.hme
  have hme := hc.hme
  have hfl := hc.hfl
  refine XM.en Tryz.func122 Tryz.ntmps122 (fun w0 own H V v0 hf => ?_)
  refine G (T := T) 13 rfl ?_
  refine Ix (T := T) c.me (ab hf9) rfl rfl rfl rfl ⟨rfl, rfl⟩ rfl rfl ?_
  refine G (T := T) 1000 rfl ?_
  refine If rfl (fun h => ?_) (fun h => ?_)
  · refine G (T := T) 1000 rfl ?_
    refine Ck [0, 1, 2] (bM 3 (by omega) c hc) rfl rfl rfl rfl rfl rfl rfl ⟨⟨rfl, rfl⟩, rfl⟩ ?_
    rintro _ ⟨e, rfl, he⟩
    refine G (T := T) 1000 rfl ?_
    exact Fm (T := T) id (xd (smD (.mk 10 eS ty4z 0 [e] [] [] []))) (mkB c) ⟨⟨_, rfl, (sg_ret (by simp) (EGs.one he)).mono (by omega)⟩, rfl⟩ rfl
  · refine G (T := T) 1000 rfl ?_
    exact Fm (T := T) id (xd (smD (.mk 10 eS ty4z 0 [] [] [] []))) (mkB c) ⟨⟨_, rfl, (sg_ret (by simp) EGs.nil).mono (by omega)⟩, rfl⟩ rfl
end
section
open Go Go.RowKit Go.Proofs K
variable {pk : Pk}
structure KV where
  vars : List ByteArray
  lf : Nat
  mn : Nat
  ct : Nat
def KS (c : KC) (v : KV) : KC := { c with vars := v.vars, lf := v.lf, mn := v.mn, ct := v.ct }
structure KI (V : Nat) (v : KV) : Prop where
  hv : ∀ s ∈ v.vars, dB s = true
  vl : v.vars.length + v.lf ≤ V
  m8 : v.mn ≤ 8
  cl : v.ct + v.lf ≤ 8
  V5 : V ≤ 500
abbrev KW (c : KC) (v : KV) (lab : List ByteArray) : KC := ⟨c.l, c.fs, c.tn, c.me, v.vars, lab, v.lf, v.mn, v.ct⟩
theorem KC.ok.kw {c : KC} (h : c.ok) {V : Nat} {v : KV} (k : KI V v) {lab : List ByteArray} (h1 : ∀ s ∈ lab, ai s = true) (h2 : lab.length ≤ 1000) : (KW c v lab).ok := ⟨h.hl, h.hll, k.hv, by have := k.vl; have := k.V5; show v.vars.length ≤ 1000; omega, h.hme, h.hfl, h.hf, h.htn, h1, h2⟩
abbrev StC (pk : Pk) (f : FuncId) (args : List XV) (c : KC) (V B : Nat) : Prop := XS' Tryz.prog pk f args (mkB c) 3 (fun a : KV × List Sm => KI V a.1 ∧ SGs B a.2) (fun a => xr (a.2.map smD)) (fun a => mkQ c.l c.fs c.tn c.me a.1.vars c.labels a.1.lf a.1.mn a.1.ct 1 1)
def kf (pk : Pk) (k : Nat) : Prop := ∀ (c : KC) (V deep : Nat), c.ok → KI V ⟨c.vars, c.lf, c.mn, c.ct⟩ → deep + k = 4 → c.labels.length + k ≤ 8 → StC pk 68 [pm, xi (deep : Nat)] c V (ZB k)
theorem gw (l : List Sm) : ∀ r ∈ l.map smD, r.length = 11 := fun r hr => by
  obtain ⟨s, _, rfl⟩ := List.mem_map.1 hr
  rfl
theorem SGs.len {B : Nat} {l : List Sm} (h : SGs B l) : l.length ≤ B := Nat.le_trans (Sm.len_le l) h.s
def downS (n : ByteArray) : Sm := .mk 2 eS ty4z 0 [aD n, iN ⟨#[45]⟩ (aD n) (d9 1)] [] [] []
def letS (n : ByteArray) (k : Int) (e : Ex) : Sm := .mk 1 n (.mk k eS 0 []) 0 [e] [] [] []
def whiS (l n : ByteArray) (b : List Sm) : Sm := .mk 4 l ty4z 0 [aD n] b [] []
def jmp2 : List Int := [7, 8]
def jumpS (k : Int) (l : ByteArray) : Sm := .mk k l ty4z 0 [] [] [] []
def ifS (e : Ex) (b el : List Sm) : Sm := .mk 3 eS ty4z 0 [e] b el []
theorem jmp2_get {q : Int} (h0 : 0 ≤ q) (h1 : q < 2) : ∃ j k, q = ((j : Nat) : Int) ∧ jmp2[j]? = some k ∧ (k = 7 ∨ k = 8) := by
  obtain ⟨j, rfl⟩ := Int.eq_ofNat_of_zero_le h0
  have : j = 0 ∨ j = 1 := by omega
  rcases this with rfl | rfl
  · exact ⟨0, 7, rfl, rfl, .inl rfl⟩
  · exact ⟨1, 8, rfl, rfl, .inr rfl⟩
theorem tyk_G {k : Int} (h : k = 1 ∨ k = 2 ∨ k = 3) : rTy (.mk k eS 0 []) = true ∧ (Ty4.mk k eS 0 []).ok ∧ (Ty4.mk k eS 0 []).size ≤ 1 := by
  refine ⟨by rcases h with rfl | rfl | rfl <;> rfl, ⟨⟨by omega, by omega⟩, by decide, ⟨by omega, by omega⟩, trivial⟩, by simp [Ty4.size, Ty4.sizes]⟩
theorem mR {n : ByteArray} (h : dB n = true) : SG 6 (downS n) := (sg_asg (A := 1) (B := 3) ⟨g8 h, rfl⟩ (eE (by decide) (g8 h) (fA (by omega) (by omega)))).mono (by omega)
abbrev smB (g : Nat) (k : Int) (nm : ByteArray) (xs : XC) (b : XC) : XB := ⟨g, 0, .cells [.d (.c (.int .i64 k)), .d (.c (.string nm)), .d (.c (.int .i64 0)), .d (.c (.string eS)), .d (.c (.int .i64 0)), .z, .d (.c (.int .u16 0)), xs, b, .z, .z] 66⟩
theorem oM {k : Nat} (ih : kf pk k) (hk : k ≤ 3) {c : KC} {V deep : Nat} (hc : c.ok) (hI : KI V ⟨c.vars, c.lf, c.mn, c.ct⟩) (hV : c.vars.length + c.lf + 1 ≤ V) (hC : c.ct + c.lf + 1 ≤ 8) (h8 : c.mn < 8) (hd : deep + 1 + k = 4) (hlab : c.labels.length + k + 1 ≤ 8) :
    StC pk 119 [pm, xi (deep : Nat)] c V (ZB k + 2400) := by
  have hz := ZB_le (k := k) (by omega)
  have hV5 := hI.V5
  have hvn := vN_loc (c.mn + 1) (by omega) (by omega)
  refine XM.en Tryz.func119 Tryz.ntmps119 (fun w0 own H V' v0 hf => ?_)
  refine G (T := T) 1000 rfl ?_
  refine Cx' [0, 1, 2] (fun _ => mkQ c.l c.fs c.tn c.me c.vars c.labels c.lf (c.mn + 1) c.ct 0 0) (nM h8) rfl rfl rfl rfl rfl rfl rfl ⟨⟨rfl, rfl⟩, rfl⟩ (fun _ => rfl) (fun _ => rfl) ?_
  rintro _ -
  refine G (T := T) 1000 rfl ?_
  refine Cq (az (vN (c.mn + 1))) rfl rfl rfl rfl rfl ⟨rfl, rfl⟩ ?_
  refine G (T := T) 100003 rfl ?_
  refine (FzTo.bz 3 rfl).c ?_
  generalize hN : vN (c.mn + 1) = N at hvn ⊢
  have hc1 : ({ c with mn := c.mn + 1 } : KC).ok := ⟨hc.hl, hc.hll, hc.hv, hc.hvl, hc.hme, hc.hfl, hc.hf, hc.htn, hc.hlb, hc.hlbl⟩
  refine G (T := T) 1000 rfl ?_
  refine Ck [0, 1, 2] (ay hc1.hl hc1.hll (n := 5) (by omega) (by omega)) rfl rfl rfl rfl rfl rfl rfl ⟨⟨rfl, rfl⟩, rfl⟩ ?_
  rintro _ ⟨q, rfl, q1, q2⟩
  refine G (T := T) 1000 rfl ?_
  refine Cq (bA (n := q) q1 (by omega)) rfl rfl rfl rfl rfl ⟨rfl, rfl⟩ ?_
  refine G (T := T) 100004 rfl ?_
  refine (FzTo.bz 4 rfl).c ?_
  refine G (T := T) 1000 rfl ?_
  refine Cq (bA (n := 1) (by omega) (by omega)) rfl rfl rfl rfl rfl ⟨rfl, rfl⟩ ?_
  refine G (T := T) 1000 rfl ?_
  refine Cq (bB ⟨#[45]⟩ (aD N) (d9 1)) rfl rfl rfl rfl rfl ⟨rfl, rfl⟩ ?_
  refine G (T := T) 100006 rfl ?_
  refine (FzTo.bz 6 rfl).c ?_
  refine G (T := T) 1000 rfl ?_
  refine Ck [0, 1, 2] (ay hc1.hl hc1.hll (n := 2) (by omega) (by omega)) rfl rfl rfl rfl rfl rfl rfl ⟨⟨rfl, rfl⟩, rfl⟩ ?_
  rintro _ ⟨q2', rfl, _, _⟩
  refine G (T := T) 1000 rfl ?_
  refine Cf [0, 5, 7, 8] (fun (_ : ByteArray × KV × Nat × List (List D) × List Sm) r => r) (fun a => mkQ c.l c.fs c.tn c.me a.2.1.vars c.labels a.2.1.lf a.2.1.mn a.2.1.ct 1 1 ++ [smB 5 4 a.1 (.d (.s [exD (aD N)])) (.l 7 1 11 0 a.2.2.1 a.2.2.1), ⟨7, 1, .row a.2.2.1 a.2.2.2.1 66 11⟩]) 8 (fun a => a.2.2.1 = a.2.2.2.2.length ∧ a.2.2.2.1 = a.2.2.2.2.map smD ∧ (a.1 = eS ∨ ai a.1 = true) ∧ KI (V - 1) a.2.1 ∧ SGs (ZB k + 2300) a.2.2.2.2) rfl ?_ ?_
  · refine If rfl (fun h => ?_) (fun h => ?_)
    · refine G (T := T) 1000 rfl ?_
      refine Cq (ia (n := c.ct + 1) (by omega)) rfl rfl rfl rfl rfl ⟨rfl, rfl⟩ ?_
      have hln := lN_id (c.ct + 1) (by omega)
      refine G (T := T) 47 rfl ?_ ⟨by show 1 + 1 ≤ 9223372036854775807; omega, trivial⟩
      rw [show (⟨#[76]⟩ : ByteArray) ++ ⟨#[dg1 (c.ct + 1)]⟩ = lN (c.ct + 1) from rfl]
      generalize lN (c.ct + 1) = L at hln ⊢
      refine G (T := T) 60 rfl ?_
      have e1 : c.labels.map cu ++ [[D.c (.string L)]] = (c.labels ++ [L]).map cu := by rw [List.map_append]; rfl
      have e2 : c.labels.length + 1 = (c.labels ++ [L]).length := by simp
      rw [e1, e2]
      have hlb : ∀ s ∈ c.labels ++ [L], ai s = true := fun s hs => by
        rcases List.mem_append.1 hs with hs | hs
        · exact hc.hlb s hs
        · rw [List.mem_singleton.1 hs]; exact hln
      have hll2 : (c.labels ++ [L]).length ≤ 1000 := by rw [← e2]; omega
      refine Br (T := T) rfl rfl rfl rfl rfl ⟨rfl, rfl⟩ ?_
      refine G (T := T) 1000 rfl ?_
      have hI0 : KI (V - 1) ⟨c.vars, c.lf, c.mn + 1, c.ct + 1⟩ := ⟨hI.hv, by show c.vars.length + c.lf ≤ _; omega, by show c.mn + 1 ≤ 8; omega, by show c.ct + 1 + c.lf ≤ 8; omega, by omega⟩
      refine Cx' [0, 1, 2] (fun a => mkQ c.l c.fs c.tn c.me a.1.vars (c.labels ++ [L]) a.1.lf a.1.mn a.1.ct 1 2) (ih (KW c ⟨c.vars, c.lf, c.mn + 1, c.ct + 1⟩ (c.labels ++ [L])) (V - 1) (deep + 1) (hc.kw hI0 hlb hll2) hI0 hd (by show (c.labels ++ [L]).length + k ≤ 8; omega)) rfl rfl rfl rfl rfl rfl rfl ⟨⟨rfl, rfl⟩, rfl⟩ (fun _ => rfl) (fun _ => rfl) ?_
      rintro ⟨v, ss⟩ ⟨hI2, hS⟩; dsimp only at hI2 hS ⊢
      have hlen := hS.len
      have hmap : (ss.map smD).length = ss.length := List.length_map ..
      have hc2 := hc.kw hI2 hlb hll2
      refine G (T := T) 65 rfl ?_
      refine Ap (T := T) rfl (gw ss) rfl rfl rfl rfl rfl rfl ⟨rfl, rfl⟩ (by rw [List.length_map]; omega) (by rw [List.length_map]; omega) ?_
      refine G (T := T) 1000 rfl ?_
      refine Ck [0, 1, 2] (ay (c := KW c v (c.labels ++ [L])) hc2.hl hc2.hll (n := 2) (by omega) (by omega)) rfl rfl rfl rfl rfl rfl rfl ⟨⟨rfl, rfl⟩, rfl⟩ ?_
      rintro _ ⟨q3, rfl, _, _⟩
      refine G (T := T) 1000 rfl ?_
      refine Cf [0, 5, 7, 8] (fun (_ : Nat × List (List D) × List Sm) r => r) (fun a => mkQ c.l c.fs c.tn c.me v.vars (c.labels ++ [L]) v.lf v.mn v.ct 1 1 ++ [smB 5 4 L (.d (.s [exD (aD N)])) (.l 7 1 11 0 a.1 a.1), ⟨7, 1, .row a.1 a.2.1 66 11⟩]) 8 (fun a => a.1 = a.2.2.length ∧ a.2.1 = a.2.2.map smD ∧ SGs (ZB k + 2300) a.2.2) rfl ?_ ?_
      · refine If rfl (fun h => ?_) (fun h => ?_)
        · refine G (T := T) 100012 rfl ?_
          refine Ods (T := T) [0, 1, 5, 6, 8, 2, 3, 4, 7, 9] rfl ?_
          refine G (T := T) 1000 rfl ?_
          refine Ck [0, 1, 2] (ay (c := KW c v (c.labels ++ [L])) hc2.hl hc2.hll (n := 2) (by omega) (by omega)) rfl rfl rfl rfl rfl rfl rfl ⟨⟨rfl, rfl⟩, rfl⟩ ?_
          rintro _ ⟨q4, rfl, q41, q42⟩
          obtain ⟨j, jk, rfl, hj, hjk⟩ := jmp2_get q41 q42
          refine G (T := T) 73 rfl ?_
          refine Ix (T := T) (rows := jmp2.map iM) j (ab hj) rfl rfl rfl rfl ⟨rfl, rfl⟩ rfl rfl ?_
          refine G (T := T) 100013 rfl ?_
          refine (FzTo.bz 8 rfl).c ?_
          refine Ods (T := T) [0, 1, 2, 5, 6, 3, 4, 7, 8, 9, 10, 11] rfl ?_
          refine G (T := T) 1000 rfl ?_
          refine Ck [0, 1, 2] (bM 2 (by omega) _ hc2) rfl rfl rfl rfl rfl rfl rfl ⟨⟨rfl, rfl⟩, rfl⟩ ?_
          rintro _ ⟨e, rfl, he⟩
          refine G (T := T) 1000 rfl ?_
          refine Ck [0, 1, 2] (k9 hc2) rfl rfl rfl rfl rfl rfl rfl ⟨⟨rfl, rfl⟩, rfl⟩ ?_
          rintro _ ⟨s, rfl, hs⟩
          refine G (T := T) 1000 rfl ?_
          refine Dn (_, _, ((downS N :: ss) ++ [ifS e [jumpS jk L] []]) ++ [s]) ⟨?_, ?_, (((SGs.cons (mR hvn) hS).snoc (k8 he (SGs.one (mQ hjk hln)) SGs.nil)).snoc hs).mono (by rw [SB2, SB4]; omega)⟩ ⟨⟨_, _, rfl, rfl⟩, rfl, rfl⟩
          · dsimp only; rw [List.length_map, List.length_append, List.length_append, List.length_cons]; simp only [List.length_cons, List.length_nil]; omega
          · dsimp only; rw [List.map_append, List.map_append]; rfl
        · refine G (T := T) 1000 rfl ?_
          refine Dn (_, _, downS N :: ss) ⟨?_, ?_, (SGs.cons (mR hvn) hS).mono (by omega)⟩ ⟨⟨_, _, rfl, rfl⟩, rfl, rfl⟩
          · dsimp only; rw [List.length_map, List.length_cons]; omega
          · rfl
      rintro ⟨n, R, bs⟩ ⟨hn9, hR9, hS3⟩; dsimp only at hn9 hR9 hS3 ⊢; subst hn9 hR9
      refine G (T := T) 107 rfl ?_
      refine Po (T := T) c.labels.length rfl rfl rfl rfl rfl rfl ⟨rfl, rfl⟩ (by rw [← e2]; omega) (by rw [← e2]; omega) rfl rfl ?_
      rw [show ((c.labels ++ [L]).map cu).take c.labels.length = c.labels.map cu by simp]
      refine G (T := T) 1000 rfl ?_
      exact Dn (L, v, _, _, bs) ⟨rfl, rfl, .inr hln, hI2, hS3⟩
    · refine G (T := T) 111 rfl ?_
      refine Br (T := T) rfl rfl rfl rfl rfl ⟨rfl, rfl⟩ ?_
      refine G (T := T) 1000 rfl ?_
      refine Cx' [0, 1, 2] (fun a => mkQ c.l c.fs c.tn c.me a.1.vars c.labels a.1.lf a.1.mn a.1.ct 1 1) (ih (KW c ⟨c.vars, c.lf, c.mn + 1, c.ct⟩ c.labels) (V - 1) (deep + 1) hc1 ⟨hI.hv, by show c.vars.length + c.lf ≤ _; omega, by show c.mn + 1 ≤ 8; omega, hI.cl, by omega⟩ hd (by show c.labels.length + k ≤ 8; omega)) rfl rfl rfl rfl rfl rfl rfl ⟨⟨rfl, rfl⟩, rfl⟩ (fun _ => rfl) (fun _ => rfl) ?_
      rintro ⟨v, ss⟩ ⟨hI2, hS⟩; dsimp only at hI2 hS ⊢
      have hlen := hS.len
      have hmap : (ss.map smD).length = ss.length := List.length_map ..
      refine G (T := T) 116 rfl ?_
      refine Ap (T := T) rfl (gw ss) rfl rfl rfl rfl rfl rfl ⟨rfl, rfl⟩ (by rw [List.length_map]; omega) (by rw [List.length_map]; omega) ?_
      refine G (T := T) 1000 rfl ?_
      refine Dn (eS, v, _, _, downS N :: ss) ⟨?_, ?_, .inl rfl, hI2, (SGs.cons (mR hvn) hS).mono (by omega)⟩ ⟨⟨_, _, rfl, rfl⟩, rfl, rfl⟩
      · dsimp only; rw [List.length_map, List.length_cons]; omega
      · rfl
  rintro ⟨nm, v, n, R, bs⟩ ⟨hn9, hR9, hnm, hI2, hS⟩; dsimp only at hn9 hR9 hnm hI2 hS ⊢; subst hn9 hR9
  have hvl2 := hI2.vl
  have hbl := hS.len
  refine G (T := T) 100018 rfl ?_
  have e1 : v.vars.map cu ++ [[D.c (.string N)]] = (v.vars ++ [N]).map cu := by rw [List.map_append]; rfl
  have e2 : v.vars.length + 1 = (v.vars ++ [N]).length := by simp
  rw [e1, e2]
  refine Zc 7 rfl ?_
  refine G (T := T) 1000 rfl ?_
  have hT := tyk_G (k := 1) (.inl rfl)
  refine Fm (T := T) id (xr [smD (letS N 1 (d9 q)), [.c (.int .i64 4), .c (.string nm), .c (.int .i64 0), .c (.string eS), .c (.int .i64 0), .s [], .c (.int .u16 0), .s [exD (aD N)], .s (bs.map smD), .s [], .s []]]) (mkQ c.l c.fs c.tn c.me (v.vars ++ [N]) c.labels v.lf v.mn v.ct 1 1) ⟨(⟨v.vars ++ [N], v.lf, v.mn, v.ct⟩, [letS N 1 (d9 q), whiS nm N bs]), ⟨⟨fun s hs => ?_, by show (v.vars ++ [N]).length + v.lf ≤ V; omega, hI2.m8, hI2.cl, hV5⟩, ?_⟩, ?_, rfl⟩ rfl
  · rcases List.mem_append.1 hs with hs | hs
    · exact hI2.hv s hs
    · rw [List.mem_singleton.1 hs]; exact hvn
  · exact (SGs.cons (sg_let hvn hT.1 hT.2.1 hT.2.2 (fA q1 (by omega))) (SGs.one (sg_while hnm (g8 hvn) hS))).mono (by omega)
  · show _ = xr [smD (letS N 1 (d9 q)), smD (whiS nm N bs)]
    rw [whiS, aQ]
    rfl
end
section
open Go Go.RowKit Go.Proofs K
variable {pk : Pk}
def blkS (k : Int) (l : ByteArray) (b : List Sm) : Sm := .mk k l ty4z 0 [] b [] []
theorem nN {k : Nat} (ih : kf pk k) (hk : k ≤ 3) {c : KC} {V deep : Nat} (hc : c.ok) (hI : KI V ⟨c.vars, c.lf, c.mn, c.ct⟩) (hC : c.ct + c.lf + 1 ≤ 8) (hd : deep + 1 + k = 4) (hlab : c.labels.length + k + 1 ≤ 8) :
    XS' Tryz.prog pk 120 [pm, xi (deep : Nat)] (mkB c) 3 (fun a : KV × Sm => KI V a.1 ∧ SG (ZB k + 700) a.2) (fun a => xd (smD a.2)) (fun a => mkQ c.l c.fs c.tn c.me a.1.vars c.labels a.1.lf a.1.mn a.1.ct 1 1) := by
  have hz := ZB_le (k := k) (by omega)
  have hV5 := hI.V5
  refine XM.en Tryz.func120 Tryz.ntmps120 (fun w0 own H V' v0 hf => ?_)
  refine G (T := T) 1000 rfl ?_
  refine Cq (ia (n := c.ct + 1) (by omega)) rfl rfl rfl rfl rfl ⟨rfl, rfl⟩ ?_
  have hln := lN_id (c.ct + 1) (by omega)
  refine G (T := T) 20 rfl ?_ ⟨by show 1 + 1 ≤ 9223372036854775807; omega, trivial⟩
  rw [show (⟨#[76]⟩ : ByteArray) ++ ⟨#[dg1 (c.ct + 1)]⟩ = lN (c.ct + 1) from rfl]
  generalize lN (c.ct + 1) = L at hln ⊢
  refine G (T := T) 100004 rfl ?_
  have e1 : c.labels.map cu ++ [[D.c (.string L)]] = (c.labels ++ [L]).map cu := by rw [List.map_append]; rfl
  have e2 : c.labels.length + 1 = (c.labels ++ [L]).length := by simp
  rw [e1, e2]
  have hlb : ∀ s ∈ c.labels ++ [L], ai s = true := fun s hs => by
    rcases List.mem_append.1 hs with hs | hs
    · exact hc.hlb s hs
    · rw [List.mem_singleton.1 hs]; exact hln
  have hll2 : (c.labels ++ [L]).length ≤ 1000 := by rw [← e2]; omega
  have hI0 : KI V ⟨c.vars, c.lf, c.mn, c.ct + 1⟩ := ⟨hI.hv, hI.vl, hI.m8, by show c.ct + 1 + c.lf ≤ 8; omega, hV5⟩
  have hc1 := hc.kw hI0 hlb hll2
  refine Ods (T := T) [0, 1, 2, 3, 4, 5, 6, 7, 8, 9, 14, 10, 11, 12, 13, 15] rfl ?_
  refine G (T := T) 1000 rfl ?_
  refine Ck [0, 1, 2] (ay (c := KW c ⟨c.vars, c.lf, c.mn, c.ct + 1⟩ (c.labels ++ [L])) hc1.hl hc1.hll (n := ((c.labels ++ [L]).length : Nat)) (by omega) (by omega)) rfl rfl rfl rfl rfl rfl rfl ⟨⟨rfl, rfl⟩, rfl⟩ ?_
  rintro _ ⟨q, rfl, q1, q2⟩
  obtain ⟨j, y, rfl, hy, hyl⟩ := dh hlb q1 q2
  refine G (T := T) 43 rfl ?_
  refine Iq (T := T) j rfl rfl rfl rfl rfl ⟨rfl, rfl⟩ rfl (by omega) rfl ?_
  refine Lr (T := T) (ab hy) rfl rfl rfl rfl ⟨rfl, rfl⟩ rfl rfl ?_
  refine G (T := T) 100005 rfl ?_
  refine (FzTo.bz 5 rfl).c ?_
  refine Ods (T := T) [0, 3, 4, 1, 2, 5, 6, 7, 8] rfl ?_
  refine G (T := T) 1000 rfl ?_
  refine Ck [0, 1, 2] (bM 3 (by omega) _ hc1) rfl rfl rfl rfl rfl rfl rfl ⟨⟨rfl, rfl⟩, rfl⟩ ?_
  rintro _ ⟨e, rfl, he⟩
  refine G (T := T) 52 rfl ?_
  refine Br (T := T) rfl rfl rfl rfl rfl ⟨rfl, rfl⟩ ?_
  refine G (T := T) 1000 rfl ?_
  refine Cx' [0, 1, 2] (fun a => mkQ c.l c.fs c.tn c.me a.1.vars (c.labels ++ [L]) a.1.lf a.1.mn a.1.ct 1 2) (ih (KW c ⟨c.vars, c.lf, c.mn, c.ct + 1⟩ (c.labels ++ [L])) V (deep + 1) hc1 hI0 hd (by show (c.labels ++ [L]).length + k ≤ 8; omega)) rfl rfl rfl rfl rfl rfl rfl ⟨⟨rfl, rfl⟩, rfl⟩ (fun _ => rfl) (fun _ => rfl) ?_
  rintro ⟨v, ss⟩ ⟨hI2, hS⟩; dsimp only at hI2 hS ⊢
  have hlen := hS.len
  have hmap : (ss.map smD).length = ss.length := List.length_map ..
  have hc2 := hc.kw hI2 hlb hll2
  refine G (T := T) 60 rfl ?_
  refine Ap (T := T) rfl (gw ss) rfl rfl rfl rfl rfl rfl ⟨rfl, rfl⟩ (by rw [List.length_map]; omega) (by rw [List.length_map]; omega) ?_
  refine G (T := T) 1000 rfl ?_
  refine Ck [0, 1, 2] (ay (c := KW c v (c.labels ++ [L])) hc2.hl hc2.hll (n := 2) (by omega) (by omega)) rfl rfl rfl rfl rfl rfl rfl ⟨⟨rfl, rfl⟩, rfl⟩ ?_
  rintro _ ⟨q3, rfl, _, _⟩
  refine G (T := T) 1000 rfl ?_
  have hif : SG 516 (ifS e [jumpS 7 y] []) := (k8 he (SGs.one (mQ (.inl rfl) hyl)) SGs.nil).mono (by rw [SB3]; omega)
  have hS2 := SGs.cons hif hS
  refine Cf [0, 4, 5] (fun (_ : Int × Nat × List (List D) × List Sm) r => r) (fun a => mkQ c.l c.fs c.tn c.me v.vars (c.labels ++ [L]) v.lf v.mn v.ct 1 1 ++ [smB 4 a.1 L .z (.l 6 1 11 0 a.2.1 a.2.1), ⟨6, 1, .row a.2.1 a.2.2.1 66 11⟩, smB 3 0 eS .z .z]) 7 (fun a => (a.1 = 5 ∨ a.1 = 6) ∧ a.2.1 = a.2.2.2.length ∧ a.2.2.1 = a.2.2.2.map smD ∧ SGs (ZB k + 600) a.2.2.2) rfl ?_ ?_
  · refine If rfl (fun h => ?_) (fun h => ?_)
    · refine G (T := T) 1000 rfl ?_
      refine Dn (5, _, _, (ifS e [jumpS 7 y] [] :: ss) ++ [jumpS 7 L]) ⟨.inl rfl, ?_, ?_, (hS2.snoc (mQ (.inl rfl) hln)).mono (by omega)⟩ ⟨⟨_, _, rfl, rfl⟩, rfl, rfl⟩
      · dsimp only; rw [List.length_map, List.length_append, List.length_cons]; simp only [List.length_cons, List.length_nil]; omega
      · dsimp only; rw [List.map_append]; rfl
    · refine G (T := T) 1000 rfl ?_
      refine Dn (6, _, _, ifS e [jumpS 7 y] [] :: ss) ⟨.inr rfl, ?_, ?_, hS2.mono (by omega)⟩ ⟨⟨_, _, rfl, rfl⟩, rfl, rfl⟩
      · dsimp only; rw [List.length_map, List.length_cons]; omega
      · rfl
  rintro ⟨kk, n, R, bs⟩ ⟨hkk, hn9, hR9, hS3⟩; dsimp only at hkk hn9 hR9 hS3 ⊢; subst hn9 hR9
  refine G (T := T) 85 rfl ?_
  refine Po (T := T) c.labels.length rfl rfl rfl rfl rfl rfl ⟨rfl, rfl⟩ (by rw [← e2]; omega) (by rw [← e2]; omega) rfl rfl ?_
  rw [show ((c.labels ++ [L]).map cu).take c.labels.length = c.labels.map cu by simp]
  refine G (T := T) 100011 rfl ?_
  refine Zc 6 rfl ?_
  refine G (T := T) 1000 rfl ?_
  refine Fm (T := T) id (xd [.c (.int .i64 kk), .c (.string L), .c (.int .i64 0), .c (.string eS), .c (.int .i64 0), .s [], .c (.int .u16 0), .s [], .s (bs.map smD), .s [], .s []]) (mkQ c.l c.fs c.tn c.me v.vars c.labels v.lf v.mn v.ct 1 1) ⟨(v, blkS kk L bs), ⟨hI2, (sg_loop hkk hln hS3).mono (by omega)⟩, ?_, rfl⟩ rfl
  dsimp only
  rw [blkS, aQ]
  rfl
end
section
open Go Go.RowKit Go.Proofs K
variable {pk : Pk}
def knd4 : List Int := [1, 1, 2, 3]
theorem knd4_get {q : Int} (h0 : 0 ≤ q) (h1 : q < 4) : ∃ j k, q = ((j : Nat) : Int) ∧ knd4[j]? = some k ∧ (k = 1 ∨ k = 2 ∨ k = 3) := by
  obtain ⟨j, rfl⟩ := Int.eq_ofNat_of_zero_le h0
  have : j = 0 ∨ j = 1 ∨ j = 2 ∨ j = 3 := by omega
  rcases this with rfl | rfl | rfl | rfl
  · exact ⟨0, 1, rfl, rfl, .inl rfl⟩
  · exact ⟨1, 1, rfl, rfl, .inl rfl⟩
  · exact ⟨2, 2, rfl, rfl, .inr (.inl rfl)⟩
  · exact ⟨3, 3, rfl, rfl, .inr (.inr rfl)⟩
abbrev StΦ (b : Bool) (c : KC) (V B : Nat) (r : XV) (hp' : XH) : Prop := ∃ a : KV × List Sm, (KI V a.1 ∧ SGs B a.2) ∧ r = cond b (xr (a.2.map smD)) (.a (.c (.l 3 1 11 0 a.2.length a.2.length))) ∧ hp' = cond b (mkQ c.l c.fs c.tn c.me a.1.vars c.labels a.1.lf a.1.mn a.1.ct 1 1) (mkQ c.l c.fs c.tn c.me a.1.vars c.labels a.1.lf a.1.mn a.1.ct 1 1 ++ [⟨3, 1, .row a.2.length (a.2.map smD) 66 11⟩])
theorem lc (b : Bool) (k : Nat) (ih0 : ∀ j, j < k → j ≤ 3 → kf pk j) (hk : k ≤ 3) (c : KC) (V deep : Nat) (hc : c.ok) (hI : KI V ⟨c.vars, c.lf, c.mn, c.ct⟩) (hd : deep + k = 4) (hlab : c.labels.length + k ≤ 8) : XM Tryz.prog pk 68 [pm, xi (deep : Nat)] (mkB c) 3 (cond b 3 4) (StΦ b c V (ZB k)) := by
  have ih1 : 1 ≤ k → kf pk (k - 1) := fun h => ih0 (k - 1) (by omega) (by omega)
  have hpb := PB_pos k
  have hpz := PB_le k
  have hzb := ZB_le (k := k) (by omega)
  have hzp : 1 ≤ k → PB k = 4 * ZB (k - 1) + 12000 ∧ ZB (k - 1) ≤ 10000000000 ∧ deep + 1 + (k - 1) = 4 := fun h => ⟨PB_pred h, ZB_le (by omega), by omega⟩
  have hme := hc.hme
  have hfl := hc.hfl
  have hV5 := hI.V5
  have hfm : (c.fs.map fuD).length = c.fs.length := List.length_map ..
  have b2 := SB2
  have b3 := SB3
  have b4 := SB4
  refine XM.en (hm := by cases b <;> rfl) Tryz.func68 Tryz.ntmps68 (fun w0 own H V' v0 hf => ?_)
  refine G (T := T) 1000 rfl ?_
  refine Ck [0, 1, 2] (ay hc.hl hc.hll (n := 4) (by omega) (by omega)) rfl rfl rfl rfl rfl rfl rfl ⟨⟨rfl, rfl⟩, rfl⟩ ?_
  rintro _ ⟨k0, rfl, k01, k02⟩
  refine G (T := T) 100003 rfl ?_
  refine (Nr 5 66 11 rfl rfl).c ?_
  refine G (T := T) 1000 rfl ?_
  refine Lq [0, 1, 6] (fun (q : Nat × KV × Nat × List (List D) × List Sm) r => (5, .a (.c (.l 3 1 11 0 q.2.2.1 q.2.2.1))) :: (7, xi (q.1 : Nat)) :: r) (fun q => mkQ c.l c.fs c.tn c.me q.2.1.vars c.labels q.2.1.lf q.2.1.mn q.2.1.ct 1 1 ++ [⟨3, 1, .row q.2.2.1 q.2.2.2.1 66 11⟩]) 4 (fun q => (q.1 : Int) ≤ 1 + k0 ∧ q.2.2.1 = q.2.2.2.2.length ∧ q.2.2.2.1 = q.2.2.2.2.map smD ∧ KI V q.2.1 ∧ SGs (q.1 * PB k) q.2.2.2.2) (fun q => 4 - q.1) (0, ⟨c.vars, c.lf, c.mn, c.ct⟩, 0, [], []) rfl ⟨by dsimp only; omega, rfl, rfl, hI, SGs.nil.mono (by omega)⟩ ?_
  rintro ⟨i, v, n, R, ss⟩ ⟨hi, hn9, hR9, hI2, hS⟩; dsimp only at hi hn9 hR9 hI2 hS ⊢; subst hn9 hR9
  have hvl := hI2.vl
  have hm8 := hI2.m8
  have hcl := hI2.cl
  have hi4 : i ≤ 4 := by omega
  have hpa := pb_all (k := k) hi4
  have hslen := hS.len
  have hmap : (ss.map smD).length = ss.length := List.length_map ..
  refine Gs (T := T) 1000 rfl ?_
  refine If rfl (fun h => ?_) (fun h => ?_)
  rotate_left
  · refine G (T := T) 100045 rfl ?_
    cases b with
    | true =>
      refine Zc 3 rfl ?_
      refine G (T := T) 1000 rfl ?_
      exact Fm (T := T) id (xr (ss.map smD)) (mkQ c.l c.fs c.tn c.me v.vars c.labels v.lf v.mn v.ct 1 1) ⟨(v, ss), ⟨hI2, hS.mono (by omega)⟩, rfl, rfl⟩ rfl
    | false =>
      refine G (T := T) 1000 rfl ?_
      exact Fm (T := T) id (.a (.c (.l 3 1 11 0 ss.length ss.length))) (mkQ c.l c.fs c.tn c.me v.vars c.labels v.lf v.mn v.ct 1 1 ++ [⟨3, 1, .row ss.length (ss.map smD) 66 11⟩]) ⟨(v, ss), ⟨hI2, hS.mono (by omega)⟩, rfl, rfl⟩ rfl
  · have hi1 := of_decide_eq_true (Bool.and_eq_true_iff.1 h).1
    have hlf := of_decide_eq_true (Bool.and_eq_true_iff.1 h).2
    refine G (T := T) 200001 rfl ?_
    refine Cf [0, 1, 6, 7] (fun (q : KV × Nat × List (List D) × List Sm) r => (5, .a (.c (.l 3 1 11 0 q.2.1 q.2.1))) :: r) (fun q => mkQ c.l c.fs c.tn c.me q.1.vars c.labels q.1.lf q.1.mn q.1.ct 1 1 ++ [⟨3, 1, .row q.2.1 q.2.2.1 66 11⟩]) 4 (fun q => q.2.1 = q.2.2.2.length ∧ q.2.2.1 = q.2.2.2.map smD ∧ KI V q.1 ∧ SGs ((i + 1) * PB k) q.2.2.2) rfl ?_ ?_
    rotate_left
    · rintro ⟨v2, n2, R2, ss2⟩ ⟨hn9, hR9, hI4, hS2⟩; dsimp only at hn9 hR9 hI4 hS2 ⊢
      refine G (T := T) 1000 rfl ?_
      exact Nq (i + 1, v2, n2, R2, ss2) ⟨by dsimp only; omega, hn9, hR9, hI4, hS2⟩ (by show 4 - (i + 1) < 4 - i; omega)
    refine G (T := T) 1000 rfl ?_
    rw [show (v.lf : Int) - 1 = ((v.lf - 1 : Nat) : Int) by omega]
    have hI3 : KI V ⟨v.vars, v.lf - 1, v.mn, v.ct⟩ := ⟨hI2.hv, by show v.vars.length + (v.lf - 1) ≤ V; omega, hI2.m8, by show v.ct + (v.lf - 1) ≤ 8; omega, hV5⟩
    have hc1 := hc.kw hI3 hc.hlb hc.hlbl
    refine Ck [0, 1, 2] (ay (c := KW c ⟨v.vars, v.lf - 1, v.mn, v.ct⟩ c.labels) hc1.hl hc1.hll (n := 18) (by omega) (by omega)) rfl rfl rfl rfl rfl rfl rfl ⟨⟨rfl, rfl⟩, rfl⟩ ?_
    rintro _ ⟨kk, rfl, _, _⟩
    have one : ∀ {B : Nat} {s : Sm}, SG B s → B ≤ PB k → SGs ((i + 1) * PB k) (ss ++ [s]) := fun h1 h2 => (hS.snoc h1).mono (pb_step h2)
    have l1 : ∀ s : Sm, ss.length + 1 = (ss ++ [s]).length := fun s => by simp
    refine Gs (T := T) 1000 rfl ?_
    refine If rfl (fun h => ?_) (fun h => ?_)
    · have h8 : v.mn < 8 := by have := of_decide_eq_true (Bool.and_eq_true_iff.1 h).2; omega
      have hvn := vN_loc (v.mn + 1) (by omega) (by omega)
      have hI5 : KI V ⟨v.vars, v.lf - 1, v.mn + 1, v.ct⟩ := ⟨hI3.hv, hI3.vl, by show v.mn + 1 ≤ 8; omega, hI3.cl, hV5⟩
      have hc2 := hc.kw hI5 hc.hlb hc.hlbl
      refine G (T := T) 1000 rfl ?_
      refine Cx' [0, 1, 2] (fun _ => mkQ c.l c.fs c.tn c.me v.vars c.labels (v.lf - 1) (v.mn + 1) v.ct 1 1) (nM (c := KW c ⟨v.vars, v.lf - 1, v.mn, v.ct⟩ c.labels) h8) rfl rfl rfl rfl rfl rfl rfl ⟨⟨rfl, rfl⟩, rfl⟩ (fun _ => rfl) (fun _ => rfl) ?_
      rintro _ -
      change (MS.r _ _ _ _ ⟨(57, xs (vN (v.mn + 1))) :: _, _, _⟩).ok _
      generalize vN (v.mn + 1) = N at hvn ⊢
      refine G (T := T) 1000 rfl ?_
      refine Ck [0, 1, 2] (ay (c := KW c ⟨v.vars, v.lf - 1, v.mn + 1, v.ct⟩ c.labels) hc2.hl hc2.hll (n := 4) (by omega) (by omega)) rfl rfl rfl rfl rfl rfl rfl ⟨⟨rfl, rfl⟩, rfl⟩ ?_
      rintro _ ⟨q, rfl, q1, q2⟩
      obtain ⟨j, tk, rfl, hj, htk⟩ := knd4_get q1 q2
      refine G (T := T) 61 rfl ?_
      refine Ix (T := T) (rows := knd4.map iM) j (ab hj) rfl rfl rfl rfl ⟨rfl, rfl⟩ rfl rfl ?_
      refine G (T := T) 100012 rfl ?_
      refine (FzTo.bz 4 rfl).c ?_
      refine G (T := T) 1000 rfl ?_
      refine Ck [0, 1, 2] (bM 4 (by omega) _ hc2) rfl rfl rfl rfl rfl rfl rfl ⟨⟨rfl, rfl⟩, rfl⟩ ?_
      rintro _ ⟨e, rfl, he⟩
      refine G (T := T) 1000 rfl ?_
      have e1 : v.vars.map cu ++ [[D.c (.string N)]] = (v.vars ++ [N]).map cu := by rw [List.map_append]; rfl
      have e2 : v.vars.length + 1 = (v.vars ++ [N]).length := by simp
      rw [e1, e2]
      have hT := tyk_G htk
      refine Dn (⟨v.vars ++ [N], v.lf - 1, v.mn + 1, v.ct⟩, _, _, ss ++ [letS N tk e]) ⟨l1 _, ?_, ⟨fun s hs => ?_, by show (v.vars ++ [N]).length + (v.lf - 1) ≤ V; omega, by show v.mn + 1 ≤ 8; omega, hI3.cl, hV5⟩, one (sg_let hvn hT.1 hT.2.1 hT.2.2 he) (by omega)⟩ ⟨⟨_, _, rfl, rfl⟩, rfl, rfl⟩
      · dsimp only; rw [List.map_append]; rfl
      · rcases List.mem_append.1 hs with hs | hs
        · exact hI2.hv s hs
        · rw [List.mem_singleton.1 hs]; exact hvn
    refine G (T := T) 1000 rfl ?_
    refine If rfl (fun h => ?_) (fun h => ?_)
    · refine G (T := T) 1000 rfl ?_
      refine Ck [0, 1, 2] (nL (d := 2) (bM 2 (by omega)) (by omega) hc1) rfl rfl rfl rfl rfl rfl rfl ⟨⟨rfl, rfl⟩, rfl⟩ ?_
      rintro _ ⟨a, rfl, ha⟩
      refine G (T := T) 1000 rfl ?_
      refine Ck [0, 1, 2] (bM 4 (by omega) _ hc1) rfl rfl rfl rfl rfl rfl rfl ⟨⟨rfl, rfl⟩, rfl⟩ ?_
      rintro _ ⟨e, rfl, he⟩
      refine G (T := T) 1000 rfl ?_
      refine Dn (⟨v.vars, v.lf - 1, v.mn, v.ct⟩, _, _, ss ++ [.mk 2 eS ty4z 0 [a, e] [] [] []]) ⟨l1 _, ?_, hI3, one (sg_asg ha he) (by omega)⟩ ⟨⟨_, _, rfl, rfl⟩, rfl, rfl⟩
      dsimp only; rw [List.map_append]; rfl
    refine Gs (T := T) 1000 rfl ?_
    refine If rfl (fun h => ?_) (fun h => ?_)
    · have hk1 : 1 ≤ k := by have := of_decide_eq_true (Bool.and_eq_true_iff.1 h).2; omega
      obtain ⟨p1, p2, p3⟩ := hzp hk1
      refine G (T := T) 1000 rfl ?_
      refine Ck [0, 1, 2] (bM 3 (by omega) _ hc1) rfl rfl rfl rfl rfl rfl rfl ⟨⟨rfl, rfl⟩, rfl⟩ ?_
      rintro _ ⟨e, rfl, he⟩
      refine G (T := T) 1000 rfl ?_
      refine Cx' [0, 1, 2] (fun a => mkQ c.l c.fs c.tn c.me a.1.vars c.labels a.1.lf a.1.mn a.1.ct 2 2) (ih1 hk1 (KW c ⟨v.vars, v.lf - 1, v.mn, v.ct⟩ c.labels) V (deep + 1) hc1 hI3 p3 (by show c.labels.length + (k - 1) ≤ 8; omega)) rfl rfl rfl rfl rfl rfl rfl ⟨⟨rfl, rfl⟩, rfl⟩ (fun _ => rfl) (fun _ => rfl) ?_
      rintro ⟨v2, bs⟩ ⟨hI4, hS2⟩; dsimp only at hI4 hS2 ⊢
      have hc2 := hc.kw hI4 hc.hlb hc.hlbl
      refine G (T := T) 1000 rfl ?_
      refine Ck [0, 1, 2] (ay (c := KW c v2 c.labels) hc2.hl hc2.hll (n := 2) (by omega) (by omega)) rfl rfl rfl rfl rfl rfl rfl ⟨⟨rfl, rfl⟩, rfl⟩ ?_
      rintro _ ⟨q3, rfl, _, _⟩
      refine G (T := T) 1000 rfl ?_
      refine If rfl (fun h => ?_) (fun h => ?_)
      · refine G (T := T) 1000 rfl ?_
        refine Cx' [0, 1, 2] (fun a => mkQ c.l c.fs c.tn c.me a.1.vars c.labels a.1.lf a.1.mn a.1.ct 3 3) (ih1 hk1 (KW c v2 c.labels) V (deep + 1) hc2 hI4 p3 (by show c.labels.length + (k - 1) ≤ 8; omega)) rfl rfl rfl rfl rfl rfl rfl ⟨⟨rfl, rfl⟩, rfl⟩ (fun _ => rfl) (fun _ => rfl) ?_
        rintro ⟨v3, es⟩ ⟨hI5, hS3⟩; dsimp only at hI5 hS3 ⊢
        refine G (T := T) 1000 rfl ?_
        refine Dn (v3, _, _, ss ++ [ifS e bs es]) ⟨l1 _, ?_, hI5, one (k8 he hS2 hS3) (by omega)⟩ ⟨⟨_, _, rfl, rfl⟩, rfl, rfl⟩
        dsimp only; rw [List.map_append, List.map_singleton, ifS, aQ]; rfl
      · refine G (T := T) 1000 rfl ?_
        refine Dn (v2, _, _, ss ++ [ifS e bs []]) ⟨l1 _, ?_, hI4, one (k8 he hS2 SGs.nil) (by omega)⟩ ⟨⟨_, _, rfl, rfl⟩, rfl, rfl⟩
        dsimp only; rw [List.map_append, List.map_singleton, ifS, aQ]; rfl
    refine Gs (T := T) 1000 rfl ?_
    refine If rfl (fun h => ?_) (fun h => ?_)
    · have h8 : v.mn < 8 := by have := of_decide_eq_true (Bool.and_eq_true_iff.1 h).2; omega
      have hk1 : 1 ≤ k := by have := of_decide_eq_true (Bool.and_eq_true_iff.1 (Bool.and_eq_true_iff.1 h).1).2; omega
      obtain ⟨p1, p2, p3⟩ := hzp hk1
      refine G (T := T) 1000 rfl ?_
      refine Cx' [0, 1, 2] (fun a => mkQ c.l c.fs c.tn c.me a.1.vars c.labels a.1.lf a.1.mn a.1.ct 2 2) (oM (ih1 hk1) (by omega) hc1 hI3 (by show v.vars.length + (v.lf - 1) + 1 ≤ V; omega) (by show v.ct + (v.lf - 1) + 1 ≤ 8; omega) h8 p3 (by show c.labels.length + (k - 1) + 1 ≤ 8; omega)) rfl rfl rfl rfl rfl rfl rfl ⟨⟨rfl, rfl⟩, rfl⟩ (fun _ => rfl) (fun _ => rfl) ?_
      rintro ⟨v2, bs⟩ ⟨hI4, hS2⟩; dsimp only at hI4 hS2 ⊢
      have hblen := hS2.len
      refine G (T := T) 142 rfl ?_
      refine Ap (T := T) rfl (gw bs) rfl rfl rfl rfl rfl rfl ⟨rfl, rfl⟩ (by rw [List.length_map]; omega) (by rw [List.length_map]; omega) ?_
      refine G (T := T) 1000 rfl ?_
      refine Dn (v2, _, _, ss ++ bs) ⟨by dsimp only; rw [List.length_map, List.length_append], ?_, hI4, (hS.append hS2).mono (pb_step (by omega))⟩ ⟨⟨_, _, rfl, rfl⟩, rfl, rfl⟩
      dsimp only; rw [List.map_append]
    refine Gs (T := T) 1000 rfl ?_
    refine If rfl (fun h => ?_) (fun h => ?_)
    · have hk1 : 1 ≤ k := by have := of_decide_eq_true (Bool.and_eq_true_iff.1 h).2; omega
      obtain ⟨p1, p2, p3⟩ := hzp hk1
      refine G (T := T) 1000 rfl ?_
      refine Cx' [0, 1, 2] (fun a => mkQ c.l c.fs c.tn c.me a.1.vars c.labels a.1.lf a.1.mn a.1.ct 2 2) (nN (ih1 hk1) (by omega) hc1 hI3 (by show v.ct + (v.lf - 1) + 1 ≤ 8; omega) p3 (by show c.labels.length + (k - 1) + 1 ≤ 8; omega)) rfl rfl rfl rfl rfl rfl rfl ⟨⟨rfl, rfl⟩, rfl⟩ (fun _ => rfl) (fun _ => rfl) ?_
      rintro ⟨v2, s⟩ ⟨hI4, hS2⟩; dsimp only at hI4 hS2 ⊢
      refine G (T := T) 1000 rfl ?_
      refine Dn (v2, _, _, ss ++ [s]) ⟨l1 _, ?_, hI4, one hS2 (by omega)⟩ ⟨⟨_, _, rfl, rfl⟩, rfl, rfl⟩
      dsimp only; rw [List.map_append]; rfl
    refine Gs (T := T) 1000 rfl ?_
    refine If rfl (fun h => ?_) (fun h => ?_)
    · have hk1 : 1 ≤ k := by have := of_decide_eq_true (Bool.and_eq_true_iff.1 h).2; omega
      obtain ⟨p1, p2, p3⟩ := hzp hk1
      have sz0 : PB k = 4 * ZB (k - 1) + 12000 := p1
      refine G (T := T) 1000 rfl ?_
      refine Ck [0, 1, 2] (bM 3 (by omega) _ hc1) rfl rfl rfl rfl rfl rfl rfl ⟨⟨rfl, rfl⟩, rfl⟩ ?_
      rintro _ ⟨e, rfl, he⟩
      refine G (T := T) 1000 rfl ?_
      refine Cq (bA (n := 3) (by omega) (by omega)) rfl rfl rfl rfl rfl ⟨rfl, rfl⟩ ?_
      refine G (T := T) 1000 rfl ?_
      refine Cq (bB ⟨#[38]⟩ e (d9 3)) rfl rfl rfl rfl rfl ⟨rfl, rfl⟩ ?_
      refine G (T := T) 1000 rfl ?_
      have hsw : EG 514 (iN ⟨#[38]⟩ e (d9 3)) := (eE (by decide) he (fA (by omega) (by omega))).mono (by omega)
      generalize iN ⟨#[38]⟩ e (d9 3) = sw at hsw ⊢
      refine Ck [0, 1, 2] (ay (c := KW c ⟨v.vars, v.lf - 1, v.mn, v.ct⟩ c.labels) hc1.hl hc1.hll (n := 3) (by omega) (by omega)) rfl rfl rfl rfl rfl rfl rfl ⟨⟨rfl, rfl⟩, rfl⟩ ?_
      rintro _ ⟨q3, rfl, q31, q32⟩
      refine G (T := T) 100030 rfl ?_
      refine (Nrh 4 10 63 1 rfl rfl rfl rfl rfl).c ?_
      refine G (T := T) 1000 rfl ?_
      refine Lq [0, 1, 5, 6, 7, 13, 14] (fun (q : Nat × KV × Nat × List (List D) × List (List Sm)) r => (15, xi (q.1 : Nat)) :: r) (fun q => mkQ c.l c.fs c.tn c.me q.2.1.vars c.labels q.2.1.lf q.2.1.mn q.2.1.ct 1 1 ++ [⟨3, 1, .row ss.length (ss.map smD) 66 11⟩, ⟨4, 0, .cells [.d (.c (.int .i64 9)), .d (.c (.string eS)), .d (.c (.int .i64 0)), .d (.c (.string eS)), .d (.c (.int .i64 0)), .z, .d (.c (.int .u16 0)), .d (.s [exD sw]), .z, .z, .l 5 1 1 0 q.2.2.1 q.2.2.1] 66⟩, ⟨5, 1, .row q.2.2.1 q.2.2.2.1 63 1⟩]) 6 (fun q => (q.1 : Int) ≤ 1 + q3 ∧ q.2.2.1 = q.2.2.2.2.length ∧ q.2.2.2.1 = q.2.2.2.2.map blD ∧ KI V q.2.1 ∧ SGc (q.1 * (ZB (k - 1) + 1)) q.2.2.2.2) (fun q => 3 - q.1) (0, ⟨v.vars, v.lf - 1, v.mn, v.ct⟩, 0, [], []) rfl ⟨by dsimp only; omega, rfl, rfl, hI3, SGc.nil.mono (by omega)⟩ ?_
      rintro ⟨j, v2, n2, R2, cs⟩ ⟨hj, hn9, hR9, hI4, hC⟩; dsimp only at hj hn9 hR9 hI4 hC ⊢; subst hn9 hR9
      have hc2 := hc.kw hI4 hc.hlb hc.hlbl
      have hcl2 : cs.length ≤ 3 * (ZB (k - 1) + 1) := by
        have := Sm.clen_le cs
        have := hC.s
        have := Nat.mul_le_mul_right (ZB (k - 1) + 1) (show j ≤ 3 by omega)
        omega
      refine G (T := T) 1000 rfl ?_
      refine If rfl (fun h => ?_) (fun h => ?_)
      · have hj1 := of_decide_eq_true h
        refine G (T := T) 1000 rfl ?_
        refine Cx' [0, 1, 2] (fun a => mkQ c.l c.fs c.tn c.me a.1.vars c.labels a.1.lf a.1.mn a.1.ct 2 2) (ih1 hk1 (KW c v2 c.labels) V (deep + 1) hc2 hI4 p3 (by show c.labels.length + (k - 1) ≤ 8; omega)) rfl rfl rfl rfl rfl rfl rfl ⟨⟨rfl, rfl⟩, rfl⟩ (fun _ => rfl) (fun _ => rfl) ?_
        rintro ⟨v3, bs⟩ ⟨hI5, hS3⟩; dsimp only at hI5 hS3 ⊢
        refine G (T := T) 1000 rfl ?_
        refine Nq (j + 1, v3, _, _, cs ++ [bs]) ⟨by dsimp only; omega, ?_, ?_, hI5, (hC.snoc hS3).mono (by rw [Nat.add_mul]; omega)⟩ (by show 3 - (j + 1) < 3 - j; omega) ⟨⟨_, _, rfl, rfl⟩, rfl, rfl⟩
        · dsimp only; rw [List.length_append]; rfl
        · dsimp only; rw [List.map_append]; rfl
      · have hj3 : j ≤ 3 := by omega
        refine G (T := T) 1000 rfl ?_
        refine Cx' [0, 1, 2] (fun a => mkQ c.l c.fs c.tn c.me a.1.vars c.labels a.1.lf a.1.mn a.1.ct 2 2) (ih1 hk1 (KW c v2 c.labels) V (deep + 1) hc2 hI4 p3 (by show c.labels.length + (k - 1) ≤ 8; omega)) rfl rfl rfl rfl rfl rfl rfl ⟨⟨rfl, rfl⟩, rfl⟩ (fun _ => rfl) (fun _ => rfl) ?_
        rintro ⟨v3, es⟩ ⟨hI5, hS3⟩; dsimp only at hI5 hS3 ⊢
        refine G (T := T) 192 rfl ?_
        refine Zr 5 rfl ?_
        refine G (T := T) 1000 rfl ?_
        refine Dn (v3, _, _, ss ++ [.mk 9 eS ty4z 0 [sw] [] es cs]) ⟨l1 _, ?_, hI5, one (sg_switch hsw hS3 hC) (nJ sz0 hj3 (by omega))⟩ ⟨⟨_, _, rfl, rfl⟩, rfl, rfl⟩
        dsimp only; rw [List.map_append, List.map_singleton, aQ]; rfl
    have happ : ∀ s : Sm, ss.map smD ++ [smD s] = (ss ++ [s]).map smD := fun s => by rw [List.map_append]; rfl
    let HP : XH := mkQ c.l c.fs c.tn c.me v.vars c.labels (v.lf - 1) v.mn v.ct 1 1 ++ [⟨3, 1, .row ss.length (ss.map smD) 66 11⟩]
    refine G (T := T) 100036 rfl ?_
    refine Cu [0, 1, 5, 6, 7, 8] (fun (_ : Unit) r => (195, xb (decide (kk = 11) && decide ((c.me : Int) + 1 < ((c.fs.map fuD).length : Int)))) :: r) (fun _ => HP) 4 (fun _ => True) rfl ?_ ?_
    · refine G (T := T) 199 rfl ?_
      refine Sp 198 rfl (fun h => ?_) (fun h => ?_)
      · refine G (T := T) 1000 rfl ?_
        rw [h, Bool.true_and]
        exact Dn () trivial
      · refine G (T := T) 1000 rfl ?_
        rw [h, Bool.false_and]
        exact Dn () trivial
    rintro _ -
    refine If rfl (fun h => ?_) (fun h => ?_)
    · have h9 := (Bool.and_eq_true_iff.1 h).2
      have hlen := of_decide_eq_true h9
      have hlen2 := hlen
      rw [List.length_map] at hlen2
      refine G (T := T) 100037 rfl ?_
      refine Ods (T := T) [0, 1, 2, 3, 4, 5, 6, 7, 8, 9, 10, 11, 12, 13, 14, 15, 16, 17, 18, 19, 20, 25, 21, 22, 23, 24, 26] rfl ?_
      refine G (T := T) 1000 rfl ?_
      refine Ck [0, 1, 2] (ay (c := KW c ⟨v.vars, v.lf - 1, v.mn, v.ct⟩ c.labels) hc1.hl hc1.hll (n := ((c.fs.map fuD).length : Int) - (c.me : Int) - 1) (by omega) (by rw [List.length_map]; omega)) rfl rfl rfl rfl rfl rfl rfl ⟨⟨rfl, rfl⟩, rfl⟩ ?_
      rintro _ ⟨q, rfl, q1, q2⟩
      rw [List.length_map] at q2
      obtain ⟨j, rfl⟩ := Int.eq_ofNat_of_zero_le q1
      obtain ⟨f, hf9⟩ := ae (l := c.fs) (j := c.me + 1 + j) (by omega)
      have hF := hc.hf f (List.mem_of_getElem? hf9)
      refine G (T := T) 234 rfl ?_
      refine Ix (T := T) (c.me + 1 + j) (ab hf9) rfl rfl rfl rfl ⟨rfl, rfl⟩ (by push_cast; rfl) rfl ?_
      refine G (T := T) 1000 rfl ?_
      refine Ck [0, 1, 2] (mk_call (d := 2) (bM 2 (by omega)) (by omega) hc1 hF) rfl rfl rfl rfl rfl rfl rfl ⟨⟨rfl, rfl⟩, rfl⟩ ?_
      rintro _ ⟨e, rfl, he⟩
      refine G (T := T) 1000 rfl ?_
      refine Dn (⟨v.vars, v.lf - 1, v.mn, v.ct⟩, _, _, ss ++ [.mk 14 eS ty4z 0 [e] [] [] []]) ⟨l1 _, ?_, hI3, one (sg_do he) (by omega)⟩ ⟨⟨_, _, rfl, rfl⟩, rfl, rfl⟩
      exact happ (.mk 14 eS ty4z 0 [e] [] [] [])
    refine Gs (T := T) 1000 rfl ?_
    refine If rfl (fun h => ?_) (fun h => ?_)
    · refine G (T := T) 1000 rfl ?_
      refine Dn (⟨v.vars, v.lf - 1, v.mn, v.ct⟩, _, _, ss ++ [.mk 12 eS ty4z 0 [] [] [] []]) ⟨l1 _, ?_, hI3, one (sg_mark (.inl rfl)) (by omega)⟩ ⟨⟨_, _, rfl, rfl⟩, rfl, rfl⟩
      exact happ (.mk 12 eS ty4z 0 [] [] [] [])
    refine G (T := T) 100041 rfl ?_
    refine Cu [0, 1, 5, 6, 7, 8] (fun (b : Bool) r => (258, xb b) :: r) (fun _ => HP) 4 (fun _ => True) rfl ?_ ?_
    · refine G (T := T) 262 rfl ?_
      refine Sp 261 rfl (fun h => ?_) (fun h => ?_)
      · refine G (T := T) 1000 rfl ?_
        refine Ck [0, 1, 2] (ay (c := KW c ⟨v.vars, v.lf - 1, v.mn, v.ct⟩ c.labels) hc1.hl hc1.hll (n := 3) (by omega) (by omega)) rfl rfl rfl rfl rfl rfl rfl ⟨⟨rfl, rfl⟩, rfl⟩ ?_
        rintro _ ⟨q, rfl, q1, q2⟩
        refine G (T := T) 1000 rfl ?_
        exact Dn (decide (q = 0)) trivial
      · refine G (T := T) 1000 rfl ?_
        exact Dn false trivial
    rintro b13 -
    refine If rfl (fun h => ?_) (fun h => ?_)
    · refine G (T := T) 1000 rfl ?_
      refine Ck [0, 1, 2] (bM 2 (by omega) _ hc1) rfl rfl rfl rfl rfl rfl rfl ⟨⟨rfl, rfl⟩, rfl⟩ ?_
      rintro _ ⟨e, rfl, he⟩
      refine G (T := T) 1000 rfl ?_
      refine Ck [0, 1, 2] (mk_giving hc1) rfl rfl rfl rfl rfl rfl rfl ⟨⟨rfl, rfl⟩, rfl⟩ ?_
      rintro _ ⟨s, rfl, hs⟩
      refine G (T := T) 1000 rfl ?_
      refine Dn (⟨v.vars, v.lf - 1, v.mn, v.ct⟩, _, _, ss ++ [ifS e [s] []]) ⟨l1 _, ?_, hI3, one (k8 he (SGs.one hs) SGs.nil) (by omega)⟩ ⟨⟨_, _, rfl, rfl⟩, rfl, rfl⟩
      exact happ (ifS e [s] [])
    refine G (T := T) 100043 rfl ?_
    refine Cu [0, 1, 5, 6, 7, 8] (fun (b : Bool) r => (276, xb b) :: r) (fun _ => HP) 4 (fun _ => True) rfl ?_ ?_
    · refine G (T := T) 280 rfl ?_
      refine Sp 279 rfl (fun h => ?_) (fun h => ?_)
      · refine G (T := T) 1000 rfl ?_
        refine Ck [0, 1, 2] (ay (c := KW c ⟨v.vars, v.lf - 1, v.mn, v.ct⟩ c.labels) hc1.hl hc1.hll (n := 6) (by omega) (by omega)) rfl rfl rfl rfl rfl rfl rfl ⟨⟨rfl, rfl⟩, rfl⟩ ?_
        rintro _ ⟨q, rfl, q1, q2⟩
        refine G (T := T) 1000 rfl ?_
        exact Dn (decide (q = 1)) trivial
      · refine G (T := T) 1000 rfl ?_
        exact Dn false trivial
    rintro b14 -
    refine If rfl (fun h => ?_) (fun h => ?_)
    · refine G (T := T) 1000 rfl ?_
      refine Ck [0, 1, 2] (bM 2 (by omega) _ hc1) rfl rfl rfl rfl rfl rfl rfl ⟨⟨rfl, rfl⟩, rfl⟩ ?_
      rintro _ ⟨e, rfl, he⟩
      refine G (T := T) 1000 rfl ?_
      refine Dn (⟨v.vars, v.lf - 1, v.mn, v.ct⟩, _, _, ss ++ [ifS e [.mk 13 eS ty4z 0 [] [] [] []] []]) ⟨l1 _, ?_, hI3, one (k8 he (SGs.one (sg_mark (.inr rfl))) SGs.nil) (by omega)⟩ ⟨⟨_, _, rfl, rfl⟩, rfl, rfl⟩
      exact happ (ifS e [.mk 13 eS ty4z 0 [] [] [] []] [])
    refine G (T := T) 1000 rfl ?_
    refine Ck [0, 1, 2] (k9 hc1) rfl rfl rfl rfl rfl rfl rfl ⟨⟨rfl, rfl⟩, rfl⟩ ?_
    rintro _ ⟨s, rfl, hs⟩
    refine G (T := T) 1000 rfl ?_
    refine Dn (⟨v.vars, v.lf - 1, v.mn, v.ct⟩, _, _, ss ++ [s]) ⟨l1 _, ?_, hI3, one hs (by omega)⟩ ⟨⟨_, _, rfl, rfl⟩, rfl, rfl⟩
    exact happ s
theorem mk_stmts : ∀ k, k ≤ 3 → kf pk k := by
  intro k
  induction k using Nat.strongRecOn with
  | _ k ih => exact fun hk c V deep hc hI hd hlab => lc true k ih hk c V deep hc hI hd hlab
end
section
open Go Go.RowKit Go.Proofs K
variable {pk : Pk}
abbrev mkRx (a b c d : Nat) (l : List Int) (n : Nat) (R : List (List D)) (tn t3 : Nat) : XH := [⟨a, 0, .cells [.d (.s (l.map iM)), .w (atP l), .d (.c (.int .i64 (tn : Int))), .d (.c (.int .i64 0)), .w ndP, .l b 0 1 0 0 0, .d (.c (.int .i64 0)), .l c 0 1 0 0 0, .d (.c (.int .i64 0)), .d (.c (.int .i64 0)), .l d t3 10 0 n n] 138⟩,
  ⟨b, 0, .row 0 [] 9 1⟩, ⟨c, 0, .row 0 [] 9 1⟩, ⟨d, t3, .row n R 71 10⟩]
abbrev mkRn (a b c d : Nat) (l : List Int) (fs : List Fu) (tn t3 : Nat) : XH := mkRx a b c d l fs.length (fs.map fuD) tn t3
abbrev mkR (l : List Int) (fs : List Fu) (tn t3 : Nat) : XH := mkRn 0 1 2 3 l fs tn t3
theorem c7 {l : List Int} {fs : List Fu} {tn : Nat} (h1 : ∀ n ∈ l, I64 n) (h2 : l.length ≤ 1000000) {n : Int} (hn : 0 < n) (hn2 : n ≤ 1000000) : XKp Tryz.prog pk 65 [pm, xi n] (mkR l fs tn 0) 4 (fun r => ∃ k : Int, r = xi k ∧ 0 ≤ k ∧ k < n) := by
  refine XM.en Tryz.func65 Tryz.ntmps65 (fun w0 own H V v0 hf => ?_)
  refine G (T := T) 100001 rfl ?_
  refine Op 0 1 rfl rfl ?_
  rintro _ ⟨a, ha, rfl⟩
  refine ⟨_, _, rfl, rfl, ?_⟩
  refine G (T := T) 1000 rfl ?_
  refine If rfl (fun h => ?_) (fun h => ?_)
  · refine G (T := T) 1000 rfl ?_
    refine (SRto.wk 0 1 (atP l) rfl rfl rfl rfl ⟨a, ha, rfl⟩).e ?_
    exact Fm (T := T) id (xi 0) (mkR l fs tn 0) ⟨⟨0, rfl, Int.le_refl _, hn⟩, rfl⟩ rfl
  · have hlt := of_decide_eq_false h; rw [List.length_map] at hlt
    obtain ⟨y, hy⟩ := ae (l := l) (j := a) (by omega)
    refine G (T := T) 1000 rfl ?_
    refine Ix (T := T) a (ab hy) rfl rfl rfl rfl ⟨rfl, rfl⟩ (by omega) rfl ?_
    refine G (T := T) 1000 rfl ?_
    refine Cq (ref_Mod hn hn2) rfl rfl rfl rfl rfl ⟨rfl, rfl⟩ ?_
    refine G (T := T) 1000 rfl ?_
    refine (SRto.wk 0 1 (atP l) rfl rfl rfl rfl ⟨a + 1, by omega, by push_cast; rfl⟩).e ?_
    have := modR_in (n := y) hn
    exact Fm (T := T) id (xi (modR y n)) (mkR l fs tn 0) ⟨⟨_, rfl, this.1, this.2⟩, rfl⟩ rfl
def sig3 : List Ty4 := [.mk 1 eS 0 [], .mk 3 eS 0 [], .mk 2 eS 0 []]
def abc3 : List ByteArray := [⟨#[97]⟩, ⟨#[98]⟩, ⟨#[99]⟩]
theorem nO {q : Int} (h0 : 0 ≤ q) (h1 : q < 3) : ∃ j k, q = ((j : Nat) : Int) ∧ sig3[j]? = some (.mk k eS 0 []) ∧ (k = 1 ∨ k = 2 ∨ k = 3) := by
  obtain ⟨j, rfl⟩ := Int.eq_ofNat_of_zero_le h0
  have : j = 0 ∨ j = 1 ∨ j = 2 := by omega
  rcases this with rfl | rfl | rfl
  · exact ⟨0, 1, rfl, rfl, .inl rfl⟩
  · exact ⟨1, 3, rfl, rfl, .inr (.inr rfl)⟩
  · exact ⟨2, 2, rfl, rfl, .inr (.inl rfl)⟩
def PrG' (p : Par) : Prop := dB p.nm = true ∧ rTy p.ty = true ∧ p.ty.ok ∧ p.ty.size ≤ 8
theorem parP_G' : PrG' ⟨⟨#[112]⟩, .mk 6 eS 0 [.mk 4 ⟨#[83]⟩ 0 []]⟩ := ⟨by decide +kernel, by decide +kernel, ⟨⟨by omega, by omega⟩, by decide, ⟨by omega, by omega⟩, ⟨⟨by omega, by omega⟩, by decide, ⟨by omega, by omega⟩, trivial⟩, trivial⟩, by simp [Ty4.size, Ty4.sizes]⟩
theorem tyk_P {k : Int} {s : ByteArray} (hs : dB s = true) (h : k = 1 ∨ k = 2 ∨ k = 3) : PrG' ⟨s, .mk k eS 0 []⟩ := by
  obtain ⟨h1, h2, h3⟩ := tyk_G h
  exact ⟨hs, h1, h2, Nat.le_trans h3 (by omega)⟩
abbrev fuB (g : Nat) (nm : ByteArray) (ps : XC) (k : Int) : XB := ⟨g, 0, .cells [.d (.c (.string nm)), ps, .d (.c (.int .i64 k)), .d (.c (.string eS)), .d (.c (.int .i64 0)), .z, .z, .d (.c (.bool false)), .d (.c (.int .i64 0)), .d (.c (.int .u16 0))] 71⟩
abbrev fuB' (g : Nat) (nm : ByteArray) (ps : XC) (k : Int) (z : XC) : XB := ⟨g, 0, .cells [.d (.c (.string nm)), ps, .d (.c (.int .i64 k)), .d (.c (.string eS)), .d (.c (.int .i64 0)), z, .z, .d (.c (.bool false)), .d (.c (.int .i64 0)), .d (.c (.int .u16 0))] 71⟩
theorem paDs_snoc (l : List Par) (p : Par) : l.map paD ++ [paD p] = (l ++ [p]).map paD := by rw [List.map_append]; rfl
theorem mT {l : List Int} {fs : List Fu} {tn : Nat} (h1 : ∀ n ∈ l, I64 n) (h2 : l.length ≤ 1000000) (nm : ByteArray) :
    XS' Tryz.prog pk 67 [pm, .a (.c (.p 4 0 0))] (mkR l fs tn 0 ++ [fuB 4 nm .z 7]) 5 (fun a : List Par × Int × Bool => (∀ p ∈ a.1, PrG' p) ∧ a.1.length ≤ 3 ∧ (a.2.1 = 1 ∨ a.2.1 = 2 ∨ a.2.1 = 3 ∨ a.2.1 = 7)) (fun _ => .t []) (fun a => mkR l fs tn 0 ++ [fuB' 4 nm (.d (.s (a.1.map paD))) a.2.1 (cond a.2.2 .z (.d (.s [])))]) := by
  refine XM.en Tryz.func67 Tryz.ntmps67 (fun w0 own H V v0 hf => ?_)
  refine G (T := T) 1000 rfl ?_
  refine Ck [0, 1, 2, 3] (c7 (fs := fs) (tn := tn) h1 h2 (n := 5) (by omega) (by omega)) rfl rfl rfl rfl rfl rfl rfl ⟨⟨rfl, rfl⟩, rfl⟩ ?_
  rintro _ ⟨k0, rfl, k01, k02⟩
  refine G (T := T) 100002 rfl ?_
  refine (Nrh 4 1 83 5 rfl rfl rfl rfl rfl).c ?_
  refine Gs (T := T) 1000 rfl ?_
  refine Cf [0, 1, 4] (fun (q : Int × Nat × List (List D) × List Par) r => (5, xi q.1) :: r) (fun q => mkR l fs tn 0 ++ [fuB 4 nm (.l 5 1 5 0 q.2.1 q.2.1) 7, ⟨5, 1, .row q.2.1 q.2.2.1 83 5⟩]) 6 (fun q => 0 ≤ q.1 ∧ q.1 ≤ 4 ∧ q.2.1 = q.2.2.2.length ∧ q.2.2.1 = q.2.2.2.map paD ∧ (∀ p ∈ q.2.2.2, PrG' p) ∧ (q.2.2.2 = [] ∨ q.1 = 1 ∧ q.2.2.2.length = 1)) rfl ?_ ?_
  · refine If rfl (fun h => ?_) (fun h => ?_)
    · refine G (T := T) 1000 rfl ?_
      exact Dn (1, 0 + 1, _, [⟨⟨#[112]⟩, .mk 6 eS 0 [.mk 4 ⟨#[83]⟩ 0 []]⟩]) ⟨by dsimp only; omega, by dsimp only; omega, rfl, rfl, fun p hp => by rw [List.mem_singleton.1 hp]; exact parP_G', .inr ⟨rfl, rfl⟩⟩
    · refine G (T := T) 1000 rfl ?_
      exact Dn (k0, 0, [], []) ⟨k01, by dsimp only; omega, rfl, rfl, fun p hp => (by cases hp), .inl rfl⟩
  rintro ⟨k, n, R, ps⟩ ⟨hk0, hk4, hn9, hR9, hG, hp1⟩; dsimp only at hk0 hk4 hn9 hR9 hG hp1 ⊢; subst hn9 hR9
  have hmod : 0 ≤ k.tmod 4 ∧ k.tmod 4 ≤ 3 := ⟨Int.tmod_nonneg 4 hk0, by have := Int.tmod_lt_of_pos k (show (0 : Int) < 4 by omega); omega⟩
  have hone : k = 1 → k.tmod 4 = 1 := fun h => by subst h; rfl
  have hbase : ps.length + (k.tmod 4).toNat ≤ 3 := by
    rcases hp1 with rfl | ⟨q1, q2⟩
    · simp only [List.length_nil]; omega
    · rw [q2, hone q1]; decide
  refine G (T := T) 1000 rfl ?_
  refine Lq [0, 1, 4, 5] (fun (q : Nat × Nat × List (List D) × List Par) r => (6, xi (q.1 : Nat)) :: r) (fun q => mkR l fs tn 0 ++ [fuB 4 nm (.l 5 1 5 0 q.2.1 q.2.1) 7, ⟨5, 1, .row q.2.1 q.2.2.1 83 5⟩]) 6 (fun q => (q.1 : Int) ≤ k.tmod 4 ∧ q.2.1 = q.2.2.2.length ∧ q.2.2.1 = q.2.2.2.map paD ∧ (∀ p ∈ q.2.2.2, PrG' p) ∧ q.2.2.2.length = ps.length + q.1) (fun q => 3 - q.1) (0, ps.length, ps.map paD, ps) rfl ⟨hmod.1, rfl, rfl, hG, rfl⟩ ?_
  rintro ⟨i, n, R, qs⟩ ⟨hi, hn9, hR9, hG2, hl⟩; dsimp only at hi hn9 hR9 hG2 hl ⊢; subst hn9 hR9
  refine G (T := T) 1000 rfl ?_
  refine If rfl (fun h => ?_) (fun h => ?_)
  · have hi1 := of_decide_eq_true h
    obtain ⟨y, hy⟩ := ae (l := abc3) (j := i) (by show i < 3; omega)
    have hyl : dB y = true := by
      have : ∀ s ∈ abc3, dB s = true := by decide
      exact this y (List.mem_of_getElem? hy)
    refine G (T := T) 49 rfl ?_
    refine Ix (T := T) (rows := abc3.map cu) i (ab hy) rfl rfl rfl rfl ⟨rfl, rfl⟩ rfl rfl ?_
    refine G (T := T) 1000 rfl ?_
    refine Ck [0, 1, 2, 3] (c7 (fs := fs) (tn := tn) h1 h2 (n := 3) (by omega) (by omega)) rfl rfl rfl rfl rfl rfl rfl ⟨⟨rfl, rfl⟩, rfl⟩ ?_
    rintro _ ⟨q, rfl, q1, q2⟩
    obtain ⟨j, tk, rfl, hj, htk⟩ := nO q1 q2
    refine G (T := T) 54 rfl ?_
    refine Ix (T := T) (rows := sig3.map tyD) j (ab hj) rfl rfl rfl rfl ⟨rfl, rfl⟩ rfl rfl ?_
    refine G (T := T) 1000 rfl ?_
    refine Nq (i + 1, _, _, qs ++ [⟨y, .mk tk eS 0 []⟩]) ⟨by dsimp only; omega, ?_, paDs_snoc qs ⟨y, .mk tk eS 0 []⟩, fun p hp => ?_, by dsimp only; rw [List.length_append, hl]; rfl⟩ (by show 3 - (i + 1) < 3 - i; omega) ⟨⟨_, _, rfl, rfl⟩, rfl, rfl⟩
    · dsimp only; rw [List.length_append]; rfl
    · rcases List.mem_append.1 hp with hp | hp
      · exact hG2 p hp
      · rw [List.mem_singleton.1 hp]; exact tyk_P hyl htk
  · have hlen : qs.length ≤ 3 := by omega
    refine G (T := T) 100009 rfl ?_
    refine Zc 5 rfl ?_
    refine G (T := T) 1000 rfl ?_
    refine Ck [0, 1, 2, 3] (c7 (fs := fs) (tn := tn) h1 h2 (n := 4) (by omega) (by omega)) rfl rfl rfl rfl rfl rfl rfl ⟨⟨rfl, rfl⟩, rfl⟩ ?_
    rintro _ ⟨r0, rfl, r01, r02⟩
    refine G (T := T) 1000 rfl ?_
    refine If rfl (fun h => ?_) (fun h => ?_)
    · have hr := of_decide_eq_true h
      obtain ⟨j, tk, rfl, hj, htk⟩ := nO r01 hr
      refine G (T := T) 68 rfl ?_
      refine Ix (T := T) (rows := sig3.map tyD) j (ab hj) rfl rfl rfl rfl ⟨rfl, rfl⟩ rfl rfl ?_
      refine G (T := T) 1000 rfl ?_
      exact Fm (T := T) id (.t []) (mkR l fs tn 0 ++ [fuB' 4 nm (.d (.s (qs.map paD))) tk (.d (.s []))]) ⟨(qs, tk, false), ⟨hG2, hlen, by dsimp only; omega⟩, rfl, rfl⟩ rfl
    · refine G (T := T) 1000 rfl ?_
      exact Fm (T := T) id (.t []) (mkR l fs tn 0 ++ [fuB' 4 nm (.d (.s (qs.map paD))) 7 .z]) ⟨(qs, 7, true), ⟨hG2, hlen, by dsimp only; omega⟩, rfl, rfl⟩ rfl
end
section
open Go Go.RowKit Go.Proofs K
variable {pk : Pk}
def fB (tn : Nat) : List Td := if tn = 0 then [] else if tn = 1 then [tdS] else [tdS, tdU]
def dj (tn : Nat) : List Gb := gbs0 ++ (if tn = 0 then [] else if tn = 1 then [gbS] else [gbS, gbU])
theorem nP (l : List Gb) (p : Gb) : l.map gbD ++ [gbD p] = (l ++ [p]).map gbD := by rw [List.map_append]; rfl
theorem setR_byt {bs : List UInt8} {j : Nat} {k : Int} (hj : j < bs.length) (h0 : 0 ≤ k) (h1 : k < 256) : setR (bH bs) j 0 [.c (.int .u8 (IntKind.u8.wrap k))] = bH (bs.set j (UInt8.ofNat k.toNat)) := by
  obtain ⟨n, rfl⟩ := Int.eq_ofNat_of_zero_le h0
  have hn : n < 256 := by omega
  have e : ∀ m : Nat, m < 256 → IntKind.u8.wrap (m : Int) = ((UInt8.ofNat m).toNat : Int) := by decide +kernel
  rw [e n hn]
  simp only [setR, bH, List.getElem?_map, List.getElem?_eq_getElem hj, Option.map_some, List.map_set]
  rfl
theorem byt_one (bs : List UInt8) : ∀ r ∈ bH bs, r.length = 1 := fun r hr => by
  obtain ⟨b, _, rfl⟩ := List.mem_map.1 hr
  rfl
theorem nQ (bs : List UInt8) (a n : Nat) : ((bH bs).drop a).take n = bH ((bs.drop a).take n) := by simp [bH, List.map_take, List.map_drop]
theorem zero5 (z : Value) (hz : Sl Tryz.prog 53 5 1 1 z) (H : Hp) : rdL H [.c (.int .u8 0)] z.cells.toList := by
  obtain ⟨i, hi, hz1, _⟩ := hz.ex
  obtain ⟨inf, zv, hi2, hz2, hc⟩ := cR (BT.all_get T.ok (i := 5) (v := .i .u8) rfl)
  rw [hi2] at hi; cases hi
  rw [hz2] at hz1; cases hz1
  have h9 := hc (fun _ _ => none) H
  revert h9
  generalize z.cells.toList = us
  intro h9
  match us, h9 with
  | [u], h9 => exact ⟨by have h8 : XC.rel (fun _ _ => none) H (.d (.c (.int .u8 0))) u := h9.1; simpa only [XC.rel] using h8, trivial⟩
theorem oN {l : List Int} {fs : List Fu} {tn : Nat} (h1 : ∀ n ∈ l, I64 n) (h2 : l.length ≤ 1000000) (ht : tn ≤ 2) :
    XKp Tryz.prog pk 66 [pm] (mkR l fs tn 0) 4 (fun r => ∃ s1 s2 : ByteArray, r = .a (.a [.d (.s ((fB tn).map tdD)), .d (.s ((dj tn ++ [gbT s1, gbW s2]).map gbD)), .z]) ∧ s1.size ≤ 100 ∧ s2.size ≤ 100) := by
  refine XM.en Tryz.func66 Tryz.ntmps66 (fun w0 own H V v0 hf => ?_)
  refine G (T := T) 100002 rfl ?_
  refine (FzTo.bz 5 rfl).c ?_
  refine G (T := T) 100003 rfl ?_
  refine (FzTo.bz 6 rfl).c ?_
  refine G (T := T) 26 rfl ?_
  refine Br (T := T) rfl rfl rfl rfl rfl ⟨rfl, rfl⟩ ?_
  refine G (T := T) 100005 rfl ?_
  refine (Nrh 7 0 85 3 rfl rfl rfl rfl rfl).c ?_
  change (MS.c _ _ ⟨_, _, 10⟩).ok _
  let PB9 : Nat → List Td → Nat → List Gb → XH := fun n ts m gs => mkR l fs tn 0 ++ [⟨7, 0, .cells [.l 9 1 3 0 n n, .l 8 1 8 0 m m, .z] 29⟩, ⟨9, 1, .row n (ts.map tdD) 85 3⟩, ⟨8, 1, .row m (gs.map gbD) 80 8⟩, ⟨4, 0, .cells [.z, .z, .z] 29⟩]
  refine G (T := T) 1000 rfl ?_
  refine Cf [0, 2, 3, 4, 5] (fun (q : List Td × List Gb) r => r) (fun q => PB9 q.1.length q.1 q.2.length q.2) 10 (fun q => q.1 = (if tn = 0 then [] else [tdS]) ∧ q.2 = gbs0 ++ (if tn = 0 then [] else [gbS])) rfl ?_ ?_
  · refine If rfl (fun h => ?_) (fun h => ?_)
    · have h9 : tn ≠ 0 := by have := of_decide_eq_true h; omega
      refine G (T := T) 1000 rfl ?_
      exact Dn ([tdS], gbs0 ++ [gbS]) ⟨(if_neg h9).symm, by rw [if_neg h9]⟩
    · have h9 : tn = 0 := by have := of_decide_eq_false h; omega
      refine G (T := T) 1000 rfl ?_
      exact Dn ([], gbs0) ⟨(if_pos h9).symm, by rw [if_pos h9]; rfl⟩
  rintro ⟨ts, gs⟩ ⟨e1, e2⟩; dsimp only at e1 e2 ⊢
  have htl : ts.length ≤ 1 := by rw [e1]; split <;> decide
  have hgl : gs.length ≤ 6 := by rw [e2]; split <;> decide
  refine G (T := T) 1000 rfl ?_
  refine Cf [0, 2, 3, 4, 5] (fun (q : Nat × List (List D) × Nat × List (List D)) r => r) (fun q => mkR l fs tn 0 ++ [⟨7, 0, .cells [.l 9 1 3 0 q.1 q.1, .l 8 1 8 0 q.2.2.1 q.2.2.1, .z] 29⟩, ⟨9, 1, .row q.1 q.2.1 85 3⟩, ⟨8, 1, .row q.2.2.1 q.2.2.2 80 8⟩, ⟨4, 0, .cells [.z, .z, .z] 29⟩]) 10 (fun q => q.1 = (fB tn).length ∧ q.2.1 = (fB tn).map tdD ∧ q.2.2.1 = (dj tn).length ∧ q.2.2.2 = (dj tn).map gbD) rfl ?_ ?_
  · refine If rfl (fun h => ?_) (fun h => ?_)
    · have h9 : tn = 2 := by have := of_decide_eq_true h; omega
      subst h9
      subst e1 e2
      refine G (T := T) 1000 rfl ?_
      refine Dn (_, _, _, _) ⟨?_, ?_, ?_, ?_⟩ ⟨⟨_, _, rfl, rfl⟩, rfl, rfl⟩ <;> rfl
    · have h9 : tn ≤ 1 := by have := of_decide_eq_false h; omega
      refine G (T := T) 1000 rfl ?_
      refine Dn (_, _, _, _) ⟨?_, ?_, ?_, ?_⟩ ⟨⟨_, _, rfl, rfl⟩, rfl, rfl⟩
      all_goals (subst e1 e2; have : tn = 0 ∨ tn = 1 := (by omega); rcases this with rfl | rfl <;> rfl)
  rintro ⟨n, R, m, S⟩ ⟨hn, hR, hm, hS⟩; dsimp only at hn hR hm hS ⊢; subst hn hR hm hS
  have htl2 : (fB tn).length ≤ 2 := by unfold fB; (repeat' split) <;> decide
  have hgl2 : (dj tn).length ≤ 7 := by unfold dj; (repeat' split) <;> decide
  refine G (T := T) 81 rfl ?_
  refine Mz (T := T) 16 [.c (.int .u8 0)] rfl rfl rfl rfl ⟨rfl, rfl⟩ rfl (by decide) (by decide) zero5 ?_
  generalize hts : fB tn = ts9 at htl2 ⊢
  generalize hgs : dj tn = gs9 at hgl2 ⊢
  refine G (T := T) 1000 rfl ?_
  refine Lq [0, 2, 3, 4, 5, 7] (fun (q : Nat × List UInt8) r => (8, xi (q.1 : Nat)) :: r) (fun q => mkR l fs tn 0 ++ [⟨7, 0, .cells [.l 9 1 3 0 ts9.length ts9.length, .l 8 1 8 0 gs9.length gs9.length, .z] 29⟩, ⟨9, 1, .row ts9.length (ts9.map tdD) 85 3⟩, ⟨8, 1, .row gs9.length (gs9.map gbD) 80 8⟩, ⟨4, 0, .cells [.z, .z, .z] 29⟩, ⟨10, 0, .row 16 (bH q.2) 5 1⟩]) 11 (fun q => q.1 ≤ 16 ∧ q.2.length = 16) (fun q => 16 - q.1) (0, List.replicate 16 0) rfl ⟨by decide, rfl⟩ ?_
  rintro ⟨j, bs⟩ ⟨hj, hb⟩; dsimp only at hj hb ⊢
  refine G (T := T) 1000 rfl ?_
  refine If rfl (fun h => ?_) (fun h => ?_)
  · have hj1 := of_decide_eq_true h
    obtain ⟨y, hy⟩ := ae (l := bs) (j := j) (by omega)
    refine G (T := T) 1000 rfl ?_
    refine Ck [0, 1, 2, 3] (c7 (fs := fs) (tn := tn) h1 h2 (n := 256) (by omega) (by omega)) rfl rfl rfl rfl rfl rfl rfl ⟨⟨rfl, rfl⟩, rfl⟩ ?_
    rintro _ ⟨q, rfl, q1, q2⟩
    refine G (T := T) 91 rfl ?_
    refine Iq (T := T) j rfl rfl rfl rfl rfl ⟨rfl, rfl⟩ rfl (by omega) rfl ?_
    refine Sr (T := T) (rows := bH bs) (ab hy) rfl rfl rfl rfl rfl rfl rfl ⟨rfl, rfl⟩ rfl rfl ?_
    rw [setR_byt (by omega) q1 q2]
    refine G (T := T) 1000 rfl ?_
    exact Nq (j + 1, bs.set j (UInt8.ofNat q.toNat)) ⟨by dsimp only; omega, by dsimp only; rw [List.length_set]; exact hb⟩ (by show 16 - (j + 1) < 16 - j; omega)
  · have hbl : (bH bs).length = 16 := by rw [bH, List.length_map]; exact hb
    refine G (T := T) 100017 rfl ?_
    refine Zc 10 rfl ?_
    refine G (T := T) 98 rfl ?_
    refine Sd (T := T) 0 8 rfl ⟨_, _, rfl, rfl⟩ rfl rfl rfl ⟨rfl, rfl⟩ rfl rfl (by decide) (by rw [hbl]; decide) (byt_one bs) ?_
    refine Cd (T := T) ((bs.drop 0).take 8) (nQ bs 0 8) rfl rfl rfl rfl rfl ⟨rfl, rfl⟩ ?_
    refine G (T := T) 110 rfl ?_
    refine Sd (T := T) (ri := none) 8 16 ⟨_, _, rfl, rfl⟩ rfl rfl rfl rfl ⟨rfl, rfl⟩ rfl (by rw [hbl]; rfl) (by decide) (by rw [hbl]; decide) (byt_one bs) ?_
    refine Cd (T := T) ((bs.drop 8).take 8) (nQ bs 8 8) rfl rfl rfl rfl rfl ⟨rfl, rfl⟩ ?_
    refine G (T := T) 100019 rfl ?_
    refine Zc 9 rfl ?_
    refine Zc 8 rfl ?_
    refine G (T := T) 1000 rfl ?_
    refine Fm (T := T) id (.a (.a [.d (.s (ts9.map tdD)), .d (.s ((gs9.map gbD ++ [gbD (gbT ⟨((bs.drop 0).take 8).toArray⟩)]) ++ [gbD (gbW ⟨((bs.drop 8).take 8).toArray⟩)])), .z])) (mkR l fs tn 0) ⟨⟨⟨((bs.drop 0).take 8).toArray⟩, ⟨((bs.drop 8).take 8).toArray⟩, ?_, ?_, ?_⟩, rfl⟩ rfl
    · rw [nP, nP, List.append_assoc]; rfl
    · show ((bs.drop 0).take 8).length ≤ 100; rw [List.length_take]; omega
    · show ((bs.drop 8).take 8).length ≤ 100; rw [List.length_take]; omega
end
section
open Go Go.RowKit Go.Proofs K
variable {pk : Pk}
def FuM (f : Fu) : Prop := FR ⟨f.nm, f.ps, f.res, [], f.fl, f.x, f.y⟩ ∧ SGs 399999999 f.body
def intN : ByteArray := ⟨#[105, 110, 116, 101, 114, 114, 117, 112, 116]⟩
def intF (b : List Sm) : Fu := ⟨intN, [], .mk 7 eS 0 [], b, false, 0, 0⟩
def MP (p : Pg) : Prop := ∃ tn s1 s2 fs hd, tn ≤ 2 ∧ s1.size ≤ 100 ∧ s2.size ≤ 100 ∧ p = ⟨fB tn, dj tn ++ [gbT s1, gbW s2], fs ++ hd⟩ ∧ 1 ≤ fs.length ∧ fs.length ≤ 4 ∧ fs.map (·.nm) = funL.take fs.length ∧ (∀ f ∈ fs, FuM f) ∧ (hd = [] ∨ ∃ b, hd = [intF b] ∧ SGs 100 b)
abbrev iG (f : Fu) (b : List Sm) : Fu := ⟨f.nm, f.ps, f.res, b, f.fl, f.x, f.y⟩
theorem ld (l : List Fu) (p : Fu) : l.map fuD ++ [fuD p] = (l ++ [p]).map fuD := by rw [List.map_append]; rfl
theorem mU {s : ByteArray} {ps : List Par} {k : Int} (hs : funN s = true) (h1 : ∀ p ∈ ps, PrG' p) (h2 : ps.length ≤ 3) (h3 : k = 1 ∨ k = 2 ∨ k = 3 ∨ k = 7) : FR ⟨s, ps, .mk k eS 0 [], [], false, 0, 0⟩ := by
  refine ⟨hs, h1, h2, ⟨?_, ⟨⟨by omega, by omega⟩, by decide, ⟨by omega, by omega⟩, trivial⟩, by simp [Ty4.size, Ty4.sizes]⟩, rfl, rfl, rfl, rfl⟩
  rcases h3 with rfl | rfl | rfl | rfl
  · exact .inl rfl
  · exact .inl rfl
  · exact .inl rfl
  · exact .inr rfl
theorem ZB3 : ZB 3 = 336580000 := by decide
theorem funL_get {i : Nat} (h : i < 4) : ∃ y, funL[i]? = some y ∧ funN y = true := by
  obtain ⟨y, hy⟩ := ae (l := funL) (j := i) h
  exact ⟨y, hy, List.any_eq_true.2 ⟨y, List.mem_of_getElem? hy, by simp⟩⟩
theorem XP.en {P : Program} {pk : Pk} {f : FuncId} {fn : Func} {c : Code} {args : List XV} {N : Nat} {Ψ : XV → Prop} (hf : P.funcs[f]? = some fn) (hN : fn.ntmps = N) (hΨ : ∀ r, Ψ r → pure r = true) (h : ∀ w0 own H V v0 hf, (MS.c c [] ⟨fM 0 args, [], 0⟩).ok (Cp P pk w0 own H V v0 hf N fn Ψ)) (hb : fn.body = some c := by rfl) (hn : (fn.name == "runtime.NumGoroutine") = false := by rfl) (hl : Nat.ble args.length N = true := by rfl) (ha : XVs.all (fun _ _ => false) args = true := by rfl) : XP P pk f args Ψ :=
  XP.enter hf hb hN hn hl ha hΨ h
theorem Fp {P : Program} {pk : Pk} {T : Tb P} {fn : Func} {N : Nat} {Ψ : XV → Prop} {s : XS} {w0 : World} {own : List Seg} {H : Hp} {V : Vn} {v0 : ∀ g t, V g t ≠ none → t = 0 ∧ g ∈ ([] : List Nat)} {hf : (∀ g ∈ ([] : List Nat), g < 0) ∧ pk.hy H} {e : Exit} {us : List XA} (r : XV) (hΨ : Ψ r) (hr : fd T s fn.results.toList = some us) (hc : co1 r (d5 us) = r) (he : e = .ret ∨ e = .normal := by first | exact .inl rfl | exact .inr rfl) (hp : pure r = true := by rfl) :
    (MS.e e [] s).ok (Cp P pk w0 own H V v0 hf N fn Ψ) := ME.finp he hr hc hp hΨ
theorem mk_Made {l : List Int} (h1 : ∀ n ∈ l, I64 n) (h2 : l.length ≤ 1000000) : XP Tryz.prog pk 24 [xr (l.map iM)] (fun r => ∃ p, r = xd (pgD p) ∧ MP p) := by
  refine XP.en Tryz.func24 Tryz.ntmps24 (by rintro _ ⟨p, rfl, _⟩; rfl) (fun w0 own H V v0 hf => ?_)
  refine G (T := T) 100002 rfl ?_
  refine (Nrh 1 5 9 1 rfl rfl rfl rfl rfl).c ?_
  refine (Nrh 1 7 9 1 rfl rfl rfl rfl rfl).c ?_
  refine (Nrh 1 10 71 10 rfl rfl rfl rfl rfl).c ?_
  refine (SRto.wk 1 1 (atP l) rfl rfl rfl rfl ⟨0, Nat.zero_le _, rfl⟩).c ?_
  refine (SRto.wk 1 4 ndP rfl rfl rfl rfl ⟨_, rfl⟩).c ?_
  refine G (T := T) 1000 rfl ?_
  refine Ck [1, 2, 3, 4] (c7 (fs := []) (tn := 0) h1 h2 (n := 3) (by omega) (by omega)) rfl rfl rfl rfl rfl rfl rfl ⟨⟨rfl, rfl⟩, rfl⟩ ?_
  rintro _ ⟨tq, rfl, tq1, tq2⟩
  obtain ⟨tn, rfl⟩ := Int.eq_ofNat_of_zero_le tq1
  refine G (T := T) 1000 rfl ?_
  refine Ck [1, 2, 3, 4] (c7 (fs := []) (tn := tn) h1 h2 (n := 4) (by omega) (by omega)) rfl rfl rfl rfl rfl rfl rfl ⟨⟨rfl, rfl⟩, rfl⟩ ?_
  rintro _ ⟨mq, rfl, mq1, mq2⟩
  obtain ⟨many, rfl⟩ := Int.eq_ofNat_of_zero_le mq1
  refine G (T := T) 1000 rfl ?_
  refine Ck [1, 2, 3, 4] (c7 (fs := []) (tn := tn) h1 h2 (n := 3) (by omega) (by omega)) rfl rfl rfl rfl rfl rfl rfl ⟨⟨rfl, rfl⟩, rfl⟩ ?_
  rintro _ ⟨hq, rfl, _, _⟩
  refine G (T := T) 1000 rfl ?_
  refine Ck [1, 2, 3, 4] (oN (fs := []) (tn := tn) h1 h2 (by omega)) rfl rfl rfl rfl rfl rfl rfl ⟨⟨rfl, rfl⟩, rfl⟩ ?_
  rintro _ ⟨s1, s2, rfl, hs1, hs2⟩
  generalize hts : (fB tn).map tdD = TS
  generalize hgs : (dj tn ++ [gbT s1, gbW s2]).map gbD = GS
  refine G (T := T) 100006 rfl ?_
  refine (Nrh 5 2 71 10 rfl rfl rfl rfl rfl).c ?_
  refine G (T := T) 1000 rfl ?_
  refine Lq [2, 3, 4, 5, 6, 7] (fun (q : Nat × Nat × List (List D) × List Fu) r => (8, xi (q.1 : Nat)) :: r) (fun q => mkRx 1 2 3 4 l q.2.1 q.2.2.1 tn 1 ++ [⟨5, 0, .cells [.d (.s TS), .d (.s GS), .l 6 0 10 0 0 0] 29⟩, ⟨6, 0, .row 0 [] 71 10⟩, ⟨0, 0, .cells [.z, .z, .z] 29⟩]) 7 (fun q => q.1 ≤ 1 + many ∧ q.2.1 = q.2.2.2.length ∧ q.2.2.1 = q.2.2.2.map fuD ∧ q.2.2.2.length = q.1 ∧ q.2.2.2.map (·.nm) = funL.take q.1 ∧ ∀ f ∈ q.2.2.2, FR f) (fun q => 1 + many - q.1) (0, 0, [], []) rfl ⟨Nat.zero_le _, rfl, rfl, rfl, rfl, fun f hf => (by cases hf)⟩ ?_
  rintro ⟨i, n, R, fs⟩ ⟨hi, hn9, hR9, hl, hnm, hF⟩; dsimp only at hi hn9 hR9 hl hnm hF ⊢; subst hn9 hR9
  refine G (T := T) 1000 rfl ?_
  refine If rfl (fun h => ?_) (fun h => ?_)
  · have hi1 := of_decide_eq_true h
    obtain ⟨y, hy, hyf⟩ := funL_get (i := i) (by omega)
    refine G (T := T) 39 rfl ?_
    refine Ix (T := T) (rows := funL.map cu) i (ab hy) rfl rfl rfl rfl ⟨rfl, rfl⟩ rfl rfl ?_
    refine G (T := T) 1000 rfl ?_
    have fin : ∀ {f : Fu}, f.nm = y → FR f → (i + 1 ≤ 1 + many ∧ fs.length + 1 = (fs ++ [f]).length ∧ fs.map fuD ++ [fuD f] = (fs ++ [f]).map fuD ∧ (fs ++ [f]).length = i + 1 ∧ (fs ++ [f]).map (·.nm) = funL.take (i + 1) ∧ ∀ g ∈ fs ++ [f], FR g) := fun {f} h1 h2 => ⟨by omega, by rw [List.length_append]; rfl, ld fs f, by rw [List.length_append, hl]; rfl, by rw [List.map_append, hnm, List.take_succ, hy, ← h1]; rfl, fun g hg => by
      rcases List.mem_append.1 hg with hg | hg
      · exact hF g hg
      · rw [List.mem_singleton.1 hg]; exact h2⟩
    refine If rfl (fun h => ?_) (fun h => ?_)
    · refine G (T := T) 1000 rfl ?_
      refine Cx' [1, 2, 3, 4, 7] (fun a => mkRn 1 2 3 4 l fs tn 1 ++ [fuB' 7 y (.d (.s (a.1.map paD))) a.2.1 (cond a.2.2 .z (.d (.s [])))]) (mT (fs := fs) (tn := tn) h1 h2 y) rfl rfl rfl rfl rfl rfl rfl ⟨⟨rfl, rfl⟩, rfl⟩ (by rintro ⟨_, _, b⟩; cases b <;> rfl) (fun _ => rfl) ?_
      rintro ⟨ps, k, b⟩ ⟨hp1, hp2, hk⟩; dsimp only at hp1 hp2 hk ⊢
      have hFR := mU hyf hp1 hp2 hk
      cases b
      all_goals
        refine G (T := T) 1000 rfl ?_
        exact Nq (i + 1, _, _, fs ++ [⟨y, ps, .mk k eS 0 [], [], false, 0, 0⟩]) (fin rfl hFR) (by show 1 + many - (i + 1) < 1 + many - i; omega)
    · refine G (T := T) 1000 rfl ?_
      exact Nq (i + 1, _, _, fs ++ [⟨y, [], .mk 7 eS 0 [], [], false, 0, 0⟩]) (fin rfl (mU hyf (fun _ h => by cases h) (Nat.zero_le _) (by omega))) (by show 1 + many - (i + 1) < 1 + many - i; omega)
  have hi2 : i = 1 + many := by have := of_decide_eq_false h; omega
  have hfl4 : fs.length ≤ 4 := by omega
  refine G (T := T) 100014 rfl ?_
  refine Zc 4 rfl ?_
  refine G (T := T) 1000 rfl ?_
  refine Lq [2, 3, 4, 5, 6] (fun (q : Nat × Nat × KV × Nat × List (List D) × List Fu) r => (10, xi (q.1 : Nat)) :: r) (fun q => mkQn 1 2 3 l fs tn q.2.1 q.2.2.1.vars [] q.2.2.1.lf q.2.2.1.mn q.2.2.1.ct 1 1 ++ [⟨5, 0, .cells [.d (.s TS), .d (.s GS), .l 6 1 10 0 q.2.2.2.1 q.2.2.2.1] 29⟩, ⟨6, 1, .row q.2.2.2.1 q.2.2.2.2.1 71 10⟩, ⟨0, 0, .cells [.z, .z, .z] 29⟩]) 7 (fun q => q.1 ≤ 1 + many ∧ q.2.2.2.1 = q.2.2.2.2.2.length ∧ q.2.2.2.2.1 = q.2.2.2.2.2.map fuD ∧ q.2.2.2.2.2.length = q.1 ∧ q.2.2.2.2.2.map (·.nm) = funL.take q.1 ∧ ∀ f ∈ q.2.2.2.2.2, FuM f) (fun q => 1 + many - q.1) (0, 0, ⟨[], 0, 0, 0⟩, 0, [], []) rfl ⟨Nat.zero_le _, rfl, rfl, rfl, rfl, fun f hf => (by cases hf)⟩ ?_
  rintro ⟨i2, me, v, n, R, out⟩ ⟨hj, hn9, hR9, hol, honm, hoF⟩; dsimp only at hj hn9 hR9 hol honm hoF ⊢; subst hn9 hR9
  refine G (T := T) 1000 rfl ?_
  refine If rfl (fun h => ?_) (fun h => ?_)
  · have hj1 := of_decide_eq_true h
    obtain ⟨f, hfi⟩ := ae (l := fs) (j := i2) (by omega)
    have hFR := hF f (List.mem_of_getElem? hfi)
    have hfy : funL[i2]? = some f.nm := by
      have e : (fs.map (·.nm))[i2]? = some f.nm := by rw [List.getElem?_map, hfi]; rfl
      rw [hnm, List.getElem?_take, if_pos (by omega)] at e
      exact e
    have hpl := hFR.pl
    refine G (T := T) 86 rfl ?_
    refine Ix (T := T) i2 (ab hfi) rfl rfl rfl rfl ⟨rfl, rfl⟩ rfl rfl ?_
    refine G (T := T) 100024 rfl ?_
    refine (SRto.wk 1 4 ndP rfl rfl rfl rfl ⟨_, rfl⟩).c ?_
    refine (Nrh 1 5 9 1 rfl rfl rfl rfl rfl).c ?_
    refine G (T := T) 1000 rfl ?_
    refine Lq [2, 3, 4, 5, 6, 10, 11] (fun (q : Nat × Nat × List (List D) × List ByteArray) r => (12, xi (q.1 : Nat)) :: r) (fun q => mkQx 1 8 3 l fs tn i2 q.2.1 q.2.2.1 [] 8 0 0 1 1 ++ [⟨7, 0, .cells ((fuD f).map .d) 71⟩, ⟨5, 0, .cells [.d (.s TS), .d (.s GS), .l 6 1 10 0 out.length out.length] 29⟩, ⟨6, 1, .row out.length (out.map fuD) 71 10⟩, ⟨0, 0, .cells [.z, .z, .z] 29⟩]) 9 (fun q => q.1 ≤ f.ps.length ∧ q.2.1 = q.2.2.2.length ∧ q.2.2.1 = q.2.2.2.map cu ∧ q.2.2.2.length ≤ q.1 ∧ ∀ s ∈ q.2.2.2, dB s = true) (fun q => f.ps.length - q.1) (0, 0, [], []) rfl ⟨Nat.zero_le _, rfl, rfl, Nat.zero_le _, fun s hs => (by cases hs)⟩ ?_
    rintro ⟨k, n, R, vars⟩ ⟨hk, hn9, hR9, hvl, hvn⟩; dsimp only at hk hn9 hR9 hvl hvn ⊢; subst hn9 hR9
    refine G (T := T) 1000 rfl ?_
    refine If rfl (fun h => ?_) (fun h => ?_)
    · have hkl := of_decide_eq_true h; rw [List.length_map] at hkl
      obtain ⟨p, hp⟩ := ae (l := f.ps) (j := k) (by omega)
      refine G (T := T) 98 rfl ?_
      refine Ix (T := T) k (ab hp) rfl rfl rfl rfl ⟨rfl, rfl⟩ rfl rfl ?_
      refine G (T := T) 1000 rfl ?_
      refine If rfl (fun h => ?_) (fun h => ?_)
      · refine G (T := T) 111 rfl ?_
        refine Ix (T := T) k (ab hp) rfl rfl rfl rfl ⟨rfl, rfl⟩ rfl rfl ?_
        refine G (T := T) 1000 rfl ?_
        refine Nq (k + 1, _, _, vars ++ [p.nm]) ⟨by dsimp only; omega, ?_, ?_, by dsimp only; rw [List.length_append]; simp only [List.length_cons, List.length_nil]; omega, fun s hs => ?_⟩ (by show _ - (k + 1) < _ - k; omega) ⟨⟨_, _, rfl, rfl⟩, rfl, rfl⟩
        · dsimp only; rw [List.length_append]; rfl
        · dsimp only; rw [List.map_append]; rfl
        · rcases List.mem_append.1 hs with hs | hs
          · exact hvn s hs
          · rw [List.mem_singleton.1 hs]; exact (hFR.ps p (List.mem_of_getElem? hp)).1
      · refine G (T := T) 1000 rfl ?_
        exact Nq (k + 1, _, _, vars) ⟨by dsimp only; omega, rfl, rfl, by dsimp only; omega, hvn⟩ (by show _ - (k + 1) < _ - k; omega)
    have hc : (⟨l, fs, tn, i2, vars, [], 8, 0, 0⟩ : KC).ok := ⟨h1, h2, hvn, by show vars.length ≤ 1000; omega, by show i2 < fs.length; omega, by show fs.length ≤ 1000; omega, hF, by show tn ≤ 1000; omega, fun s hs => (by cases hs), by show 0 ≤ 1000; omega⟩
    have hI0 : KI (vars.length + 8) ⟨vars, 8, 0, 0⟩ := ⟨hvn, Nat.le_refl _, by show 0 ≤ 8; omega, by show 0 + 8 ≤ 8; omega, by omega⟩
    refine G (T := T) 1000 rfl ?_
    refine Cy [1, 8, 3] (fun a => .a (.c (.l 9 1 11 0 a.2.length a.2.length))) (fun a => mkQn 1 8 3 l fs tn i2 a.1.vars [] a.1.lf a.1.mn a.1.ct 2 2 ++ [⟨9, 1, .row a.2.length (a.2.map smD) 66 11⟩]) (lc false 3 (fun j _ hj => mk_stmts j hj) (by omega) ⟨l, fs, tn, i2, vars, [], 8, 0, 0⟩ (vars.length + 8) 1 hc hI0 rfl (by show 0 + 3 ≤ 8; omega)) rfl rfl rfl rfl rfl rfl rfl ⟨⟨rfl, rfl⟩, rfl⟩ (fun _ => rfl) (fun _ => rfl) rfl ?_
    rintro ⟨v2, ss⟩ ⟨hI2, hS⟩; dsimp only at hI2 hS ⊢
    rw [ZB3] at hS
    have hslen := hS.len
    have fin : ∀ {b : List Sm}, SGs 399999999 b → (i2 + 1 ≤ 1 + many ∧ out.length + 1 = (out ++ [iG f b]).length ∧ out.map fuD ++ [fuD (iG f b)] = (out ++ [iG f b]).map fuD ∧ (out ++ [iG f b]).length = i2 + 1 ∧ (out ++ [iG f b]).map (·.nm) = funL.take (i2 + 1) ∧ ∀ g ∈ out ++ [iG f b], FuM g) := fun {b} hb => ⟨by omega, by rw [List.length_append]; rfl, ld _ _, by rw [List.length_append, hol]; rfl, by rw [List.map_append, honm, List.take_succ, hfy]; rfl, fun g hg => by
      rcases List.mem_append.1 hg with hg | hg
      · exact hoF g hg
      · rw [List.mem_singleton.1 hg]; exact ⟨⟨hFR.nm, hFR.ps, hFR.pl, hFR.res, rfl, hFR.body.2⟩, hb⟩⟩
    refine G (T := T) 1000 rfl ?_
    refine If rfl (fun h => ?_) (fun h => ?_)
    · refine G (T := T) 1000 rfl ?_
      refine Cq (az ⟨#[103, 48]⟩) rfl rfl rfl rfl rfl ⟨rfl, rfl⟩ ?_
      refine G (T := T) 133 rfl ?_
      refine Zr 9 rfl ?_
      refine G (T := T) 1000 rfl ?_
      have hS2 : SGs 399999999 (ss ++ [outS 1 (aD ⟨#[103, 48]⟩)]) := (hS.snoc (sg_out (n := 1) (by omega) (by omega) (bJ (s := ⟨#[103, 48]⟩) (by decide)))).mono (by omega)
      refine Nqn (fun g => bif Nat.beq g 2 then 8 else g) (i2 + 1, i2, v2, _, _, out ++ [iG f (ss ++ [outS 1 (aD ⟨#[103, 48]⟩)])]) ⟨(fin hS2).1, ?_, ?_, (fin hS2).2.2.2⟩ (by show 1 + many - (i2 + 1) < 1 + many - i2; omega) ⟨⟨_, _, rfl, rfl⟩, rfl, rfl⟩
      · exact (fin hS2).2.1
      · rw [← (fin hS2).2.2.1]
        simp only [fuD, List.map_append]
        rfl
    · refine G (T := T) 133 rfl ?_
      refine Zr 9 rfl ?_
      refine G (T := T) 1000 rfl ?_
      exact Nqn (fun g => bif Nat.beq g 2 then 8 else g) (i2 + 1, i2, v2, _, _, out ++ [iG f ss]) (fin (hS.mono (by omega))) (by show 1 + many - (i2 + 1) < 1 + many - i2; omega)
  have hol2 : out.length = 1 + many := by have := of_decide_eq_false h; omega
  have fin : ∀ {hd : List Fu}, (hd = [] ∨ ∃ b, hd = [intF b] ∧ SGs 100 b) → ∀ {r : XV}, r = xd [.s TS, .s GS, .s ((out ++ hd).map fuD)] → ∃ p, r = xd (pgD p) ∧ MP p := fun {hd} h1 {r} h2 => ⟨⟨fB tn, dj tn ++ [gbT s1, gbW s2], out ++ hd⟩, by rw [h2, ← hts, ← hgs]; rfl, tn, s1, s2, out, hd, by omega, hs1, hs2, rfl, by omega, by omega, by rw [honm, hol], hoF, h1⟩
  refine G (T := T) 1000 rfl ?_
  refine If rfl (fun h => ?_) (fun h => ?_)
  · refine G (T := T) 1000 rfl ?_
    refine Cq (az ⟨#[103, 49]⟩) rfl rfl rfl rfl rfl ⟨rfl, rfl⟩ ?_
    refine G (T := T) 1000 rfl ?_
    refine Ck [1, 2, 3] (ay (c := ⟨l, fs, tn, me, v.vars, [], v.lf, v.mn, v.ct⟩) h1 h2 (n := 3) (by omega) (by omega)) rfl rfl rfl rfl rfl rfl rfl ⟨⟨rfl, rfl⟩, rfl⟩ ?_
    rintro _ ⟨q, rfl, q1, q2⟩
    refine G (T := T) 1000 rfl ?_
    refine Cq (bA (n := 1 + q) (by omega) (by omega)) rfl rfl rfl rfl rfl ⟨rfl, rfl⟩ ?_
    refine G (T := T) 1000 rfl ?_
    refine Cq (bB ⟨#[43]⟩ (aD ⟨#[103, 49]⟩) (d9 (1 + q))) rfl rfl rfl rfl rfl ⟨rfl, rfl⟩ ?_
    refine G (T := T) 1000 rfl ?_
    refine Cq (az ⟨#[103, 49]⟩) rfl rfl rfl rfl rfl ⟨rfl, rfl⟩ ?_
    refine G (T := T) 1000 rfl ?_
    refine Cq (az ⟨#[103, 49]⟩) rfl rfl rfl rfl rfl ⟨rfl, rfl⟩ ?_
    refine G (T := T) 100037 rfl ?_
    refine Zc 6 rfl ?_
    refine G (T := T) 1000 rfl ?_
    let b : List Sm := [.mk 2 eS ty4z 0 [aD ⟨#[103, 49]⟩, iN ⟨#[43]⟩ (aD ⟨#[103, 49]⟩) (d9 (1 + q))] [] [] [], outS 9 (aD ⟨#[103, 49]⟩)]
    have hb : SGs 100 b := (SGs.cons (sg_asg (A := 1) ⟨bJ (by decide), rfl⟩ (eE (by decide) (bJ (by decide)) (fA (n := 1 + q) (by omega) (by omega)))) (SGs.one (sg_out (n := 9) (by omega) (by omega) (bJ (by decide))))).mono (by omega)
    exact Fp (T := T) (xd [.s TS, .s GS, .s (out.map fuD ++ [fuD (intF b)])]) (fin (.inr ⟨b, rfl, hb⟩) (by rw [List.map_append]; rfl)) rfl rfl
  · refine G (T := T) 100037 rfl ?_
    refine Zc 6 rfl ?_
    refine G (T := T) 1000 rfl ?_
    exact Fp (T := T) (xd [.s TS, .s GS, .s (out.map fuD)]) (fin (.inl rfl) (by rw [List.append_nil])) rfl rfl
end
section
open Go Go.RowKit Go.Proofs K
abbrev wrg : PanicEntry := { v := .iface 113 (.agg #[]), recovered := false }
variable {pk : Pk}
theorem cA {b : Bool} (hpc : pk.pc = wrg) (h : b = false → pk.ψ) : XP Tryz.prog pk 52 [xb b] (fun r => r = .t [] ∧ b = true) := by
  refine XP.en Tryz.func52 Tryz.ntmps52 (by rintro _ ⟨rfl, _⟩; rfl) (fun w0 own H V v0 hf => ?_)
  refine G (T := T) 1000 rfl ?_
  refine If rfl (fun h1 => ?_) (fun h1 => ?_)
  · refine G (T := T) 1000 rfl ?_
    refine Mf (by kernel_rfl) rfl rfl ⟨rfl, rfl⟩ ?_
    refine G (T := T) 1000 rfl ?_
    exact Pn rfl hpc (h (by cases b <;> simp_all))
  · refine G (T := T) 1000 rfl ?_
    exact Fp (T := T) (.t []) ⟨rfl, by cases b <;> simp_all⟩ rfl rfl
theorem ft_kid {t : Tr} {i : Int} (hpc : pk.pc = wrg) (h0 : 0 ≤ i) (h : (t.kids)[i.toNat]? = none → pk.ψ) : XP Tryz.prog pk 99 [xd (trd t), xi i] (fun r => ∃ u, t.kids[i.toNat]? = some u ∧ r = xd (trd u)) := by
  obtain ⟨lb, ks⟩ := t
  obtain ⟨n, rfl⟩ := Int.eq_ofNat_of_zero_le h0
  rw [al]
  refine XP.en Tryz.func99 Tryz.ntmps99 (by rintro _ ⟨u, _, rfl⟩; rfl) (fun w0 own H V v0 hf => ?_)
  refine G (T := T) 100001 rfl ?_
  refine (FzTo.bz 0 rfl).c ?_
  refine G (T := T) 1000 rfl ?_
  refine Ce (cA hpc (b := decide ((n : Int) < (aj ks).length)) (fun hb => h ?_)) rfl rfl rfl rfl rfl ⟨rfl, rfl⟩ ?_
  · have := of_decide_eq_false hb
    rw [List.length_map] at this
    exact List.getElem?_eq_none (by show ks.length ≤ n; omega)
  rintro _ ⟨rfl, hb⟩
  have hlt := of_decide_eq_true hb
  rw [List.length_map] at hlt
  obtain ⟨u, hu⟩ := ae (l := ks) (j := n) (by omega)
  refine G (T := T) 1000 rfl ?_
  refine Ix (T := T) n (ab hu) rfl rfl rfl rfl ⟨rfl, rfl⟩ rfl rfl ?_
  refine G (T := T) 1000 rfl ?_
  exact Fp (T := T) (xd (trd u)) ⟨u, hu, rfl⟩ rfl rfl
end
section
open Go Go.RowKit Go.Proofs K
abbrev xs' (s : ByteArray) : XA := .c (.d (.c (.string s)))
abbrev xi' (n : Int) : XA := .c (.d (.c (.int .i64 n)))
abbrev xb' (b : Bool) : XA := .c (.d (.c (.bool b)))
def hexI (b : UInt8) : Int := match cp b with | some d => (d : Int) | none => -1
structure FTk (pk : Pk) : Prop where
  pc : pk.pc = wrg
  cut : ∀ s : ByteArray, s.size ≤ 1000000000 → XQ Tryz.prog pk 145 [xs s, xs ⟨#[32]⟩] (.t [xs' (ad s), xs' (ah s), xb' (decide (co s.data.toList < s.data.toList.length))])
  atoi : ∀ s : ByteArray, s.size ≤ 1000000000 → XP Tryz.prog pk 178 [xs s] (fun r => (∃ n, aR s = some n ∧ r = .t [xi' n, .c (.d (.c .nilIface))]) ∨ (aR s = none ∧ ∃ n t v, r = .t [xi' n, .c (.d (.c (.iface t v)))]))
  idx : ∀ b : UInt8, XQ Tryz.prog pk 147 [xs ⟨#[48, 49, 50, 51, 52, 53, 54, 55, 56, 57, 97, 98, 99, 100, 101, 102]⟩, xv (.int .u8 (b.toNat : Int))] (xi (hexI b))
variable {pk : Pk}
theorem bb_len (l : List UInt8) : (bb l).size = l.length := by show l.toArray.size = _; rw [List.size_toArray]
theorem gx {s : ByteArray} (h : s.size ≤ 1000000000) : (ah s).size ≤ 1000000000 := by
  have e2 : s.data.toList.length = s.size := rfl
  rw [ah, bb_len, List.length_drop]; omega
theorem bL (h : FTk pk) {t : Tr} (hs : (lb t).size ≤ 1000000000) : XQ Tryz.prog pk 100 [xd (trd t)] (.t [xs' (ad (lb t)), xs' (ah (lb t))]) := by
  refine XQ.en Tryz.func100 Tryz.ntmps100 (fun w0 own H V v0 hf => ?_)
  refine G (T := T) 100001 rfl ?_
  refine (FzTo.bz 0 rfl).c ?_
  refine G (T := T) 1000 rfl ?_
  refine Cq (h.cut (lb t) hs) rfl rfl rfl rfl rfl ⟨rfl, rfl⟩ ?_
  refine G (T := T) 1000 rfl ?_
  exact Fe (T := T) rfl rfl
theorem ft_listed (h : FTk pk) {t : Tr} {i : Int} (h0 : 0 ≤ i) {w : ByteArray} (hp : (∀ u, t.kids[i.toNat]? = some u → lb u ≠ w) → pk.ψ) : XP Tryz.prog pk 46 [xd (trd t), xi i, xs w] (fun r => ∃ u, t.kids[i.toNat]? = some u ∧ lb u = w ∧ r = xr (aj u.kids)) := by
  refine XP.en Tryz.func46 Tryz.ntmps46 (by rintro _ ⟨u, _, _, rfl⟩; rfl) (fun w0 own H V v0 hf => ?_)
  refine G (T := T) 100001 rfl ?_
  refine (FzTo.bz 0 rfl).c ?_
  refine G (T := T) 1000 rfl ?_
  refine Ce (ft_kid h.pc h0 (t := t) (fun hn => hp (fun u hu => by rw [hn] at hu; cases hu))) rfl rfl rfl rfl rfl ⟨rfl, rfl⟩ ?_
  rintro _ ⟨u, hu, rfl⟩
  obtain ⟨l, ks⟩ := u
  rw [al]
  refine G (T := T) 1000 rfl ?_
  refine Ce (cA h.pc (b := decide (l = w)) (fun hb => hp (fun u' hu' => by rw [hu] at hu'; cases hu'; exact of_decide_eq_false hb))) rfl rfl rfl rfl rfl ⟨rfl, rfl⟩ ?_
  rintro _ ⟨rfl, hb⟩
  have hlw := of_decide_eq_true hb
  refine G (T := T) 1000 rfl ?_
  exact Fp (T := T) (xr (aj ks)) ⟨.node l ks, hu, hlw, rfl⟩ rfl rfl
theorem ft_number (h : FTk pk) {s : ByteArray} (hs : s.size ≤ 1000000000) (hp : aR s = none → pk.ψ) : XP Tryz.prog pk 146 [xs s] (fun r => ∃ n, aR s = some n ∧ r = xi n) := by
  refine XP.en Tryz.func146 Tryz.ntmps146 (by rintro _ ⟨u, _, rfl⟩; rfl) (fun w0 own H V v0 hf => ?_)
  refine G (T := T) 1000 rfl ?_
  refine Ce (h.atoi s hs) rfl rfl rfl rfl rfl ⟨rfl, rfl⟩ ?_
  rintro _ (⟨n, hn, rfl⟩ | ⟨hn, n, t, v, rfl⟩)
  · refine G (T := T) 11 rfl ?_
    refine En true Tryz.underlying234 (.inl ⟨rfl, rfl⟩) rfl rfl ⟨rfl, rfl⟩ ?_
    refine G (T := T) 1000 rfl ?_
    refine Ce (cA h.pc (b := true) (fun hb => (by cases hb))) rfl rfl rfl rfl rfl ⟨rfl, rfl⟩ ?_
    rintro _ ⟨rfl, _⟩
    refine G (T := T) 1000 rfl ?_
    exact Fp (T := T) (xi n) ⟨n, hn, rfl⟩ rfl rfl
  · refine G (T := T) 11 rfl ?_
    refine En false Tryz.underlying234 (.inr ⟨rfl, _, _, rfl⟩) rfl rfl ⟨rfl, rfl⟩ ?_
    refine G (T := T) 1000 rfl ?_
    refine Ce (cA h.pc (b := false) (fun _ => hp hn)) rfl rfl rfl rfl rfl ⟨rfl, rfl⟩ ?_
    rintro _ ⟨rfl, hb⟩
    cases hb
theorem XP.toQ {P : Program} {f : FuncId} {args : List XV} {R : XV} {Ψ : XV → Prop} (h : XP P pk f args Ψ) (hr : ∀ r, Ψ r → r = R) (hp : pure R = true := by rfl) : XQ P pk f args R := by
  obtain ⟨h1, h2, h3, h4⟩ := h
  refine ⟨h1, by rintro _ rfl; exact hp, h3, ?_⟩
  intro B e1 e2 e3 sg vals q1 q2 q3 w hw
  refine Calls.mono (h4 B e1 e2 e3 sg vals q1 q2 q3 w hw) ?_
  rintro e w' (⟨v, r, hp', V', H', sg', e4, ⟨e5, e6⟩, e7⟩ | h)
  · exact .inl ⟨v, r, hp', V', H', sg', e4, ⟨hr r e5, e6⟩, e7⟩
  · exact .inr h
def uJ : Tr := .node w_u16 []
def aE (t : Tr) (i : Nat) : Tr := (t.kids[i]?).getD uJ
def eZ (s : ByteArray) : Int := (aR s).getD 0
def aN (t : Tr) (i : Nat) : List Tr := (aE t i).kids
theorem dk (h : FTk pk) {t : Tr} {i : Int} (h0 : 0 ≤ i) (hp : (t.kids)[i.toNat]? = none → pk.ψ) : XQ Tryz.prog pk 99 [xd (trd t), xi i] (xd (trd (aE t i.toNat))) :=
  (ft_kid h.pc h0 hp).toQ (by rintro _ ⟨u, hu, rfl⟩; rw [aE, hu]; rfl)
theorem dE (h : FTk pk) {s : ByteArray} (hs : s.size ≤ 1000000000) (hp : aR s = none → pk.ψ) : XQ Tryz.prog pk 146 [xs s] (xi (eZ s)) :=
  (ft_number h hs hp).toQ (by rintro _ ⟨n, hn, rfl⟩; rw [eZ, hn]; rfl)
theorem cO (h : FTk pk) {t : Tr} {i : Int} (h0 : 0 ≤ i) {w : ByteArray} (hp : (∀ u, t.kids[i.toNat]? = some u → lb u ≠ w) → pk.ψ) : XQ Tryz.prog pk 46 [xd (trd t), xi i, xs w] (xr (aj (aN t i.toNat))) :=
  (ft_listed h h0 hp).toQ (by rintro _ ⟨u, hu, _, rfl⟩; rw [aN, aE, hu]; rfl)
theorem gy (h : FTk pk) {t : Tr} {i : Int} (h0 : 0 ≤ i) (hs : (lb (aE t i.toNat)).size ≤ 1000000000) (hp : (t.kids[i.toNat]? = none ∨ aR (ah (lb (aE t i.toNat))) = none) → pk.ψ) : XQ Tryz.prog pk 104 [xd (trd t), xi i] (xi (eZ (ah (lb (aE t i.toNat))))) := by
  refine XQ.en Tryz.func104 Tryz.ntmps104 (fun w0 own H V v0 hf => ?_)
  refine G (T := T) 100001 rfl ?_
  refine (FzTo.bz 0 rfl).c ?_
  refine G (T := T) 1000 rfl ?_
  refine Cq (dk h h0 (t := t) (i := i) (fun hn => hp (.inl hn))) rfl rfl rfl rfl rfl ⟨rfl, rfl⟩ ?_
  refine G (T := T) 1000 rfl ?_
  refine Cq (bL h (t := aE t i.toNat) hs) rfl rfl rfl rfl rfl ⟨rfl, rfl⟩ ?_
  refine G (T := T) 1000 rfl ?_
  refine Cq (dE h (s := ah (lb (aE t i.toNat))) (gx hs) (fun hn => hp (.inr hn))) rfl rfl rfl rfl rfl ⟨rfl, rfl⟩ ?_
  refine G (T := T) 1000 rfl ?_
  exact Fe (T := T) rfl rfl
end
section
open Go Go.RowKit Go.Proofs K
variable {pk : Pk}
mutual
def lbO : Tr → Prop
  | .node l ks => l.size ≤ 1000000000 ∧ ks.length ≤ 100000000000 ∧ lbsO ks
def lbsO : List Tr → Prop
  | [] => True
  | t :: r => lbO t ∧ lbsO r
end
theorem aC : ∀ {l : List Tr} {t : Tr}, lbsO l → t ∈ l → lbO t
  | u :: us, t, h, hm => by
    rcases List.mem_cons.1 hm with rfl | hm
    · exact h.1
    · exact aC h.2 hm
def jTy : Tr → Ty4
  | .node L ks =>
    if ad L = w_u16 then .mk 1 eS 0 []
    else if ad L = w_u8 then .mk 2 eS 0 []
    else if ad L = w_s16 then .mk 3 eS 0 []
    else if ad L = w_void then .mk 7 eS 0 []
    else if ad L = em then .mk 4 (ah L) 0 []
    else .mk (if ad L = bZ then 5 else 6) eS (eZ (ah L)) [match ks with | [] => .mk 1 eS 0 [] | k :: _ => jTy k]
def hdJ : List Tr → Ty4
  | [] => .mk 1 eS 0 []
  | k :: _ => jTy k
theorem jTy_eq (L : ByteArray) (ks : List Tr) : jTy (.node L ks) = if ad L = w_u16 then .mk 1 eS 0 [] else if ad L = w_u8 then .mk 2 eS 0 [] else if ad L = w_s16 then .mk 3 eS 0 [] else if ad L = w_void then .mk 7 eS 0 [] else if ad L = em then .mk 4 (ah L) 0 []
    else .mk (if ad L = bZ then 5 else 6) eS (eZ (ah L)) [hdJ ks] := by
  cases ks <;> (unfold jTy; rfl)
theorem ft_leaf (h : FTk pk) : XQ Tryz.prog pk 103 [xd (trd uJ)] (xd (tyD (.mk 1 eS 0 []))) := by
  refine XQ.en Tryz.func103 Tryz.ntmps103 (fun w0 own H V v0 hf => ?_)
  refine G (T := T) 100001 rfl ?_
  refine (FzTo.bz 0 rfl).c ?_
  refine G (T := T) 1000 rfl ?_
  refine Cq (bL h (t := uJ) (by decide)) rfl rfl rfl rfl rfl ⟨rfl, rfl⟩ ?_
  rw [show ad (lb uJ) = w_u16 by decide]
  refine G (T := T) 1000 rfl ?_
  refine If rfl (fun _ => ?_) (fun h => ?_)
  · refine G (T := T) 1000 rfl ?_
    exact Fq (T := T) rfl rfl
  · exact absurd h (by decide)
theorem ft_type (h : FTk pk) : ∀ (n : Nat) (t : Tr), t.size ≤ n → lbO t → (fTy t = none → pk.ψ) → XQ Tryz.prog pk 103 [xd (trd t)] (xd (tyD (jTy t))) := by
  intro n
  induction n with
  | zero => intro t hn; cases t; simp only [Tr.size] at hn; omega
  | succ n ih =>
    rintro ⟨L, ks⟩ hn hl hp
    have hps : (ah L).size ≤ 1000000000 := gx hl.1
    refine XQ.en Tryz.func103 Tryz.ntmps103 (fun w0 own H V v0 hf => ?_)
    refine G (T := T) 100001 rfl ?_
    refine (FzTo.bz 0 rfl).c ?_
    refine G (T := T) 1000 rfl ?_
    refine Cq (bL h (t := .node L ks) hl.1) rfl rfl rfl rfl rfl ⟨rfl, rfl⟩ ?_
    rw [jTy_eq]
    simp only [fTy] at hp
    generalize hW : ad L = W at hp ⊢
    rw [show lb (.node L ks) = L from rfl, hW]
    refine G (T := T) 1000 rfl ?_
    refine If rfl (fun h1 => ?_) (fun h1 => ?_)
    · rw [if_pos (of_decide_eq_true h1)]
      refine G (T := T) 1000 rfl ?_
      exact Fq (T := T) rfl rfl
    rw [if_neg (of_decide_eq_false h1)]; rw [if_neg (of_decide_eq_false h1)] at hp
    refine G (T := T) 1000 rfl ?_
    refine If rfl (fun h1 => ?_) (fun h1 => ?_)
    · rw [if_pos (of_decide_eq_true h1)]
      refine G (T := T) 1000 rfl ?_
      exact Fq (T := T) rfl rfl
    rw [if_neg (of_decide_eq_false h1)]; rw [if_neg (of_decide_eq_false h1)] at hp
    refine G (T := T) 1000 rfl ?_
    refine If rfl (fun h1 => ?_) (fun h1 => ?_)
    · rw [if_pos (of_decide_eq_true h1)]
      refine G (T := T) 1000 rfl ?_
      exact Fq (T := T) rfl rfl
    rw [if_neg (of_decide_eq_false h1)]; rw [if_neg (of_decide_eq_false h1)] at hp
    refine G (T := T) 1000 rfl ?_
    refine If rfl (fun h1 => ?_) (fun h1 => ?_)
    · rw [if_pos (of_decide_eq_true h1)]
      refine G (T := T) 1000 rfl ?_
      exact Fq (T := T) rfl rfl
    rw [if_neg (of_decide_eq_false h1)]; rw [if_neg (of_decide_eq_false h1)] at hp
    refine G (T := T) 1000 rfl ?_
    refine If rfl (fun h1 => ?_) (fun h1 => ?_)
    · rw [if_pos (of_decide_eq_true h1)]
      refine G (T := T) 1000 rfl ?_
      exact Fq (T := T) rfl rfl
    rw [if_neg (of_decide_eq_false h1)]; rw [if_neg (of_decide_eq_false h1)] at hp
    refine G (T := T) 1000 rfl ?_
    have hA : W = bZ ∨ W = fe → aR (ah L) = none → pk.ψ := fun hw e => hp (by rw [if_pos hw, e]; rfl)
    have hK : W = bZ ∨ W = fe → (Tr.node L ks).kids[(0 : Int).toNat]? = none → pk.ψ := fun hw e => hp (by
      rw [if_pos hw]
      cases ks with
      | nil => cases aR (ah L) <;> rfl
      | cons k r => cases e)
    have hT : W = bZ ∨ W = fe → XQ Tryz.prog pk 103 [xd (trd (aE (.node L ks) (0 : Int).toNat))] (xd (tyD (hdJ ks))) := fun hw => by
      cases ks with
      | nil => exact ft_leaf h
      | cons k r =>
        refine ih k ?_ hl.2.2.1 (fun e => hp ?_)
        · simp only [Tr.size, Tr.sizes] at hn; omega
        · rw [if_pos hw]
          show (aR (ah L)).bind (fun n => Option.map _ (fTy k)) = none
          rw [e]; cases aR (ah L) <;> rfl
    generalize hdJ ks = ty at hT ⊢
    refine If rfl (fun h1 => ?_) (fun h1 => ?_)
    · have hw := of_decide_eq_true h1
      rw [if_pos hw]
      refine G (T := T) 1000 rfl ?_
      refine Cq (dE h hps (hA (.inl hw))) rfl rfl rfl rfl rfl ⟨rfl, rfl⟩ ?_
      refine G (T := T) 1000 rfl ?_
      refine Cq (dk h (t := .node L ks) (i := 0) (by omega) (hK (.inl hw))) rfl rfl rfl rfl rfl ⟨rfl, rfl⟩ ?_
      refine G (T := T) 1000 rfl ?_
      refine Cq (hT (.inl hw)) rfl rfl rfl rfl rfl ⟨rfl, rfl⟩ ?_
      refine G (T := T) 1000 rfl ?_
      exact Fq (T := T) rfl rfl
    · have hna := of_decide_eq_false h1
      rw [if_neg hna]
      refine G (T := T) 1000 rfl ?_
      refine Ce (cA h.pc (b := decide (W = fe)) (fun hb => hp (by rw [if_neg (fun hw => hw.elim hna (of_decide_eq_false hb))]))) rfl rfl rfl rfl rfl ⟨rfl, rfl⟩ ?_
      rintro _ ⟨rfl, hb⟩
      have hw := of_decide_eq_true hb
      refine G (T := T) 1000 rfl ?_
      refine Cq (dE h hps (hA (.inr hw))) rfl rfl rfl rfl rfl ⟨rfl, rfl⟩ ?_
      refine G (T := T) 1000 rfl ?_
      refine Cq (dk h (t := .node L ks) (i := 0) (by omega) (hK (.inr hw))) rfl rfl rfl rfl rfl ⟨rfl, rfl⟩ ?_
      refine G (T := T) 1000 rfl ?_
      refine Cq (hT (.inr hw)) rfl rfl rfl rfl rfl ⟨rfl, rfl⟩ ?_
      refine G (T := T) 1000 rfl ?_
      exact Fq (T := T) rfl rfl
def ib (t : Tr) : Par := ⟨ah (lb t), jTy (aE t 0)⟩
theorem bj {α : Type} {ks : List Tr} {i : Nat} {f : Tr → Option α} (h : ks[i]? = none) : aI ks i f = none := by rw [aI, h]; rfl
theorem gz (h : FTk pk) {t : Tr} (hl : lbO t) (i : Int) (hp : aI t.kids i.toNat fTy = none → pk.ψ) : XQ Tryz.prog pk 103 [xd (trd (aE t i.toNat))] (xd (tyD (jTy (aE t i.toNat)))) := by
  obtain ⟨L, ks⟩ := t
  cases hk : ks[i.toNat]? with
  | none =>
    rw [show aE (.node L ks) i.toNat = uJ by rw [aE]; show (ks[i.toNat]?).getD uJ = uJ; rw [hk]; rfl, show jTy uJ = .mk 1 eS 0 [] by rw [uJ, jTy_eq, if_pos (by decide)]]
    exact ft_leaf h
  | some k =>
    rw [show aE (.node L ks) i.toNat = k by rw [aE]; show (ks[i.toNat]?).getD uJ = k; rw [hk]; rfl]
    exact ft_type h k.size k (Nat.le_refl _) (aC hl.2.2 (List.mem_of_getElem? hk)) (fun e => hp (by rw [aI]; show (ks[i.toNat]?).bind fTy = none; rw [hk]; exact e))
theorem nR (h : FTk pk) {t : Tr} (hl : lbO t) (hp : fPar t = none → pk.ψ) : XQ Tryz.prog pk 102 [xd (trd t)] (xd (paD (ib t))) := by
  obtain ⟨L, ks⟩ := t
  have hp2 : aI (Tr.node L ks).kids (0 : Int).toNat fTy = none → pk.ψ := fun e => hp (by show (aI ks 0 fTy).map _ = none; rw [show aI ks 0 fTy = none from e]; rfl)
  refine XQ.en Tryz.func102 Tryz.ntmps102 (fun w0 own H V v0 hf => ?_)
  refine G (T := T) 100001 rfl ?_
  refine (FzTo.bz 0 rfl).c ?_
  refine G (T := T) 1000 rfl ?_
  refine Cq (bL h (t := .node L ks) hl.1) rfl rfl rfl rfl rfl ⟨rfl, rfl⟩ ?_
  refine G (T := T) 1000 rfl ?_
  refine Cq (dk h (t := .node L ks) (i := 0) (by omega) (fun e => hp2 (bj e))) rfl rfl rfl rfl rfl ⟨rfl, rfl⟩ ?_
  refine G (T := T) 1000 rfl ?_
  refine Cq (gz h (t := .node L ks) hl 0 hp2) rfl rfl rfl rfl rfl ⟨rfl, rfl⟩ ?_
  refine G (T := T) 1000 rfl ?_
  exact Fq (T := T) rfl rfl
end
section
open Go Go.RowKit Go.Proofs K
variable {pk : Pk}
abbrev dfB (S : List Tr) (QM : Obj → Prop) : XH := [⟨0, 0, .cells [.m 1 0, .m 2 0] 104⟩, ⟨1, 0, .mp (QI S)⟩, ⟨2, 0, .mp QM⟩]
abbrev MeasT (pk : Pk) (t : Tr) : Prop := ∀ (S : List Tr) (QM : Obj → Prop), ClS S → S.length + t.size ≤ 4000000 → XM Tryz.prog pk 41 [.a (.c (.p 0 0 0)), xd (trd t)] (dfB S QM) 3 3 (fun r hp' => r = .a (.c (.d (.p (szD (mS t S) t)))) ∧ hp' = dfB (mS t S) QM)
abbrev mB (l : ByteArray) (ks S : List Tr) (QM : Obj → Prop) (q : Nat) (R : List (List D)) (m : Int) : XH := [⟨0, 0, .cells [.m 1 0, .m 2 0] 104⟩, ⟨1, 0, .mp (QI S)⟩, ⟨2, 0, .mp QM⟩, ⟨4, 0, .cells [.d (.c (.string l)), .d (.c (.int .i64 0)), .d (.c (.int .i64 m)), .l 5 0 1 0 q q, .d (.c (.string l)), .d (.s (aj ks))] 166⟩, ⟨5, 0, .row q R 106 1⟩]
structure MI (S ks : List Tr) (q : Nat × List (List D) × ByteArray × Int) : Prop where
  le : q.1 ≤ ks.length
  R : q.2.1 = (ks.take q.1).map (szp (mSL (ks.take q.1) S))
  k : q.2.2.1 = bb (fy ((ks.take q.1).map (mSL (ks.take q.1) S).idxOf))
  m : q.2.2.2 = ((Tr.sizes (ks.take q.1) + 1 : Nat) : Int)
theorem iH (hT : ∀ H, pk.hy H → TabH H) : ∀ (n : Nat) (t : Tr), t.size ≤ n → t.size ≤ 1000000 → lbO t → MeasT pk t := by
  intro n
  induction n with
  | zero => intro t h; have := t.size_pos; omega
  | succ n ih =>
    rintro ⟨l, ks⟩ hn hs hl S QM hcl hS
    rw [al]
    refine XM.en Tryz.func41 Tryz.ntmps41 (fun w0 own H V v0 hf => ?_)
    refine Gs (T := T) 100001 rfl ?_
    refine (FzTo.bz 3 rfl).c ?_
    refine G (T := T) 6 rfl ?_
    refine (Nrh 4 3 106 1 rfl rfl rfl rfl rfl).r ?_
    refine G (T := T) 1000 rfl ?_
    refine Lq [0, 3, 5, 18, 19] (fun (q : Nat × List (List D) × ByteArray × Int) r => (6, xs q.2.2.1) :: (20, xi (q.1 : Nat)) :: r) (fun q => mB l ks (mSL (ks.take q.1) S) QM q.1 q.2.1 q.2.2.2) 6 (MI S ks) (fun q => ks.length - q.1) (0, [], ⟨#[]⟩, 1) rfl ⟨Nat.zero_le _, rfl, rfl, rfl⟩ ?_
    rintro ⟨j, R, kb, m⟩ ⟨hj, hR, hkb, hm⟩; dsimp only at hj hR hkb hm ⊢
    refine G (T := T) 1000 rfl ?_
    refine If rfl (fun h => ?_) (fun h => ?_)
    · have hjl := of_decide_eq_true h; rw [List.length_map] at hjl
      obtain ⟨y, hy⟩ := ae (l := ks) (j := j) (by omega)
      refine G (T := T) 1000 rfl ?_
      refine Ix (T := T) j (ab hy) rfl rfl rfl rfl ⟨rfl, rfl⟩ rfl rfl ?_
      refine G (T := T) 26 rfl ?_
      obtain ⟨X, hX⟩ := mS_ext y (mSL (ks.take j) S)
      have hsz1 := Tr.sizes_take ks j y hy
      have hsz2 := Tr.sizes_take_le ks (j + 1)
      have hsl := gk (ks.take j) S
      have hlo := aC hl.2.2 (List.mem_of_getElem? hy)
      simp only [Tr.size] at hn hs hS
      have hc := ih y (Tr.size_kid (l := l) (List.mem_of_getElem? hy) (by simpa only [Tr.size] using hn)) (by omega) hlo (mSL (ks.take j) S) QM (j4 _ hcl) (by omega)
      rw [c6 _ y] at hc
      refine Ckz [0, 1, 2] (dfB (mSL (ks.take (j + 1)) S) QM) hc rfl rfl rfl rfl rfl rfl rfl ⟨⟨rfl, rfl⟩, rfl⟩ (by rw [j0 hy]; rfl) rfl ?_
      have hkl := Tr.len_le ks
      have hil := Nat.lt_of_lt_of_le (List.idxOf_lt_length_of_mem (mS_mem y (mSL (ks.take j) S))) (mS_len y (mSL (ks.take j) S))
      refine G (T := T) 53 rfl ?_
      refine Cq (dA hT (by omega) (by omega)) rfl rfl rfl rfl rfl ⟨rfl, rfl⟩ ?_
      have hd1 : (bd ((List.idxOf y (mS y (mSL (ks.take j) S)) : Nat) : Int).toNat).size ≤ 1000 := Nat.le_trans (g5 (by show _ < 100000000000000000000; omega)) (by decide)
      have hd2 : kb.size ≤ 21 * 1000000 := by
        have := jY (l := (ks.take j).map (mSL (ks.take j) S).idxOf) (fun i hi => by
          obtain ⟨z, hz, rfl⟩ := List.mem_map.1 hi
          have := List.idxOf_lt_length_of_mem (dV S z hz)
          show _ < 100000000000000000000
          omega)
        rw [List.length_map, List.length_take] at this
        rw [hkb, dO]; omega
      have hd3 : (bd ((List.idxOf y (mS y (mSL (ks.take j) S)) : Nat) : Int).toNat ++ (⟨#[44]⟩ : ByteArray)).size ≤ 1001 := by rw [ByteArray.size_append]; exact Nat.add_le_add hd1 (Nat.le_refl 1)
      have h44 : (⟨#[44]⟩ : ByteArray).size = 1 := rfl
      refine G (T := T) 1000 rfl ?_
      refine Nq (j + 1, _, _, _) ⟨by omega, ?_, ?_, ?_⟩ (by show _ - (j + 1) < _ - j; omega) ⟨⟨_, _, rfl, rfl⟩, rfl, rfl⟩
      · dsimp only
        rw [hR, j0 hy, aH (szp _) hy, hX, szm_ext (j4 _ hcl) (dV S), szp, c6]
      · dsimp only
        rw [hkb, j0 hy, aH (List.idxOf · _) hy, iC, hX, List.map_congr_left fun k hk => l6 (dV S k hk)]
        show _ ++ (bb _ ++ bb [44]) = _
        rw [dn, dn]
        rfl
      · dsimp only
        rw [hm, hsz1]; omega
    · have hjl := of_decide_eq_false h; rw [List.length_map] at hjl
      obtain rfl : j = ks.length := by omega
      rw [List.take_length] at hR hkb hm ⊢
      have hkk : ∀ k ∈ (Tr.node l ks).kids, k ∈ mSL ks S := dV S
      have hkey : shX (mSL ks S) (.node l ks) = .agg #[.string l, .string kb] := by rw [hkb]; rfl
      have hkb2 : kb.size ≤ 9223372036854775807 := by
        have := jY (l := ks.map (mSL ks S).idxOf) (fun i hi => by
          obtain ⟨z, hz, rfl⟩ := List.mem_map.1 hi
          have h1 := List.idxOf_lt_length_of_mem (dV S z hz)
          have h2 := gk ks S
          simp only [Tr.size] at hS
          show _ < 100000000000000000000
          omega)
        have hkl := Tr.len_le ks
        simp only [Tr.size] at hs
        rw [List.length_map] at this
        rw [hkb, dO]; omega
      have hk5 := key115 (a := l) (b := kb) (Nat.le_trans hl.1 (by decide)) hkb2
      rw [← hkey] at hk5
      by_cases hin : Tr.node l ks ∈ mSL ks S
      · have hmS : mS (.node l ks) S = mSL ks S := by rw [mS, if_pos hin]
        rw [hmS, c6, gq]
        subst hR hm
        have hR5 : ∀ o, QI (mSL ks S) o → ∃ n f, MapR Tryz.prog 175 3 o n f ∧ ∀ V H, XV.rel V H (.t [.c (.d (.c (.int .i64 ((mSL ks S).idxOf (.node l ks) : Nat)))), .c (.d (.c (.bool true)))]) (if true then .tuple #[(f (shX (mSL ks S) (.node l ks))).getD (.int .i64 0), .bool (f (shX (mSL ks S) (.node l ks))).isSome] else (f (shX (mSL ks S) (.node l ks))).getD (.int .i64 0)) := fun o ⟨f, h1, h2⟩ => ⟨_, f, h2, fun V H => by
          rw [h1.get hin]; exact ⟨_, rfl, ⟨rfl, rfl⟩, ⟨rfl, rfl⟩, trivial⟩⟩
        rw [hkey] at hR5 hk5
        refine G (T := T) 66 rfl ?_
        refine Lw (T := T) _ K115 hk5 zero3 hR5 rfl rfl rfl rfl rfl rfl ⟨rfl, rfl⟩ ?_
        refine G (T := T) 1000 rfl ?_
        refine IfF rfl rfl ?_
        refine G (T := T) 1000 rfl ?_
        refine MS.fze 5 rfl ?_ (by repeat' (first | exact trivial | apply And.intro | rfl))
        refine (FzTo.bz 4 rfl).e ?_
        exact Fm (T := T) id _ _ ⟨rfl, rfl⟩ rfl ⟨⟨_, _, rfl, rfl⟩, rfl, rfl⟩
      · have hmS : mS (.node l ks) S = mSL ks S ++ [.node l ks] := by rw [mS, if_neg hin]
        have hsl := gk ks S
        rw [hmS, c6, gq, idx_new hin, szm_ext (l := (Tr.node l ks).kids) (j4 ks hcl) hkk]
        subst hR hm
        have hR5 : ∀ o, QI (mSL ks S) o → ∃ n f, MapR Tryz.prog 175 3 o n f ∧ ∀ V H, XV.rel V H (.t [.c (.d (.c (.int .i64 0))), .c (.d (.c (.bool false)))]) (if true then .tuple #[(f (shX (mSL ks S) (.node l ks))).getD (.int .i64 0), .bool (f (shX (mSL ks S) (.node l ks))).isSome] else (f (shX (mSL ks S) (.node l ks))).getD (.int .i64 0)) := fun o ⟨f, h1, h2⟩ => ⟨_, f, h2, fun V H => by
          rw [h1.miss hin hkk]; exact ⟨_, rfl, ⟨rfl, rfl⟩, ⟨rfl, rfl⟩, trivial⟩⟩
        have hR6 : ∀ o, QI (mSL ks S) o → ∃ n f f', MapR Tryz.prog 175 3 o n f ∧ n < maxLen ∧ f (shX (mSL ks S) (.node l ks)) = none ∧ f' (shX (mSL ks S) (.node l ks)) = some (.int .i64 ((mSL ks S).length : Nat)) ∧ (∀ s, s ≠ shX (mSL ks S) (.node l ks) → f' s = f s) ∧ ∀ o', MapR Tryz.prog 175 3 o' (n + 1) f' → QI (mSL ks S ++ [.node l ks]) o' := fun o ⟨f, h1, h2⟩ => ⟨_, f, _, h2, by
          simp only [Tr.size] at hS hs
          show _ < 9223372036854775807
          omega, h1.miss hin hkk, kK .., fun s h3 => fh _ _ _ _ h3, fun o' h3 => ⟨_, h1.add hin hkk, by rw [List.length_append]; exact h3⟩⟩
        rw [hkey] at hR5 hR6 hk5
        refine G (T := T) 66 rfl ?_
        refine Lw (T := T) _ K115 hk5 zero3 hR5 rfl rfl rfl rfl rfl rfl ⟨rfl, rfl⟩ ?_
        refine G (T := T) 1000 rfl ?_
        refine IfT rfl rfl ?_
        refine G (T := T) 75 rfl ?_
        refine Lm (T := T) (kt := 175) (e := 3) (mSL ks S).length (fun o ⟨f, _, h2⟩ => ⟨f, h2⟩) rfl rfl rfl rfl ⟨rfl, rfl⟩ ?_
        refine G (T := T) 1000 rfl ?_
        refine Mw (T := T) _ K115 hk5 hR6 rfl rfl rfl rfl rfl rfl rfl rfl rfl ⟨rfl, rfl⟩ ?_
        refine G (T := T) 1000 rfl ?_
        refine MS.fze 5 rfl ?_ (by repeat' (first | exact trivial | apply And.intro | rfl))
        refine (FzTo.bz 4 rfl).e ?_
        exact Fm (T := T) id _ _ ⟨rfl, rfl⟩ rfl ⟨⟨_, _, rfl, rfl⟩, rfl, rfl⟩
end
end Go.Proofs.YtlmahofogapkgaaGreatDoor.X
namespace Go.Proofs.YtlmahofogapkgaaGreatDoor.K
open Go Go.RowKit Go.Proofs
def fro : List Tr → List Tr → Nat
  | x :: a, y :: b => if x = y then fro a b + 1 else 0
  | _, _ => 0
theorem fro_is : ∀ {a b : List Tr} {i : Nat}, i ≤ a.length → i ≤ b.length → a.take i = b.take i → (a.length ≤ i ∨ b.length ≤ i ∨ a[i]? ≠ b[i]?) → fro a b = i
  | [], b, i, h1, _, _, _ => by simp at h1; subst h1; cases b <;> rfl
  | x :: a, [], i, _, h2, _, _ => by simp at h2; subst h2; rfl
  | x :: a, y :: b, 0, _, _, _, h => by
    simp at h
    simp only [fro]
    rw [if_neg h]
  | x :: a, y :: b, i + 1, h1, h2, h3, h => by
    simp only [List.take_succ_cons, List.cons.injEq] at h3
    simp only [fro]
    rw [if_pos h3.1, fro_is (by simpa using h1) (by simpa using h2) h3.2 (by simpa using h)]
theorem fro_le : ∀ (a b : List Tr), fro a b ≤ a.length ∧ fro a b ≤ b.length
  | [], b => by cases b <;> simp [fro]
  | x :: a, [] => by simp [fro]
  | x :: a, y :: b => by
    have := fro_le a b
    simp only [fro]
    split
    · simp; omega
    · simp
def rv (f : Nat) (a : List Tr) : List Tr := (a.drop f).reverse
def bak (f : Nat) (a b : List Tr) : Nat := fro (rv f a) (rv f b)
theorem rv_len (f : Nat) (a : List Tr) : (rv f a).length = a.length - f := by simp [rv]
theorem rv_at {f : Nat} {a : List Tr} {k : Nat} (h : k < a.length - f) : (rv f a)[k]? = a[a.length - 1 - k]? := by
  have h1 : k < (a.drop f).length := by simp; omega
  unfold rv
  rw [List.getElem?_reverse h1, List.getElem?_drop, List.length_drop]
  congr 1
  omega
theorem idx_eq {S : List Tr} {x y : Tr} (hx : x ∈ S) (hy : y ∈ S) : ((S.idxOf x : Int) = (S.idxOf y : Int)) ↔ x = y :=
  ⟨fun h => idx_inj hx hy (by omega), fun h => by rw [h]⟩
section
variable {P : Program} {w0 : World} {N : Nat} {Q : Exit → Act → World → Prop} {env : Env} {own : List Seg} {H : Hp} {ops : Array Oper} {rest : List Oper}
variable {d : Option Tmp} {ty : TypeId} {pos : String} {af : Array Edge}
end
end Go.Proofs.YtlmahofogapkgaaGreatDoor.K
namespace Go.Proofs.YtlmahofogapkgaaGreatDoor.X
section
open Go Go.RowKit Go.Proofs K
variable {pk : Pk}
theorem i7 {S a : List Tr} {i : Nat} {x : Tr} (h : a[i]? = some x) : (a.map (szp S))[i]? = some [.p [.c (.string x.lab), .c (.int .i64 (S.idxOf x : Nat)), .c (.int .i64 (x.size : Nat)), .s (szR S x.kids), .c (.string x.lab), .s (aj x.kids)]] := by
  rw [List.getElem?_map, h, ← c6]; rfl
def onF (a b : List Tr) (i : Nat) : Bool := decide (i < a.length) && (decide (i < b.length) && decide (a[i]? = b[i]?))
theorem nS {a b : List Tr} {i : Nat} (h : onF a b i = true) : i < a.length ∧ i < b.length ∧ a[i]? = b[i]? := by
  simp only [onF, Bool.and_eq_true, decide_eq_true_eq] at h
  exact h
theorem lg {a b : List Tr} {i : Nat} (h : onF a b i = false) : a.length ≤ i ∨ b.length ≤ i ∨ a[i]? ≠ b[i]? := by
  simp only [onF, Bool.and_eq_false_iff, decide_eq_false_iff_not, Nat.not_lt] at h
  exact h
theorem trim_f {S a b : List Tr} (ha : a.length ≤ 1000000) (hb : b.length ≤ 1000000) (hSa : ∀ x ∈ a, x ∈ S) (hSb : ∀ x ∈ b, x ∈ S) : XQ Tryz.prog pk 93 [xr (a.map (szp S)), xr (b.map (szp S))] (.t [.c (.d (.c (.int .i64 (fro a b : Nat)))), .c (.d (.c (.int .i64 (bak (fro a b) a b : Nat))))]) := by
  have hfl := fro_le a b
  have hma : (a.map (szp S)).length = a.length := List.length_map ..
  have hmb : (b.map (szp S)).length = b.length := List.length_map ..
  refine XQ.en Tryz.func93 Tryz.ntmps93 (fun w0 own H V v0 hf => ?_)
  refine G (T := T) 200000 rfl ?_
  refine Cf [0, 1] (fun (_ : Unit) r => (4, xi (fro a b : Nat)) :: (5, xi 0) :: r) (fun _ => []) 0 (fun _ => True) rfl ?_ ?_
  · refine G (T := T) 1000 rfl ?_
    refine Lq [0, 1, 5] (fun q r => (4, xi (q : Nat)) :: r) (fun q => []) 0 (fun q => q ≤ a.length ∧ q ≤ b.length ∧ a.take q = b.take q) (fun q => a.length - q) 0 rfl ⟨Nat.zero_le _, Nat.zero_le _, by simp⟩ ?_
    rintro j ⟨hj1, hj2, hj3⟩
    refine MC.seq ?_
    refine Cu [0, 1, 4, 5] (fun (_ : Unit) r => (32, xb (onF a b j)) :: r) (fun _ => []) 0 (fun _ => True) rfl ?_ ?_
    · refine G (T := T) 10 rfl ?_
      refine Sp 9 rfl (fun h => ?_) (fun h => ?_)
      · have h1 := of_decide_eq_true h; rw [List.length_map] at h1
        obtain ⟨x, hx⟩ := ae (l := a) (j := j) (by omega)
        refine G (T := T) 15 rfl ?_
        refine Sp 14 rfl (fun h => ?_) (fun h => ?_)
        · have h2 := of_decide_eq_true h; rw [List.length_map] at h2
          obtain ⟨y, hy⟩ := ae (l := b) (j := j) (by omega)
          refine G (T := T) 1000 rfl ?_
          refine Ix (T := T) j (i7 hx) rfl rfl rfl rfl ⟨rfl, rfl⟩ rfl rfl ?_
          refine G (T := T) 1000 rfl ?_
          refine Ix (T := T) j (i7 hy) rfl rfl rfl rfl ⟨rfl, rfl⟩ rfl rfl ?_
          refine G (T := T) 1000 rfl ?_
          have e1 : onF a b j = decide ((S.idxOf x : Int) = (S.idxOf y : Int)) := by
            unfold onF
            rw [hx, hy, decide_eq_true (by omega), decide_eq_true (by omega), Bool.true_and, Bool.true_and]
            refine decide_eq_decide.2 ?_
            rw [idx_eq (hSa _ (List.mem_of_getElem? hx)) (hSb _ (List.mem_of_getElem? hy))]
            exact ⟨fun h => by injection h, fun h => by rw [h]⟩
          rw [e1]
          exact Dn () trivial
        · have h2 := of_decide_eq_false h; rw [List.length_map] at h2
          refine G (T := T) 1000 rfl ?_
          rw [show onF a b j = false by rw [onF, decide_eq_false (p := j < b.length) (by omega), Bool.false_and, Bool.and_false]]
          exact Dn () trivial
      · have h1 := of_decide_eq_false h; rw [List.length_map] at h1
        refine G (T := T) 1000 rfl ?_
        rw [show onF a b j = false by rw [onF, decide_eq_false (p := j < a.length) (by omega), Bool.false_and]]
        exact Dn () trivial
    · rintro ⟨⟩ -
      refine G (T := T) 1000 rfl ?_
      refine If rfl (fun h => ?_) (fun h => ?_)
      · obtain ⟨h1, h2, h3⟩ := nS h
        refine G (T := T) 1000 rfl ?_
        exact Nq (j + 1) ⟨by omega, by omega, by rw [List.take_add_one, List.take_add_one, h3, hj3]⟩ (by show _ - (j + 1) < _ - j; omega)
      · have hz := fro_is hj1 hj2 hj3 (lg h)
        subst hz
        refine G (T := T) 1000 rfl ?_
        exact Dn () trivial
  · rintro ⟨⟩ -
    refine G (T := T) 200002 rfl ?_
    refine Cf [4] (fun (_ : Unit) r => (5, xi (bak (fro a b) a b : Nat)) :: r) (fun _ => []) 0 (fun _ => True) rfl ?_ ?_
    · refine G (T := T) 1000 rfl ?_
      generalize hfe : fro a b = f at *
      have hra := rv_len f a
      have hrb := rv_len f b
      refine Lq [0, 1, 4] (fun q r => (5, xi (q : Nat)) :: r) (fun q => []) 0 (fun q => q ≤ (rv f a).length ∧ q ≤ (rv f b).length ∧ (rv f a).take q = (rv f b).take q) (fun q => (rv f a).length - q) 0 rfl ⟨Nat.zero_le _, Nat.zero_le _, by simp⟩ ?_
      rintro j ⟨hj1, hj2, hj3⟩
      refine MC.seq ?_
      refine Cu [0, 1, 4, 5] (fun (_ : Unit) r => (73, xb (onF (rv f a) (rv f b) j)) :: r) (fun _ => []) 0 (fun _ => True) rfl ?_ ?_
      · refine G (T := T) 41 rfl ?_
        refine Sp 40 rfl (fun h => ?_) (fun h => ?_)
        · have h1 := of_decide_eq_true h; rw [List.length_map] at h1
          obtain ⟨x, hx⟩ := ae (l := a) (j := a.length - 1 - j) (by omega)
          refine G (T := T) 48 rfl ?_
          refine Sp 47 rfl (fun h => ?_) (fun h => ?_)
          · have h2 := of_decide_eq_true h; rw [List.length_map] at h2
            obtain ⟨y, hy⟩ := ae (l := b) (j := b.length - 1 - j) (by omega)
            have hx' := hx
            have hy' := hy
            rw [← rv_at (f := f) (by omega)] at hx' hy'
            refine G (T := T) 1000 rfl ?_
            refine Ix (T := T) (a.length - 1 - j) (i7 hx) rfl rfl rfl rfl ⟨rfl, rfl⟩ (by rw [List.length_map]; omega) rfl ?_
            refine G (T := T) 1000 rfl ?_
            refine Ix (T := T) (b.length - 1 - j) (i7 hy) rfl rfl rfl rfl ⟨rfl, rfl⟩ (by rw [List.length_map]; omega) rfl ?_
            refine G (T := T) 1000 rfl ?_
            have e1 : onF (rv f a) (rv f b) j = decide ((S.idxOf x : Int) = (S.idxOf y : Int)) := by
              unfold onF
              rw [hx', hy', decide_eq_true (by omega), decide_eq_true (by omega), Bool.true_and, Bool.true_and]
              refine decide_eq_decide.2 ?_
              rw [idx_eq (hSa _ (List.mem_of_getElem? hx)) (hSb _ (List.mem_of_getElem? hy))]
              exact ⟨fun h => by injection h, fun h => by rw [h]⟩
            rw [e1]
            exact Dn () trivial
          · have h2 := of_decide_eq_false h; rw [List.length_map] at h2
            refine G (T := T) 1000 rfl ?_
            rw [show onF (rv f a) (rv f b) j = false by rw [onF, decide_eq_false (p := j < (rv f b).length) (by omega), Bool.false_and, Bool.and_false]]
            exact Dn () trivial
        · have h1 := of_decide_eq_false h; rw [List.length_map] at h1
          refine G (T := T) 1000 rfl ?_
          rw [show onF (rv f a) (rv f b) j = false by rw [onF, decide_eq_false (p := j < (rv f a).length) (by omega), Bool.false_and]]
          exact Dn () trivial
      · rintro ⟨⟩ -
        refine G (T := T) 1000 rfl ?_
        refine If rfl (fun h => ?_) (fun h => ?_)
        · obtain ⟨h1, h2, h3⟩ := nS h
          refine G (T := T) 1000 rfl ?_
          exact Nq (j + 1) ⟨by omega, by omega, by rw [List.take_add_one, List.take_add_one, h3, hj3]⟩ (by show _ - (j + 1) < _ - j; omega)
        · have hz := fro_is hj1 hj2 hj3 (lg h)
          subst hz
          refine G (T := T) 1000 rfl ?_
          exact Dn () trivial
    · rintro ⟨⟩ -
      refine G (T := T) 1000 rfl ?_
      exact Fe (T := T) rfl rfl
end
open Go Go.RowKit Go.MapKept Go.ChangeMaps K
section
variable {P : Program} {pk : Pk} {T : Tb P} {Er : XE} {nx : Nat} {ops : Array Oper} {d : Option Tmp} {ty : TypeId} {pos : String} {af : Array Edge}
theorem LS.mkc {t : TypeId} {y z : Operand} {kl kc : IntKind} {jl : Int} {e by_ : Nat} (n : Nat) (dz : D) (hy : xev Er y = some (xv (.int kl jl))) (hz : xev Er z = some (xv (.int kc jl))) (ht : T.bt.get t = some (.sl e 1 by_)) (hj : jl = (n : Int)) (hb : by_ * n ≤ 281474976710656) (hm : n ≤ 9223372036854775807)
    (hzero : ∀ z : Value, Sl P t e 1 by_ z → ∀ H, rdL H [dz] z.cells.toList) :
    LS P pk ops { dst := d, op := .makeSlice t y z, type := ty, pos := pos, after := af, guard := none } Er [] nx (nx + 1) (fun x fp' => x = .a (.c (.l nx 0 1 0 n n)) ∧ fp' = [⟨nx, 0, .cells (List.replicate n (.d dz)) e⟩]) := by
  intro w0 N Q rest env own H V sg hl hV htp hf hd _ hh
  obtain ⟨v, h1, h2⟩ := hl.lks _ _ hy
  have := aP h2; subst this
  obtain ⟨w, h3, h4⟩ := hl.lks _ _ hz
  have := aP h4; subst this
  obtain ⟨zv, hS⟩ := be (BT.all_get T.ok ht)
  have hzc := hzero zv hS
  have hzs : zv.cells.size = 1 := hS.zs
  obtain rfl := HR0 hV
  refine TL.makeSlice n h1 h3 hj hb hm hd fun gn => ?_
  obtain ⟨u, hu⟩ : ∃ u, zv.cells = #[u] := by
    have : zv.cells.toList.length = 1 := by simpa using hzs
    match h9 : zv.cells.toList, this with
    | [u], _ => exact ⟨u, by rw [← Array.toList_inj, h9]⟩
  have hmade : madeCells zv.cells (n * 1) = (List.replicate n u).toArray := by
    refine Array.ext_getElem? fun q => ?_
    simp only [madeCells, List.getElem?_toArray, List.getElem?_replicate, Nat.mul_one]
    by_cases hq : q < n
    · simp [hq, hu, Nat.mod_one]
    · simp [hq]
  rw [hmade]
  obtain ⟨f1, f2, f3⟩ := bS (V := V) (H := H) (nx := nx) (g := gn) (ex := 0) (o := .cells (List.replicate n u).toArray e (0, 0)) (xo := .cells (List.replicate n (.d dz)) e) hf ⟨List.replicate n u, by
      have key : ∀ n : Nat, rels (V.new nx 0 (some gn, 0)) H (List.replicate n (.d dz)) (List.replicate n u) := by
        intro n
        induction n with
        | zero => exact trivial
        | succ n ih =>
          rw [List.replicate_succ, List.replicate_succ]
          refine ⟨?_, ih⟩
          have := hzc H
          rw [hu] at this
          simp only [XC.rel]
          exact this.1
      exact key n, rfl, rfl⟩
  exact TL.flat (own' := [(gn, .cells (List.replicate n u).toArray e (0, 0))] :: own) (List.Perm.refl _) (hh _ _ _ _ H _ ⟨rfl, rfl⟩ (by
    simp only [XV.rel, XA.rel, XC.rel]
    exact ⟨some gn, 0, Vn.new_at .., by simp⟩) f1 f2 f3 (Le.refl _))
theorem LS.iqc {t : TypeId} {o iv : Operand} {ki : IntKind} {jv : Int} {e by_ gp t0 n m e' : Nat} {c : List XC} (j : Nat)
    (ho : xev Er o = some (.a (.c (.l gp t0 1 0 n m)))) (hi : xev Er iv = some (xv (.int ki jv))) (ht : T.bt.get t = some (.sl e 1 by_)) (hj : jv = (j : Int)) (hlt : j < n) :
    LS P pk ops { dst := d, op := .indexAddr t o iv, type := ty, pos := pos, after := af, guard := none } Er [⟨gp, t0, .cells c e'⟩] nx nx (fun x fp' => x = .a (.c (.p gp t0 j)) ∧ fp' = [⟨gp, t0, .cells c e'⟩]) := by
  intro w0 N Q rest env own H V sg hl hV htp hf hd _ hh
  obtain ⟨v, h1, h2⟩ := hl.lks _ _ ho
  obtain ⟨w, h3, h4⟩ := hl.lks _ _ hi
  have := aP h4; subst this
  simp only [XV.rel, XA.rel, XC.rel] at h2
  obtain ⟨b, ex, h5, rfl⟩ := h2
  obtain ⟨z, hS⟩ := be (BT.all_get T.ok ht)
  obtain ⟨b', us, ex', rfl, h6, h7, rfl⟩ := HRc hV
  rw [h5] at h6
  cases h6
  rw [Option.map_some, Nat.zero_mul] at h1
  refine TL.indexAddr j h1 h3 hj hlt hd (hh _ _ _ V H _ ⟨rfl, rfl⟩ ?_ hV htp (VX.refl _ _ _) (Le.refl _))
  simp only [XV.rel, XA.rel, XC.rel]
  exact ⟨b', _, h5, by simp⟩
end
section
variable {P : Program} {x : Cx P} {T : Tb P} {k : List Fr} {E Er : XE} {hp hp' : XH} {nx i : Nat} {ops : List Oper} {dm : Option (List Rc)} {l : List (Nat × Oper)} {d : Tmp} {ty : TypeId} {pos : String} {af : Array Edge} {g : Option (Nat × Bool)} {t : TypeId} {o iv y z : Operand} {ki : IntKind} {jv : Int} {e by_ gp t0 n m e' : Nat} {c : List XC}
theorem Mzc {jl : Int} {kl kc : IntKind} (n : Nat) (dz : D) (hy : xev Er y = some (xv (.int kl jl))) (hz : xev Er z = some (xv (.int kc jl))) (hEr : vis dm ops { dst := some d, op := .makeSlice t y z, type := ty, pos := pos, after := af, guard := g } E = Er) (ht : T.bt.get t = some (.sl e 1 by_)) (hb : an ops Er g = some true ∧ okD x.N (some d) = true) (hj : jl = (n : Int)) (hbn : by_ * n ≤ 281474976710656) (hm : n ≤ 9223372036854775807) (hzero : ∀ z : Value, Sl P t e 1 by_ z → ∀ H, rdL H [dz] z.cells.toList)
    (hk : (MS.r ops (push dm ⟨i, [nx], true, false⟩) l k ⟨(d, .a (.c (.l nx 0 1 0 n n))) :: E, ⟨nx, 0, .cells (List.replicate n (.d dz)) e⟩ :: hp, nx + 1⟩).ok x) (hdk : DkM dm ops ⟨i, [nx], true, false⟩ := by first | exact trivial | (refine DK.mk ?_; decide +kernel)) : (MS.r ops dm ((i, { dst := some d, op := .makeSlice t y z, type := ty, pos := pos, after := af, guard := g }) :: l) k ⟨E, hp, nx⟩).ok x := by
  subst hEr
  have e0 : aa ([] : XH) ++ List.range' nx (nx + 1 - nx) = [nx] := by simp [aa]
  refine MS.op (fp := []) (rest := hp) true false hb.2 (.refl _) (Nat.le_succ _) (LS.yes (o := { dst := some d, op := .makeSlice t y z, type := ty, pos := pos, after := af, guard := g }) hb.1 (LS.mkc (T := T) n dz hy hz ht hj hbn hm hzero)) (by rw [e0]; exact hdk) (fun _ => ⟨_, _, ⟨rfl, rfl⟩, fun _ _ h => h⟩) (fun h => by cases h) ?_
  rintro q fp' ⟨rfl, rfl⟩
  refine ⟨fun b' hb' => .inr ?_, by simp [aa], fun h => (by cases h), _, .refl _, ?_⟩
  · obtain rfl := List.mem_singleton.1 hb'
    exact ⟨Nat.le_refl _, Nat.lt_succ_self _⟩
  · rw [e0]; exact hk
theorem Iqc (j : Nat) (ho : xev Er o = some (.a (.c (.l gp t0 1 0 n m)))) (hEr : vis dm ops { dst := some d, op := .indexAddr t o iv, type := ty, pos := pos, after := af, guard := g } E = Er) (hi : xev Er iv = some (xv (.int ki jv))) (hg : au hp gp = some ⟨gp, t0, .cells c e'⟩) (ht : T.bt.get t = some (.sl e 1 by_)) (hb : an ops Er g = some true ∧ okD x.N (some d) = true) (hj : jv = (j : Int)) (hlt : j < n)
    (hk : (MS.r ops (push dm ⟨i, [gp], false, false⟩) l k ⟨(d, .a (.c (.p gp t0 j))) :: E, hp, nx⟩).ok x) (hdk : DkM dm ops ⟨i, [gp], false, false⟩ := by first | exact trivial | (refine DK.mk ?_; decide +kernel)) : (MS.r ops dm ((i, { dst := some d, op := .indexAddr t o iv, type := ty, pos := pos, after := af, guard := g }) :: l) k ⟨E, hp, nx⟩).ok x :=
  MS.rd1 hg hEr hb (LS.iqc (T := T) j ho hi ht hj hlt) hdk hk
theorem HR.crow {V : Vn} {H : Hp} {g t e n : Nat} {c : List XC} {ds : List D} (hds : fg c = some ds) (hn : n = ds.length) (hm : n ≤ 9223372036854775807) : ∀ {hp hp' : XH} {sg : Seg}, au hp g = some ⟨g, t, .cells c e⟩ → bl hp g t (.row n (ds.map fun d => [d]) e 1) = some hp' → HR V H hp sg → HR V H hp' sg ∧ hp'.map (fun b => (b.g, b.t)) = hp.map fun b => (b.g, b.t)
  | [], _, _, h, _, _ => by cases h
  | ⟨g', t', o'⟩ :: r, hp', sg, h, hst, ⟨s1, s2, h0, h1, h2⟩ => by
    simp only [au] at h
    simp only [bl] at hst
    cases hb : Nat.beq g' g with
    | true =>
      rw [hb] at h hst
      simp only [cond_true, Option.some.injEq, XB.mk.injEq] at h hst
      obtain ⟨rfl, rfl, rfl⟩ := h
      subst hst
      rcases h1 with ⟨b, ob, ex, k1, k2, us, k3, rfl, rfl⟩ | ⟨_, _, _, _, k3, _⟩
      · have hfl : ∀ l : List D, (l.map fun d => [d]).flatten = l := fun l => by induction l with
          | nil => rfl
          | cons a l ih => rw [List.map_cons, List.flatten_cons, ih]; rfl
        refine ⟨⟨s1, s2, h0, .inl ⟨b, _, 0, k1, k2, us, [], by rw [List.length_map]; exact hn, by rw [hfl]; exact bY hds k3, fun q hq => ?_, by simp, by simp, by simpa [maxLen] using hm, Nat.one_pos⟩, h2⟩, rfl⟩
        obtain ⟨a, _, rfl⟩ := List.mem_map.1 hq
        rfl
      · cases k3
    | false =>
      rw [hb] at h hst
      simp only [cond_false] at h hst
      split at hst
      · rename_i l hl
        cases hst
        obtain ⟨k1, k2⟩ := HR.crow hds hn hm h hl h2
        exact ⟨⟨s1, s2, h0, h1, k1⟩, by simp only [List.map_cons, k2]⟩
      · cases hst
theorem SRto.cr {g t n : Nat} {ds : List D} (g0 : Nat) (hg : au hp g0 = some ⟨g, t, .cells c e⟩) (hgg : g = g0) (hds : fg c = some ds) (hn : n = ds.length) (hset' : bl hp g0 t (.row n (ds.map fun d => [d]) e 1) = some hp') (hm : n ≤ 9223372036854775807) : SRto ⟨E, hp, nx⟩ ⟨E, hp', nx⟩ := fun B V H sg env hs => by
  subst hgg
  obtain ⟨k1, k2⟩ := HR.crow hds hn hm hg hset' hs.hr
  exact ⟨V, hs.same k1 k2⟩
def Unr (x : Cx P) (c : Code) (k : List Fr) : Nat → XS → Prop
  | 0, _ => False
  | n + 1, s => (MS.c c (.l (fun m s' => m = n ∧ Unr x c k n s') (n + 1) :: k) s).ok x
theorem MC.unr {c : Code} {s : XS} (n : Nat) (h : Unr x c k n s) : MC x (.loop c) k s := fun V H sg env hs a w ha hw => by
  refine wp_loop_ghost (fun n a w => ∃ env own H, JJ x.B (Unr x c k) n env own H ∧ At x.N env a ∧ St x.B.w0 H own w) n ⟨env, _, H, ⟨s, V, sg, h, hs, rfl⟩, ha, hw⟩ ?_
  rintro n a w ⟨env, own, H, ⟨s, V, sg, hJ, hs, rfl⟩, ha, hw⟩
  cases n with
  | zero => exact hJ.elim
  | succ n =>
    refine wp_mono ((show MC x c _ s from hJ) V H sg env hs a w ha hw) ?_
    intro e a' w' hq
    cases e with
    | normal => obtain ⟨n', env, own, H, hlt, ⟨s2, V2, sg2, ⟨rfl, hJ'⟩, hs2, rfl⟩, ha', hw'⟩ := hq; exact ⟨n', hlt, env, _, H, ⟨s2, V2, sg2, hJ', hs2, rfl⟩, ha', hw'⟩
    | exit id => exact hq
    | goto l => exact hq
    | ret => exact hq
    | panic ch => exact hq
    | outgrown => exact hq
theorem Un {c : Code} {s : XS} (n : Nat) (h : (MS.c c (.l (fun m s' => m = n ∧ Unr x c k n s') (n + 1) :: k) s).ok x) : (MS.c (.loop c) k s).ok x := MC.unr (n + 1) h
theorem Nu {c : Code} {s : XS} {k' : List Fr} {n : Nat} (h : (MS.c c (.l (fun m s' => m = n ∧ Unr x c k' n s') (n + 1) :: k') s).ok x) : (MS.e .normal (.l (fun m s' => m = n + 1 ∧ Unr x c k' (n + 1) s') (n + 2) :: k) s).ok x :=
  fun V H sg env hs a w ha hw => ⟨n + 1, env, _, H, Nat.lt_succ_self _, ⟨s, V, sg, ⟨rfl, h⟩, hs, rfl⟩, ha, hw⟩
theorem nT {E : XE} : ∀ {ls : List Nat} {acc E1 : XE}, jD E ls acc = some E1 → ELe acc E → ELe E1 E
  | [], _, _, h, ha => by cases h; exact ha
  | t :: r, acc, E1, h, ha => by
    simp only [jD] at h
    split at h
    · rename_i v hv
      refine nT h fun j u hj => ?_
      simp only [xlk] at hj
      cases hb : Nat.beq t j with
      | true => rw [hb, cond_true] at hj; cases hj; rw [← Nat.eq_of_beq_eq_true hb]; exact hv
      | false => rw [hb] at hj; exact ha j u hj
    · cases h
theorem Ks {c : Code} {E1 : XE} (ls : List Nat) (hls : jD E ls [] = some E1) (h : (MS.c c k ⟨E1, hp, nx⟩).ok x) : (MS.c c k ⟨E, hp, nx⟩).ok x :=
  fun V H sg env hs => h V H sg env (hs.le_ (nT hls fun _ _ hj => by cases hj))
theorem TL.eqlPt {w0 : World} {N : Nat} {Q : Exit → Act → World → Prop} {env : Env} {own : List Seg} {H : Hp} {ops : Array Oper} {rest : List Oper} {d : Option Tmp} {af : Array Edge} {x y : Operand} {tx t' e : TypeId} {p : Option Addr} (hu : P.underlying tx = some (.pointer e)) (hx : ev env x = some (.pointer p)) (hy : ev env y = some (.pointer none)) (hd : okD N d = true)
    (h : TL P w0 N Q ops rest (aq d (.bool p.isNone) env) own H) :
    TL P w0 N Q ops ({ dst := d, op := .binOp .eql tx x y t', type := ty, pos := pos, after := af, guard := none } :: rest) env own H :=
  Qa hd (fun a ha w => by
    have hr : ∀ d, (Op.equalIn (d + 1) tx (.pointer p) (.pointer none)).run P w = .ok p.isNone w := fun d => by
      cases p <;> simp [Op.equalIn, run_underlying hu]
    have hr2 : (Op.equal tx (.pointer p) (.pointer none)).run P w = .ok p.isNone w := hr 9999
    simp [execOp, eqGuard, binOp, ha.ev hx, ha.ev hy, hr2]) h
theorem LS.eqz {pk : Pk} {ops : Array Oper} {y : Operand} {t t' e sz by_ : Nat} {yv : XC} {b : Bool} (ht : T.bt.get t = some (.sl e sz by_)) (hy : xev Er y = some (.a (.c yv))) (hv : (b = true ∧ yv = .z) ∨ (b = false ∧ ∃ r rs, yv = .d (.s (r :: rs)))) :
    LS P pk ops { dst := some d, op := .binOp .eql t y (.const (.slice none 0 0)) t', type := ty, pos := pos, after := af, guard := none } Er [] nx nx (fun x fp' => x = xb b ∧ fp' = []) := by
  intro w0 N Q rest env own H V sg hl hV htp hf hd _ hh
  obtain ⟨u, h1, h2⟩ := hl.lks _ _ hy
  obtain ⟨z, hS⟩ := be (BT.all_get T.ok ht)
  haveI := Und.mk hS.und
  have hh' := hh (.bool b) (xb b) _ V H sg ⟨rfl, rfl⟩ (by simp only [XV.rel, XA.rel, XC.rel, rd]; exact ⟨trivial, rfl⟩) hV htp (VX.refl _ _ _) (Le.refl _)
  simp only [XV.rel, XA.rel] at h2
  rcases hv with ⟨rfl, rfl⟩ | ⟨rfl, r, rs, rfl⟩
  · simp only [XC.rel] at h2
    subst h2
    exact TL.eqlNilB h1 rfl hd (fun _ => hh') (fun h => absurd rfl h)
  · simp only [XC.rel, rd] at h2
    obtain ⟨A, c, sz', rfl, _, _, h5⟩ := h2
    rcases h5 with h5 | ⟨b, o, rfl, _⟩
    · cases h5
    · exact TL.eqlNilB h1 rfl hd (fun h => by cases h) (fun _ => hh')
theorem Ez {t t' e sz by_ : Nat} (b : Bool) {yv : XC} (ht : T.bt.get t = some (.sl e sz by_)) (hv : (b = true ∧ yv = .z) ∨ (b = false ∧ ∃ r rs, yv = .d (.s (r :: rs)))) (hEr : vis dm ops { dst := some d, op := .binOp .eql t y (.const (.slice none 0 0)) t', type := ty, pos := pos, after := af, guard := g } E = Er) (hy : xev Er y = some (.a (.c yv))) (hb : an ops Er g = some true ∧ okD x.N (some d) = true)
    (hk : (MS.r ops (push dm ⟨i, [], false, false⟩) l k ⟨(d, xb b) :: E, hp, nx⟩).ok x) (hdk : DkM dm ops ⟨i, [], false, false⟩ := by first | exact trivial | (refine DK.mk ?_; decide +kernel)) :
    (MS.r ops dm ((i, { dst := some d, op := .binOp .eql t y (.const (.slice none 0 0)) t', type := ty, pos := pos, after := af, guard := g }) :: l) k ⟨E, hp, nx⟩).ok x := MS.val hEr hb (LS.eqz (T := T) ht hy hv) hdk hk
theorem LS.eqp {pk : Pk} {ops : Array Oper} {y : Operand} {t t' e : Nat} {yv : XC} {b : Bool} (hu : P.underlying t = some (.pointer e)) (hy : xev Er y = some (.a (.c yv))) (hv : (b = true ∧ yv = .d (.c (.pointer none))) ∨ (b = false ∧ ((∃ g t o, yv = .p g t o) ∨ ∃ xs, yv = .d (.p xs)))) :
    LS P pk ops { dst := some d, op := .binOp .eql t y (.const (.pointer none)) t', type := ty, pos := pos, after := af, guard := none } Er [] nx nx (fun x fp' => x = xb b ∧ fp' = []) := by
  intro w0 N Q rest env own H V sg hl hV htp hf hd _ hh
  obtain ⟨u, h1, h2⟩ := hl.lks _ _ hy
  have hh' := hh (.bool b) (xb b) _ V H sg ⟨rfl, rfl⟩ (by simp only [XV.rel, XA.rel, XC.rel, rd]; exact ⟨trivial, rfl⟩) hV htp (VX.refl _ _ _) (Le.refl _)
  simp only [XV.rel, XA.rel] at h2
  rcases hv with ⟨rfl, rfl⟩ | ⟨rfl, ⟨g, t, o, rfl⟩ | ⟨xs, rfl⟩⟩
  · simp only [XC.rel, rd] at h2
    obtain ⟨rfl, _⟩ := h2
    exact TL.eqlPt hu h1 rfl hd hh'
  · simp only [XC.rel] at h2
    obtain ⟨b, ex, _, rfl⟩ := h2
    exact TL.eqlPt hu h1 rfl hd hh'
  · simp only [XC.rel, rd] at h2
    obtain ⟨b, o, rfl, _⟩ := h2
    exact TL.eqlPt hu h1 rfl hd hh'
theorem Ep {t t' e : Nat} (b : Bool) {yv : XC} (hu : P.underlying t = some (.pointer e)) (hv : (b = true ∧ yv = .d (.c (.pointer none))) ∨ (b = false ∧ ((∃ g t o, yv = .p g t o) ∨ ∃ xs, yv = .d (.p xs)))) (hEr : vis dm ops { dst := some d, op := .binOp .eql t y (.const (.pointer none)) t', type := ty, pos := pos, after := af, guard := g } E = Er) (hy : xev Er y = some (.a (.c yv))) (hb : an ops Er g = some true ∧ okD x.N (some d) = true)
    (hk : (MS.r ops (push dm ⟨i, [], false, false⟩) l k ⟨(d, xb b) :: E, hp, nx⟩).ok x) (hdk : DkM dm ops ⟨i, [], false, false⟩ := by first | exact trivial | (refine DK.mk ?_; decide +kernel)) :
    (MS.r ops dm ((i, { dst := some d, op := .binOp .eql t y (.const (.pointer none)) t', type := ty, pos := pos, after := af, guard := g }) :: l) k ⟨E, hp, nx⟩).ok x := MS.val hEr hb (LS.eqp hu hy hv) hdk hk
theorem Ckr {f : FuncId} {args : List XV} {B F : XH} {m : Nat} {R : XV} {d : Option Tmp} {opd : Operand} {xs : List Operand} {tys : Array TypeId} {fv : XV} {us : List XV} {ps rest : XH} (gs : List Nat) (R' : XV) (X : XH) (h : XM P x.B.pk f args B m m (fun r hp' => r = R ∧ hp' = F))
    (hEr : vis dm ops { dst := d, op := .call { callee := .value opd, args := xs.toArray, argTypes := tys }, type := ty, pos := pos, after := af, guard := g } E = Er) (hfv : xev Er opd = some fv) (hfn : fnv fv = some (f, [], [])) (hus : dQ (xev Er) xs = some us) (hpk : d4 gs hp = some (ps, rest))
    (hargs : cos (XVs.ren (muc gs m nx (ps.map (·.t))) args) us = XVs.ren (muc gs m nx (ps.map (·.t))) args) (hfp : ps = aY (muc gs m nx (ps.map (·.t))) B) (hb : (an ops Er g = some true ∧ aa ps = gs) ∧ (okD x.N d && (bN gs && gs.all (fun g => Nat.blt g nx))) = true) (hX : aY (muc gs m nx (ps.map (·.t))) F = X) (hR : R.ren (muc gs m nx (ps.map (·.t))) = R')
    (hk : (MS.r ops (push dm ⟨i, gs, true, true⟩) l k ⟨cj d R' E, X ++ rest, nx⟩).ok x)
    (hdk : DkM dm ops ⟨i, gs, true, true⟩ := by first | exact trivial | (refine DK.mk ?_; decide +kernel)) (hrl : RlM dm ops i l := by first | exact trivial | (refine RL.mk ?_; decide +kernel)) :
    (MS.r ops dm ((i, { dst := d, op := .call { callee := .value opd, args := xs.toArray, argTypes := tys }, type := ty, pos := pos, after := af, guard := g }) :: l) k ⟨E, hp, nx⟩).ok x := by
  have e1 : gs ++ List.range' nx (m - m) = gs := by simp
  refine Cm gs h hEr hfv hfn hus hpk hargs hfp hb ?_ (by rw [e1]; exact hdk) hrl
  rintro r hp' ⟨rfl, rfl⟩
  rw [e1, hX, hR, Nat.sub_self, Nat.add_zero]
  exact hk
theorem Ckf {f : FuncId} {args : List XV} {B : XH} {m : Nat} {R : XV} {d : Option Tmp} {opd : Operand} {xs : List Operand} {tys : Array TypeId} {fv : XV} {us : List XV} {ps rest : XH} (gs : List Nat) (R' : XV) (h : XM P x.B.pk f args B m m (fun r hp' => r = R ∧ hp' = B))
    (hEr : vis dm ops { dst := d, op := .call { callee := .value opd, args := xs.toArray, argTypes := tys }, type := ty, pos := pos, after := af, guard := g } E = Er) (hfv : xev Er opd = some fv) (hfn : fnv fv = some (f, [], [])) (hus : dQ (xev Er) xs = some us) (hpk : d4 gs hp = some (ps, rest))
    (hargs : cos (XVs.ren (muc gs m nx (ps.map (·.t))) args) us = XVs.ren (muc gs m nx (ps.map (·.t))) args) (hfp : ps = aY (muc gs m nx (ps.map (·.t))) B) (hb : (an ops Er g = some true ∧ aa ps = gs) ∧ (okD x.N d && (bN gs && gs.all (fun g => Nat.blt g nx))) = true) (hR : R.ren (muc gs m nx (ps.map (·.t))) = R')
    (hk : (MS.r ops (push dm ⟨i, gs, false, false⟩) l k ⟨cj d R' E, ps ++ rest, nx⟩).ok x)
    (hdk : DkM dm ops ⟨i, gs, false, false⟩ := by first | exact trivial | (refine DK.mk ?_; decide +kernel)) :
    (MS.r ops dm ((i, { dst := d, op := .call { callee := .value opd, args := xs.toArray, argTypes := tys }, type := ty, pos := pos, after := af, guard := g }) :: l) k ⟨E, hp, nx⟩).ok x := by
  obtain ⟨hc, hm, hcl, h3⟩ := h
  have e1 : List.range' nx (nx + (m - m) - nx) = [] := by simp
  have e0 : aa ps ++ List.range' nx (nx + (m - m) - nx) = gs := by rw [hb.1.2, e1, List.append_nil]
  have hnd : (aa ps).Nodup := by
    have h2 := hb.2
    simp only [Bool.and_eq_true] at h2
    rw [hb.1.2]
    exact dl h2.2.1
  refine MS.call gs false false h3 hEr hfv hfn hcl hus hpk (SubV.stat hargs) hfp hc ⟨hb.1, ?_⟩ (by rw [e0]; exact hdk) (fun _ r hp' h => ⟨by rw [h.2]; exact hfp.symm, by simp⟩) (fun _ => ⟨R, B, ⟨rfl, rfl⟩, fun _ _ h => h, by rw [← hfp]; exact fun b hb => .inl (List.mem_map.2 ⟨b, hb, rfl⟩), by rw [← hfp]; exact hnd⟩) (fun h => by cases h) ?_
  · have h2 := hb.2
    simp only [Bool.and_eq_true] at h2 ⊢
    exact ⟨h2.1, h2.2.1, h2.2.2, hm⟩
  · rintro r hp' ⟨rfl, rfl⟩
    rw [e0, ← hfp, Nat.sub_self, Nat.add_zero, hR]
    exact hk
end
def IsSl (n : Nat) (v : Value) : Prop := ∃ A c, v = .slice A n c
theorem ic {P : Program} (w : World) (t ty e : TypeId) (i : TypeInfo) (ht : P.underlying t = some (.slice e)) (hi : P.info? e = some i) (a : Addr) (n c : Nat) (B : Option Addr) (c' : Nat) (hnc : n ≤ c) : (Builtin.append_ #[t, t] ty #[.slice (some a) n c, .slice B 0 c']).run P w = .ok (.slice (some a) n c) w := by
  cases B <;> simp [Builtin.append_, run_underlying ht, sizeOf, typeInfo, hi, Builtin.lenOf, Builtin.firstCells, hnc, storeCells, loadCells, loadCellsFrom]
section
variable {P : Program} {pk : Pk} {T : Tb P} {Er : XE} {nx : Nat} {ops : Array Oper} {d : Option Tmp} {ty : TypeId} {pos : String} {af : Array Edge}
theorem LS.slo {t : TypeId} {o : Operand} {lo hi : Option Operand} {li ri : Option Int} {e sz by_ gp t0 n c e' m : Nat} {rows : List (List D)} (a b : Nat)
    (ho : xev Er o = some (.a (.c (.l gp t0 sz 0 n c)))) (h1 : gW Er lo li) (h2 : gW Er hi ri) (ht : T.bt.get t = some (.sl e sz by_)) (ha : li.getD 0 = (a : Int)) (hb : ri.getD (n : Int) = (b : Int)) (hab : a ≤ b) (hbc : b ≤ c) (hac : a < c) (hm : 0 < m) :
    LS P pk ops { dst := d, op := .slice t o lo hi none, type := ty, pos := pos, after := af, guard := none } Er [⟨gp, t0, .row m rows e' sz⟩] nx nx (fun x fp' => x = .a (.c (.l gp t0 sz a (b - a) (c - a))) ∧ fp' = [⟨gp, t0, .row m rows e' sz⟩]) := by
  intro w0 N Q rest env own H V sg hl hV htp hf hd _ hh
  obtain ⟨v, h3, h4⟩ := hl.lks _ _ ho
  simp only [XV.rel, XA.rel, XC.rel] at h4
  obtain ⟨bb, ex, h5, rfl⟩ := h4
  obtain ⟨z, hS⟩ := be (BT.all_get T.ok ht)
  rcases HRr hV with ⟨b', us, jk, ex', _, h6, _⟩ | ⟨_, _, h6, _⟩
  · rw [h5] at h6
    cases h6
    rw [Option.map_some, Nat.zero_mul] at h3
    refine TL.slice a b h3 (eK hl h1) (eK hl h2) ha hb hab (by omega) hd (hh _ _ _ V H _ ⟨rfl, rfl⟩ ?_ hV htp (VX.refl _ _ _) (Le.refl _))
    simp only [XV.rel, XA.rel, XC.rel]
    refine ⟨some b', ex, h5, ?_⟩
    rw [if_neg (by omega), Option.map_some, Option.map_some, show c + ex - a = c - a + ex by omega]
    simp [Addr.add]
    try exact fun h => h.symm
  · omega
theorem LS.slw {t : TypeId} {o : Operand} {lo hi : Option Operand} {li ri : Option Int} {e sz by_ gp t0 n c : Nat} (a b : Nat)
    (ho : xev Er o = some (.a (.c (.l gp t0 sz 0 n c)))) (h1 : gW Er lo li) (h2 : gW Er hi ri) (ht : T.bt.get t = some (.sl e sz by_)) (ha : li.getD 0 = (a : Int)) (hb : ri.getD (n : Int) = (b : Int)) (hab : a ≤ b) (hbc : b ≤ c) :
    LS P pk ops { dst := d, op := .slice t o lo hi none, type := ty, pos := pos, after := af, guard := none } Er [] nx nx (fun x fp' => x = .a (.c (.w (IsSl (b - a)))) ∧ fp' = []) := by
  intro w0 N Q rest env own H V sg hl hV htp hf hd _ hh
  obtain ⟨v, h3, h4⟩ := hl.lks _ _ ho
  simp only [XV.rel, XA.rel, XC.rel] at h4
  obtain ⟨bb, ex, h5, rfl⟩ := h4
  obtain ⟨z, hS⟩ := be (BT.all_get T.ok ht)
  refine TL.slice a b h3 (eK hl h1) (eK hl h2) ha hb hab (by omega) hd (hh _ _ _ V H _ ⟨rfl, rfl⟩ ?_ hV htp (VX.refl _ _ _) (Le.refl _))
  simp only [XV.rel, XA.rel, XC.rel]
  exact ⟨rfl, _, _, rfl⟩
theorem LS.slm {t : TypeId} {o y1 y2 y3 : Operand} {k1 k2 k3 : IntKind} {e sz by_ gp t0 n c : Nat} (a b m : Nat)
    (ho : xev Er o = some (.a (.c (.l gp t0 sz 0 n c)))) (h1 : xev Er y1 = some (xv (.int k1 a))) (h2 : xev Er y2 = some (xv (.int k2 b))) (h3 : xev Er y3 = some (xv (.int k3 m))) (ht : T.bt.get t = some (.sl e sz by_)) (hab : a ≤ b) (hbm : b ≤ m) (hmc : m ≤ c) :
    LS P pk ops { dst := d, op := .slice t o (some y1) (some y2) (some y3), type := ty, pos := pos, after := af, guard := none } Er [] nx nx (fun x fp' => x = .a (.c (.w (IsSl (b - a)))) ∧ fp' = []) := by
  intro w0 N Q rest env own H V sg hl hV htp hf hd _ hh
  obtain ⟨v, h4, h5⟩ := hl.lks _ _ ho
  obtain ⟨u1, q1, r1⟩ := hl.lks _ _ h1
  obtain ⟨u2, q2, r2⟩ := hl.lks _ _ h2
  obtain ⟨u3, q3, r3⟩ := hl.lks _ _ h3
  have := aP r1; subst this
  have := aP r2; subst this
  have := aP r3; subst this
  simp only [XV.rel, XA.rel, XC.rel] at h5
  obtain ⟨bb, ex, h6, rfl⟩ := h5
  obtain ⟨z, hS⟩ := be (BT.all_get T.ok ht)
  obtain ⟨i, hi, _, hs, _⟩ := hS.ex
  refine Qa hd (fun ac ha w => by
    have hb : (Instr.sliceBounds true n (c + ex) (some (ac.eval y1)) (some (ac.eval y2)) (some (ac.eval y3))).run P w = .ok (a, b, m) w := by
      simp [Instr.sliceBounds, Instr.sliceBound, asIntOf, ha.ev q1, ha.ev q2, ha.ev q3, hab, hbm]
      omega
    simp [execOp, Instr.sliceAt, Instr.slice, run_underlying hS.und, ha.ev h4, hb, hS.sizeOf]) (hh (.slice (if m = a then bb.map (fun b => ⟨b, 0 * sz, none⟩) else (bb.map (fun b => (⟨b, 0 * sz, none⟩ : Addr))).map (·.add (a * sz))) (b - a) (m - a)) _ _ V H _ ⟨rfl, rfl⟩ (by
    simp only [XV.rel, XA.rel, XC.rel]
    exact ⟨rfl, _, _, rfl⟩) hV htp (VX.refl _ _ _) (Le.refl _))
theorem LS.ap0 {t : TypeId} {o y : Operand} {e sz by_ gp t0 n c e' m : Nat} {rows : List (List D)} (ho : xev Er o = some (.a (.c (.l gp t0 sz 0 n c)))) (hy : xev Er y = some (.a (.c (.w (IsSl 0))))) (ht : T.bt.get t = some (.sl e sz by_)) (hnc : n ≤ c) (hm : 0 < m) :
    LS P pk ops { dst := d, op := .call { callee := .builtin .append, args := [o, y].toArray, argTypes := [t, t].toArray }, type := ty, pos := pos, after := af, guard := none } Er [⟨gp, t0, .row m rows e' sz⟩] nx nx (fun x fp' => x = .a (.c (.l gp t0 sz 0 n c)) ∧ fp' = [⟨gp, t0, .row m rows e' sz⟩]) := by
  intro w0 N Q rest env own H V sg hl hV htp hf hd _ hh
  obtain ⟨v, h3, h4⟩ := hl.lks _ _ ho
  obtain ⟨u, q1, q2⟩ := hl.lks _ _ hy
  simp only [XV.rel, XA.rel, XC.rel] at h4 q2
  obtain ⟨bb, ex, h5, rfl⟩ := h4
  obtain ⟨_, A, c', rfl⟩ := q2
  obtain ⟨z, hS⟩ := be (BT.all_get T.ok ht)
  obtain ⟨i, hi, _, _, _⟩ := hS.ex
  rcases HRr hV with ⟨b', us, jk, ex', _, h6, _⟩ | ⟨_, _, h6, _⟩
  · rw [h5] at h6
    cases h6
    have hr := fun w => ic (P := P) w t ty e i hS.und hi ⟨b', 0 * sz, none⟩ n (c + ex) A c' (by omega)
    refine Qa hd (fun ac ha w => by
      have e1 := ha.ev h3
      have e2 := ha.ev q1
      have e3 := hr w
      simp only [execOp, resolve, invoke, builtin, List.map_toArray, List.map_cons, List.map_nil, e1, e2, Sem.run_bind, Sem.run_pure, Option.map_some, e3, Result.andThen_ok]) (hh (.slice (some ⟨b', 0 * sz, none⟩) n (c + ex)) _ _ V H _ ⟨rfl, rfl⟩ (by
      simp only [XV.rel, XA.rel, XC.rel]
      exact ⟨some b', ex, h5, rfl⟩) hV htp (VX.refl _ _ _) (Le.refl _))
  · omega
theorem LS.clr {t : TypeId} {o : Operand} {e sz by_ gp t0 k e' m a : Nat} {rows : List (List D)} {r dz : List D} (hr : rows[a]? = some r) (ho : xev Er o = some (.a (.c (.l gp t0 sz a 1 k)))) (ht : T.bt.get t = some (.sl e sz by_)) (hzero : ∀ z : Value, Sl P t e sz by_ z → ∀ H, rdL H dz z.cells.toList) :
    LS P pk ops { dst := d, op := .call { callee := .builtin .clear, args := [o].toArray, argTypes := [t].toArray }, type := ty, pos := pos, after := af, guard := none } Er [⟨gp, t0, .row m rows e' sz⟩] nx nx (fun x fp' => x = .t [] ∧ fp' = [⟨gp, t0, .row m (rows.set a dz) e' sz⟩]) := by
  intro w0 N Q rest env own H V sg hl hV htp hf hd _ hh
  obtain ⟨v, h1, h2⟩ := hl.lks _ _ ho
  simp only [XV.rel, XA.rel, XC.rel] at h2
  obtain ⟨b, ex, h5, rfl⟩ := h2
  obtain ⟨z, hS⟩ := be (BT.all_get T.ok ht)
  have hzc := hzero z hS
  have hzl : z.cells.toList.length = sz := by simpa using hS.zs
  have hz1 : (Builtin.zeroCells z.cells 1).toList = z.cells.toList := by
    simp only [Builtin.zeroCells, Nat.one_mul, Array.toList_map, Array.toList_range]
    refine List.ext_getElem (by simp) fun q hq1 hq2 => ?_
    have hq : q < z.cells.size := by simpa using hq2
    simp [Nat.mod_eq_of_lt hq, hq]
  rcases HRr hV with ⟨b', us, jk, ex', rfl, h6, h7, h8, h9, q1, q2, q3⟩ | ⟨_, _, _, h6⟩
  · rw [h5] at h6
    cases h6
    obtain ⟨v1, vs, v2, rfl, k1, k2, k3, k4, k5⟩ := mv h8 h9 hr
    have hput : ci ((v1 ++ (vs ++ v2)) ++ jk).toArray (a * sz) z.cells.toList = ((v1 ++ (z.cells.toList ++ v2)) ++ jk).toArray := by
      rw [← Array.toList_inj, mw _ _ _ (by simp only [List.size_toArray, List.length_append]; omega)]
      have e1 : ((v1 ++ (vs ++ v2)) ++ jk) = v1 ++ (vs ++ (v2 ++ jk)) := by simp
      simp only [e1]
      rw [List.take_append_of_le_length (by omega), List.take_of_length_le (by omega), List.drop_append, List.drop_of_length_le (l := v1) (by omega)]
      rw [show a * sz + z.cells.toList.length - v1.length = vs.length by omega, List.drop_append, List.drop_of_length_le (Nat.le_refl _)]
      simp
    have hjl : a < rows.length := (List.getElem?_eq_some_iff.1 hr).1
    have hfl : (rows.set a dz).flatten = (rows.take a).flatten ++ (dz ++ (rows.drop (a + 1)).flatten) := by
      rw [List.set_eq_take_append_cons_drop, if_pos hjl, List.flatten_append, List.flatten_cons]
    rw [Option.map_some] at h1
    refine TL.clear 0 0 h1 rfl rfl Nat.one_pos (by rw [hz1]; exact (hzc H).ones) (by rw [hz1]; simp only [List.size_toArray, List.length_append]; omega) hd ?_
    rw [hz1, hput]
    refine hh (.tuple #[]) (.t []) _ V H _ ⟨rfl, rfl⟩ ⟨_, rfl, trivial⟩ (HR.one (.inl ⟨_, _, ex, rfl, h5, _, jk, ?_, ?_, ?_, rfl, q1, q2, q3⟩)) ?_ (VX.refl _ _ _) (Le.refl _)
    · rw [List.length_set]; exact h7
    · rw [hfl]
      exact rdL.append k4 (rdL.append (hzc H) k5)
    · intro q hq
      rcases List.mem_or_eq_of_mem_set hq with hq | rfl
      · exact h9 q hq
      · rw [(hzc H).len, hzl]
    · intro y hy' t hlt
      obtain rfl := List.mem_singleton.1 hy'
      exact htp _ (List.mem_singleton.2 rfl) t hlt
  · subst h6; simp at hr
end
section
variable {P : Program} {x : Cx P} {T : Tb P} {k : List Fr} {E Er : XE} {hp hp' : XH} {nx i : Nat} {ops : List Oper} {dm : Option (List Rc)} {l : List (Nat × Oper)} {d : Tmp} {dd : Option Tmp} {ty : TypeId} {pos : String} {af : Array Edge} {g : Option (Nat × Bool)} {t : TypeId} {o y y1 y2 y3 : Operand} {e sz by_ gp t0 n c e' m : Nat} {rows : List (List D)}
theorem Slo {lo hi : Option Operand} {li ri : Option Int} (a b : Nat) (h1 : gW Er lo li) (h2 : gW Er hi ri) (ho : xev Er o = some (.a (.c (.l gp t0 sz 0 n c)))) (hEr : vis dm ops { dst := some d, op := .slice t o lo hi none, type := ty, pos := pos, after := af, guard := g } E = Er) (hg : au hp gp = some ⟨gp, t0, .row m rows e' sz⟩) (ht : T.bt.get t = some (.sl e sz by_)) (hb : an ops Er g = some true ∧ okD x.N (some d) = true) (ha : li.getD 0 = (a : Int)) (hbn : ri.getD (n : Int) = (b : Int)) (hab : a ≤ b) (hbc : b ≤ c) (hac : a < c) (hm : 0 < m)
    (hk : (MS.r ops (push dm ⟨i, [gp], false, false⟩) l k ⟨(d, .a (.c (.l gp t0 sz a (b - a) (c - a)))) :: E, hp, nx⟩).ok x) (hdk : DkM dm ops ⟨i, [gp], false, false⟩ := by first | exact trivial | (refine DK.mk ?_; decide +kernel)) :
    (MS.r ops dm ((i, { dst := some d, op := .slice t o lo hi none, type := ty, pos := pos, after := af, guard := g }) :: l) k ⟨E, hp, nx⟩).ok x := MS.rd1 hg hEr hb (LS.slo (T := T) a b ho h1 h2 ht ha hbn hab hbc hac hm) hdk hk
theorem Slw {lo hi : Option Operand} {li ri : Option Int} (a b : Nat) (h1 : gW Er lo li) (h2 : gW Er hi ri) (ho : xev Er o = some (.a (.c (.l gp t0 sz 0 n c)))) (hEr : vis dm ops { dst := some d, op := .slice t o lo hi none, type := ty, pos := pos, after := af, guard := g } E = Er) (ht : T.bt.get t = some (.sl e sz by_)) (hb : an ops Er g = some true ∧ okD x.N (some d) = true) (ha : li.getD 0 = (a : Int)) (hbn : ri.getD (n : Int) = (b : Int)) (hab : a ≤ b) (hbc : b ≤ c)
    (hk : (MS.r ops (push dm ⟨i, [], false, false⟩) l k ⟨(d, .a (.c (.w (IsSl (b - a))))) :: E, hp, nx⟩).ok x) (hdk : DkM dm ops ⟨i, [], false, false⟩ := by first | exact trivial | (refine DK.mk ?_; decide +kernel)) :
    (MS.r ops dm ((i, { dst := some d, op := .slice t o lo hi none, type := ty, pos := pos, after := af, guard := g }) :: l) k ⟨E, hp, nx⟩).ok x := MS.val hEr hb (LS.slw (T := T) a b ho h1 h2 ht ha hbn hab hbc) hdk hk
theorem Slm {k1 k2 k3 : IntKind} (a b m : Nat) (ho : xev Er o = some (.a (.c (.l gp t0 sz 0 n c)))) (h1 : xev Er y1 = some (xv (.int k1 a))) (h2 : xev Er y2 = some (xv (.int k2 b))) (h3 : xev Er y3 = some (xv (.int k3 m))) (hEr : vis dm ops { dst := some d, op := .slice t o (some y1) (some y2) (some y3), type := ty, pos := pos, after := af, guard := g } E = Er) (ht : T.bt.get t = some (.sl e sz by_)) (hb : an ops Er g = some true ∧ okD x.N (some d) = true) (hab : a ≤ b) (hbm : b ≤ m) (hmc : m ≤ c)
    (hk : (MS.r ops (push dm ⟨i, [], false, false⟩) l k ⟨(d, .a (.c (.w (IsSl (b - a))))) :: E, hp, nx⟩).ok x) (hdk : DkM dm ops ⟨i, [], false, false⟩ := by first | exact trivial | (refine DK.mk ?_; decide +kernel)) :
    (MS.r ops dm ((i, { dst := some d, op := .slice t o (some y1) (some y2) (some y3), type := ty, pos := pos, after := af, guard := g }) :: l) k ⟨E, hp, nx⟩).ok x := MS.val hEr hb (LS.slm (T := T) a b m ho h1 h2 h3 ht hab hbm hmc) hdk hk
theorem Ap0 (ho : xev Er o = some (.a (.c (.l gp t0 sz 0 n c)))) (hy : xev Er y = some (.a (.c (.w (IsSl 0))))) (hEr : vis dm ops { dst := some d, op := .call { callee := .builtin .append, args := [o, y].toArray, argTypes := [t, t].toArray }, type := ty, pos := pos, after := af, guard := g } E = Er) (hg : au hp gp = some ⟨gp, t0, .row m rows e' sz⟩) (ht : T.bt.get t = some (.sl e sz by_)) (hb : an ops Er g = some true ∧ okD x.N (some d) = true) (hnc : n ≤ c) (hm : 0 < m)
    (hk : (MS.r ops (push dm ⟨i, [gp], false, false⟩) l k ⟨(d, .a (.c (.l gp t0 sz 0 n c))) :: E, hp, nx⟩).ok x) (hdk : DkM dm ops ⟨i, [gp], false, false⟩ := by first | exact trivial | (refine DK.mk ?_; decide +kernel)) :
    (MS.r ops dm ((i, { dst := some d, op := .call { callee := .builtin .append, args := [o, y].toArray, argTypes := [t, t].toArray }, type := ty, pos := pos, after := af, guard := g }) :: l) k ⟨E, hp, nx⟩).ok x := MS.rd1 hg hEr hb (LS.ap0 (T := T) ho hy ht hnc hm) hdk hk
theorem Cl1 {a k' : Nat} {r dz : List D} (hr : rows[a]? = some r) (hzero : ∀ z : Value, Sl P t e sz by_ z → ∀ H, rdL H dz z.cells.toList) (ho : xev Er o = some (.a (.c (.l gp t0 sz a 1 k')))) (hEr : vis dm ops { dst := dd, op := .call { callee := .builtin .clear, args := [o].toArray, argTypes := [t].toArray }, type := ty, pos := pos, after := af, guard := g } E = Er) (hg : au hp gp = some ⟨gp, t0, .row m rows e' sz⟩) (hset' : bl hp gp t0 (.row m (rows.set a dz) e' sz) = some hp') (ht : T.bt.get t = some (.sl e sz by_)) (hb : an ops Er g = some true ∧ okD x.N dd = true)
    (hk : (MS.r ops (push dm ⟨i, [gp], true, false⟩) l k ⟨cj dd (.t []) E, hp', nx⟩).ok x) (hdk : DkM dm ops ⟨i, [gp], true, false⟩ := by first | exact trivial | (refine DK.mk ?_; decide +kernel)) :
    (MS.r ops dm ((i, { dst := dd, op := .call { callee := .builtin .clear, args := [o].toArray, argTypes := [t].toArray }, type := ty, pos := pos, after := af, guard := g }) :: l) k ⟨E, hp, nx⟩).ok x := MS.wr1 hg hset' hEr hb (LS.clr (T := T) hr ho ht hzero) hdk hk
end
section
open Go Go.RowKit Go.Proofs K
variable {pk : Pk}
theorem zero22 (z : Value) (hz : Sl Tryz.prog 170 22 1 24 z) (H : Hp) : rdL H [.s []] z.cells.toList := by
  obtain ⟨i, hi, hz1, _⟩ := hz.ex
  obtain ⟨inf, zv, hi2, hz2, hc⟩ := cR (BT.all_get T.ok (i := 22) (v := .sl 3 1 8) rfl)
  rw [hi2] at hi; cases hi
  rw [hz2] at hz1; cases hz1
  have h9 := hc (fun _ _ => none) H
  revert h9
  generalize z.cells.toList = us
  intro h9
  match us, h9 with
  | [u], h9 =>
    have h8 : u = .slice none 0 0 := h9.1
    subst h8
    exact ⟨by simp only [rd]; exact ⟨none, 0, 1, rfl, Nat.le_refl _, by decide, .inl trivial⟩, trivial⟩
theorem zero3' (z : Value) (hz : Sl Tryz.prog 22 3 1 8 z) (H : Hp) : rdL H [.c (.int .i64 0)] z.cells.toList := by
  obtain ⟨i, hi, hz1, _⟩ := hz.ex
  obtain ⟨inf, zv, hi2, hz2, hc⟩ := cR (BT.all_get T.ok (i := 3) (v := .i .i64) rfl)
  rw [hi2] at hi; cases hi
  rw [hz2] at hz1; cases hz1
  have h9 := hc (fun _ _ => none) H
  revert h9
  generalize z.cells.toList = us
  intro h9
  match us, h9 with
  | [u], h9 => exact ⟨by have h8 : XC.rel (fun _ _ => none) H (.d (.c (.int .i64 0))) u := h9.1; simpa only [XC.rel] using h8, trivial⟩
theorem table_1 {S : List Tr} {QM : Obj → Prop} {la : ByteArray} {n : Int} {r : List D} : XM Tryz.prog pk 94 [.a (.c (.p 0 0 0)), xr [[.p (.c (.string la) :: .c (.int .i64 n) :: .c (.int .i64 1) :: r)]], xr []] (dfB S QM) 3 3 (fun r hp' => r = xr [[.s [[.c (.int .i64 1)]]], [.s [[.c (.int .i64 0)]]]] ∧ hp' = dfB S QM) := by
  have hl1 : ([[D.p (.c (.string la) :: .c (.int .i64 n) :: .c (.int .i64 1) :: r)]] : List (List D)).length = 1 := rfl
  have hl0 : ([] : List (List D)).length = 0 := rfl
  refine XM.en Tryz.func94 Tryz.ntmps94 (fun w0 own H V v0 hf => ?_)
  refine G (T := T) 1000 rfl ?_
  refine Mzc (T := T) 2 (.s []) rfl rfl rfl rfl ⟨rfl, rfl⟩ rfl (by decide) (by decide) zero22 ?_
  refine G (T := T) 1000 rfl ?_
  refine Un 2 ?_
  refine G (T := T) 1000 rfl ?_
  refine IfT rfl rfl ?_
  refine G (T := T) 1000 rfl ?_
  refine Mz (T := T) 1 [.c (.int .i64 0)] rfl rfl rfl rfl ⟨rfl, rfl⟩ rfl (by decide) (by decide) zero3' ?_
  refine G (T := T) 1000 rfl ?_
  refine Iqc (T := T) 1 rfl rfl rfl rfl rfl ⟨rfl, rfl⟩ rfl (by decide) ?_
  refine G (T := T) 1000 rfl ?_
  refine Un 1 ?_
  refine G (T := T) 1000 rfl ?_
  refine IfT rfl rfl ?_
  refine G (T := T) 1000 rfl ?_
  refine IfT rfl rfl ?_
  refine G (T := T) 1000 rfl ?_
  refine Nu ?_
  refine G (T := T) 1000 rfl ?_
  refine IfF rfl rfl ?_
  refine G (T := T) 1000 rfl ?_
  refine MS.fze 4 rfl ?_ (by repeat' (first | exact trivial | apply And.intro | rfl))
  refine Nu ?_
  refine Ks [0, 1, 2, 7, 8] rfl ?_
  refine G (T := T) 1000 rfl ?_
  refine IfT rfl rfl ?_
  refine G (T := T) 1000 rfl ?_
  refine Mz (T := T) 1 [.c (.int .i64 0)] rfl rfl rfl rfl ⟨rfl, rfl⟩ rfl (by decide) (by decide) zero3' ?_
  refine G (T := T) 1000 rfl ?_
  refine Iqc (T := T) 0 rfl rfl rfl rfl rfl ⟨rfl, rfl⟩ rfl (by decide) ?_
  refine G (T := T) 1000 rfl ?_
  refine Un 1 ?_
  refine G (T := T) 1000 rfl ?_
  refine IfT rfl rfl ?_
  refine G (T := T) 1000 rfl ?_
  refine IfF rfl rfl ?_
  refine G (T := T) 1000 rfl ?_
  refine IfF rfl rfl ?_
  refine G (T := T) 1000 rfl ?_
  refine IfT rfl rfl ?_
  refine G (T := T) 1000 rfl ?_
  refine Iqc (T := T) 0 rfl rfl rfl rfl rfl ⟨rfl, rfl⟩ rfl (by decide) ?_
  refine G (T := T) 1000 rfl ?_
  refine Iqc (T := T) 1 rfl rfl rfl rfl rfl ⟨rfl, rfl⟩ rfl (by decide) ?_
  refine G (T := T) 1000 rfl ?_
  refine Ix (T := T) 0 rfl rfl rfl rfl rfl ⟨rfl, rfl⟩ rfl rfl ?_
  refine G (T := T) 1000 rfl ?_
  refine Ix (T := T) 0 rfl rfl rfl rfl rfl ⟨rfl, rfl⟩ rfl rfl ?_
  refine G (T := T) 1000 rfl ?_
  refine Iq (T := T) 0 rfl rfl rfl rfl rfl ⟨rfl, rfl⟩ rfl (by decide) rfl ?_
  refine G (T := T) 1000 rfl ?_
  refine Sr (T := T) rfl rfl rfl rfl rfl rfl rfl rfl ⟨rfl, rfl⟩ rfl rfl ?_
  refine G (T := T) 1000 rfl ?_
  refine Nu ?_
  refine G (T := T) 1000 rfl ?_
  refine IfF rfl rfl ?_
  refine G (T := T) 1000 rfl ?_
  refine MS.fze 5 rfl ?_ (by repeat' (first | exact trivial | apply And.intro | rfl))
  refine Nu ?_
  refine Ks [0, 1, 2, 7, 8] rfl ?_
  refine G (T := T) 1000 rfl ?_
  refine IfF rfl rfl ?_
  refine G (T := T) 1000 rfl ?_
  refine (SRto.cr 3 rfl rfl rfl rfl rfl (by decide)).e ?_
  refine MS.fze 3 rfl ?_ (by repeat' (first | exact trivial | apply And.intro | rfl))
  exact Fm (T := T) id _ _ ⟨rfl, rfl⟩ rfl ⟨⟨_, _, rfl, rfl⟩, rfl, rfl⟩
end
section
open Go Go.RowKit Go.Proofs K
variable {pk : Pk}
theorem clone_f : ∀ (n : Nat) (t : Tr), t.size ≤ n → lbO t → XQ Tryz.prog pk 42 [xd (trd t)] (xd (trd t)) := by
  intro n
  induction n with
  | zero => intro t h; have := t.size_pos; omega
  | succ n ih =>
    rintro ⟨l, ks⟩ hn hl
    have hkl := hl.2.1
    rw [al]
    refine XQ.en Tryz.func42 Tryz.ntmps42 (fun w0 own H V v0 hf => ?_)
    refine Gs (T := T) 100001 rfl ?_
    refine (FzTo.bz 0 rfl).c ?_
    refine G (T := T) 100002 rfl ?_
    refine (Nrh 2 1 35 2 rfl rfl rfl rfl rfl).c ?_
    refine G (T := T) 1000 rfl ?_
    refine Lq [2, 3, 10, 11] (fun (q : Nat × List (List D)) r => (12, xi (q.1 : Nat)) :: r) (fun q => [⟨1, 0, .cells [.d (.c (.string ⟨#[]⟩)), .z] 35⟩, ⟨2, 0, .cells [.d (.c (.string l)), .l 3 0 2 0 q.1 q.1] 35⟩, ⟨3, 0, .row q.1 q.2 35 2⟩]) 4 (fun q => q.1 ≤ ks.length ∧ q.2 = aj (ks.take q.1)) (fun q => ks.length - q.1) (0, []) rfl ⟨Nat.zero_le _, rfl⟩ ?_
    rintro ⟨j, R⟩ ⟨hj, hR⟩; dsimp only at hj hR ⊢
    refine G (T := T) 1000 rfl ?_
    refine If rfl (fun h => ?_) (fun h => ?_)
    · have hjl := of_decide_eq_true h; rw [List.length_map] at hjl
      obtain ⟨y, hy⟩ := ae (l := ks) (j := j) (by omega)
      refine G (T := T) 1000 rfl ?_
      refine Ix (T := T) j (ab hy) rfl rfl rfl rfl ⟨rfl, rfl⟩ rfl rfl ?_
      refine G (T := T) 1000 rfl ?_
      refine Cq (ih y (Tr.size_kid (List.mem_of_getElem? hy) hn) (aC hl.2.2 (List.mem_of_getElem? hy))) rfl rfl rfl rfl rfl ⟨rfl, rfl⟩ ?_
      refine G (T := T) 1000 rfl ?_
      refine Nq (j + 1, R ++ [trd y]) ⟨by omega, by dsimp only; rw [hR]; exact (aH trd hy).symm⟩ (by show _ - (j + 1) < _ - j; omega)
    · have hjl := of_decide_eq_false h; rw [List.length_map] at hjl
      rw [List.take_of_length_le (by omega)] at hR; subst hR
      refine G (T := T) 1000 rfl ?_
      refine MS.fze 3 rfl ?_ (by repeat' (first | exact trivial | apply And.intro | rfl))
      exact Fq (T := T) rfl rfl
theorem kg {t : Tr} (hl : lbO t) : XQ Tryz.prog pk 42 [xd (trd t)] (xd (trd t)) := clone_f t.size t (Nat.le_refl _) hl
theorem clone_own {l : ByteArray} {ks : List Tr} (hl : lbO (.node l ks)) : XM Tryz.prog pk 42 [xd (trd (.node l ks))] [] 0 1 (fun r hp' => ∃ _ : Unit, True ∧ r = .a (.a [.d (.c (.string l)), .l 0 0 2 0 ks.length ks.length]) ∧ hp' = [⟨0, 0, .row ks.length (aj ks) 35 2⟩]) := by
  have hkl := hl.2.1
  rw [al]
  refine XM.en Tryz.func42 Tryz.ntmps42 (fun w0 own H V v0 hf => ?_)
  refine Gs (T := T) 100001 rfl ?_
  refine (FzTo.bz 0 rfl).c ?_
  refine G (T := T) 100002 rfl ?_
  refine (Nrh 2 1 35 2 rfl rfl rfl rfl rfl).c ?_
  refine G (T := T) 1000 rfl ?_
  refine Lq [2, 3, 10, 11] (fun (q : Nat × List (List D)) r => (12, xi (q.1 : Nat)) :: r) (fun q => [⟨1, 0, .cells [.d (.c (.string ⟨#[]⟩)), .z] 35⟩, ⟨2, 0, .cells [.d (.c (.string l)), .l 3 0 2 0 q.1 q.1] 35⟩, ⟨3, 0, .row q.1 q.2 35 2⟩]) 4 (fun q => q.1 ≤ ks.length ∧ q.2 = aj (ks.take q.1)) (fun q => ks.length - q.1) (0, []) rfl ⟨Nat.zero_le _, rfl⟩ ?_
  rintro ⟨j, R⟩ ⟨hj, hR⟩; dsimp only at hj hR ⊢
  refine G (T := T) 1000 rfl ?_
  refine If rfl (fun h => ?_) (fun h => ?_)
  · have hjl := of_decide_eq_true h; rw [List.length_map] at hjl
    obtain ⟨y, hy⟩ := ae (l := ks) (j := j) (by omega)
    refine G (T := T) 1000 rfl ?_
    refine Ix (T := T) j (ab hy) rfl rfl rfl rfl ⟨rfl, rfl⟩ rfl rfl ?_
    refine G (T := T) 1000 rfl ?_
    refine Cq (kg (aC hl.2.2 (List.mem_of_getElem? hy))) rfl rfl rfl rfl rfl ⟨rfl, rfl⟩ ?_
    refine G (T := T) 1000 rfl ?_
    refine Nq (j + 1, R ++ [trd y]) ⟨by omega, by dsimp only; rw [hR]; exact (aH trd hy).symm⟩ (by show _ - (j + 1) < _ - j; omega)
  · have hjl := of_decide_eq_false h; rw [List.length_map] at hjl
    obtain rfl : j = ks.length := by omega
    rw [List.take_length] at hR; subst hR
    refine G (T := T) 1000 rfl ?_
    exact Fm (T := T) (fun _ => 3) _ _ ⟨(), trivial, rfl, rfl⟩ rfl ⟨⟨_, _, rfl, rfl⟩, rfl, rfl⟩
theorem lh : XQ Tryz.prog pk 92 [.a (.c .z)] (.a (.c .z)) := by
  refine XQ.en Tryz.func92 Tryz.ntmps92 (fun w0 own H V v0 hf => ?_)
  refine G (T := T) 1000 rfl ?_
  refine Ez (T := T) true rfl (.inl ⟨rfl, rfl⟩) rfl rfl ⟨rfl, rfl⟩ ?_
  refine G (T := T) 1000 rfl ?_
  refine IfT rfl rfl ?_
  refine G (T := T) 1000 rfl ?_
  exact Fq (T := T) rfl rfl
theorem clone_q {r : List D} {rs : List (List D)} (hl : (r :: rs).length ≤ 1000000) (h1 : ∀ q ∈ r :: rs, q.length = 1) : XQ Tryz.prog pk 92 [xr (r :: rs)] (xr (r :: rs)) := by
  refine XQ.en Tryz.func92 Tryz.ntmps92 (fun w0 own H V v0 hf => ?_)
  refine G (T := T) 1000 rfl ?_
  refine Ez (T := T) false rfl (.inr ⟨rfl, _, _, rfl⟩) rfl rfl ⟨rfl, rfl⟩ ?_
  refine G (T := T) 1000 rfl ?_
  refine IfF rfl rfl ?_
  refine G (T := T) 5 rfl ?_
  refine Br (T := T) rfl rfl rfl rfl rfl ⟨rfl, rfl⟩ ?_
  refine G (T := T) 7 rfl ?_
  refine Ap (T := T) rfl h1 rfl rfl rfl rfl rfl rfl ⟨rfl, rfl⟩ (by omega) (by omega) ?_
  refine G (T := T) 1000 rfl ?_
  refine MS.fze 0 rfl ?_ (by repeat' (first | exact trivial | apply And.intro | rfl))
  exact Fq (T := T) rfl rfl
theorem edits_3 {S : List Tr} {QM : Obj → Prop} {la lb : ByteArray} {n m : Int} {r : List D} {c d : D} {t : Tr} (hn : n ≠ m) (hab : la ≠ lb) (ht : lbO t) :
    XM Tryz.prog pk 40 [.a (.c (.p 0 0 0)), .a (.c (.d (.p (.c (.string la) :: .c (.int .i64 n) :: r)))), .a (.c (.d (.p (.c (.string lb) :: .c (.int .i64 m) :: c :: d :: trd t)))), .a (.c .z), .a (.c .z)] (dfB S QM) 3 3 (fun r hp' => r = xr [.c (.int .i64 3) :: .s [] :: trd t] ∧ hp' = dfB S QM) := by
  obtain ⟨l, ks⟩ := t
  have hcl := kg (pk := pk) ht
  rw [al] at hcl ⊢
  refine XM.en Tryz.func40 Tryz.ntmps40 (fun w0 own H V v0 hf => ?_)
  refine G (T := T) 1000 rfl ?_
  refine IfF rfl (decide_eq_false hn) ?_
  refine G (T := T) 1000 rfl ?_
  refine IfT rfl (by simpa using hab) ?_
  refine (Nr 4 73 4 rfl rfl).c ?_
  refine G (T := T) 1000 rfl ?_
  refine Cq lh rfl rfl rfl rfl rfl ⟨rfl, rfl⟩ ?_
  refine G (T := T) 1000 rfl ?_
  refine Cq hcl rfl rfl rfl rfl rfl ⟨rfl, rfl⟩ ?_
  refine G (T := T) 1000 rfl ?_
  refine MS.fze 3 rfl ?_ (by repeat' (first | exact trivial | apply And.intro | rfl))
  exact Fm (T := T) id _ _ ⟨rfl, rfl⟩ rfl ⟨⟨_, _, rfl, rfl⟩, rfl, rfl⟩
end
section
open Go Go.RowKit Go.Proofs K
variable {pk : Pk}
abbrev lA : ByteArray := ⟨#[97]⟩
abbrev lB : ByteArray := ⟨#[98]⟩
abbrev lX : ByteArray := ⟨#[120]⟩
abbrev lY : ByteArray := ⟨#[121]⟩
abbrev uA : Tr := .node lA []
abbrev uB : Tr := .node lB []
abbrev uXab : Tr := .node lX [uA, uB]
abbrev uXb : Tr := .node lX [uB]
abbrev uXa : Tr := .node lX [uA]
abbrev uYa : Tr := .node lY [uA]
abbrev dF (l : ByteArray) (n : Int) : List D := [.c (.string l), .c (.int .i64 n), .c (.int .i64 1), .s [], .c (.string l), .s []]
theorem edits_2 {S : List Tr} {QM : Obj → Prop} {n m : Int} {q1 q2 : D} {r1 r2 : List D} (hn : n ≠ m) (hS : ∀ x ∈ [uA, uB], x ∈ S) (ha : szD S uA = dF lA 0) (hb : szD S uB = dF lB 1) :
    XM Tryz.prog pk 40 [.a (.c (.p 0 0 0)), .a (.c (.d (.p (.c (.string lX) :: .c (.int .i64 n) :: q1 :: .s [[.p (dF lA 0)], [.p (dF lB 1)]] :: r1)))), .a (.c (.d (.p (.c (.string lX) :: .c (.int .i64 m) :: q2 :: .s [[.p (dF lB 1)]] :: r2)))), .a (.c .z), .a (.c .z)] (dfB S QM) 3 3 (fun r hp' => r = xr [[.c (.int .i64 2), .s [[.c (.int .i64 0)]], .c (.string ⟨#[]⟩), .s []]] ∧ hp' = dfB S QM) := by
  have ht := trim_f (pk := pk) (S := S) (a := [uA, uB]) (b := [uB]) (by decide) (by decide) hS (fun x hx => hS x (by simp only [List.mem_cons] at hx ⊢; exact .inr hx))
  rw [show fro [uA, uB] [uB] = 0 by decide +kernel, show bak 0 [uA, uB] [uB] = 1 by decide +kernel] at ht
  simp only [List.map_cons, List.map_nil, szp, ha, hb] at ht
  have hl2 : ([[D.p (dF lA 0)], [D.p (dF lB 1)]] : List (List D)).length = 2 := rfl
  have hl1 : ([[D.p (dF lB 1)]] : List (List D)).length = 1 := rfl
  have hla : ([[D.p (dF lA 0)]] : List (List D)).length = 1 := rfl
  have hl0 : ([] : List (List D)).length = 0 := rfl
  refine XM.en Tryz.func40 Tryz.ntmps40 (fun w0 own H V v0 hf => ?_)
  refine G (T := T) 1000 rfl ?_
  refine IfF rfl (decide_eq_false hn) ?_
  refine G (T := T) 1000 rfl ?_
  refine IfF rfl rfl ?_
  refine G (T := T) 1000 rfl ?_
  refine Cq ht rfl rfl rfl rfl rfl ⟨rfl, rfl⟩ ?_
  refine G (T := T) 1000 rfl ?_
  refine Sd (T := T) 0 1 ⟨_, _, rfl, rfl⟩ ⟨_, _, rfl, rfl⟩ rfl rfl rfl ⟨rfl, rfl⟩ rfl rfl (by decide) (by decide) (by intro r hr; simp only [List.mem_cons, List.not_mem_nil, or_false] at hr; rcases hr with rfl | rfl <;> rfl) ?_
  rw [show List.take (1 - 0) (List.drop 0 [[D.p (dF lA 0)], [D.p (dF lB 1)]]) = [[D.p (dF lA 0)]] from rfl]
  refine G (T := T) 1000 rfl ?_
  refine Sd (T := T) 0 0 ⟨_, _, rfl, rfl⟩ ⟨_, _, rfl, rfl⟩ rfl rfl rfl ⟨rfl, rfl⟩ rfl rfl (by decide) (by decide) (by intro r hr; simp only [List.mem_cons, List.not_mem_nil, or_false] at hr; subst hr; rfl) ?_
  rw [show List.take (0 - 0) (List.drop 0 [[D.p (dF lB 1)]]) = [] from rfl]
  refine G (T := T) 1000 rfl ?_
  refine Ckz [0, 1, 2] (dfB S QM) table_1 rfl rfl rfl rfl rfl rfl rfl ⟨⟨rfl, rfl⟩, rfl⟩ rfl rfl ?_
  refine G (T := T) 1000 rfl ?_
  refine Un 1 ?_
  refine G (T := T) 1000 rfl ?_
  refine IfT rfl rfl ?_
  refine G (T := T) 105 rfl ?_
  refine Cq lh rfl rfl rfl rfl rfl ⟨rfl, rfl⟩ ?_
  refine (Nr 104 3 1 rfl rfl).r ?_
  refine G (T := T) 1000 rfl ?_
  refine MS.fzc 3 rfl ?_ (by repeat' (first | exact trivial | apply And.intro | rfl))
  refine IfF rfl rfl ?_
  refine G (T := T) 1000 rfl ?_
  refine Ix (T := T) 0 rfl rfl rfl rfl rfl ⟨rfl, rfl⟩ rfl rfl ?_
  refine G (T := T) 1000 rfl ?_
  refine Ix (T := T) 0 rfl rfl rfl rfl rfl ⟨rfl, rfl⟩ rfl rfl ?_
  refine G (T := T) 1000 rfl ?_
  refine Ix (T := T) 1 rfl rfl rfl rfl rfl ⟨rfl, rfl⟩ rfl rfl ?_
  refine G (T := T) 1000 rfl ?_
  refine Ix (T := T) 0 rfl rfl rfl rfl rfl ⟨rfl, rfl⟩ rfl rfl ?_
  refine G (T := T) 1000 rfl ?_
  refine Ix (T := T) 0 rfl rfl rfl rfl rfl ⟨rfl, rfl⟩ rfl rfl ?_
  refine G (T := T) 1000 rfl ?_
  refine IfT rfl rfl ?_
  refine (Nr 4 73 4 rfl rfl).c ?_
  refine G (T := T) 1000 rfl ?_
  refine Nu ?_
  refine G (T := T) 1000 rfl ?_
  refine IfF rfl rfl ?_
  refine G (T := T) 1000 rfl ?_
  refine MS.fze 4 rfl ?_ (by repeat' (first | exact trivial | apply And.intro | rfl))
  exact Fm (T := T) id _ _ ⟨rfl, rfl⟩ rfl ⟨⟨_, _, rfl, rfl⟩, rfl, rfl⟩
theorem diff_of {a b : Tr} {da db : List D} {R : List (List D)} (ha : lbO a) (hb : lbO b) (hsa : a.size ≤ 1000000) (hsb : b.size ≤ 1000000) (hT : ∀ H, pk.hy H → TabH H)
    (hda : szD (mS a []) a = da) (hdb : szD (mS b (mS a [])) b = db) (he : XM Tryz.prog pk 40 [.a (.c (.p 0 0 0)), .a (.c (.d (.p da))), .a (.c (.d (.p db))), .a (.c .z), .a (.c .z)] (dfB (mS b (mS a [])) (fun _ => True)) 3 3 (fun r hp' => r = xr R ∧ hp' = dfB (mS b (mS a [])) (fun _ => True))) :
    XQ Tryz.prog pk 13 [xd (trd a), xd (trd b)] (xr R) := by
  have h1 := iH hT a.size a (Nat.le_refl _) hsa ha [] (fun _ => True) (fun t ht => by cases ht) (by show 0 + _ ≤ _; omega)
  have h2 := iH hT b.size b (Nat.le_refl _) hsb hb (mS a []) (fun _ => True) (mS_cl a (fun t ht => by cases ht)) (by have : (mS a []).length ≤ 0 + a.size := mS_len a []; omega)
  rw [hda] at h1
  rw [hdb] at h2
  refine XQ.en Tryz.func13 Tryz.ntmps13 (fun w0 own H V v0 hf => ?_)
  refine Gs (T := T) 100001 rfl ?_
  refine (FzTo.bz 0 rfl).c ?_
  refine (FzTo.bz 1 rfl).c ?_
  refine G (T := T) 1000 rfl ?_
  refine Mm (QI []) ⟨_, IdX.nil, MapR.nil _ _ _⟩ ⟨rfl, rfl⟩ ?_
  refine Mm (fun _ => True) trivial ⟨rfl, rfl⟩ ?_
  refine G (T := T) 100002 rfl ?_
  refine Ods (T := T) [0, 1, 2, 4, 5, 3, 6, 7, 8] rfl ?_
  refine G (T := T) 1000 rfl ?_
  refine Ckz [4, 2, 3] [⟨4, 0, .cells [.m 2 0, .m 3 0] 104⟩, ⟨2, 0, .mp (QI (mS a []))⟩, ⟨3, 0, .mp (fun _ => True)⟩] h1 rfl rfl rfl rfl rfl rfl rfl ⟨⟨rfl, rfl⟩, rfl⟩ rfl rfl ?_
  refine Ckz [4, 2, 3] [⟨4, 0, .cells [.m 2 0, .m 3 0] 104⟩, ⟨2, 0, .mp (QI (mS b (mS a [])))⟩, ⟨3, 0, .mp (fun _ => True)⟩] h2 rfl rfl rfl rfl rfl rfl rfl ⟨⟨rfl, rfl⟩, rfl⟩ rfl rfl ?_
  refine Ckz [4, 2, 3] [⟨4, 0, .cells [.m 2 0, .m 3 0] 104⟩, ⟨2, 0, .mp (QI (mS b (mS a [])))⟩, ⟨3, 0, .mp (fun _ => True)⟩] he rfl rfl rfl rfl rfl rfl rfl ⟨⟨rfl, rfl⟩, rfl⟩ rfl rfl ?_
  refine G (T := T) 1000 rfl ?_
  exact Fq (T := T) rfl rfl
theorem lb_A : lbO uA := ⟨by decide, by decide, trivial⟩
theorem lb_B : lbO uB := ⟨by decide, by decide, trivial⟩
theorem lb_Xab : lbO uXab := ⟨by decide, by decide, lb_A, lb_B, trivial⟩
theorem lb_Xb : lbO uXb := ⟨by decide, by decide, lb_B, trivial⟩
theorem lb_Xa : lbO uXa := ⟨by decide, by decide, lb_A, trivial⟩
theorem lb_Ya : lbO uYa := ⟨by decide, by decide, lb_A, trivial⟩
theorem lf_0 (S : List Tr) : szD (uA :: S) uA = dF lA 0 := by
  rw [c6, show (uA :: S).idxOf uA = 0 from List.idxOf_cons_self]; rfl
theorem lf_1 (S : List Tr) : szD (uA :: uB :: S) uB = dF lB 1 := by
  rw [c6, show (uA :: uB :: S).idxOf uB = 1 by rw [List.idxOf_cons, show (uA == uB) = false by decide +kernel, List.idxOf_cons_self]; rfl]; rfl
theorem diff_1 (hT : ∀ H, pk.hy H → TabH H) : XQ Tryz.prog pk 13 [xd (trd uXab), xd (trd uXb)] (xr [[.c (.int .i64 2), .s [[.c (.int .i64 0)]], .c (.string ⟨#[]⟩), .s []]]) := by
  have e1 : mS uXab [] = [uA, uB, uXab] := by decide +kernel
  have e2 : mS uXb [uA, uB, uXab] = [uA, uB, uXab, uXb] := by decide +kernel
  refine diff_of (da := .c (.string lX) :: .c (.int .i64 2) :: .c (.int .i64 3) :: .s [[.p (dF lA 0)], [.p (dF lB 1)]] :: [.c (.string lX), .s (aj [uA, uB])]) (db := .c (.string lX) :: .c (.int .i64 3) :: .c (.int .i64 2) :: .s [[.p (dF lB 1)]] :: [.c (.string lX), .s (aj [uB])]) lb_Xab lb_Xb (by decide +kernel) (by decide +kernel) hT ?_ ?_ ?_
  · rw [e1, c6, show [uA, uB, uXab].idxOf uXab = 2 by decide +kernel, show uXab.kids = [uA, uB] from rfl, szR, szR, szR, lf_0, lf_1]
    rfl
  · rw [e1, e2, c6, show [uA, uB, uXab, uXb].idxOf uXb = 3 by decide +kernel, show uXb.kids = [uB] from rfl, szR, szR, lf_1]
    rfl
  · rw [e1, e2]
    exact edits_2 (by decide) (by simp) (lf_0 _) (lf_1 _)
theorem diff_2 (hT : ∀ H, pk.hy H → TabH H) : XQ Tryz.prog pk 13 [xd (trd uXa), xd (trd uYa)] (xr [.c (.int .i64 3) :: .s [] :: trd uYa]) := by
  have e1 : mS uXa [] = [uA, uXa] := by decide +kernel
  have e2 : mS uYa [uA, uXa] = [uA, uXa, uYa] := by decide +kernel
  refine diff_of (da := .c (.string lX) :: .c (.int .i64 1) :: [.c (.int .i64 2), .s [[.p (dF lA 0)]], .c (.string lX), .s (aj [uA])]) (db := .c (.string lY) :: .c (.int .i64 2) :: .c (.int .i64 2) :: .s [[.p (dF lA 0)]] :: trd uYa) lb_Xa lb_Ya (by decide +kernel) (by decide +kernel) hT ?_ ?_ ?_
  · rw [e1, c6, show [uA, uXa].idxOf uXa = 1 by decide +kernel, show uXa.kids = [uA] from rfl, szR, szR, lf_0]
    rfl
  · rw [e1, e2, c6, show [uA, uXa, uYa].idxOf uYa = 2 by decide +kernel, show uYa.kids = [uA] from rfl, szR, szR, lf_0, al]
    rfl
  · rw [e1, e2]
    exact edits_3 (by decide) (by decide) lb_Ya
end
section
open Go Go.RowKit Go.Proofs K
variable {pk : Pk}
theorem find_a {a b : D} : XM Tryz.prog pk 96 [.a (.c (.p 0 0 0)), xr []] [⟨0, 0, .cells [.d a, .d b] 35⟩] 1 1 (fun r hp' => r = .a (.c (.p 0 0 0)) ∧ hp' = [⟨0, 0, .cells [.d a, .d b] 35⟩]) := by
  refine XM.en Tryz.func96 Tryz.ntmps96 (fun w0 own H V v0 hf => ?_)
  refine G (T := T) 1000 rfl ?_
  refine Un 0 ?_
  refine G (T := T) 1000 rfl ?_
  refine IfF rfl rfl ?_
  refine G (T := T) 1000 rfl ?_
  exact Fm (T := T) id _ _ ⟨rfl, rfl⟩ rfl ⟨⟨_, _, rfl, rfl⟩, rfl, rfl⟩
theorem find_b {a : D} {n : Nat} {R : List (List D)} : XM Tryz.prog pk 96 [.a (.c (.p 0 0 0)), xr []] [⟨0, 0, .cells [.d a, .l 1 0 2 0 n n] 35⟩, ⟨1, 0, .row n R 35 2⟩] 2 2 (fun r hp' => r = .a (.c (.p 0 0 0)) ∧ hp' = [⟨0, 0, .cells [.d a, .l 1 0 2 0 n n] 35⟩, ⟨1, 0, .row n R 35 2⟩]) := by
  refine XM.en Tryz.func96 Tryz.ntmps96 (fun w0 own H V v0 hf => ?_)
  refine G (T := T) 1000 rfl ?_
  refine Un 0 ?_
  refine G (T := T) 1000 rfl ?_
  refine IfF rfl rfl ?_
  refine G (T := T) 1000 rfl ?_
  exact Fm (T := T) id _ _ ⟨rfl, rfl⟩ rfl ⟨⟨_, _, rfl, rfl⟩, rfl, rfl⟩
theorem step_a : XM Tryz.prog pk 43 [.a (.c (.p 0 0 0)), xd [.c (.int .i64 1), .s [[.c (.int .i64 2)]], .c (.string lB), .s []]] [⟨0, 0, .cells [.d (.c (.string lX)), .d (.s [trd uA])] 35⟩] 1 1 (fun r hp' => r = .t [.a [.d (.c (.int .i64 0)), .z, .d (.c (.string ⟨#[]⟩)), .z], .c (.d (.c (.int .i64 101)))] ∧ hp' = [⟨0, 0, .cells [.d (.c (.string lX)), .d (.s [trd uA])] 35⟩]) := by
  have hl1 : ([[D.c (Value.int .i64 2)]] : List (List D)).length = 1 := rfl
  have hl2 : ([trd uA] : List (List D)).length = 1 := rfl
  refine XM.en Tryz.func43 Tryz.ntmps43 (fun w0 own H V v0 hf => ?_)
  refine Gs (T := T) 100001 rfl ?_
  refine (FzTo.bz 1 rfl).c ?_
  refine G (T := T) 1000 rfl ?_
  refine IfF rfl rfl ?_
  refine G (T := T) 1000 rfl ?_
  refine Cq (clone_q (by decide) (by simp)) rfl rfl rfl rfl rfl ⟨rfl, rfl⟩ ?_
  refine G (T := T) 1000 rfl ?_
  refine IfF rfl rfl ?_
  refine G (T := T) 1000 rfl ?_
  refine Sd (T := T) 0 0 rfl ⟨_, _, rfl, rfl⟩ rfl rfl rfl ⟨rfl, rfl⟩ rfl rfl (by decide) (by decide) (by simp) ?_
  rw [show List.take (0 - 0) (List.drop 0 [[D.c (Value.int .i64 2)]]) = [] from rfl]
  refine G (T := T) 1000 rfl ?_
  refine Ckf [0] (.a (.c (.p 0 0 0))) find_a rfl rfl rfl rfl rfl rfl rfl ⟨⟨rfl, rfl⟩, rfl⟩ rfl ?_
  refine G (T := T) 1000 rfl ?_
  refine Ix (T := T) 0 rfl rfl rfl rfl rfl ⟨rfl, rfl⟩ rfl rfl ?_
  refine G (T := T) 1000 rfl ?_
  refine Ep false Tryz.underlying111 (.inr ⟨rfl, .inl ⟨_, _, _, rfl⟩⟩) rfl rfl ⟨rfl, rfl⟩ ?_
  refine G (T := T) 1000 rfl ?_
  refine IfT rfl rfl ?_
  refine G (T := T) 1000 rfl ?_
  exact Fm (T := T) id _ _ ⟨rfl, rfl⟩ rfl ⟨⟨_, _, rfl, rfl⟩, rfl, rfl⟩
theorem apply_a : XQ Tryz.prog pk 14 [xd (trd uXa), xr [[.c (.int .i64 1), .s [[.c (.int .i64 2)]], .c (.string lB), .s []]]] (.t [.a [.d (.c (.string ⟨#[]⟩)), .z], .c (.d (.c (.int .i64 101)))]) := by
  have hl1 : ([[D.c (Value.int .i64 1), .s [[.c (.int .i64 2)]], .c (.string lB), .s []]] : List (List D)).length = 1 := rfl
  have hc := kg (pk := pk) lb_Xa
  rw [al] at hc
  refine XQ.en Tryz.func14 Tryz.ntmps14 (fun w0 own H V v0 hf => ?_)
  refine Gs (T := T) 100001 rfl ?_
  refine (FzTo.bz 0 rfl).c ?_
  rw [al]
  refine G (T := T) 1000 rfl ?_
  refine Cq hc rfl rfl rfl rfl rfl ⟨rfl, rfl⟩ ?_
  refine G (T := T) 1000 rfl ?_
  refine Un 1 ?_
  refine G (T := T) 1000 rfl ?_
  refine IfT rfl rfl ?_
  refine G (T := T) 1000 rfl ?_
  refine Ix (T := T) 0 rfl rfl rfl rfl rfl ⟨rfl, rfl⟩ rfl rfl ?_
  refine G (T := T) 1000 rfl ?_
  refine Ckf [2] _ step_a rfl rfl rfl rfl rfl rfl rfl ⟨⟨rfl, rfl⟩, rfl⟩ rfl ?_
  refine G (T := T) 1000 rfl ?_
  refine IfT rfl rfl ?_
  refine G (T := T) 1000 rfl ?_
  exact Fq (T := T) rfl rfl
abbrev zTr : List D := [.c (.string ⟨#[]⟩), .s []]
theorem zero35 (z : Value) (hz : Sl Tryz.prog 33 35 2 40 z) (H : Hp) : rdL H zTr z.cells.toList := by
  obtain ⟨i, hi, hz1, _⟩ := hz.ex
  obtain ⟨inf, zv, hi2, hz2, hc⟩ := cR (BT.all_get T.ok (i := 35) rfl)
  rw [hi2] at hi; cases hi
  rw [hz2] at hz1; cases hz1
  have h9 := hc (fun _ _ => none) H
  revert h9
  generalize z.cells.toList = us
  intro h9
  match us, h9 with
  | [u, v], h9 =>
    have h7 : XC.rel (fun _ _ => none) H (.d (.c (.string ⟨#[]⟩))) u := h9.1
    have h8 : v = .slice none 0 0 := h9.2.1
    subst h8
    exact ⟨by simpa only [XC.rel] using h7, by simp only [rd]; exact ⟨none, 0, 1, rfl, Nat.le_refl _, by decide, .inl trivial⟩, trivial⟩
theorem delete_b {a b : List D} (ha : a.length = 2) (hb : b.length = 2) : XM Tryz.prog pk 98 [.a (.c (.l 0 0 2 0 2 2)), xi 1, xi 2] [⟨0, 0, .row 2 [a, b] 35 2⟩] 1 1 (fun r hp' => r = .a (.c (.l 0 0 2 0 1 2)) ∧ hp' = [⟨0, 0, .row 2 [a, zTr] 35 2⟩]) := by
  refine XM.en Tryz.func98 Tryz.ntmps98 (fun w0 own H V v0 hf => ?_)
  refine G (T := T) 13 rfl ?_
  refine Slm (T := T) 1 2 2 rfl rfl rfl rfl rfl rfl ⟨rfl, rfl⟩ (by decide) (by decide) (by decide) ?_
  refine G (T := T) 1000 rfl ?_
  refine IfF rfl rfl ?_
  refine G (T := T) 22 rfl ?_
  refine Slo (T := T) 0 1 rfl ⟨_, _, rfl, rfl⟩ rfl rfl rfl rfl ⟨rfl, rfl⟩ rfl rfl (by decide) (by decide) (by decide) (by decide) ?_
  refine G (T := T) 25 rfl ?_
  refine Slw (T := T) (ri := none) 2 2 ⟨_, _, rfl, rfl⟩ rfl rfl rfl rfl ⟨rfl, rfl⟩ rfl rfl (by decide) (by decide) ?_
  refine G (T := T) 26 rfl ?_
  refine Ap0 (T := T) rfl rfl rfl rfl rfl ⟨rfl, rfl⟩ (by decide) (by decide) ?_
  refine G (T := T) 31 rfl ?_
  refine Slo (T := T) 1 2 ⟨_, _, rfl, rfl⟩ ⟨_, _, rfl, rfl⟩ rfl rfl rfl rfl ⟨rfl, rfl⟩ rfl rfl (by decide) (by decide) (by decide) (by decide) ?_
  refine G (T := T) 1000 rfl ?_
  refine Cl1 (T := T) rfl zero35 rfl rfl rfl rfl rfl ⟨rfl, rfl⟩ ?_
  refine G (T := T) 1000 rfl ?_
  exact Fm (T := T) id _ _ ⟨rfl, rfl⟩ rfl ⟨⟨_, _, rfl, rfl⟩, rfl, rfl⟩
abbrev hpB (n m : Nat) (R : List (List D)) : XH := [⟨0, 0, .cells [.d (.c (.string lX)), .l 1 0 2 0 n m] 35⟩, ⟨1, 0, .row 2 R 35 2⟩]
theorem step_b : XM Tryz.prog pk 43 [.a (.c (.p 0 0 0)), xd [.c (.int .i64 2), .s [[.c (.int .i64 1)]], .c (.string ⟨#[]⟩), .s []]] (hpB 2 2 [trd uA, trd uB]) 2 2 (fun r hp' => r = .t [.g [.c (.int .i64 1), .s [[.c (.int .i64 1)]], .c (.string lB), .s []], .c (.d (.c (.int .i64 0)))] ∧ hp' = hpB 1 2 [trd uA, zTr]) := by
  have hl1 : ([[D.c (Value.int .i64 1)]] : List (List D)).length = 1 := rfl
  refine XM.en Tryz.func43 Tryz.ntmps43 (fun w0 own H V v0 hf => ?_)
  refine Gs (T := T) 100001 rfl ?_
  refine (FzTo.bz 2 rfl).c ?_
  refine G (T := T) 1000 rfl ?_
  refine IfF rfl rfl ?_
  refine G (T := T) 1000 rfl ?_
  refine Cq (clone_q (by decide) (by simp)) rfl rfl rfl rfl rfl ⟨rfl, rfl⟩ ?_
  refine G (T := T) 1000 rfl ?_
  refine IfF rfl rfl ?_
  refine G (T := T) 1000 rfl ?_
  refine Sd (T := T) 0 0 rfl ⟨_, _, rfl, rfl⟩ rfl rfl rfl ⟨rfl, rfl⟩ rfl rfl (by decide) (by decide) (by simp) ?_
  rw [show List.take (0 - 0) (List.drop 0 [[D.c (Value.int .i64 1)]]) = [] from rfl]
  refine G (T := T) 1000 rfl ?_
  refine Ckf [0, 1] (.a (.c (.p 0 0 0))) find_b rfl rfl rfl rfl rfl rfl rfl ⟨⟨rfl, rfl⟩, rfl⟩ rfl ?_
  refine G (T := T) 1000 rfl ?_
  refine Ix (T := T) 0 rfl rfl rfl rfl rfl ⟨rfl, rfl⟩ rfl rfl ?_
  refine G (T := T) 1000 rfl ?_
  refine Ep false Tryz.underlying111 (.inr ⟨rfl, .inl ⟨_, _, _, rfl⟩⟩) rfl rfl ⟨rfl, rfl⟩ ?_
  refine G (T := T) 1000 rfl ?_
  refine IfF rfl rfl ?_
  refine G (T := T) 1000 rfl ?_
  refine IfF rfl rfl ?_
  refine G (T := T) 1000 rfl ?_
  refine Iq (T := T) 1 rfl rfl rfl rfl rfl ⟨rfl, rfl⟩ rfl (by decide) rfl ?_
  refine G (T := T) 1000 rfl ?_
  refine Lr (T := T) rfl rfl rfl rfl rfl ⟨rfl, rfl⟩ rfl rfl ?_
  refine G (T := T) 1000 rfl ?_
  refine Ckr [1] (.a (.c (.l 1 0 2 0 1 2))) [⟨1, 0, .row 2 [trd uA, zTr] 35 2⟩] (delete_b rfl rfl) rfl rfl rfl rfl rfl rfl rfl ⟨⟨rfl, rfl⟩, rfl⟩ rfl rfl ?_
  refine G (T := T) 1000 rfl ?_
  exact Fm (T := T) id _ _ ⟨rfl, rfl⟩ rfl ⟨⟨_, _, rfl, rfl⟩, rfl, rfl⟩
theorem reverse_1 {r : List D} : XM Tryz.prog pk 54 [.a (.c (.l 0 0 4 0 1 1))] [⟨0, 0, .row 1 [r] 73 4⟩] 1 1 (fun v hp' => v = .t [] ∧ hp' = [⟨0, 0, .row 1 [r] 73 4⟩]) := by
  refine XM.en Tryz.func54 Tryz.ntmps54 (fun w0 own H V v0 hf => ?_)
  refine G (T := T) 1000 rfl ?_
  refine Un 0 ?_
  refine G (T := T) 1000 rfl ?_
  refine IfF rfl rfl ?_
  refine G (T := T) 1000 rfl ?_
  exact Fm (T := T) id _ _ ⟨rfl, rfl⟩ rfl ⟨⟨_, _, rfl, rfl⟩, rfl, rfl⟩
theorem invert_b : XQ Tryz.prog pk 16 [xd (trd uXab), xr [[.c (.int .i64 2), .s [[.c (.int .i64 1)]], .c (.string ⟨#[]⟩), .s []]]] (.t [.c (.d (.s [[.c (.int .i64 1), .s [[.c (.int .i64 1)]], .c (.string lB), .s []]])), .c (.d (.c (.int .i64 0)))]) := by
  have hl1 : ([[D.c (Value.int .i64 2), .s [[.c (.int .i64 1)]], .c (.string ⟨#[]⟩), .s []]] : List (List D)).length = 1 := rfl
  refine XQ.en Tryz.func16 Tryz.ntmps16 (fun w0 own H V v0 hf => ?_)
  refine Gs (T := T) 100001 rfl ?_
  refine (FzTo.bz 0 rfl).c ?_
  refine G (T := T) 1000 rfl ?_
  refine Cy [] (fun _ => .a (.a [.d (.c (.string lX)), .l 1 0 2 0 2 2])) (fun _ => [⟨1, 0, .row 2 [trd uA, trd uB] 35 2⟩]) (clone_own (pk := pk) lb_Xab) rfl rfl rfl rfl rfl rfl rfl ⟨⟨rfl, rfl⟩, rfl⟩ (fun _ => rfl) (fun _ => rfl) rfl (fun _ _ => ?_)
  refine G (T := T) 100003 rfl ?_
  refine (Nr 7 73 4 rfl rfl).c ?_
  refine G (T := T) 1000 rfl ?_
  refine Un 1 ?_
  refine G (T := T) 1000 rfl ?_
  refine IfT rfl rfl ?_
  refine G (T := T) 1000 rfl ?_
  refine Ix (T := T) 0 rfl rfl rfl rfl rfl ⟨rfl, rfl⟩ rfl rfl ?_
  refine G (T := T) 1000 rfl ?_
  refine Ckz [2, 1] (aY (fun g t => (match g with | 0 => 2 | _ => 1, t)) (hpB 1 2 [trd uA, zTr])) step_b rfl rfl rfl rfl rfl rfl rfl ⟨⟨rfl, rfl⟩, rfl⟩ rfl rfl ?_
  refine G (T := T) 1000 rfl ?_
  refine IfF rfl rfl ?_
  refine G (T := T) 1000 rfl ?_
  refine Nu ?_
  refine G (T := T) 1000 rfl ?_
  refine IfF rfl rfl ?_
  refine G (T := T) 1000 rfl ?_
  refine Ckf [3] (.t []) reverse_1 rfl rfl rfl rfl rfl rfl rfl ⟨⟨rfl, rfl⟩, rfl⟩ rfl ?_
  refine G (T := T) 1000 rfl ?_
  refine MS.fze 3 rfl ?_ (by repeat' (first | exact trivial | apply And.intro | rfl))
  exact Fq (T := T) rfl rfl
end
end Go.Proofs.YtlmahofogapkgaaGreatDoor.X
