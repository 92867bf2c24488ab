/-
  The walk of MergeInserts.
-/
import Derived.Test.YtapmmfabdmhdnaaLawC
import Derived.Test.YtapmmfabdmhdnaaIns
set_option linter.unusedVariables false
set_option linter.unusedSimpArgs false
set_option maxHeartbeats 4000000
namespace Go.Proofs.Ytapmmfabdmhdnaa.K
open Go Go.RowKit Go.Proofs

theorem rem_nat {x : Int} (h : 0 ≤ x) (n : Nat) (hn : 0 < n) : ∃ a : Nat, x.tmod (n : Int) = (a : Int) ∧ a < n := by
  have h1 := Int.emod_nonneg x (b := (n : Int)) (by omega)
  have h2 := Int.emod_lt_of_pos x (b := (n : Int)) (by omega)
  exact ⟨(x % n).toNat, by rw [Int.tmod_eq_emod_of_nonneg h]; omega, by omega⟩
theorem lab97 {k : Nat} (h : k ≤ 30) : IntKind.u8.wrap (97 + (k : Int)) = ((UInt8.ofNat (97 + k)).toNat : Int) := by
  have : (UInt8.ofNat (97 + k)).toNat = 97 + k := by simp; omega
  rw [this]
  have : IntKind.u8.wrap (97 + (k : Int)) = 97 + (k : Int) := by
    simp only [IntKind.wrap, IntKind.bits, IntKind.signed, Bool.false_and, Bool.false_eq_true, if_false]
    omega
  rw [this]; omega
theorem law_inserts {x y z : Int} (kx : InK .u8 x) (ky : InK .u8 y) (kz : InK .u8 z) {w0 : World} {H : Hp} {own : List Seg} :
    Fn Try.prog 9 [.int .u8 x, .int .u8 y, .int .u8 z] w0 H own (fun r own' H' => r = .bool true ∧ own' = own ∧ Le H H') := by
  have hx8 := u8_in kx
  have hy8 := u8_in ky
  have hz8 := u8_in kz
  obtain ⟨n, hn, hn2⟩ := rem_nat hx8.1 21 (by omega)
  obtain ⟨a, ha0, ha2⟩ := rem_nat hy8.1 (n + 1) (by omega)
  obtain ⟨b, hb0, hb2⟩ := rem_nat hz8.1 (n + 1) (by omega)
  have ha : a ≤ n := by omega
  have hb : b ≤ n := by omega
  rw [show ((n + 1 : Nat) : Int) = (n : Int) + 1 by omega] at ha0 hb0
  have hn' : x.tmod 21 = (n : Int) := hn
  have hwn : IntKind.i64.wrap (n : Int) = (n : Int) := wrap_i64 ⟨by omega, by omega⟩
  have hwy : IntKind.i64.wrap y = y := wrap_i64 ⟨by omega, by omega⟩
  have hwz : IntKind.i64.wrap z = z := wrap_i64 ⟨by omega, by omega⟩
  have z1 := tN_size (n := n) (by omega) no (fun _ => by simp [no]) (fun _ _ h => by cases h)
  have z2 := tN_size (n := n) (by omega) (at1 wL a) (fun k => Nat.le_trans (at1_len _ _ k) (by omega)) (at1_1 wL_1 a)
  have z3 := tN_size (n := n) (by omega) (at1 wR b) (fun k => Nat.le_trans (at1_len _ _ k) (by omega)) (at1_1 wR_1 b)
  have y1 := rnd_len n no (fun _ => by simp [no])
  have y2 := rnd_len n (at1 wL a) (fun k => Nat.le_trans (at1_len _ _ k) (by omega))
  have y3 := rnd_len n (at1 wR b) (fun k => Nat.le_trans (at1_len _ _ k) (by omega))
  have y4 := rnd_len n (at2 a b) (at2_len a b)
  refine Fn.enter Try.func9 rfl Try.ntmps9 rfl ?_
  have hL := Le.refl H
  refine TC.seq ?_
  refine TC.region ?_
  refine TL.assign rfl rfl ?_
  refine TL.nil ?_
  refine TQ.then_n ?_
  refine TC.seq ?_
  refine TC.region ?_
  refine TL.call (law_sanity) trivial rfl ?_
  rintro _ own Hsn ⟨rfl, rfl, hlesn⟩
  have hL := Le.trans hL hlesn
  refine TL.assign rfl rfl ?_
  refine TL.nil ?_
  refine TQ.then_n ?_
  refine TC.seq ?_
  refine TC.region ?_
  refine TL.move rfl rfl ?_
  refine TL.rem rfl rfl rfl (by omega) ?_
  rw [hn']
  refine TL.convI rfl rfl ?_
  rw [hwn]
  refine TL.assign rfl rfl ?_
  refine TL.nil ?_
  refine TQ.then_n ?_
  refine TC.seq ?_
  refine TC.region ?_
  refine TL.move rfl rfl ?_
  refine TL.convI rfl rfl ?_
  rw [hwy]
  refine TL.move rfl rfl ?_
  refine TL.add rfl rfl rfl ⟨by omega, by omega⟩ ?_
  refine TL.rem rfl rfl rfl (by omega) ?_
  rw [ha0]
  refine TL.assign rfl rfl ?_
  refine TL.nil ?_
  refine TQ.then_n ?_
  refine TC.seq ?_
  refine TC.region ?_
  refine TL.move rfl rfl ?_
  refine TL.convI rfl rfl ?_
  rw [hwz]
  refine TL.move rfl rfl ?_
  refine TL.add rfl rfl rfl ⟨by omega, by omega⟩ ?_
  refine TL.rem rfl rfl rfl (by omega) ?_
  rw [hb0]
  refine TL.assign rfl rfl ?_
  refine TL.nil ?_
  refine TQ.then_n ?_
  refine TC.seq ?_
  refine TC.region ?_
  refine TL.struct [(0, [_])] ⟨rfl, ⟨_, rfl, rfl⟩, trivial⟩ rfl rfl ?_
  refine TL.new rfl ?_; intro g11
  refine TL.storeA 0 0 (c' := #[_, _]) (own' := [(_, .cells #[_, _] _ _)] :: _) rfl rfl rfl rfl rfl ⟨rfl, rfl, trivial⟩ (by simp) rfl rfl rfl ?_
  refine TL.nil ?_
  refine TQ.then_n ?_
  refine TC.seq ?_
  refine TC.region ?_
  refine TL.struct [(0, [_])] ⟨rfl, ⟨_, rfl, rfl⟩, trivial⟩ rfl rfl ?_
  refine TL.new rfl ?_; intro g12
  refine TL.storeA 0 0 (c' := #[_, _]) (own' := [(_, .cells #[_, _] _ _)] :: _) rfl rfl rfl rfl rfl ⟨rfl, rfl, trivial⟩ (by simp) rfl rfl rfl ?_
  refine TL.nil ?_
  refine TQ.then_n ?_
  refine TC.seq ?_
  refine TC.region ?_
  refine TL.struct [(0, [_])] ⟨rfl, ⟨_, rfl, rfl⟩, trivial⟩ rfl rfl ?_
  refine TL.new rfl ?_; intro g13
  refine TL.storeA 0 0 (c' := #[_, _]) (own' := [(_, .cells #[_, _] _ _)] :: _) rfl rfl rfl rfl rfl ⟨rfl, rfl, trivial⟩ (by simp) rfl rfl rfl ?_
  refine TL.nil ?_
  refine TQ.then_n ?_
  refine TC.seq ?_
  refine TC.region ?_
  refine TL.struct [(0, [_])] ⟨rfl, ⟨_, rfl, rfl⟩, trivial⟩ rfl rfl ?_
  refine TL.new rfl ?_; intro g14
  refine TL.storeA 0 0 (c' := #[_, _]) (own' := [(_, .cells #[_, _] _ _)] :: _) rfl rfl rfl rfl rfl ⟨rfl, rfl, trivial⟩ (by simp) rfl rfl rfl ?_
  refine TL.nil ?_
  refine TQ.then_n ?_
  refine TC.seq ?_
  refine TC.seq ?_
  refine TC.nilseg ?_
  refine TC.nilseg ?_
  refine TC.nilseg ?_
  refine TC.nilseg ?_
  refine TC.region ?_
  refine TL.assign rfl rfl ?_
  refine TL.nil ?_
  refine TQ.then_n ?_
  refine TC.block ?_
  refine TC.loop (fun z' env' own' H' => ∃ (k : Nat) (ub ul ur uw : Value) (xb xl xr xw : List Value) (sb sl sr sw : Seg), z' = n + 1 - k ∧ k ≤ n + 1 ∧ RT H' ub (rnd n no k) xb sb ∧ RT H' ul (rnd n (at1 wL a) k) xl sl ∧ RT H' ur (rnd n (at1 wR b) k) xr sr ∧ RT H' uw (rnd n (at2 a b) k) xw sw ∧ env' = [(7, .bool true), (8, .int .i64 (n : Int)), (9, .int .i64 (a : Int)), (10, .int .i64 (b : Int)), (11, .pointer (some ⟨g11, 0, none⟩)), (12, .pointer (some ⟨g12, 0, none⟩)), (13, .pointer (some ⟨g13, 0, none⟩)), (14, .pointer (some ⟨g14, 0, none⟩)), (15, .int .i64 (k : Int))] ∧ own' = sb :: sl :: sr :: sw :: [(g14, .cells #[.string ⟨#[116]⟩, uw] 27 (0, 0))] :: [(g13, .cells #[.string ⟨#[116]⟩, ur] 27 (0, 0))] :: [(g12, .cells #[.string ⟨#[116]⟩, ul] 27 (0, 0))] :: [(g11, .cells #[.string ⟨#[116]⟩, ub] 27 (0, 0))] :: own ∧ Le Hsn H') (n + 1) [(7, _), (8, _), (9, _), (10, _), (11, _), (12, _), (13, _), (14, _), (15, _)] ⟨rfl, rfl, rfl, rfl, rfl, rfl, rfl, rfl, rfl, trivial⟩ ⟨0, _, _, _, _, [], [], [], [], [], [], [], [], by omega, by omega, ⟨Row.nil 27 2, by simp [rnd, Tr.ds, RdL]⟩, ⟨Row.nil 27 2, by simp [rnd, Tr.ds, RdL]⟩, ⟨Row.nil 27 2, by simp [rnd, Tr.ds, RdL]⟩, ⟨Row.nil 27 2, by simp [rnd, Tr.ds, RdL]⟩, rfl, rfl, Le.refl _⟩ ?_
  rintro z' _ _ H9 ⟨k, ub, ul, ur, uw, xb, xl, xr, xw, sb, sl, sr, sw, rfl, hk1, htb, htl, htr, htw, rfl, rfl, hle9⟩
  obtain ⟨hrb, hxb⟩ := htb
  obtain ⟨hrl, hxl⟩ := htl
  obtain ⟨hrr, hxr⟩ := htr
  obtain ⟨hrw, hxw⟩ := htw
  have y1 := y1 k
  have y2 := y2 k
  have y3 := y3 k
  have y4 := y4 k
  have hL := Le.trans hL hle9
  refine TC.seq ?_
  refine TC.seq ?_
  refine TC.region ?_
  refine TL.move rfl rfl ?_
  refine TL.move rfl rfl ?_
  refine TL.leqB rfl rfl rfl (fun hlt => ?_) (fun hlt => ?_)
  ·
   refine TL.nil ?_
   refine TQ.then_n ?_
   refine TC.cond_t rfl ?_
   refine TC.skip ?_
   refine TQ.then_n ?_
   refine TC.seq ?_
   refine TC.block ?_
   refine TC.cut (fun env' own' H' => ∃ (ul uw : Value) (xl xw : List Value) (sl sw : Seg), env' = [(7, .bool true), (8, .int .i64 (n : Int)), (9, .int .i64 (a : Int)), (10, .int .i64 (b : Int)), (11, .pointer (some ⟨g11, 0, none⟩)), (12, .pointer (some ⟨g12, 0, none⟩)), (13, .pointer (some ⟨g13, 0, none⟩)), (14, .pointer (some ⟨g14, 0, none⟩)), (15, .int .i64 (k : Int))] ∧ own' = sb :: sl :: sr :: sw :: [(g14, .cells #[.string ⟨#[116]⟩, uw] 27 (0, 0))] :: [(g13, .cells #[.string ⟨#[116]⟩, ur] 27 (0, 0))] :: [(g12, .cells #[.string ⟨#[116]⟩, ul] 27 (0, 0))] :: [(g11, .cells #[.string ⟨#[116]⟩, ub] 27 (0, 0))] :: own ∧ RT H' ul (rnd n (at1 wL a) k ++ at1 wL a k) xl sl ∧ RT H' uw (rnd n (at2 a b) k ++ at1 wL a k) xw sw ∧ Le H9 H') ?_ ?_
   ·
    have hcut := Le.refl H9
    refine TC.seq ?_
    refine TC.region ?_
    refine TL.move rfl rfl ?_
    refine TL.move rfl rfl ?_
    refine TL.eqlB rfl rfl rfl (fun hka => ?_) (fun hka => ?_)
    ·
     refine TL.nil ?_
     refine TQ.then_n ?_
     refine TC.cond_t rfl ?_
     refine TC.seq ?_
     refine TC.drawQV 4  [(7, _), (8, _), (9, _), (10, _), (11, _), (12, _), (13, _), (14, _), (15, _)] follows_mixed ⟨rfl, rfl, rfl, rfl, rfl, rfl, rfl, rfl, rfl, trivial⟩ ?_
     refine ChainV.q (some 45) [] (by
      intro H' X F hle
      have hL := Le.trans hL hle
      have hle9 := Le.trans hle9 hle
      have hxb := RdL.mono hle hxb
      have hxl := RdL.mono hle hxl
      have hxr := RdL.mono hle hxr
      have hxw := RdL.mono hle hxw
      have hcut := Le.trans hcut hle
      intro hF
      refine TL.fieldAddr rfl rfl ?_
      refine TL.nil ?_
      exact TQ.one [] hF (Le.refl _) ⟨rfl, rfl⟩) ?_
     refine ChainV.q (some 46) [(0, 0)] (by
      intro H' X F hle
      have hL := Le.trans hL hle
      have hle9 := Le.trans hle9 hle
      have hxb := RdL.mono hle hxb
      have hxl := RdL.mono hle hxl
      have hxr := RdL.mono hle hxr
      have hxw := RdL.mono hle hxw
      have hcut := Le.trans hcut hle
      intro hF
      refine TL.load_own 6 0 rfl rfl rfl rfl rfl ?_
      refine TL.nil ?_
      exact TQ.one [] hF (Le.refl _) ⟨rfl, rfl⟩) ?_
     refine ChainV.r (some 47) [] ([]) (fun _ => fun u s H => u = .agg #[.string ⟨#[108, 101, 102, 116]⟩, .slice none 0 0] ∧ s = []) (by
      intro H' X F hle
      have hL := Le.trans hL hle
      have hle9 := Le.trans hle9 hle
      have hxb := RdL.mono hle hxb
      have hxl := RdL.mono hle hxl
      have hxr := RdL.mono hle hxr
      have hxw := RdL.mono hle hxw
      have hcut := Le.trans hcut hle
      intro hF
      refine TL.call (law_leaf) ⟨rfl, trivial⟩ rfl ?_
      rintro _ _ H2 ⟨rfl, rfl, hle2⟩
      refine TL.nil ?_
      exact TQ.one [] hF hle2 ⟨rfl, rfl⟩) ?_
     refine ChainV.r (some 48) [(2, 0)] ([]) (fun _ => fun u s H => ∃ g, u = .slice (some ⟨g, 0, none⟩) 1 1 ∧ s = [[(g, .cells #[.string ⟨#[108, 101, 102, 116]⟩, .slice none 0 0] 27 (0, 0))]]) (by
      intro H' X F hle
      have hL := Le.trans hL hle
      have hle9 := Le.trans hle9 hle
      have hxb := RdL.mono hle hxb
      have hxl := RdL.mono hle hxl
      have hxr := RdL.mono hle hxr
      have hxw := RdL.mono hle hxw
      have hcut := Le.trans hcut hle
      intro _
      rintro _ _ Hr47 hler47 ⟨rfl, rfl⟩
      intro hF
      refine TL.litF (r := [_, _]) [(0, [_, _])] ⟨rfl, ⟨_, rfl, rfl⟩, trivial⟩ rfl rfl rfl rfl ?_; intro g48
      refine TL.nil ?_
      exact TQ.one [_] hF (Le.refl _) ⟨_, rfl, rfl⟩) ?_
     refine ⟨by kernel_rfl, .refl _, ?_⟩
     ·
      intro H1 hle
      rintro _ _ Hr47 hler47 ⟨rfl, rfl⟩
      rintro _ _ Hg48 hleg48 ⟨g48, rfl, rfl⟩
      have hL := Le.trans hL hle
      have hle9 := Le.trans hle9 hle
      have hxb := RdL.mono hle hxb
      have hxl := RdL.mono hle hxl
      have hxr := RdL.mono hle hxr
      have hxw := RdL.mono hle hxw
      have hcut := Le.trans hcut hle
      refine TL.toOwn (own' := _ :: _ :: _ :: _ :: _ :: _ :: _ :: _ :: _ :: own) rfl ?_
      refine TL.wk (env' := [(7, _), (8, _), (9, _), (10, _), (11, _), (12, _), (13, _), (14, _), (15, _), (46, _), (48, _)]) ⟨rfl, rfl, rfl, rfl, rfl, rfl, rfl, rfl, rfl, rfl, rfl, trivial⟩ ?_
      refine TL.append 2 rfl rfl rfl hrl (Src.ofOwn 0 0 rfl rfl rfl (Ones.all (show Ones [_, _] from ⟨by rfl, by rfl, trivial⟩)) ⟨rfl, rfl, trivial⟩) (by omega) (by omega) rfl ?_
      intro vl2 sl2 hrl2
      refine TL.fieldAddr rfl rfl ?_
      refine TL.store1 7 0 (c' := #[_, _]) (own' := _ :: _ :: _ :: _ :: _ :: _ :: _ :: [(_, .cells #[_, _] _ _)] :: _) rfl rfl rfl rfl hrl2.one (by simp) rfl rfl rfl ?_
      refine TL.nil ?_
      refine TQ.then_n ?_
      refine TC.drawQV 4  [(7, _), (8, _), (9, _), (10, _), (11, _), (12, _), (13, _), (14, _), (15, _)] follows_mixed ⟨rfl, rfl, rfl, rfl, rfl, rfl, rfl, rfl, rfl, trivial⟩ ?_
      refine ChainV.q (some 51) [] (by
       intro H' X F hle
       have hL := Le.trans hL hle
       have hle9 := Le.trans hle9 hle
       have hxb := RdL.mono hle hxb
       have hxl := RdL.mono hle hxl
       have hxr := RdL.mono hle hxr
       have hxw := RdL.mono hle hxw
       have hcut := Le.trans hcut hle
       intro hF
       refine TL.fieldAddr rfl rfl ?_
       refine TL.nil ?_
       exact TQ.one [] hF (Le.refl _) ⟨rfl, rfl⟩) ?_
      refine ChainV.q (some 52) [(0, 0)] (by
       intro H' X F hle
       have hL := Le.trans hL hle
       have hle9 := Le.trans hle9 hle
       have hxb := RdL.mono hle hxb
       have hxl := RdL.mono hle hxl
       have hxr := RdL.mono hle hxr
       have hxw := RdL.mono hle hxw
       have hcut := Le.trans hcut hle
       intro hF
       refine TL.load_own 5 0 rfl rfl rfl rfl rfl ?_
       refine TL.nil ?_
       exact TQ.one [] hF (Le.refl _) ⟨rfl, rfl⟩) ?_
      refine ChainV.r (some 53) [] ([]) (fun _ => fun u s H => u = .agg #[.string ⟨#[108, 101, 102, 116]⟩, .slice none 0 0] ∧ s = []) (by
       intro H' X F hle
       have hL := Le.trans hL hle
       have hle9 := Le.trans hle9 hle
       have hxb := RdL.mono hle hxb
       have hxl := RdL.mono hle hxl
       have hxr := RdL.mono hle hxr
       have hxw := RdL.mono hle hxw
       have hcut := Le.trans hcut hle
       intro hF
       refine TL.call (law_leaf) ⟨rfl, trivial⟩ rfl ?_
       rintro _ _ H2 ⟨rfl, rfl, hle2⟩
       refine TL.nil ?_
       exact TQ.one [] hF hle2 ⟨rfl, rfl⟩) ?_
      refine ChainV.r (some 54) [(2, 0)] ([]) (fun _ => fun u s H => ∃ g, u = .slice (some ⟨g, 0, none⟩) 1 1 ∧ s = [[(g, .cells #[.string ⟨#[108, 101, 102, 116]⟩, .slice none 0 0] 27 (0, 0))]]) (by
       intro H' X F hle
       have hL := Le.trans hL hle
       have hle9 := Le.trans hle9 hle
       have hxb := RdL.mono hle hxb
       have hxl := RdL.mono hle hxl
       have hxr := RdL.mono hle hxr
       have hxw := RdL.mono hle hxw
       have hcut := Le.trans hcut hle
       intro _
       rintro _ _ Hr53 hler53 ⟨rfl, rfl⟩
       intro hF
       refine TL.litF (r := [_, _]) [(0, [_, _])] ⟨rfl, ⟨_, rfl, rfl⟩, trivial⟩ rfl rfl rfl rfl ?_; intro g54
       refine TL.nil ?_
       exact TQ.one [_] hF (Le.refl _) ⟨_, rfl, rfl⟩) ?_
      refine ⟨by kernel_rfl, .refl _, ?_⟩
      ·
       intro H2 hle
       rintro _ _ Hr53 hler53 ⟨rfl, rfl⟩
       rintro _ _ Hg54 hleg54 ⟨g54, rfl, rfl⟩
       have hL := Le.trans hL hle
       have hle9 := Le.trans hle9 hle
       have hxb := RdL.mono hle hxb
       have hxl := RdL.mono hle hxl
       have hxr := RdL.mono hle hxr
       have hxw := RdL.mono hle hxw
       have hcut := Le.trans hcut hle
       refine TL.toOwn (own' := _ :: _ :: _ :: _ :: _ :: _ :: _ :: _ :: _ :: _ :: own) rfl ?_
       refine TL.wk (env' := [(7, _), (8, _), (9, _), (10, _), (11, _), (12, _), (13, _), (14, _), (15, _), (52, _), (54, _)]) ⟨rfl, rfl, rfl, rfl, rfl, rfl, rfl, rfl, rfl, rfl, rfl, trivial⟩ ?_
       refine TL.append 5 rfl rfl rfl hrw (Src.ofOwn 0 0 rfl rfl rfl (Ones.all (show Ones [_, _] from ⟨by rfl, by rfl, trivial⟩)) ⟨rfl, rfl, trivial⟩) (by omega) (by omega) rfl ?_
       intro vw2 sw2 hrw2
       refine TL.fieldAddr rfl rfl ?_
       refine TL.store1 6 0 (c' := #[_, _]) (own' := _ :: _ :: _ :: _ :: _ :: _ :: [(_, .cells #[_, _] _ _)] :: _) rfl rfl rfl rfl hrw2.one (by simp) rfl rfl rfl ?_
       refine TL.nil ?_
       refine TQ.sel 10 [2, 3, 4, 5, 6, 7, 8, 9] rfl (fun o ho => ?_)
       simp only [K.sel, List.map_cons, List.map_nil, List.getD_cons_zero, List.getD_cons_succ, List.drop_succ_cons, List.drop_zero, List.cons_append, List.nil_append, List.set_cons_zero, List.set_cons_succ] at ho; subst ho
       first
         | exact TQ.mid [(7, _), (8, _), (9, _), (10, _), (11, _), (12, _), (13, _), (14, _), (15, _)] ⟨rfl, rfl, rfl, rfl, rfl, rfl, rfl, rfl, rfl, trivial⟩ ⟨_, _, _, _, _, _, rfl, rfl, by rw [at1_y (by omega)]; exact RT.snoc hrl2 hxl (leaf_d _ _), by rw [at1_y (by omega)]; exact RT.snoc hrw2 hxw (leaf_d _ _), hcut⟩
         | exact TQ.mid [(7, _), (8, _), (9, _), (10, _), (11, _), (12, _), (13, _), (14, _), (15, _)] ⟨rfl, rfl, rfl, rfl, rfl, rfl, rfl, rfl, rfl, trivial⟩ ⟨_, _, _, _, _, _, rfl, rfl, by rw [at1_n (by omega), List.append_nil]; exact ⟨hrl, hxl⟩, by rw [at1_n (by omega), List.append_nil]; exact ⟨hrw, hxw⟩, hcut⟩
    ·
     refine TL.nil ?_
     refine TQ.then_n ?_
     refine TC.cond_f rfl ?_
     refine TC.skip ?_
     refine TQ.toOwn (own' := _ :: _ :: _ :: _ :: _ :: _ :: _ :: _ :: own) rfl ?_
     first
       | exact TQ.mid [(7, _), (8, _), (9, _), (10, _), (11, _), (12, _), (13, _), (14, _), (15, _)] ⟨rfl, rfl, rfl, rfl, rfl, rfl, rfl, rfl, rfl, trivial⟩ ⟨_, _, _, _, _, _, rfl, rfl, by rw [at1_y (by omega)]; exact RT.snoc hrl2 hxl (leaf_d _ _), by rw [at1_y (by omega)]; exact RT.snoc hrw2 hxw (leaf_d _ _), hcut⟩
       | exact TQ.mid [(7, _), (8, _), (9, _), (10, _), (11, _), (12, _), (13, _), (14, _), (15, _)] ⟨rfl, rfl, rfl, rfl, rfl, rfl, rfl, rfl, rfl, trivial⟩ ⟨_, _, _, _, _, _, rfl, rfl, by rw [at1_n (by omega), List.append_nil]; exact ⟨hrl, hxl⟩, by rw [at1_n (by omega), List.append_nil]; exact ⟨hrw, hxw⟩, hcut⟩
   clear hrl hxl hrw hxw
   rintro _ _ H8 ⟨ul, uw, xl, xw, sl, sw, rfl, rfl, htl, htw, hle8⟩
   obtain ⟨hrl, hxl⟩ := htl
   obtain ⟨hrw, hxw⟩ := htw
   have w1 := at1_len wL a k
   have v1 : (rnd n (at1 wL a) k ++ at1 wL a k).length ≤ 3 * k + 1 := by rw [List.length_append]; omega
   have v2 : (rnd n (at2 a b) k ++ at1 wL a k).length ≤ 3 * k + 1 := by rw [List.length_append]; omega
   have hL := Le.trans hL hle8
   have hle9 := Le.trans hle9 hle8
   have hxb := RdL.mono hle8 hxb
   have hxr := RdL.mono hle8 hxr
   refine TC.cut (fun env' own' H' => ∃ (ur uw : Value) (xr xw : List Value) (sr sw : Seg), env' = [(7, .bool true), (8, .int .i64 (n : Int)), (9, .int .i64 (a : Int)), (10, .int .i64 (b : Int)), (11, .pointer (some ⟨g11, 0, none⟩)), (12, .pointer (some ⟨g12, 0, none⟩)), (13, .pointer (some ⟨g13, 0, none⟩)), (14, .pointer (some ⟨g14, 0, none⟩)), (15, .int .i64 (k : Int))] ∧ own' = sb :: sl :: sr :: sw :: [(g14, .cells #[.string ⟨#[116]⟩, uw] 27 (0, 0))] :: [(g13, .cells #[.string ⟨#[116]⟩, ur] 27 (0, 0))] :: [(g12, .cells #[.string ⟨#[116]⟩, ul] 27 (0, 0))] :: [(g11, .cells #[.string ⟨#[116]⟩, ub] 27 (0, 0))] :: own ∧ RT H' ur (rnd n (at1 wR b) k ++ at1 wR b k) xr sr ∧ RT H' uw (rnd n (at2 a b) k ++ at2 a b k) xw sw ∧ Le H8 H') ?_ ?_
   ·
    have hcut := Le.refl H8
    refine TC.seq ?_
    refine TC.region ?_
    refine TL.move rfl rfl ?_
    refine TL.move rfl rfl ?_
    refine TL.eqlB rfl rfl rfl (fun hkb => ?_) (fun hkb => ?_)
    ·
     refine TL.nil ?_
     refine TQ.then_n ?_
     refine TC.cond_t rfl ?_
     refine TC.seq ?_
     refine TC.drawQV 4  [(7, _), (8, _), (9, _), (10, _), (11, _), (12, _), (13, _), (14, _), (15, _)] follows_mixed ⟨rfl, rfl, rfl, rfl, rfl, rfl, rfl, rfl, rfl, trivial⟩ ?_
     refine ChainV.q (some 60) [] (by
      intro H' X F hle
      have hL := Le.trans hL hle
      have hle9 := Le.trans hle9 hle
      have hxb := RdL.mono hle hxb
      have hxr := RdL.mono hle hxr
      have hxl := RdL.mono hle hxl
      have hxw := RdL.mono hle hxw
      have hcut := Le.trans hcut hle
      intro hF
      refine TL.fieldAddr rfl rfl ?_
      refine TL.nil ?_
      exact TQ.one [] hF (Le.refl _) ⟨rfl, rfl⟩) ?_
     refine ChainV.q (some 61) [(0, 0)] (by
      intro H' X F hle
      have hL := Le.trans hL hle
      have hle9 := Le.trans hle9 hle
      have hxb := RdL.mono hle hxb
      have hxr := RdL.mono hle hxr
      have hxl := RdL.mono hle hxl
      have hxw := RdL.mono hle hxw
      have hcut := Le.trans hcut hle
      intro hF
      refine TL.load_own 5 0 rfl rfl rfl rfl rfl ?_
      refine TL.nil ?_
      exact TQ.one [] hF (Le.refl _) ⟨rfl, rfl⟩) ?_
     refine ChainV.r (some 62) [] ([]) (fun _ => fun u s H => u = .agg #[.string ⟨#[114, 105, 103, 104, 116]⟩, .slice none 0 0] ∧ s = []) (by
      intro H' X F hle
      have hL := Le.trans hL hle
      have hle9 := Le.trans hle9 hle
      have hxb := RdL.mono hle hxb
      have hxr := RdL.mono hle hxr
      have hxl := RdL.mono hle hxl
      have hxw := RdL.mono hle hxw
      have hcut := Le.trans hcut hle
      intro hF
      refine TL.call (law_leaf) ⟨rfl, trivial⟩ rfl ?_
      rintro _ _ H2 ⟨rfl, rfl, hle2⟩
      refine TL.nil ?_
      exact TQ.one [] hF hle2 ⟨rfl, rfl⟩) ?_
     refine ChainV.r (some 63) [(2, 0)] ([]) (fun _ => fun u s H => ∃ g, u = .slice (some ⟨g, 0, none⟩) 1 1 ∧ s = [[(g, .cells #[.string ⟨#[114, 105, 103, 104, 116]⟩, .slice none 0 0] 27 (0, 0))]]) (by
      intro H' X F hle
      have hL := Le.trans hL hle
      have hle9 := Le.trans hle9 hle
      have hxb := RdL.mono hle hxb
      have hxr := RdL.mono hle hxr
      have hxl := RdL.mono hle hxl
      have hxw := RdL.mono hle hxw
      have hcut := Le.trans hcut hle
      intro _
      rintro _ _ Hr62 hler62 ⟨rfl, rfl⟩
      intro hF
      refine TL.litF (r := [_, _]) [(0, [_, _])] ⟨rfl, ⟨_, rfl, rfl⟩, trivial⟩ rfl rfl rfl rfl ?_; intro g63
      refine TL.nil ?_
      exact TQ.one [_] hF (Le.refl _) ⟨_, rfl, rfl⟩) ?_
     refine ⟨by kernel_rfl, .refl _, ?_⟩
     ·
      intro H3 hle
      rintro _ _ Hr62 hler62 ⟨rfl, rfl⟩
      rintro _ _ Hg63 hleg63 ⟨g63, rfl, rfl⟩
      have hL := Le.trans hL hle
      have hle9 := Le.trans hle9 hle
      have hxb := RdL.mono hle hxb
      have hxr := RdL.mono hle hxr
      have hxl := RdL.mono hle hxl
      have hxw := RdL.mono hle hxw
      have hcut := Le.trans hcut hle
      refine TL.toOwn (own' := _ :: _ :: _ :: _ :: _ :: _ :: _ :: _ :: _ :: own) rfl ?_
      refine TL.wk (env' := [(7, _), (8, _), (9, _), (10, _), (11, _), (12, _), (13, _), (14, _), (15, _), (61, _), (63, _)]) ⟨rfl, rfl, rfl, rfl, rfl, rfl, rfl, rfl, rfl, rfl, rfl, trivial⟩ ?_
      refine TL.append 3 rfl rfl rfl hrr (Src.ofOwn 0 0 rfl rfl rfl (Ones.all (show Ones [_, _] from ⟨by rfl, by rfl, trivial⟩)) ⟨rfl, rfl, trivial⟩) (by omega) (by omega) rfl ?_
      intro vr2 sr2 hrr2
      refine TL.fieldAddr rfl rfl ?_
      refine TL.store1 6 0 (c' := #[_, _]) (own' := _ :: _ :: _ :: _ :: _ :: _ :: [(_, .cells #[_, _] _ _)] :: _) rfl rfl rfl rfl hrr2.one (by simp) rfl rfl rfl ?_
      refine TL.nil ?_
      refine TQ.then_n ?_
      refine TC.drawQV 4  [(7, _), (8, _), (9, _), (10, _), (11, _), (12, _), (13, _), (14, _), (15, _)] follows_mixed ⟨rfl, rfl, rfl, rfl, rfl, rfl, rfl, rfl, rfl, trivial⟩ ?_
      refine ChainV.q (some 66) [] (by
       intro H' X F hle
       have hL := Le.trans hL hle
       have hle9 := Le.trans hle9 hle
       have hxb := RdL.mono hle hxb
       have hxr := RdL.mono hle hxr
       have hxl := RdL.mono hle hxl
       have hxw := RdL.mono hle hxw
       have hcut := Le.trans hcut hle
       intro hF
       refine TL.fieldAddr rfl rfl ?_
       refine TL.nil ?_
       exact TQ.one [] hF (Le.refl _) ⟨rfl, rfl⟩) ?_
      refine ChainV.q (some 67) [(0, 0)] (by
       intro H' X F hle
       have hL := Le.trans hL hle
       have hle9 := Le.trans hle9 hle
       have hxb := RdL.mono hle hxb
       have hxr := RdL.mono hle hxr
       have hxl := RdL.mono hle hxl
       have hxw := RdL.mono hle hxw
       have hcut := Le.trans hcut hle
       intro hF
       refine TL.load_own 5 0 rfl rfl rfl rfl rfl ?_
       refine TL.nil ?_
       exact TQ.one [] hF (Le.refl _) ⟨rfl, rfl⟩) ?_
      refine ChainV.r (some 68) [] ([]) (fun _ => fun u s H => u = .agg #[.string ⟨#[114, 105, 103, 104, 116]⟩, .slice none 0 0] ∧ s = []) (by
       intro H' X F hle
       have hL := Le.trans hL hle
       have hle9 := Le.trans hle9 hle
       have hxb := RdL.mono hle hxb
       have hxr := RdL.mono hle hxr
       have hxl := RdL.mono hle hxl
       have hxw := RdL.mono hle hxw
       have hcut := Le.trans hcut hle
       intro hF
       refine TL.call (law_leaf) ⟨rfl, trivial⟩ rfl ?_
       rintro _ _ H2 ⟨rfl, rfl, hle2⟩
       refine TL.nil ?_
       exact TQ.one [] hF hle2 ⟨rfl, rfl⟩) ?_
      refine ChainV.r (some 69) [(2, 0)] ([]) (fun _ => fun u s H => ∃ g, u = .slice (some ⟨g, 0, none⟩) 1 1 ∧ s = [[(g, .cells #[.string ⟨#[114, 105, 103, 104, 116]⟩, .slice none 0 0] 27 (0, 0))]]) (by
       intro H' X F hle
       have hL := Le.trans hL hle
       have hle9 := Le.trans hle9 hle
       have hxb := RdL.mono hle hxb
       have hxr := RdL.mono hle hxr
       have hxl := RdL.mono hle hxl
       have hxw := RdL.mono hle hxw
       have hcut := Le.trans hcut hle
       intro _
       rintro _ _ Hr68 hler68 ⟨rfl, rfl⟩
       intro hF
       refine TL.litF (r := [_, _]) [(0, [_, _])] ⟨rfl, ⟨_, rfl, rfl⟩, trivial⟩ rfl rfl rfl rfl ?_; intro g69
       refine TL.nil ?_
       exact TQ.one [_] hF (Le.refl _) ⟨_, rfl, rfl⟩) ?_
      refine ⟨by kernel_rfl, .refl _, ?_⟩
      ·
       intro H4 hle
       rintro _ _ Hr68 hler68 ⟨rfl, rfl⟩
       rintro _ _ Hg69 hleg69 ⟨g69, rfl, rfl⟩
       have hL := Le.trans hL hle
       have hle9 := Le.trans hle9 hle
       have hxb := RdL.mono hle hxb
       have hxr := RdL.mono hle hxr
       have hxl := RdL.mono hle hxl
       have hxw := RdL.mono hle hxw
       have hcut := Le.trans hcut hle
       refine TL.toOwn (own' := _ :: _ :: _ :: _ :: _ :: _ :: _ :: _ :: _ :: _ :: own) rfl ?_
       refine TL.wk (env' := [(7, _), (8, _), (9, _), (10, _), (11, _), (12, _), (13, _), (14, _), (15, _), (67, _), (69, _)]) ⟨rfl, rfl, rfl, rfl, rfl, rfl, rfl, rfl, rfl, rfl, rfl, trivial⟩ ?_
       refine TL.append 5 rfl rfl rfl hrw (Src.ofOwn 0 0 rfl rfl rfl (Ones.all (show Ones [_, _] from ⟨by rfl, by rfl, trivial⟩)) ⟨rfl, rfl, trivial⟩) (by omega) (by omega) rfl ?_
       intro vw2 sw2 hrw2
       refine TL.fieldAddr rfl rfl ?_
       refine TL.store1 6 0 (c' := #[_, _]) (own' := _ :: _ :: _ :: _ :: _ :: _ :: [(_, .cells #[_, _] _ _)] :: _) rfl rfl rfl rfl hrw2.one (by simp) rfl rfl rfl ?_
       refine TL.nil ?_
       refine TQ.sel 10 [2, 3, 4, 5, 6, 7, 8, 9] rfl (fun o ho => ?_)
       simp only [K.sel, List.map_cons, List.map_nil, List.getD_cons_zero, List.getD_cons_succ, List.drop_succ_cons, List.drop_zero, List.cons_append, List.nil_append, List.set_cons_zero, List.set_cons_succ] at ho; subst ho
       first
         | exact TQ.mid [(7, _), (8, _), (9, _), (10, _), (11, _), (12, _), (13, _), (14, _), (15, _)] ⟨rfl, rfl, rfl, rfl, rfl, rfl, rfl, rfl, rfl, trivial⟩ ⟨_, _, _, _, _, _, rfl, rfl, by rw [at1_y (by omega)]; exact RT.snoc hrr2 hxr (leaf_d _ _), by rw [at2, ← List.append_assoc, at1_y (t := wR) (by omega)]; exact RT.snoc hrw2 hxw (leaf_d _ _), hcut⟩
         | exact TQ.mid [(7, _), (8, _), (9, _), (10, _), (11, _), (12, _), (13, _), (14, _), (15, _)] ⟨rfl, rfl, rfl, rfl, rfl, rfl, rfl, rfl, rfl, trivial⟩ ⟨_, _, _, _, _, _, rfl, rfl, by rw [at1_n (by omega), List.append_nil]; exact ⟨hrr, hxr⟩, by rw [at2, ← List.append_assoc, at1_n (t := wR) (by omega), List.append_nil]; exact ⟨hrw, hxw⟩, hcut⟩
    ·
     refine TL.nil ?_
     refine TQ.then_n ?_
     refine TC.cond_f rfl ?_
     refine TC.skip ?_
     refine TQ.toOwn (own' := _ :: _ :: _ :: _ :: _ :: _ :: _ :: _ :: own) rfl ?_
     first
       | exact TQ.mid [(7, _), (8, _), (9, _), (10, _), (11, _), (12, _), (13, _), (14, _), (15, _)] ⟨rfl, rfl, rfl, rfl, rfl, rfl, rfl, rfl, rfl, trivial⟩ ⟨_, _, _, _, _, _, rfl, rfl, by rw [at1_y (by omega)]; exact RT.snoc hrr2 hxr (leaf_d _ _), by rw [at2, ← List.append_assoc, at1_y (t := wR) (by omega)]; exact RT.snoc hrw2 hxw (leaf_d _ _), hcut⟩
       | exact TQ.mid [(7, _), (8, _), (9, _), (10, _), (11, _), (12, _), (13, _), (14, _), (15, _)] ⟨rfl, rfl, rfl, rfl, rfl, rfl, rfl, rfl, rfl, trivial⟩ ⟨_, _, _, _, _, _, rfl, rfl, by rw [at1_n (by omega), List.append_nil]; exact ⟨hrr, hxr⟩, by rw [at2, ← List.append_assoc, at1_n (t := wR) (by omega), List.append_nil]; exact ⟨hrw, hxw⟩, hcut⟩
   clear hrr hxr hrw hxw
   rintro _ _ H10 ⟨ur, uw, xr, xw, sr, sw, rfl, rfl, htr, htw, hle10⟩
   obtain ⟨hrr, hxr⟩ := htr
   obtain ⟨hrw, hxw⟩ := htw
   have w3 := at1_len wR b k
   have w4 := at2_len a b k
   have v3 : (rnd n (at1 wR b) k ++ at1 wR b k).length ≤ 3 * k + 1 := by rw [List.length_append]; omega
   have v4 : (rnd n (at2 a b) k ++ at2 a b k).length ≤ 3 * k + 2 := by rw [List.length_append]; omega
   have hL := Le.trans hL hle10
   have hle9 := Le.trans hle9 hle10
   have hxb := RdL.mono hle10 hxb
   have hxl := RdL.mono hle10 hxl
   refine TC.seq ?_
   refine TC.region ?_
   refine TL.move rfl rfl ?_
   refine TL.move rfl rfl ?_
   refine TL.lssB rfl rfl rfl (fun hkn => ?_) (fun hkn => ?_)
   ·
    replace hkn : k < n := by omega
    have hlab := lab97 (k := k) (by omega)
    refine TL.nil ?_
    refine TQ.then_n ?_
    refine TC.cond_t rfl ?_
    refine TC.seq ?_
    refine TC.region ?_
    refine TL.move rfl rfl ?_
    refine TL.add rfl rfl rfl ⟨by omega, by omega⟩ ?_
    refine TL.convI rfl rfl ?_
    refine TL.litF (r := [_]) [(0, [_])] ⟨rfl, ⟨_, rfl, rfl⟩, trivial⟩ rfl rfl rfl rfl ?_; intro g78
    refine TL.convBS 0 0 [UInt8.ofNat (97 + k)] rfl rfl rfl rfl ⟨congrArg (fun z => some (Value.int .u8 z)) hlab, trivial⟩ rfl ?_
    refine TL.call (law_leaf) ⟨rfl, trivial⟩ rfl ?_
    rintro _ _ H11 ⟨rfl, rfl, hle11⟩
    have hL := Le.trans hL hle11
    have hle9 := Le.trans hle9 hle11
    have hxb := RdL.mono hle11 hxb
    have hxl := RdL.mono hle11 hxl
    have hxr := RdL.mono hle11 hxr
    have hxw := RdL.mono hle11 hxw
    refine TL.new rfl ?_; intro g16
    refine TL.storeA 0 0 (vs := [.string ⟨#[UInt8.ofNat (97 + k)]⟩, .slice none 0 0]) (c' := #[_, _]) (own' := [(_, .cells #[_, _] _ _)] :: _) rfl rfl rfl rfl rfl ⟨rfl, rfl, trivial⟩ (by simp) rfl rfl rfl ?_
    refine TL.nil ?_
    refine TQ.then_n ?_
    refine TC.seq ?_
    refine TC.region ?_
    refine TL.fieldAddr rfl rfl ?_
    refine TL.load_own 9 0 rfl rfl rfl rfl rfl ?_
    refine TL.load_ownA 0 0 [_, _] rfl rfl rfl ⟨rfl, rfl, trivial⟩ rfl rfl ?_
    refine TL.litF (r := [_, _]) [(0, [_, _])] ⟨rfl, ⟨_, rfl, rfl⟩, trivial⟩ rfl rfl rfl rfl ?_; intro g84
    refine TL.append 3 rfl rfl rfl hrb (Src.ofOwn 0 0 rfl rfl rfl (Ones.all (show Ones [_, _] from ⟨by rfl, by rfl, trivial⟩)) ⟨rfl, rfl, trivial⟩) (by omega) (by omega) rfl ?_
    intro vb3 sb3 hrb3
    refine TL.fieldAddr rfl rfl ?_
    refine TL.store1 10 0 (c' := #[_, _]) (own' := _ :: _ :: _ :: _ :: _ :: _ :: _ :: _ :: _ :: _ :: [(_, .cells #[_, _] _ _)] :: _) rfl rfl rfl rfl hrb3.one (by simp) rfl rfl rfl ?_
    refine TL.nil ?_
    refine TQ.then_n ?_
    refine TC.seq ?_
    refine TC.region ?_
    refine TL.fieldAddr rfl rfl ?_
    refine TL.load_own 9 0 rfl rfl rfl rfl rfl ?_
    refine TL.load_ownA 1 0 [_, _] rfl rfl rfl ⟨rfl, rfl, trivial⟩ rfl rfl ?_
    refine TL.litF (r := [_, _]) [(0, [_, _])] ⟨rfl, ⟨_, rfl, rfl⟩, trivial⟩ rfl rfl rfl rfl ?_; intro g90
    refine TL.append 5 rfl rfl rfl hrl (Src.ofOwn 0 0 rfl rfl rfl (Ones.all (show Ones [_, _] from ⟨by rfl, by rfl, trivial⟩)) ⟨rfl, rfl, trivial⟩) (by omega) (by omega) rfl ?_
    intro vl3 sl3 hrl3
    refine TL.fieldAddr rfl rfl ?_
    refine TL.store1 10 0 (c' := #[_, _]) (own' := _ :: _ :: _ :: _ :: _ :: _ :: _ :: _ :: _ :: _ :: [(_, .cells #[_, _] _ _)] :: _) rfl rfl rfl rfl hrl3.one (by simp) rfl rfl rfl ?_
    refine TL.nil ?_
    refine TQ.then_n ?_
    refine TC.seq ?_
    refine TC.region ?_
    refine TL.fieldAddr rfl rfl ?_
    refine TL.load_own 9 0 rfl rfl rfl rfl rfl ?_
    refine TL.load_ownA 2 0 [_, _] rfl rfl rfl ⟨rfl, rfl, trivial⟩ rfl rfl ?_
    refine TL.litF (r := [_, _]) [(0, [_, _])] ⟨rfl, ⟨_, rfl, rfl⟩, trivial⟩ rfl rfl rfl rfl ?_; intro g96
    refine TL.append 7 rfl rfl rfl hrr (Src.ofOwn 0 0 rfl rfl rfl (Ones.all (show Ones [_, _] from ⟨by rfl, by rfl, trivial⟩)) ⟨rfl, rfl, trivial⟩) (by omega) (by omega) rfl ?_
    intro vr3 sr3 hrr3
    refine TL.fieldAddr rfl rfl ?_
    refine TL.store1 10 0 (c' := #[_, _]) (own' := _ :: _ :: _ :: _ :: _ :: _ :: _ :: _ :: _ :: _ :: [(_, .cells #[_, _] _ _)] :: _) rfl rfl rfl rfl hrr3.one (by simp) rfl rfl rfl ?_
    refine TL.nil ?_
    refine TQ.then_n ?_
    refine TC.region ?_
    refine TL.fieldAddr rfl rfl ?_
    refine TL.load_own 9 0 rfl rfl rfl rfl rfl ?_
    refine TL.load_ownA 3 0 [_, _] rfl rfl rfl ⟨rfl, rfl, trivial⟩ rfl rfl ?_
    refine TL.litF (r := [_, _]) [(0, [_, _])] ⟨rfl, ⟨_, rfl, rfl⟩, trivial⟩ rfl rfl rfl rfl ?_; intro g102
    refine TL.append 9 rfl rfl rfl hrw (Src.ofOwn 0 0 rfl rfl rfl (Ones.all (show Ones [_, _] from ⟨by rfl, by rfl, trivial⟩)) ⟨rfl, rfl, trivial⟩) (by omega) (by omega) rfl ?_
    intro vw3 sw3 hrw3
    refine TL.fieldAddr rfl rfl ?_
    refine TL.store1 10 0 (c' := #[_, _]) (own' := _ :: _ :: _ :: _ :: _ :: _ :: _ :: _ :: _ :: _ :: [(_, .cells #[_, _] _ _)] :: _) rfl rfl rfl rfl hrw3.one (by simp) rfl rfl rfl ?_
    refine TL.nil ?_
    refine TQ.in_n ?_
    refine TQ.then_n ?_
    refine TC.region ?_
    refine TL.move rfl rfl ?_
    refine TL.add rfl rfl rfl ⟨by omega, by omega⟩ ?_
    refine TL.assign rfl rfl ?_
    refine TL.nil ?_
    refine TQ.sel 14 [6, 7, 8, 9, 10, 11, 12, 13] rfl (fun o ho => ?_)
    simp only [K.sel, List.map_cons, List.map_nil, List.getD_cons_zero, List.getD_cons_succ, List.drop_succ_cons, List.drop_zero, List.cons_append, List.nil_append, List.set_cons_zero, List.set_cons_succ] at ho; subst ho
    first
      | exact TQ.next (n + 1 - (k + 1)) [(7, _), (8, _), (9, _), (10, _), (11, _), (12, _), (13, _), (14, _), (15, _)] (by omega) ⟨rfl, rfl, rfl, rfl, rfl, rfl, rfl, rfl, rfl, trivial⟩ ⟨k + 1, _, _, _, _, _, _, _, _, _, _, _, _, rfl, by omega, by rw [rnd_t hkn, show no k = [] from rfl, List.append_nil]; exact RT.snoc hrb3 hxb (leaf_d _ _), by rw [rnd_t hkn]; exact RT.snoc hrl3 hxl (leaf_d _ _), by rw [rnd_t hkn]; exact RT.snoc hrr3 hxr (leaf_d _ _), by rw [rnd_t hkn]; exact RT.snoc hrw3 hxw (leaf_d _ _), by simp, rfl, hle9⟩
      | exact TQ.next (n + 1 - (k + 1)) [(7, _), (8, _), (9, _), (10, _), (11, _), (12, _), (13, _), (14, _), (15, _)] (by omega) ⟨rfl, rfl, rfl, rfl, rfl, rfl, rfl, rfl, rfl, trivial⟩ ⟨k + 1, _, _, _, _, _, _, _, _, _, _, _, _, rfl, by omega, by rw [rnd_f hkn, show no k = [] from rfl, List.append_nil]; exact ⟨hrb, hxb⟩, by rw [rnd_f hkn]; exact ⟨hrl, hxl⟩, by rw [rnd_f hkn]; exact ⟨hrr, hxr⟩, by rw [rnd_f hkn]; exact ⟨hrw, hxw⟩, by simp, rfl, hle9⟩
   ·
    replace hkn : ¬ k < n := by omega
    refine TL.nil ?_
    refine TQ.then_n ?_
    refine TC.cond_f rfl ?_
    refine TC.skip ?_
    refine TQ.in_n ?_
    refine TQ.then_n ?_
    refine TC.region ?_
    refine TL.move rfl rfl ?_
    refine TL.add rfl rfl rfl ⟨by omega, by omega⟩ ?_
    refine TL.assign rfl rfl ?_
    refine TL.nil ?_
    refine TQ.toOwn (own' := _ :: _ :: _ :: _ :: _ :: _ :: _ :: _ :: own) rfl ?_
    first
      | exact TQ.next (n + 1 - (k + 1)) [(7, _), (8, _), (9, _), (10, _), (11, _), (12, _), (13, _), (14, _), (15, _)] (by omega) ⟨rfl, rfl, rfl, rfl, rfl, rfl, rfl, rfl, rfl, trivial⟩ ⟨k + 1, _, _, _, _, _, _, _, _, _, _, _, _, rfl, by omega, by rw [rnd_t hkn, show no k = [] from rfl, List.append_nil]; exact RT.snoc hrb3 hxb (leaf_d _ _), by rw [rnd_t hkn]; exact RT.snoc hrl3 hxl (leaf_d _ _), by rw [rnd_t hkn]; exact RT.snoc hrr3 hxr (leaf_d _ _), by rw [rnd_t hkn]; exact RT.snoc hrw3 hxw (leaf_d _ _), by simp, rfl, hle9⟩
      | exact TQ.next (n + 1 - (k + 1)) [(7, _), (8, _), (9, _), (10, _), (11, _), (12, _), (13, _), (14, _), (15, _)] (by omega) ⟨rfl, rfl, rfl, rfl, rfl, rfl, rfl, rfl, rfl, trivial⟩ ⟨k + 1, _, _, _, _, _, _, _, _, _, _, _, _, rfl, by omega, by rw [rnd_f hkn, show no k = [] from rfl, List.append_nil]; exact ⟨hrb, hxb⟩, by rw [rnd_f hkn]; exact ⟨hrl, hxl⟩, by rw [rnd_f hkn]; exact ⟨hrr, hxr⟩, by rw [rnd_f hkn]; exact ⟨hrw, hxw⟩, by simp, rfl, hle9⟩
  ·
   refine TL.nil ?_
   refine TQ.then_n ?_
   refine TC.cond_f rfl ?_
   refine TC.exit ?_
   refine TQ.then_e ?_
   refine TQ.then_e ?_
   refine TQ.in_e ?_
   refine TQ.then_n ?_
   refine TC.seq ?_
   refine TC.freeze (fun H5 hle hz_rb => ?_)
   have hL := Le.trans hL hle
   have hle9 := Le.trans hle9 hle
   have hxb := RdL.mono hle hxb
   have hxl := RdL.mono hle hxl
   have hxr := RdL.mono hle hxr
   have hxw := RdL.mono hle hxw
   refine TC.freeze (fun H6 hle hz_rl => ?_)
   have hL := Le.trans hL hle
   have hle9 := Le.trans hle9 hle
   have hxb := RdL.mono hle hxb
   have hxl := RdL.mono hle hxl
   have hxr := RdL.mono hle hxr
   have hxw := RdL.mono hle hxw
   have hz_rb := hz.mono hle hz_rb
   refine TC.freeze (fun H7 hle hz_rr => ?_)
   have hL := Le.trans hL hle
   have hle9 := Le.trans hle9 hle
   have hxb := RdL.mono hle hxb
   have hxl := RdL.mono hle hxl
   have hxr := RdL.mono hle hxr
   have hxw := RdL.mono hle hxw
   have hz_rb := hz.mono hle hz_rb
   have hz_rl := hz.mono hle hz_rl
   refine TC.freeze (fun H8 hle hz_rw => ?_)
   have hL := Le.trans hL hle
   have hle9 := Le.trans hle9 hle
   have hxb := RdL.mono hle hxb
   have hxl := RdL.mono hle hxl
   have hxr := RdL.mono hle hxr
   have hxw := RdL.mono hle hxw
   have hz_rb := hz.mono hle hz_rb
   have hz_rl := hz.mono hle hz_rl
   have hz_rr := hz.mono hle hz_rr
   obtain rfl : k = n + 1 := by omega
   have htb : RdL H8 (tN (rnd n no (n + 1))).d [.string ⟨#[116]⟩, ub] := tr_mk (rd.ofRow hrb hz_rb hxb (Le.refl _))
   have htl : RdL H8 (tN (rnd n (at1 wL a) (n + 1))).d [.string ⟨#[116]⟩, ul] := tr_mk (rd.ofRow hrl hz_rl hxl (Le.refl _))
   have htr : RdL H8 (tN (rnd n (at1 wR b) (n + 1))).d [.string ⟨#[116]⟩, ur] := tr_mk (rd.ofRow hrr hz_rr hxr (Le.refl _))
   have htw : RdL H8 (tN (rnd n (at2 a b) (n + 1))).d [.string ⟨#[116]⟩, uw] := tr_mk (rd.ofRow hrw hz_rw hxw (Le.refl _))
   refine TC.region ?_
   refine TL.load_ownA 3 0 [_, _] rfl rfl rfl ⟨rfl, rfl, trivial⟩ rfl rfl ?_
   refine TL.load_ownA 2 0 [_, _] rfl rfl rfl ⟨rfl, rfl, trivial⟩ rfl rfl ?_
   refine TL.load_ownA 1 0 [_, _] rfl rfl rfl ⟨rfl, rfl, trivial⟩ rfl rfl ?_
   refine TL.call (merge_top (by omega) (by omega) (by omega) htb htl htr) ⟨rfl, rfl, rfl, trivial⟩ rfl ?_
   rintro _ _ H12 ⟨m0, m1, pm, rfl, hm, hpm, rfl, hle12⟩
   replace htw := RdL.mono hle12 htw
   have hL := Le.trans hL hle12
   have hle9 := Le.trans hle9 hle12
   have hxb := RdL.mono hle12 hxb
   have hxl := RdL.mono hle12 hxl
   have hxr := RdL.mono hle12 hxr
   have hxw := RdL.mono hle12 hxw
   have hz_rb := hz.mono hle12 hz_rb
   have hz_rl := hz.mono hle12 hz_rl
   have hz_rr := hz.mono hle12 hz_rr
   have hz_rw := hz.mono hle12 hz_rw
   refine TL.move rfl rfl ?_
   refine TL.extract rfl rfl rfl ?_
   refine TL.extract rfl rfl rfl ?_
   refine TL.new rfl ?_; intro g17
   refine TL.storeA 0 0 (vs := [m0, m1]) (c' := #[_, _]) (own' := [(_, .cells #[_, _] _ _)] :: _) rfl rfl rfl rfl rfl (tr_ones hm) (by simp) rfl rfl rfl ?_
   refine TL.assign rfl rfl ?_
   refine TL.nil ?_
   refine TQ.then_n ?_
   refine TC.seq ?_
   refine TC.seq ?_
   refine TC.region ?_
   refine TL.move rfl rfl ?_
   refine TL.move rfl rfl ?_
   refine TL.eqlB rfl rfl rfl (fun hab => ?_) (fun hab => ?_)
   ·
    obtain rfl : a = b := by omega
    rw [ins_C ha] at hm hpm
    refine TL.nil ?_
    refine TQ.then_n ?_
    refine TC.cond_t rfl ?_
    refine TC.seq ?_
    refine TC.region ?_
    refine TL.move rfl rfl ?_
    refine TL.move rfl rfl ?_
    refine TL.gyes rfl rfl rfl ?_
    refine TL.load_ownA 0 0 [_, _] rfl rfl rfl ⟨rfl, rfl, trivial⟩ rfl rfl ?_
    refine TL.gyes rfl rfl rfl ?_
    refine TL.struct [] trivial rfl rfl ?_
    refine TL.gyes rfl rfl rfl ?_
    refine TL.call (ref_same _ _ _ (Nat.le_refl _) hm (show RdL _ Tr.zero.d [.string ⟨#[]⟩, .slice none 0 0] from tr_mk (rd.nil _ _))) ⟨rfl, rfl, trivial⟩ rfl ?_
    rintro _ _ H13 ⟨rfl, rfl, hle13⟩
    rw [eqb_self]
    have hL := Le.trans hL hle13
    have hle9 := Le.trans hle9 hle13
    have hxb := RdL.mono hle13 hxb
    have hxl := RdL.mono hle13 hxl
    have hxr := RdL.mono hle13 hxr
    have hxw := RdL.mono hle13 hxw
    have hz_rb := hz.mono hle13 hz_rb
    have hz_rl := hz.mono hle13 hz_rl
    have hz_rr := hz.mono hle13 hz_rr
    have hz_rw := hz.mono hle13 hz_rw
    have hm := RdL.mono hle13 hm
    have hpm := rd.mono hle13 hpm
    have htw := RdL.mono hle13 htw
    refine TL.pickT rfl rfl rfl rfl ?_
    refine TL.move rfl rfl ?_
    refine TL.gyes rfl rfl rfl ?_
    refine TL.move rfl rfl ?_
    refine TL.gyes rfl rfl rfl ?_
    refine TL.move rfl rfl ?_
    refine TL.gyes rfl rfl rfl ?_
    refine TL.litF (r := [_]) [(0, [_])] ⟨rfl, ⟨_, rfl, rfl⟩, trivial⟩ rfl rfl rfl rfl ?_; intro g124
    refine TL.gyes rfl rfl rfl ?_
    refine TL.litF (r := [_]) [(0, [_])] ⟨rfl, ⟨_, rfl, rfl⟩, trivial⟩ rfl rfl rfl rfl ?_; intro g125
    refine TL.freeze (fun H9 hle hz_g125 => ?_)
    have hL := Le.trans hL hle
    have hle9 := Le.trans hle9 hle
    have hxb := RdL.mono hle hxb
    have hxl := RdL.mono hle hxl
    have hxr := RdL.mono hle hxr
    have hxw := RdL.mono hle hxw
    have hz_rb := hz.mono hle hz_rb
    have hz_rl := hz.mono hle hz_rl
    have hz_rr := hz.mono hle hz_rr
    have hz_rw := hz.mono hle hz_rw
    have hm := RdL.mono hle hm
    have hpm := rd.mono hle hpm
    have htw := RdL.mono hle htw
    refine TL.freeze (fun H10 hle hz_g124 => ?_)
    have hL := Le.trans hL hle
    have hle9 := Le.trans hle9 hle
    have hxb := RdL.mono hle hxb
    have hxl := RdL.mono hle hxl
    have hxr := RdL.mono hle hxr
    have hxw := RdL.mono hle hxw
    have hz_rb := hz.mono hle hz_rb
    have hz_rl := hz.mono hle hz_rl
    have hz_rr := hz.mono hle hz_rr
    have hz_rw := hz.mono hle hz_rw
    have hm := RdL.mono hle hm
    have hpm := rd.mono hle hpm
    have htw := RdL.mono hle htw
    have hz_g125 := hz.mono hle hz_g125
    refine TL.gyes rfl rfl rfl ?_
    refine TL.call (ref_Paths (ps := [[a]]) (qs := [[a]]) hpm (rd.ofRow (Row.lit _ 1 1 _ _ rfl (by omega)) hz_g125 (ds := [pD [a]]) ⟨rd.ofRow (Row.lit _ 1 1 _ _ rfl (by omega)) hz_g124 (RdL.vals (pV [a])) (Le.refl _), trivial⟩ (Le.refl _))) ⟨rfl, rfl, trivial⟩ rfl ?_
    rintro _ _ H14 ⟨rfl, rfl, hle14⟩
    rw [decide_eq_true rfl]
    have hL := Le.trans hL hle14
    have hle9 := Le.trans hle9 hle14
    have hxb := RdL.mono hle14 hxb
    have hxl := RdL.mono hle14 hxl
    have hxr := RdL.mono hle14 hxr
    have hxw := RdL.mono hle14 hxw
    have hz_rb := hz.mono hle14 hz_rb
    have hz_rl := hz.mono hle14 hz_rl
    have hz_rr := hz.mono hle14 hz_rr
    have hz_rw := hz.mono hle14 hz_rw
    have hm := RdL.mono hle14 hm
    have hpm := rd.mono hle14 hpm
    have htw := RdL.mono hle14 htw
    have hz_g125 := hz.mono hle14 hz_g125
    have hz_g124 := hz.mono hle14 hz_g124
    refine TL.pickT rfl rfl rfl rfl ?_
    refine TL.assign rfl rfl ?_
    refine TL.nil ?_
    refine TQ.then_n ?_
    refine TC.ret ?_
    refine TQ.then_r ?_
    refine TQ.ret1 5 rfl rfl ?_
    exact ⟨rfl, rfl, hL⟩
   ·
    rw [ins_R ha hb (by omega)] at hm hpm
    obtain ⟨Ap, cp, rfl⟩ := nil_paths hpm
    refine TL.nil ?_
    refine TQ.then_n ?_
    refine TC.cond_f rfl ?_
    refine TC.skip ?_
    refine TQ.then_n ?_
    refine TC.seq ?_
    refine TC.region ?_
    refine TL.move rfl rfl ?_
    refine TL.move rfl rfl ?_
    refine TL.gyes rfl rfl rfl ?_
    refine TL.move rfl rfl ?_
    refine TL.gyes rfl rfl rfl ?_
    refine TL.len_slice rfl rfl ?_
    refine TL.gyes rfl rfl rfl ?_
    refine TL.eqlB rfl rfl rfl (fun hz0 => ?_) (fun hz0 => ?_)
    ·
     refine TL.pickT rfl rfl rfl rfl ?_
     refine TL.move rfl rfl ?_
     refine TL.gyes rfl rfl rfl ?_
     refine TL.load_ownA 0 0 [_, _] rfl rfl rfl ⟨rfl, rfl, trivial⟩ rfl rfl ?_
     refine TL.gyes rfl rfl rfl ?_
     refine TL.load_ownA 1 0 [_, _] rfl rfl rfl ⟨rfl, rfl, trivial⟩ rfl rfl ?_
     refine TL.gyes rfl rfl rfl ?_
     refine TL.call (ref_same _ _ _ (Nat.le_refl _) hm htw) ⟨rfl, rfl, trivial⟩ rfl ?_
     rintro _ _ H15 ⟨rfl, rfl, hle15⟩
     rw [eqb_self]
     have hL := Le.trans hL hle15
     have hle9 := Le.trans hle9 hle15
     have hxb := RdL.mono hle15 hxb
     have hxl := RdL.mono hle15 hxl
     have hxr := RdL.mono hle15 hxr
     have hxw := RdL.mono hle15 hxw
     have hz_rb := hz.mono hle15 hz_rb
     have hz_rl := hz.mono hle15 hz_rl
     have hz_rr := hz.mono hle15 hz_rr
     have hz_rw := hz.mono hle15 hz_rw
     have hm := RdL.mono hle15 hm
     have hpm := rd.mono hle15 hpm
     have htw := RdL.mono hle15 htw
     refine TL.pickT rfl rfl rfl rfl ?_
     refine TL.assign rfl rfl ?_
     refine TL.nil ?_
     refine TQ.then_n ?_
     refine TC.ret ?_
     refine TQ.ret1 5 rfl rfl ?_
     exact ⟨rfl, rfl, hL⟩
    ·
     exact absurd rfl hz0 -- dead

end Go.Proofs.Ytapmmfabdmhdnaa.K
