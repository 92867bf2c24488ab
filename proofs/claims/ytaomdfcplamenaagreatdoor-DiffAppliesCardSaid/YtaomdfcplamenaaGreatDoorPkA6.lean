/-
  Part 6 of 6 of the proof that DiffApplies returns true for every two lists of numbers. No condition beyond the given statement.
-/
import Derived.ProofKit
import Derived.Deep.Slices
import Derived.OpenShut
import Derived.Test.YtaomdfcplamenaaGreatDoorRows
import Derived.Test.YtaomdfcplamenaaGreatDoorTie
import Derived.Test.YtaomdfcplamenaaGreatDoorCards
import Derived.LaidMore
import Derived.Stop.Joined
import Derived.Test.YtaomdfcplamenaaGreatDoorPkA5
set_option linter.unusedVariables false
set_option linter.unusedSimpArgs false
set_option linter.defProp false
set_option maxHeartbeats 4000000
set_option maxRecDepth 100000
namespace Go.Proofs.YtaomdfcplamenaaGreatDoor.K
open Go Go.RowKit Go.Proofs

theorem Fn.froze {P : Program} {f : FuncId} {args : List Value} {w0 : World} {H : Hp} {own : List Seg} {R : Value → Seg → Hp → Prop} {S : Value → Hp → Prop}
    (h : Fn P f args w0 H own (fun v o H' => ∃ seg, R v seg H' ∧ o = seg :: own ∧ Le H H')) (hR : ∀ v seg H' H'', R v seg H' → Le H' H'' → (∀ p ∈ seg, H'' p.1 = some p.2) → S v H'') :
    Fn P f args w0 H own (fun v o H' => S v H' ∧ o = own ∧ Le H H') := fun w hw => by
  refine (h w hw).mono ?_
  rintro e w' ⟨v, o, H', rfl, ⟨seg, h1, rfl, h2⟩, h3⟩
  obtain ⟨k1, k2, k3⟩ := h3.freeze
  exact ⟨v, own, _, rfl, ⟨hR v seg H' _ h1 k2 k3, rfl, h2.trans k2⟩, k1⟩
section
variable {es : List Ei} {t : Tr} {w0 : World} {H : Hp} {own : List Seg} {a0 a1 ve : Value}
theorem Apply_bad {c : Int} (hs : applyI t es = .inl c) (hpl : ∀ e ∈ es, e.path.length ≤ 1000000) (hsz : t.size + treesI es ≤ 1000000) (hel : es.length ≤ 1000000) (ht : RdL H t.d [a0, a1]) (hve : rd H (.s 4 (eiD es)) ve) :
    Fn Tryz.prog 17 [.agg #[a0, a1], ve] w0 H own (fun r o H' => r = .tuple #[.agg #[.string ⟨#[]⟩, .slice none 0 0], .int .i64 c] ∧ o = own ∧ Le H H') :=
  (diff_Apply hpl hsz hel ht hve).mono fun r o H' h => by
    obtain ⟨⟨c', h1, h2, h3⟩ | ⟨u, _, _, _, h1, _⟩, h4⟩ := h
    · rw [hs] at h1; cases h1; exact ⟨h2, h3, h4⟩
    · rw [hs] at h1; cases h1
theorem Invert_ok {bs : List Ei} (hs : invertI t es = .inr bs) (hpl : ∀ e ∈ es, e.path.length ≤ 1000000) (hsz : t.size + treesI es ≤ 1000000) (hel : es.length ≤ 1000000) (ht : RdL H t.d [a0, a1]) (hve : rd H (.s 4 (eiD es)) ve) :
    Fn Tryz.prog 19 [.agg #[a0, a1], ve] w0 H own (fun r o H' => (∃ v, r = .tuple #[v, .int .i64 0] ∧ rd H' (.s 4 (eiD bs)) v) ∧ o = own ∧ Le H H') :=
  Fn.froze (R := fun r seg H' => ∃ v, r = .tuple #[v, .int .i64 0] ∧ EiLog H' v bs seg) (S := fun r H' => ∃ v, r = .tuple #[v, .int .i64 0] ∧ rd H' (.s 4 (eiD bs)) v)
    ((diff_Invert hpl hsz hel ht hve).mono fun r o H' h => by
      obtain ⟨⟨c', h1, h2, h3⟩ | ⟨bs', v, seg, h1, h2, h3, h5⟩, h4⟩ := h
      · rw [hs] at h1; cases h1
      · rw [hs] at h1; cases h1; exact ⟨seg, ⟨v, h2, h3⟩, h5, h4⟩)
    (fun r seg H' H'' ⟨v, h1, h2⟩ hl hz => ⟨v, h1, h2.rd hz hl⟩)
end
def lA : ByteArray := ⟨#[97]⟩
def lB : ByteArray := ⟨#[98]⟩
def lX : ByteArray := ⟨#[120]⟩
def lY : ByteArray := ⟨#[121]⟩
def sA : Tr := .node lA []
def sB : Tr := .node lB []
def sXab : Tr := .node lX [sA, sB]
def sXb : Tr := .node lX [sB]
def sXa : Tr := .node lX [sA]
def sYa : Tr := .node lY [sA]
theorem uni1 : Uni [sXab, sXb, sA, sB] := ⟨by decide, by decide +kernel, by decide +kernel⟩
theorem uni2 : Uni [sXa, sYa, sA] := ⟨by decide, by decide +kernel, by decide +kernel⟩
theorem ed1 : edT sXab sXb [] = [⟨2, [0], Tr.zero⟩] := by
  have hne : sXab ≠ sXb := by decide +kernel
  have hf : fro sXab.kids sXb.kids = 0 := by decide +kernel
  have hb : bak 0 sXab.kids sXb.kids = 1 := by decide +kernel
  rw [edT_eq, if_neg hne, if_neg (by decide +kernel)]
  unfold midA midB
  rw [hf, hb]
  show wk edT [] [sA] [] 0 = _
  rw [wk_cn, wk_nn]
  rfl
theorem ed2 : edT sXa sYa [] = [⟨3, [], sYa⟩] := by
  rw [edT_eq, if_neg (by decide +kernel), if_pos (by decide +kernel)]
theorem ap3 : applyI sXa [⟨1, [2], sB⟩] = .inl 101 := by decide +kernel
theorem iv4 : invertI sXab [⟨2, [1], Tr.zero⟩] = .inr [⟨1, [1], sB⟩] := by rfl
end Go.Proofs.YtaomdfcplamenaaGreatDoor.K

namespace Go.Proofs.YtaomdfcplamenaaGreatDoor.K
open Go Go.RowKit Go.Proofs

structure RndC where
  op : Int
  path : List Int
  x : Tr
  at_ : Nat
end Go.Proofs.YtaomdfcplamenaaGreatDoor.K

namespace Go.Proofs.YtaomdfcplamenaaGreatDoor.K
open Go Go.RowKit Go.Proofs

theorem main_mk {H : Hp} {v : Value} (h : rd H (.s 11 pollD) v) : RdL H mainD [.string ⟨#[109, 97, 105, 110]⟩, .slice none 0 0, .int .i64 7, .string ⟨#[]⟩, .int .i64 0, .slice none 0 0, v, .bool false, .int .i64 0, .int .u16 0] :=
  ⟨by simp [rd], by simp [rd], by simp [rd], by simp [rd], by simp [rd], by simp [rd], h, by simp [rd], by simp [rd], by simp [rd], trivial⟩
theorem eqb_self (t : Tr) : t.eqb t = true := by rw [Tr.eqb_iff]
theorem lab_of {H : Hp} {l : ByteArray} {ks : List Tr} {c0 c1 : Value} (h : RdL H (Tr.node l ks).d [c0, c1]) : c0 = .string l := (tr_cells h).1
theorem law_sanity {w0 : World} {H : Hp} {own : List Seg} : Fn Tryz.prog 10 [] w0 H own (fun r o H' => r = .bool true ∧ o = own ∧ Le H H') := by
  have hsz : mainT.size = 10 := by decide +kernel
  refine Fn.enter Tryz.func10 rfl Tryz.ntmps10 rfl ?_; have hL := Le.refl H; refine TC.seq ?_; refine TC.region ?_; refine TL.assign rfl rfl ?_; refine TL.nsr ?_; refine TL.struct [(0, [_])] ⟨rfl, ⟨_, rfl, rfl⟩, trivial⟩ rfl rfl ?_; refine TL.struct [(0, [_])] ⟨rfl, ⟨_, rfl, rfl⟩, trivial⟩ rfl rfl ?_
  refine TL.litF (r := [_, _, _, _, _, _, _, _, _, _, _]) [(0, [_, _, _, _, _, _, _, _, _, _, _])] ⟨rfl, ⟨_, rfl, rfl⟩, trivial⟩ rfl rfl rfl rfl ?_; intro g13
  refine TL.freeze (fun H1 hle hz_g13 => ?_)
  have hL := Le.trans hL hle
  have hpd : rd H1 (.s 11 pollD) _ := rd.ofRow (Row.lit 56 11 1 _ _ rfl (by omega)) hz_g13 (RdL.vals _) (Le.refl _)
  refine TL.struct [(0, [_]), (2, [_, _, _, _]), (3, [_])] ⟨rfl, ⟨_, rfl, rfl⟩, rfl, ⟨_, rfl, rfl⟩, rfl, ⟨_, rfl, rfl⟩, trivial⟩ rfl rfl ?_
  refine TL.litF (r := [_, _, _, _, _, _, _, _, _, _]) [(0, [_, _, _, _, _, _, _, _, _, _])] ⟨rfl, ⟨_, rfl, rfl⟩, trivial⟩ rfl rfl rfl rfl ?_; intro g15
  refine TL.freeze (fun H2 hle hz_g15 => ?_)
  have hL := Le.trans hL hle; have hpd := rd.mono hle hpd
  have hmd : rd H2 (.s 10 mainD) _ := rd.ofRow (Row.lit 61 10 1 _ _ rfl (by omega)) hz_g15 (main_mk hpd) (Le.refl _)
  refine TL.struct [(2, [_])] ⟨rfl, ⟨_, rfl, rfl⟩, trivial⟩ rfl rfl ?_
  refine TL.new rfl ?_; intro g1; refine TL.storeA 0 0 (c' := #[_, _, _]) (own' := [(_, .cells #[_, _, _] _ _)] :: _) rfl rfl rfl rfl rfl ⟨rfl, rfl, rfl, trivial⟩ (by simp) rfl rfl rfl ?_; refine TL.nsr ?_; refine TL.call (law_tree (t := (.node ⟨#[116, 121, 112, 101, 115]⟩ [])) (rd.nil _ _)) ⟨rfl, rfl, trivial⟩ rfl ?_
  rintro _ own H17 ⟨a17, b17, rfl, hr17, rfl, hle17⟩
  have hL := Le.trans hL hle17; have hmd := rd.mono hle17 hmd; refine TL.call (law_tree (t := (.node ⟨#[103, 108, 111, 98, 97, 108, 115]⟩ [])) (rd.nil _ _)) ⟨rfl, rfl, trivial⟩ rfl ?_
  rintro _ own H18 ⟨a18, b18, rfl, hr18, rfl, hle18⟩
  have hL := Le.trans hL hle18; have hmd := rd.mono hle18 hmd; have hr17 := RdL.mono hle18 hr17; refine TL.call (law_tree (t := (.node ⟨#[112, 97, 114, 97, 109, 115]⟩ [])) (rd.nil _ _)) ⟨rfl, rfl, trivial⟩ rfl ?_
  rintro _ own H19 ⟨a19, b19, rfl, hr19, rfl, hle19⟩
  have hL := Le.trans hL hle19; have hmd := rd.mono hle19 hmd; have hr17 := RdL.mono hle19 hr17; have hr18 := RdL.mono hle19 hr18; refine TL.call (law_tree (t := (.node ⟨#[118, 111, 105, 100]⟩ [])) (rd.nil _ _)) ⟨rfl, rfl, trivial⟩ rfl ?_
  rintro _ own H20 ⟨a20, b20, rfl, hr20, rfl, hle20⟩
  have hL := Le.trans hL hle20; have hmd := rd.mono hle20 hmd; have hr17 := RdL.mono hle20 hr17; have hr18 := RdL.mono hle20 hr18; have hr19 := RdL.mono hle20 hr19
  refine TL.litF (r := [_, _]) [(0, [_, _])] ⟨rfl, ⟨_, rfl, rfl⟩, trivial⟩ rfl rfl rfl rfl ?_; intro g21
  refine TL.freeze (fun H3 hle hz_g21 => ?_)
  have hL := Le.trans hL hle; have hmd := rd.mono hle hmd; have hr17 := RdL.mono hle hr17; have hr18 := RdL.mono hle hr18; have hr19 := RdL.mono hle hr19; have hr20 := RdL.mono hle hr20
  have hk21 : rd H3 (.s 2 (Tr.ds [(.node ⟨#[118, 111, 105, 100]⟩ [])])) _ := rd.ofRow (Row.lit 26 2 1 _ _ rfl (by omega)) hz_g21 (trs_cons hr20 (trivial)) (Le.refl _)
  refine TL.call (law_tree (t := (.node ⟨#[114, 101, 115, 117, 108, 116]⟩ [(.node ⟨#[118, 111, 105, 100]⟩ [])])) hk21) ⟨rfl, rfl, trivial⟩ rfl ?_
  rintro _ own H22 ⟨a22, b22, rfl, hr22, rfl, hle22⟩
  have hL := Le.trans hL hle22; have hmd := rd.mono hle22 hmd; have hr17 := RdL.mono hle22 hr17; have hr18 := RdL.mono hle22 hr18; have hr19 := RdL.mono hle22 hr19; refine TL.call (law_tree (t := (.node ⟨#[112, 111, 108, 108]⟩ [])) (rd.nil _ _)) ⟨rfl, rfl, trivial⟩ rfl ?_
  rintro _ own H23 ⟨a23, b23, rfl, hr23, rfl, hle23⟩
  have hL := Le.trans hL hle23; have hmd := rd.mono hle23 hmd; have hr17 := RdL.mono hle23 hr17; have hr18 := RdL.mono hle23 hr18; have hr19 := RdL.mono hle23 hr19; have hr22 := RdL.mono hle23 hr22
  refine TL.litF (r := [_, _]) [(0, [_, _])] ⟨rfl, ⟨_, rfl, rfl⟩, trivial⟩ rfl rfl rfl rfl ?_; intro g24
  refine TL.freeze (fun H4 hle hz_g24 => ?_)
  have hL := Le.trans hL hle; have hmd := rd.mono hle hmd; have hr17 := RdL.mono hle hr17; have hr18 := RdL.mono hle hr18; have hr19 := RdL.mono hle hr19; have hr22 := RdL.mono hle hr22; have hr23 := RdL.mono hle hr23
  have hk24 : rd H4 (.s 2 (Tr.ds [(.node ⟨#[112, 111, 108, 108]⟩ [])])) _ := rd.ofRow (Row.lit 26 2 1 _ _ rfl (by omega)) hz_g24 (trs_cons hr23 (trivial)) (Le.refl _)
  refine TL.call (law_tree (t := (.node ⟨#[98, 111, 100, 121]⟩ [(.node ⟨#[112, 111, 108, 108]⟩ [])])) hk24) ⟨rfl, rfl, trivial⟩ rfl ?_
  rintro _ own H25 ⟨a25, b25, rfl, hr25, rfl, hle25⟩
  have hL := Le.trans hL hle25; have hmd := rd.mono hle25 hmd; have hr17 := RdL.mono hle25 hr17; have hr18 := RdL.mono hle25 hr18; have hr19 := RdL.mono hle25 hr19; have hr22 := RdL.mono hle25 hr22
  refine TL.litF (r := [_, _, _, _, _, _]) [(0, [_, _]), (1, [_, _]), (2, [_, _])] ⟨rfl, ⟨_, rfl, rfl⟩, rfl, ⟨_, rfl, rfl⟩, rfl, ⟨_, rfl, rfl⟩, trivial⟩ rfl rfl rfl rfl ?_; intro g26
  refine TL.freeze (fun H5 hle hz_g26 => ?_)
  have hL := Le.trans hL hle; have hmd := rd.mono hle hmd; have hr17 := RdL.mono hle hr17; have hr18 := RdL.mono hle hr18; have hr19 := RdL.mono hle hr19; have hr22 := RdL.mono hle hr22; have hr25 := RdL.mono hle hr25
  have hk26 : rd H5 (.s 2 (Tr.ds [(.node ⟨#[112, 97, 114, 97, 109, 115]⟩ []), (.node ⟨#[114, 101, 115, 117, 108, 116]⟩ [(.node ⟨#[118, 111, 105, 100]⟩ [])]), (.node ⟨#[98, 111, 100, 121]⟩ [(.node ⟨#[112, 111, 108, 108]⟩ [])])])) _ := rd.ofRow (Row.lit 26 2 3 _ _ rfl (by omega)) hz_g26 (trs_cons hr19 (trs_cons hr22 (trs_cons hr25 (trivial)))) (Le.refl _)
  refine TL.call (law_tree (t := (.node ⟨#[102, 110, 32, 109, 97, 105, 110]⟩ [(.node ⟨#[112, 97, 114, 97, 109, 115]⟩ []), (.node ⟨#[114, 101, 115, 117, 108, 116]⟩ [(.node ⟨#[118, 111, 105, 100]⟩ [])]), (.node ⟨#[98, 111, 100, 121]⟩ [(.node ⟨#[112, 111, 108, 108]⟩ [])])])) hk26) ⟨rfl, rfl, trivial⟩ rfl ?_
  rintro _ own H27 ⟨a27, b27, rfl, hr27, rfl, hle27⟩
  have hL := Le.trans hL hle27; have hmd := rd.mono hle27 hmd; have hr17 := RdL.mono hle27 hr17; have hr18 := RdL.mono hle27 hr18
  refine TL.litF (r := [_, _]) [(0, [_, _])] ⟨rfl, ⟨_, rfl, rfl⟩, trivial⟩ rfl rfl rfl rfl ?_; intro g28
  refine TL.freeze (fun H6 hle hz_g28 => ?_)
  have hL := Le.trans hL hle; have hmd := rd.mono hle hmd; have hr17 := RdL.mono hle hr17; have hr18 := RdL.mono hle hr18; have hr27 := RdL.mono hle hr27
  have hk28 : rd H6 (.s 2 (Tr.ds [(.node ⟨#[102, 110, 32, 109, 97, 105, 110]⟩ [(.node ⟨#[112, 97, 114, 97, 109, 115]⟩ []), (.node ⟨#[114, 101, 115, 117, 108, 116]⟩ [(.node ⟨#[118, 111, 105, 100]⟩ [])]), (.node ⟨#[98, 111, 100, 121]⟩ [(.node ⟨#[112, 111, 108, 108]⟩ [])])])])) _ := rd.ofRow (Row.lit 26 2 1 _ _ rfl (by omega)) hz_g28 (trs_cons hr27 (trivial)) (Le.refl _)
  refine TL.call (law_tree (t := (.node ⟨#[102, 117, 110, 99, 115]⟩ [(.node ⟨#[102, 110, 32, 109, 97, 105, 110]⟩ [(.node ⟨#[112, 97, 114, 97, 109, 115]⟩ []), (.node ⟨#[114, 101, 115, 117, 108, 116]⟩ [(.node ⟨#[118, 111, 105, 100]⟩ [])]), (.node ⟨#[98, 111, 100, 121]⟩ [(.node ⟨#[112, 111, 108, 108]⟩ [])])])])) hk28) ⟨rfl, rfl, trivial⟩ rfl ?_
  rintro _ own H29 ⟨a29, b29, rfl, hr29, rfl, hle29⟩
  have hL := Le.trans hL hle29; have hmd := rd.mono hle29 hmd; have hr17 := RdL.mono hle29 hr17; have hr18 := RdL.mono hle29 hr18
  refine TL.litF (r := [_, _, _, _, _, _]) [(0, [_, _]), (1, [_, _]), (2, [_, _])] ⟨rfl, ⟨_, rfl, rfl⟩, rfl, ⟨_, rfl, rfl⟩, rfl, ⟨_, rfl, rfl⟩, trivial⟩ rfl rfl rfl rfl ?_; intro g30
  refine TL.freeze (fun H7 hle hz_g30 => ?_)
  have hL := Le.trans hL hle; have hmd := rd.mono hle hmd; have hr17 := RdL.mono hle hr17; have hr18 := RdL.mono hle hr18; have hr29 := RdL.mono hle hr29
  have hk30 : rd H7 (.s 2 (Tr.ds [(.node ⟨#[116, 121, 112, 101, 115]⟩ []), (.node ⟨#[103, 108, 111, 98, 97, 108, 115]⟩ []), (.node ⟨#[102, 117, 110, 99, 115]⟩ [(.node ⟨#[102, 110, 32, 109, 97, 105, 110]⟩ [(.node ⟨#[112, 97, 114, 97, 109, 115]⟩ []), (.node ⟨#[114, 101, 115, 117, 108, 116]⟩ [(.node ⟨#[118, 111, 105, 100]⟩ [])]), (.node ⟨#[98, 111, 100, 121]⟩ [(.node ⟨#[112, 111, 108, 108]⟩ [])])])])])) _ := rd.ofRow (Row.lit 26 2 3 _ _ rfl (by omega)) hz_g30 (trs_cons hr17 (trs_cons hr18 (trs_cons hr29 (trivial)))) (Le.refl _)
  refine TL.call (law_tree (t := mainT) hk30) ⟨rfl, rfl, trivial⟩ rfl ?_
  rintro _ own H31 ⟨a31, b31, rfl, hr31, rfl, hle31⟩
  have hL := Le.trans hL hle31; have hmd := rd.mono hle31 hmd
  refine TL.new rfl ?_; intro g2; refine TL.storeA 0 0 (c' := #[_, _]) (own' := [(_, .cells #[_, _] _ _)] :: _) rfl rfl rfl rfl rfl (tr_ones hr31) (by simp) rfl rfl rfl ?_; refine TL.nsr ?_; refine TL.call (law_tree (t := sA) (rd.nil _ _)) ⟨rfl, rfl, trivial⟩ rfl ?_
  rintro _ own H32 ⟨a32, b32, rfl, hr32, rfl, hle32⟩
  have hL := Le.trans hL hle32; have hmd := rd.mono hle32 hmd; have hr31 := RdL.mono hle32 hr31; refine TL.call (law_tree (t := sB) (rd.nil _ _)) ⟨rfl, rfl, trivial⟩ rfl ?_
  rintro _ own H33 ⟨a33, b33, rfl, hr33, rfl, hle33⟩
  have hL := Le.trans hL hle33; have hmd := rd.mono hle33 hmd; have hr31 := RdL.mono hle33 hr31; have hr32 := RdL.mono hle33 hr32
  refine TL.new rfl ?_; intro g3
  refine TL.new rfl ?_; intro g4; refine TL.storeA 1 0 (c' := #[_, _]) (own' := _ :: [(_, .cells #[_, _] _ _)] :: _) rfl rfl rfl rfl rfl (tr_ones hr32) (by simp) rfl rfl rfl ?_; refine TL.storeA 0 0 (c' := #[_, _]) (own' := [(_, .cells #[_, _] _ _)] :: _) rfl rfl rfl rfl rfl (tr_ones hr33) (by simp) rfl rfl rfl ?_; refine TL.nil ?_; refine TQ.then_n ?_; refine TC.seq ?_; refine TC.drawQV 6  [(0, _), (1, _), (2, _), (3, _), (4, _)] follows_mixed ⟨rfl, rfl, rfl, rfl, rfl, trivial⟩ ?_
  refine ChainV.q (some 34) [] (by
   intro H' X F hle; have hL := Le.trans hL hle; intro hF; refine TL.load_ownA 1 0 [_, _] rfl rfl rfl ⟨rfl, rfl, trivial⟩ rfl rfl ?_
   exact TL.one hF) ?_
  refine ChainV.q (some 35) [] (by
   intro H' X F hle; have hL := Le.trans hL hle; intro hF; refine TL.load_ownA 0 0 [_, _] rfl rfl rfl ⟨rfl, rfl, trivial⟩ rfl rfl ?_
   exact TL.one hF) ?_
  refine ChainV.r (some 36) [(0, 1), (1, 0)] ([]) (fun _ => fun u sg H => rd H (.s 2 (Tr.ds [sA, sB])) u ∧ sg = []) (by
   intro H' X F hle; have hL := Le.trans hL hle; have hr32 := RdL.mono hle hr32; have hr33 := RdL.mono hle hr33; intro hF
   refine TL.litF (r := [_, _, _, _]) [(0, [_, _]), (1, [_, _])] ⟨rfl, ⟨_, rfl, rfl⟩, rfl, ⟨_, rfl, rfl⟩, trivial⟩ rfl rfl rfl rfl ?_; intro g36; refine TL.nil ?_
   refine TQ.freeze (fun H9 hle9 hz => ?_)
   exact TQ.one [] hF hle9 ⟨rd.ofRow (Row.lit 26 2 2 _ _ rfl (by omega)) hz (trs_cons hr32 (trs_cons hr33 (trivial))) hle9, rfl⟩) ?_
  refine ChainV.r (some 37) [(2, 0)] ([]) (fun _ => fun u sg H => ∃ d0 d1, u = .agg #[d0, d1] ∧ RdL H sXab.d [d0, d1] ∧ sg = []) (by
   intro H' X F hle; have hL := Le.trans hL hle; intro _
   rintro v36 _ Hi36 hle36 ⟨hr36, rfl⟩
   replace hr36 := rd.mono hle36 hr36
   intro hF; refine TL.call (law_tree (t := sXab) hr36) ⟨rfl, rfl, trivial⟩ rfl ?_
   rintro _ own H37 ⟨a37, b37, rfl, hr37, rfl, hle37⟩
   have hL := Le.trans hL hle37; refine TL.nil ?_
   exact TQ.one [] hF hle37 ⟨a37, b37, rfl, hr37, rfl⟩) ?_
  refine ChainV.q (some 38) [] (by
   intro H' X F hle; have hL := Le.trans hL hle; intro hF; refine TL.load_ownA 0 0 [_, _] rfl rfl rfl ⟨rfl, rfl, trivial⟩ rfl rfl ?_
   exact TL.one hF) ?_
  refine ChainV.r (some 39) [(4, 0)] ([]) (fun _ => fun u sg H => rd H (.s 2 (Tr.ds [sB])) u ∧ sg = []) (by
   intro H' X F hle; have hL := Le.trans hL hle; have hr33 := RdL.mono hle hr33; intro hF
   refine TL.litF (r := [_, _]) [(0, [_, _])] ⟨rfl, ⟨_, rfl, rfl⟩, trivial⟩ rfl rfl rfl rfl ?_; intro g39; refine TL.nil ?_
   refine TQ.freeze (fun H9 hle9 hz => ?_)
   exact TQ.one [] hF hle9 ⟨rd.ofRow (Row.lit 26 2 1 _ _ rfl (by omega)) hz (trs_cons hr33 (trivial)) hle9, rfl⟩) ?_
  refine ⟨by kernel_rfl, .refl _, ?_⟩
  ·
   intro H8 hle
   rintro v36 _ Hi36 hle36 ⟨hr36, rfl⟩
   rintro _ _ Hi37 hle37 ⟨a37, b37, rfl, hr37, rfl⟩
   replace hr37 := RdL.mono hle37 hr37
   rintro v39 _ Hi39 hle39 ⟨hr39, rfl⟩
   replace hr39 := rd.mono hle39 hr39
   have hL := Le.trans hL hle; have hmd := rd.mono hle hmd; have hr31 := RdL.mono hle hr31; have hr32 := RdL.mono hle hr32; have hr33 := RdL.mono hle hr33; refine TL.toOwn (own' := _ :: _ :: _ :: _ :: own) rfl ?_; refine TL.wk (env' := [(0, _), (1, _), (2, _), (3, _), (4, _), (37, _), (39, _)]) ⟨rfl, rfl, rfl, rfl, rfl, rfl, rfl, trivial⟩ ?_; refine TL.call (law_tree (t := sXb) hr39) ⟨rfl, rfl, trivial⟩ rfl ?_
   rintro _ own H40 ⟨a40, b40, rfl, hr40, rfl, hle40⟩
   have hL := Le.trans hL hle40; have hmd := rd.mono hle40 hmd; have hr31 := RdL.mono hle40 hr31; have hr32 := RdL.mono hle40 hr32; have hr33 := RdL.mono hle40 hr33; have hr37 := RdL.mono hle40 hr37; refine TL.call (Diff_n uni1 (by simp) (by simp) (by decide) hr37 hr40) ⟨rfl, rfl, trivial⟩ rfl ?_
   rintro v41 own H41 ⟨hr41, rfl, hle41⟩
   replace hr41 : rd H41 (.s 4 (eiD [⟨2, [0], Tr.zero⟩])) v41 := by
     rw [ed1, ← eiD_of] at hr41
     exact hr41
   have hL := Le.trans hL hle41; have hmd := rd.mono hle41 hmd; have hr31 := RdL.mono hle41 hr31; have hr32 := RdL.mono hle41 hr32; have hr33 := RdL.mono hle41 hr33; refine TL.assign rfl rfl ?_; refine TL.nil ?_; refine TQ.then_n ?_; refine TC.seq ?_; refine TC.drawQV 5  [(0, _), (1, _), (2, _), (3, _), (4, _), (5, _)] follows_mixed ⟨rfl, rfl, rfl, rfl, rfl, rfl, trivial⟩ ?_
   refine ChainV.q (some 42) [] (by
    intro H' X F hle; have hL := Le.trans hL hle; intro hF; refine TL.load_ownA 1 0 [_, _] rfl rfl rfl ⟨rfl, rfl, trivial⟩ rfl rfl ?_
    exact TL.one hF) ?_
   refine ChainV.r (some 43) [(0, 0)] ([]) (fun _ => fun u sg H => rd H (.s 2 (Tr.ds [sA])) u ∧ sg = []) (by
    intro H' X F hle; have hL := Le.trans hL hle; have hr32 := RdL.mono hle hr32; intro hF
    refine TL.litF (r := [_, _]) [(0, [_, _])] ⟨rfl, ⟨_, rfl, rfl⟩, trivial⟩ rfl rfl rfl rfl ?_; intro g43; refine TL.nil ?_
    refine TQ.freeze (fun H9 hle9 hz => ?_)
    exact TQ.one [] hF hle9 ⟨rd.ofRow (Row.lit 26 2 1 _ _ rfl (by omega)) hz (trs_cons hr32 (trivial)) hle9, rfl⟩) ?_
   refine ChainV.r (some 44) [(1, 0)] ([]) (fun _ => fun u sg H => ∃ d0 d1, u = .agg #[d0, d1] ∧ RdL H sXa.d [d0, d1] ∧ sg = []) (by
    intro H' X F hle; have hL := Le.trans hL hle; intro _
    rintro v43 _ Hi43 hle43 ⟨hr43, rfl⟩
    replace hr43 := rd.mono hle43 hr43
    intro hF; refine TL.call (law_tree (t := sXa) hr43) ⟨rfl, rfl, trivial⟩ rfl ?_
    rintro _ own H44 ⟨a44, b44, rfl, hr44, rfl, hle44⟩
    have hL := Le.trans hL hle44; refine TL.nil ?_
    exact TQ.one [] hF hle44 ⟨a44, b44, rfl, hr44, rfl⟩) ?_
   refine ChainV.q (some 45) [] (by
    intro H' X F hle; have hL := Le.trans hL hle; intro hF; refine TL.load_ownA 1 0 [_, _] rfl rfl rfl ⟨rfl, rfl, trivial⟩ rfl rfl ?_
    exact TL.one hF) ?_
   refine ChainV.r (some 46) [(3, 0)] ([]) (fun _ => fun u sg H => rd H (.s 2 (Tr.ds [sA])) u ∧ sg = []) (by
    intro H' X F hle; have hL := Le.trans hL hle; have hr32 := RdL.mono hle hr32; intro hF
    refine TL.litF (r := [_, _]) [(0, [_, _])] ⟨rfl, ⟨_, rfl, rfl⟩, trivial⟩ rfl rfl rfl rfl ?_; intro g46; refine TL.nil ?_
    refine TQ.freeze (fun H9 hle9 hz => ?_)
    exact TQ.one [] hF hle9 ⟨rd.ofRow (Row.lit 26 2 1 _ _ rfl (by omega)) hz (trs_cons hr32 (trivial)) hle9, rfl⟩) ?_
   refine ⟨by kernel_rfl, .refl _, ?_⟩
   ·
    intro H9 hle
    rintro v43 _ Hi43 hle43 ⟨hr43, rfl⟩
    rintro _ _ Hi44 hle44 ⟨a44, b44, rfl, hr44, rfl⟩
    replace hr44 := RdL.mono hle44 hr44
    rintro v46 _ Hi46 hle46 ⟨hr46, rfl⟩
    replace hr46 := rd.mono hle46 hr46
    have hL := Le.trans hL hle; have hmd := rd.mono hle hmd; have hr31 := RdL.mono hle hr31; have hr32 := RdL.mono hle hr32; have hr33 := RdL.mono hle hr33; have hr41 := rd.mono hle hr41; refine TL.toOwn (own' := _ :: _ :: _ :: _ :: own) rfl ?_; refine TL.wk (env' := [(0, _), (1, _), (2, _), (3, _), (4, _), (5, _), (44, _), (46, _)]) ⟨rfl, rfl, rfl, rfl, rfl, rfl, rfl, rfl, trivial⟩ ?_; refine TL.call (law_tree (t := sYa) hr46) ⟨rfl, rfl, trivial⟩ rfl ?_
    rintro _ own H47 ⟨a47, b47, rfl, hr47, rfl, hle47⟩
    have hL := Le.trans hL hle47; have hmd := rd.mono hle47 hmd; have hr31 := RdL.mono hle47 hr31; have hr32 := RdL.mono hle47 hr32; have hr33 := RdL.mono hle47 hr33; have hr41 := rd.mono hle47 hr41; have hr44 := RdL.mono hle47 hr44; refine TL.call (Diff_n uni2 (by simp) (by simp) (by decide) hr44 hr47) ⟨rfl, rfl, trivial⟩ rfl ?_
    rintro v48 own H48 ⟨hr48, rfl, hle48⟩
    replace hr48 : rd H48 (.s 4 (eiD [⟨3, [], sYa⟩])) v48 := by
      rw [ed2, ← eiD_of] at hr48
      exact hr48
    have hL := Le.trans hL hle48; have hmd := rd.mono hle48 hmd; have hr31 := RdL.mono hle48 hr31; have hr32 := RdL.mono hle48 hr32; have hr33 := RdL.mono hle48 hr33; have hr41 := rd.mono hle48 hr41; refine TL.assign rfl rfl ?_; refine TL.nil ?_; refine TQ.then_n ?_; refine TC.seq ?_; refine TC.drawQV 13  [(0, _), (1, _), (2, _), (3, _), (4, _), (5, _), (6, _)] follows_mixed ⟨rfl, rfl, rfl, rfl, rfl, rfl, rfl, trivial⟩ ?_
    refine ChainV.q (some 50) [] (by
     intro H' X F hle; have hL := Le.trans hL hle; intro hF; refine TL.load_ownA 1 0 [_, _] rfl rfl rfl ⟨rfl, rfl, trivial⟩ rfl rfl ?_
     exact TL.one hF) ?_
    refine ChainV.r (some 51) [(0, 0)] ([]) (fun _ => fun u sg H => rd H (.s 2 (Tr.ds [sA])) u ∧ sg = []) (by
     intro H' X F hle; have hL := Le.trans hL hle; have hr32 := RdL.mono hle hr32; intro hF
     refine TL.litF (r := [_, _]) [(0, [_, _])] ⟨rfl, ⟨_, rfl, rfl⟩, trivial⟩ rfl rfl rfl rfl ?_; intro g51; refine TL.nil ?_
     refine TQ.freeze (fun H9 hle9 hz => ?_)
     exact TQ.one [] hF hle9 ⟨rd.ofRow (Row.lit 26 2 1 _ _ rfl (by omega)) hz (trs_cons hr32 (trivial)) hle9, rfl⟩) ?_
    refine ChainV.r (some 52) [(1, 0)] ([]) (fun _ => fun u sg H => ∃ d0 d1, u = .agg #[d0, d1] ∧ RdL H sXa.d [d0, d1] ∧ sg = []) (by
     intro H' X F hle; have hL := Le.trans hL hle; intro _
     rintro v51 _ Hi51 hle51 ⟨hr51, rfl⟩
     replace hr51 := rd.mono hle51 hr51
     intro hF; refine TL.call (law_tree (t := sXa) hr51) ⟨rfl, rfl, trivial⟩ rfl ?_
     rintro _ own H52 ⟨a52, b52, rfl, hr52, rfl, hle52⟩
     have hL := Le.trans hL hle52; refine TL.nil ?_
     exact TQ.one [] hF hle52 ⟨a52, b52, rfl, hr52, rfl⟩) ?_
    refine ChainV.r (some 53) [] ([]) (fun _ => fun u sg H => rd H (.s 1 (ints [2])) u ∧ sg = []) (by
     intro H' X F hle; have hL := Le.trans hL hle; intro hF
     refine TL.litF (r := [_]) [(0, [_])] ⟨rfl, ⟨_, rfl, rfl⟩, trivial⟩ rfl rfl rfl rfl ?_; intro g53; refine TL.nil ?_
     refine TQ.freeze (fun H9 hle9 hz => ?_)
     exact TQ.one [] hF hle9 ⟨rd.ofRow (Row.lit 3 1 1 _ _ rfl (by omega)) hz (RdL.vals [.int .i64 2]) hle9, rfl⟩) ?_
    refine ChainV.q (some 54) [] (by
     intro H' X F hle; have hL := Le.trans hL hle; intro hF; refine TL.load_ownA 0 0 [_, _] rfl rfl rfl ⟨rfl, rfl, trivial⟩ rfl rfl ?_
     exact TL.one hF) ?_
    refine ChainV.r (some 55) [(3, 1), (4, 0)] ([]) (fun _ => fun u sg H => ∃ a b c d, u = .agg #[a, b, c, d] ∧ RdL H (Ei.d ⟨1, [2], sB⟩) [a, b, c, d] ∧ sg = []) (by
     intro H' X F hle; have hL := Le.trans hL hle; have hr33 := RdL.mono hle hr33; intro _
     rintro v53 _ Hi53 hle53 ⟨hr53, rfl⟩
     replace hr53 := rd.mono hle53 hr53
     intro hF; refine TL.struct [(0, [_]), (1, [_]), (2, [_, _])] ⟨rfl, ⟨_, rfl, rfl⟩, rfl, ⟨_, rfl, one_cells hr53.one⟩, rfl, ⟨_, rfl, rfl⟩, trivial⟩ rfl rfl ?_; refine TL.nil ?_
     exact TQ.one [] hF (Le.refl _) ⟨_, _, _, _, rfl, ei_mk (e := ⟨1, [2], sB⟩) hr53 hr33, rfl⟩) ?_
    refine ChainV.r (some 56) [(5, 0)] ([]) (fun _ => fun u sg H => rd H (.s 4 (eiD [⟨1, [2], sB⟩])) u ∧ sg = []) (by
     intro H' X F hle; have hL := Le.trans hL hle; intro _
     rintro _ _ Hi55 hle55 ⟨p0, p1, p2, p3, rfl, hr55, rfl⟩
     replace hr55 := RdL.mono hle55 hr55
     intro hF
     refine TL.litF (r := [_, _, _, _]) [(0, [_, _, _, _])] ⟨rfl, ⟨_, rfl, rfl⟩, trivial⟩ rfl rfl rfl rfl ?_; intro g56; refine TL.nil ?_
     refine TQ.freeze (fun H9 hle9 hz => ?_)
     exact TQ.one [] hF hle9 ⟨rd.ofRow (Row.lit 46 4 1 _ _ rfl (by omega)) hz (by simpa [eiD] using hr55) hle9, rfl⟩) ?_
    refine ChainV.q (some 57) [(2, 4), (6, 0)] (by
     intro H' X F hle; have hL := Le.trans hL hle; intro _
     rintro _ _ Hi52 hle52 ⟨a52, b52, rfl, hr52, rfl⟩
     replace hr52 := RdL.mono hle52 hr52
     intro _
     rintro v56 _ Hi56 hle56 ⟨hr56, rfl⟩
     replace hr56 := rd.mono hle56 hr56
     intro hF; refine TL.call (Apply_bad ap3 (by decide) (by decide) (by decide) hr52 hr56) ⟨rfl, rfl, trivial⟩ rfl ?_
     rintro _ own H57 ⟨rfl, rfl, hle57⟩
     have hL := Le.trans hL hle57; refine TL.nil ?_
     exact TQ.one [] hF hle57 ⟨rfl, rfl⟩) ?_
    refine ChainV.q (some 49) [(7, 0)] (fun _ _ _ _ hF => TL.move rfl rfl (TL.one hF)) ?_; refine ChainV.q (some 58) [(8, 0)] (fun _ _ _ _ hF => TL.extract rfl rfl rfl (TL.one hF)) ?_; refine ChainV.q (some 59) [(8, 1)] (fun _ _ _ _ hF => TL.extract rfl rfl rfl (TL.one hF)) ?_
    refine ChainV.t true [] (some 7) [] ([]) (fun _ => fun u sg H => ∃ g, u = .pointer (some ⟨g, 0, none⟩) ∧ sg = [[(g, .cells #[.string ⟨#[]⟩, .slice none 0 0] 26 (0, 0))]]) (by
     intro H' X F hle; have hL := Le.trans hL hle; intro hF
     refine TL.new rfl ?_; intro g7; refine TL.nil ?_
     exact TQ.one [_] hF (Le.refl _) ⟨_, rfl, rfl⟩) ?_
    refine ChainV.t false [11] none [(11, 0), (9, 2)] ([]) (fun vs u sg H => ∃ g, nthV vs 0 = .pointer (some ⟨g, 0, none⟩) ∧ sg = [[(g, .cells #[.string ⟨#[]⟩, .slice none 0 0] 26 (0, 0))]]) (by
     intro H' X F hle; have hL := Le.trans hL hle; intro _
     rintro _ _ Hr hler ⟨g7, rfl, rfl⟩
     intro hF; refine TL.toOwn (own' := _ :: _) rfl ?_; refine TL.storeA 0 0 (c' := #[_, _]) (own' := [(_, .cells #[_, _] _ _)] :: _) rfl rfl rfl rfl rfl ⟨rfl, rfl, trivial⟩ (by simp) rfl rfl rfl ?_; refine TL.nil ?_
     exact TQ.one [_] hF (Le.refl _) ⟨_, rfl, rfl⟩) ?_
    refine ⟨by kernel_rfl, .refl _, ?_⟩
    ·
     intro H10 hle
     rintro v51 _ Hi51 hle51 ⟨hr51, rfl⟩
     rintro _ _ Hi52 hle52 ⟨a52, b52, rfl, hr52, rfl⟩
     rintro v53 _ Hi53 hle53 ⟨hr53, rfl⟩
     rintro _ _ Hi55 hle55 ⟨p0, p1, p2, p3, rfl, hr55, rfl⟩
     rintro v56 _ Hi56 hle56 ⟨hr56, rfl⟩
     rintro _ _ Hr hler ⟨g7, rfl, rfl⟩
     rintro _ _ Hr hler ⟨g7, e7, rfl⟩
     cases e7
     have hL := Le.trans hL hle; have hmd := rd.mono hle hmd; have hr31 := RdL.mono hle hr31; have hr32 := RdL.mono hle hr32; have hr33 := RdL.mono hle hr33; have hr41 := rd.mono hle hr41; have hr48 := rd.mono hle hr48; refine TL.toOwn (own' := _ :: _ :: _ :: _ :: _ :: own) rfl ?_; refine TL.wk (env' := [(0, _), (1, _), (2, _), (3, _), (4, _), (5, _), (6, _), (59, _)]) ⟨rfl, rfl, rfl, rfl, rfl, rfl, rfl, rfl, trivial⟩ ?_; refine TL.assign rfl rfl ?_; refine TL.nsr ?_; refine TL.load_ownA 2 0 [_, _] rfl rfl rfl ⟨rfl, rfl, trivial⟩ rfl rfl ?_; refine TL.load_ownA 1 0 [_, _] rfl rfl rfl ⟨rfl, rfl, trivial⟩ rfl rfl ?_
     refine TL.litF (r := [_, _, _, _]) [(0, [_, _]), (1, [_, _])] ⟨rfl, ⟨_, rfl, rfl⟩, rfl, ⟨_, rfl, rfl⟩, trivial⟩ rfl rfl rfl rfl ?_; intro g63
     refine TL.freeze (fun H11 hle hz_g63 => ?_)
     have hL := Le.trans hL hle; have hmd := rd.mono hle hmd; have hr31 := RdL.mono hle hr31; have hr32 := RdL.mono hle hr32; have hr33 := RdL.mono hle hr33; have hr41 := rd.mono hle hr41; have hr48 := rd.mono hle hr48
     have hk63 : rd H11 (.s 2 (Tr.ds [sA, sB])) _ := rd.ofRow (Row.lit 26 2 2 _ _ rfl (by omega)) hz_g63 (trs_cons hr32 (trs_cons hr33 (trivial))) (Le.refl _)
     refine TL.call (law_tree (t := sXab) hk63) ⟨rfl, rfl, trivial⟩ rfl ?_
     rintro _ own H64 ⟨a64, b64, rfl, hr64, rfl, hle64⟩
     have hL := Le.trans hL hle64; have hmd := rd.mono hle64 hmd; have hr31 := RdL.mono hle64 hr31; have hr41 := rd.mono hle64 hr41; have hr48 := rd.mono hle64 hr48
     refine TL.litF (r := [_]) [(0, [_])] ⟨rfl, ⟨_, rfl, rfl⟩, trivial⟩ rfl rfl rfl rfl ?_; intro g65
     refine TL.freeze (fun H12 hle hz_g65 => ?_)
     have hL := Le.trans hL hle; have hmd := rd.mono hle hmd; have hr31 := RdL.mono hle hr31; have hr41 := rd.mono hle hr41; have hr48 := rd.mono hle hr48; have hr64 := RdL.mono hle hr64
     have hr65 : rd H12 (.s 1 (ints [1])) _ := rd.ofRow (Row.lit 3 1 1 _ _ rfl (by omega)) hz_g65 (RdL.vals [.int .i64 1]) (Le.refl _)
     refine TL.struct [(0, [_]), (1, [_])] ⟨rfl, ⟨_, rfl, rfl⟩, rfl, ⟨_, rfl, rfl⟩, trivial⟩ rfl rfl ?_
     refine TL.litF (r := [_, _, _, _]) [(0, [_, _, _, _])] ⟨rfl, ⟨_, rfl, rfl⟩, trivial⟩ rfl rfl rfl rfl ?_; intro g67
     refine TL.freeze (fun H13 hle hz_g67 => ?_)
     have hL := Le.trans hL hle; have hmd := rd.mono hle hmd; have hr31 := RdL.mono hle hr31; have hr41 := rd.mono hle hr41; have hr48 := rd.mono hle hr48; have hr64 := RdL.mono hle hr64; have hr65 := rd.mono hle hr65
     have hr67 : rd H13 (.s 4 (eiD [⟨2, [1], Tr.zero⟩])) _ := rd.ofRow (Row.lit 46 4 1 _ _ rfl (by omega)) hz_g67 (ei_mk (e := ⟨2, [1], Tr.zero⟩) hr65 (zero_rd _)) (Le.refl _)
     refine TL.call (Invert_ok iv4 (by decide) (by decide) (by decide) hr64 hr67) ⟨rfl, rfl, trivial⟩ rfl ?_
     rintro _ own H68 ⟨⟨v68, rfl, hr68⟩, rfl, hle68⟩
     have hL := Le.trans hL hle68; have hmd := rd.mono hle68 hmd; have hr31 := RdL.mono hle68 hr31; have hr41 := rd.mono hle68 hr41; have hr48 := rd.mono hle68 hr48; refine TL.move rfl rfl ?_; refine TL.extract rfl rfl rfl ?_; refine TL.extract rfl rfl rfl ?_; refine TL.assign rfl rfl ?_; refine TL.assign rfl rfl ?_; refine TL.nil ?_; refine TQ.then_n ?_; refine TC.seq ?_
     obtain ⟨A5, c5, rfl, _, _⟩ := eis_len hr41
     obtain ⟨b5, o5, p5, x5, y5, rfl, ha1, hpp1, _⟩ := eis_at hr41 (i := 0) (e := ⟨2, [0], Tr.zero⟩) rfl
     obtain ⟨A6, c6, rfl, _, _⟩ := vals_len (l := [Value.int .i64 0]) hpp1
     obtain ⟨b6, o6, rfl, hp1⟩ := vals_at (l := [Value.int .i64 0]) hpp1 (i := 0) rfl
     obtain ⟨A7, c7, rfl, _, _⟩ := eis_len hr48
     obtain ⟨b7, o7, p7, x7, y7, rfl, ha2, _, _⟩ := eis_at hr48 (i := 0) (e := ⟨3, [], sYa⟩) rfl
     obtain ⟨A8, c8, rfl, _, _⟩ := eis_len hr68
     obtain ⟨b8, o8, p8, x8, y8, rfl, ha3, _, hx8⟩ := eis_at hr68 (i := 0) (e := ⟨1, [1], sB⟩) rfl
     obtain rfl := lab_of hx8
     refine TC.drawQV 3  [(0, _), (1, _), (2, _), (3, _), (4, _), (5, _), (6, _), (8, _), (9, _), (10, _)] follows_mixed ⟨rfl, rfl, rfl, rfl, rfl, rfl, rfl, rfl, rfl, rfl, trivial⟩ ?_
     refine ChainV.q (some 71) [] (by
      intro H' X F hle; have hL := Le.trans hL hle; intro hF; refine TL.load_ownA 4 0 [_, _, _] rfl rfl rfl ⟨rfl, rfl, rfl, trivial⟩ rfl rfl ?_
      exact TL.one hF) ?_
     refine ChainV.r (some 72) [(0, 0)] ([]) (fun _ => fun u sg H => ∃ d0 d1, u = .agg #[d0, d1] ∧ RdL H mainT.d [d0, d1] ∧ sg = []) (by
      intro H' X F hle; have hL := Le.trans hL hle; have hmd := rd.mono hle hmd; intro hF; refine TL.call (diff_ToTree hmd) ⟨rfl, trivial⟩ rfl ?_
      rintro _ own H72 ⟨a72, b72, rfl, hr72, rfl, hle72⟩
      have hL := Le.trans hL hle72; refine TL.nil ?_
      exact TQ.one [] hF hle72 ⟨a72, b72, rfl, hr72, rfl⟩) ?_
     refine ChainV.q (some 73) [] (by
      intro H' X F hle; have hL := Le.trans hL hle; intro hF; refine TL.load_ownA 3 0 [_, _] rfl rfl rfl ⟨rfl, rfl, trivial⟩ rfl rfl ?_
      exact TL.one hF) ?_
     refine ⟨by kernel_rfl, .refl _, ?_⟩
     ·
      intro H14 hle
      rintro _ _ Hi72 hle72 ⟨a72, b72, rfl, hr72, rfl⟩
      replace hr72 := RdL.mono hle72 hr72
      have hL := Le.trans hL hle; have hr31 := RdL.mono hle hr31; have ha1 := hAt.mono hle ha1; have ha2 := hAt.mono hle ha2; have ha3 := hAt.mono hle ha3; have hp1 := cel_le hle hp1; refine TL.toOwn (own' := _ :: _ :: _ :: _ :: _ :: own) rfl ?_; refine TL.wk (env' := [(0, _), (1, _), (2, _), (3, _), (4, _), (5, _), (6, _), (8, _), (9, _), (10, _), (72, _), (73, _)]) ⟨rfl, rfl, rfl, rfl, rfl, rfl, rfl, rfl, rfl, rfl, rfl, rfl, trivial⟩ ?_; refine TL.call (ref_same _ _ _ (Nat.le_refl _) hr72 hr31) ⟨rfl, rfl, trivial⟩ rfl ?_
      rintro _ own Hs74 ⟨rfl, rfl, hles74⟩
      rw [eqb_self]
      have hL := Le.trans hL hles74; have hr31 := RdL.mono hles74 hr31; have ha1 := hAt.mono hles74 ha1; have ha2 := hAt.mono hles74 ha2; have ha3 := hAt.mono hles74 ha3; have hp1 := cel_le hles74 hp1; refine TL.move rfl rfl ?_; refine TL.gyes rfl rfl rfl ?_; refine TL.move rfl rfl ?_; refine TL.gyes rfl rfl rfl ?_; refine TL.len_slice rfl rfl ?_; refine TL.gyes rfl rfl rfl ?_; refine TL.eql rfl rfl rfl ?_
      rw [decide_eq_true (by first | rfl | decide | omega)]
      refine TL.pickT rfl rfl rfl rfl ?_; refine TL.move rfl rfl ?_; refine TL.gyes rfl rfl rfl ?_; refine TL.move rfl rfl ?_; refine TL.gyes rfl rfl rfl ?_; refine TL.indexAddr (0) rfl rfl rfl (by simp) rfl ?_; refine TL.gyes rfl rfl rfl ?_; refine TL.fieldAddr rfl rfl ?_; refine TL.gyes rfl rfl rfl ?_; refine TL.load_imm rfl (ha1.1) rfl ?_; refine TL.gyes rfl rfl rfl ?_; refine TL.eql rfl rfl rfl ?_
      rw [decide_eq_true (by first | rfl | decide | omega)]
      refine TL.pickT rfl rfl rfl rfl ?_; refine TL.move rfl rfl ?_; refine TL.gyes rfl rfl rfl ?_; refine TL.move rfl rfl ?_; refine TL.gyes rfl rfl rfl ?_; refine TL.indexAddr (0) rfl rfl rfl (by simp) rfl ?_; refine TL.gyes rfl rfl rfl ?_; refine TL.fieldAddr rfl rfl ?_; refine TL.gyes rfl rfl rfl ?_; refine TL.load_imm rfl (ha1.2.1) rfl ?_; refine TL.gyes rfl rfl rfl ?_; refine TL.len_slice rfl rfl ?_; refine TL.gyes rfl rfl rfl ?_; refine TL.eql rfl rfl rfl ?_
      rw [decide_eq_true (by first | rfl | decide | omega)]
      refine TL.pickT rfl rfl rfl rfl ?_; refine TL.move rfl rfl ?_; refine TL.gyes rfl rfl rfl ?_; refine TL.move rfl rfl ?_; refine TL.gyes rfl rfl rfl ?_; refine TL.indexAddr (0) rfl rfl rfl (by simp) rfl ?_; refine TL.gyes rfl rfl rfl ?_; refine TL.fieldAddr rfl rfl ?_; refine TL.gyes rfl rfl rfl ?_; refine TL.load_imm rfl (ha1.2.1) rfl ?_; refine TL.gyes rfl rfl rfl ?_; refine TL.indexAddr (0) rfl rfl rfl (by simp) rfl ?_; refine TL.gyes rfl rfl rfl ?_; refine TL.load_imm rfl (hp1) rfl ?_; refine TL.gyes rfl rfl rfl ?_; refine TL.eql rfl rfl rfl ?_
      rw [decide_eq_true (by first | rfl | decide | omega)]
      refine TL.pickT rfl rfl rfl rfl ?_; refine TL.move rfl rfl ?_; refine TL.gyes rfl rfl rfl ?_; refine TL.move rfl rfl ?_; refine TL.gyes rfl rfl rfl ?_; refine TL.len_slice rfl rfl ?_; refine TL.gyes rfl rfl rfl ?_; refine TL.eql rfl rfl rfl ?_
      rw [decide_eq_true (by first | rfl | decide | omega)]
      refine TL.pickT rfl rfl rfl rfl ?_; refine TL.move rfl rfl ?_; refine TL.gyes rfl rfl rfl ?_; refine TL.move rfl rfl ?_; refine TL.gyes rfl rfl rfl ?_; refine TL.indexAddr (0) rfl rfl rfl (by simp) rfl ?_; refine TL.gyes rfl rfl rfl ?_; refine TL.fieldAddr rfl rfl ?_; refine TL.gyes rfl rfl rfl ?_; refine TL.load_imm rfl (ha2.1) rfl ?_; refine TL.gyes rfl rfl rfl ?_; refine TL.eql rfl rfl rfl ?_
      rw [decide_eq_true (by first | rfl | decide | omega)]
      refine TL.pickT rfl rfl rfl rfl ?_; refine TL.move rfl rfl ?_; refine TL.gyes rfl rfl rfl ?_; refine TL.move rfl rfl ?_; refine TL.gyes rfl rfl rfl ?_; refine TL.eql rfl rfl rfl ?_
      rw [decide_eq_true (by first | rfl | decide | omega)]
      refine TL.pickT rfl rfl rfl rfl ?_; refine TL.move rfl rfl ?_; refine TL.gyes rfl rfl rfl ?_; refine TL.move rfl rfl ?_; refine TL.gyes rfl rfl rfl ?_; refine TL.len_slice rfl rfl ?_; refine TL.gyes rfl rfl rfl ?_; refine TL.eql rfl rfl rfl ?_
      rw [decide_eq_true (by first | rfl | decide | omega)]
      refine TL.pickT rfl rfl rfl rfl ?_; refine TL.move rfl rfl ?_; refine TL.gyes rfl rfl rfl ?_; refine TL.move rfl rfl ?_; refine TL.gyes rfl rfl rfl ?_; refine TL.eql rfl rfl rfl ?_
      rw [decide_eq_true (by first | rfl | decide | omega)]
      refine TL.pickT rfl rfl rfl rfl ?_; refine TL.move rfl rfl ?_; refine TL.gyes rfl rfl rfl ?_; refine TL.move rfl rfl ?_; refine TL.gyes rfl rfl rfl ?_; refine TL.indexAddr (0) rfl rfl rfl (by simp) rfl ?_; refine TL.gyes rfl rfl rfl ?_; refine TL.fieldAddr rfl rfl ?_; refine TL.gyes rfl rfl rfl ?_; refine TL.load_imm rfl (ha3.1) rfl ?_; refine TL.gyes rfl rfl rfl ?_; refine TL.eql rfl rfl rfl ?_
      rw [decide_eq_true (by first | rfl | decide | omega)]
      refine TL.pickT rfl rfl rfl rfl ?_; refine TL.move rfl rfl ?_; refine TL.gyes rfl rfl rfl ?_; refine TL.move rfl rfl ?_; refine TL.gyes rfl rfl rfl ?_; refine TL.indexAddr (0) rfl rfl rfl (by simp) rfl ?_; refine TL.gyes rfl rfl rfl ?_; refine TL.fieldAddr rfl rfl ?_; refine TL.gyes rfl rfl rfl ?_; refine TL.fieldAddr rfl rfl ?_; refine TL.gyes rfl rfl rfl ?_; refine TL.load_imm rfl (ha3.2.2.1) rfl ?_; refine TL.gyes rfl rfl rfl ?_; refine TL.eqlS rfl rfl rfl ?_
      rw [decide_eq_true (show lB = ⟨#[98]⟩ from rfl)]
      refine TL.pickT rfl rfl rfl rfl ?_; refine TL.move rfl rfl ?_; refine TL.gyes rfl rfl rfl ?_; refine TL.load_ownA 3 0 [_, _] rfl rfl rfl ⟨rfl, rfl, trivial⟩ rfl rfl ?_; refine TL.gyes rfl rfl rfl ?_; refine TL.call (diff_Count _ mainT (Nat.le_refl _) (by omega) hr31) ⟨rfl, trivial⟩ rfl ?_
      rintro _ own H146 ⟨rfl, rfl, hle146⟩
      rw [hsz]
      have hL := Le.trans hL hle146; refine TL.gyes rfl rfl rfl ?_; refine TL.eql rfl rfl rfl ?_
      rw [decide_eq_true (by first | rfl | decide | omega)]
      refine TL.pickT rfl rfl rfl rfl ?_; refine TL.assign rfl rfl ?_; refine TL.nil ?_; refine TQ.then_n ?_; refine TC.ret ?_; refine TQ.ret1 5 rfl rfl ?_
      exact ⟨rfl, rfl, hL⟩

end Go.Proofs.YtaomdfcplamenaaGreatDoor.K

namespace Go.Proofs.YtaomdfcplamenaaGreatDoor.K
open Go Go.RowKit Go.Proofs

theorem ints_le {H : Hp} {l : List Int} {v : Value} (h : rd H (.s 1 (ints l)) v) : l.length ≤ 9223372036854775807 := by
  obtain ⟨A, c, rfl, h1, h2⟩ := vals_len h
  rw [List.length_map] at h1; omega
section
variable {P : Program} {w0 : World} {N : Nat} {Q : Exit → Act → World → Prop} {env : Env} {own : List Seg} {H : Hp} {ops : Array Oper} {rest : List Oper}
variable {d : Option Tmp} {ty : TypeId} {pos : String} {af : Array Edge}
end
end Go.Proofs.YtaomdfcplamenaaGreatDoor.K

namespace Go.Proofs.YtaomdfcplamenaaGreatDoor.K
open Go Go.RowKit Go.Proofs

theorem sub_putT : ∀ (p : Path) (t : Tr) {s : Tr} (x : Tr), sub t p = some s → sub (putT t p x) p = some x
  | [], t, s, x, _ => by cases x; simp [putT, sub]
  | i :: q, .node l ks, s, x, h => by
    simp only [sub, Option.bind_eq_some_iff] at h
    obtain ⟨u, hu, hs⟩ := h
    have hi := (List.getElem?_eq_some_iff.1 hu).1
    simp only [putT, hu, sub, List.getElem?_set_self hi, Option.bind_some]
    exact sub_putT q u x hs
theorem putT_putT : ∀ (p : Path) (t : Tr) {s : Tr} (x y : Tr), sub t p = some s → putT (putT t p x) p y = putT t p y
  | [], t, s, x, y, _ => by simp [putT]
  | i :: q, .node l ks, s, x, y, h => by
    simp only [sub, Option.bind_eq_some_iff] at h
    obtain ⟨u, hu, hs⟩ := h
    have hi := (List.getElem?_eq_some_iff.1 hu).1
    simp only [putT, hu, List.getElem?_set_self hi, List.set_set, putT_putT q u x y hs]
theorem putT_same : ∀ (p : Path) (t : Tr) {s : Tr}, sub t p = some s → putT t p s = t
  | [], t, s, h => by
    have h : t = s := by simpa [sub] using h
    simp [putT, h]
  | i :: q, .node l ks, s, h => by
    simp only [sub, Option.bind_eq_some_iff] at h
    obtain ⟨u, hu, hs⟩ := h
    simp only [putT, hu, putT_same q u hs]
    congr 1
    refine List.ext_getElem? fun k => ?_
    rw [List.getElem?_set]
    split
    · rename_i e
      subst e
      rw [if_pos (List.getElem?_eq_some_iff.1 hu).1, hu]
    · rfl
theorem subI_of_sub : ∀ (p : List Int) (t : Tr), (∀ x ∈ p, 0 ≤ x) → subI t p = sub t (p.map Int.toNat)
  | [], t, _ => by cases t; rfl
  | i :: q, .node l ks, h => by
    simp only [subI, List.map_cons, sub, if_neg (show ¬ i < 0 by have := h i (by simp); omega)]
    cases ks[i.toNat]? with
    | none => rfl
    | some u => exact subI_of_sub q u (fun x hx => h x (by simp [hx]))
theorem treesI_le {B : Nat} : ∀ {es : List Ei}, (∀ e ∈ es, e.tree.size ≤ B) → treesI es ≤ es.length * B
  | [], _ => by simp [treesI]
  | e :: r, h => by
    have := treesI_le (B := B) (es := r) (fun x hx => h x (by simp [hx]))
    have h1 := h e (by simp)
    rw [treesI_cons, List.length_cons, Nat.add_mul]; omega
end Go.Proofs.YtaomdfcplamenaaGreatDoor.K

namespace Go.Proofs.YtaomdfcplamenaaGreatDoor.K
open Go Go.RowKit Go.Proofs

section
variable {d : Tr → Tr → Nat}
theorem alD_del (u : Tr) (a b : List Tr) : alD d (u :: a) b ≤ alD d a b + u.size := by
  cases b with
  | nil => rw [alD_nil2, alD_nil2]; simp only [Tr.sizes]; omega
  | cons v b => rw [alD_cons]; omega
theorem alD_ins (v : Tr) (a b : List Tr) : alD d a (v :: b) ≤ alD d a b + v.size := by
  cases a with
  | nil => rw [alD_nil, alD_nil]; simp only [Tr.sizes]; omega
  | cons u a => rw [alD_cons]; omega
theorem alD_lip : ∀ (a b : List Tr), (∀ x ∈ a, ∀ y ∈ b, x.size ≤ d x y + y.size ∧ y.size ≤ d x y + x.size) → Tr.sizes a ≤ alD d a b + Tr.sizes b ∧ Tr.sizes b ≤ alD d a b + Tr.sizes a
  | [], b, _ => by rw [alD_nil]; simp only [Tr.sizes]; omega
  | x :: a, [], _ => by rw [alD_nil2]; simp only [Tr.sizes]; omega
  | x :: a, y :: b, h => by
    have h0 := h x (by simp) y (by simp)
    have h1 := alD_lip a b (fun u hu v hv => h u (by simp [hu]) v (by simp [hv]))
    have h2 := alD_lip a (y :: b) (fun u hu v hv => h u (by simp [hu]) v hv)
    have h3 := alD_lip (x :: a) b (fun u hu v hv => h u hu v (by simp [hv]))
    rw [alD_cons]
    simp only [Tr.sizes] at *
    omega
termination_by a b => a.length + b.length
theorem alD_self : ∀ (a : List Tr), (∀ x ∈ a, d x x = 0) → alD d a a = 0
  | [], _ => by rw [alD_nil]; rfl
  | x :: a, h => by
    have h0 := h x (by simp)
    have h1 := alD_self a (fun u hu => h u (by simp [hu]))
    rw [alD_cons]; omega
/-! what is alike at both ends -/
theorem del_r (hl : ∀ x y, x.size ≤ d x y + y.size ∧ y.size ≤ d x y + x.size) (y : Tr) (b : List Tr) : ∀ (a : List Tr), alD d a b ≤ alD d a (y :: b) + y.size
  | [] => by rw [alD_nil, alD_nil]; simp only [Tr.sizes]; omega
  | u :: a => by
    have h1 := alD_del (d := d) u a b
    have h2 := del_r hl y b a
    have h3 := hl u y
    have e := alD_cons d u y a b
    omega
theorem del_l (hl : ∀ x y, x.size ≤ d x y + y.size ∧ y.size ≤ d x y + x.size) (x : Tr) (a : List Tr) : ∀ (b : List Tr), alD d a b ≤ alD d (x :: a) b + x.size
  | [] => by rw [alD_nil2, alD_nil2]; simp only [Tr.sizes]; omega
  | v :: b => by
    have h1 := alD_ins (d := d) v a b
    have h2 := del_l hl x a b
    have h3 := hl x v
    have e := alD_cons d x v a b
    omega
theorem alD_head (hl : ∀ x y, x.size ≤ d x y + y.size ∧ y.size ≤ d x y + x.size) (h0 : ∀ x, d x x = 0) (x : Tr) (a b : List Tr) : alD d (x :: a) (x :: b) = alD d a b := by
  have h1 := del_r hl x b a
  have h2 := del_l hl x a b
  have h3 := h0 x
  have e := alD_cons d x x a b
  omega
theorem alD_pre (hl : ∀ x y, x.size ≤ d x y + y.size ∧ y.size ≤ d x y + x.size) (h0 : ∀ x, d x x = 0) (a b : List Tr) : ∀ p : List Tr, alD d (p ++ a) (p ++ b) = alD d a b
  | [] => rfl
  | x :: p => by rw [List.cons_append, List.cons_append, alD_head hl h0, alD_pre hl h0 a b p]
theorem addmin (a b c : Nat) : min a b + c = min (a + c) (b + c) := by omega
theorem snoc3 (S T p q x y u : Nat) : min (min (S + (x + 0) + q) (min (min (S + p) (T + x)) (S + (x + 0) + y) + u)) (u + (S + (x + 0)) + y) = min (min (u + S + p) (min (min (S + q) (T + u)) (u + S + y) + x)) (u + (S + (x + 0)) + y) := by
  simp only [addmin, Nat.add_zero]
  rw [show S + x + q = S + q + x by omega, show S + p + u = u + S + p by omega, show T + x + u = T + u + x by omega, show S + x + y + u = u + S + y + x by omega, show u + (S + x) + y = u + S + y + x by omega]
  simp only [Nat.min_assoc, Nat.min_left_comm, Nat.min_comm, Nat.min_self, Nat.min_self_assoc]
theorem min9 (A7 A3 A1 A8 A4 A2 A9 A6 A5 p x y q u v : Nat) :
    min (min (min (min (A7 + p) (A3 + x)) (A1 + y) + q) (min (min (A8 + p) (A4 + x)) (A2 + y) + u)) (min (min (A9 + p) (A6 + x)) (A5 + y) + v) =
    min (min (min (min (A7 + q) (A8 + u)) (A9 + v) + p) (min (min (A3 + q) (A4 + u)) (A6 + v) + x)) (min (min (A1 + q) (A2 + u)) (A5 + v) + y) := by
  simp only [addmin]
  rw [Nat.add_right_comm A7 p q, Nat.add_right_comm A3 x q, Nat.add_right_comm A1 y q, Nat.add_right_comm A8 p u, Nat.add_right_comm A4 x u, Nat.add_right_comm A2 y u, Nat.add_right_comm A9 p v, Nat.add_right_comm A6 x v, Nat.add_right_comm A5 y v]
  simp only [Nat.min_assoc, Nat.min_left_comm, Nat.min_comm]
theorem alD_snoc (x y : Tr) : ∀ (a b : List Tr), alD d (a ++ [x]) (b ++ [y]) = min (min (alD d a b + d x y) (alD d a (b ++ [y]) + x.size)) (alD d (a ++ [x]) b + y.size)
  | [], [] => by
    simp only [List.nil_append]
    rw [alD_cons]
  | [], v :: b => by
    have ih := alD_snoc x y [] b
    have e1 := alD_cons d x v [] (b ++ [y])
    have e2 := alD_cons d x v [] b
    have n1 := alD_nil d (b ++ [y])
    have n2 := alD_nil d b
    have n3 := alD_nil d (v :: b)
    have n4 := alD_nil d (v :: (b ++ [y]))
    have s1 := Tr.sizes_append b [y]
    have s2 : Tr.sizes [y] = y.size := rfl
    have s3 : Tr.sizes (v :: b) = v.size + Tr.sizes b := rfl
    have s4 : Tr.sizes (v :: (b ++ [y])) = v.size + Tr.sizes (b ++ [y]) := rfl
    rw [List.nil_append] at ih ⊢
    rw [List.cons_append, e1, e2, ih, n1, n2, n3, n4, s4, s3, s1, s2]
    omega
  | u :: a, [] => by
    have ih := alD_snoc x y a []
    have e1 := alD_cons d u y (a ++ [x]) []
    have e2 := alD_cons d u y a []
    rw [List.nil_append] at ih ⊢
    rw [List.cons_append, e1, e2, ih]
    simp only [alD_nil2]
    rw [show Tr.sizes (u :: a) = u.size + Tr.sizes a from rfl, show Tr.sizes (u :: (a ++ [x])) = u.size + Tr.sizes (a ++ [x]) from rfl, Tr.sizes_append a [x], show Tr.sizes [x] = x.size + 0 from rfl]
    exact snoc3 _ _ _ _ _ _ _
  | u :: a, v :: b => by
    have i1 := alD_snoc x y a b
    have i2 := alD_snoc x y a (v :: b)
    have i3 := alD_snoc x y (u :: a) b
    have e1 := alD_cons d u v (a ++ [x]) (b ++ [y])
    have e2 := alD_cons d u v a b
    have e3 := alD_cons d u v a (b ++ [y])
    have e4 := alD_cons d u v (a ++ [x]) b
    rw [List.cons_append] at i2 i3
    rw [List.cons_append, List.cons_append, e1, i1, i2, i3, e2, e3, e4]
    exact min9 _ _ _ _ _ _ _ _ _ _ _ _ _ _ _
termination_by a b => a.length + b.length
theorem del_rs (hl : ∀ x y, x.size ≤ d x y + y.size ∧ y.size ≤ d x y + x.size) (y : Tr) : ∀ (a b : List Tr), alD d a b ≤ alD d a (b ++ [y]) + y.size
  | [], b => by rw [alD_nil, alD_nil, Tr.sizes_append]; omega
  | a, [] => by
    have := (alD_lip a [y] (fun x _ y _ => hl x y)).1
    rw [alD_nil2]
    simp only [List.nil_append, Tr.sizes] at *
    omega
  | u :: a, v :: b => by
    have i1 := del_rs hl y a b
    have i2 := del_rs hl y a (v :: b)
    have i3 := del_rs hl y (u :: a) b
    simp only [List.cons_append] at *
    have e1 := alD_cons d u v a b
    have e2 := alD_cons d u v a (b ++ [y])
    omega
termination_by a b => a.length + b.length
theorem del_ls (hl : ∀ x y, x.size ≤ d x y + y.size ∧ y.size ≤ d x y + x.size) (x : Tr) : ∀ (a b : List Tr), alD d a b ≤ alD d (a ++ [x]) b + x.size
  | a, [] => by rw [alD_nil2, alD_nil2, Tr.sizes_append]; omega
  | [], b => by
    have := (alD_lip [x] b (fun x _ y _ => hl x y)).2
    rw [alD_nil]
    simp only [List.nil_append, Tr.sizes] at *
    omega
  | u :: a, v :: b => by
    have i1 := del_ls hl x a b
    have i2 := del_ls hl x a (v :: b)
    have i3 := del_ls hl x (u :: a) b
    simp only [List.cons_append] at *
    have e1 := alD_cons d u v a b
    have e2 := alD_cons d u v (a ++ [x]) b
    omega
termination_by a b => a.length + b.length
theorem alD_suf (hl : ∀ x y, x.size ≤ d x y + y.size ∧ y.size ≤ d x y + x.size) (h0 : ∀ x, d x x = 0) : ∀ (s a b : List Tr), alD d (a ++ s) (b ++ s) = alD d a b
  | [], a, b => by simp
  | x :: s, a, b => by
    have h1 := del_rs hl x a b
    have h2 := del_ls hl x a b
    have h3 := h0 x
    have e := alD_snoc (d := d) x x a b
    have ih := alD_suf hl h0 s (a ++ [x]) (b ++ [x])
    rw [List.append_assoc, List.append_assoc, List.singleton_append] at ih
    rw [ih]
    omega
end
/-- The distance by the definition. -/
def dRK : Nat → Tr → Tr → Nat
  | 0, _, _ => 0
  | k + 1, x, y => if x.lab ≠ y.lab then x.size + y.size else alD (dRK k) x.kids y.kids
theorem dRK_eq : ∀ (k k' : Nat) (x y : Tr), x.size ≤ k → x.size ≤ k' → dRK k x y = dRK k' x y
  | 0, _, x, _, h, _ => by have := x.size_pos; omega
  | _ + 1, 0, x, _, _, h => by have := x.size_pos; omega
  | k + 1, k' + 1, x, y, h1, h2 => by
    simp only [dRK]
    rw [alD_congr (d := dRK k) (d' := dRK k')]
    intro c hc d _
    have := kid_size hc
    exact dRK_eq k k' c d (by omega) (by omega)
def dR (x y : Tr) : Nat := dRK x.size x y
theorem dR_eq (x y : Tr) : dR x y = if x.lab ≠ y.lab then x.size + y.size else alD dR x.kids y.kids := by
  obtain ⟨k, hk⟩ : ∃ k, x.size = k + 1 := ⟨x.size - 1, by have := x.size_pos; omega⟩
  have e1 : alD (dRK k) x.kids y.kids = alD dR x.kids y.kids := by
    refine alD_congr _ _ ?_
    intro c hc d _
    have := kid_size hc
    exact dRK_eq _ _ c d (by omega) (by omega)
  show dRK x.size x y = _
  rw [← e1]
  rw [show dRK x.size x y = dRK (k + 1) x y by rw [hk]]
  simp only [dRK]
theorem dR_lip' (n : Nat) : ∀ x y : Tr, x.size ≤ n → x.size ≤ dR x y + y.size ∧ y.size ≤ dR x y + x.size := by
  induction n with
  | zero => intro x y h; have := x.size_pos; omega
  | succ n ih =>
    intro x y h
    have hx := size_kids x
    have hy := size_kids y
    rw [dR_eq]
    split
    · omega
    · have := alD_lip (d := dR) x.kids y.kids (fun u hu v _ => ih u v (by have := kid_size hu; omega))
      omega
theorem dR_lip (x y : Tr) : x.size ≤ dR x y + y.size ∧ y.size ≤ dR x y + x.size := dR_lip' x.size x y (Nat.le_refl _)
theorem dR_self' (n : Nat) : ∀ x : Tr, x.size ≤ n → dR x x = 0 := by
  induction n with
  | zero => intro x h; have := x.size_pos; omega
  | succ n ih =>
    intro x h
    rw [dR_eq, if_neg (by simp)]
    exact alD_self _ (fun u hu => ih u (by have := kid_size hu; omega))
theorem dR_self (x : Tr) : dR x x = 0 := dR_self' x.size x (Nat.le_refl _)
theorem dR_le (x y : Tr) : dR x y ≤ x.size + y.size := by
  have hx := size_kids x
  have hy := size_kids y
  rw [dR_eq]
  split
  · omega
  · have := alD_le dR x.kids y.kids; omega
end Go.Proofs.YtaomdfcplamenaaGreatDoor.K

namespace Go.Proofs.YtaomdfcplamenaaGreatDoor.K
open Go Go.RowKit Go.Proofs

theorem mid_split (a b : List Tr) : ∃ s, a = a.take (fro a b) ++ (midA a b ++ s) ∧ b = a.take (fro a b) ++ (midB a b ++ s) := by
  have hf := fro_take a b
  have hfl := fro_le a b
  have hb := bak_le (fro a b) a b
  have hk := fro_take (rv (fro a b) a) (rv (fro a b) b)
  have hk2 : (rv (fro a b) a).take (bak (fro a b) a b) = (rv (fro a b) b).take (bak (fro a b) a b) := hk
  have e1 : ∀ (c : List Tr), bak (fro a b) a b ≤ c.length - fro a b → (c.drop (fro a b)).drop (c.length - bak (fro a b) a b - fro a b) = ((rv (fro a b) c).take (bak (fro a b) a b)).reverse := by
    intro c hc
    unfold rv
    rw [List.take_reverse, List.reverse_reverse, List.length_drop]
    congr 1
    omega
  refine ⟨(a.drop (fro a b)).drop (a.length - bak (fro a b) a b - fro a b), ?_, ?_⟩
  · unfold midA
    rw [List.take_append_drop, List.take_append_drop]
  · rw [e1 a hb.1, hk2, ← e1 b hb.2, hf]
    unfold midB
    rw [List.take_append_drop, List.take_append_drop]
theorem dist_dR' (n : Nat) : ∀ x y : Tr, x.size ≤ n → dist x y = dR x y := by
  induction n with
  | zero => intro x y h; have := x.size_pos; omega
  | succ n ih =>
    intro x y h
    rw [dist_eq]
    split
    · rename_i e; rw [e, dR_self]
    · rw [dR_eq]
      split
      · rfl
      · obtain ⟨s, h1, h2⟩ := mid_split x.kids y.kids
        have e1 : alD dist (midA x.kids y.kids) (midB x.kids y.kids) = alD dR (midA x.kids y.kids) (midB x.kids y.kids) := by
          refine alD_congr _ _ fun u hu v _ => ih u v ?_
          have := kid_size (mem_mid hu)
          omega
        have e2 : alD dR x.kids y.kids = alD dR (midA x.kids y.kids) (midB x.kids y.kids) := by
          rw [show alD dR x.kids y.kids = alD dR (x.kids.take (fro x.kids y.kids) ++ (midA x.kids y.kids ++ s)) (x.kids.take (fro x.kids y.kids) ++ (midB x.kids y.kids ++ s)) from by rw [← h1, ← h2]]
          rw [alD_pre dR_lip dR_self, alD_suf dR_lip dR_self]
        rw [e1, e2]
theorem dist_dR (x y : Tr) : dist x y = dR x y := dist_dR' x.size x y (Nat.le_refl _)
/-! the edits -/
def edI (l : List Ed) : List Ei := l.map Ed.i
theorem edI_append (a b : List Ed) : edI (a ++ b) = edI a ++ edI b := by simp [edI]
theorem nat_path (p : Path) : (p.map Int.ofNat).map Int.toNat = p := by
  induction p with
  | nil => rfl
  | cons i q ih => simp only [List.map_cons, List.cons.injEq]; exact ⟨by simp, ih⟩
theorem subI_nat (t : Tr) (p : Path) : subI t (p.map Int.ofNat) = sub t p := by
  rw [subI_of_sub, nat_path]
  intro x hx
  obtain ⟨k, _, rfl⟩ := List.mem_map.1 hx
  exact Int.natCast_nonneg k
theorem sub_app : ∀ (p q : Path) (t : Tr), sub t (p ++ q) = (sub t p).bind fun u => sub u q
  | [], q, t => by cases t; rfl
  | i :: p, q, .node l ks => by
    simp only [List.cons_append, sub]
    cases ks[i]? with
    | none => rfl
    | some u => exact sub_app p q u
theorem putT_app : ∀ (p q : Path) (t : Tr) {s : Tr} (x : Tr), sub t p = some s → putT t (p ++ q) x = putT t p (putT s q x)
  | [], q, t, s, x, h => by
    have h : t = s := by simpa [sub] using h
    simp [putT, h]
  | i :: p, q, .node l ks, s, x, h => by
    simp only [sub, Option.bind_eq_some_iff] at h
    obtain ⟨u, hu, hs⟩ := h
    simp only [List.cons_append, putT, hu, putT_app p q u x hs]
/-- Edits that lead from T to T', and their cost. -/
def Leads (T : Tr) (es : List Ei) (T' : Tr) (c : Nat) : Prop := applyI T es = .inr T' ∧ costI T es = c
theorem Leads.nil (T : Tr) : Leads T [] T 0 := ⟨rfl, rfl⟩
theorem Leads.cons {T u T' : Tr} {e b : Ei} {r : List Ei} {c k : Nat} (h : stepI T e = .inr (b, u)) (hr : Leads u r T' c) (hk : k = stepCost e b + c) : Leads T (e :: r) T' k :=
  ⟨by rw [applyI_cons h, hr.1], by rw [costI_cons h, hr.2, hk]⟩
theorem Leads.append {T u T' : Tr} : ∀ {a b : List Ei} {c k : Nat}, Leads T a u c → Leads u b T' k → Leads T (a ++ b) T' (c + k) := by
  intro a
  induction a generalizing T with
  | nil =>
    intro b c k h h2
    obtain ⟨h1, h3⟩ := h
    simp only [applyI, Sum.inr.injEq] at h1
    subst h1
    simp only [costI] at h3
    subst h3
    simpa using h2
  | cons e r ih =>
    intro b c k h h2
    obtain ⟨h1, h3⟩ := h
    cases hst : stepI T e with
    | inl q => rw [applyI_bad hst] at h1; cases h1
    | inr p =>
      obtain ⟨b', t1⟩ := p
      rw [applyI_cons hst] at h1
      rw [costI_cons hst] at h3
      exact Leads.cons hst (ih ⟨h1, rfl⟩ h2) (by omega)
theorem path_split (p : Path) (q : Nat) : (p ++ [q]).map Int.ofNat ≠ [] ∧ ((p ++ [q]).map Int.ofNat).dropLast = p.map Int.ofNat ∧ ((p ++ [q]).map Int.ofNat).getLastD 0 = (q : Int) := by
  refine ⟨by simp, by simp, ?_⟩
  rw [List.map_append]
  simp
section
variable {T : Tr} {p : Path} {l : ByteArray} {P S : List Tr}
theorem leads_del {x : Tr} {a : List Tr} {b : List Tr} {r : List Ei} {c : Nat} (hT : sub T p = some (.node l (P ++ (x :: a ++ S)))) (hr : Leads (putT T p (.node l (P ++ (a ++ S)))) r (putT T p (.node l (P ++ (b ++ S)))) c) :
    Leads T ((Ed.i ⟨2, p ++ [P.length], Tr.zero⟩) :: r) (putT T p (.node l (P ++ (b ++ S)))) (x.size + c) := by
  obtain ⟨h1, h2, h3⟩ := path_split p P.length
  have hs : subI T ((Ed.i ⟨2, p ++ [P.length], Tr.zero⟩).path.dropLast) = some (.node l (P ++ (x :: a ++ S))) := by
    show subI T (((p ++ [P.length]).map Int.ofNat).dropLast) = _
    rw [h2, subI_nat, hT]
  have hst := step_del (t := T) (e := Ed.i ⟨2, p ++ [P.length], Tr.zero⟩) rfl h1 hs (by
    show ¬ (((p ++ [P.length]).map Int.ofNat).getLastD 0 < 0 ∨ ((P ++ (x :: a ++ S)).length : Int) < ((p ++ [P.length]).map Int.ofNat).getLastD 0 ∨ (((p ++ [P.length]).map Int.ofNat).getLastD 0 = ((P ++ (x :: a ++ S)).length : Int) ∧ (2 : Int) = 2))
    rw [h3]
    simp only [List.length_append, List.length_cons]
    omega)
  have e3 : ((Ed.i ⟨2, p ++ [P.length], Tr.zero⟩).path.getLastD 0).toNat = P.length := by
    show (((p ++ [P.length]).map Int.ofNat).getLastD 0).toNat = _
    rw [h3]; simp
  have e2 : (Ed.i ⟨2, p ++ [P.length], Tr.zero⟩).path.dropLast.map Int.toNat = p := by
    show (((p ++ [P.length]).map Int.ofNat).dropLast).map Int.toNat = p
    rw [h2, nat_path]
  rw [e2, e3] at hst
  have e4 : delT (.node l (P ++ (x :: a ++ S))) P.length = .node l (P ++ (a ++ S)) := by
    simp only [delT, Tr.kids, Tr.lab]
    congr 1
    rw [List.take_left, List.drop_append, List.drop_of_length_le (by omega)]
    simp
  have e5 : (Tr.node l (P ++ (x :: a ++ S))).kids.getD P.length Tr.zero = x := by
    simp [Tr.kids, List.getD_eq_getElem?_getD]
  rw [e4, e5] at hst
  refine Leads.cons hst hr ?_
  show x.size + c = stepCost _ _ + c
  unfold stepCost
  rw [if_pos (show (Ed.i ⟨2, p ++ [P.length], Tr.zero⟩).op = 2 from rfl), if_neg (show ¬ (Ed.i ⟨2, p ++ [P.length], Tr.zero⟩).op = 1 from (show ¬ (2 : Int) = 1 from by decide))]
  simp
theorem leads_ins {y : Tr} {a b : List Tr} {r : List Ei} {c : Nat} (hT : sub T p = some (.node l (P ++ (a ++ S)))) (hr : Leads (putT T p (.node l (P ++ (y :: (a ++ S))))) r (putT T p (.node l (P ++ (y :: b ++ S)))) c) :
    Leads T ((Ed.i ⟨1, p ++ [P.length], y⟩) :: r) (putT T p (.node l (P ++ (y :: b ++ S)))) (y.size + c) := by
  obtain ⟨h1, h2, h3⟩ := path_split p P.length
  have hs : subI T ((Ed.i ⟨1, p ++ [P.length], y⟩).path.dropLast) = some (.node l (P ++ (a ++ S))) := by
    show subI T (((p ++ [P.length]).map Int.ofNat).dropLast) = _
    rw [h2, subI_nat, hT]
  have hst := step_ins (t := T) (e := Ed.i ⟨1, p ++ [P.length], y⟩) rfl h1 hs (by
    show ¬ (((p ++ [P.length]).map Int.ofNat).getLastD 0 < 0 ∨ ((P ++ (a ++ S)).length : Int) < ((p ++ [P.length]).map Int.ofNat).getLastD 0 ∨ (((p ++ [P.length]).map Int.ofNat).getLastD 0 = ((P ++ (a ++ S)).length : Int) ∧ (1 : Int) = 2))
    rw [h3]
    simp only [List.length_append]
    omega)
  have e3 : ((Ed.i ⟨1, p ++ [P.length], y⟩).path.getLastD 0).toNat = P.length := by
    show (((p ++ [P.length]).map Int.ofNat).getLastD 0).toNat = _
    rw [h3]; simp
  have e2 : (Ed.i ⟨1, p ++ [P.length], y⟩).path.dropLast.map Int.toNat = p := by
    show (((p ++ [P.length]).map Int.ofNat).dropLast).map Int.toNat = p
    rw [h2, nat_path]
  rw [e2, e3] at hst
  have e4 : insT (.node l (P ++ (a ++ S))) P.length (Ed.i ⟨1, p ++ [P.length], y⟩).tree = .node l (P ++ (y :: (a ++ S))) := by
    simp only [insT, Tr.kids, Tr.lab, Ed.i]
    congr 1
    rw [List.take_left, List.drop_left]
    simp
  rw [e4] at hst
  refine Leads.cons hst hr ?_
  show y.size + c = stepCost _ _ + c
  unfold stepCost
  rw [if_neg (show ¬ (Ed.i ⟨1, p ++ [P.length], y⟩).op = 2 from (show ¬ (1 : Int) = 2 from by decide)), if_pos (show (Ed.i ⟨1, p ++ [P.length], y⟩).op = 1 from rfl)]
  simp [Ed.i]
end
/-- The walk between two lists of kids. -/
theorem wk_leads {e : Tr → Tr → Path → List Ed} {p : Path} {l : ByteArray} {S : List Tr} : ∀ (a b P : List Tr) (T : Tr), sub T p = some (.node l (P ++ (a ++ S))) →
    (∀ x ∈ a, ∀ y ∈ b, ∀ (q : Path) (U : Tr), sub U q = some x → Leads U (edI (e x y q)) (putT U q y) (dist x y)) →
    Leads T (edI (wk e p a b P.length)) (putT T p (.node l (P ++ (b ++ S)))) (alD dist a b)
  | [], [], P, T, hT, _ => by
    rw [wk_nn, alD_nil, putT_same _ _ hT]
    exact Leads.nil T
  | x :: a, [], P, T, hT, h => by
    rw [wk_cn, alD_nil2]
    have hT2 := sub_putT p T (.node l (P ++ (a ++ S))) hT
    have ih := wk_leads (e := e) (p := p) (l := l) (S := S) a [] P (putT T p (.node l (P ++ (a ++ S)))) hT2 (fun x _ y hy => by cases hy)
    rw [putT_putT _ _ _ _ hT, alD_nil2] at ih
    exact leads_del (b := []) hT ih
  | [], y :: b, P, T, hT, h => by
    rw [wk_nc, alD_nil]
    have hT2 := sub_putT p T (.node l (P ++ (y :: ([] ++ S)))) hT
    have ih := wk_leads (e := e) (p := p) (l := l) (S := S) [] b (P ++ [y]) (putT T p (.node l (P ++ (y :: ([] ++ S))))) (by rw [hT2]; simp) (fun x hx => by cases hx)
    rw [putT_putT _ _ _ _ hT, alD_nil, List.length_append, List.length_singleton] at ih
    have e1 : P ++ [y] ++ (b ++ S) = P ++ (y :: b ++ S) := by simp
    rw [e1] at ih
    exact leads_ins hT ih
  | x :: a, y :: b, P, T, hT, h => by
    rw [wk_cc]
    split
    · rename_i hm
      rw [hm, edI_append, Nat.add_comm (alD dist a b)]
      have hx : sub T (p ++ [P.length]) = some x := by
        rw [sub_app, hT]
        simp [sub]
      have h1 := h x (by simp) y (by simp) (p ++ [P.length]) T hx
      have e2 : putT T (p ++ [P.length]) y = putT T p (.node l (P ++ (y :: a ++ S))) := by
        rw [putT_app _ _ _ _ hT]
        simp [putT]
      rw [e2] at h1
      have hT2 := sub_putT p T (.node l (P ++ (y :: a ++ S))) hT
      have ih := wk_leads (e := e) (p := p) (l := l) (S := S) a b (P ++ [y]) (putT T p (.node l (P ++ (y :: a ++ S)))) (by rw [hT2]; simp) (fun u hu v hv => h u (by simp [hu]) v (by simp [hv]))
      rw [putT_putT _ _ _ _ hT, List.length_append, List.length_singleton] at ih
      have e1 : P ++ [y] ++ (b ++ S) = P ++ (y :: b ++ S) := by simp
      rw [e1] at ih
      exact h1.append ih
    · split
      · rename_i hm
        rw [hm, Nat.add_comm (alD dist a (y :: b))]
        have hT2 := sub_putT p T (.node l (P ++ (a ++ S))) hT
        have ih := wk_leads (e := e) (p := p) (l := l) (S := S) a (y :: b) P (putT T p (.node l (P ++ (a ++ S)))) hT2 (fun u hu v hv => h u (by simp [hu]) v hv)
        rw [putT_putT _ _ _ _ hT] at ih
        exact leads_del (b := y :: b) hT ih
      · rename_i hm1 hm2
        have hc := alD_cons dist x y a b
        have hc2 : alD dist (x :: a) (y :: b) = y.size + alD dist (x :: a) b := by omega
        rw [hc2]
        have hT2 := sub_putT p T (.node l (P ++ (y :: (x :: a ++ S)))) hT
        have ih := wk_leads (e := e) (p := p) (l := l) (S := S) (x :: a) b (P ++ [y]) (putT T p (.node l (P ++ (y :: (x :: a ++ S))))) (by rw [hT2]; simp) (fun u hu v hv => h u hu v (by simp [hv]))
        rw [putT_putT _ _ _ _ hT, List.length_append, List.length_singleton] at ih
        have e1 : P ++ [y] ++ (b ++ S) = P ++ (y :: b ++ S) := by simp
        rw [e1] at ih
        exact leads_ins hT ih
termination_by a b => a.length + b.length
theorem edT_leads' (n : Nat) : ∀ (x y : Tr) (p : Path) (T : Tr), x.size ≤ n → sub T p = some x → Leads T (edI (edT x y p)) (putT T p y) (dist x y) := by
  induction n with
  | zero => intro x y p T h; have := x.size_pos; omega
  | succ n ih =>
    intro x y p T h hT
    rw [edT_eq, dist_eq]
    split
    · rename_i e
      subst e
      rw [putT_same _ _ hT]
      exact Leads.nil T
    · split
      · have hst := step_rep (t := T) (e := Ed.i ⟨3, p, y⟩) (s := x) rfl (by show subI T (p.map Int.ofNat) = _; rw [subI_nat, hT])
        have e2 : (Ed.i ⟨3, p, y⟩).path.map Int.toNat = p := nat_path p
        rw [e2] at hst
        refine Leads.cons hst (Leads.nil _) ?_
        unfold stepCost
        rw [if_neg (show ¬ (Ed.i ⟨3, p, y⟩).op = 2 from (show ¬ (3 : Int) = 2 from by decide)), if_neg (show ¬ (Ed.i ⟨3, p, y⟩).op = 1 from (show ¬ (3 : Int) = 1 from by decide))]
        simp only [Ed.i]
        omega
      · rename_i hl
        obtain ⟨s, h1, h2⟩ := mid_split x.kids y.kids
        have hf := fro_le x.kids y.kids
        have hPl : (x.kids.take (fro x.kids y.kids)).length = fro x.kids y.kids := by simp; omega
        have hx : x = .node x.lab (x.kids.take (fro x.kids y.kids) ++ (midA x.kids y.kids ++ s)) := by
          rw [← h1]; cases x; rfl
        have hy : y = .node x.lab (x.kids.take (fro x.kids y.kids) ++ (midB x.kids y.kids ++ s)) := by
          rw [← h2, Classical.not_not.1 hl]; cases y; rfl
        have hw := wk_leads (e := edT) (p := p) (l := x.lab) (S := s) (midA x.kids y.kids) (midB x.kids y.kids) (x.kids.take (fro x.kids y.kids)) T (by rw [hT]; exact congrArg some hx) (fun u hu v _ q U hU => ih u v q U (by have := kid_size (mem_mid hu); omega) hU)
        rw [hPl, ← hy] at hw
        exact hw
/-- The program's edits lead from a to b at the cost of their distance. -/
theorem edT_leads (a b : Tr) : applyI a (edI (edT a b [])) = .inr b ∧ costI a (edI (edT a b [])) = dR a b := by
  have h := edT_leads' a.size a b [] a (Nat.le_refl _) (by cases a; rfl)
  rw [dist_dR] at h
  have e : putT a [] b = b := by cases a; rfl
  rw [e] at h
  exact h
end Go.Proofs.YtaomdfcplamenaaGreatDoor.K

namespace Go.Proofs.YtaomdfcplamenaaGreatDoor.K
open Go Go.RowKit Go.Proofs

mutual
/-- The nodes that have kids. -/
def Tr.inn : Tr → List Tr
  | .node l ks => (if ks = [] then [] else [.node l ks]) ++ Tr.inns ks
def Tr.inns : List Tr → List Tr
  | [] => []
  | t :: r => t.inn ++ Tr.inns r
end
mutual
/-- All labels are among the seven. -/
def Tr.l7 : Tr → Prop
  | .node l ks => l ∈ labels7 ∧ Tr.l7s ks
def Tr.l7s : List Tr → Prop
  | [] => True
  | t :: r => t.l7 ∧ Tr.l7s r
end
theorem l7s_iff : ∀ {ks : List Tr}, Tr.l7s ks ↔ ∀ k ∈ ks, k.l7
  | [] => by simp [Tr.l7s]
  | t :: r => by simp only [Tr.l7s, l7s_iff (ks := r), List.mem_cons, forall_eq_or_imp]
theorem mem_inns {x : Tr} : ∀ {ks : List Tr}, x ∈ Tr.inns ks ↔ ∃ k ∈ ks, x ∈ k.inn
  | [] => by simp [Tr.inns]
  | t :: r => by simp only [Tr.inns, List.mem_append, mem_inns (ks := r), List.mem_cons, exists_eq_or_imp]
theorem inns_append : ∀ (a b : List Tr), Tr.inns (a ++ b) = Tr.inns a ++ Tr.inns b
  | [], b => by simp [Tr.inns]
  | t :: r, b => by simp only [List.cons_append, Tr.inns, inns_append r b, List.append_assoc]
def leaves7 : List Tr := labels7.map fun l => .node l []
theorem inn_self {t : Tr} (h : t.l7) : t ∈ leaves7 ∨ t ∈ t.inn := by
  obtain ⟨l, ks⟩ := t
  simp only [Tr.l7] at h
  by_cases hk : ks = []
  · subst hk; exact .inl (List.mem_map.2 ⟨l, h.1, rfl⟩)
  · exact .inr (by simp [Tr.inn, hk])
theorem inn_kid (n : Nat) : ∀ t : Tr, t.size ≤ n → t.l7 → ∀ x ∈ t.inn, x.lab ∈ labels7 ∧ ∀ k ∈ x.kids, k ∈ leaves7 ∨ k ∈ t.inn := by
  induction n with
  | zero => intro t h; have := t.size_pos; omega
  | succ n ih =>
    rintro ⟨l, ks⟩ hn h7 x hx
    have h8 := h7
    simp only [Tr.l7] at h8
    simp only [Tr.inn, List.mem_append] at hx ⊢
    rcases hx with hx | hx
    · split at hx
      · simp at hx
      · simp at hx; subst hx
        refine ⟨h8.1, fun k hk => ?_⟩
        rcases inn_self (l7s_iff.1 h8.2 k hk) with h | h
        · exact .inl h
        · exact .inr (.inr (mem_inns.2 ⟨k, hk, h⟩))
    · obtain ⟨k, hk, hx⟩ := mem_inns.1 hx
      have := ih k (by have := Tr.size_kid hk hn; omega) (l7s_iff.1 h8.2 k hk) x hx
      refine ⟨this.1, fun c hc => ?_⟩
      rcases this.2 c hc with h | h
      · exact .inl h
      · exact .inr (.inr (mem_inns.2 ⟨k, hk, h⟩))
theorem leaves7_ok : ∀ x ∈ leaves7, x.lab.size ≤ 1000000 ∧ x.kids = [] := by
  intro x hx
  obtain ⟨l, hl, rfl⟩ := List.mem_map.1 hx
  have h : ∀ l ∈ labels7, l.size ≤ 1000000 := by decide
  exact ⟨h l hl, rfl⟩
theorem labels7_ok : ∀ l ∈ labels7, l.size ≤ 1000000 := by decide
theorem uni7 {a b : Tr} (ha : a.l7) (hb : b.l7) (h : a.inn.length + b.inn.length ≤ 93) : Uni (leaves7 ++ (a.inn ++ b.inn)) := by
  have ka := inn_kid a.size a (Nat.le_refl _) ha
  have kb := inn_kid b.size b (Nat.le_refl _) hb
  refine ⟨?_, fun x hx k hk => ?_, fun x hx => ?_⟩
  · have h7 : leaves7.length = 7 := rfl
    simp only [List.length_append]
    omega
  · rcases List.mem_append.1 hx with hx | hx
    · rw [(leaves7_ok x hx).2] at hk; cases hk
    · rcases List.mem_append.1 hx with hx | hx
      · rcases (ka x hx).2 k hk with h | h
        · exact List.mem_append_left _ h
        · exact List.mem_append_right _ (List.mem_append_left _ h)
      · rcases (kb x hx).2 k hk with h | h
        · exact List.mem_append_left _ h
        · exact List.mem_append_right _ (List.mem_append_right _ h)
  · rcases List.mem_append.1 hx with hx | hx
    · exact (leaves7_ok x hx).1
    · rcases List.mem_append.1 hx with hx | hx
      · exact labels7_ok _ (ka x hx).1
      · exact labels7_ok _ (kb x hx).1
/-! the edits' bounds -/
theorem wk_bd {e : Tr → Tr → Path → List Ed} {p : Path} {K B : Nat} (hp : p.length + 1 ≤ K) (hB : 1 ≤ B) : ∀ (a b : List Tr) (q : Nat), (∀ y ∈ b, y.size ≤ B) → (∀ x ∈ a, ∀ y ∈ b, ∀ q', ∀ f ∈ e x y (p ++ [q']), f.path.length ≤ K ∧ f.tree.size ≤ B) →
    ∀ f ∈ wk e p a b q, f.path.length ≤ K ∧ f.tree.size ≤ B
  | [], [], q, _, _ => by rw [wk_nn]; simp
  | x :: a, [], q, hb, h => by
    rw [wk_cn]
    intro f hf
    rcases List.mem_cons.1 hf with rfl | hf
    · exact ⟨by simp; omega, by show Tr.zero.size ≤ B; exact hB⟩
    · exact wk_bd hp hB a [] q hb (fun x _ y hy => by cases hy) f hf
  | [], y :: b, q, hb, h => by
    rw [wk_nc]
    intro f hf
    rcases List.mem_cons.1 hf with rfl | hf
    · exact ⟨by simp; omega, hb y (by simp)⟩
    · exact wk_bd hp hB [] b (q + 1) (fun y hy => hb y (by simp [hy])) (fun x hx => by cases hx) f hf
  | x :: a, y :: b, q, hb, h => by
    rw [wk_cc]
    split
    · intro f hf
      rcases List.mem_append.1 hf with hf | hf
      · exact h x (by simp) y (by simp) q f hf
      · exact wk_bd hp hB a b (q + 1) (fun y hy => hb y (by simp [hy])) (fun u hu v hv => h u (by simp [hu]) v (by simp [hv])) f hf
    · split
      · intro f hf
        rcases List.mem_cons.1 hf with rfl | hf
        · exact ⟨by simp; omega, by show Tr.zero.size ≤ B; exact hB⟩
        · exact wk_bd hp hB a (y :: b) q hb (fun u hu v hv => h u (by simp [hu]) v hv) f hf
      · intro f hf
        rcases List.mem_cons.1 hf with rfl | hf
        · exact ⟨by simp; omega, hb y (by simp)⟩
        · exact wk_bd hp hB (x :: a) b (q + 1) (fun y hy => hb y (by simp [hy])) (fun u hu v hv => h u hu v (by simp [hv])) f hf
termination_by a b => a.length + b.length
theorem edT_bd (n : Nat) : ∀ (x y : Tr) (p : Path), x.size ≤ n → ∀ f ∈ edT x y p, f.path.length ≤ p.length + n ∧ f.tree.size ≤ y.size := by
  induction n with
  | zero => intro x y p h; have := x.size_pos; omega
  | succ n ih =>
    intro x y p h
    rw [edT_eq]
    split
    · simp
    · split
      · intro f hf
        simp at hf; subst hf
        exact ⟨by simp only; omega, Nat.le_refl _⟩
      · refine wk_bd (by omega) y.size_pos _ _ _ (fun v hv => ?_) (fun u hu v hv q' f hf => ?_)
        · have := kid_size (mem_mid hv); omega
        · have h1 := kid_size (mem_mid hu)
          have h2 := kid_size (mem_mid hv)
          have := ih u v (p ++ [q']) (by omega) f hf
          simp only [List.length_append, List.length_singleton] at this
          omega
theorem edI_bd (x y : Tr) : (∀ e ∈ edI (edT x y []), e.path.length ≤ x.size ∧ e.tree.size ≤ y.size) ∧ (edI (edT x y [])).length ≤ x.size + y.size := by
  refine ⟨fun e he => ?_, ?_⟩
  · obtain ⟨f, hf, rfl⟩ := List.mem_map.1 he
    have := edT_bd x.size x y [] (Nat.le_refl _) f hf
    simp only [Ed.i, List.length_map]
    simpa using this
  · unfold edI
    rw [List.length_map]
    exact edT_len _ _ _ _ (Nat.le_refl _)
theorem law_diff {a b : Tr} (ha : a.l7) (hb : b.l7) (hi : a.inn.length + b.inn.length ≤ 93) (hsz : a.size + b.size ≤ 1000000) {w0 : World} {H : Hp} {own : List Seg} {a0 a1 b0 b1 : Value} (hta : RdL H a.d [a0, a1]) (htb : RdL H b.d [b0, b1]) :
    Fn Tryz.prog 13 [.agg #[a0, a1], .agg #[b0, b1]] w0 H own (fun r own' H' => rd H' (.s 4 (eiD (edI (edT a b [])))) r ∧ own' = own ∧ Le H H') := by
  refine (Diff_n (uni7 ha hb hi) ?_ ?_ hsz hta htb).mono fun r o H' h => ?_
  · rcases inn_self ha with h | h
    · exact List.mem_append_left _ h
    · exact List.mem_append_right _ (List.mem_append_left _ h)
  · rcases inn_self hb with h | h
    · exact List.mem_append_left _ h
    · exact List.mem_append_right _ (List.mem_append_right _ h)
  · unfold edI
    rw [eiD_of]
    exact h
/-! the made trees -/
theorem labelP_mem {x : Int} (h : x.toNat < 7) : labelP x ∈ labels7 := by
  unfold labelP
  rw [List.getD_eq_getElem?_getD, List.getElem?_eq_getElem (show x.toNat < labels7.length from h)]
  exact List.getElem_mem _
theorem take7 (l : List Int) (a : Nat) : labelP (takeV l a 7) ∈ labels7 := by
  have := takeV_bd (l := l) (at_ := a) (n := 7) (by omega)
  exact labelP_mem (by omega)
theorem growK_l7 {f : Nat → Tr × Nat} (hf : ∀ a, (f a).1.l7) (at_ : Nat) : ∀ n, ∀ k ∈ (growK f n at_).1, k.l7
  | 0 => by simp [growK]
  | n + 1 => by
    intro k hk
    simp only [growK, List.mem_append, List.mem_singleton] at hk
    rcases hk with hk | rfl
    · exact growK_l7 hf at_ n k hk
    · exact hf _
theorem growT_l7 (l : List Int) : ∀ (d at_ : Nat), (growT l d at_).1.l7
  | 0, at_ => by simp only [growT, Tr.l7, Tr.l7s, and_true]; exact take7 _ _
  | d + 1, at_ => by
    simp only [growT, Tr.l7]
    exact ⟨take7 _ _, l7s_iff.2 (growK_l7 (growT_l7 l d) _ _)⟩
theorem growK_inn {f : Nat → Tr × Nat} {b : Nat} (hf : ∀ a, (f a).1.inn.length ≤ b) (at_ : Nat) : ∀ n, (Tr.inns (growK f n at_).1).length ≤ n * b
  | 0 => by simp [growK, Tr.inns]
  | n + 1 => by
    have h1 := growK_inn hf at_ n
    have h2 := hf (growK f n at_).2
    simp only [growK, inns_append, Tr.inns, List.append_nil, List.length_append, Nat.add_mul, Nat.one_mul]; omega
/-- Inner nodes of a grown tree of that depth. -/
def innB : Nat → Nat
  | 0 => 0
  | d + 1 => 1 + 3 * innB d
theorem growT_inn (l : List Int) : ∀ (d at_ : Nat), (growT l d at_).1.inn.length ≤ innB d
  | 0, at_ => by simp [growT, Tr.inn, Tr.inns]
  | d + 1, at_ => by
    have h1 := (takeV_bd (l := l) (at_ := at_ + 1) (n := 4) (by omega)).2
    have h2 := growK_inn (growT_inn l d) (at_ + 2) (takeV l (at_ + 1) 4).toNat
    have h4 := Nat.mul_le_mul_right (innB d) (show (takeV l (at_ + 1) 4).toNat ≤ 3 by omega)
    simp only [growT, Tr.inn, List.length_append, innB]
    split <;> simp <;> omega
theorem madeT_l7 (l : List Int) : (madeT l).l7 := growT_l7 l 3 0
theorem madeT_inn (l : List Int) : (madeT l).inn.length ≤ 13 := growT_inn l 3 0
end Go.Proofs.YtaomdfcplamenaaGreatDoor.K

namespace Go.Proofs.YtaomdfcplamenaaGreatDoor.K
open Go Go.RowKit Go.Proofs

end Go.Proofs.YtaomdfcplamenaaGreatDoor.K

namespace Go.Proofs.YtaomdfcplamenaaGreatDoor.K
open Go Go.RowKit Go.Proofs

section
variable {es : List Ei} {t : Tr} {w0 : World} {H : Hp} {own : List Seg} {a0 a1 ve : Value}
theorem rApply_ok {u : Tr} (hs : applyI t es = .inr u) (hpl : ∀ e ∈ es, e.path.length ≤ 1000000) (hsz : t.size + treesI es ≤ 1000000) (hel : es.length ≤ 1000000) (ht : RdL H t.d [a0, a1]) (hve : rd H (.s 4 (eiD es)) ve) :
    Fn Tryz.prog 12 [.agg #[a0, a1], ve] w0 H own (fun r o H' => (∃ d0 d1, r = .tuple #[.agg #[d0, d1], .int .i64 (costI t es : Int), .int .i64 0] ∧ RdL H' u.d [d0, d1]) ∧ o = own ∧ Le H H') :=
  (ref_Apply hpl hsz hel ht hve).mono fun r o H' h => by
    obtain ⟨⟨c', h1, h2⟩ | ⟨u', d0, d1, h1, h2, h5⟩, h3, h4⟩ := h
    · rw [hs] at h1; cases h1
    · rw [hs] at h1; cases h1; exact ⟨⟨d0, d1, h2, h5⟩, h3, h4⟩
end
end Go.Proofs.YtaomdfcplamenaaGreatDoor.K

namespace Go.Proofs.YtaomdfcplamenaaGreatDoor.K
open Go Go.RowKit Go.Proofs

/-- One row of the reference's table. -/
def rowV (f : Nat → Nat) (n : Nat) : List Value := (List.range n).map fun j => .int .i64 (f j : Int)
theorem rowV_len (f : Nat → Nat) (n : Nat) : (rowV f n).length = n := by simp [rowV]
theorem rowV_get {f : Nat → Nat} {n j : Nat} (h : j < n) : (rowV f n)[j]? = some (.int .i64 (f j : Int)) := by
  simp [rowV, h]
theorem rowV_succ {f : Nat → Nat} {n : Nat} {z : Int} (h : z = (f n : Int)) : rowV f n ++ [.int .i64 z] = rowV f (n + 1) := by
  simp [rowV, List.range_succ, h]
theorem row_rd {H : Hp} {f : Nat → Nat} {n m c b o j : Nat} (h : rd H (.s 1 ((rowV f n).map D.c)) (.slice (some ⟨b, o, none⟩) m c)) (hj : j < n) : cel H b (o + j * 1) = some (.int .i64 (f j : Int)) := by
  obtain ⟨b', o', he, hc⟩ := vals_at h (rowV_get hj)
  injection he with he
  injection he with h1 h2 h3
  subst h1 h2
  exact hc
theorem row_own {f : Nat → Nat} {n j : Nat} {cur : Array Value} (h : cur.toList.take (n * 1) = rowV f n) (hj : j < n) : lget cur.toList (0 + j * 1) = some (.int .i64 (f j : Int)) := by
  have h1 := rowV_get (f := f) hj
  rw [← h, List.getElem?_take, if_pos (by omega)] at h1
  rw [lget_eq, Nat.zero_add, Nat.mul_one]
  exact h1
theorem row_sl {H : Hp} {f : Nat → Nat} {n : Nat} {v : Value} (h : rd H (.s 1 ((rowV f n).map D.c)) v) (hn : 0 < n) : ∃ b o c, v = .slice (some ⟨b, o, none⟩) n c := by
  obtain ⟨A, c, rfl, _, _⟩ := vals_len h
  obtain ⟨b, o, rfl, _⟩ := vals_at h (rowV_get hn)
  exact ⟨b, o, c, by rw [rowV_len]⟩
theorem Row.toV {f : Nat → Nat} {n : Nat} {v : Value} {seg : Seg} {z : Int} (h : Row 3 1 v (n + 1) (rowV f n ++ [.int .i64 z]) seg) (hz : z = (f n : Int)) : Row 3 1 v (n + 1) (rowV f (n + 1)) seg := by
  rw [← rowV_succ hz]; exact h
/-- The reference's table. -/
def tabR (a b : List Tr) (k j : Nat) : Nat := alD dR (a.take k) (b.take j)
theorem tabR_le (a b : List Tr) (k j : Nat) : tabR a b k j ≤ Tr.sizes a + Tr.sizes b := by
  have h1 := alD_le dR (a.take k) (b.take j)
  have h2 := Tr.sizes_take_le a k
  have h3 := Tr.sizes_take_le b j
  unfold tabR
  omega
theorem tabR_0 (a b : List Tr) (k : Nat) : tabR a b k 0 = Tr.sizes (a.take k) := by
  unfold tabR
  rw [List.take_zero, alD_nil2]
theorem tabR_00 (a b : List Tr) : tabR a b 0 0 = 0 := by rw [tabR_0]; simp [Tr.sizes]
theorem tabR_row0 {a b : List Tr} {j : Nat} {y : Tr} (hy : b[j]? = some y) : tabR a b 0 (j + 1) = tabR a b 0 j + y.size := by
  unfold tabR
  rw [List.take_zero, alD_nil, alD_nil, Tr.sizes_take b j y hy]
theorem tabR_col {a b : List Tr} {k : Nat} {x : Tr} (hx : a[k]? = some x) : tabR a b (k + 1) 0 = tabR a b k 0 + x.size := by
  rw [tabR_0, tabR_0, Tr.sizes_take a k x hx]
theorem tabR_step {a b : List Tr} {k j : Nat} {x y : Tr} (hx : a[k]? = some x) (hy : b[j]? = some y) :
    tabR a b (k + 1) (j + 1) = min (min (tabR a b k j + dR x y) (tabR a b k (j + 1) + x.size)) (tabR a b (k + 1) j + y.size) := by
  unfold tabR
  rw [List.take_add_one (i := k), hx, List.take_add_one (i := j), hy]
  exact alD_snoc x y _ _
theorem tabR_end (l : ByteArray) (a b : List Tr) : tabR a b a.length b.length = dR (.node l a) (.node l b) := by
  unfold tabR
  rw [List.take_length, List.take_length, dR_eq]
  simp [Tr.lab, Tr.kids]
theorem dist_lab {la lb : ByteArray} {a b : List Tr} (h : la ≠ lb) : Value.int .i64 (((Tr.node la a).size : Int) + ((Tr.node lb b).size : Int)) = .int .i64 (dR (.node la a) (.node lb b) : Int) := by
  rw [dR_eq, if_pos (by simpa [Tr.lab] using h), Int.natCast_add]
theorem dist_end {la lb : ByteArray} {a b : List Tr} (h : la = lb) : Value.int .i64 (tabR a b a.length b.length : Int) = .int .i64 (dR (.node la a) (.node lb b) : Int) := by
  rw [h, ← tabR_end]
end Go.Proofs.YtaomdfcplamenaaGreatDoor.K

namespace Go.Proofs.YtaomdfcplamenaaGreatDoor.K
open Go Go.RowKit Go.Proofs

theorem ref_Distance (k : Nat) : ∀ (a b : Tr), a.size ≤ k → k ≤ 1000000 → b.size ≤ 1000000 → ∀ {w0 : World} {H : Hp} {own : List Seg} {a0 a1 b0 b1 : Value}, RdL H a.d [a0, a1] → RdL H b.d [b0, b1] →
    Fn Tryz.prog 15 [.agg #[a0, a1], .agg #[b0, b1]] w0 H own (fun r own' H' => r = .int .i64 (dR a b : Int) ∧ own' = own ∧ Le H H') := by
  induction k with
  | zero => intro a b h; have := a.size_pos; omega
  | succ k ih =>
    rintro ⟨la, ks⟩ ⟨lb, js⟩ hk hlim hbl w0 H own a0 a1 b0 b1 hta htb
    obtain ⟨rfl, A, c, rfl, hc1, hc2, hA⟩ := tr_cells hta
    obtain ⟨rfl, B, d, rfl, hd1, hd2, hB⟩ := tr_cells htb
    have has : ks.length ≤ 1000000 := by have := Tr.len_le ks; simp only [Tr.size] at hk; omega
    have hbs : js.length ≤ 1000000 := by have := Tr.len_le js; simp only [Tr.size] at hbl; omega
    have hsa : Tr.sizes ks ≤ 1000000 := by simp only [Tr.size] at hk; omega
    have hsb : Tr.sizes js ≤ 1000000 := by simp only [Tr.size] at hbl; omega
    refine Fn.enter Tryz.func15 rfl Tryz.ntmps15 rfl ?_; have hL := Le.refl H; refine TC.seq ?_; refine TC.region ?_
    refine TL.box (c := #[_, _]) rfl rfl rfl ?_; intro g2
    refine TL.box (c := #[_, _]) rfl rfl rfl ?_; intro g3; refine TL.assign rfl rfl ?_; refine TL.nil ?_; refine TQ.then_n ?_; refine TC.seq ?_; refine TC.seq ?_; refine TC.region ?_; refine TL.fieldAddr rfl rfl ?_; refine TL.load_own 1 0 rfl rfl rfl rfl rfl ?_; refine TL.fieldAddr rfl rfl ?_; refine TL.load_own 0 0 rfl rfl rfl rfl rfl ?_
    refine TL.neqSB rfl rfl rfl (fun hl => ?_) (fun hl => ?_)
    ·
     refine TL.nil ?_; refine TQ.then_n ?_; refine TC.cond_t rfl ?_; refine TC.seq ?_; refine TC.drawQV 3  [(0, _), (1, _), (2, _), (3, _), (4, _)] follows_mixed ⟨rfl, rfl, rfl, rfl, rfl, trivial⟩ ?_
     refine ChainV.q (some 17) [] (by
      intro H' X F hle; have hL := Le.trans hL hle; intro hF; refine TL.load_ownA 1 0 [_, _] rfl rfl rfl ⟨rfl, rfl, trivial⟩ rfl rfl ?_
      exact TL.one hF) ?_
     refine ChainV.q (some 18) [(0, 0)] (by
      intro H' X F hle; have hL := Le.trans hL hle; have hta := RdL.mono hle hta; intro hF; refine TL.call (ref_Count _ (Tr.node la ks) (Nat.le_refl _) (by omega) hta) ⟨rfl, trivial⟩ rfl ?_
      rintro _ own Hn18 ⟨rfl, rfl, hlen18⟩
      have hL := Le.trans hL hlen18; refine TL.nil ?_
      exact TQ.one [] hF hlen18 ⟨rfl, rfl⟩) ?_
     refine ChainV.q (some 19) [] (by
      intro H' X F hle; have hL := Le.trans hL hle; intro hF; refine TL.load_ownA 0 0 [_, _] rfl rfl rfl ⟨rfl, rfl, trivial⟩ rfl rfl ?_
      exact TL.one hF) ?_
     refine ⟨by kernel_rfl, .refl _, ?_⟩
     ·
      intro H1 hle; have hL := Le.trans hL hle; have htb := RdL.mono hle htb; refine TL.toOwn (own' := _ :: _ :: own) rfl ?_; refine TL.wk (env' := [(0, _), (1, _), (2, _), (3, _), (4, _), (18, _), (19, _)]) ⟨rfl, rfl, rfl, rfl, rfl, rfl, rfl, trivial⟩ ?_; refine TL.call (ref_Count _ (Tr.node lb js) (Nat.le_refl _) (by omega) htb) ⟨rfl, trivial⟩ rfl ?_
      rintro _ own Hn20 ⟨rfl, rfl, hlen20⟩
      have hL := Le.trans hL hlen20; refine TL.add rfl rfl rfl ⟨by omega, by omega⟩ ?_; refine TL.assign rfl rfl ?_; refine TL.nil ?_; refine TQ.then_n ?_; refine TC.ret ?_; refine TQ.then_r ?_; refine TQ.ret1 2 rfl rfl ?_
      refine ⟨?_, rfl, hL⟩
      first
        | exact dist_lab hl
        | exact dist_end hl
    ·
     refine TL.nil ?_; refine TQ.then_n ?_; refine TC.cond_f rfl ?_; refine TC.skip ?_; refine TQ.nsr ?_; refine TL.assign rfl rfl ?_; refine TL.nil ?_; refine TQ.then_n ?_; refine TC.seq ?_; refine TC.nilseg ?_; refine TC.region ?_; refine TL.move rfl rfl ?_
     refine TL.litF (r := [_]) [(0, [_])] ⟨rfl, ⟨_, rfl, rfl⟩, trivial⟩ rfl rfl rfl rfl ?_; intro g23; refine TL.append 1 rfl rfl rfl (Row.nil 3 1) (Src.ofOwn 0 0 rfl rfl rfl (Ones.all (show Ones [_] from ⟨by rfl, trivial⟩)) ⟨rfl, trivial⟩) (by omega) (by omega) rfl ?_; intro v5 seg5 hrow0; refine TL.assign rfl rfl ?_; refine TL.nil ?_; refine TQ.then_n ?_; refine TC.seq ?_; refine TC.seq ?_; refine TC.region ?_; refine TL.assign rfl rfl ?_; refine TL.nil ?_; refine TQ.then_n ?_; refine TC.block ?_
     refine TC.sel 4 [1, 2, 3] rfl (fun o ho => ?_)
     simp only [K.sel, List.map_cons, List.map_nil, List.getD_cons_zero, List.getD_cons_succ, List.drop_succ_cons, List.drop_zero, List.cons_append, List.nil_append, List.set_cons_zero, List.set_cons_succ] at ho; subst ho
     refine TC.loop (fun n env' own' H' => ∃ i u seg, n = js.length - i ∧ i ≤ js.length ∧ Row 3 1 u (i + 1) (rowV (tabR ks js 0) (i + 1)) seg ∧ env' = [(2, .pointer (some ⟨g2, 0, none⟩)), (3, .pointer (some ⟨g3, 0, none⟩)), (5, u), (6, .int .i64 (i : Int))] ∧ own' = seg :: [(g3, .cells #[.string lb, .slice B js.length d] 26 (0, 0))] :: [(g2, .cells #[.string la, .slice A ks.length c] 26 (0, 0))] :: own ∧ Le H H') js.length [(2, _), (3, _), (5, _), (6, _)] ⟨rfl, rfl, rfl, rfl, trivial⟩ ⟨0, v5, seg5, by omega, by omega, by rw [show rowV (tabR ks js 0) (0 + 1) = [.int .i64 0] from by simp [rowV, tabR_00]]; exact hrow0, by simp, rfl, Le.refl _⟩ ?_
     rintro n _ _ H1 ⟨i, u, seg, rfl, hi1, hrow, rfl, rfl, hle0⟩
     have hf0 := tabR_le ks js 0 i; have hL := Le.trans hL hle0; have hA := rd.mono hle0 hA; have hB := rd.mono hle0 hB; refine TC.seq ?_; refine TC.seq ?_; refine TC.region ?_; refine TL.move rfl rfl ?_; refine TL.fieldAddr rfl rfl ?_; refine TL.load_own 1 0 rfl rfl rfl rfl rfl ?_; refine TL.len_slice rfl rfl ?_
     refine TL.lssB rfl rfl rfl (fun hlt => ?_) (fun hlt => ?_)
     ·
      obtain ⟨y, hy⟩ : ∃ y, js[i]? = some y := ⟨_, List.getElem?_eq_getElem (by omega)⟩
      have hys := Tr.size_mem (List.mem_of_getElem? hy)
      obtain ⟨b2, o2, q0, q1, rfl, hpy, hpry⟩ := trs_at hB hy
      obtain ⟨A5, c5, rfl, hc5, hc5'⟩ := hrow.sl
      obtain ⟨g5, cur, rfl, rfl, hcs, hct, hcl⟩ := hrow.blk (by omega)
      
      refine TL.nil ?_; refine TQ.then_n ?_; refine TC.cond_t rfl ?_; refine TC.skip ?_; refine TQ.then_n ?_; refine TC.seq ?_; refine TC.block ?_; refine TC.drawQV 13  [(2, _), (3, _), (5, _), (6, _)] follows_mixed ⟨rfl, rfl, rfl, rfl, trivial⟩ ?_; refine ChainV.q (some 32) [] (fun _ _ _ _ hF => TL.move rfl rfl (TL.one hF)) ?_; refine ChainV.q (some 33) [] (fun _ _ _ _ hF => TL.move rfl rfl (TL.one hF)) ?_; refine ChainV.q (some 34) [] (fun _ _ _ _ hF => TL.move rfl rfl (TL.one hF)) ?_; refine ChainV.q (some 35) [(1, 1), (2, 0)] (fun _ _ _ _ hF => TL.indexAddr (i) rfl rfl rfl (by omega) rfl (TL.one hF)) ?_
      refine ChainV.q (some 36) [(3, 0)] (by
       intro H' X F hle; have hL := Le.trans hL hle; intro hF; refine TL.load_own 0 0 rfl rfl rfl (row_own (n := i + 1) (j := i) hct (by omega)) rfl ?_
       exact TL.one hF) ?_
      refine ChainV.q (some 37) [] (fun _ _ _ _ hF => TL.fieldAddr rfl rfl (TL.one hF)) ?_
      refine ChainV.q (some 38) [(5, 0)] (by
       intro H' X F hle; have hL := Le.trans hL hle; intro hF; refine TL.load_own 1 0 rfl rfl rfl rfl rfl ?_
       exact TL.one hF) ?_
      refine ChainV.q (some 39) [] (fun _ _ _ _ hF => TL.move rfl rfl (TL.one hF)) ?_; refine ChainV.q (some 40) [(6, 1), (7, 0)] (fun _ _ _ _ hF => TL.indexAddr (i) rfl rfl rfl (by omega) rfl (TL.one hF)) ?_
      refine ChainV.q (some 41) [(8, 0)] (by
       intro H' X F hle; have hL := Le.trans hL hle; have hpy := hAt.mono hle hpy; intro hF; refine TL.load_immA rfl (hpy) rfl rfl ?_
       exact TL.one hF) ?_
      refine ChainV.q (some 42) [(9, 0)] (by
       intro H' X F hle; have hL := Le.trans hL hle; have hpry := RdL.mono hle hpry; intro hF; refine TL.call (ref_Count _ y (Nat.le_refl _) (by omega) hpry) ⟨rfl, trivial⟩ rfl ?_
       rintro _ own Hn42 ⟨rfl, rfl, hlen42⟩
       have hL := Le.trans hL hlen42; refine TL.nil ?_
       exact TQ.one [] hF hlen42 ⟨rfl, rfl⟩) ?_
      refine ChainV.q (some 43) [(4, 6), (10, 0)] (fun _ _ _ _ hF => TL.add rfl rfl rfl ⟨by omega, by omega⟩ (TL.one hF)) ?_
      refine ChainV.r (some 44) [(11, 0)] ([]) (fun _ => fun u s H => ∃ g, u = .slice (some ⟨g, 0, none⟩) 1 1 ∧ s = [[(g, .cells #[.int .i64 ((tabR ks js 0 i : Int) + (y.size : Int))] 3 (0, 0))]]) (by
       intro H' X F hle; have hL := Le.trans hL hle; intro hF
       refine TL.litF (r := [_]) [(0, [_])] ⟨rfl, ⟨_, rfl, rfl⟩, trivial⟩ rfl rfl rfl rfl ?_; intro g44; refine TL.nil ?_
       exact TQ.one [_] hF (Le.refl _) ⟨_, rfl, rfl⟩) ?_
      refine ⟨by kernel_rfl, .refl _, ?_⟩
      ·
       intro H2 hle
       rintro _ _ Hr hler ⟨g44, rfl, rfl⟩
       have hL := Le.trans hL hle; have hle0 := Le.trans hle0 hle; refine TL.toOwn (own' := _ :: _ :: _ :: _ :: own) rfl ?_; refine TL.wk (env' := [(2, _), (3, _), (5, _), (6, _), (32, _), (44, _)]) ⟨rfl, rfl, rfl, rfl, rfl, rfl, trivial⟩ ?_; refine TL.append 1 rfl rfl rfl hrow (Src.ofOwn 0 0 rfl rfl rfl (Ones.all (show Ones [_] from ⟨by rfl, trivial⟩)) ⟨rfl, trivial⟩) (by omega) (by omega) rfl ?_; intro v' seg' hrow'; refine TL.assign rfl rfl ?_; refine TL.nil ?_; refine TQ.in_n ?_; refine TQ.then_n ?_; refine TC.region ?_; refine TL.move rfl rfl ?_; refine TL.add rfl rfl rfl ⟨by omega, by omega⟩ ?_; refine TL.assign rfl rfl ?_; refine TL.nil ?_
       refine TQ.sel 4 [1, 2, 3] rfl (fun o ho => ?_)
       simp only [K.sel, List.map_cons, List.map_nil, List.getD_cons_zero, List.getD_cons_succ, List.drop_succ_cons, List.drop_zero, List.cons_append, List.nil_append, List.set_cons_zero, List.set_cons_succ] at ho; subst ho
       refine TQ.next (js.length - (i + 1)) [(2, _), (3, _), (5, _), (6, _)] (by omega) ⟨rfl, rfl, rfl, rfl, trivial⟩ ⟨i + 1, v', seg', rfl, by omega, Row.toV hrow' (by rw [tabR_row0 hy]; omega), by simp, rfl, hle0⟩
     ·
      have hi : i = js.length := by omega
      subst hi
      refine TL.nil ?_; refine TQ.then_n ?_; refine TC.cond_f rfl ?_; refine TC.exit ?_; refine TQ.then_e ?_; refine TQ.then_e ?_; refine TQ.in_e ?_; refine TQ.then_n ?_; refine TC.seq ?_; refine TC.seq ?_; refine TC.region ?_
      refine TL.freeze (fun H3 hle hz_row => ?_)
      have hL := Le.trans hL hle; have hA := rd.mono hle hA; have hB := rd.mono hle hB
      have hprev : rd H3 (.s 1 ((rowV (tabR ks js 0) (js.length + 1)).map D.c)) u := rd.ofRow hrow hz_row (RdL.vals _) (Le.refl _)
      refine TL.assign rfl rfl ?_; refine TL.nil ?_; refine TQ.then_n ?_; refine TC.block ?_; refine TC.loop (fun n env' own' H' => ∃ q uq, n = ks.length - q ∧ q ≤ ks.length ∧ rd H' (.s 1 ((rowV (tabR ks js q) (js.length + 1)).map D.c)) uq ∧ env' = [(2, .pointer (some ⟨g2, 0, none⟩)), (3, .pointer (some ⟨g3, 0, none⟩)), (5, uq), (7, .int .i64 (q : Int))] ∧ own' = [(g3, .cells #[.string lb, .slice B js.length d] 26 (0, 0))] :: [(g2, .cells #[.string la, .slice A ks.length c] 26 (0, 0))] :: own ∧ Le H3 H') ks.length [(2, _), (3, _), (5, _), (7, _)] ⟨rfl, rfl, rfl, rfl, trivial⟩ ⟨0, u, by omega, by omega, hprev, by simp, rfl, Le.refl _⟩ ?_
      rintro n _ _ H3 ⟨q, uq, rfl, hq1, hprev, rfl, rfl, hle9⟩
      obtain ⟨bP, oP, cP, rfl⟩ := row_sl hprev (by omega)
      have hL := Le.trans hL hle9; have hA := rd.mono hle9 hA; have hB := rd.mono hle9 hB; refine TC.seq ?_; refine TC.seq ?_; refine TC.region ?_; refine TL.move rfl rfl ?_; refine TL.fieldAddr rfl rfl ?_; refine TL.load_own 1 0 rfl rfl rfl rfl rfl ?_; refine TL.len_slice rfl rfl ?_
      refine TL.lssB rfl rfl rfl (fun hlt2 => ?_) (fun hlt2 => ?_)
      ·
       obtain ⟨x, hx⟩ : ∃ x, ks[q]? = some x := ⟨_, List.getElem?_eq_getElem (by omega)⟩
       have hxs := Tr.size_mem (List.mem_of_getElem? hx)
       obtain ⟨b1, o1, p0, p1, rfl, hpx, hprx⟩ := trs_at hA hx
       have hf1 := tabR_le ks js q 0; refine TL.nil ?_; refine TQ.then_n ?_; refine TC.cond_t rfl ?_; refine TC.skip ?_; refine TQ.then_n ?_; refine TC.seq ?_; refine TC.block ?_; refine TC.seq ?_; refine TC.region ?_; refine TL.fieldAddr rfl rfl ?_; refine TL.load_own 1 0 rfl rfl rfl rfl rfl ?_; refine TL.move rfl rfl ?_; refine TL.indexAddr (q) rfl rfl rfl (by omega) rfl ?_; refine TL.load_immA rfl (hpx) rfl rfl ?_; refine TL.call (ref_Count _ x (Nat.le_refl _) (by omega) hprx) ⟨rfl, trivial⟩ rfl ?_
       rintro _ own Hn58 ⟨rfl, rfl, hlen58⟩
       have hL := Le.trans hL hlen58; have hB := rd.mono hlen58 hB; have hle9 := Le.trans hle9 hlen58; have hprev := rd.mono hlen58 hprev; have hpx := hAt.mono hlen58 hpx; have hprx := RdL.mono hlen58 hprx; refine TL.assign rfl rfl ?_; refine TL.nsr ?_; refine TL.move rfl rfl ?_; refine TL.indexAddr (0) rfl rfl rfl (by omega) rfl ?_; refine TL.load_imm rfl ((row_rd hprev (j := 0) (by omega))) rfl ?_; refine TL.move rfl rfl ?_; refine TL.add rfl rfl rfl ⟨by omega, by omega⟩ ?_
       refine TL.litF (r := [_]) [(0, [_])] ⟨rfl, ⟨_, rfl, rfl⟩, trivial⟩ rfl rfl rfl rfl ?_; intro g64; refine TL.assign rfl rfl ?_; refine TL.nil ?_; refine TQ.then_n ?_; refine TC.seq ?_; refine TC.seq ?_; refine TC.region ?_; refine TL.assign rfl rfl ?_; refine TL.nil ?_; refine TQ.then_n ?_; refine TC.block ?_
       refine TC.loop (fun n env' own' H' => ∃ j u9 seg9, n = js.length - j ∧ j ≤ js.length ∧ Row 3 1 u9 (j + 1) (rowV (tabR ks js (q + 1)) (j + 1)) seg9 ∧ env' = [(2, .pointer (some ⟨g2, 0, none⟩)), (3, .pointer (some ⟨g3, 0, none⟩)), (5, .slice (some ⟨bP, oP, none⟩) (js.length + 1) cP), (7, .int .i64 (q : Int)), (8, .int .i64 (x.size : Int)), (9, u9), (10, .int .i64 (j : Int))] ∧ own' = seg9 :: [(g3, .cells #[.string lb, .slice B js.length d] 26 (0, 0))] :: [(g2, .cells #[.string la, .slice (some ⟨b1, o1, none⟩) ks.length c] 26 (0, 0))] :: own ∧ Le Hn58 H') js.length [(2, _), (3, _), (5, _), (7, _), (8, _), (9, _), (10, _)] ⟨rfl, rfl, rfl, rfl, rfl, rfl, rfl, trivial⟩ ⟨0, .slice (some ⟨g64, 0, none⟩) 1 1, [(g64, .cells #[.int .i64 ((tabR ks js q 0 : Int) + (x.size : Int))] 3 (0, 0))], by omega, by omega, by rw [show rowV (tabR ks js (q + 1)) (0 + 1) = [.int .i64 ((tabR ks js q 0 : Int) + (x.size : Int))] from by simp [rowV, tabR_col hx]]; exact Row.lit 3 1 1 _ #[_] rfl (by omega), by simp, rfl, Le.refl _⟩ ?_
       rintro n _ _ H5 ⟨j, u9, seg9, rfl, hj1, hrow, rfl, rfl, hle8⟩
       have hf2 := tabR_le ks js q (j + 1)
       have hf3 := tabR_le ks js q j
       have hf4 := tabR_le ks js (q + 1) j
       have hL := Le.trans hL hle8; have hB := rd.mono hle8 hB; have hle9 := Le.trans hle9 hle8; have hprev := rd.mono hle8 hprev; have hpx := hAt.mono hle8 hpx; have hprx := RdL.mono hle8 hprx; refine TC.seq ?_; refine TC.seq ?_; refine TC.region ?_; refine TL.move rfl rfl ?_; refine TL.fieldAddr rfl rfl ?_; refine TL.load_own 1 0 rfl rfl rfl rfl rfl ?_; refine TL.len_slice rfl rfl ?_
       refine TL.lssB rfl rfl rfl (fun hlt3 => ?_) (fun hlt3 => ?_)
       ·
        obtain ⟨y, hy⟩ : ∃ y, js[j]? = some y := ⟨_, List.getElem?_eq_getElem (by omega)⟩
        have hys := Tr.size_mem (List.mem_of_getElem? hy)
        obtain ⟨b2, o2, q0, q1, rfl, hpy, hpry⟩ := trs_at hB hy
        obtain ⟨A5, c5, rfl, hc5, hc5'⟩ := hrow.sl
        obtain ⟨g5, cur, rfl, rfl, hcs, hct, hcl⟩ := hrow.blk (by omega)
        have hdl := dR_le x y; refine TL.nil ?_; refine TQ.then_n ?_; refine TC.cond_t rfl ?_; refine TC.skip ?_; refine TQ.then_n ?_; refine TC.seq ?_; refine TC.block ?_; refine TC.seq ?_; refine TC.region ?_; refine TL.move rfl rfl ?_; refine TL.move rfl rfl ?_; refine TL.add rfl rfl rfl ⟨by omega, by omega⟩ ?_; refine TL.indexAddr (j + 1) rfl rfl (by omega) (by omega) rfl ?_; refine TL.load_imm rfl ((row_rd hprev (j := j + 1) (by omega))) rfl ?_; refine TL.move rfl rfl ?_; refine TL.add rfl rfl rfl ⟨by omega, by omega⟩ ?_; refine TL.assign rfl rfl ?_; refine TL.nil ?_; refine TQ.then_n ?_; refine TC.seq ?_; refine TC.drawQV 12  [(2, _), (3, _), (5, _), (7, _), (8, _), (9, _), (10, _), (11, _)] follows_mixed ⟨rfl, rfl, rfl, rfl, rfl, rfl, rfl, rfl, trivial⟩ ?_; refine ChainV.q (some 79) [] (fun _ _ _ _ hF => TL.move rfl rfl (TL.one hF)) ?_
        refine ChainV.q (some 80) [] (fun _ _ _ _ hF => TL.move rfl rfl (TL.one hF)) ?_; refine ChainV.q (some 81) [] (fun _ _ _ _ hF => TL.move rfl rfl (TL.one hF)) ?_; refine ChainV.q (some 82) [(1, 1), (2, 0)] (fun _ _ _ _ hF => TL.indexAddr (j) rfl rfl rfl (by omega) rfl (TL.one hF)) ?_
        refine ChainV.q (some 83) [(3, 0)] (by
         intro H' X F hle; have hL := Le.trans hL hle; intro hF; refine TL.load_own 0 0 rfl rfl rfl (row_own (n := j + 1) (j := j) hct (by omega)) rfl ?_
         exact TL.one hF) ?_
        refine ChainV.q (some 84) [] (fun _ _ _ _ hF => TL.fieldAddr rfl rfl (TL.one hF)) ?_
        refine ChainV.q (some 85) [(5, 0)] (by
         intro H' X F hle; have hL := Le.trans hL hle; intro hF; refine TL.load_own 1 0 rfl rfl rfl rfl rfl ?_
         exact TL.one hF) ?_
        refine ChainV.q (some 86) [] (fun _ _ _ _ hF => TL.move rfl rfl (TL.one hF)) ?_; refine ChainV.q (some 87) [(6, 1), (7, 0)] (fun _ _ _ _ hF => TL.indexAddr (j) rfl rfl rfl (by omega) rfl (TL.one hF)) ?_
        refine ChainV.q (some 88) [(8, 0)] (by
         intro H' X F hle; have hL := Le.trans hL hle; have hpy := hAt.mono hle hpy; intro hF; refine TL.load_immA rfl (hpy) rfl rfl ?_
         exact TL.one hF) ?_
        refine ChainV.q (some 89) [(9, 0)] (by
         intro H' X F hle; have hL := Le.trans hL hle; have hpry := RdL.mono hle hpry; intro hF; refine TL.call (ref_Count _ y (Nat.le_refl _) (by omega) hpry) ⟨rfl, trivial⟩ rfl ?_
         rintro _ own Hn89 ⟨rfl, rfl, hlen89⟩
         have hL := Le.trans hL hlen89; refine TL.nil ?_
         exact TQ.one [] hF hlen89 ⟨rfl, rfl⟩) ?_
        refine ChainV.q (some 90) [(4, 6), (10, 0)] (fun _ _ _ _ hF => TL.add rfl rfl rfl ⟨by omega, by omega⟩ (TL.one hF)) ?_
        refine ⟨by kernel_rfl, .refl _, ?_⟩
        ·
         intro H4 hle; have hL := Le.trans hL hle; have hprev := rd.mono hle hprev; have hpx := hAt.mono hle hpx; have hprx := RdL.mono hle hprx; have hle8 := Le.trans hle8 hle; have hpy := hAt.mono hle hpy; have hpry := RdL.mono hle hpry; refine TL.toOwn (own' := _ :: _ :: _ :: own) rfl ?_; refine TL.wk (env' := [(2, _), (3, _), (5, _), (7, _), (8, _), (9, _), (10, _), (11, _), (79, _), (90, _)]) ⟨rfl, rfl, rfl, rfl, rfl, rfl, rfl, rfl, rfl, rfl, trivial⟩ ?_; refine TL.min2 rfl rfl rfl ?_; refine TL.assign rfl rfl ?_; refine TL.nil ?_; refine TQ.then_n ?_; refine TC.seq ?_; refine TC.drawQV 17  [(2, _), (3, _), (5, _), (7, _), (8, _), (9, _), (10, _), (11, _)] follows_mixed ⟨rfl, rfl, rfl, rfl, rfl, rfl, rfl, rfl, trivial⟩ ?_; refine ChainV.q (some 92) [] (fun _ _ _ _ hF => TL.move rfl rfl (TL.one hF)) ?_; refine ChainV.q (some 93) [] (fun _ _ _ _ hF => TL.move rfl rfl (TL.one hF)) ?_
         refine ChainV.q (some 94) [] (fun _ _ _ _ hF => TL.move rfl rfl (TL.one hF)) ?_; refine ChainV.q (some 95) [(1, 1), (2, 0)] (fun _ _ _ _ hF => TL.indexAddr (j) rfl rfl rfl (by omega) rfl (TL.one hF)) ?_
         refine ChainV.q (some 96) [(3, 0)] (by
          intro H' X F hle; have hL := Le.trans hL hle; have hprev := rd.mono hle hprev; intro hF; refine TL.load_imm rfl ((row_rd hprev (j := j) (by omega))) rfl ?_
          exact TL.one hF) ?_
         refine ChainV.q (some 97) [] (fun _ _ _ _ hF => TL.fieldAddr rfl rfl (TL.one hF)) ?_
         refine ChainV.q (some 98) [(5, 0)] (by
          intro H' X F hle; have hL := Le.trans hL hle; intro hF; refine TL.load_own 2 0 rfl rfl rfl rfl rfl ?_
          exact TL.one hF) ?_
         refine ChainV.q (some 99) [] (fun _ _ _ _ hF => TL.move rfl rfl (TL.one hF)) ?_; refine ChainV.q (some 100) [(6, 1), (7, 0)] (fun _ _ _ _ hF => TL.indexAddr (q) rfl rfl rfl (by omega) rfl (TL.one hF)) ?_
         refine ChainV.q (some 101) [(8, 0)] (by
          intro H' X F hle; have hL := Le.trans hL hle; have hpx := hAt.mono hle hpx; intro hF; refine TL.load_immA rfl (hpx) rfl rfl ?_
          exact TL.one hF) ?_
         refine ChainV.q (some 102) [] (fun _ _ _ _ hF => TL.fieldAddr rfl rfl (TL.one hF)) ?_
         refine ChainV.q (some 103) [(10, 0)] (by
          intro H' X F hle; have hL := Le.trans hL hle; intro hF; refine TL.load_own 1 0 rfl rfl rfl rfl rfl ?_
          exact TL.one hF) ?_
         refine ChainV.q (some 104) [] (fun _ _ _ _ hF => TL.move rfl rfl (TL.one hF)) ?_; refine ChainV.q (some 105) [(11, 1), (12, 0)] (fun _ _ _ _ hF => TL.indexAddr (j) rfl rfl rfl (by omega) rfl (TL.one hF)) ?_
         refine ChainV.q (some 106) [(13, 0)] (by
          intro H' X F hle; have hL := Le.trans hL hle; have hpy := hAt.mono hle hpy; intro hF; refine TL.load_immA rfl (hpy) rfl rfl ?_
          exact TL.one hF) ?_
         refine ChainV.q (some 107) [(9, 5), (14, 0)] (by
          intro H' X F hle; have hL := Le.trans hL hle; have hprx := RdL.mono hle hprx; have hpry := RdL.mono hle hpry; intro hF; refine TL.call (ih x y (Tr.size_kid (List.mem_of_getElem? hx) hk) (by omega) (by omega) hprx hpry) ⟨rfl, rfl, trivial⟩ rfl ?_
          rintro _ _ H6 ⟨rfl, rfl, hle6⟩
          have hL := Le.trans hL hle6; refine TL.nil ?_
          exact TQ.one [] hF hle6 ⟨rfl, rfl⟩) ?_
         refine ChainV.q (some 108) [(4, 11), (15, 0)] (fun _ _ _ _ hF => TL.add rfl rfl rfl ⟨by omega, by omega⟩ (TL.one hF)) ?_
         refine ⟨by kernel_rfl, .refl _, ?_⟩
         ·
          intro H5 hle; have hL := Le.trans hL hle; have hle8 := Le.trans hle8 hle; refine TL.toOwn (own' := _ :: _ :: _ :: own) rfl ?_; refine TL.wk (env' := [(2, _), (3, _), (5, _), (7, _), (8, _), (9, _), (10, _), (11, _), (92, _), (108, _)]) ⟨rfl, rfl, rfl, rfl, rfl, rfl, rfl, rfl, rfl, rfl, trivial⟩ ?_; refine TL.min2 rfl rfl rfl ?_; refine TL.assign rfl rfl ?_; refine TL.nil ?_; refine TQ.then_n ?_; refine TC.region ?_; refine TL.move rfl rfl ?_; refine TL.move rfl rfl ?_
          refine TL.litF (r := [_]) [(0, [_])] ⟨rfl, ⟨_, rfl, rfl⟩, trivial⟩ rfl rfl rfl rfl ?_; intro g112; refine TL.append 1 rfl rfl rfl hrow (Src.ofOwn 0 0 rfl rfl rfl (Ones.all (show Ones [_] from ⟨by rfl, trivial⟩)) ⟨rfl, trivial⟩) (by omega) (by omega) rfl ?_; intro v' seg' hrow'; refine TL.assign rfl rfl ?_; refine TL.nil ?_; refine TQ.in_n ?_; refine TQ.then_n ?_; refine TC.region ?_; refine TL.move rfl rfl ?_; refine TL.add rfl rfl rfl ⟨by omega, by omega⟩ ?_; refine TL.assign rfl rfl ?_; refine TL.nil ?_
          refine TQ.sel 4 [1, 2, 3] rfl (fun o ho => ?_)
          simp only [K.sel, List.map_cons, List.map_nil, List.getD_cons_zero, List.getD_cons_succ, List.drop_succ_cons, List.drop_zero, List.cons_append, List.nil_append, List.set_cons_zero, List.set_cons_succ] at ho; subst ho
          refine TQ.next (js.length - (j + 1)) [(2, _), (3, _), (5, _), (7, _), (8, _), (9, _), (10, _)] (by omega) ⟨rfl, rfl, rfl, rfl, rfl, rfl, rfl, trivial⟩ ⟨j + 1, v', seg', rfl, by omega, Row.toV hrow' (by rw [tabR_step hx hy]; omega), by simp, rfl, hle8⟩
       ·
        have hj : j = js.length := by omega
        subst hj
        refine TL.nil ?_; refine TQ.then_n ?_; refine TC.cond_f rfl ?_; refine TC.exit ?_; refine TQ.then_e ?_; refine TQ.then_e ?_; refine TQ.in_e ?_; refine TQ.then_n ?_; refine TC.region ?_
        refine TL.freeze (fun H6 hle hz_row9 => ?_)
        have hL := Le.trans hL hle; have hle9 := Le.trans hle9 hle
        have hprev2 : rd H6 (.s 1 ((rowV (tabR ks js (q + 1)) (js.length + 1)).map D.c)) u9 := rd.ofRow hrow hz_row9 (RdL.vals _) (Le.refl _)
        refine TL.move rfl rfl ?_; refine TL.assign rfl rfl ?_; refine TL.nil ?_; refine TQ.in_n ?_; refine TQ.then_n ?_; refine TC.region ?_; refine TL.move rfl rfl ?_; refine TL.add rfl rfl rfl ⟨by omega, by omega⟩ ?_; refine TL.assign rfl rfl ?_; refine TL.nil ?_; refine TQ.toOwn (own' := _ :: _ :: own) rfl ?_
        refine TQ.next (ks.length - (q + 1)) [(2, _), (3, _), (5, _), (7, _)] (by omega) ⟨rfl, rfl, rfl, rfl, trivial⟩ ⟨q + 1, u9, rfl, by omega, hprev2, by simp, rfl, hle9⟩
      ·
       have hq : q = ks.length := by omega
       subst hq
       refine TL.nil ?_; refine TQ.then_n ?_; refine TC.cond_f rfl ?_; refine TC.exit ?_; refine TQ.then_e ?_; refine TQ.then_e ?_; refine TQ.in_e ?_; refine TQ.nsr ?_; refine TL.move rfl rfl ?_; refine TL.fieldAddr rfl rfl ?_; refine TL.load_own 0 0 rfl rfl rfl rfl rfl ?_; refine TL.len_slice rfl rfl ?_; refine TL.indexAddr (js.length) rfl rfl rfl (by omega) rfl ?_; refine TL.load_imm rfl ((row_rd hprev (j := js.length) (by omega))) rfl ?_; refine TL.assign rfl rfl ?_; refine TL.nil ?_; refine TQ.then_n ?_; refine TC.ret ?_; refine TQ.ret1 2 rfl rfl ?_
       refine ⟨?_, rfl, hL⟩
       first
         | exact dist_lab hl
         | exact dist_end hl

end Go.Proofs.YtaomdfcplamenaaGreatDoor.K

namespace Go.Proofs.YtaomdfcplamenaaGreatDoor.K
open Go Go.RowKit Go.Proofs

theorem law_applies {l m : List Int} (hl : ∀ n ∈ l, I64 n) (hm : ∀ n ∈ m, I64 n) {w0 : World} {H : Hp} {own : List Seg} {v0 v1 : Value} (h0 : rd H (.s 1 (ints l)) v0) (h1 : rd H (.s 1 (ints m)) v1) :
    Fn Tryz.prog 3 [v0, v1] w0 H own (fun r o H' => r = .bool true ∧ o = own ∧ Le H H') := by
  have L0 := ints_le h0
  have L1 := ints_le h1
  have haz := madeT_size (l.take 150)
  have hbz := madeT_size (m.take 150)
  have hai := madeT_inn (l.take 150)
  have hbi := madeT_inn (m.take 150)
  have ha7 := madeT_l7 (l.take 150)
  have hb7 := madeT_l7 (m.take 150)
  obtain ⟨hDb, hDl⟩ := edI_bd (madeT (l.take 150)) (madeT (m.take 150))
  have tD := treesI_le (B := 64) (fun e he => Nat.le_trans (hDb e he).2 (by omega))
  have pD : ∀ e ∈ (edI (edT (madeT (l.take 150)) (madeT (m.take 150)) [])), e.path.length ≤ 1000000 := fun e he => by have := (hDb e he).1; omega
  have hDa := (edT_leads (madeT (l.take 150)) (madeT (m.take 150))).1
  have hDc := (edT_leads (madeT (l.take 150)) (madeT (m.take 150))).2
  refine Fn.enter Tryz.func3 rfl Tryz.ntmps3 rfl ?_; have hL := Le.refl H; refine TC.seq ?_; refine TC.region ?_; refine TL.assign rfl rfl ?_; refine TL.nsr ?_; refine TL.call (law_sanity) trivial rfl ?_
  rintro _ own Hsn ⟨rfl, rfl, hlesn⟩
  have hL := Le.trans hL hlesn; have h0 := rd.mono hlesn h0; have h1 := rd.mono hlesn h1; refine TL.assign rfl rfl ?_; refine TL.nsr ?_; refine TL.move rfl rfl ?_; refine TL.call (law_made hl h0 L0) ⟨rfl, trivial⟩ rfl ?_
  rintro _ own H13 ⟨a13, b13, rfl, hr13, rfl, hle13⟩
  have hL := Le.trans hL hle13; have h1 := rd.mono hle13 h1; refine TL.move rfl rfl ?_; refine TL.call (law_made hm h1 L1) ⟨rfl, trivial⟩ rfl ?_
  rintro _ own H15 ⟨a15, b15, rfl, hr15, rfl, hle15⟩
  have hL := Le.trans hL hle15; have hr13 := RdL.mono hle15 hr13
  refine TL.new rfl ?_; intro g6
  refine TL.new rfl ?_; intro g7; refine TL.storeA 1 0 (c' := #[_, _]) (own' := _ :: [(_, .cells #[_, _] _ _)] :: _) rfl rfl rfl rfl rfl (tr_ones hr13) (by simp) rfl rfl rfl ?_; refine TL.storeA 0 0 (c' := #[_, _]) (own' := [(_, .cells #[_, _] _ _)] :: _) rfl rfl rfl rfl rfl (tr_ones hr15) (by simp) rfl rfl rfl ?_; refine TL.nil ?_; refine TQ.then_n ?_; refine TC.seq ?_; refine TC.drawQV 12  [(0, _), (1, _), (4, _), (5, _), (6, _), (7, _)] follows_mixed ⟨rfl, rfl, rfl, rfl, rfl, rfl, trivial⟩ ?_
  refine ChainV.q (some 17) [] (by
   intro H' X F hle; have hL := Le.trans hL hle; intro hF; refine TL.load_ownA 1 0 [_, _] rfl rfl rfl ⟨rfl, rfl, trivial⟩ rfl rfl ?_
   exact TL.one hF) ?_
  refine ChainV.q (some 18) [] (by
   intro H' X F hle; have hL := Le.trans hL hle; intro hF; refine TL.load_ownA 1 0 [_, _] rfl rfl rfl ⟨rfl, rfl, trivial⟩ rfl rfl ?_
   exact TL.one hF) ?_
  refine ChainV.q (some 19) [] (by
   intro H' X F hle; have hL := Le.trans hL hle; intro hF; refine TL.load_ownA 0 0 [_, _] rfl rfl rfl ⟨rfl, rfl, trivial⟩ rfl rfl ?_
   exact TL.one hF) ?_
  refine ChainV.r (some 20) [(1, 1), (2, 0)] ([]) (fun _ => fun u sg H => rd H (.s 4 (eiD (edI (edT (madeT (l.take 150)) (madeT (m.take 150)) [])))) u ∧ sg = []) (by
   intro H' X F hle; have hL := Le.trans hL hle; have hr13 := RdL.mono hle hr13; have hr15 := RdL.mono hle hr15; intro hF; refine TL.call (law_diff ha7 hb7 (by omega) (by omega) hr13 hr15) ⟨rfl, rfl, trivial⟩ rfl ?_
   rintro v20 own H20 ⟨hr20, rfl, hle20⟩
   have hL := Le.trans hL hle20; refine TL.nil ?_
   exact TQ.one [] hF hle20 ⟨hr20, rfl⟩) ?_
  refine ChainV.r (some 21) [(0, 3), (3, 0)] ([]) (fun _ => fun u sg H => ∃ d0 d1, u = .tuple #[.agg #[d0, d1], .int .i64 (dR (madeT (l.take 150)) (madeT (m.take 150)) : Int), .int .i64 0] ∧ RdL H (madeT (m.take 150)).d [d0, d1] ∧ sg = []) (by
   intro H' X F hle; have hL := Le.trans hL hle; have hr13 := RdL.mono hle hr13; intro _
   rintro v20 _ Hi20 hle20 ⟨hr20, rfl⟩
   replace hr20 := rd.mono hle20 hr20
   intro hF; refine TL.call (rApply_ok hDa pD (by omega) (by omega) hr13 hr20) ⟨rfl, rfl, trivial⟩ rfl ?_
   rintro _ own H21 ⟨⟨p0, p1, rfl, hpt⟩, rfl, hle21⟩
   rw [hDc]
   have hL := Le.trans hL hle21; refine TL.nil ?_
   exact TQ.one [] hF hle21 ⟨_, _, rfl, hpt, rfl⟩) ?_
  refine ChainV.r (some 16) [(4, 0)] ([]) (fun _ => fun u sg H => ∃ d0 d1, u = .tuple #[.agg #[d0, d1], .int .i64 (dR (madeT (l.take 150)) (madeT (m.take 150)) : Int), .int .i64 0] ∧ RdL H (madeT (m.take 150)).d [d0, d1] ∧ sg = []) (by
   intro H' X F hle; have hL := Le.trans hL hle; intro _
   rintro _ _ Hi21 hle21 ⟨p0, p1, rfl, hpt, rfl⟩
   replace hpt := RdL.mono hle21 hpt
   intro hF; refine TL.move rfl rfl ?_; refine TL.nil ?_
   exact TQ.one [] hF (Le.refl _) ⟨_, _, rfl, hpt, rfl⟩) ?_
  refine ChainV.r (some 22) [(5, 0)] ([]) (fun _ => fun u sg H => ∃ d0 d1, u = .agg #[d0, d1] ∧ RdL H (madeT (m.take 150)).d [d0, d1] ∧ sg = []) (by
   intro H' X F hle; have hL := Le.trans hL hle; intro _
   rintro _ _ Hi21 hle21 ⟨p0, p1, rfl, hpt, rfl⟩
   replace hpt := RdL.mono hle21 hpt
   intro hF; refine TL.extract rfl rfl rfl ?_; refine TL.nil ?_
   exact TQ.one [] hF (Le.refl _) ⟨_, _, rfl, hpt, rfl⟩) ?_
  refine ChainV.q (some 23) [(5, 1)] (by
   intro H' X F hle; intro _
   rintro _ _ Hi21 hle21 ⟨p0, p1, rfl, hpt, rfl⟩
   intro hF; refine TL.extract rfl rfl rfl ?_
   exact TL.one hF) ?_
  refine ChainV.q (some 24) [(5, 2)] (by
   intro H' X F hle; intro _
   rintro _ _ Hi21 hle21 ⟨p0, p1, rfl, hpt, rfl⟩
   intro hF; refine TL.extract rfl rfl rfl ?_
   exact TL.one hF) ?_
  refine ChainV.t true [] (some 8) [] ([]) (fun _ => fun u sg H => ∃ g, u = .pointer (some ⟨g, 0, none⟩) ∧ sg = [[(g, .cells #[.string ⟨#[]⟩, .slice none 0 0] 26 (0, 0))]]) (by
   intro H' X F hle; have hL := Le.trans hL hle; intro hF
   refine TL.new rfl ?_; intro g8; refine TL.nil ?_
   exact TQ.one [_] hF (Le.refl _) ⟨_, rfl, rfl⟩) ?_
  refine ChainV.t false [9] none [(9, 0), (6, 3)] ([]) (fun vs u sg H => ∃ g d0 d1, nthV vs 0 = .pointer (some ⟨g, 0, none⟩) ∧ sg = [[(g, .cells #[d0, d1] 26 (0, 0))]] ∧ RdL H (madeT (m.take 150)).d [d0, d1]) (by
   intro H' X F hle; have hL := Le.trans hL hle; intro _
   rintro _ _ Hr hler ⟨g8, rfl, rfl⟩
   intro _
   rintro _ _ HiB hleB ⟨b0, b1, rfl, hB8, rfl⟩
   replace hB8 := RdL.mono hleB hB8
   intro hF; refine TL.toOwn (own' := _ :: _) rfl ?_; refine TL.storeA 0 0 (vs := [b0, b1]) (c' := #[_, _]) (own' := [(_, .cells #[_, _] _ _)] :: _) rfl rfl rfl rfl rfl (tr_ones hB8) (by simp) rfl rfl rfl ?_; refine TL.nil ?_
   exact TQ.one [_] hF (Le.refl _) ⟨_, _, _, rfl, rfl, hB8⟩) ?_
  refine ChainV.q (some 9) [(7, 3)] (fun _ _ _ _ hF => TL.assign rfl rfl (TL.one hF)) ?_
  refine ⟨by kernel_rfl, .refl _, ?_⟩
  ·
   intro H1 hle
   rintro v20 _ Hi20 hle20 ⟨hr20, rfl⟩
   rintro _ _ _ _ ⟨_, _, rfl, _, rfl⟩
   rintro _ _ _ _ ⟨_, _, rfl, _, rfl⟩
   rintro _ _ HiB hleB ⟨b0, b1, rfl, hB8, rfl⟩
   replace hB8 := RdL.mono hleB hB8
   rintro _ _ Hr hler ⟨g8, rfl, rfl⟩
   rintro _ _ Hr hler ⟨g, b0, b1, he, rfl, hB8⟩
   replace he : Value.pointer (some ⟨g8, 0, none⟩) = .pointer (some ⟨g, 0, none⟩) := he
   injection he with he; injection he with he; injection he with he; subst he
   replace hB8 := RdL.mono hler hB8
   have hL := Le.trans hL hle; have hr13 := RdL.mono hle hr13; have hr15 := RdL.mono hle hr15; refine TL.toOwn (own' := _ :: _ :: _ :: own) rfl ?_; refine TL.wk (env' := [(0, _), (1, _), (4, _), (5, _), (6, _), (7, _), (24, _), (8, _), (9, _)]) ⟨rfl, rfl, rfl, rfl, rfl, rfl, rfl, rfl, rfl, trivial⟩ ?_; refine TL.assign rfl rfl ?_; refine TL.nsr ?_; refine TL.move rfl rfl ?_; refine TL.move rfl rfl ?_; refine TL.gyes rfl rfl rfl ?_; refine TL.move rfl rfl ?_; refine TL.gyes rfl rfl rfl ?_; refine TL.eql rfl rfl rfl ?_
   rw [decide_eq_true (by first | rfl | omega)]
   refine TL.pickT rfl rfl rfl rfl ?_; refine TL.move rfl rfl ?_; refine TL.gyes rfl rfl rfl ?_; refine TL.load_ownA 0 0 [_, _] rfl rfl rfl ⟨rfl, rfl, trivial⟩ rfl rfl ?_; refine TL.gyes rfl rfl rfl ?_; refine TL.load_ownA 1 0 [_, _] rfl rfl rfl ⟨rfl, rfl, trivial⟩ rfl rfl ?_; refine TL.gyes rfl rfl rfl ?_; refine TL.call (ref_same _ _ _ (Nat.le_refl _) hB8 hr15) ⟨rfl, rfl, trivial⟩ rfl ?_
   rintro _ own Hd33 ⟨rfl, rfl, hled33⟩
   rw [eqb_self]
   have hL := Le.trans hL hled33; have hr13 := RdL.mono hled33 hr13; have hr15 := RdL.mono hled33 hr15; refine TL.pickT rfl rfl rfl rfl ?_; refine TL.move rfl rfl ?_; refine TL.gyes rfl rfl rfl ?_; refine TL.move rfl rfl ?_; refine TL.gyes rfl rfl rfl ?_; refine TL.load_ownA 2 0 [_, _] rfl rfl rfl ⟨rfl, rfl, trivial⟩ rfl rfl ?_; refine TL.gyes rfl rfl rfl ?_; refine TL.load_ownA 1 0 [_, _] rfl rfl rfl ⟨rfl, rfl, trivial⟩ rfl rfl ?_; refine TL.gyes rfl rfl rfl ?_; refine TL.call (ref_Distance _ (madeT (l.take 150)) (madeT (m.take 150)) (Nat.le_refl _) (by omega) (by omega) hr13 hr15) ⟨rfl, rfl, trivial⟩ rfl ?_
   rintro _ own H39 ⟨rfl, rfl, hle39⟩
   have hL := Le.trans hL hle39; refine TL.gyes rfl rfl rfl ?_; refine TL.eql rfl rfl rfl ?_
   rw [decide_eq_true (by first | rfl | omega)]
   refine TL.pickT rfl rfl rfl rfl ?_; refine TL.assign rfl rfl ?_; refine TL.nil ?_; refine TQ.then_n ?_; refine TC.ret ?_; refine TQ.ret1 3 rfl rfl ?_
   exact ⟨rfl, rfl, hL⟩

end Go.Proofs.YtaomdfcplamenaaGreatDoor.K

namespace Go.Proofs.YtaomdfcplamenaaGreatDoor.K
open Go Go.RowKit Go.ChangeShapes Go.WideShapes Go.Deep

/-- Numbers as data: of a kind; three by three. -/
def kints (k : IntKind) (l : List Int) : List D := (l.map (Value.int k)).map D.c
abbrev InK (k : IntKind) (n : Int) : Prop := k.min ≤ n ∧ n ≤ k.max
theorem lit_in {k : IntKind} {n : Int} (h : (Lit.int k n).wf = true) : InK k n := by
  unfold Lit.wf at h
  simp only [Bool.and_eq_true, decide_eq_true_eq] at h
  exact h
theorem inK_i64 {n : Int} (h : InK .i64 n) : -9223372036854775808 ≤ n ∧ n ≤ 9223372036854775807 := by
  have e1 : IntKind.i64.min = -9223372036854775808 := by decide
  have e2 : IntKind.i64.max = 9223372036854775807 := by decide
  obtain ⟨h1, h2⟩ := h
  rw [e1] at h1; rw [e2] at h2
  exact ⟨h1, h2⟩

def allH (W : World) : Hp := fun b => W.heap[b]?
theorem St.all (W : World) : St W (allH W) [] W := ⟨rfl, ⟨rfl, Nat.le_refl _⟩, rfl, fun _ _ h => h, by simp, by simp, by simp⟩

theorem spot_none {W : World} {a : Addr} {v : Value} (h : W.cell? a = some v) : a = ⟨a.block, a.off, none⟩ := by
  obtain ⟨b, o, s⟩ := a
  cases s with
  | none => rfl
  | some s =>
    unfold World.cell? at h
    split at h <;> simp at h
theorem cel_of {W : World} {b o : Nat} {v : Value} (h : W.cell? ⟨b, o, none⟩ = some v) : cel (allH W) b o = some v := by
  unfold World.cell? at h
  unfold cel allH
  split at h
  · rename_i hb
    rw [hb]
    simpa using h
  · cases h
theorem add_zero' (a : Addr) : a.add 0 = a := by unfold Addr.add; simp
section
variable {P : Program} {H : Type} {enc : TypeId × Value → H} {W : World}

theorem open_kints {t e : TypeId} {k : IntKind} (ht : P.underlying t = some (.slice e)) (he : P.underlying e = some (.int k)) (hc : P.cellsOf e = 1) {a : Option Addr} {len cap : Nat} {d : DataW H} {ps : List MemPlace}
    (h : DataW.Trod enc P W 0 (fun _ => true) true t (.slice a len cap) d ps) : ∃ l : List Int, (∀ n ∈ l, InK k n) ∧ rd (allH W) (.s 1 (kints k l)) (.slice a len cap) := by
  obtain ⟨fuel, hf⟩ := h
  have hcs : (Value.slice a len cap).cells.toList = [.slice a len cap] := rfl
  rw [hcs] at hf
  rcases open_ints ht he hc hf with ⟨hcs, _⟩ | ⟨a, len', cap', zs, hcs, _, hl, hm, hz, _, hcell, hwz⟩
  · simp only [List.cons.injEq, Value.slice.injEq, and_true] at hcs
    obtain ⟨rfl, rfl, rfl⟩ := hcs
    exact ⟨[], by simp, rd.nil _ _⟩
  · simp only [List.cons.injEq, Value.slice.injEq, and_true] at hcs
    obtain ⟨rfl, rfl, rfl⟩ := hcs
    simp only [if_true] at hz
    refine ⟨zs.take len, fun n hn => ?_, ?_⟩
    · exact lit_in (hwz n (List.mem_of_mem_take hn))
    · simp only [rd]
      refine ⟨_, _, _, rfl, by simp [kints]; omega, hl, by simpa [maxLen] using hm, ?_⟩
      by_cases h0 : len = 0
      · exact .inl h0
      · have e := hcell 0 (by omega)
        rw [add_zero'] at e
        have ea := spot_none e
        refine .inr ⟨a.block, a.off, by rw [← ea], rds.mk fun i x hx => ?_⟩
        simp only [kints, List.getElem?_map, List.getElem?_take] at hx
        split at hx
        · rename_i hlt
          have h1 := hcell i (by omega)
          have h2 : zs[i]? = some zs[i] := List.getElem?_eq_getElem (by omega)
          rw [h2] at hx
          simp only [Option.map_some, Option.some.injEq] at hx
          subst hx
          refine ⟨.int k zs[i], ?_, by simp [rd]⟩
          rw [ea, add_off] at h1
          rw [List.getD_eq_getElem?_getD, h2] at h1
          exact cel_of h1
        · simp at hx

theorem args_stay (hl : laidOutB P = true) {W' : World} (hb : ∀ k, k < W.heap.size → W'.heap[k]? = W.heap[k]?) {sp : Nat → Bool} : ∀ {ts : List TypeId} {vs : List Value} {ds : List (DataW H)} {ps : List MemPlace},
    (ts.all fun t => P.readableRec t && decide (t < P.types.size)) = true → DataW.TrodAll enc P W 0 (fun _ => true) true ts vs ds ps → (∀ x ∈ ps, x.block < W.heap.size) → (∀ x ∈ ps, sp x.block = true) → DataW.TrodAll enc P W' 0 sp true ts vs ds ps
  | [], [], [], _, _, h, _, _ => h
  | t :: ts, v :: vs, d :: ds, _, hts, h, hlt, hsp => by
    obtain ⟨p, q, h1, h2, rfl⟩ := h
    simp only [List.all_cons, Bool.and_eq_true, decide_eq_true_eq] at hts
    refine ⟨p, q, WideElems.Trod_stays hl hts.1.1 hts.1.2 h1 (fun x hx => ?_) (fun x hx => hsp x (List.mem_append_left _ hx)), args_stay hl hb hts.2 h2 (fun x hx => hlt x (List.mem_append_right _ hx)) (fun x hx => hsp x (List.mem_append_right _ hx)), rfl⟩
    have hx' := hlt x (List.mem_append_left _ hx)
    cases x with
    | cell b o => exact World.cell?_of_block (w := W) (hb b hx')
    | map b => exact hb b hx'

/-- The post of a law that answers true and leaves the blocks as they were. -/
theorem law_post {f : Func} {s : ChangeSpec} {apart fresh handsOn again : Bool} {W' : World} {args : Array Value} {ds gs : List (DataW H)} {before : List MemPlace} {bt : TypeId} (hl : laidOutB P = true)
    (hW : DataW.Whole enc P f.params.toList s.vars apart W args.toList ds gs before) (hvs : s.vars = []) (hfn : s.fn H (ds ++ gs) = { results := [.lit (.bool true)], args := ds }) (hrt : f.resultTypes = #[bt]) (hbt : P.underlying bt = some .bool)
    (hts : (f.params.toList.all fun t => P.readableRec t && decide (t < P.types.size)) = true)
    (hos : W'.os = W.os) (hout : W'.output = W.output) (hb : ∀ k, k < W.heap.size → W'.heap[k]? = W.heap[k]?) : s.post enc P f apart fresh handsOn again W args (.bool true) W' := by
  have hlt := hW.lt
  have hW0 := hW
  obtain ⟨p, q, hA, hV, rfl, hfz, hnd⟩ := hW
  have hq : q = [] := by
    rw [hvs] at hV
    obtain ⟨_, rfl⟩ := trodVars_none hV
    rfl
  subst hq
  have hg : gs = [] := by
    rw [hvs] at hV
    obtain ⟨rfl, _⟩ := trodVars_none hV
    rfl
  subst hg
  simp only [List.append_nil] at hlt hfz hnd hW0
  have hres : ∀ (b : Nat) (sp : Nat → Bool) (hd : Bool), DataW.TrodAll enc P W' b sp hd f.resultTypes.toList ((Value.bool true).resultList f.resultTypes.size) (s.fn H (ds ++ [])).results [] := by
    intro b sp hd
    rw [hfn, hrt]
    exact trodAll_mk1 (shut_bool hbt true)
  have hargs : ∀ sp : Nat → Bool, (∀ x ∈ p, sp x.block = true) → DataW.TrodAll enc P W' 0 sp true f.params.toList args.toList (s.fn H (ds ++ [])).args p := by
    intro sp hsp
    rw [hfn]
    exact args_stay hl hb hts hA hlt hsp
  have hvars : ∀ sp : Nat → Bool, DataW.TrodVars enc P W' sp s.vars (s.fn H (ds ++ [])).vars [] := by
    intro sp
    rw [hfn, hvs]
    rfl
  have hok : ∀ (j : Nat) (t : TypeId) (r : Value), f.resultTypes[j]? = some t → ((Value.bool true).resultList f.resultTypes.size)[j]? = some r → Value.okWide P W' .any 0 t r := by
    rw [hrt]
    intro j t r hj hr
    match j, hj, hr with
    | 0, hj, hr =>
      simp [Value.resultList] at hj hr
      subst hj; subst hr
      simp [Value.okWide, hbt, Cell.okWide, Cell.ok]
    | j + 1, hj, hr => simp at hj
  have hk : W.keptBut W' (fun x => x ∈ p ∧ (x ∈ ([] : List MemPlace) ∨ x ∈ p ∨ x ∈ ([] : List MemPlace))) := by
    refine ⟨hos, hout, fun i hi => ?_⟩
    rw [hb i hi]
    split <;> simp_all
  have hfz' : W'.noneFrozen p := by
    intro b off hp
    have := hfz b off hp
    rw [← this]
    exact World.frozen?_of_block (w := W) (hb b (hlt _ hp))
  refine ⟨ds, [], p, [], p, [], by simpa using hW0, hres _ _ _, hargs _ (fun x hx => by simpa using hlt x hx), hvars _, hk, fun _ => ⟨hok, _, _, ([] ++ p) ++ [], ⟨[] ++ p, [], trodAll_append (hargs _ (fun _ _ => rfl)) (hres _ _ _), hvars _, rfl, by simpa using hfz', fun ha => by simpa using hnd ha⟩, fun x hx _ => by simpa using hx⟩⟩
end
section
end
end Go.Proofs.YtaomdfcplamenaaGreatDoor.K

namespace Go.Proofs.YtaomdfcplamenaaGreatDoor
open Go Go.RowKit Go.ChangeShapes Go.WideShapes Go.ChangeAt
namespace Row3
theorem own0 : ownKnob Tryz.prog.godebug = none := by kernel_rfl
theorem laid0 : laidOutB Tryz.prog = true := by kernel_rfl
theorem door_met (os : Os) (args : Array Value) : laidMetH Tryz.prog Rows.diffAppliesRow.laid ((World.doorLaid Tryz.prog 400 os).forCall (fun _ _ => 0) ⟨#[], args, []⟩).memory :=
  laidMetH_of_parts3 (fuel := 8) (laidMet_of_run' 8 (by kernel_rfl) (by kernel_rfl)) (by kernel_rfl) (by kernel_rfl)
theorem lifted (os : Os) (started : os.Started) (H : Type) (enc : TypeId × Value → H) :
    ReturnsInHanded {} Tryz.checked os 3 .any (fun w args => (Rows.diffAppliesSpec.pre enc Tryz.prog Tryz.f3 [] false w args ∧ laidMetH Tryz.prog Rows.diffAppliesRow.laid w) ∧ sizedMet enc Tryz.prog Tryz.f3 (OpenSpec.ofChange Rows.diffAppliesSpec) false w args)
      (Rows.diffAppliesSpec.post enc Tryz.prog Tryz.f3 false true false false) := by
  refine returnsInHanded_of_change_and (C := Tryz.checked) (X := fun w _ => laidMetH Tryz.prog Rows.diffAppliesRow.laid w) (fun _ _ _ hh h => h.of_heap hh) own0 started (by kernel_rfl) Tryz.func3
    (ChangeSpec.witness_shaped (enc := enc) (C := Tryz.checked) (os := os) (X := fun w _ => laidMetH Tryz.prog Rows.diffAppliesRow.laid w) false (World.doorLaid Tryz.prog 400 os) #[.slice none 0 0, .slice none 0 0] 8 rfl (World.shaped_of_RefB (by kernel_rfl) (by kernel_rfl)) (by kernel_rfl) (by kernel_rfl) (by kernel_rfl) (door_met os _)) ?_
  intro W base args ds gs before hval0 hW _ _ _ _
  have hval : ∀ (j : Nat) t v, Tryz.f3.params[j]? = some t → args[j]? = some v → Value.okWide Tryz.prog W .any base t v := hval0
  have hW' : DataW.Whole enc Tryz.prog Tryz.f3.params.toList Rows.diffAppliesSpec.vars false W args.toList ds gs before := hW
  obtain ⟨p, q, hA0, hV, rfl, hfz, hnd⟩ := hW
  have hA : DataW.TrodAll enc Tryz.prog W 0 (fun _ => true) true Tryz.f3.params.toList args.toList ds p := hA0
  rw [Tryz.params3] at hA hval
  obtain ⟨v0, v1, d0, d1, p0, p1, rfl, rfl, rfl, h0, h1⟩ := trodAll_two hA
  obtain ⟨rfl, rfl⟩ := trodVars_none hV
  obtain ⟨a0, n0, c0, rfl⟩ := okWide_slice Tryz.underlying22 (hval 0 22 v0 rfl rfl)
  obtain ⟨l0, k0, r0⟩ := K.open_kints Tryz.underlying22 Tryz.underlying3 (by kernel_rfl) h0
  obtain ⟨a1, n1, c1, rfl⟩ := okWide_slice Tryz.underlying22 (hval 1 22 v1 rfl rfl)
  obtain ⟨l1, k1, r1⟩ := K.open_kints Tryz.underlying22 Tryz.underlying3 (by kernel_rfl) h1
  refine (K.law_applies (fun n h => K.inK_i64 (k0 n h)) (fun n h => K.inK_i64 (k1 n h)) r0 r1 W (K.St.all W)).mono fun e W1 hh => ?_
  obtain ⟨v, own1, H1, rfl, ⟨rfl, _, hle⟩, hst⟩ := hh
  exact ⟨_, rfl, K.law_post laid0 hW' rfl rfl rfl Tryz.underlying4 (by kernel_rfl) hst.os hst.output (fun k hk => by
    have e1 : W.heap[k]? = some W.heap[k] := by simp [hk]
    rw [e1]
    exact hst.imm k _ (hle k _ e1))⟩
end Row3
theorem row3_holds : Rows.DiffAppliesSaid :=
  OpenClaim.holds_of_wide 3 Tryz.f3 rfl rfl rfl rfl rfl rfl rfl ⟨rfl, rfl, rfl, rfl, rfl⟩ rfl rfl rfl rfl rfl (by kernel_rfl) Tryz.func3 (by kernel_rfl)
    (of_decide_eq_true (by kernel_rfl)) (by unfold Func.isWrapper; first | (rw [if_pos (by decide +kernel)]; kernel_rfl) | (rw [if_neg (by decide +kernel)]; exact ⟨rfl, rfl⟩))
    (fun os started H enc _ => Row3.lifted os started H enc)
theorem applies_card : Rows.DiffAppliesCardSaid :=
  Claim7.holds_tied_plain_at .later [] [.data, .data, .data] true (true, "c3a3d83251cddf20a06a1c1d7fbab972c92b014fa72253d1f7004ef94f10e88e") false
    row3_holds (fun _ h => by cases h) (by kernel_rfl) (fun _ h => by cases h) diffApplies_row_tie rfl ⟨rfl, rfl⟩ (by kernel_rfl) rfl
    (fun f fn hf hfn => by
      obtain rfl : f = 3 := Option.some.inj ((show Tryz.prog.funcNamed Rows.diffAppliesRow.func = some 3 by kernel_rfl).symm.trans hf) |>.symm
      obtain rfl : fn = Tryz.f3 := (Option.some.inj (Tryz.func3.symm.trans hfn)).symm
      exact ⟨by kernel_rfl, fun j t ht => by
        rw [Tryz.params3] at ht
        have hm : t ∈ [22, 22] := by simpa using Array.mem_of_getElem? ht
        have hall : ([22, 22].all fun u => !Tryz.prog.wantsStandIn u) = true := by kernel_rfl
        exact (show Tryz.prog.wantsStandIn t = false by simpa using List.all_eq_true.1 hall t hm)⟩)
    (by kernel_rfl)
end Go.Proofs.YtaomdfcplamenaaGreatDoor
