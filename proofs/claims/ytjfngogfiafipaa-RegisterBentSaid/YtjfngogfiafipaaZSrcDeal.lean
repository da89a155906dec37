/- Src.Deal: what it may do with a register. Printed by wip/gen/deal.py. -/
import Derived.Test.YtjfngogfiafipaaZRefL
import Derived.Test.YtjfngogfiafipaaZRegT
import Derived.Test.YtjfngogfiafipaaZSrcSec
namespace Go.Proofs.Ytjfngogfiafipaa
open Go.RowKit
set_option linter.unusedVariables false
set_option linter.unusedSimpArgs false
/-- what one deal may do -/
def Dealt (R : Reg) (day : Int) (R' : Reg) (day' : Int) : Prop :=
  (R' = R ∧ day' = day) ∨ ∃ m : Mv, m.day = day' ∧ (1 ≤ m.kind ∧ m.kind ≤ 3) ∧ rmE R m = 0 ∧ R' = rmR R m ∧ day ≤ day' ∧ day' ≤ day + 130 ∧ (1 ≤ m.s ∧ m.s ≤ 3) ∧ (0 ≤ m.f ∧ m.f ≤ 4) ∧ (0 ≤ m.t ∧ m.t ≤ 4)
/-- what Deal leaves -/
def DealtW (P : Nat → Prop) (sb : Nat) (R : Reg) (day : Int) (w : World) (e : Ending) (w' : World) : Prop :=
  ∃ vs vh vm R' day', e = .returned (.tuple #[.agg #[vs, vh, vm], .int .i64 day']) ∧ Dealt R day R' day' ∧ RgIn P w' vs vh vm R' ∧ SrcOk w' sb ∧ w.grownBy w' (some sb)
theorem src_fin {w w6 W : World} {sb : Nat} (g : w.grownBy w6 (some sb)) (hS : SrcOk w6 sb) (hb : Below w.heap.size w6 W) (hlt : sb < w.heap.size) : SrcOk W sb ∧ w.grownBy W (some sb) :=
  ⟨srcOk_below hS hb hlt, hb.os.trans g.os, hb.tape.trans g.tape, hb.output.trans g.output, Nat.le_trans g.size hb.size, fun k hk hne => (hb.block k hk).trans (g.block k hk hne)⟩
theorem below_set3 (w : World) {B b : Nat} (h : B ≤ b) (v0 v1 v2 : Value) : Below B w (((w.setCell ⟨b, 0, none⟩ v0).setCell ⟨b, 1, none⟩ v1).setCell ⟨b, 2, none⟩ v2) := (((Below.refl B w).setCell h _).setCell h _).setCell h _
/-- the end of a deal that is refused -/
theorem deal_no {P : Nat → Prop} {sb : Nat} {R : Reg} {day : Int} {w w6 w7 : World} {X : Nat} {a0 a1 a2 : Option Addr} {n0 c0 n1 c1 n2 c2 : Nat} {x0 x1 x2 : Value} (hr : RgIn P w (.slice a0 n0 c0) (.slice a1 n1 c1) (.slice a2 n2 c2) R) (hPs : ∀ b, P b → b ≠ sb) (hlt : sb < w.heap.size) (g : w.grownBy w6 (some sb)) (hS : SrcOk w6 sb) (h7 : Below w6.heap.size w6 w7) (hX : w.heap.size ≤ X) :
    DealtW P sb R day w (.returned (.tuple #[.agg #[.slice a0 n0 c0, .slice a1 n1 c1, .slice a2 n2 c2], .int .i64 day])) ((((((w7.setCell ⟨X, 0, none⟩ x0).setCell ⟨X, 1, none⟩ x1).setCell ⟨X, 2, none⟩ x2).setCell ⟨w.heap.size + 1, 0, none⟩ (.slice a0 n0 c0)).setCell ⟨w.heap.size + 1, 1, none⟩ (.slice a1 n1 c1)).setCell ⟨w.heap.size + 1, 2, none⟩ (.slice a2 n2 c2)) := by
  have z := g.size
  have hb : Below w.heap.size w6 w7 := h7.mono z
  have e := src_fin g hS ((hb.trans (below_set3 w7 hX x0 x1 x2)).trans (below_set3 _ (Nat.le_succ w.heap.size) (.slice a0 n0 c0) (.slice a1 n1 c1) (.slice a2 n2 c2))) hlt
  refine ⟨_, _, _, R, day, rfl, .inl ⟨rfl, rfl⟩, ?_, e.1, e.2⟩
  have h1 := (hr.mono (Q := fun b => P b ∧ b < w.heap.size) (fun b h hl => ⟨h, hl⟩)).grown g (fun b h => hPs b h.1)
  exact (((h1.below h7).set3 (b := X) (fun k hk => by omega)).set3 (b := w.heap.size + 1) (fun k hk => by omega)).mono (fun b h _ => h.1)
/-- the end of a deal that is made -/
theorem deal_yes {P : Nat → Prop} {sb : Nat} {R : Reg} {m : Mv} {E day : Int} {w w6 w7 : World} {X : Nat} {b0 b1 b2 : Option Addr} {m0 d0 m1 d1 m2 d2 : Nat} {Q : Reg} (hq : RgIn (fun b => (P b ∧ b < w.heap.size) ∨ w6.heap.size + 2 ≤ b) w7 (.slice b0 m0 d0) (.slice b1 m1 d1) (.slice b2 m2 d2) Q) (hP : ∀ b, w.heap.size ≤ b → P b) (hPs : ∀ b, P b → b ≠ sb) (hlt : sb < w.heap.size) (g : w.grownBy w6 (some sb)) (hS : SrcOk w6 sb) (h7 : Below w6.heap.size w6 w7) (hX : w.heap.size ≤ X) (hX2 : X < w6.heap.size) (hB : w.heap.size + 1 < w6.heap.size)
    (hQ : rmR R m = Q) (hE : rmE R m = 0) (hk : 1 ≤ m.kind ∧ m.kind ≤ 3) (hd : day ≤ m.day) (hd2 : m.day ≤ day + 130) (hs : 1 ≤ m.s ∧ m.s ≤ 3) (hf : 0 ≤ m.f ∧ m.f ≤ 4) (ht : 0 ≤ m.t ∧ m.t ≤ 4) {dd : Int} (hdd : m.day = dd) :
    DealtW P sb R day w (.returned (.tuple #[.agg #[.slice b0 m0 d0, .slice b1 m1 d1, .slice b2 m2 d2], .int .i64 dd])) ((((((w7.setCell ⟨X, 0, none⟩ (.slice b0 m0 d0)).setCell ⟨X, 1, none⟩ (.slice b1 m1 d1)).setCell ⟨X, 2, none⟩ (.slice b2 m2 d2)).setCell ⟨w.heap.size + 1, 0, none⟩ (.slice b0 m0 d0)).setCell ⟨w.heap.size + 1, 1, none⟩ (.slice b1 m1 d1)).setCell ⟨w.heap.size + 1, 2, none⟩ (.slice b2 m2 d2)) := by
  have z := g.size
  have hb : Below w.heap.size w6 w7 := h7.mono z
  have e := src_fin g hS ((hb.trans (below_set3 w7 hX (.slice b0 m0 d0) (.slice b1 m1 d1) (.slice b2 m2 d2))).trans (below_set3 _ (Nat.le_succ w.heap.size) (.slice b0 m0 d0) (.slice b1 m1 d1) (.slice b2 m2 d2))) hlt
  subst hdd
  refine ⟨_, _, _, Q, m.day, rfl, .inr ⟨m, rfl, hk, hE, hQ.symm, hd, hd2, hs, hf, ht⟩, ?_, e.1, e.2⟩
  exact ((hq.set3 (b := X) (fun k hk => by omega)).set3 (b := w.heap.size + 1) (fun k hk => by omega)).mono (fun b h _ => h.elim (fun h => h.1) (fun h => hP b (by omega)))
set_option maxHeartbeats 8000000 in
set_option maxRecDepth 100000 in
theorem deal_any (P : Nat → Prop) (sb : Nat) (vs vh vm : Value) (R : Reg) (day : Int) (w : World) (hs : SrcOk w sb) (hr : RgIn P w vs vh vm R) (hS : R.secs.length ≤ 1000000) (hH : R.hs.length ≤ 1000000) (hM : R.ms.length ≤ 1000000) (hP : ∀ b, w.heap.size ≤ b → P b) (hPs : ∀ b, P b → b ≠ sb) (hd0 : 0 ≤ day) (hd1 : day ≤ 1000000000) :
    Calls Try.prog 13 #[.pointer (some ⟨sb, 0, none⟩), .agg #[vs, vh, vm], .int .i64 day] w (DealtW P sb R day w) := by
  obtain ⟨a0, n0, c0, rfl, -, -, -⟩ := hr.S.shape
  obtain ⟨a1, n1, c1, rfl, -, -, -⟩ := hr.H.shape
  obtain ⟨a2, n2, c2, rfl, -, -, -⟩ := hr.M.shape
  have hlt := srcOk_lt hs
  have HR := Lib.hid hr
  clear hr
  go_enter Try.func13, Try.ntmps13
  go_wp2_with fail
  refine (pick_lit sb [0, 0, 1, 30] _ _ _ _ (srcOk_alloc (srcOk_alloc hs _) _) (by decide) (by decide) rfl rfl (by simp)).mono ?_
  rintro e w1 ⟨p, hp, rfl, hS1, hG1⟩
  have hp' : 0 ≤ p ∧ p ≤ 30 := by simp at hp; omega
  clear hp
  have hwn : IntKind.i64.wrap (day + p) = day + p := IntWalk.i64_in _ (by omega)
  go_wp2_with fail
  refine (range_any sb 1 3 _ hS1 (by decide) (by decide) (by decide)).mono ?_
  rintro e w2 ⟨id, hid, rfl, hS2, hG2⟩
  go_wp2_with fail
  refine (range_any sb 1 4 _ hS2 (by decide) (by decide) (by decide)).mono ?_
  rintro e w3 ⟨a, ha, rfl, hS3, hG3⟩
  go_wp2_with fail
  refine (range_any sb 1 4 _ hS3 (by decide) (by decide) (by decide)).mono ?_
  rintro e w4 ⟨b, hb, rfl, hS4, hG4⟩
  go_wp2_with fail
  refine (pick_lit sb [100, 300, 1000, 5000] _ _ _ _ hS4 (by decide) (by decide) rfl rfl (by simp)).mono ?_
  rintro e w5 ⟨n, hn, rfl, hS5, hG5⟩
  clear hn
  go_wp2_with fail
  refine (n_any sb 6 _ (srcOk_alloc hS5 _) (by decide)).mono ?_
  rintro e w6 ⟨q, hq, rfl, hS6, hG6⟩
  have hq6 : q = 0 ∨ q = 1 ∨ q = 2 ∨ q = 3 ∨ q = 4 ∨ q = 5 := by omega
  have hGa : ((w.alloc (.cells #[.slice a0 n0 c0, .slice a1 n1 c1, .slice a2 n2 c2] 29)).alloc (.cells #[.slice none 0 0, .slice none 0 0, .slice none 0 0] 29)).grownBy w5 (some sb) := grownBy_trans hG1 (grownBy_trans hG2 (grownBy_trans hG3 (grownBy_trans hG4 hG5)))
  have hG : ((w.alloc (.cells #[.slice a0 n0 c0, .slice a1 n1 c1, .slice a2 n2 c2] 29)).alloc (.cells #[.slice none 0 0, .slice none 0 0, .slice none 0 0] 29)).grownBy w6 (some sb) := grownBy_trans hGa (grownBy_trans (World.grownBy_alloc w5 _ _) hG6)
  have hGb : (w.alloc (.cells #[.slice a0 n0 c0, .slice a1 n1 c1, .slice a2 n2 c2] 29)).grownBy w6 (some sb) := grownBy_trans (World.grownBy_alloc _ _ _) hG
  have hGw : w.grownBy w6 (some sb) := grownBy_trans (World.grownBy_alloc _ _ _) hGb
  have z5 := hGa.size
  simp only [World.size_alloc] at z5
  have z6 := hG6.size
  simp only [World.size_alloc] at z6
  have hl1 : sb < (w.alloc (.cells #[.slice a0 n0 c0, .slice a1 n1 c1, .slice a2 n2 c2] 29)).heap.size := by simp; omega
  have k0 := box_cell hGb hlt 0 rfl
  have k1 := box_cell hGb hlt 1 rfl
  have k2 := box_cell hGb hlt 2 rfl
  have y0 : w6.cell? ⟨w.heap.size + 1, 0, none⟩ = some (.slice none 0 0) := by have := box_cell hG hl1 0 rfl; simpa using this
  have y1 : w6.cell? ⟨w.heap.size + 1, 1, none⟩ = some (.slice none 0 0) := by have := box_cell hG hl1 1 rfl; simpa using this
  have y2 : w6.cell? ⟨w.heap.size + 1, 2, none⟩ = some (.slice none 0 0) := by have := box_cell hG hl1 2 rfl; simpa using this
  have yf : ∀ o, w6.frozen? ⟨w.heap.size + 1, o, none⟩ = false := fun o => by have := box_frozen hG hl1 o; simpa using this
  have x0 := box_cell hG6 (srcOk_lt hS5) 0 rfl
  have x1 := box_cell hG6 (srcOk_lt hS5) 1 rfl
  have x2 := box_cell hG6 (srcOk_lt hS5) 2 rfl
  have xf := box_frozen hG6 (srcOk_lt hS5)
  have HGW := Lib.hid hGw
  have hr6 : RgIn (fun b => (P b ∧ b < w.heap.size) ∨ w6.heap.size + 2 ≤ b) w6 (.slice a0 n0 c0) (.slice a1 n1 c1) (.slice a2 n2 c2) R := ((HR.out.mono (Q := fun b => P b ∧ b < w.heap.size) (fun b h hl => ⟨h, hl⟩)).grown hGw (fun b h => hPs b h.1)).mono (fun b h _ => .inl h)
  have HR6 := Lib.hid hr6
  have HS6 := Lib.hid hS6
  clear hS1 hS2 hS3 hS4 hS5 hS6 hG1 hG2 hG3 hG4 hG5 hG6 hGa hG hGb hGw hr6 hl1 hs hq hwn
  obtain ⟨dp, hdp⟩ : ∃ dp, day + p = dp := ⟨_, rfl⟩
  rw [hdp]
  rcases hq6 with rfl | rfl | rfl | rfl | rfl | rfl
  · obtain ⟨nx, hnx, hnx2⟩ : ∃ nx : Int, nx = max dp 100 ∧ (day ≤ nx ∧ nx ≤ day + 130) := ⟨_, rfl, by omega⟩
    obtain ⟨E, hE⟩ : ∃ E, rmE R ⟨0, nx, 1, id, 0, a, n⟩ = E := ⟨_, rfl⟩
    obtain ⟨Q, hQ⟩ : ∃ Q, rmR R ⟨0, nx, 1, id, 0, a, n⟩ = Q := ⟨_, rfl⟩
    have hC := fIssue_any _ _ _ _ R nx id a n w6 HR6.out hS hH hM (fun b hb => .inr hb)
    rw [hE, hQ] at hC
    have HC := Lib.hid hC
    have HE := Lib.hid hE
    have HQ := Lib.hid hQ
    clear hC hE hQ
    by_cases hmx : 100 ≤ dp
    rotate_left
    · obtain rfl : nx = 100 := by omega
      clear hnx
      go_wp2_with fail
      refine HC.out.mono ?_
      rintro e w7 hg
      obtain ⟨b0, m0, d0, b1, m1, d1, b2, m2, d2, rfl, hq, hb7⟩ := hg.shape
      clear hg
      have z7 := hb7.size
      have HQR := Lib.hid hq
      have HB7 := Lib.hid hb7
      have v0 := keepB hb7 k0
      have v1 := keepB hb7 k1
      have v2 := keepB hb7 k2
      have s0 := keepB hb7 y0
      have s1 := keepB hb7 y1
      have s2 := keepB hb7 y2
      have sf0 := keepF hb7 y0 (yf 0)
      have sf1 := keepF hb7 y0 (yf 1)
      have sf2 := keepF hb7 y0 (yf 2)
      have t0 := keepB hb7 x0
      have t1 := keepB hb7 x1
      have t2 := keepB hb7 x2
      have tf0 := keepF hb7 x0 (xf 0)
      have tf1 := keepF hb7 x0 (xf 1)
      have tf2 := keepF hb7 x0 (xf 2)
      have q1 : ¬ w.heap.size = w5.heap.size := by omega
      have q2 : ¬ w.heap.size + 1 = w5.heap.size := by omega
      have q3 : ¬ w5.heap.size = w.heap.size := by omega
      have q4 : ¬ w5.heap.size = w.heap.size + 1 := by omega
      clear hq hb7 k0 k1 k2 y0 y1 y2 yf x0 x1 x2 xf
      by_cases hE : E = 0
      · subst hE
        have HFIN := Lib.hid (deal_yes (day := day) (E := 0) (X := w5.heap.size) HQR.out hP hPs hlt HGW.out HS6.out HB7.out (by omega) (by omega) (by omega) HQ.out HE.out ⟨by simp, by simp⟩ hnx2.1 hnx2.2 hid (⟨by simp, by simp⟩) (⟨by show (0:Int) ≤ a; omega, by show a ≤ 4; omega⟩) rfl)
        go_wp2
        refine bodyPost_ret (v := .tuple #[.agg #[.slice b0 m0 d0, .slice b1 m1 d1, .slice b2 m2 d2], .int .i64 100]) (by simp [results, Try.results13, go_sem, s0, s1, s2]) rfl HFIN.out
      · have g1 : (E != 0) = true := by simpa using hE
        have g2 : (E == 0) = false := by simpa using hE
        go_wp2
        refine bodyPost_ret (v := .tuple #[.agg #[.slice a0 n0 c0, .slice a1 n1 c1, .slice a2 n2 c2], .int .i64 day]) (by simp [results, Try.results13, go_sem, s0, s1, s2]) rfl (deal_no HR.out hPs hlt HGW.out HS6.out HB7.out (by omega))
    · obtain rfl : nx = dp := by omega
      clear hnx
      go_wp2_with fail
      refine HC.out.mono ?_
      rintro e w7 hg
      obtain ⟨b0, m0, d0, b1, m1, d1, b2, m2, d2, rfl, hq, hb7⟩ := hg.shape
      clear hg
      have z7 := hb7.size
      have HQR := Lib.hid hq
      have HB7 := Lib.hid hb7
      have v0 := keepB hb7 k0
      have v1 := keepB hb7 k1
      have v2 := keepB hb7 k2
      have s0 := keepB hb7 y0
      have s1 := keepB hb7 y1
      have s2 := keepB hb7 y2
      have sf0 := keepF hb7 y0 (yf 0)
      have sf1 := keepF hb7 y0 (yf 1)
      have sf2 := keepF hb7 y0 (yf 2)
      have t0 := keepB hb7 x0
      have t1 := keepB hb7 x1
      have t2 := keepB hb7 x2
      have tf0 := keepF hb7 x0 (xf 0)
      have tf1 := keepF hb7 x0 (xf 1)
      have tf2 := keepF hb7 x0 (xf 2)
      have q1 : ¬ w.heap.size = w5.heap.size := by omega
      have q2 : ¬ w.heap.size + 1 = w5.heap.size := by omega
      have q3 : ¬ w5.heap.size = w.heap.size := by omega
      have q4 : ¬ w5.heap.size = w.heap.size + 1 := by omega
      clear hq hb7 k0 k1 k2 y0 y1 y2 yf x0 x1 x2 xf
      by_cases hE : E = 0
      · subst hE
        have HFIN := Lib.hid (deal_yes (day := day) (E := 0) (X := w5.heap.size) HQR.out hP hPs hlt HGW.out HS6.out HB7.out (by omega) (by omega) (by omega) HQ.out HE.out ⟨by simp, by simp⟩ hnx2.1 hnx2.2 hid (⟨by simp, by simp⟩) (⟨by show (0:Int) ≤ a; omega, by show a ≤ 4; omega⟩) rfl)
        go_wp2
        refine bodyPost_ret (v := .tuple #[.agg #[.slice b0 m0 d0, .slice b1 m1 d1, .slice b2 m2 d2], .int .i64 nx]) (by simp [results, Try.results13, go_sem, s0, s1, s2]) rfl HFIN.out
      · have g1 : (E != 0) = true := by simpa using hE
        have g2 : (E == 0) = false := by simpa using hE
        go_wp2
        refine bodyPost_ret (v := .tuple #[.agg #[.slice a0 n0 c0, .slice a1 n1 c1, .slice a2 n2 c2], .int .i64 day]) (by simp [results, Try.results13, go_sem, s0, s1, s2]) rfl (deal_no HR.out hPs hlt HGW.out HS6.out HB7.out (by omega))
  · obtain ⟨nx, hnx, hnx2⟩ : ∃ nx : Int, nx = max dp 100 ∧ (day ≤ nx ∧ nx ≤ day + 130) := ⟨_, rfl, by omega⟩
    obtain ⟨E, hE⟩ : ∃ E, rmE R ⟨0, nx, 1, id, 0, a, n⟩ = E := ⟨_, rfl⟩
    obtain ⟨Q, hQ⟩ : ∃ Q, rmR R ⟨0, nx, 1, id, 0, a, n⟩ = Q := ⟨_, rfl⟩
    have hC := fIssue_any _ _ _ _ R nx id a n w6 HR6.out hS hH hM (fun b hb => .inr hb)
    rw [hE, hQ] at hC
    have HC := Lib.hid hC
    have HE := Lib.hid hE
    have HQ := Lib.hid hQ
    clear hC hE hQ
    by_cases hmx : 100 ≤ dp
    rotate_left
    · obtain rfl : nx = 100 := by omega
      clear hnx
      go_wp2_with fail
      refine HC.out.mono ?_
      rintro e w7 hg
      obtain ⟨b0, m0, d0, b1, m1, d1, b2, m2, d2, rfl, hq, hb7⟩ := hg.shape
      clear hg
      have z7 := hb7.size
      have HQR := Lib.hid hq
      have HB7 := Lib.hid hb7
      have v0 := keepB hb7 k0
      have v1 := keepB hb7 k1
      have v2 := keepB hb7 k2
      have s0 := keepB hb7 y0
      have s1 := keepB hb7 y1
      have s2 := keepB hb7 y2
      have sf0 := keepF hb7 y0 (yf 0)
      have sf1 := keepF hb7 y0 (yf 1)
      have sf2 := keepF hb7 y0 (yf 2)
      have t0 := keepB hb7 x0
      have t1 := keepB hb7 x1
      have t2 := keepB hb7 x2
      have tf0 := keepF hb7 x0 (xf 0)
      have tf1 := keepF hb7 x0 (xf 1)
      have tf2 := keepF hb7 x0 (xf 2)
      have q1 : ¬ w.heap.size = w5.heap.size := by omega
      have q2 : ¬ w.heap.size + 1 = w5.heap.size := by omega
      have q3 : ¬ w5.heap.size = w.heap.size := by omega
      have q4 : ¬ w5.heap.size = w.heap.size + 1 := by omega
      clear hq hb7 k0 k1 k2 y0 y1 y2 yf x0 x1 x2 xf
      by_cases hE : E = 0
      · subst hE
        have HFIN := Lib.hid (deal_yes (day := day) (E := 0) (X := w5.heap.size) HQR.out hP hPs hlt HGW.out HS6.out HB7.out (by omega) (by omega) (by omega) HQ.out HE.out ⟨by simp, by simp⟩ hnx2.1 hnx2.2 hid (⟨by simp, by simp⟩) (⟨by show (0:Int) ≤ a; omega, by show a ≤ 4; omega⟩) rfl)
        go_wp2
        refine bodyPost_ret (v := .tuple #[.agg #[.slice b0 m0 d0, .slice b1 m1 d1, .slice b2 m2 d2], .int .i64 100]) (by simp [results, Try.results13, go_sem, s0, s1, s2]) rfl HFIN.out
      · have g1 : (E != 0) = true := by simpa using hE
        have g2 : (E == 0) = false := by simpa using hE
        go_wp2
        refine bodyPost_ret (v := .tuple #[.agg #[.slice a0 n0 c0, .slice a1 n1 c1, .slice a2 n2 c2], .int .i64 day]) (by simp [results, Try.results13, go_sem, s0, s1, s2]) rfl (deal_no HR.out hPs hlt HGW.out HS6.out HB7.out (by omega))
    · obtain rfl : nx = dp := by omega
      clear hnx
      go_wp2_with fail
      refine HC.out.mono ?_
      rintro e w7 hg
      obtain ⟨b0, m0, d0, b1, m1, d1, b2, m2, d2, rfl, hq, hb7⟩ := hg.shape
      clear hg
      have z7 := hb7.size
      have HQR := Lib.hid hq
      have HB7 := Lib.hid hb7
      have v0 := keepB hb7 k0
      have v1 := keepB hb7 k1
      have v2 := keepB hb7 k2
      have s0 := keepB hb7 y0
      have s1 := keepB hb7 y1
      have s2 := keepB hb7 y2
      have sf0 := keepF hb7 y0 (yf 0)
      have sf1 := keepF hb7 y0 (yf 1)
      have sf2 := keepF hb7 y0 (yf 2)
      have t0 := keepB hb7 x0
      have t1 := keepB hb7 x1
      have t2 := keepB hb7 x2
      have tf0 := keepF hb7 x0 (xf 0)
      have tf1 := keepF hb7 x0 (xf 1)
      have tf2 := keepF hb7 x0 (xf 2)
      have q1 : ¬ w.heap.size = w5.heap.size := by omega
      have q2 : ¬ w.heap.size + 1 = w5.heap.size := by omega
      have q3 : ¬ w5.heap.size = w.heap.size := by omega
      have q4 : ¬ w5.heap.size = w.heap.size + 1 := by omega
      clear hq hb7 k0 k1 k2 y0 y1 y2 yf x0 x1 x2 xf
      by_cases hE : E = 0
      · subst hE
        have HFIN := Lib.hid (deal_yes (day := day) (E := 0) (X := w5.heap.size) HQR.out hP hPs hlt HGW.out HS6.out HB7.out (by omega) (by omega) (by omega) HQ.out HE.out ⟨by simp, by simp⟩ hnx2.1 hnx2.2 hid (⟨by simp, by simp⟩) (⟨by show (0:Int) ≤ a; omega, by show a ≤ 4; omega⟩) rfl)
        go_wp2
        refine bodyPost_ret (v := .tuple #[.agg #[.slice b0 m0 d0, .slice b1 m1 d1, .slice b2 m2 d2], .int .i64 nx]) (by simp [results, Try.results13, go_sem, s0, s1, s2]) rfl HFIN.out
      · have g1 : (E != 0) = true := by simpa using hE
        have g2 : (E == 0) = false := by simpa using hE
        go_wp2
        refine bodyPost_ret (v := .tuple #[.agg #[.slice a0 n0 c0, .slice a1 n1 c1, .slice a2 n2 c2], .int .i64 day]) (by simp [results, Try.results13, go_sem, s0, s1, s2]) rfl (deal_no HR.out hPs hlt HGW.out HS6.out HB7.out (by omega))
  · obtain ⟨nx, hnx, hnx2⟩ : ∃ nx : Int, nx = max dp 100 ∧ (day ≤ nx ∧ nx ≤ day + 130) := ⟨_, rfl, by omega⟩
    obtain ⟨E, hE⟩ : ∃ E, rmE R ⟨0, nx, 1, id, 0, a, n⟩ = E := ⟨_, rfl⟩
    obtain ⟨Q, hQ⟩ : ∃ Q, rmR R ⟨0, nx, 1, id, 0, a, n⟩ = Q := ⟨_, rfl⟩
    have hC := fIssue_any _ _ _ _ R nx id a n w6 HR6.out hS hH hM (fun b hb => .inr hb)
    rw [hE, hQ] at hC
    have HC := Lib.hid hC
    have HE := Lib.hid hE
    have HQ := Lib.hid hQ
    clear hC hE hQ
    by_cases hmx : 100 ≤ dp
    rotate_left
    · obtain rfl : nx = 100 := by omega
      clear hnx
      go_wp2_with fail
      refine HC.out.mono ?_
      rintro e w7 hg
      obtain ⟨b0, m0, d0, b1, m1, d1, b2, m2, d2, rfl, hq, hb7⟩ := hg.shape
      clear hg
      have z7 := hb7.size
      have HQR := Lib.hid hq
      have HB7 := Lib.hid hb7
      have v0 := keepB hb7 k0
      have v1 := keepB hb7 k1
      have v2 := keepB hb7 k2
      have s0 := keepB hb7 y0
      have s1 := keepB hb7 y1
      have s2 := keepB hb7 y2
      have sf0 := keepF hb7 y0 (yf 0)
      have sf1 := keepF hb7 y0 (yf 1)
      have sf2 := keepF hb7 y0 (yf 2)
      have t0 := keepB hb7 x0
      have t1 := keepB hb7 x1
      have t2 := keepB hb7 x2
      have tf0 := keepF hb7 x0 (xf 0)
      have tf1 := keepF hb7 x0 (xf 1)
      have tf2 := keepF hb7 x0 (xf 2)
      have q1 : ¬ w.heap.size = w5.heap.size := by omega
      have q2 : ¬ w.heap.size + 1 = w5.heap.size := by omega
      have q3 : ¬ w5.heap.size = w.heap.size := by omega
      have q4 : ¬ w5.heap.size = w.heap.size + 1 := by omega
      clear hq hb7 k0 k1 k2 y0 y1 y2 yf x0 x1 x2 xf
      by_cases hE : E = 0
      · subst hE
        have HFIN := Lib.hid (deal_yes (day := day) (E := 0) (X := w5.heap.size) HQR.out hP hPs hlt HGW.out HS6.out HB7.out (by omega) (by omega) (by omega) HQ.out HE.out ⟨by simp, by simp⟩ hnx2.1 hnx2.2 hid (⟨by simp, by simp⟩) (⟨by show (0:Int) ≤ a; omega, by show a ≤ 4; omega⟩) rfl)
        go_wp2
        refine bodyPost_ret (v := .tuple #[.agg #[.slice b0 m0 d0, .slice b1 m1 d1, .slice b2 m2 d2], .int .i64 100]) (by simp [results, Try.results13, go_sem, s0, s1, s2]) rfl HFIN.out
      · have g1 : (E != 0) = true := by simpa using hE
        have g2 : (E == 0) = false := by simpa using hE
        go_wp2
        refine bodyPost_ret (v := .tuple #[.agg #[.slice a0 n0 c0, .slice a1 n1 c1, .slice a2 n2 c2], .int .i64 day]) (by simp [results, Try.results13, go_sem, s0, s1, s2]) rfl (deal_no HR.out hPs hlt HGW.out HS6.out HB7.out (by omega))
    · obtain rfl : nx = dp := by omega
      clear hnx
      go_wp2_with fail
      refine HC.out.mono ?_
      rintro e w7 hg
      obtain ⟨b0, m0, d0, b1, m1, d1, b2, m2, d2, rfl, hq, hb7⟩ := hg.shape
      clear hg
      have z7 := hb7.size
      have HQR := Lib.hid hq
      have HB7 := Lib.hid hb7
      have v0 := keepB hb7 k0
      have v1 := keepB hb7 k1
      have v2 := keepB hb7 k2
      have s0 := keepB hb7 y0
      have s1 := keepB hb7 y1
      have s2 := keepB hb7 y2
      have sf0 := keepF hb7 y0 (yf 0)
      have sf1 := keepF hb7 y0 (yf 1)
      have sf2 := keepF hb7 y0 (yf 2)
      have t0 := keepB hb7 x0
      have t1 := keepB hb7 x1
      have t2 := keepB hb7 x2
      have tf0 := keepF hb7 x0 (xf 0)
      have tf1 := keepF hb7 x0 (xf 1)
      have tf2 := keepF hb7 x0 (xf 2)
      have q1 : ¬ w.heap.size = w5.heap.size := by omega
      have q2 : ¬ w.heap.size + 1 = w5.heap.size := by omega
      have q3 : ¬ w5.heap.size = w.heap.size := by omega
      have q4 : ¬ w5.heap.size = w.heap.size + 1 := by omega
      clear hq hb7 k0 k1 k2 y0 y1 y2 yf x0 x1 x2 xf
      by_cases hE : E = 0
      · subst hE
        have HFIN := Lib.hid (deal_yes (day := day) (E := 0) (X := w5.heap.size) HQR.out hP hPs hlt HGW.out HS6.out HB7.out (by omega) (by omega) (by omega) HQ.out HE.out ⟨by simp, by simp⟩ hnx2.1 hnx2.2 hid (⟨by simp, by simp⟩) (⟨by show (0:Int) ≤ a; omega, by show a ≤ 4; omega⟩) rfl)
        go_wp2
        refine bodyPost_ret (v := .tuple #[.agg #[.slice b0 m0 d0, .slice b1 m1 d1, .slice b2 m2 d2], .int .i64 nx]) (by simp [results, Try.results13, go_sem, s0, s1, s2]) rfl HFIN.out
      · have g1 : (E != 0) = true := by simpa using hE
        have g2 : (E == 0) = false := by simpa using hE
        go_wp2
        refine bodyPost_ret (v := .tuple #[.agg #[.slice a0 n0 c0, .slice a1 n1 c1, .slice a2 n2 c2], .int .i64 day]) (by simp [results, Try.results13, go_sem, s0, s1, s2]) rfl (deal_no HR.out hPs hlt HGW.out HS6.out HB7.out (by omega))
  · have hnx2 : day ≤ dp ∧ dp ≤ day + 130 := by omega
    obtain ⟨E, hE⟩ : ∃ E, rmE R ⟨0, dp, 2, id, a, b, n⟩ = E := ⟨_, rfl⟩
    obtain ⟨Q, hQ⟩ : ∃ Q, rmR R ⟨0, dp, 2, id, a, b, n⟩ = Q := ⟨_, rfl⟩
    have hC := fTransfer_any _ _ _ _ R dp id a b n w6 HR6.out hS hH hM (fun b hb => .inr hb)
    rw [hE, hQ] at hC
    have HC := Lib.hid hC
    have HE := Lib.hid hE
    have HQ := Lib.hid hQ
    clear hC hE hQ
    go_wp2_with fail
    refine HC.out.mono ?_
    rintro e w7 hg
    obtain ⟨b0, m0, d0, b1, m1, d1, b2, m2, d2, rfl, hq, hb7⟩ := hg.shape
    clear hg
    have z7 := hb7.size
    have HQR := Lib.hid hq
    have HB7 := Lib.hid hb7
    have v0 := keepB hb7 k0
    have v1 := keepB hb7 k1
    have v2 := keepB hb7 k2
    have s0 := keepB hb7 y0
    have s1 := keepB hb7 y1
    have s2 := keepB hb7 y2
    have sf0 := keepF hb7 y0 (yf 0)
    have sf1 := keepF hb7 y0 (yf 1)
    have sf2 := keepF hb7 y0 (yf 2)
    have t0 := keepB hb7 x0
    have t1 := keepB hb7 x1
    have t2 := keepB hb7 x2
    have tf0 := keepF hb7 x0 (xf 0)
    have tf1 := keepF hb7 x0 (xf 1)
    have tf2 := keepF hb7 x0 (xf 2)
    have q1 : ¬ w.heap.size = w5.heap.size := by omega
    have q2 : ¬ w.heap.size + 1 = w5.heap.size := by omega
    have q3 : ¬ w5.heap.size = w.heap.size := by omega
    have q4 : ¬ w5.heap.size = w.heap.size + 1 := by omega
    clear hq hb7 k0 k1 k2 y0 y1 y2 yf x0 x1 x2 xf
    by_cases hE : E = 0
    · subst hE
      have HFIN := Lib.hid (deal_yes (day := day) (E := 0) (X := w5.heap.size) HQR.out hP hPs hlt HGW.out HS6.out HB7.out (by omega) (by omega) (by omega) HQ.out HE.out ⟨by simp, by simp⟩ hnx2.1 hnx2.2 hid (⟨by show (0:Int) ≤ a; omega, by show a ≤ 4; omega⟩) (⟨by show (0:Int) ≤ b; omega, by show b ≤ 4; omega⟩) rfl)
      go_wp2
      refine bodyPost_ret (v := .tuple #[.agg #[.slice b0 m0 d0, .slice b1 m1 d1, .slice b2 m2 d2], .int .i64 dp]) (by simp [results, Try.results13, go_sem, s0, s1, s2]) rfl HFIN.out
    · have g1 : (E != 0) = true := by simpa using hE
      have g2 : (E == 0) = false := by simpa using hE
      go_wp2
      refine bodyPost_ret (v := .tuple #[.agg #[.slice a0 n0 c0, .slice a1 n1 c1, .slice a2 n2 c2], .int .i64 day]) (by simp [results, Try.results13, go_sem, s0, s1, s2]) rfl (deal_no HR.out hPs hlt HGW.out HS6.out HB7.out (by omega))
  · have hnx2 : day ≤ dp ∧ dp ≤ day + 130 := by omega
    obtain ⟨E, hE⟩ : ∃ E, rmE R ⟨0, dp, 2, id, a, b, n⟩ = E := ⟨_, rfl⟩
    obtain ⟨Q, hQ⟩ : ∃ Q, rmR R ⟨0, dp, 2, id, a, b, n⟩ = Q := ⟨_, rfl⟩
    have hC := fTransfer_any _ _ _ _ R dp id a b n w6 HR6.out hS hH hM (fun b hb => .inr hb)
    rw [hE, hQ] at hC
    have HC := Lib.hid hC
    have HE := Lib.hid hE
    have HQ := Lib.hid hQ
    clear hC hE hQ
    go_wp2_with fail
    refine HC.out.mono ?_
    rintro e w7 hg
    obtain ⟨b0, m0, d0, b1, m1, d1, b2, m2, d2, rfl, hq, hb7⟩ := hg.shape
    clear hg
    have z7 := hb7.size
    have HQR := Lib.hid hq
    have HB7 := Lib.hid hb7
    have v0 := keepB hb7 k0
    have v1 := keepB hb7 k1
    have v2 := keepB hb7 k2
    have s0 := keepB hb7 y0
    have s1 := keepB hb7 y1
    have s2 := keepB hb7 y2
    have sf0 := keepF hb7 y0 (yf 0)
    have sf1 := keepF hb7 y0 (yf 1)
    have sf2 := keepF hb7 y0 (yf 2)
    have t0 := keepB hb7 x0
    have t1 := keepB hb7 x1
    have t2 := keepB hb7 x2
    have tf0 := keepF hb7 x0 (xf 0)
    have tf1 := keepF hb7 x0 (xf 1)
    have tf2 := keepF hb7 x0 (xf 2)
    have q1 : ¬ w.heap.size = w5.heap.size := by omega
    have q2 : ¬ w.heap.size + 1 = w5.heap.size := by omega
    have q3 : ¬ w5.heap.size = w.heap.size := by omega
    have q4 : ¬ w5.heap.size = w.heap.size + 1 := by omega
    clear hq hb7 k0 k1 k2 y0 y1 y2 yf x0 x1 x2 xf
    by_cases hE : E = 0
    · subst hE
      have HFIN := Lib.hid (deal_yes (day := day) (E := 0) (X := w5.heap.size) HQR.out hP hPs hlt HGW.out HS6.out HB7.out (by omega) (by omega) (by omega) HQ.out HE.out ⟨by simp, by simp⟩ hnx2.1 hnx2.2 hid (⟨by show (0:Int) ≤ a; omega, by show a ≤ 4; omega⟩) (⟨by show (0:Int) ≤ b; omega, by show b ≤ 4; omega⟩) rfl)
      go_wp2
      refine bodyPost_ret (v := .tuple #[.agg #[.slice b0 m0 d0, .slice b1 m1 d1, .slice b2 m2 d2], .int .i64 dp]) (by simp [results, Try.results13, go_sem, s0, s1, s2]) rfl HFIN.out
    · have g1 : (E != 0) = true := by simpa using hE
      have g2 : (E == 0) = false := by simpa using hE
      go_wp2
      refine bodyPost_ret (v := .tuple #[.agg #[.slice a0 n0 c0, .slice a1 n1 c1, .slice a2 n2 c2], .int .i64 day]) (by simp [results, Try.results13, go_sem, s0, s1, s2]) rfl (deal_no HR.out hPs hlt HGW.out HS6.out HB7.out (by omega))
  · have hnx2 : day ≤ dp ∧ dp ≤ day + 130 := by omega
    obtain ⟨E, hE⟩ : ∃ E, rmE R ⟨0, dp, 3, id, a, 0, n⟩ = E := ⟨_, rfl⟩
    obtain ⟨Q, hQ⟩ : ∃ Q, rmR R ⟨0, dp, 3, id, a, 0, n⟩ = Q := ⟨_, rfl⟩
    have hC := fRedeem_any _ _ _ _ R dp id a n w6 HR6.out hS hH hM (fun b hb => .inr hb)
    rw [hE, hQ] at hC
    have HC := Lib.hid hC
    have HE := Lib.hid hE
    have HQ := Lib.hid hQ
    clear hC hE hQ
    go_wp2_with fail
    refine HC.out.mono ?_
    rintro e w7 hg
    obtain ⟨b0, m0, d0, b1, m1, d1, b2, m2, d2, rfl, hq, hb7⟩ := hg.shape
    clear hg
    have z7 := hb7.size
    have HQR := Lib.hid hq
    have HB7 := Lib.hid hb7
    have v0 := keepB hb7 k0
    have v1 := keepB hb7 k1
    have v2 := keepB hb7 k2
    have s0 := keepB hb7 y0
    have s1 := keepB hb7 y1
    have s2 := keepB hb7 y2
    have sf0 := keepF hb7 y0 (yf 0)
    have sf1 := keepF hb7 y0 (yf 1)
    have sf2 := keepF hb7 y0 (yf 2)
    have t0 := keepB hb7 x0
    have t1 := keepB hb7 x1
    have t2 := keepB hb7 x2
    have tf0 := keepF hb7 x0 (xf 0)
    have tf1 := keepF hb7 x0 (xf 1)
    have tf2 := keepF hb7 x0 (xf 2)
    have q1 : ¬ w.heap.size = w5.heap.size := by omega
    have q2 : ¬ w.heap.size + 1 = w5.heap.size := by omega
    have q3 : ¬ w5.heap.size = w.heap.size := by omega
    have q4 : ¬ w5.heap.size = w.heap.size + 1 := by omega
    clear hq hb7 k0 k1 k2 y0 y1 y2 yf x0 x1 x2 xf
    by_cases hE : E = 0
    · subst hE
      have HFIN := Lib.hid (deal_yes (day := day) (E := 0) (X := w5.heap.size) HQR.out hP hPs hlt HGW.out HS6.out HB7.out (by omega) (by omega) (by omega) HQ.out HE.out ⟨by simp, by simp⟩ hnx2.1 hnx2.2 hid (⟨by show (0:Int) ≤ a; omega, by show a ≤ 4; omega⟩) (⟨by simp, by simp⟩) rfl)
      go_wp2
      refine bodyPost_ret (v := .tuple #[.agg #[.slice b0 m0 d0, .slice b1 m1 d1, .slice b2 m2 d2], .int .i64 dp]) (by simp [results, Try.results13, go_sem, s0, s1, s2]) rfl HFIN.out
    · have g1 : (E != 0) = true := by simpa using hE
      have g2 : (E == 0) = false := by simpa using hE
      go_wp2
      refine bodyPost_ret (v := .tuple #[.agg #[.slice a0 n0 c0, .slice a1 n1 c1, .slice a2 n2 c2], .int .i64 day]) (by simp [results, Try.results13, go_sem, s0, s1, s2]) rfl (deal_no HR.out hPs hlt HGW.out HS6.out HB7.out (by omega))
end Go.Proofs.Ytjfngogfiafipaa
