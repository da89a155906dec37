/- Src.Deal: what it may do with a register. Printed by wip/gen/deal.py. Registers of the source: what holds of them; Add at a world behind a step of the source. Src.Register: a right register. Printed by wip/gen/sreg.py. -/
import Derived.Test.YtpoidaenkjjdfaaZRefL
import Derived.Test.YtpoidaenkjjdfaaZRefN
import Derived.Test.YtpoidaenkjjdfaaZSrcOdd
import Derived.Test.YtpoidaenkjjdfaaZRefL5
namespace Go.Proofs.Ytpoidaenkjjdfaa
open Go.RowKit
set_option linter.unusedVariables false
set_option linter.unusedSimpArgs false
/-- what one deal may do -/
def Dealt (R : Reg) (day : Int) (R' : Reg) (day' : Int) : Prop :=
  (R' = R ∧ day' = day) ∨ ∃ m : Mv, m.day = day' ∧ (1 ≤ m.kind ∧ m.kind ≤ 3) ∧ rmE R m = 0 ∧ R' = rmR R m ∧ day ≤ day' ∧ day' ≤ day + 130 ∧ (1 ≤ m.s ∧ m.s ≤ 3) ∧ (0 ≤ m.f ∧ m.f ≤ 4) ∧ (0 ≤ m.t ∧ m.t ≤ 4)
/-- what Deal leaves -/
def DealtW (P : Nat → Prop) (sb : Nat) (R : Reg) (day : Int) (w : World) (e : Ending) (w' : World) : Prop :=
  ∃ vs vh vm R' day', e = .returned (.tuple #[.agg #[vs, vh, vm], .int .i64 day']) ∧ Dealt R day R' day' ∧ RgIn P w' vs vh vm R' ∧ SrcOk w' sb ∧ w.grownBy w' (some sb)
theorem src_fin {w w6 W : World} {sb : Nat} (g : w.grownBy w6 (some sb)) (hS : SrcOk w6 sb) (hb : Below w.heap.size w6 W) (hlt : sb < w.heap.size) : SrcOk W sb ∧ w.grownBy W (some sb) :=
  ⟨srcOk_below hS hb hlt, hb.os.trans g.os, hb.tape.trans g.tape, hb.output.trans g.output, Nat.le_trans g.size hb.size, fun k hk hne => (hb.block k hk).trans (g.block k hk hne)⟩
theorem below_set3 (w : World) {B b : Nat} (h : B ≤ b) (v0 v1 v2 : Value) : Below B w (((w.setCell ⟨b, 0, none⟩ v0).setCell ⟨b, 1, none⟩ v1).setCell ⟨b, 2, none⟩ v2) := (((Below.refl B w).setCell h _).setCell h _).setCell h _
/-- the end of a deal that is refused -/
theorem deal_no {P : Nat → Prop} {sb : Nat} {R : Reg} {day : Int} {w w6 w7 : World} {X : Nat} {a0 a1 a2 : Option Addr} {n0 c0 n1 c1 n2 c2 : Nat} {x0 x1 x2 : Value} (hr : RgIn P w (.slice a0 n0 c0) (.slice a1 n1 c1) (.slice a2 n2 c2) R) (hPs : ∀ b, P b → b ≠ sb) (hlt : sb < w.heap.size) (g : w.grownBy w6 (some sb)) (hS : SrcOk w6 sb) (h7 : Below w6.heap.size w6 w7) (hX : w.heap.size ≤ X) :
    DealtW P sb R day w (.returned (.tuple #[.agg #[.slice a0 n0 c0, .slice a1 n1 c1, .slice a2 n2 c2], .int .i64 day])) ((((((w7.setCell ⟨X, 0, none⟩ x0).setCell ⟨X, 1, none⟩ x1).setCell ⟨X, 2, none⟩ x2).setCell ⟨w.heap.size + 1, 0, none⟩ (.slice a0 n0 c0)).setCell ⟨w.heap.size + 1, 1, none⟩ (.slice a1 n1 c1)).setCell ⟨w.heap.size + 1, 2, none⟩ (.slice a2 n2 c2)) := by
  have z := g.size
  have hb : Below w.heap.size w6 w7 := h7.mono z
  have e := src_fin g hS ((hb.trans (below_set3 w7 hX x0 x1 x2)).trans (below_set3 _ (Nat.le_succ w.heap.size) (.slice a0 n0 c0) (.slice a1 n1 c1) (.slice a2 n2 c2))) hlt
  refine ⟨_, _, _, R, day, rfl, .inl ⟨rfl, rfl⟩, ?_, e.1, e.2⟩
  have h1 := (hr.mono (Q := fun b => P b ∧ b < w.heap.size) (fun b h hl => ⟨h, hl⟩)).grown g (fun b h => hPs b h.1)
  exact (((h1.below h7).set3 (b := X) (fun k hk => by omega)).set3 (b := w.heap.size + 1) (fun k hk => by omega)).mono (fun b h _ => h.1)
/-- the end of a deal that is made -/
theorem deal_yes {P : Nat → Prop} {sb : Nat} {R : Reg} {m : Mv} {E day : Int} {w w6 w7 : World} {X : Nat} {b0 b1 b2 : Option Addr} {m0 d0 m1 d1 m2 d2 : Nat} {Q : Reg} (hq : RgIn (fun b => (P b ∧ b < w.heap.size) ∨ w6.heap.size + 2 ≤ b) w7 (.slice b0 m0 d0) (.slice b1 m1 d1) (.slice b2 m2 d2) Q) (hP : ∀ b, w.heap.size ≤ b → P b) (hPs : ∀ b, P b → b ≠ sb) (hlt : sb < w.heap.size) (g : w.grownBy w6 (some sb)) (hS : SrcOk w6 sb) (h7 : Below w6.heap.size w6 w7) (hX : w.heap.size ≤ X) (hX2 : X < w6.heap.size) (hB : w.heap.size + 1 < w6.heap.size)
    (hQ : rmR R m = Q) (hE : rmE R m = 0) (hk : 1 ≤ m.kind ∧ m.kind ≤ 3) (hd : day ≤ m.day) (hd2 : m.day ≤ day + 130) (hs : 1 ≤ m.s ∧ m.s ≤ 3) (hf : 0 ≤ m.f ∧ m.f ≤ 4) (ht : 0 ≤ m.t ∧ m.t ≤ 4) {dd : Int} (hdd : m.day = dd) :
    DealtW P sb R day w (.returned (.tuple #[.agg #[.slice b0 m0 d0, .slice b1 m1 d1, .slice b2 m2 d2], .int .i64 dd])) ((((((w7.setCell ⟨X, 0, none⟩ (.slice b0 m0 d0)).setCell ⟨X, 1, none⟩ (.slice b1 m1 d1)).setCell ⟨X, 2, none⟩ (.slice b2 m2 d2)).setCell ⟨w.heap.size + 1, 0, none⟩ (.slice b0 m0 d0)).setCell ⟨w.heap.size + 1, 1, none⟩ (.slice b1 m1 d1)).setCell ⟨w.heap.size + 1, 2, none⟩ (.slice b2 m2 d2)) := by
  have z := g.size
  have hb : Below w.heap.size w6 w7 := h7.mono z
  have e := src_fin g hS ((hb.trans (below_set3 w7 hX (.slice b0 m0 d0) (.slice b1 m1 d1) (.slice b2 m2 d2))).trans (below_set3 _ (Nat.le_succ w.heap.size) (.slice b0 m0 d0) (.slice b1 m1 d1) (.slice b2 m2 d2))) hlt
  subst hdd
  refine ⟨_, _, _, Q, m.day, rfl, .inr ⟨m, rfl, hk, hE, hQ.symm, hd, hd2, hs, hf, ht⟩, ?_, e.1, e.2⟩
  exact ((hq.set3 (b := X) (fun k hk => by omega)).set3 (b := w.heap.size + 1) (fun k hk => by omega)).mono (fun b h _ => h.elim (fun h => h.1) (fun h => hP b (by omega)))
set_option maxHeartbeats 8000000 in
set_option maxRecDepth 100000 in
theorem deal_any (P : Nat → Prop) (sb : Nat) (vs vh vm : Value) (R : Reg) (day : Int) (w : World) (hs : SrcOk w sb) (hr : RgIn P w vs vh vm R) (hS : R.secs.length ≤ 1000000) (hH : R.hs.length ≤ 1000000) (hM : R.ms.length ≤ 1000000) (hP : ∀ b, w.heap.size ≤ b → P b) (hPs : ∀ b, P b → b ≠ sb) (hd0 : 0 ≤ day) (hd1 : day ≤ 1000000000) :
    Calls Try.prog 70 #[.pointer (some ⟨sb, 0, none⟩), .agg #[vs, vh, vm], .int .i64 day] w (DealtW P sb R day w) := by
  obtain ⟨a0, n0, c0, rfl, -, -, -⟩ := hr.S.shape
  obtain ⟨a1, n1, c1, rfl, -, -, -⟩ := hr.H.shape
  obtain ⟨a2, n2, c2, rfl, -, -, -⟩ := hr.M.shape
  have hlt := srcOk_lt hs
  have HR := Lib.hid hr
  clear hr
  go_enter Try.func70, Try.ntmps70
  go_wp2_with fail
  refine (pick_lit sb [0, 0, 1, 30] _ _ _ _ (srcOk_alloc (srcOk_alloc hs _) _) (by decide) (by decide) rfl rfl (by simp)).mono ?_
  rintro e w1 ⟨p, hp, rfl, hS1, hG1⟩
  have hp' : 0 ≤ p ∧ p ≤ 30 := by simp at hp; omega
  clear hp
  have hwn : IntKind.i64.wrap (day + p) = day + p := IntWalk.i64_in _ (by omega)
  go_wp2_with fail
  refine (range_any sb 1 3 _ hS1 (by decide) (by decide) (by decide)).mono ?_
  rintro e w2 ⟨id, hid, rfl, hS2, hG2⟩
  go_wp2_with fail
  refine (range_any sb 1 4 _ hS2 (by decide) (by decide) (by decide)).mono ?_
  rintro e w3 ⟨a, ha, rfl, hS3, hG3⟩
  go_wp2_with fail
  refine (range_any sb 1 4 _ hS3 (by decide) (by decide) (by decide)).mono ?_
  rintro e w4 ⟨b, hb, rfl, hS4, hG4⟩
  go_wp2_with fail
  refine (pick_lit sb [100, 300, 1000, 5000] _ _ _ _ hS4 (by decide) (by decide) rfl rfl (by simp)).mono ?_
  rintro e w5 ⟨n, hn, rfl, hS5, hG5⟩
  clear hn
  go_wp2_with fail
  refine (n_any sb 6 _ (srcOk_alloc hS5 _) (by decide)).mono ?_
  rintro e w6 ⟨q, hq, rfl, hS6, hG6⟩
  have hq6 : q = 0 ∨ q = 1 ∨ q = 2 ∨ q = 3 ∨ q = 4 ∨ q = 5 := by omega
  have hGa : ((w.alloc (.cells #[.slice a0 n0 c0, .slice a1 n1 c1, .slice a2 n2 c2] 27)).alloc (.cells #[.slice none 0 0, .slice none 0 0, .slice none 0 0] 27)).grownBy w5 (some sb) := grownBy_trans hG1 (grownBy_trans hG2 (grownBy_trans hG3 (grownBy_trans hG4 hG5)))
  have hG : ((w.alloc (.cells #[.slice a0 n0 c0, .slice a1 n1 c1, .slice a2 n2 c2] 27)).alloc (.cells #[.slice none 0 0, .slice none 0 0, .slice none 0 0] 27)).grownBy w6 (some sb) := grownBy_trans hGa (grownBy_trans (World.grownBy_alloc w5 _ _) hG6)
  have hGb : (w.alloc (.cells #[.slice a0 n0 c0, .slice a1 n1 c1, .slice a2 n2 c2] 27)).grownBy w6 (some sb) := grownBy_trans (World.grownBy_alloc _ _ _) hG
  have hGw : w.grownBy w6 (some sb) := grownBy_trans (World.grownBy_alloc _ _ _) hGb
  have z5 := hGa.size
  simp only [World.size_alloc] at z5
  have z6 := hG6.size
  simp only [World.size_alloc] at z6
  have hl1 : sb < (w.alloc (.cells #[.slice a0 n0 c0, .slice a1 n1 c1, .slice a2 n2 c2] 27)).heap.size := by simp; omega
  have k0 := box_cell hGb hlt 0 rfl
  have k1 := box_cell hGb hlt 1 rfl
  have k2 := box_cell hGb hlt 2 rfl
  have y0 : w6.cell? ⟨w.heap.size + 1, 0, none⟩ = some (.slice none 0 0) := by have := box_cell hG hl1 0 rfl; simpa using this
  have y1 : w6.cell? ⟨w.heap.size + 1, 1, none⟩ = some (.slice none 0 0) := by have := box_cell hG hl1 1 rfl; simpa using this
  have y2 : w6.cell? ⟨w.heap.size + 1, 2, none⟩ = some (.slice none 0 0) := by have := box_cell hG hl1 2 rfl; simpa using this
  have yf : ∀ o, w6.frozen? ⟨w.heap.size + 1, o, none⟩ = false := fun o => by have := box_frozen hG hl1 o; simpa using this
  have x0 := box_cell hG6 (srcOk_lt hS5) 0 rfl
  have x1 := box_cell hG6 (srcOk_lt hS5) 1 rfl
  have x2 := box_cell hG6 (srcOk_lt hS5) 2 rfl
  have xf := box_frozen hG6 (srcOk_lt hS5)
  have HGW := Lib.hid hGw
  have hr6 : RgIn (fun b => (P b ∧ b < w.heap.size) ∨ w6.heap.size + 2 ≤ b) w6 (.slice a0 n0 c0) (.slice a1 n1 c1) (.slice a2 n2 c2) R := ((HR.out.mono (Q := fun b => P b ∧ b < w.heap.size) (fun b h hl => ⟨h, hl⟩)).grown hGw (fun b h => hPs b h.1)).mono (fun b h _ => .inl h)
  have HR6 := Lib.hid hr6
  have HS6 := Lib.hid hS6
  clear hS1 hS2 hS3 hS4 hS5 hS6 hG1 hG2 hG3 hG4 hG5 hG6 hGa hG hGb hGw hr6 hl1 hs hq hwn
  obtain ⟨dp, hdp⟩ : ∃ dp, day + p = dp := ⟨_, rfl⟩
  rw [hdp]
  rcases hq6 with rfl | rfl | rfl | rfl | rfl | rfl
  · obtain ⟨nx, hnx, hnx2⟩ : ∃ nx : Int, nx = max dp 100 ∧ (day ≤ nx ∧ nx ≤ day + 130) := ⟨_, rfl, by omega⟩
    obtain ⟨E, hE⟩ : ∃ E, rmE R ⟨0, nx, 1, id, 0, a, n⟩ = E := ⟨_, rfl⟩
    obtain ⟨Q, hQ⟩ : ∃ Q, rmR R ⟨0, nx, 1, id, 0, a, n⟩ = Q := ⟨_, rfl⟩
    have hC := fIssue_any _ _ _ _ R nx id a n w6 HR6.out hS hH hM (fun b hb => .inr hb)
    rw [hE, hQ] at hC
    have HC := Lib.hid hC
    have HE := Lib.hid hE
    have HQ := Lib.hid hQ
    clear hC hE hQ
    by_cases hmx : 100 ≤ dp
    rotate_left
    · obtain rfl : nx = 100 := by omega
      clear hnx
      go_wp2_with fail
      refine HC.out.mono ?_
      rintro e w7 hg
      obtain ⟨b0, m0, d0, b1, m1, d1, b2, m2, d2, rfl, hq, hb7⟩ := hg.shape
      clear hg
      have z7 := hb7.size
      have HQR := Lib.hid hq
      have HB7 := Lib.hid hb7
      have v0 := keepB hb7 k0
      have v1 := keepB hb7 k1
      have v2 := keepB hb7 k2
      have s0 := keepB hb7 y0
      have s1 := keepB hb7 y1
      have s2 := keepB hb7 y2
      have sf0 := keepF hb7 y0 (yf 0)
      have sf1 := keepF hb7 y0 (yf 1)
      have sf2 := keepF hb7 y0 (yf 2)
      have t0 := keepB hb7 x0
      have t1 := keepB hb7 x1
      have t2 := keepB hb7 x2
      have tf0 := keepF hb7 x0 (xf 0)
      have tf1 := keepF hb7 x0 (xf 1)
      have tf2 := keepF hb7 x0 (xf 2)
      have q1 : ¬ w.heap.size = w5.heap.size := by omega
      have q2 : ¬ w.heap.size + 1 = w5.heap.size := by omega
      have q3 : ¬ w5.heap.size = w.heap.size := by omega
      have q4 : ¬ w5.heap.size = w.heap.size + 1 := by omega
      clear hq hb7 k0 k1 k2 y0 y1 y2 yf x0 x1 x2 xf
      by_cases hE : E = 0
      · subst hE
        have HFIN := Lib.hid (deal_yes (day := day) (E := 0) (X := w5.heap.size) HQR.out hP hPs hlt HGW.out HS6.out HB7.out (by omega) (by omega) (by omega) HQ.out HE.out ⟨by simp, by simp⟩ hnx2.1 hnx2.2 hid (⟨by simp, by simp⟩) (⟨by show (0:Int) ≤ a; omega, by show a ≤ 4; omega⟩) rfl)
        go_wp2
        refine bodyPost_ret (v := .tuple #[.agg #[.slice b0 m0 d0, .slice b1 m1 d1, .slice b2 m2 d2], .int .i64 100]) (by simp [results, Try.results70, go_sem, s0, s1, s2]) rfl HFIN.out
      · have g1 : (E != 0) = true := by simpa using hE
        have g2 : (E == 0) = false := by simpa using hE
        go_wp2
        refine bodyPost_ret (v := .tuple #[.agg #[.slice a0 n0 c0, .slice a1 n1 c1, .slice a2 n2 c2], .int .i64 day]) (by simp [results, Try.results70, go_sem, s0, s1, s2]) rfl (deal_no HR.out hPs hlt HGW.out HS6.out HB7.out (by omega))
    · obtain rfl : nx = dp := by omega
      clear hnx
      go_wp2_with fail
      refine HC.out.mono ?_
      rintro e w7 hg
      obtain ⟨b0, m0, d0, b1, m1, d1, b2, m2, d2, rfl, hq, hb7⟩ := hg.shape
      clear hg
      have z7 := hb7.size
      have HQR := Lib.hid hq
      have HB7 := Lib.hid hb7
      have v0 := keepB hb7 k0
      have v1 := keepB hb7 k1
      have v2 := keepB hb7 k2
      have s0 := keepB hb7 y0
      have s1 := keepB hb7 y1
      have s2 := keepB hb7 y2
      have sf0 := keepF hb7 y0 (yf 0)
      have sf1 := keepF hb7 y0 (yf 1)
      have sf2 := keepF hb7 y0 (yf 2)
      have t0 := keepB hb7 x0
      have t1 := keepB hb7 x1
      have t2 := keepB hb7 x2
      have tf0 := keepF hb7 x0 (xf 0)
      have tf1 := keepF hb7 x0 (xf 1)
      have tf2 := keepF hb7 x0 (xf 2)
      have q1 : ¬ w.heap.size = w5.heap.size := by omega
      have q2 : ¬ w.heap.size + 1 = w5.heap.size := by omega
      have q3 : ¬ w5.heap.size = w.heap.size := by omega
      have q4 : ¬ w5.heap.size = w.heap.size + 1 := by omega
      clear hq hb7 k0 k1 k2 y0 y1 y2 yf x0 x1 x2 xf
      by_cases hE : E = 0
      · subst hE
        have HFIN := Lib.hid (deal_yes (day := day) (E := 0) (X := w5.heap.size) HQR.out hP hPs hlt HGW.out HS6.out HB7.out (by omega) (by omega) (by omega) HQ.out HE.out ⟨by simp, by simp⟩ hnx2.1 hnx2.2 hid (⟨by simp, by simp⟩) (⟨by show (0:Int) ≤ a; omega, by show a ≤ 4; omega⟩) rfl)
        go_wp2
        refine bodyPost_ret (v := .tuple #[.agg #[.slice b0 m0 d0, .slice b1 m1 d1, .slice b2 m2 d2], .int .i64 nx]) (by simp [results, Try.results70, go_sem, s0, s1, s2]) rfl HFIN.out
      · have g1 : (E != 0) = true := by simpa using hE
        have g2 : (E == 0) = false := by simpa using hE
        go_wp2
        refine bodyPost_ret (v := .tuple #[.agg #[.slice a0 n0 c0, .slice a1 n1 c1, .slice a2 n2 c2], .int .i64 day]) (by simp [results, Try.results70, go_sem, s0, s1, s2]) rfl (deal_no HR.out hPs hlt HGW.out HS6.out HB7.out (by omega))
  · obtain ⟨nx, hnx, hnx2⟩ : ∃ nx : Int, nx = max dp 100 ∧ (day ≤ nx ∧ nx ≤ day + 130) := ⟨_, rfl, by omega⟩
    obtain ⟨E, hE⟩ : ∃ E, rmE R ⟨0, nx, 1, id, 0, a, n⟩ = E := ⟨_, rfl⟩
    obtain ⟨Q, hQ⟩ : ∃ Q, rmR R ⟨0, nx, 1, id, 0, a, n⟩ = Q := ⟨_, rfl⟩
    have hC := fIssue_any _ _ _ _ R nx id a n w6 HR6.out hS hH hM (fun b hb => .inr hb)
    rw [hE, hQ] at hC
    have HC := Lib.hid hC
    have HE := Lib.hid hE
    have HQ := Lib.hid hQ
    clear hC hE hQ
    by_cases hmx : 100 ≤ dp
    rotate_left
    · obtain rfl : nx = 100 := by omega
      clear hnx
      go_wp2_with fail
      refine HC.out.mono ?_
      rintro e w7 hg
      obtain ⟨b0, m0, d0, b1, m1, d1, b2, m2, d2, rfl, hq, hb7⟩ := hg.shape
      clear hg
      have z7 := hb7.size
      have HQR := Lib.hid hq
      have HB7 := Lib.hid hb7
      have v0 := keepB hb7 k0
      have v1 := keepB hb7 k1
      have v2 := keepB hb7 k2
      have s0 := keepB hb7 y0
      have s1 := keepB hb7 y1
      have s2 := keepB hb7 y2
      have sf0 := keepF hb7 y0 (yf 0)
      have sf1 := keepF hb7 y0 (yf 1)
      have sf2 := keepF hb7 y0 (yf 2)
      have t0 := keepB hb7 x0
      have t1 := keepB hb7 x1
      have t2 := keepB hb7 x2
      have tf0 := keepF hb7 x0 (xf 0)
      have tf1 := keepF hb7 x0 (xf 1)
      have tf2 := keepF hb7 x0 (xf 2)
      have q1 : ¬ w.heap.size = w5.heap.size := by omega
      have q2 : ¬ w.heap.size + 1 = w5.heap.size := by omega
      have q3 : ¬ w5.heap.size = w.heap.size := by omega
      have q4 : ¬ w5.heap.size = w.heap.size + 1 := by omega
      clear hq hb7 k0 k1 k2 y0 y1 y2 yf x0 x1 x2 xf
      by_cases hE : E = 0
      · subst hE
        have HFIN := Lib.hid (deal_yes (day := day) (E := 0) (X := w5.heap.size) HQR.out hP hPs hlt HGW.out HS6.out HB7.out (by omega) (by omega) (by omega) HQ.out HE.out ⟨by simp, by simp⟩ hnx2.1 hnx2.2 hid (⟨by simp, by simp⟩) (⟨by show (0:Int) ≤ a; omega, by show a ≤ 4; omega⟩) rfl)
        go_wp2
        refine bodyPost_ret (v := .tuple #[.agg #[.slice b0 m0 d0, .slice b1 m1 d1, .slice b2 m2 d2], .int .i64 100]) (by simp [results, Try.results70, go_sem, s0, s1, s2]) rfl HFIN.out
      · have g1 : (E != 0) = true := by simpa using hE
        have g2 : (E == 0) = false := by simpa using hE
        go_wp2
        refine bodyPost_ret (v := .tuple #[.agg #[.slice a0 n0 c0, .slice a1 n1 c1, .slice a2 n2 c2], .int .i64 day]) (by simp [results, Try.results70, go_sem, s0, s1, s2]) rfl (deal_no HR.out hPs hlt HGW.out HS6.out HB7.out (by omega))
    · obtain rfl : nx = dp := by omega
      clear hnx
      go_wp2_with fail
      refine HC.out.mono ?_
      rintro e w7 hg
      obtain ⟨b0, m0, d0, b1, m1, d1, b2, m2, d2, rfl, hq, hb7⟩ := hg.shape
      clear hg
      have z7 := hb7.size
      have HQR := Lib.hid hq
      have HB7 := Lib.hid hb7
      have v0 := keepB hb7 k0
      have v1 := keepB hb7 k1
      have v2 := keepB hb7 k2
      have s0 := keepB hb7 y0
      have s1 := keepB hb7 y1
      have s2 := keepB hb7 y2
      have sf0 := keepF hb7 y0 (yf 0)
      have sf1 := keepF hb7 y0 (yf 1)
      have sf2 := keepF hb7 y0 (yf 2)
      have t0 := keepB hb7 x0
      have t1 := keepB hb7 x1
      have t2 := keepB hb7 x2
      have tf0 := keepF hb7 x0 (xf 0)
      have tf1 := keepF hb7 x0 (xf 1)
      have tf2 := keepF hb7 x0 (xf 2)
      have q1 : ¬ w.heap.size = w5.heap.size := by omega
      have q2 : ¬ w.heap.size + 1 = w5.heap.size := by omega
      have q3 : ¬ w5.heap.size = w.heap.size := by omega
      have q4 : ¬ w5.heap.size = w.heap.size + 1 := by omega
      clear hq hb7 k0 k1 k2 y0 y1 y2 yf x0 x1 x2 xf
      by_cases hE : E = 0
      · subst hE
        have HFIN := Lib.hid (deal_yes (day := day) (E := 0) (X := w5.heap.size) HQR.out hP hPs hlt HGW.out HS6.out HB7.out (by omega) (by omega) (by omega) HQ.out HE.out ⟨by simp, by simp⟩ hnx2.1 hnx2.2 hid (⟨by simp, by simp⟩) (⟨by show (0:Int) ≤ a; omega, by show a ≤ 4; omega⟩) rfl)
        go_wp2
        refine bodyPost_ret (v := .tuple #[.agg #[.slice b0 m0 d0, .slice b1 m1 d1, .slice b2 m2 d2], .int .i64 nx]) (by simp [results, Try.results70, go_sem, s0, s1, s2]) rfl HFIN.out
      · have g1 : (E != 0) = true := by simpa using hE
        have g2 : (E == 0) = false := by simpa using hE
        go_wp2
        refine bodyPost_ret (v := .tuple #[.agg #[.slice a0 n0 c0, .slice a1 n1 c1, .slice a2 n2 c2], .int .i64 day]) (by simp [results, Try.results70, go_sem, s0, s1, s2]) rfl (deal_no HR.out hPs hlt HGW.out HS6.out HB7.out (by omega))
  · obtain ⟨nx, hnx, hnx2⟩ : ∃ nx : Int, nx = max dp 100 ∧ (day ≤ nx ∧ nx ≤ day + 130) := ⟨_, rfl, by omega⟩
    obtain ⟨E, hE⟩ : ∃ E, rmE R ⟨0, nx, 1, id, 0, a, n⟩ = E := ⟨_, rfl⟩
    obtain ⟨Q, hQ⟩ : ∃ Q, rmR R ⟨0, nx, 1, id, 0, a, n⟩ = Q := ⟨_, rfl⟩
    have hC := fIssue_any _ _ _ _ R nx id a n w6 HR6.out hS hH hM (fun b hb => .inr hb)
    rw [hE, hQ] at hC
    have HC := Lib.hid hC
    have HE := Lib.hid hE
    have HQ := Lib.hid hQ
    clear hC hE hQ
    by_cases hmx : 100 ≤ dp
    rotate_left
    · obtain rfl : nx = 100 := by omega
      clear hnx
      go_wp2_with fail
      refine HC.out.mono ?_
      rintro e w7 hg
      obtain ⟨b0, m0, d0, b1, m1, d1, b2, m2, d2, rfl, hq, hb7⟩ := hg.shape
      clear hg
      have z7 := hb7.size
      have HQR := Lib.hid hq
      have HB7 := Lib.hid hb7
      have v0 := keepB hb7 k0
      have v1 := keepB hb7 k1
      have v2 := keepB hb7 k2
      have s0 := keepB hb7 y0
      have s1 := keepB hb7 y1
      have s2 := keepB hb7 y2
      have sf0 := keepF hb7 y0 (yf 0)
      have sf1 := keepF hb7 y0 (yf 1)
      have sf2 := keepF hb7 y0 (yf 2)
      have t0 := keepB hb7 x0
      have t1 := keepB hb7 x1
      have t2 := keepB hb7 x2
      have tf0 := keepF hb7 x0 (xf 0)
      have tf1 := keepF hb7 x0 (xf 1)
      have tf2 := keepF hb7 x0 (xf 2)
      have q1 : ¬ w.heap.size = w5.heap.size := by omega
      have q2 : ¬ w.heap.size + 1 = w5.heap.size := by omega
      have q3 : ¬ w5.heap.size = w.heap.size := by omega
      have q4 : ¬ w5.heap.size = w.heap.size + 1 := by omega
      clear hq hb7 k0 k1 k2 y0 y1 y2 yf x0 x1 x2 xf
      by_cases hE : E = 0
      · subst hE
        have HFIN := Lib.hid (deal_yes (day := day) (E := 0) (X := w5.heap.size) HQR.out hP hPs hlt HGW.out HS6.out HB7.out (by omega) (by omega) (by omega) HQ.out HE.out ⟨by simp, by simp⟩ hnx2.1 hnx2.2 hid (⟨by simp, by simp⟩) (⟨by show (0:Int) ≤ a; omega, by show a ≤ 4; omega⟩) rfl)
        go_wp2
        refine bodyPost_ret (v := .tuple #[.agg #[.slice b0 m0 d0, .slice b1 m1 d1, .slice b2 m2 d2], .int .i64 100]) (by simp [results, Try.results70, go_sem, s0, s1, s2]) rfl HFIN.out
      · have g1 : (E != 0) = true := by simpa using hE
        have g2 : (E == 0) = false := by simpa using hE
        go_wp2
        refine bodyPost_ret (v := .tuple #[.agg #[.slice a0 n0 c0, .slice a1 n1 c1, .slice a2 n2 c2], .int .i64 day]) (by simp [results, Try.results70, go_sem, s0, s1, s2]) rfl (deal_no HR.out hPs hlt HGW.out HS6.out HB7.out (by omega))
    · obtain rfl : nx = dp := by omega
      clear hnx
      go_wp2_with fail
      refine HC.out.mono ?_
      rintro e w7 hg
      obtain ⟨b0, m0, d0, b1, m1, d1, b2, m2, d2, rfl, hq, hb7⟩ := hg.shape
      clear hg
      have z7 := hb7.size
      have HQR := Lib.hid hq
      have HB7 := Lib.hid hb7
      have v0 := keepB hb7 k0
      have v1 := keepB hb7 k1
      have v2 := keepB hb7 k2
      have s0 := keepB hb7 y0
      have s1 := keepB hb7 y1
      have s2 := keepB hb7 y2
      have sf0 := keepF hb7 y0 (yf 0)
      have sf1 := keepF hb7 y0 (yf 1)
      have sf2 := keepF hb7 y0 (yf 2)
      have t0 := keepB hb7 x0
      have t1 := keepB hb7 x1
      have t2 := keepB hb7 x2
      have tf0 := keepF hb7 x0 (xf 0)
      have tf1 := keepF hb7 x0 (xf 1)
      have tf2 := keepF hb7 x0 (xf 2)
      have q1 : ¬ w.heap.size = w5.heap.size := by omega
      have q2 : ¬ w.heap.size + 1 = w5.heap.size := by omega
      have q3 : ¬ w5.heap.size = w.heap.size := by omega
      have q4 : ¬ w5.heap.size = w.heap.size + 1 := by omega
      clear hq hb7 k0 k1 k2 y0 y1 y2 yf x0 x1 x2 xf
      by_cases hE : E = 0
      · subst hE
        have HFIN := Lib.hid (deal_yes (day := day) (E := 0) (X := w5.heap.size) HQR.out hP hPs hlt HGW.out HS6.out HB7.out (by omega) (by omega) (by omega) HQ.out HE.out ⟨by simp, by simp⟩ hnx2.1 hnx2.2 hid (⟨by simp, by simp⟩) (⟨by show (0:Int) ≤ a; omega, by show a ≤ 4; omega⟩) rfl)
        go_wp2
        refine bodyPost_ret (v := .tuple #[.agg #[.slice b0 m0 d0, .slice b1 m1 d1, .slice b2 m2 d2], .int .i64 nx]) (by simp [results, Try.results70, go_sem, s0, s1, s2]) rfl HFIN.out
      · have g1 : (E != 0) = true := by simpa using hE
        have g2 : (E == 0) = false := by simpa using hE
        go_wp2
        refine bodyPost_ret (v := .tuple #[.agg #[.slice a0 n0 c0, .slice a1 n1 c1, .slice a2 n2 c2], .int .i64 day]) (by simp [results, Try.results70, go_sem, s0, s1, s2]) rfl (deal_no HR.out hPs hlt HGW.out HS6.out HB7.out (by omega))
  · have hnx2 : day ≤ dp ∧ dp ≤ day + 130 := by omega
    obtain ⟨E, hE⟩ : ∃ E, rmE R ⟨0, dp, 2, id, a, b, n⟩ = E := ⟨_, rfl⟩
    obtain ⟨Q, hQ⟩ : ∃ Q, rmR R ⟨0, dp, 2, id, a, b, n⟩ = Q := ⟨_, rfl⟩
    have hC := fTransfer_any _ _ _ _ R dp id a b n w6 HR6.out hS hH hM (fun b hb => .inr hb)
    rw [hE, hQ] at hC
    have HC := Lib.hid hC
    have HE := Lib.hid hE
    have HQ := Lib.hid hQ
    clear hC hE hQ
    go_wp2_with fail
    refine HC.out.mono ?_
    rintro e w7 hg
    obtain ⟨b0, m0, d0, b1, m1, d1, b2, m2, d2, rfl, hq, hb7⟩ := hg.shape
    clear hg
    have z7 := hb7.size
    have HQR := Lib.hid hq
    have HB7 := Lib.hid hb7
    have v0 := keepB hb7 k0
    have v1 := keepB hb7 k1
    have v2 := keepB hb7 k2
    have s0 := keepB hb7 y0
    have s1 := keepB hb7 y1
    have s2 := keepB hb7 y2
    have sf0 := keepF hb7 y0 (yf 0)
    have sf1 := keepF hb7 y0 (yf 1)
    have sf2 := keepF hb7 y0 (yf 2)
    have t0 := keepB hb7 x0
    have t1 := keepB hb7 x1
    have t2 := keepB hb7 x2
    have tf0 := keepF hb7 x0 (xf 0)
    have tf1 := keepF hb7 x0 (xf 1)
    have tf2 := keepF hb7 x0 (xf 2)
    have q1 : ¬ w.heap.size = w5.heap.size := by omega
    have q2 : ¬ w.heap.size + 1 = w5.heap.size := by omega
    have q3 : ¬ w5.heap.size = w.heap.size := by omega
    have q4 : ¬ w5.heap.size = w.heap.size + 1 := by omega
    clear hq hb7 k0 k1 k2 y0 y1 y2 yf x0 x1 x2 xf
    by_cases hE : E = 0
    · subst hE
      have HFIN := Lib.hid (deal_yes (day := day) (E := 0) (X := w5.heap.size) HQR.out hP hPs hlt HGW.out HS6.out HB7.out (by omega) (by omega) (by omega) HQ.out HE.out ⟨by simp, by simp⟩ hnx2.1 hnx2.2 hid (⟨by show (0:Int) ≤ a; omega, by show a ≤ 4; omega⟩) (⟨by show (0:Int) ≤ b; omega, by show b ≤ 4; omega⟩) rfl)
      go_wp2
      refine bodyPost_ret (v := .tuple #[.agg #[.slice b0 m0 d0, .slice b1 m1 d1, .slice b2 m2 d2], .int .i64 dp]) (by simp [results, Try.results70, go_sem, s0, s1, s2]) rfl HFIN.out
    · have g1 : (E != 0) = true := by simpa using hE
      have g2 : (E == 0) = false := by simpa using hE
      go_wp2
      refine bodyPost_ret (v := .tuple #[.agg #[.slice a0 n0 c0, .slice a1 n1 c1, .slice a2 n2 c2], .int .i64 day]) (by simp [results, Try.results70, go_sem, s0, s1, s2]) rfl (deal_no HR.out hPs hlt HGW.out HS6.out HB7.out (by omega))
  · have hnx2 : day ≤ dp ∧ dp ≤ day + 130 := by omega
    obtain ⟨E, hE⟩ : ∃ E, rmE R ⟨0, dp, 2, id, a, b, n⟩ = E := ⟨_, rfl⟩
    obtain ⟨Q, hQ⟩ : ∃ Q, rmR R ⟨0, dp, 2, id, a, b, n⟩ = Q := ⟨_, rfl⟩
    have hC := fTransfer_any _ _ _ _ R dp id a b n w6 HR6.out hS hH hM (fun b hb => .inr hb)
    rw [hE, hQ] at hC
    have HC := Lib.hid hC
    have HE := Lib.hid hE
    have HQ := Lib.hid hQ
    clear hC hE hQ
    go_wp2_with fail
    refine HC.out.mono ?_
    rintro e w7 hg
    obtain ⟨b0, m0, d0, b1, m1, d1, b2, m2, d2, rfl, hq, hb7⟩ := hg.shape
    clear hg
    have z7 := hb7.size
    have HQR := Lib.hid hq
    have HB7 := Lib.hid hb7
    have v0 := keepB hb7 k0
    have v1 := keepB hb7 k1
    have v2 := keepB hb7 k2
    have s0 := keepB hb7 y0
    have s1 := keepB hb7 y1
    have s2 := keepB hb7 y2
    have sf0 := keepF hb7 y0 (yf 0)
    have sf1 := keepF hb7 y0 (yf 1)
    have sf2 := keepF hb7 y0 (yf 2)
    have t0 := keepB hb7 x0
    have t1 := keepB hb7 x1
    have t2 := keepB hb7 x2
    have tf0 := keepF hb7 x0 (xf 0)
    have tf1 := keepF hb7 x0 (xf 1)
    have tf2 := keepF hb7 x0 (xf 2)
    have q1 : ¬ w.heap.size = w5.heap.size := by omega
    have q2 : ¬ w.heap.size + 1 = w5.heap.size := by omega
    have q3 : ¬ w5.heap.size = w.heap.size := by omega
    have q4 : ¬ w5.heap.size = w.heap.size + 1 := by omega
    clear hq hb7 k0 k1 k2 y0 y1 y2 yf x0 x1 x2 xf
    by_cases hE : E = 0
    · subst hE
      have HFIN := Lib.hid (deal_yes (day := day) (E := 0) (X := w5.heap.size) HQR.out hP hPs hlt HGW.out HS6.out HB7.out (by omega) (by omega) (by omega) HQ.out HE.out ⟨by simp, by simp⟩ hnx2.1 hnx2.2 hid (⟨by show (0:Int) ≤ a; omega, by show a ≤ 4; omega⟩) (⟨by show (0:Int) ≤ b; omega, by show b ≤ 4; omega⟩) rfl)
      go_wp2
      refine bodyPost_ret (v := .tuple #[.agg #[.slice b0 m0 d0, .slice b1 m1 d1, .slice b2 m2 d2], .int .i64 dp]) (by simp [results, Try.results70, go_sem, s0, s1, s2]) rfl HFIN.out
    · have g1 : (E != 0) = true := by simpa using hE
      have g2 : (E == 0) = false := by simpa using hE
      go_wp2
      refine bodyPost_ret (v := .tuple #[.agg #[.slice a0 n0 c0, .slice a1 n1 c1, .slice a2 n2 c2], .int .i64 day]) (by simp [results, Try.results70, go_sem, s0, s1, s2]) rfl (deal_no HR.out hPs hlt HGW.out HS6.out HB7.out (by omega))
  · have hnx2 : day ≤ dp ∧ dp ≤ day + 130 := by omega
    obtain ⟨E, hE⟩ : ∃ E, rmE R ⟨0, dp, 3, id, a, 0, n⟩ = E := ⟨_, rfl⟩
    obtain ⟨Q, hQ⟩ : ∃ Q, rmR R ⟨0, dp, 3, id, a, 0, n⟩ = Q := ⟨_, rfl⟩
    have hC := fRedeem_any _ _ _ _ R dp id a n w6 HR6.out hS hH hM (fun b hb => .inr hb)
    rw [hE, hQ] at hC
    have HC := Lib.hid hC
    have HE := Lib.hid hE
    have HQ := Lib.hid hQ
    clear hC hE hQ
    go_wp2_with fail
    refine HC.out.mono ?_
    rintro e w7 hg
    obtain ⟨b0, m0, d0, b1, m1, d1, b2, m2, d2, rfl, hq, hb7⟩ := hg.shape
    clear hg
    have z7 := hb7.size
    have HQR := Lib.hid hq
    have HB7 := Lib.hid hb7
    have v0 := keepB hb7 k0
    have v1 := keepB hb7 k1
    have v2 := keepB hb7 k2
    have s0 := keepB hb7 y0
    have s1 := keepB hb7 y1
    have s2 := keepB hb7 y2
    have sf0 := keepF hb7 y0 (yf 0)
    have sf1 := keepF hb7 y0 (yf 1)
    have sf2 := keepF hb7 y0 (yf 2)
    have t0 := keepB hb7 x0
    have t1 := keepB hb7 x1
    have t2 := keepB hb7 x2
    have tf0 := keepF hb7 x0 (xf 0)
    have tf1 := keepF hb7 x0 (xf 1)
    have tf2 := keepF hb7 x0 (xf 2)
    have q1 : ¬ w.heap.size = w5.heap.size := by omega
    have q2 : ¬ w.heap.size + 1 = w5.heap.size := by omega
    have q3 : ¬ w5.heap.size = w.heap.size := by omega
    have q4 : ¬ w5.heap.size = w.heap.size + 1 := by omega
    clear hq hb7 k0 k1 k2 y0 y1 y2 yf x0 x1 x2 xf
    by_cases hE : E = 0
    · subst hE
      have HFIN := Lib.hid (deal_yes (day := day) (E := 0) (X := w5.heap.size) HQR.out hP hPs hlt HGW.out HS6.out HB7.out (by omega) (by omega) (by omega) HQ.out HE.out ⟨by simp, by simp⟩ hnx2.1 hnx2.2 hid (⟨by show (0:Int) ≤ a; omega, by show a ≤ 4; omega⟩) (⟨by simp, by simp⟩) rfl)
      go_wp2
      refine bodyPost_ret (v := .tuple #[.agg #[.slice b0 m0 d0, .slice b1 m1 d1, .slice b2 m2 d2], .int .i64 dp]) (by simp [results, Try.results70, go_sem, s0, s1, s2]) rfl HFIN.out
    · have g1 : (E != 0) = true := by simpa using hE
      have g2 : (E == 0) = false := by simpa using hE
      go_wp2
      refine bodyPost_ret (v := .tuple #[.agg #[.slice a0 n0 c0, .slice a1 n1 c1, .slice a2 n2 c2], .int .i64 day]) (by simp [results, Try.results70, go_sem, s0, s1, s2]) rfl (deal_no HR.out hPs hlt HGW.out HS6.out HB7.out (by omega))
end Go.Proofs.Ytpoidaenkjjdfaa
namespace Go.Proofs.Ytpoidaenkjjdfaa
open Go.RowKit
set_option linter.unusedVariables false
set_option linter.unusedSimpArgs false
/-- the securities and moves that the source makes -/
structure RegLike (R : Reg) (day : Int) : Prop where
  ok : RgOk R
  rd : rgDay R = day
  day0 : 0 ≤ day
  secs : ∀ s ∈ R.secs, (1 ≤ s.id ∧ s.id ≤ 3) ∧ SecLike s.un s.is s.ma s.ra s.ev
  ms : ∀ m ∈ R.ms, (1 ≤ m.s ∧ m.s ≤ 3) ∧ (0 ≤ m.f ∧ m.f ≤ 4) ∧ (0 ≤ m.t ∧ m.t ≤ 4) ∧ (1 ≤ m.kind ∧ m.kind ≤ 3)
  ne : 0 < R.secs.length
/-- what Register leaves -/
def RegW (most : Nat) (w : World) (sb : Nat) (e : Ending) (w' : World) : Prop :=
  ∃ vs vh vm R day, e = .returned (.tuple #[.agg #[vs, vh, vm], .int .i64 day]) ∧ RegLike R day ∧ R.ms.length ≤ most ∧ day ≤ 130 * most ∧ RgIn (fun b => w.heap.size + 2 ≤ b) w' vs vh vm R ∧ SrcOk w' sb ∧ w.grownBy w' (some sb)
theorem RegLike.dealt {R R' : Reg} {day day' : Int} (h : RegLike R day) (hd : Dealt R day R' day') : RegLike R' day' ∧ R'.ms.length ≤ R.ms.length + 1 ∧ day' ≤ day + 130 ∧ R'.secs = R.secs := by
  rcases hd with ⟨rfl, rfl⟩ | ⟨m, rfl, hk, hE, rfl, d0, d1, hs, hf, ht⟩
  · exact ⟨h, by omega, by omega, rfl⟩
  · have hmv := RgOk.move hE hk
    have hr := rmR_ok hE
    have h0 := h.day0
    refine ⟨⟨hmv.1, hmv.2, by omega, ?_, ?_, by rw [hr]; exact h.ne⟩, ?_, d1, ?_⟩
    · rw [hr]; exact h.secs
    · rw [hr]
      intro x hx
      rcases List.mem_append.1 hx with hx | hx
      · exact h.ms x hx
      · simp only [List.mem_singleton] at hx
        subst hx
        exact ⟨hs, hf, ht, hk⟩
    · rw [hr]; simp
    · rw [hr]
/-- what the first loop holds -/
structure AddedOk (R : Reg) (k : Int) : Prop where
  ok : RgOk R
  ms : R.ms = []
  secs : ∀ s ∈ R.secs, (1 ≤ s.id ∧ s.id < k) ∧ SecLike s.un s.is s.ma s.ra s.ev
  ne : (k = 1 ∧ R.secs = []) ∨ 0 < R.secs.length
theorem AddedOk.like {R : Reg} {k : Int} (h : AddedOk R k) (hk : k ≤ 4) (h1 : k ≠ 1) : RegLike R 0 := by
  refine ⟨h.ok, ?_, by omega, fun s hs => ⟨by have := (h.secs s hs).1; omega, (h.secs s hs).2⟩, fun m hm => by rw [h.ms] at hm; simp at hm, h.ne.resolve_left fun q => h1 q.1⟩
  rw [h.ok.day, h.ms]; rfl
theorem SecLike.ok1 {un is ma ra ev : Int} (h : SecLike un is ma ra ev) : secB 1 un is ma ra ev = true := by
  obtain ⟨h1, h2, h3, h4, h5, k, h6, h7, h8⟩ := h
  simp at h1 h2 h3 h4
  rcases h4 with rfl | rfl | rfl | rfl | rfl
  · have e : max (0 : Int) 1 = 1 := by decide
    rw [e] at h8
    exact secB_iff.2 ⟨by omega, by omega, by omega, by omega, by omega, by omega, by omega, by omega, by omega, by omega, .inl ⟨rfl, by omega, h5 rfl⟩⟩
  · have e : max (1 : Int) 1 = 1 := by decide
    rw [e] at h8
    exact secB_iff.2 ⟨by omega, by omega, by omega, by omega, by omega, by omega, by omega, by omega, by omega, by omega, .inr (.inl ⟨rfl, by omega⟩)⟩
  · have e : max (3 : Int) 1 = 3 := by decide
    rw [e] at h8
    exact secB_iff.2 ⟨by omega, by omega, by omega, by omega, by omega, by omega, by omega, by omega, by omega, by omega, .inr (.inr (.inl ⟨rfl, by omega⟩))⟩
  · have e : max (6 : Int) 1 = 6 := by decide
    rw [e] at h8
    exact secB_iff.2 ⟨by omega, by omega, by omega, by omega, by omega, by omega, by omega, by omega, by omega, by omega, .inr (.inr (.inr (.inl ⟨rfl, by omega⟩)))⟩
  · have e : max (12 : Int) 1 = 12 := by decide
    rw [e] at h8
    exact secB_iff.2 ⟨by omega, by omega, by omega, by omega, by omega, by omega, by omega, by omega, by omega, by omega, .inr (.inr (.inr (.inr ⟨rfl, by omega⟩)))⟩
theorem AddedOk.next {R : Reg} {k un is ma ra ev : Int} {ix : Bool} (h : AddedOk R k) (hl : SecLike un is ma ra ev) (hE : raE R ⟨k, un, is, ma, ra, ev, ix⟩ ≠ 0) : AddedOk R (k + 1) := by
  refine ⟨h.ok, h.ms, fun s hs => ⟨by have := (h.secs s hs).1; omega, (h.secs s hs).2⟩, .inr ?_⟩
  rcases h.ne with ⟨rfl, h0⟩ | h0
  · exact absurd (by
      unfold raE
      rw [if_pos (chkE_iff.2 h.ok), h0]
      have := hl.ok1
      simp [secOk, this, isS]) hE
  · exact h0
theorem AddedOk.add {R : Reg} {k un is ma ra ev : Int} {ix : Bool} (h : AddedOk R k) (hk : 1 ≤ k) (hl : SecLike un is ma ra ev) (hE : raE R ⟨k, un, is, ma, ra, ev, ix⟩ = 0) : AddedOk (raR R ⟨k, un, is, ma, ra, ev, ix⟩) (k + 1) ∧ 0 < (raR R ⟨k, un, is, ma, ra, ev, ix⟩).secs.length := by
  have ha := RgOk.add hE h.ms
  refine ⟨⟨ha.1, ha.2, fun s hs => ?_, .inr (by rw [raR_ok hE]; simp only [List.length_append, List.length_cons]; omega)⟩, ?_⟩
  · rw [raR_ok hE] at hs
    rcases List.mem_append.1 hs with hs | hs
    · have := h.secs s (List.mem_of_mem_take hs); exact ⟨by omega, this.2⟩
    · rcases List.mem_cons.1 hs with rfl | hs
      · exact ⟨⟨hk, by simp only; omega⟩, hl⟩
      · have := h.secs s (List.mem_of_mem_drop hs); exact ⟨by omega, this.2⟩
  · rw [raR_ok hE]; simp only [List.length_append, List.length_cons]; omega
/-- Add at a world behind a step of the source -/
theorem add_at {sb : Nat} {w w1 Wc : World} {vs vh vm : Value} {R : Reg} {k un is ma ra ev : Int} {ix : Bool} (hR1 : RgIn (fun b => w.heap.size + 2 ≤ b) w1 vs vh vm R) (hK : w1.grownBy Wc (some sb)) (hlt : sb < w.heap.size) (hok : RgOk R) (hnz : vs = .slice none 0 0 ∨ 0 < R.secs.length) :
    Calls Try.prog 22 #[.agg #[vs, vh, vm], .agg #[.int .i64 k, .int .i64 un, .int .i64 is, .int .i64 ma, .int .i64 ra, .int .i64 ev, .bool ix]] Wc (GaveR (fun b => (w.heap.size + 2 ≤ b ∧ b < w1.heap.size) ∨ Wc.heap.size ≤ b) (raR R ⟨k, un, is, ma, ra, ev, ix⟩) (raE R ⟨k, un, is, ma, ra, ev, ix⟩) Wc) :=
  fadd_any _ vs vh vm R k un is ma ra ev ix Wc (((hR1.mono (Q := fun b => w.heap.size + 2 ≤ b ∧ b < w1.heap.size) (fun b h hl => ⟨h, hl⟩)).grown hK (fun b h => by omega)).mono (fun b h _ => .inl h)) (by have := hok.ls; omega) (by have := hok.hl; omega) (by have := hok.lm; omega) (fun b h => .inr h) hnz
/-- what holds where the security has been added, or refused -/
structure AddAt (w : World) (sb : Nat) (w1 : World) (g : Nat) (Q : Reg) (b0 b1 b2 : Option Addr) (m0 d0 m1 d1 m2 d2 : Nat) (wx : World) : Prop where
  g0 : wx.cell? ⟨g, 0, none⟩ = some (.slice b0 m0 d0)
  g1 : wx.cell? ⟨g, 1, none⟩ = some (.slice b1 m1 d1)
  g2 : wx.cell? ⟨g, 2, none⟩ = some (.slice b2 m2 d2)
  old : ∀ k, k < w1.heap.size → k ≠ sb → wx.heap[k]? = w1.heap[k]?
  rg : RgIn (fun b => w.heap.size + 2 ≤ b) wx (.slice b0 m0 d0) (.slice b1 m1 d1) (.slice b2 m2 d2) Q
  src : SrcOk wx sb
  gr : w1.grownBy wx (some sb)
theorem added_set {w w1 Wc w3 : World} {sb g : Nat} {Q : Reg} {b0 b1 b2 : Option Addr} {m0 d0 m1 d1 m2 d2 : Nat} {T : TypeId} {u0 u1 u2 : Value} (hlt : sb < w.heap.size) (hz1 : w.heap.size + 2 ≤ w1.heap.size) (hK : w1.grownBy Wc (some sb)) (hSc : SrcOk Wc sb) (h3 : Below Wc.heap.size Wc w3) (hq : RgIn (fun b => (w.heap.size + 2 ≤ b ∧ b < w1.heap.size) ∨ Wc.heap.size ≤ b) w3 (.slice b0 m0 d0) (.slice b1 m1 d1) (.slice b2 m2 d2) Q)
    (hg : w1.heap.size ≤ g) (hg2 : g < Wc.heap.size) (hb : Wc.heap[g]? = some (.cells #[u0, u1, u2] T (0, 0))) :
    AddAt w sb w1 g Q b0 b1 b2 m0 d0 m1 d1 m2 d2 (((w3.setCell ⟨g, 0, none⟩ (.slice b0 m0 d0)).setCell ⟨g, 1, none⟩ (.slice b1 m1 d1)).setCell ⟨g, 2, none⟩ (.slice b2 m2 d2)) := by
  have hb3 := (h3.block g hg2).trans hb
  have e0 := heap_setCell_same w3 _ 0 _ _ (.slice b0 m0 d0) hb3
  have e1 := heap_setCell_same _ _ 1 _ _ (.slice b1 m1 d1) e0
  have e2 := heap_setCell_same _ _ 2 _ _ (.slice b2 m2 d2) e1
  have zK := hK.size
  have hB : Below w1.heap.size Wc (((w3.setCell ⟨g, 0, none⟩ (.slice b0 m0 d0)).setCell ⟨g, 1, none⟩ (.slice b1 m1 d1)).setCell ⟨g, 2, none⟩ (.slice b2 m2 d2)) := (h3.mono zK).trans (below_set3 w3 hg _ _ _)
  refine ⟨cell_heap (i := 0) e2 rfl, cell_heap (i := 1) e2 rfl, cell_heap (i := 2) e2 rfl, fun k hk hne => (hB.block k hk).trans (hK.block k hk (by simpa using hne)), ?_, srcOk_below hSc hB (by omega), ⟨hB.os.trans hK.os, hB.tape.trans hK.tape, hB.output.trans hK.output, Nat.le_trans hK.size hB.size, fun k hk hne => (hB.block k hk).trans (hK.block k hk hne)⟩⟩
  exact (hq.set3 (fun k hk => by omega)).mono (fun b h _ => h.elim (fun h => h.1) (fun h => by omega))
theorem added_new {w w1 Wc w3 : World} {sb : Nat} {Q : Reg} {b0 b1 b2 : Option Addr} {m0 d0 m1 d1 m2 d2 : Nat} {T : TypeId} (hlt : sb < w.heap.size) (hz1 : w.heap.size + 2 ≤ w1.heap.size) (hK : w1.grownBy Wc (some sb)) (hSc : SrcOk Wc sb) (h3 : Below Wc.heap.size Wc w3) (hq : RgIn (fun b => (w.heap.size + 2 ≤ b ∧ b < w1.heap.size) ∨ Wc.heap.size ≤ b) w3 (.slice b0 m0 d0) (.slice b1 m1 d1) (.slice b2 m2 d2) Q) :
    AddAt w sb w1 w3.heap.size Q b0 b1 b2 m0 d0 m1 d1 m2 d2 (w3.alloc (.cells #[.slice b0 m0 d0, .slice b1 m1 d1, .slice b2 m2 d2] T (0, 0))) := by
  have e2 := heap_alloc_new w3 (.cells #[.slice b0 m0 d0, .slice b1 m1 d1, .slice b2 m2 d2] T (0, 0))
  have zK := hK.size
  have z3 := h3.size
  have hB : Below w1.heap.size Wc (w3.alloc (.cells #[.slice b0 m0 d0, .slice b1 m1 d1, .slice b2 m2 d2] T (0, 0))) := (h3.mono zK).alloc (by omega) _
  refine ⟨cell_heap (i := 0) e2 rfl, cell_heap (i := 1) e2 rfl, cell_heap (i := 2) e2 rfl, fun k hk hne => (hB.block k hk).trans (hK.block k hk (by simpa using hne)), ?_, srcOk_below hSc hB (by omega), ⟨hB.os.trans hK.os, hB.tape.trans hK.tape, hB.output.trans hK.output, Nat.le_trans hK.size hB.size, fun k hk hne => (hB.block k hk).trans (hK.block k hk hne)⟩⟩
  exact (hq.below (bal brefl _)).mono (fun b h _ => h.elim (fun h => h.1) (fun h => by omega))
theorem box_below {w w3 : World} {C : Array Value} {T : TypeId} (hb : Below (w.alloc (.cells C T (0, 0))).heap.size (w.alloc (.cells C T (0, 0))) w3) : w3.heap[w.heap.size]? = some (.cells C T (0, 0)) := (hb.block _ (by simp)).trans (heap_alloc_new w _)
theorem box_grown {w w2 : World} {C : Array Value} {T : TypeId} {sb : Nat} (hG : (w.alloc (.cells C T (0, 0))).drew.grownBy w2 (some sb)) (hs : sb < w.heap.size) : w2.heap[w.heap.size]? = some (.cells C T (0, 0)) ∧ w.heap.size < w2.heap.size := by
  have z := (grownBy_undrew hG).size
  simp only [World.size_alloc] at z
  exact ⟨((grownBy_undrew hG).block _ (by simp) (by simp; omega)).trans (heap_alloc_new w _), by omega⟩
end Go.Proofs.Ytpoidaenkjjdfaa
namespace Go.Proofs.Ytpoidaenkjjdfaa
open Go.RowKit
set_option linter.unusedVariables false
set_option linter.unusedSimpArgs false
set_option maxHeartbeats 8000000 in
set_option maxRecDepth 100000 in
theorem sreg_any (sb most : Nat) (w : World) (hs : SrcOk w sb) (hm : most ≤ 100) :
    Calls Try.prog 10 #[.pointer (some ⟨sb, 0, none⟩), .int .i64 most] w (RegW most w sb) := by
  have hlt := srcOk_lt hs
  go_enter Try.func10, Try.ntmps10
  go_wp2
  obtain ⟨W0, hW0⟩ : ∃ W, W = (w.alloc (.cells #[.slice none 0 0, .slice none 0 0, .slice none 0 0] 27)).alloc (.cells #[.slice none 0 0, .slice none 0 0, .slice none 0 0] 27) := ⟨_, rfl⟩
  have hg0 : w.grownBy W0 (some sb) := by rw [hW0]; exact grownBy_trans (World.grownBy_alloc _ _ _) (World.grownBy_alloc _ _ _)
  have hS0 : SrcOk W0 sb := by rw [hW0]; exact srcOk_alloc (srcOk_alloc hs _) _
  have hX0 : W0.heap[w.heap.size]? = some (.cells #[.slice none 0 0, .slice none 0 0, .slice none 0 0] 27 (0, 0)) := by rw [hW0]; exact (heap_alloc_old _ _ (by simp)).trans (heap_alloc_new w _)
  have hY0 : W0.heap[w.heap.size + 1]? = some (.cells #[.slice none 0 0, .slice none 0 0, .slice none 0 0] 27 (0, 0)) := by rw [hW0]; exact heap_at (by simp)
  have hZ0 : W0.heap.size = w.heap.size + 2 := by rw [hW0]; simp
  have HG0 := Lib.hid hg0
  have HS0 := Lib.hid hS0
  have HX0 := Lib.hid hX0
  have HY0 := Lib.hid hY0
  clear hg0 hS0 hX0 hY0 hs
  go_loopw [7] (fun iv wr => ∃ (k : Int) (R : Reg) (a0 a1 a2 : Option Addr) (n0 c0 n1 c1 n2 c2 : Nat), iv = .int .i64 k ∧ (1 ≤ k ∧ k ≤ 4) ∧ AddedOk R k ∧ wr.heap[w.heap.size]? = some (.cells #[.slice none 0 0, .slice none 0 0, .slice none 0 0] 27 (0, 0)) ∧ wr.heap[w.heap.size + 1]? = some (.cells #[.slice a0 n0 c0, .slice a1 n1 c1, .slice a2 n2 c2] 27 (0, 0)) ∧ RgIn (fun b => w.heap.size + 2 ≤ b) wr (.slice a0 n0 c0) (.slice a1 n1 c1) (.slice a2 n2 c2) R ∧ (Value.slice a0 n0 c0 = .slice none 0 0 ∨ 0 < R.secs.length) ∧ SrcOk wr sb ∧ w.grownBy wr (some sb)) (fun iv _ => (4 - intOf iv).toNat)
  case atStart => exact ⟨1, ⟨[], [], []⟩, none, none, none, 0, 0, 0, 0, 0, 0, rfl, by omega, ⟨RgOk.nil, rfl, by simp, .inl ⟨rfl, rfl⟩⟩, by rw [← hW0]; exact HX0.out, by rw [← hW0]; exact HY0.out, rgIn_nil _ _, .inl rfl, by rw [← hW0]; exact HS0.out, by rw [← hW0]; exact HG0.out⟩
  case round =>
    obtain ⟨k, R, a0, a1, a2, n0, c0, n1, c1, n2, c2, rfl, hk, hok, hX, hY, hR, hnz, hSr, hGr⟩ := hrel
    have hltr := srcOk_lt hSr
    go_wp2_with fail
    refine (range_any sb 1 3 _ hSr (by decide) (by decide) (by decide)).mono ?_
    rintro e w1 ⟨v, hv, rfl, hS1, hG1⟩
    have hX1 : w1.heap[w.heap.size]? = _ := (hG1.block _ (World.block_lt_of_cell? wr ⟨w.heap.size, 0, none⟩ (cell_heap (i := 0) hX rfl)) (by simp; omega)).trans hX
    have hY1 : w1.heap[w.heap.size + 1]? = _ := (hG1.block _ (World.block_lt_of_cell? wr ⟨w.heap.size + 1, 0, none⟩ (cell_heap (i := 0) hY rfl)) (by simp; omega)).trans hY
    have hR1 := hR.grown hG1 (fun b hb => by omega)
    have hg1 : w.grownBy w1 (some sb) := grownBy_trans hGr hG1
    have HX1 := Lib.hid hX1
    have HY1 := Lib.hid hY1
    have HR1 := Lib.hid hR1
    have HG1 := Lib.hid hg1
    have HOK := Lib.hid hok
    have HNZ := Lib.hid hnz
    clear hX hY hR hGr hG1 hX1 hY1 hR1 hg1 hok hnz hSr hltr
    have hzB : w.heap.size + 1 < w1.heap.size := World.block_lt_of_cell? w1 ⟨w.heap.size + 1, 0, none⟩ (cell_heap (i := 0) HY1.out rfl)
    have hsb1 : sb < w1.heap.size := by omega
    have HS1 := Lib.hid hS1
    clear hS1
    have y0 := cell_heap (i := 0) HY1.out rfl
    have y1 := cell_heap (i := 1) HY1.out rfl
    have y2 := cell_heap (i := 2) HY1.out rfl
    have yk0 : (w1.alloc (.cells #[.slice none 0 0, .slice none 0 0, .slice none 0 0] 27 (0, 0))).cell? ⟨w.heap.size + 1, 0, none⟩ = some (.slice a0 n0 c0) := keepA (w := w1) y0
    have yk1 : (w1.alloc (.cells #[.slice none 0 0, .slice none 0 0, .slice none 0 0] 27 (0, 0))).cell? ⟨w.heap.size + 1, 1, none⟩ = some (.slice a1 n1 c1) := keepA (w := w1) y1
    have yk2 : (w1.alloc (.cells #[.slice none 0 0, .slice none 0 0, .slice none 0 0] 27 (0, 0))).cell? ⟨w.heap.size + 1, 2, none⟩ = some (.slice a2 n2 c2) := keepA (w := w1) y2
    by_cases hkv : k ≤ v
    · go_upto_region 5 with fail
      go_cut [8, 9] (fun s8 s9 wx => ∃ (g : Nat) (un is ma ra ev : Int) (ix : Bool) (b0 b1 b2 : Option Addr) (m0 d0 m1 d1 m2 d2 : Nat), s8 = .pointer (some ⟨g, 0, none⟩) ∧ s9 = .int .i64 (raE R ⟨k, un, is, ma, ra, ev, ix⟩) ∧ SecLike un is ma ra ev ∧ AddAt w sb w1 g (raR R ⟨k, un, is, ma, ra, ev, ix⟩) b0 b1 b2 m0 d0 m1 d1 m2 d2 wx)
      case first =>
        go_region_with (first | (go_at_call 11; refine (srcsec_any sb _ _ ?_).mono ?_; (· first | exact srcOk_drewN HS1.out 1 | exact srcOk_drewN (srcOk_alloc HS1.out _) 1); rintro e w2 ⟨un, is, ma, ra, ev, ix, hl, rfl, hS2, hG2⟩; have HL := Lib.hid hl; have HS2 := Lib.hid hS2; have hK : w1.grownBy w2 (some sb) := (by first | exact grownBy_undrew hG2 | exact grownBy_trans (World.grownBy_alloc _ _ _) (grownBy_undrew hG2)); have HK := Lib.hid hK; have hy2 := (hK.block _ hzB (by simp; omega)).trans HY1.out; have c0' := cell_heap (i := 0) hy2 rfl; have c1' := cell_heap (i := 1) hy2 rfl; have c2' := cell_heap (i := 2) hy2 rfl; have ck0 : (w2.alloc (.cells #[.slice none 0 0, .slice none 0 0, .slice none 0 0] 27 (0, 0))).cell? ⟨w.heap.size + 1, 0, none⟩ = some (.slice a0 n0 c0) := keepA (w := w2) c0'; have ck1 : (w2.alloc (.cells #[.slice none 0 0, .slice none 0 0, .slice none 0 0] 27 (0, 0))).cell? ⟨w.heap.size + 1, 1, none⟩ = some (.slice a1 n1 c1) := keepA (w := w2) c1'; have ck2 : (w2.alloc (.cells #[.slice none 0 0, .slice none 0 0, .slice none 0 0] 27 (0, 0))).cell? ⟨w.heap.size + 1, 2, none⟩ = some (.slice a2 n2 c2) := keepA (w := w2) c2'; (try (have hbq := box_grown hG2 hsb1; have hbl := hbq.2; have HBX := Lib.hid hbq.1; clear hbq)); clear hl hS2 hG2 hK hy2) | (go_at_call 22; refine (add_at (w := w) (w1 := w1) HR1.out (by first | exact HK.out | exact grownBy_trans HK.out (World.grownBy_alloc _ _ _)) hlt HOK.out.ok HNZ.out).mono ?_; rintro e w3 hg; obtain ⟨b0, m0, d0, b1, m1, d1, b2, m2, d2, rfl, hq3, hb3⟩ := hg.shape; have HQ3 := Lib.hid hq3; have HB3 := Lib.hid hb3; (try (have hbx3 := (hb3.block w1.heap.size hbl).trans HBX.out; have bx0 := cell_heap (i := 0) hbx3 rfl; have bx1 := cell_heap (i := 1) hbx3 rfl; have bx2 := cell_heap (i := 2) hbx3 rfl; have bf0 := frozen_of_row w3 _ 0 _ _ hbx3; have bf1 := frozen_of_row w3 _ 1 _ _ hbx3; have bf2 := frozen_of_row w3 _ 2 _ _ hbx3; clear hbx3)); (try (have hbx3 := box_below hb3; have bx0 := cell_heap (i := 0) hbx3 rfl; have bx1 := cell_heap (i := 1) hbx3 rfl; have bx2 := cell_heap (i := 2) hbx3 rfl; have bf0 := frozen_of_row w3 _ 0 _ _ hbx3; have bf1 := frozen_of_row w3 _ 1 _ _ hbx3; have bf2 := frozen_of_row w3 _ 2 _ _ hbx3; clear hbx3)); clear hg hq3 hb3))
        all_goals (go_wp2_with fail; go_meet)
        all_goals (refine ⟨_, un, is, ma, ra, ev, ix, b0, b1, b2, m0, d0, m1, d1, m2, d2, rfl, rfl, HL.out, ?_⟩; first | exact added_new hlt (by omega) HK.out HS2.out HB3.out HQ3.out | exact added_set hlt (by omega) HK.out HS2.out HB3.out HQ3.out (Nat.le_refl _) hbl HBX.out | exact added_set hlt (by omega) (grownBy_trans HK.out (World.grownBy_alloc _ _ _)) (srcOk_alloc HS2.out _) HB3.out HQ3.out HK.out.size (by simp) (heap_alloc_new w2 _))
      case rest =>
        obtain ⟨g, un, is, ma, ra, ev, ix, b0, b1, b2, m0, d0, m1, d1, m2, d2, rfl, rfl, hl, hA⟩ := hcut
        obtain ⟨E, hE⟩ : ∃ E, raE R ⟨k, un, is, ma, ra, ev, ix⟩ = E := ⟨_, rfl⟩
        rw [hE]
        have HE := Lib.hid hE
        have HA := Lib.hid hA
        have HL := Lib.hid hl
        have gx0 := hA.g0
        have gx1 := hA.g1
        have gx2 := hA.g2
        have hXx := (hA.old _ (by omega) (by omega)).trans HX1.out
        have hYx := (hA.old _ (by omega) (by omega)).trans HY1.out
        have HXX := Lib.hid hXx
        have HYX := Lib.hid hYx
        clear y0 y1 y2 yk0 yk1 yk2
        have y0 := cell_heap (i := 0) hYx rfl
        have y1 := cell_heap (i := 1) hYx rfl
        have y2 := cell_heap (i := 2) hYx rfl
        have yf0 := frozen_of_row wc _ 0 _ _ hYx
        have yf1 := frozen_of_row wc _ 1 _ _ hYx
        have yf2 := frozen_of_row wc _ 2 _ _ hYx
        clear hE hA hl hXx hYx
        by_cases h0 : E = 0
        · subst h0
          have hadd := HOK.out.add hk.1 HL.out HE.out
          have HADD := Lib.hid hadd
          clear hadd
          go_wp2
          have hwk : IntKind.i64.wrap (k + 1) = k + 1 := IntWalk.i64_in _ (by omega)
          go_roundw
          case rel =>
            have e0 := heap_setCell_same wc _ 0 _ _ (.slice b0 m0 d0) HYX.out
            have e1 := heap_setCell_same _ _ 1 _ _ (.slice b1 m1 d1) e0
            have e2 := heap_setCell_same _ _ 2 _ _ (.slice b2 m2 d2) e1
            have hs2 := src_fin (grownBy_trans HG1.out HA.out.gr) HA.out.src (below_set3 wc (show w.heap.size ≤ w.heap.size + 1 by omega) (.slice b0 m0 d0) (.slice b1 m1 d1) (.slice b2 m2 d2)) hlt
            exact ⟨k + 1, _, b0, b1, b2, m0, d0, m1, d1, m2, d2, rfl, by omega, HADD.out.1, ((grownBy_set3 wc (w.heap.size + 1) (.slice b0 m0 d0) (.slice b1 m1 d1) (.slice b2 m2 d2)).block _ (World.block_lt_of_cell? wc ⟨w.heap.size, 0, none⟩ (cell_heap (i := 0) HXX.out rfl)) (by simp)).trans HXX.out, e2, HA.out.rg.set3 (b := w.heap.size + 1) (fun b hb => by omega), .inr HADD.out.2, hs2.1, hs2.2⟩
          case measure => simp [intOf]; omega
        · have g1 : (E == 0) = false := by simpa using h0
          go_wp2
          have hwk : IntKind.i64.wrap (k + 1) = k + 1 := IntWalk.i64_in _ (by omega)
          go_roundw
          case rel => exact ⟨k + 1, R, a0, a1, a2, n0, c0, n1, c1, n2, c2, rfl, by omega, HOK.out.next HL.out (by rw [HE.out]; exact h0), HXX.out, HYX.out, HR1.out.grown HA.out.gr (fun b hb => by omega), HNZ.out, HA.out.src, grownBy_trans HG1.out HA.out.gr⟩
          case measure => simp [intOf]; omega
    · have hlike := HOK.out.like hk.2 (by omega)
      have HLIKE := Lib.hid hlike
      have HMS := Lib.hid HOK.out.ms
      clear hlike y0 y1 y2 yk0 yk1 yk2
      have hwm : IntKind.i64.wrap ((most : Int) + 1) = (most : Int) + 1 := IntWalk.i64_in _ (by omega)
      go_wp2_with fail
      refine (n_any sb _ _ HS1.out (by omega)).mono ?_
      rintro e w4 ⟨kk, hkk, rfl, hS4, hG4⟩
      have hX4 : w4.heap[w.heap.size]? = _ := (hG4.block _ (by omega) (by simp; omega)).trans HX1.out
      have hY4 : w4.heap[w.heap.size + 1]? = _ := (hG4.block _ (by omega) (by simp; omega)).trans HY1.out
      have HS4 := Lib.hid hS4
      have HX4 := Lib.hid hX4
      have HY4 := Lib.hid hY4
      have HG4 := Lib.hid (grownBy_trans HG1.out hG4)
      have HR4 := Lib.hid (HR1.out.grown hG4 (fun b hb => by omega))
      clear hS4 hX4 hY4 hG4
      go_wp2
      obtain ⟨W4, hW4⟩ : ∃ W, W = w4 := ⟨_, rfl⟩
      have HW4 := Lib.hid hW4
      go_loopw [10, 11] (fun dv kv wr2 => ∃ (j day : Int) (R : Reg) (a0 a1 a2 : Option Addr) (n0 c0 n1 c1 n2 c2 : Nat), dv = .int .i64 day ∧ kv = .int .i64 j ∧ (0 ≤ j ∧ j ≤ most) ∧ RegLike R day ∧ (R.ms.length : Int) + j ≤ most ∧ day + 130 * j ≤ 130 * most ∧ wr2.heap[w.heap.size]? = some (.cells #[.slice none 0 0, .slice none 0 0, .slice none 0 0] 27 (0, 0)) ∧ wr2.heap[w.heap.size + 1]? = some (.cells #[.slice a0 n0 c0, .slice a1 n1 c1, .slice a2 n2 c2] 27 (0, 0)) ∧ RgIn (fun b => w.heap.size + 2 ≤ b) wr2 (.slice a0 n0 c0) (.slice a1 n1 c1) (.slice a2 n2 c2) R ∧ SrcOk wr2 sb ∧ w.grownBy wr2 (some sb)) (fun _ kv _ => (intOf kv).toNat)
      case atStart => exact ⟨kk, 0, R, a0, a1, a2, n0, c0, n1, c1, n2, c2, rfl, rfl, by omega, HLIKE.out, by rw [HMS.out]; simp; omega, by omega, HX4.out, HY4.out, HR4.out, HS4.out, HG4.out⟩
      case round =>
        clear HOK HNZ HLIKE HMS HR4 HX4 HY4 HG4 HS4 HX1 HY1 HG1 HR1 HS1
        obtain ⟨j, day, R, a0, a1, a2, n0, c0, n1, c1, n2, c2, rfl, rfl, hj, hlike, hml, hdl, hX, hY, hR, hSr, hGr⟩ := hrel
        have hltB : w.heap.size + 1 < wr.heap.size := World.block_lt_of_cell? wr ⟨w.heap.size + 1, 0, none⟩ (cell_heap (i := 0) hY rfl)
        have y0 := cell_heap (i := 0) hY rfl
        have y1 := cell_heap (i := 1) hY rfl
        have y2 := cell_heap (i := 2) hY rfl
        have HX := Lib.hid hX
        have HY := Lib.hid hY
        have HR := Lib.hid hR
        have HS := Lib.hid hSr
        have HG := Lib.hid hGr
        have HLIKE := Lib.hid hlike
        clear hX hY hR hSr hGr hlike
        by_cases hj0 : 0 < j
        · have hd0 := HLIKE.out.day0
          have hlm := HLIKE.out.ok.lm
          go_wp2_with fail
          refine (deal_any (fun b => w.heap.size + 2 ≤ b) sb _ _ _ R day wr HS.out HR.out (by have := HLIKE.out.ok.ls; omega) (by have := HLIKE.out.ok.hl; omega) (by omega) (fun b hb => by omega) (fun b hb => by omega) hd0 (by omega)).mono ?_
          rintro e w5 ⟨us, uh, um, R', day', rfl, hdt, hR', hS5, hG5⟩
          obtain ⟨p0, q0, l0, rfl, -, -, -⟩ := hR'.S.shape
          obtain ⟨p1, q1, l1, rfl, -, -, -⟩ := hR'.H.shape
          obtain ⟨p2, q2, l2, rfl, -, -, -⟩ := hR'.M.shape
          have hdd := HLIKE.out.dealt hdt
          have HDD := Lib.hid hdd
          have hX5 : w5.heap[w.heap.size]? = _ := (hG5.block _ (by omega) (by simp; omega)).trans HX.out
          have hY5 : w5.heap[w.heap.size + 1]? = _ := (hG5.block _ (by omega) (by simp; omega)).trans HY.out
          have HX5 := Lib.hid hX5
          have HY5 := Lib.hid hY5
          have HR5 := Lib.hid hR'
          have HS5 := Lib.hid hS5
          have HG5 := Lib.hid (grownBy_trans HG.out hG5)
          have z5 := hG5.size
          clear y0 y1 y2
          have y0 := cell_heap (i := 0) hY5 rfl
          have y1 := cell_heap (i := 1) hY5 rfl
          have y2 := cell_heap (i := 2) hY5 rfl
          have yf0 := frozen_of_row w5 _ 0 _ _ hY5
          have yf1 := frozen_of_row w5 _ 1 _ _ hY5
          have yf2 := frozen_of_row w5 _ 2 _ _ hY5
          clear hdt hR' hS5 hG5 hX5 hY5 hdd
          have hwj : IntKind.i64.wrap (j - 1) = j - 1 := IntWalk.i64_in _ (by omega)
          go_wp2
          go_roundw
          case rel =>
            have e0 := heap_setCell_same w5 _ 0 _ _ (.slice p0 q0 l0) HY5.out
            have e1 := heap_setCell_same _ _ 1 _ _ (.slice p1 q1 l1) e0
            have e2 := heap_setCell_same _ _ 2 _ _ (.slice p2 q2 l2) e1
            have hs2 := src_fin HG5.out HS5.out (below_set3 w5 (show w.heap.size ≤ w.heap.size + 1 by omega) (.slice p0 q0 l0) (.slice p1 q1 l1) (.slice p2 q2 l2)) hlt
            have h2 := HDD.out.2.1
            have h3 := HDD.out.2.2.1
            exact ⟨j - 1, day', R', p0, p1, p2, q0, l0, q1, l1, q2, l2, rfl, rfl, by omega, HDD.out.1, by omega, by omega, ((grownBy_set3 w5 (w.heap.size + 1) (.slice p0 q0 l0) (.slice p1 q1 l1) (.slice p2 q2 l2)).block _ (by omega) (by simp)).trans HX5.out, e2, HR5.out.set3 (b := w.heap.size + 1) (fun b hb => by omega), hs2.1, hs2.2⟩
          case measure => simp [intOf]; omega
        · have x0 := cell_heap (i := 0) HX.out rfl
          have x1 := cell_heap (i := 1) HX.out rfl
          have x2 := cell_heap (i := 2) HX.out rfl
          have xf0 := frozen_of_row wr _ 0 _ _ HX.out
          have xf1 := frozen_of_row wr _ 1 _ _ HX.out
          have xf2 := frozen_of_row wr _ 2 _ _ HX.out
          have hs2 := src_fin HG.out HS.out (below_set3 wr (Nat.le_refl w.heap.size) (.slice a0 n0 c0) (.slice a1 n1 c1) (.slice a2 n2 c2)) hlt
          have HS2 := Lib.hid hs2
          clear hs2
          go_wp2
          refine bodyPost_ret (v := .tuple #[.agg #[.slice a0 n0 c0, .slice a1 n1 c1, .slice a2 n2 c2], .int .i64 day]) (by simp [results, Try.results10, go_sem, x0, x1, x2]) rfl ⟨_, _, _, R, day, rfl, HLIKE.out, by omega, by omega, HR.out.set3 (b := w.heap.size) (fun b hb => by omega), HS2.out.1, HS2.out.2⟩
end Go.Proofs.Ytpoidaenkjjdfaa
