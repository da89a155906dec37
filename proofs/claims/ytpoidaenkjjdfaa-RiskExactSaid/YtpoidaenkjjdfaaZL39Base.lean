/- sane of the statements on risk. -/
import Derived.Test.YtpoidaenkjjdfaaZL39P
import Derived.Test.YtpoidaenkjjdfaaZRfS
import Derived.Test.YtpoidaenkjjdfaaZL33Base
namespace Go.Proofs.Ytpoidaenkjjdfaa
open Go.RowKit
set_option linter.unusedVariables false
set_option linter.unusedSimpArgs false
def s39A : Reg := raR ⟨[], [], []⟩ ⟨1, 1, 0, 390, 0, 0, false⟩
def s39B : Reg := rmR s39A ⟨0, 0, 1, 1, 0, 1, 100000⟩
theorem s39E1 : raE ⟨[], [], []⟩ ⟨1, 1, 0, 390, 0, 0, false⟩ = 0 := by decide
theorem s39E2 : rmE s39A ⟨0, 0, 1, 1, 0, 1, 100000⟩ = 0 := by decide
theorem s39P : prE s39B 1 [5000, 6000] = 0 := by decide
theorem s39Q : prL s39B 1 [5000, 6000] = [⟨1, 0, 100000, 100000⟩, ⟨2, 5000, 100000, 100000⟩] := by
  unfold prL; rw [if_pos s39P]; kernel_rfl
theorem s39L : (s39A.secs.length ≤ 1000000 ∧ s39A.hs.length ≤ 1000000 ∧ s39A.ms.length ≤ 1000000) ∧ (s39B.secs.length ≤ 1000000 ∧ s39B.hs.length ≤ 1000000 ∧ s39B.ms.length ≤ 1000000) := by decide
set_option maxHeartbeats 40000000 in
set_option maxRecDepth 100000 in
theorem sane39_any (w : World) : Calls Try.prog 47 #[] w fun e w' => e = .returned (.bool true) ∧ Below w.heap.size w w' := by
  go_enter Try.func47, Try.ntmps47
  go_wp2_with fail
  refine (fadd_any (fun b => w.heap.size < b) _ _ _ ⟨[], [], []⟩ 1 1 0 390 0 0 false _ (rgIn_nil _ _) (by simp) (by simp) (by simp) (fun b hb => by simp at hb; omega) (.inl rfl)).mono ?_
  rw [s39E1]
  change ∀ _ _, GaveR _ s39A 0 _ _ _ → _
  rintro e w2 hg
  obtain ⟨b0, m0, d0, b1, m1, d1, b2, m2, d2, rfl, hq, hb2⟩ := hg.shape
  have hx := box_below hb2
  have HB2 := Lib.hid (bup (bal brefl _) hb2)
  have HQ2 := Lib.hid hq
  have HX2 := Lib.hid hx
  have x0 := cell_heap (i := 0) hx rfl
  have x1 := cell_heap (i := 1) hx rfl
  have x2 := cell_heap (i := 2) hx rfl
  have xf0 := frozen_of_row w2 _ 0 _ _ hx
  have xf1 := frozen_of_row w2 _ 1 _ _ hx
  have xf2 := frozen_of_row w2 _ 2 _ _ hx
  clear hg hq hb2 hx
  go_wp2_with fail
  have hb3 := below_set3 w2 (Nat.le_refl w.heap.size) (.slice b0 m0 d0) (.slice b1 m1 d1) (.slice b2 m2 d2)
  have hq3 := HQ2.out.set3 (b := w.heap.size) (v0 := .slice b0 m0 d0) (v1 := .slice b1 m1 d1) (v2 := .slice b2 m2 d2) (fun k hk => by omega)
  have hx3 := heap_setCell_same _ _ 2 _ _ (.slice b2 m2 d2) (heap_setCell_same _ _ 1 _ _ (.slice b1 m1 d1) (heap_setCell_same w2 _ 0 _ _ (.slice b0 m0 d0) HX2.out))
  have hz3 : w2.heap.size ≤ (((w2.setCell ⟨w.heap.size, 0, none⟩ (.slice b0 m0 d0)).setCell ⟨w.heap.size, 1, none⟩ (.slice b1 m1 d1)).setCell ⟨w.heap.size, 2, none⟩ (.slice b2 m2 d2)).heap.size := hb3.size
  generalize ((w2.setCell ⟨w.heap.size, 0, none⟩ (.slice b0 m0 d0)).setCell ⟨w.heap.size, 1, none⟩ (.slice b1 m1 d1)).setCell ⟨w.heap.size, 2, none⟩ (.slice b2 m2 d2) = W3 at hb3 hq3 hx3 hz3 ⊢
  have HB3 := Lib.hid (HB2.out.trans hb3)
  have hl3 : w.heap.size < W3.heap.size := (Array.getElem?_eq_some_iff.1 hx3).1
  have HX3 := Lib.hid hx3
  refine (fIssue_any (fun b => w.heap.size < b) _ _ _ s39A 0 1 1 100000 W3 hq3 s39L.1.1 s39L.1.2.1 s39L.1.2.2 (fun b hb => by omega)).mono ?_
  rw [s39E2]
  change ∀ _ _, GaveR _ s39B 0 _ _ _ → _
  rintro e w4 hg
  obtain ⟨p0, q0, r0, p1, q1, r1, p2, q2, r2, rfl, hq4, hb4⟩ := hg.shape
  have hx4 := (hb4.block _ hl3).trans HX3.out
  have HB4 := Lib.hid (bup HB3.out hb4)
  have HQ4 := Lib.hid hq4
  have HX4 := Lib.hid hx4
  have x0 := cell_heap (i := 0) hx4 rfl
  have x1 := cell_heap (i := 1) hx4 rfl
  have x2 := cell_heap (i := 2) hx4 rfl
  have xf0 := frozen_of_row w4 _ 0 _ _ hx4
  have xf1 := frozen_of_row w4 _ 1 _ _ hx4
  have xf2 := frozen_of_row w4 _ 2 _ _ hx4
  clear hg hq4 hb4 hx4 hb3 hq3 hx3 hz3
  go_wp2_with fail
  have hb5 := below_set3 w4 (Nat.le_refl w.heap.size) (.slice p0 q0 r0) (.slice p1 q1 r1) (.slice p2 q2 r2)
  have hq5 := HQ4.out.set3 (b := w.heap.size) (v0 := .slice p0 q0 r0) (v1 := .slice p1 q1 r1) (v2 := .slice p2 q2 r2) (fun k hk => by omega)
  have hz5 : (((w4.setCell ⟨w.heap.size, 0, none⟩ (.slice p0 q0 r0)).setCell ⟨w.heap.size, 1, none⟩ (.slice p1 q1 r1)).setCell ⟨w.heap.size, 2, none⟩ (.slice p2 q2 r2)).heap.size = w4.heap.size := by simp [World.setCell]
  generalize ((w4.setCell ⟨w.heap.size, 0, none⟩ (.slice p0 q0 r0)).setCell ⟨w.heap.size, 1, none⟩ (.slice p1 q1 r1)).setCell ⟨w.heap.size, 2, none⟩ (.slice p2 q2 r2) = W5 at hb5 hq5 hz5 ⊢
  have HB5 := Lib.hid (HB4.out.trans hb5)
  have hrow : Sl 1 encI (fun _ => True) (W5.alloc (.cells #[.int .i64 5000, .int .i64 6000] 3)) (.slice (some ⟨W5.heap.size, 0, none⟩) 2 2) [5000, 6000] := by
    refine ⟨_, 2, 2, rfl, rfl, Nat.le_refl _, by unfold maxLen; omega, .inr ⟨W5.heap.size, 0, rfl, trivial, by simp, fun j a hj i u hi => ?_⟩⟩
    have hh := World.alloc_heap_new W5 (.cells #[.int .i64 5000, .int .i64 6000] 3)
    match j, hj with
    | 0, hj => simp at hj; subst hj; match i, hi with
      | 0, hi => simp [encI] at hi; subst hi; exact cell_heap (i := 0) hh rfl
      | i + 1, hi => simp [encI] at hi
    | 1, hj => simp at hj; subst hj; match i, hi with
      | 0, hi => simp [encI] at hi; subst hi; exact cell_heap (i := 1) hh rfl
      | i + 1, hi => simp [encI] at hi
    | j + 2, hj => simp at hj
  rw [hz5] at hrow
  have hpj := project_any (fun b => w.heap.size < b) (fun _ => True) (.slice p0 q0 r0) (.slice p1 q1 r1) (.slice p2 q2 r2) (.slice (some ⟨w4.heap.size, 0, none⟩) 2 2) s39B 1 [5000, 6000] (W5.alloc (.cells #[.int .i64 5000, .int .i64 6000] 3)) (hq5.below (bal brefl _)) s39L.2.1 s39L.2.2.1 s39L.2.2.2 hrow (by simp)
  rw [s39P, s39Q] at hpj
  have HPJ := Lib.hid hpj
  clear hpj hz5
  refine HPJ.out.mono ?_
  clear HPJ
  rintro e w6 ⟨v, rfl, hown, hb6⟩
  have HB6 := Lib.hid (bup (bal HB5.out _) hb6)
  obtain ⟨fo, fc, rfl⟩ := own_slice0 hown
  have HO := Lib.hid hown
  clear hrow hq5 hb5 hown hb6
  have hcv : Sl 4 encSvc (fun _ => True) (w6.alloc (.cells #[.int .i64 1, .int .i64 0, .int .i64 100000, .int .i64 100000, .int .i64 2, .int .i64 5000, .int .i64 100000, .int .i64 100000] 140)) (.slice (some ⟨w6.heap.size, 0, none⟩) 2 2) [⟨1, 0, 100000, 100000⟩, ⟨2, 5000, 100000, 100000⟩] := by
    refine ⟨_, 2, 2, rfl, rfl, Nat.le_refl _, by unfold maxLen; omega, .inr ⟨w6.heap.size, 0, rfl, trivial, by simp, fun j a hj i u hi => ?_⟩⟩
    have hh := World.alloc_heap_new w6 (.cells #[.int .i64 1, .int .i64 0, .int .i64 100000, .int .i64 100000, .int .i64 2, .int .i64 5000, .int .i64 100000, .int .i64 100000] 140)
    match j, hj with
    | 0, hj => simp at hj; subst hj; match i, hi with
      | 0, hi => simp [encSvc] at hi; subst hi; exact cell_heap (i := 0) hh rfl
      | 1, hi => simp [encSvc] at hi; subst hi; exact cell_heap (i := 1) hh rfl
      | 2, hi => simp [encSvc] at hi; subst hi; exact cell_heap (i := 2) hh rfl
      | 3, hi => simp [encSvc] at hi; subst hi; exact cell_heap (i := 3) hh rfl
      | i + 4, hi => simp [encSvc] at hi
    | 1, hj => simp at hj; subst hj; match i, hi with
      | 0, hi => simp [encSvc] at hi; subst hi; exact cell_heap (i := 4) hh rfl
      | 1, hi => simp [encSvc] at hi; subst hi; exact cell_heap (i := 5) hh rfl
      | 2, hi => simp [encSvc] at hi; subst hi; exact cell_heap (i := 6) hh rfl
      | 3, hi => simp [encSvc] at hi; subst hi; exact cell_heap (i := 7) hh rfl
      | i + 4, hi => simp [encSvc] at hi
    | j + 2, hj => simp at hj
  have hsv := services_eq (fun b => (W5.alloc (.cells #[.int .i64 5000, .int .i64 6000] 3)).heap.size ≤ b) (fun _ => True) _ _ _ _ ((Sl.own encSvc_len HO.out rfl (fun b h => h)).alloc _) hcv (by simp)
  have HSV := Lib.hid hsv
  clear hcv hsv
  go_wp2_with (go_at_call 58; refine HSV.out.mono ?_; rintro e w7 ⟨rfl, hb7⟩)
  go_ret
  exact ⟨rfl, bup (bal HB6.out _) (by assumption)⟩
end Go.Proofs.Ytpoidaenkjjdfaa
