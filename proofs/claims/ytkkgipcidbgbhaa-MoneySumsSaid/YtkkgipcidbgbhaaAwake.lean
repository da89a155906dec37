/- treasurylaw01.awake. -/
import Derived.Test.YtkkgipcidbgbhaaMonB
import Derived.Test.YtkkgipcidbgbhaaTape
import Derived.Test.YtkkgipcidbgbhaaShare
namespace Go.Proofs.Ytkkgipcidbgbhaa
open Go.RowKit
set_option linter.unusedVariables false
set_option linter.unusedSimpArgs false
theorem litI (w : World) (L : List Int) (n : Nat) (hn : L.length = n) (h : n ≤ maxLen) (C : Array Value) (hC : C = (L.map cI).toArray) (g : Nat) (hg : g = w.heap.size) : Sl 1 encI (fun b => w.heap.size ≤ b) (w.alloc (.cells C 3)) (.slice (some ⟨g, 0, none⟩) n n) L := by
  subst hC
  subst hn
  subst hg
  have h1 := World.ownsRow_lit (base := w.heap.size) (e := 3) (size := 1) w (L.map cI).toArray L.length (Nat.le_refl _) h (by simp)
  refine Sl.own (e := 3) (base := w.heap.size) (n := L.length) encI_len ?_ rfl (fun b hb => hb)
  rw [flatI]; simpa using h1
theorem parts_eg1 : partsL 10 [1, 1, 1] = [4, 3, 3] ∧ partsE 10 [1, 1, 1] = 0 := by
  refine ⟨?_, by decide⟩
  simp [partsL, partsE, inB, wgB, sumI, partsR, baseP, ordP, leftP, idxs, srt, mrg, ltc, cfP, rAt, rstP, cmpI, bump, List.range_succ]
theorem parts_eg2 : partsL 7 [2, 0, 3] = [3, 0, 4] ∧ partsE 7 [2, 0, 3] = 0 := by
  refine ⟨?_, by decide⟩
  simp [partsL, partsE, inB, wgB, sumI, partsR, baseP, ordP, leftP, idxs, srt, mrg, ltc, cfP, rAt, rstP, cmpI, bump, List.range_succ]
theorem parts_l3 (t a b c E : Int) (L : List Int) (w : World) (h : partsL t [a, b, c] = L ∧ partsE t [a, b, c] = E) :
    Calls Try.prog 34 #[.int .i64 t, .slice (some ⟨w.heap.size, 0, none⟩) 3 3] (w.alloc (.cells #[.int .i64 a, .int .i64 b, .int .i64 c] 3)) fun e w' => ∃ v, e = .returned (.tuple #[v, .int .i64 E]) ∧ Sl 1 encI (fun b => w.heap.size ≤ b) w' v L ∧ Below w.heap.size w w' := by
  obtain ⟨rfl, rfl⟩ := h
  refine (parts_any t _ _ [a, b, c] _ (litI w [a, b, c] 3 rfl (by unfold maxLen; omega) #[.int .i64 a, .int .i64 b, .int .i64 c] rfl _ rfl) (by simp)).mono ?_
  rintro e w' ⟨v, rfl, hs, hb⟩
  exact ⟨v, rfl, hs.mono (fun b h _ => by simp at h; omega), bup (bal brefl _) hb⟩
theorem ints_l3 (a b c : Int) (P : Nat → Prop) (v : Value) (w : World) (h : Sl 1 encI P w v [a, b, c]) :
    Calls Try.prog 50 #[v, .slice (some ⟨w.heap.size, 0, none⟩) 3 3] (w.alloc (.cells #[.int .i64 a, .int .i64 b, .int .i64 c] 3)) fun e w' => e = .returned (.bool true) ∧ Below w.heap.size w w' := by
  refine (ints_any _ _ v _ [a, b, c] [a, b, c] _ (h.alloc _) (litI w [a, b, c] 3 rfl (by unfold maxLen; omega) #[.int .i64 a, .int .i64 b, .int .i64 c] rfl _ rfl) (by simp) (by simp)).mono ?_
  rintro e w' ⟨rfl, q, rfl⟩
  exact ⟨by simp, below_drewZ (bal brefl _) _⟩
set_option maxHeartbeats 2000000 in
theorem awake_any (w : World) : Calls Try.prog 35 #[] w fun e w' => e = .returned (.bool true) ∧ Below w.heap.size w w' := by
  have D1 := Lib.hid parts_eg1
  have D2 := Lib.hid parts_eg2
  have D3 := Lib.hid (show shV 5 1 2 = 3 ∧ shE 5 1 2 = 0 by decide)
  go_enter Try.func35, Try.ntmps35
  go_wp2_with fail
  refine (parts_l3 10 1 1 1 0 [4, 3, 3] _ D1.out).mono ?_
  rintro e w1 ⟨v1, rfl, s1, b1⟩
  have B1 := Lib.hid b1
  have S1 := Lib.hid s1
  clear s1 b1
  go_wp2_with fail
  refine (parts_l3 7 2 0 3 0 [3, 0, 4] _ D2.out).mono ?_
  rintro e w2 ⟨v2, rfl, s2, b2⟩
  have B2 := Lib.hid b2
  have S2 := Lib.hid s2
  clear s2 b2
  go_wp2_with fail
  refine (share_any _ _ _ _).mono ?_
  rw [D3.out.1, D3.out.2]
  rintro e w3 ⟨rfl, rfl⟩
  go_wp2_with fail
  refine (ints_l3 4 3 3 _ v1 _ (S1.out.below B2.out)).mono ?_
  rintro e w4 ⟨rfl, b4⟩
  have B4 := Lib.hid b4
  clear b4
  go_wp2_with fail
  refine (ints_l3 3 0 4 _ v2 _ (S2.out.below B4.out)).mono ?_
  rintro e w5 ⟨rfl, b5⟩
  go_wp2
  go_ret
  exact ⟨rfl, bup (bup (bup B1.out B2.out) B4.out) b5⟩
end Go.Proofs.Ytkkgipcidbgbhaa
