/- LiquidityCosts. -/
import Derived.Test.YtmobjmgiilbbdaaL30Least
import Derived.Test.YtmobjmgiilbbdaaSrcPos
import Derived.Test.YtmobjmgiilbbdaaMake
import Derived.Test.YtmobjmgiilbbdaaIntr
namespace Go.Proofs.Ytmobjmgiilbbdaa
open Go.RowKit
set_option linter.unusedVariables false

theorem mkL_am (lo hi lot mr mp : Int) (d a : Nat → Int) : ∀ n x, x ∈ mkL lo hi lot mr mp d a n → amB x.2.1 x.2.2 = true
  | 0, x, h => by simp [mkL] at h
  | n + 1, x, h => by
    simp only [mkL, List.mem_append] at h
    rcases h with h | h
    · exact mkL_am lo hi lot mr mp d a n x h
    · split at h
      · simp only [List.mem_singleton] at h
        subst h
        have := dec_bd0 lo hi lot mr mp (a n)
        exact amB_iff.2 (by simp only; omega)
      · simp at h
theorem getD_am {L : List (Int × Int × Int)} (h : ∀ x ∈ L, amB x.2.1 x.2.2 = true) (j : Nat) (hj : j < L.length) : amB (pr3 L j) (pp3 L j) = true := by
  have : L.getD j (0, 0, 0) ∈ L := by
    rw [List.getD_eq_getElem?_getD, List.getElem?_eq_getElem hj]
    exact List.getElem_mem hj
  exact h _ this
theorem inE_zero {n : Nat} {r p : Nat → Int} {ra pl : Int} (hn : n ≤ 1000) (h : ∀ j, j < n → amB (r j) (p j) = true) (h2 : 0 ≤ ra) (h3 : ra ≤ 20000) (h4 : 0 ≤ pl) (h5 : pl ≤ 20000) : inE n r p ra pl = 0 := by
  unfold inE
  rw [if_neg (by omega), anyB_false (fun j hj => by rw [h j hj]; rfl), inB_iff.2 ⟨h2, h3⟩, inB_iff.2 ⟨h4, h5⟩]
  rfl
theorem costV_mono {n a b : Int} (h0 : 0 ≤ n) (h : a ≤ b) : costV n a ≤ costV n b := by
  have : n * a ≤ n * b := Int.mul_le_mul_of_nonneg_left h h0
  unfold costV
  omega
theorem sumI_mono {r p : Nat → Int} {a b pl : Int} (h : a ≤ b) : ∀ n : Nat, (∀ j, j < n → amB (r j) (p j) = true) → sumI r p a pl n ≤ sumI r p b pl n
  | 0, _ => by simp [sumI]
  | k + 1, hk => by
    have ih := sumI_mono (pl := pl) h k (fun j hj => hk j (by omega))
    have := costV_mono (n := r k) (amB_iff.1 (hk k (by omega))).1.1 h
    simp only [sumI]
    omega
theorem sumI_zero {r p : Nat → Int} : ∀ n : Nat, sumI r p 0 0 n = 0
  | 0 => rfl
  | k + 1 => by simp [sumI, sumI_zero k, costV]

set_option maxHeartbeats 2000000 in
theorem costs_walk (a0 : Option Addr) (len0 cap0 : Nat) (w : World) (h1 : len0 ≤ cap0) (h2 : cap0 ≤ maxLen) (hz : len0 = 0 ∨ ∃ b off, a0 = some ⟨b, off, none⟩ ∧ ∀ i, i < len0 → ∃ z : Int, w.cell? ⟨b, off + i, none⟩ = some (.int .i64 z)) :
    Calls Try.prog 6 #[.slice a0 len0 cap0] w fun e w' => e = .returned (.bool true) ∧ Below w.heap.size w w' := by
  go_enter Try.func6, Try.ntmps6
  go_wp2_with fail
  refine (new_any a0 len0 cap0 w h1 h2 hz).mono ?_
  rintro e w1 ⟨sb, rfl, hsb, hS1, hB1⟩
  clear hz
  go_wp2_with fail
  refine (band_any sb _ hS1).mono ?_
  rintro e w2 ⟨lo, hi, lot, mr, mp, hband, rfl, hS2, hG2⟩
  have hB2 : Below w.heap.size w w2 := hB1.trans (below_of_grown hG2 hsb hB1.size)
  clear hband hB1 hG2
  go_wp2_with fail
  refine (positions_any sb 8 _ hS2 (by omega)).mono ?_
  rintro e w3 ⟨L, dy, ao, c, rfl, hl8, hU, hP, hao, hS3, hG3⟩
  have hB3 : Below w.heap.size w w3 := hB2.trans (below_of_grown hG3 hsb (by have := hB2.size; omega))
  have HP := Lib.hid (hP.alloc (.cells #[.int .i64 lo, .int .i64 hi, .int .i64 lot, .int .i64 mr, .int .i64 mp] 26))
  have z3 := hB3.size
  clear hG3 hB2 hU hP hao hS2 hS3
  obtain ⟨E, hE⟩ : ∃ E, mkE lo hi lot mr mp L.length (pd2 L) (pa2 L) = E := ⟨_, rfl⟩
  obtain ⟨D, hD⟩ : ∃ D, mkD lo hi lot mr mp L.length (pd2 L) (pa2 L) = D := ⟨_, rfl⟩
  obtain ⟨M, hM⟩ : ∃ M, mkP lo hi lot mr mp L.length (pd2 L) (pa2 L) = M := ⟨_, rfl⟩
  have hMl : M.length ≤ 8 := by
    rw [← hM]
    unfold mkP
    split
    · have := mkL_le lo hi lot mr mp (pd2 L) (pa2 L) L.length; omega
    · simp
  have hMa : ∀ x ∈ M, amB x.2.1 x.2.2 = true := by
    rw [← hM]
    unfold mkP
    split
    · exact mkL_am lo hi lot mr mp (pd2 L) (pa2 L) L.length
    · simp
  have hK := make_any lo hi lot mr mp ao L.length c (pd2 L) (pa2 L) _ (by omega) HP.out
  rw [hE, hD, hM] at hK
  have HK := Lib.hid hK
  clear hE hD hM hK
  by_cases he0 : E = 0
  · subst he0
    have hj := Lib.hid (getD_am hMa)
    have e1 := Lib.hid (inE_zero (ra := 3000) (pl := 1000) (by omega) hj.out (by omega) (by omega) (by omega) (by omega))
    have e2 := Lib.hid (inE_zero (ra := 4000) (pl := 1000) (by omega) hj.out (by omega) (by omega) (by omega) (by omega))
    have e3 := Lib.hid (inE_zero (ra := 0) (pl := 0) (by omega) hj.out (by omega) (by omega) (by omega) (by omega))
    have s1 := Lib.hid (show inS M.length (pr3 M) (pp3 M) 3000 1000 = sumI (pr3 M) (pp3 M) 3000 1000 M.length by unfold inS; rw [e1.out, if_pos rfl])
    have s2 := Lib.hid (show inS M.length (pr3 M) (pp3 M) 4000 1000 = sumI (pr3 M) (pp3 M) 4000 1000 M.length by unfold inS; rw [e2.out, if_pos rfl])
    have s3 := Lib.hid (show inS M.length (pr3 M) (pp3 M) 0 0 = 0 by unfold inS; rw [e3.out, if_pos rfl, sumI_zero])
    obtain ⟨A, hA⟩ : ∃ A, sumI (pr3 M) (pp3 M) 3000 1000 M.length = A := ⟨_, rfl⟩
    obtain ⟨C, hC⟩ : ∃ C, sumI (pr3 M) (pp3 M) 4000 1000 M.length = C := ⟨_, rfl⟩
    have hAC : A ≤ C := by rw [← hA, ← hC]; exact sumI_mono (by omega) _ hj.out
    have S1 := Lib.hid (s1.out.trans hA)
    have S2 := Lib.hid (s2.out.trans hC)
    have HA := Lib.hid hA
    clear hA hC s1 s2 hMa
    go_wp2_with fail
    refine HK.out.mono ?_
    rintro e w4 ⟨v4, rfl, hown4, hb4⟩
    have hB4 := below_up' (hB3.alloc z3 _) hb4
    obtain ⟨q4, d4, rfl, hA4⟩ := planAt_own hown4
    have HA4 := Lib.hid hA4
    have z4 := hB4.size
    clear hB3 hb4 hown4 hA4
    go_wp2_with fail
    refine (interest_any q4 M.length d4 _ _ _ 3000 1000 _ (by omega) HA4.out).mono ?_
    rw [S1.out, e1.out]
    rintro e w5 ⟨rfl, hb5⟩
    have hB5 := below_up' hB4 hb5
    have HA5 := Lib.hid (HA4.out.below hb5)
    have z5 := hB5.size
    clear hB4 hb5
    go_wp2_with fail
    refine (interest_any q4 M.length d4 _ _ _ 4000 1000 _ (by omega) HA5.out).mono ?_
    rw [S2.out, e2.out]
    rintro e w6 ⟨rfl, hb6⟩
    have hB6 := below_up' hB5 hb6
    have HA6 := Lib.hid (HA5.out.below hb6)
    have z6 := hB6.size
    clear hB5 hb6
    go_wp2_with fail
    refine (interest_any q4 M.length d4 _ _ _ 0 0 _ (by omega) HA6.out).mono ?_
    rw [s3.out, e3.out]
    rintro e w7 ⟨rfl, hb7⟩
    have hB7 := below_up' hB6 hb7
    have HA7 := Lib.hid (HA6.out.below hb7)
    have z7 := hB7.size
    clear hB6 hb7
    go_wp2
    go_loopw [15, 53] (fun sv iv wr => ∃ k : Nat, k ≤ M.length ∧ iv = .int .i64 k ∧ sv = .int .i64 (sumI (pr3 M) (pp3 M) 3000 1000 k) ∧ Below w7.heap.size w7 wr) (fun _ iv _ => M.length - (intOf iv).toNat)
    case atStart => exact ⟨0, by omega, rfl, rfl, Below.refl _ _⟩
    case round =>
      obtain ⟨k, hk, rfl, rfl, hbr⟩ := hrel
      have zr := hbr.size
      have sb := sumI_bd (r := pr3 M) (p := pp3 M) (ra := 3000) (pl := 1000) (by omega) (by omega) (by omega) (by omega) k (fun j hj' => hj.out j (by omega))
      by_cases hlt : k < M.length
      · have hak := hj.out k hlt
        obtain ⟨bb, off, rfl, hc⟩ := (HA7.out.below hbr).at_ (by omega)
        have hck := hc k hlt
        obtain ⟨vd, hvd⟩ : ∃ x, pd3 M k = x := ⟨_, rfl⟩
        obtain ⟨vr, hvr⟩ : ∃ x, pr3 M k = x := ⟨_, rfl⟩
        obtain ⟨vp, hvp⟩ : ∃ x, pp3 M k = x := ⟨_, rfl⟩
        obtain ⟨S, hSs⟩ : ∃ S, sumI (pr3 M) (pp3 M) 3000 1000 k = S := ⟨_, rfl⟩
        have HS1 := Lib.hid (show sumI (pr3 M) (pp3 M) 3000 1000 (k + 1) = S + (costV vr 3000 - costV vp 1000) by rw [← hSs, ← hvr, ← hvp]; rfl)
        rw [hvd, hvr, hvp] at hck
        rw [hvr, hvp] at hak
        rw [hSs] at sb
        obtain ⟨⟨y1, y2⟩, y3, y4⟩ := amB_iff.1 hak
        have c1 := costV_bd (ra := 3000) y1 y2 (by omega) (by omega)
        have c2 := costV_bd (ra := 1000) y3 y4 (by omega) (by omega)
        have f1 := inE_zero (n := 1) (r := fun _ => vr) (p := fun _ => vp) (ra := 3000) (pl := 1000) (by omega) (fun _ _ => hak) (by omega) (by omega) (by omega) (by omega)
        have f2 : inS 1 (fun _ => vr) (fun _ => vp) 3000 1000 = costV vr 3000 - costV vp 1000 := by unfold inS; rw [f1, if_pos rfl]; simp [sumI]
        have F1 := Lib.hid f1
        obtain ⟨x1, hx1⟩ : ∃ x, costV vr 3000 = x := ⟨_, rfl⟩
        obtain ⟨x2, hx2⟩ : ∃ x, costV vp 1000 = x := ⟨_, rfl⟩
        rw [hx1, hx2] at f2 HS1
        rw [hx1] at c1
        rw [hx2] at c2
        have F2 := Lib.hid f2
        obtain ⟨k0, k1, k2⟩ := hck
        rw [hSs]
        clear hc hvd hvr hvp hx1 hx2 hSs hak f1 f2
        have HW : Hid (PlanAt ((wr.alloc (.cells #[.int .i64 vd, .int .i64 vr, .int .i64 vp] 46)).alloc (.cells #[.int .i64 vd, .int .i64 vr, .int .i64 vp] 46)) (some ⟨wr.heap.size + 1, 0, none⟩) 1 1 (fun _ => vd) (fun _ => vr) (fun _ => vp)) := Lib.hid (by
          refine ⟨Nat.le_refl _, by unfold maxLen; omega, .inr ⟨_, _, rfl, fun j hj => ?_⟩⟩
          have : j = 0 := by omega
          subst this
          refine ⟨?_, ?_, ?_⟩ <;> (rw [World.cell?_alloc_at _ _ _ _ (by simp)]; rfl))
        go_wp2_with fail
        refine (interest_any _ 1 1 _ _ _ 3000 1000 _ (by omega) HW.out).mono ?_
        rw [F1.out, F2.out]
        rintro e w8 ⟨rfl, hb8⟩
        have hB8 := below_up' ((hbr.alloc zr (.cells #[.int .i64 vd, .int .i64 vr, .int .i64 vp] 46)).alloc (by simp; omega) _) hb8 (by simp)
        clear hb8
        go_wp2
        go_roundw
        case rel => exact ⟨k + 1, by omega, by go_num, by rw [HS1.out], hB8⟩
        case measure => simp [intOf]; omega
      · have hkn : k = M.length := by omega
        subst hkn
        rw [HA.out]
        have hBr := hB7.trans (hbr.mono (by omega))
        go_wp2_with (go_at_call 13; refine (sane30_any _).mono ?_; rintro e w8 ⟨rfl, hb8⟩)
        go_ret
        exact ⟨rfl, below_up' hBr (by assumption)⟩
  · have he1 : (E == 0) = false := by simpa using he0
    go_wp2_with fail
    refine HK.out.mono ?_
    rintro e w4 ⟨v4, rfl, hown4, hb4⟩
    have hB4 := below_up' (hB3.alloc z3 _) hb4
    clear hown4 hb4
    go_wp2_with (go_at_call 13; refine (sane30_any _).mono ?_; rintro e w8 ⟨rfl, hb8⟩)
    go_ret
    exact ⟨rfl, below_up' hB4 (by assumption)⟩
end Go.Proofs.Ytmobjmgiilbbdaa
