/- the reference's register: holder, held, outstanding, Find, Holdings. -/
import Derived.Test.YthjaofgdickkaaaGreatRegR
namespace Go.Proofs.YthjaofgdickkaaaGreat
open Go.RowKit
set_option linter.unusedVariables false
set_option linter.unusedSimpArgs false
theorem fholder_any (n : Int) (w : World) : Calls Tryz.prog 318 #[.int .i64 n] w fun e w' => e = .returned (.bool (inB n 1 1000)) ∧ w = w' := by
  obtain ⟨b, hb⟩ : ∃ b, inB n 1 1000 = b := ⟨_, rfl⟩
  rw [hb]
  by_cases h1 : 1 ≤ n
  · have g1 : decide (1 ≤ n) = true := by simpa using h1
    have hb2 : decide (n ≤ 1000) = b := by rw [← hb]; unfold inB; rw [decide_eq_decide]; omega
    have HB := Lib.hid hb2
    clear hb hb2
    by_cases h2 : n ≤ 1000
    · have : b = true := by rw [← HB.out]; simpa using h2
      subst this
      have g2 : decide (n ≤ 1000) = true := by simpa using h2
      go_enter Tryz.func318, Tryz.ntmps318
      go_wp2
      go_ret
      exact ⟨rfl, rfl⟩
    · have : b = false := by rw [← HB.out]; simpa using h2
      subst this
      have g2 : decide (n ≤ 1000) = false := by simpa using h2
      go_enter Tryz.func318, Tryz.ntmps318
      go_wp2
      go_ret
      exact ⟨rfl, rfl⟩
  · have g1 : decide (1 ≤ n) = false := by simpa using h1
    have : b = false := by rw [← hb]; unfold inB; simp; omega
    subst this
    clear hb
    go_enter Tryz.func318, Tryz.ntmps318
    go_wp2
    go_ret
    exact ⟨rfl, rfl⟩
set_option maxHeartbeats 1000000 in
theorem fheld_any (P : Nat → Prop) (v : Value) (L : List Hold) (s h : Int) (w : World) (hS : Sl 3 encHold P w v L) (hlen : L.length ≤ 1000000) :
    Calls Tryz.prog 157 #[v, .int .i64 s, .int .i64 h] w fun e w' => e = .returned (.int .i64 (heldH L s h)) ∧ Below w.heap.size w w' := by
  obtain ⟨ao, n, c, rfl, hn, hnc, hcm⟩ := hS.shape
  have hn1 : n ≤ 1000000 := by omega
  obtain ⟨r, hr⟩ : ∃ r, heldH L s h = r := ⟨_, rfl⟩
  rw [hr]
  have HS := Lib.hid hS
  have HN := Lib.hid hn
  have HR := Lib.hid hr
  clear hS hn hlen hr
  go_enter Tryz.func157, Tryz.ntmps157
  go_wp2
  go_loopw [11] (fun iv wr => ∃ k : Nat, k ≤ n ∧ iv = .int .i64 k ∧ r = heldH (L.drop k) s h ∧ Below w.heap.size w wr) (fun iv _ => n - (intOf iv).toNat)
  case atStart => exact ⟨0, by omega, rfl, by rw [List.drop_zero]; exact HR.out.symm, brefl⟩
  case round =>
    obtain ⟨k, hk, rfl, hrk, hbr⟩ := hrel
    have zr := hbr.size
    by_cases hlt : k < n
    · obtain ⟨b, off, vs, vh, va, rfl, -, hb', hL, k0, k1, k2⟩ := (HS.out.below hbr).hold hlt
      rw [drop_cons hL] at hrk
      simp only [heldH, eqK] at hrk
      have HRK := Lib.hid hrk
      have HBR := Lib.hid hbr
      clear hL hrk hbr
      by_cases e1 : vs = s
      · by_cases e2 : vh = h
        · have hf : r = va := by rw [HRK.out]; simp [e1, e2]
          subst hf
          subst e1 e2
          go_wp2
          go_ret
          exact ⟨rfl, bal HBR.out _⟩
        · have hrel2 := Lib.hid (show r = heldH (L.drop (k + 1)) s h by rw [HRK.out]; simp [e2])
          subst e1
          have q2 : (vh == h) = false := by simpa using e2
          go_wp2
          go_roundw
          case rel => exact ⟨k + 1, by omega, by go_num, hrel2.out, bal HBR.out _⟩
          case measure => simp [intOf]; omega
      · have hrel2 := Lib.hid (show r = heldH (L.drop (k + 1)) s h by rw [HRK.out]; simp [e1])
        have q1 : (vs == s) = false := by simpa using e1
        go_wp2
        go_roundw
        case rel => exact ⟨k + 1, by omega, by go_num, hrel2.out, bal HBR.out _⟩
        case measure => simp [intOf]; omega
    · have hf : r = 0 := by rw [hrk, drop_all (by have := HN.out; omega)]; rfl
      subst hf
      clear hrk
      go_wp2
      go_ret
      exact ⟨rfl, hbr⟩
set_option maxHeartbeats 1000000 in
theorem fout_any (P : Nat → Prop) (v : Value) (L : List Hold) (s : Int) (w : World) (hS : Sl 3 encHold P w v L) (hok : HsOk L) (hlen : L.length ≤ 1000000) :
    Calls Tryz.prog 145 #[v, .int .i64 s] w fun e w' => e = .returned (.int .i64 (outH L s)) ∧ Below w.heap.size w w' := by
  obtain ⟨ao, n, c, rfl, hn, hnc, hcm⟩ := hS.shape
  have hn1 : n ≤ 1000000 := by omega
  have HS := Lib.hid hS
  have HN := Lib.hid hn
  have HK := Lib.hid hok
  clear hS hn hlen hok
  go_enter Tryz.func145, Tryz.ntmps145
  go_wp2
  go_loopw [5, 10] (fun sv iv wr => ∃ k : Nat, k ≤ n ∧ iv = .int .i64 k ∧ sv = .int .i64 (outH (L.take k) s) ∧ Below w.heap.size w wr) (fun _ iv _ => n - (intOf iv).toNat)
  case atStart => exact ⟨0, by omega, rfl, rfl, brefl⟩
  case round =>
    obtain ⟨k, hk, rfl, rfl, hbr⟩ := hrel
    have zr := hbr.size
    obtain ⟨sb0, sb1⟩ := outH_take_le HK.out.pos s k
    have sb2 := HK.out.out s
    by_cases hlt : k < n
    · obtain ⟨b, off, vs, vh, va, rfl, -, hb', hL, k0, k1, k2⟩ := (HS.out.below hbr).hold hlt
      obtain ⟨tb0, tb1⟩ := outH_take_le HK.out.pos s (k + 1)
      rw [take_snocZ hL, outH_append] at tb0 tb1
      have HT := Lib.hid (take_snocZ hL)
      obtain ⟨S, hSs⟩ : ∃ S, outH (L.take k) s = S := ⟨_, rfl⟩
      rw [hSs] at sb0 sb1 tb0 tb1
      have HSS := Lib.hid hSs
      rw [hSs]
      simp only [outH, Int.add_zero] at tb0 tb1
      have hpos := Lib.hid (HK.out.pos _ (List.mem_of_getElem? hL))
      clear hL hSs
      by_cases hq : vs = s
      · rw [if_pos hq] at tb0 tb1
        have HR := Lib.hid (show outH (L.take (k + 1)) s = S + va by rw [HT.out, outH_append, HSS.out]; simp [outH, hq])
        subst hq
        go_wp2
        go_roundw
        case rel => exact ⟨k + 1, by omega, by go_num, by rw [HR.out], bal hbr _⟩
        case measure => simp [intOf]; omega
      · have HR := Lib.hid (show outH (L.take (k + 1)) s = S by rw [HT.out, outH_append, HSS.out]; simp [outH, hq])
        have hq' : (vs == s) = false := by simpa using hq
        go_wp2
        go_roundw
        case rel => exact ⟨k + 1, by omega, by go_num, by rw [HR.out], bal hbr _⟩
        case measure => simp [intOf]; omega
    · have hfin := Lib.hid (show outH (L.take k) s = outH L s by rw [take_all (by have := HN.out; omega)])
      rw [hfin.out]
      go_wp2
      go_ret
      exact ⟨rfl, hbr⟩
set_option maxHeartbeats 2000000 in
theorem fhold_any (P P' : Nat → Prop) (v v' : Value) (L M : List Hold) (w : World) (h : Sl 3 encHold P w v L) (h' : Sl 3 encHold P' w v' M) (hl : L.length ≤ 1000000) :
    Calls Tryz.prog 52 #[v, v'] w fun e w' => e = .returned (.bool (eqHs L M)) ∧ ∃ nq, w' = w.drewN nq := by
  obtain ⟨ao, n, c, rfl, hn, hnc, hcm⟩ := h.shape
  obtain ⟨ao', n', c', rfl, hn', hnc', hcm'⟩ := h'.shape
  have hn1 : n ≤ 1000000 := by omega
  obtain ⟨r, hr⟩ : ∃ r, eqHs L M = r := ⟨_, rfl⟩
  rw [hr]
  have H := Lib.hid h
  have H' := Lib.hid h'
  have HN := Lib.hid hn
  have HN' := Lib.hid hn'
  have HR := Lib.hid hr
  clear h h' hn hn' hr hl
  by_cases he : n = n'
  rotate_left
  · have hf : r = false := by
      cases r
      · rfl
      · have := congrArg List.length (eqHs_iff.1 HR.out)
        rw [HN.out, HN'.out] at this
        exact absurd this he
    subst hf
    have he1 : ((n : Int) != (n' : Int)) = true := by simp; omega
    have he2 : ((n : Int) == (n' : Int)) = false := by simp; omega
    have he3 : ¬ (n : Int) = (n' : Int) := by omega
    go_enter Tryz.func52, Tryz.ntmps52
    go_wp2
    go_ret
    exact ⟨rfl, 0, rfl⟩
  subst he
  go_enter Tryz.func52, Tryz.ntmps52
  go_wp2
  go_loopw [13] (fun iv wr => ∃ k : Nat, k ≤ n ∧ iv = .int .i64 k ∧ r = eqHs (L.drop k) (M.drop k) ∧ ∃ nq, wr = w.drewN nq) (fun iv _ => n - (intOf iv).toNat)
  case atStart => exact ⟨0, by omega, rfl, by rw [List.drop_zero, List.drop_zero]; exact HR.out.symm, 0, rfl⟩
  case round =>
    obtain ⟨k, hk, rfl, hrk, nq, rfl⟩ := hrel
    by_cases hlt : k < n
    · obtain ⟨b, off, xs, xh, xa, rfl, -, -, hL, k0, k1, k2⟩ := H.out.hold hlt
      obtain ⟨b', off', ys, yh, ya, rfl, -, -, hM, j0, j1, j2⟩ := H'.out.hold hlt
      rw [drop_cons hL, drop_cons hM] at hrk
      simp only [eqHs] at hrk
      have HRK := Lib.hid hrk
      have hkn : (k : Int) < n := by omega
      clear hrk hL hM
      by_cases e1 : xs = ys
      · by_cases e2 : xh = yh
        · by_cases e3 : xa = ya
          · subst e1 e2 e3
            have hrel2 := Lib.hid (show r = eqHs (L.drop (k + 1)) (M.drop (k + 1)) by rw [HRK.out]; simp)
            go_wp2
            go_quiet (fail)
            go_wp2
            go_roundw
            case rel => exact ⟨k + 1, by omega, by go_num, hrel2.out, _, rfl⟩
            case measure => simp [intOf]; omega
          · have hf : r = false := by rw [HRK.out]; simp [e3]
            subst hf
            subst e1 e2
            have q1 : (xa == ya) = false := by simpa using e3
            go_wp2
            go_quiet (fail)
            go_wp2
            go_ret
            exact ⟨rfl, _, World.drewN_drewN ..⟩
        · have hf : r = false := by rw [HRK.out]; simp [e2]
          subst hf
          subst e1
          have q1 : (xh == yh) = false := by simpa using e2
          go_wp2
          go_quiet (fail)
          go_wp2
          go_ret
          exact ⟨rfl, _, World.drewN_drewN ..⟩
      · have hf : r = false := by rw [HRK.out]; simp [e1]
        subst hf
        have q1 : (xs == ys) = false := by simpa using e1
        go_wp2
        go_quiet (fail)
        go_wp2
        go_ret
        exact ⟨rfl, _, World.drewN_drewN ..⟩
    · have hf : r = true := by rw [hrk, drop_all (by have := HN.out; omega), drop_all (by have := HN'.out; omega)]; rfl
      subst hf
      clear hrk
      go_wp2
      go_ret
      exact ⟨rfl, _, rfl⟩
end Go.Proofs.YthjaofgdickkaaaGreat
