/- the reference's register: holder, held, outstanding, Find, Holdings. the reference's register: Find. the reference's register: set, in plain lists. -/
import Derived.Test.YtjfngogfiafipaaZRegR
namespace Go.Proofs.Ytjfngogfiafipaa
open Go.RowKit
set_option linter.unusedVariables false
set_option linter.unusedSimpArgs false
theorem fholder_any (n : Int) (w : World) : Calls Try.prog 107 #[.int .i64 n] w fun e w' => e = .returned (.bool (inB n 1 1000)) ∧ w = w' := by
  obtain ⟨b, hb⟩ : ∃ b, inB n 1 1000 = b := ⟨_, rfl⟩
  rw [hb]
  by_cases h1 : 1 ≤ n
  · have g1 : decide (1 ≤ n) = true := by simpa using h1
    have hb2 : decide (n ≤ 1000) = b := by rw [← hb]; unfold inB; rw [decide_eq_decide]; omega
    have HB := Lib.hid hb2
    clear hb hb2
    by_cases h2 : n ≤ 1000
    · have : b = true := by rw [← HB.out]; simpa using h2
      subst this
      have g2 : decide (n ≤ 1000) = true := by simpa using h2
      go_enter Try.func107, Try.ntmps107
      go_wp2
      go_ret
      exact ⟨rfl, rfl⟩
    · have : b = false := by rw [← HB.out]; simpa using h2
      subst this
      have g2 : decide (n ≤ 1000) = false := by simpa using h2
      go_enter Try.func107, Try.ntmps107
      go_wp2
      go_ret
      exact ⟨rfl, rfl⟩
  · have g1 : decide (1 ≤ n) = false := by simpa using h1
    have : b = false := by rw [← hb]; unfold inB; simp; omega
    subst this
    clear hb
    go_enter Try.func107, Try.ntmps107
    go_wp2
    go_ret
    exact ⟨rfl, rfl⟩
set_option maxHeartbeats 1000000 in
theorem fheld_any (P : Nat → Prop) (v : Value) (L : List Hold) (s h : Int) (w : World) (hS : Sl 3 encHold P w v L) (hlen : L.length ≤ 1000000) :
    Calls Try.prog 69 #[v, .int .i64 s, .int .i64 h] w fun e w' => e = .returned (.int .i64 (heldH L s h)) ∧ Below w.heap.size w w' := by
  obtain ⟨ao, n, c, rfl, hn, hnc, hcm⟩ := hS.shape
  have hn1 : n ≤ 1000000 := by omega
  obtain ⟨r, hr⟩ : ∃ r, heldH L s h = r := ⟨_, rfl⟩
  rw [hr]
  have HS := Lib.hid hS
  have HN := Lib.hid hn
  have HR := Lib.hid hr
  clear hS hn hlen hr
  go_enter Try.func69, Try.ntmps69
  go_wp2
  go_loopw [11] (fun iv wr => ∃ k : Nat, k ≤ n ∧ iv = .int .i64 k ∧ r = heldH (L.drop k) s h ∧ Below w.heap.size w wr) (fun iv _ => n - (intOf iv).toNat)
  case atStart => exact ⟨0, by omega, rfl, by rw [List.drop_zero]; exact HR.out.symm, brefl⟩
  case round =>
    obtain ⟨k, hk, rfl, hrk, hbr⟩ := hrel
    have zr := hbr.size
    by_cases hlt : k < n
    · obtain ⟨b, off, vs, vh, va, rfl, -, hb', hL, k0, k1, k2⟩ := (HS.out.below hbr).hold hlt
      rw [drop_cons hL] at hrk
      simp only [heldH, eqK] at hrk
      have HRK := Lib.hid hrk
      have HBR := Lib.hid hbr
      clear hL hrk hbr
      by_cases e1 : vs = s
      · by_cases e2 : vh = h
        · have hf : r = va := by rw [HRK.out]; simp [e1, e2]
          subst hf
          subst e1 e2
          go_wp2
          go_ret
          exact ⟨rfl, bal HBR.out _⟩
        · have hrel2 := Lib.hid (show r = heldH (L.drop (k + 1)) s h by rw [HRK.out]; simp [e2])
          subst e1
          have q2 : (vh == h) = false := by simpa using e2
          go_wp2
          go_roundw
          case rel => exact ⟨k + 1, by omega, by go_num, hrel2.out, bal HBR.out _⟩
          case measure => simp [intOf]; omega
      · have hrel2 := Lib.hid (show r = heldH (L.drop (k + 1)) s h by rw [HRK.out]; simp [e1])
        have q1 : (vs == s) = false := by simpa using e1
        go_wp2
        go_roundw
        case rel => exact ⟨k + 1, by omega, by go_num, hrel2.out, bal HBR.out _⟩
        case measure => simp [intOf]; omega
    · have hf : r = 0 := by rw [hrk, drop_all (by have := HN.out; omega)]; rfl
      subst hf
      clear hrk
      go_wp2
      go_ret
      exact ⟨rfl, hbr⟩
set_option maxHeartbeats 1000000 in
theorem fout_any (P : Nat → Prop) (v : Value) (L : List Hold) (s : Int) (w : World) (hS : Sl 3 encHold P w v L) (hok : HsOk L) (hlen : L.length ≤ 1000000) :
    Calls Try.prog 70 #[v, .int .i64 s] w fun e w' => e = .returned (.int .i64 (outH L s)) ∧ Below w.heap.size w w' := by
  obtain ⟨ao, n, c, rfl, hn, hnc, hcm⟩ := hS.shape
  have hn1 : n ≤ 1000000 := by omega
  have HS := Lib.hid hS
  have HN := Lib.hid hn
  have HK := Lib.hid hok
  clear hS hn hlen hok
  go_enter Try.func70, Try.ntmps70
  go_wp2
  go_loopw [5, 10] (fun sv iv wr => ∃ k : Nat, k ≤ n ∧ iv = .int .i64 k ∧ sv = .int .i64 (outH (L.take k) s) ∧ Below w.heap.size w wr) (fun _ iv _ => n - (intOf iv).toNat)
  case atStart => exact ⟨0, by omega, rfl, rfl, brefl⟩
  case round =>
    obtain ⟨k, hk, rfl, rfl, hbr⟩ := hrel
    have zr := hbr.size
    obtain ⟨sb0, sb1⟩ := outH_take_le HK.out.pos s k
    have sb2 := HK.out.out s
    by_cases hlt : k < n
    · obtain ⟨b, off, vs, vh, va, rfl, -, hb', hL, k0, k1, k2⟩ := (HS.out.below hbr).hold hlt
      obtain ⟨tb0, tb1⟩ := outH_take_le HK.out.pos s (k + 1)
      rw [take_snocZ hL, outH_append] at tb0 tb1
      have HT := Lib.hid (take_snocZ hL)
      obtain ⟨S, hSs⟩ : ∃ S, outH (L.take k) s = S := ⟨_, rfl⟩
      rw [hSs] at sb0 sb1 tb0 tb1
      have HSS := Lib.hid hSs
      rw [hSs]
      simp only [outH, Int.add_zero] at tb0 tb1
      have hpos := Lib.hid (HK.out.pos _ (List.mem_of_getElem? hL))
      clear hL hSs
      by_cases hq : vs = s
      · rw [if_pos hq] at tb0 tb1
        have HR := Lib.hid (show outH (L.take (k + 1)) s = S + va by rw [HT.out, outH_append, HSS.out]; simp [outH, hq])
        subst hq
        go_wp2
        go_roundw
        case rel => exact ⟨k + 1, by omega, by go_num, by rw [HR.out], bal hbr _⟩
        case measure => simp [intOf]; omega
      · have HR := Lib.hid (show outH (L.take (k + 1)) s = S by rw [HT.out, outH_append, HSS.out]; simp [outH, hq])
        have hq' : (vs == s) = false := by simpa using hq
        go_wp2
        go_roundw
        case rel => exact ⟨k + 1, by omega, by go_num, by rw [HR.out], bal hbr _⟩
        case measure => simp [intOf]; omega
    · have hfin := Lib.hid (show outH (L.take k) s = outH L s by rw [take_all (by have := HN.out; omega)])
      rw [hfin.out]
      go_wp2
      go_ret
      exact ⟨rfl, hbr⟩
set_option maxHeartbeats 2000000 in
theorem fhold_any (P P' : Nat → Prop) (v v' : Value) (L M : List Hold) (w : World) (h : Sl 3 encHold P w v L) (h' : Sl 3 encHold P' w v' M) (hl : L.length ≤ 1000000) :
    Calls Try.prog 19 #[v, v'] w fun e w' => e = .returned (.bool (eqHs L M)) ∧ ∃ nq, w' = w.drewN nq := by
  obtain ⟨ao, n, c, rfl, hn, hnc, hcm⟩ := h.shape
  obtain ⟨ao', n', c', rfl, hn', hnc', hcm'⟩ := h'.shape
  have hn1 : n ≤ 1000000 := by omega
  obtain ⟨r, hr⟩ : ∃ r, eqHs L M = r := ⟨_, rfl⟩
  rw [hr]
  have H := Lib.hid h
  have H' := Lib.hid h'
  have HN := Lib.hid hn
  have HN' := Lib.hid hn'
  have HR := Lib.hid hr
  clear h h' hn hn' hr hl
  by_cases he : n = n'
  rotate_left
  · have hf : r = false := by
      cases r
      · rfl
      · have := congrArg List.length (eqHs_iff.1 HR.out)
        rw [HN.out, HN'.out] at this
        exact absurd this he
    subst hf
    have he1 : ((n : Int) != (n' : Int)) = true := by simp; omega
    have he2 : ((n : Int) == (n' : Int)) = false := by simp; omega
    have he3 : ¬ (n : Int) = (n' : Int) := by omega
    go_enter Try.func19, Try.ntmps19
    go_wp2
    go_ret
    exact ⟨rfl, 0, rfl⟩
  subst he
  go_enter Try.func19, Try.ntmps19
  go_wp2
  go_loopw [13] (fun iv wr => ∃ k : Nat, k ≤ n ∧ iv = .int .i64 k ∧ r = eqHs (L.drop k) (M.drop k) ∧ ∃ nq, wr = w.drewN nq) (fun iv _ => n - (intOf iv).toNat)
  case atStart => exact ⟨0, by omega, rfl, by rw [List.drop_zero, List.drop_zero]; exact HR.out.symm, 0, rfl⟩
  case round =>
    obtain ⟨k, hk, rfl, hrk, nq, rfl⟩ := hrel
    by_cases hlt : k < n
    · obtain ⟨b, off, xs, xh, xa, rfl, -, -, hL, k0, k1, k2⟩ := H.out.hold hlt
      obtain ⟨b', off', ys, yh, ya, rfl, -, -, hM, j0, j1, j2⟩ := H'.out.hold hlt
      rw [drop_cons hL, drop_cons hM] at hrk
      simp only [eqHs] at hrk
      have HRK := Lib.hid hrk
      have hkn : (k : Int) < n := by omega
      clear hrk hL hM
      by_cases e1 : xs = ys
      · by_cases e2 : xh = yh
        · by_cases e3 : xa = ya
          · subst e1 e2 e3
            have hrel2 := Lib.hid (show r = eqHs (L.drop (k + 1)) (M.drop (k + 1)) by rw [HRK.out]; simp)
            go_wp2
            go_quiet (fail)
            go_wp2
            go_roundw
            case rel => exact ⟨k + 1, by omega, by go_num, hrel2.out, _, rfl⟩
            case measure => simp [intOf]; omega
          · have hf : r = false := by rw [HRK.out]; simp [e3]
            subst hf
            subst e1 e2
            have q1 : (xa == ya) = false := by simpa using e3
            go_wp2
            go_quiet (fail)
            go_wp2
            go_ret
            exact ⟨rfl, _, World.drewN_drewN ..⟩
        · have hf : r = false := by rw [HRK.out]; simp [e2]
          subst hf
          subst e1
          have q1 : (xh == yh) = false := by simpa using e2
          go_wp2
          go_quiet (fail)
          go_wp2
          go_ret
          exact ⟨rfl, _, World.drewN_drewN ..⟩
      · have hf : r = false := by rw [HRK.out]; simp [e1]
        subst hf
        have q1 : (xs == ys) = false := by simpa using e1
        go_wp2
        go_quiet (fail)
        go_wp2
        go_ret
        exact ⟨rfl, _, World.drewN_drewN ..⟩
    · have hf : r = true := by rw [hrk, drop_all (by have := HN.out; omega), drop_all (by have := HN'.out; omega)]; rfl
      subst hf
      clear hrk
      go_wp2
      go_ret
      exact ⟨rfl, _, rfl⟩
end Go.Proofs.Ytjfngogfiafipaa
namespace Go.Proofs.Ytjfngogfiafipaa
open Go.RowKit
set_option linter.unusedVariables false
set_option linter.unusedSimpArgs false
set_option maxHeartbeats 4000000 in
theorem ffind_yes (P : Nat → Prop) (vs vh vm : Value) (R : Reg) (x : Int) (id un is ma ra ev : Int) (ix : Bool) (w : World) (hr : RgIn P w vs vh vm R) (hlen : R.secs.length ≤ 1000000) (hf : findS R.secs x = some ⟨id, un, is, ma, ra, ev, ix⟩) :
    Calls Try.prog 42 #[.agg #[vs, vh, vm], .int .i64 x] w fun e w' => e = .returned (.tuple #[.agg #[.int .i64 id, .int .i64 un, .int .i64 is, .int .i64 ma, .int .i64 ra, .int .i64 ev, .bool ix], .bool true]) ∧ Below w.heap.size w w' := by
  obtain ⟨a0, n0, c0, rfl, hn0, -, -⟩ := hr.S.shape
  obtain ⟨a1, n1, c1, rfl, -, -, -⟩ := hr.H.shape
  obtain ⟨a2, n2, c2, rfl, -, -, -⟩ := hr.M.shape
  have hn1 : n0 ≤ 1000000 := by omega
  have HS := Lib.hid hr.S
  have HN := Lib.hid hn0
  have HF := Lib.hid hf
  clear hr hn0 hlen hf
  go_enter Try.func42, Try.ntmps42
  go_wp2
  go_loopw [11] (fun iv wr => ∃ k : Nat, k ≤ n0 ∧ iv = .int .i64 k ∧ findS (R.secs.drop k) x = some ⟨id, un, is, ma, ra, ev, ix⟩ ∧ Below w.heap.size w wr ∧ wr.heap[w.heap.size + 1]? = some (.cells #[.int .i64 0, .int .i64 0, .int .i64 0, .int .i64 0, .int .i64 0, .int .i64 0, .bool false] 45 (0, 0))) (fun iv _ => n0 - (intOf iv).toNat)
  case atStart => exact ⟨0, by omega, rfl, by rw [List.drop_zero]; exact HF.out, bal (bal brefl _) _, heap_at (by simp)⟩
  case round =>
    obtain ⟨k, hk, rfl, hrk, hbr, hx⟩ := hrel
    have zr := hbr.size
    have zx : w.heap.size + 1 < wr.heap.size := (Array.getElem?_eq_some_iff.1 hx).1
    have hlt : k < n0 := by
      rcases Nat.lt_or_ge k n0 with h | h
      · exact h
      · rw [drop_all (by have := HN.out; omega)] at hrk; cases hrk
    obtain ⟨b, off, vid, vun, vis, vma, vra, vev, vix, rfl, -, hb', hL, k0, k1, k2, k3, k4, k5, k6⟩ := (HS.out.below hbr).sec hlt
    rw [drop_cons hL] at hrk
    simp only [findS] at hrk
    have HRK := Lib.hid hrk
    have HBR := Lib.hid hbr
    have HX := Lib.hid hx
    have xf : ∀ i, wr.frozen? ⟨w.heap.size + 1, i, none⟩ = false := fun i => frozen_of_row wr _ _ _ _ hx
    have x0 := cell_heap (i := 0) hx rfl
    have x1 := cell_heap (i := 1) hx rfl
    have x2 := cell_heap (i := 2) hx rfl
    have x3 := cell_heap (i := 3) hx rfl
    have x4 := cell_heap (i := 4) hx rfl
    have x5 := cell_heap (i := 5) hx rfl
    have x6 := cell_heap (i := 6) hx rfl
    clear hL hrk hbr hx
    by_cases e1 : vid = x
    · have hq := HRK.out
      rw [if_pos e1] at hq
      simp only [Option.some.injEq, Sec.mk.injEq] at hq
      obtain ⟨rfl, rfl, rfl, rfl, rfl, rfl, rfl⟩ := hq
      clear HRK HF
      subst e1
      go_wp2
      refine bodyPost_ret (v := .tuple #[.agg #[.int .i64 vid, .int .i64 vun, .int .i64 vis, .int .i64 vma, .int .i64 vra, .int .i64 vev, .bool vix], .bool true]) (by simp [results, Try.results42, go_sem, x0, x1, x2, x3, x4, x5, x6, zx]) rfl ⟨rfl, ?_⟩
      exact bal (bset7 HBR.out (by omega) _ _ _ _ _ _ _) _
    · have hrel2 := Lib.hid (show findS (R.secs.drop (k + 1)) x = some ⟨id, un, is, ma, ra, ev, ix⟩ by have := HRK.out; rw [if_neg e1] at this; exact this)
      have q1 : (vid == x) = false := by simpa using e1
      go_wp2
      go_roundw
      case rel => exact ⟨k + 1, by omega, by go_num, hrel2.out, bal HBR.out _, (heap_alloc_old _ _ (by omega)).trans HX.out⟩
      case measure => simp [intOf]; omega
set_option maxHeartbeats 4000000 in
theorem ffind_no (P : Nat → Prop) (vs vh vm : Value) (R : Reg) (x : Int) (w : World) (hr : RgIn P w vs vh vm R) (hlen : R.secs.length ≤ 1000000) (hf : findS R.secs x = none) :
    Calls Try.prog 42 #[.agg #[vs, vh, vm], .int .i64 x] w fun e w' => e = .returned (.tuple #[.agg #[.int .i64 0, .int .i64 0, .int .i64 0, .int .i64 0, .int .i64 0, .int .i64 0, .bool false], .bool false]) ∧ Below w.heap.size w w' := by
  obtain ⟨a0, n0, c0, rfl, hn0, -, -⟩ := hr.S.shape
  obtain ⟨a1, n1, c1, rfl, -, -, -⟩ := hr.H.shape
  obtain ⟨a2, n2, c2, rfl, -, -, -⟩ := hr.M.shape
  have hn1 : n0 ≤ 1000000 := by omega
  have HS := Lib.hid hr.S
  have HN := Lib.hid hn0
  have HF := Lib.hid hf
  clear hr hn0 hlen hf
  go_enter Try.func42, Try.ntmps42
  go_wp2
  go_loopw [11] (fun iv wr => ∃ k : Nat, k ≤ n0 ∧ iv = .int .i64 k ∧ findS (R.secs.drop k) x = none ∧ Below w.heap.size w wr ∧ wr.heap[w.heap.size + 1]? = some (.cells #[.int .i64 0, .int .i64 0, .int .i64 0, .int .i64 0, .int .i64 0, .int .i64 0, .bool false] 45 (0, 0))) (fun iv _ => n0 - (intOf iv).toNat)
  case atStart => exact ⟨0, by omega, rfl, by rw [List.drop_zero]; exact HF.out, bal (bal brefl _) _, heap_at (by simp)⟩
  case round =>
    obtain ⟨k, hk, rfl, hrk, hbr, hx⟩ := hrel
    have zr := hbr.size
    have zx : w.heap.size + 1 < wr.heap.size := (Array.getElem?_eq_some_iff.1 hx).1
    have HBR := Lib.hid hbr
    have HX := Lib.hid hx
    by_cases hlt : k < n0
    · obtain ⟨b, off, vid, vun, vis, vma, vra, vev, vix, rfl, -, hb', hL, k0, k1, k2, k3, k4, k5, k6⟩ := (HS.out.below hbr).sec hlt
      rw [drop_cons hL] at hrk
      simp only [findS] at hrk
      have e1 : vid ≠ x := by intro e; rw [if_pos e] at hrk; cases hrk
      rw [if_neg e1] at hrk
      have hrel2 := Lib.hid hrk
      have q1 : (vid == x) = false := by simpa using e1
      clear hL hrk hbr hx
      go_wp2
      go_roundw
      case rel => exact ⟨k + 1, by omega, by go_num, hrel2.out, bal HBR.out _, (heap_alloc_old _ _ (by omega)).trans HX.out⟩
      case measure => simp [intOf]; omega
    · have xf : ∀ i, wr.frozen? ⟨w.heap.size + 1, i, none⟩ = false := fun i => frozen_of_row wr _ _ _ _ hx
      have x0 := cell_heap (i := 0) hx rfl
      have x1 := cell_heap (i := 1) hx rfl
      have x2 := cell_heap (i := 2) hx rfl
      have x3 := cell_heap (i := 3) hx rfl
      have x4 := cell_heap (i := 4) hx rfl
      have x5 := cell_heap (i := 5) hx rfl
      have x6 := cell_heap (i := 6) hx rfl
      clear hrk hbr hx
      go_wp2
      refine bodyPost_ret (v := .tuple #[.agg #[.int .i64 0, .int .i64 0, .int .i64 0, .int .i64 0, .int .i64 0, .int .i64 0, .bool false], .bool false]) (by simp [results, Try.results42, go_sem, x0, x1, x2, x3, x4, x5, x6]) rfl ⟨rfl, ?_⟩
      exact bset7 HBR.out (by omega) _ _ _ _ _ _ _
end Go.Proofs.Ytjfngogfiafipaa
namespace Go.Proofs.Ytjfngogfiafipaa
open Go.RowKit
set_option linter.unusedVariables false
set_option linter.unusedSimpArgs false
def gtK (x : Hold) (s h : Int) : Bool := decide (s < x.s ∨ (x.s = s ∧ h < x.h))
/-- set's loop -/
def setL : List Hold → Bool → Int → Int → Int → List Hold
  | [], put, s, h, n => if put then [] else [⟨s, h, n⟩]
  | x :: L, put, s, h, n => if eqK x s h then setL L put s h n else if put then x :: setL L true s h n else if gtK x s h then ⟨s, h, n⟩ :: x :: setL L true s h n else x :: setL L false s h n
theorem setL_true {s h n : Int} : ∀ {L : List Hold}, (∀ y ∈ L, eqK y s h = false) → setL L true s h n = L
  | [], _ => rfl
  | x :: L, hq => by
    simp only [setL]
    rw [hq x (List.mem_cons_self ..), setL_true (fun y hy => hq y (List.mem_cons_of_mem _ hy))]
    rfl
theorem heldH_none {s h : Int} : ∀ {L : List Hold}, (∀ y ∈ L, eqK y s h = false) → heldH L s h = 0
  | [], _ => rfl
  | x :: L, hq => by
    simp only [heldH]
    rw [hq x (List.mem_cons_self ..), heldH_none (fun y hy => hq y (List.mem_cons_of_mem _ hy))]
    rfl
theorem above_no {x : Hold} {L : List Hold} {s h : Int} (hs : srtH (x :: L)) (hx : eqK x s h = true ∨ gtK x s h = true) : ∀ y ∈ L, eqK y s h = false ∧ gtK y s h = true := by
  intro y hy
  have h1 := srtH_head hs y hy
  simp only [eqK, gtK, decide_eq_true_eq, decide_eq_false_iff_not] at hx ⊢
  omega
theorem setL_eq : ∀ {L : List Hold} {s h by' N : Int}, srtH L → N = heldH L s h + by' → setL L (decide (N = 0)) s h N = addH L s h by'
  | [], s, h, b, N, _, hN => by
    simp only [heldH, Int.zero_add] at hN
    subst hN
    simp [setL, addH]
  | x :: L, s, h, b, N, hs, hN => by
    simp only [setL, addH]
    simp only [heldH] at hN
    cases hl : ltK x s h
    · cases he : eqK x s h
      · have hg : gtK x s h = true := by
          simp only [ltK, eqK, gtK, decide_eq_true_eq, decide_eq_false_iff_not] at hl he ⊢
          omega
        have hab := above_no hs (.inr hg)
        rw [he, heldH_none (fun y hy => (hab y hy).1)] at hN
        simp only [Bool.false_eq_true, if_false, Int.zero_add] at hN ⊢
        subst hN
        rw [hg, setL_true (fun y hy => (hab y hy).1)]
        by_cases hz : N = 0 <;> simp [hz]
      · have hab := above_no hs (.inl he)
        rw [he] at hN
        simp only [if_true] at hN
        subst hN
        simp only [if_true, Bool.false_eq_true, if_false]
        by_cases hz : x.a + b = 0
        · rw [decide_eq_true hz, if_pos hz, setL_true (fun y hy => (hab y hy).1)]
        · rw [decide_eq_false hz, if_neg hz]
          cases L with
          | nil => rfl
          | cons y L =>
            simp only [setL]
            rw [(hab y (List.mem_cons_self ..)).1, (hab y (List.mem_cons_self ..)).2, setL_true (fun z hz => (hab z (List.mem_cons_of_mem _ hz)).1)]
            simp
    · have he : eqK x s h = false := by
        simp only [ltK, eqK, decide_eq_true_eq, decide_eq_false_iff_not] at hl ⊢
        omega
      have hg : gtK x s h = false := by
        simp only [ltK, gtK, decide_eq_true_eq, decide_eq_false_iff_not] at hl ⊢
        omega
      rw [he] at hN
      simp only [Bool.false_eq_true, if_false] at hN
      have ih := setL_eq (srtH_tail hs) hN
      rw [he, hg, if_pos rfl, ← ih]
      by_cases hz : N = 0
      · simp [hz]
      · simp [hz]
theorem newsHold (w : World) (x : Hold) : ∀ j u, (encHold x)[j]? = some u → (w.alloc (.cells #[.int .i64 x.s, .int .i64 x.h, .int .i64 x.a] 54 (0, 0))).cell? ((⟨w.heap.size, 0, none⟩ : Addr).add j) = some u := by
  intro j u hj
  rw [add_litZ, Nat.zero_add]
  exact cell_whole (heap_alloc_new w _) hj
end Go.Proofs.Ytjfngogfiafipaa
