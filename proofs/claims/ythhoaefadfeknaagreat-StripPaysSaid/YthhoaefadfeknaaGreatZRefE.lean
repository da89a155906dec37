/- the reference's register: holder, held, outstanding, Find, Holdings. the reference's register: Find. the reference's register: set, in plain lists. the reference's register: set. the reference's register: move. -/
import Derived.Test.YthhoaefadfeknaaGreatZRegR
import Derived.Test.YthhoaefadfeknaaGreatZRegP
namespace Go.Proofs.YthhoaefadfeknaaGreat
open Go.RowKit
set_option linter.unusedVariables false
set_option linter.unusedSimpArgs false
theorem fholder_any (n : Int) (w : World) : Calls Tryz.prog 209 #[.int .i64 n] w fun e w' => e = .returned (.bool (inB n 1 1000)) ∧ w = w' := by
  obtain ⟨b, hb⟩ : ∃ b, inB n 1 1000 = b := ⟨_, rfl⟩
  rw [hb]
  by_cases h1 : 1 ≤ n
  · have g1 : decide (1 ≤ n) = true := by simpa using h1
    have hb2 : decide (n ≤ 1000) = b := by rw [← hb]; unfold inB; rw [decide_eq_decide]; omega
    have HB := Lib.hid hb2
    clear hb hb2
    by_cases h2 : n ≤ 1000
    · have : b = true := by rw [← HB.out]; simpa using h2
      subst this
      have g2 : decide (n ≤ 1000) = true := by simpa using h2
      go_enter Tryz.func209, Tryz.ntmps209
      go_wp2
      go_ret
      exact ⟨rfl, rfl⟩
    · have : b = false := by rw [← HB.out]; simpa using h2
      subst this
      have g2 : decide (n ≤ 1000) = false := by simpa using h2
      go_enter Tryz.func209, Tryz.ntmps209
      go_wp2
      go_ret
      exact ⟨rfl, rfl⟩
  · have g1 : decide (1 ≤ n) = false := by simpa using h1
    have : b = false := by rw [← hb]; unfold inB; simp; omega
    subst this
    clear hb
    go_enter Tryz.func209, Tryz.ntmps209
    go_wp2
    go_ret
    exact ⟨rfl, rfl⟩
set_option maxHeartbeats 1000000 in
theorem fheld_any (P : Nat → Prop) (v : Value) (L : List Hold) (s h : Int) (w : World) (hS : Sl 3 encHold P w v L) (hlen : L.length ≤ 1000000) :
    Calls Tryz.prog 122 #[v, .int .i64 s, .int .i64 h] w fun e w' => e = .returned (.int .i64 (heldH L s h)) ∧ Below w.heap.size w w' := by
  obtain ⟨ao, n, c, rfl, hn, hnc, hcm⟩ := hS.shape
  have hn1 : n ≤ 1000000 := by omega
  obtain ⟨r, hr⟩ : ∃ r, heldH L s h = r := ⟨_, rfl⟩
  rw [hr]
  have HS := Lib.hid hS
  have HN := Lib.hid hn
  have HR := Lib.hid hr
  clear hS hn hlen hr
  go_enter Tryz.func122, Tryz.ntmps122
  go_wp2
  go_loopw [11] (fun iv wr => ∃ k : Nat, k ≤ n ∧ iv = .int .i64 k ∧ r = heldH (L.drop k) s h ∧ Below w.heap.size w wr) (fun iv _ => n - (intOf iv).toNat)
  case atStart => exact ⟨0, by omega, rfl, by rw [List.drop_zero]; exact HR.out.symm, brefl⟩
  case round =>
    obtain ⟨k, hk, rfl, hrk, hbr⟩ := hrel
    have zr := hbr.size
    by_cases hlt : k < n
    · obtain ⟨b, off, vs, vh, va, rfl, -, hb', hL, k0, k1, k2⟩ := (HS.out.below hbr).hold hlt
      rw [drop_cons hL] at hrk
      simp only [heldH, eqK] at hrk
      have HRK := Lib.hid hrk
      have HBR := Lib.hid hbr
      clear hL hrk hbr
      by_cases e1 : vs = s
      · by_cases e2 : vh = h
        · have hf : r = va := by rw [HRK.out]; simp [e1, e2]
          subst hf
          subst e1 e2
          go_wp2
          go_ret
          exact ⟨rfl, bal HBR.out _⟩
        · have hrel2 := Lib.hid (show r = heldH (L.drop (k + 1)) s h by rw [HRK.out]; simp [e2])
          subst e1
          have q2 : (vh == h) = false := by simpa using e2
          go_wp2
          go_roundw
          case rel => exact ⟨k + 1, by omega, by go_num, hrel2.out, bal HBR.out _⟩
          case measure => simp [intOf]; omega
      · have hrel2 := Lib.hid (show r = heldH (L.drop (k + 1)) s h by rw [HRK.out]; simp [e1])
        have q1 : (vs == s) = false := by simpa using e1
        go_wp2
        go_roundw
        case rel => exact ⟨k + 1, by omega, by go_num, hrel2.out, bal HBR.out _⟩
        case measure => simp [intOf]; omega
    · have hf : r = 0 := by rw [hrk, drop_all (by have := HN.out; omega)]; rfl
      subst hf
      clear hrk
      go_wp2
      go_ret
      exact ⟨rfl, hbr⟩
set_option maxHeartbeats 1000000 in
theorem fout_any (P : Nat → Prop) (v : Value) (L : List Hold) (s : Int) (w : World) (hS : Sl 3 encHold P w v L) (hok : HsOk L) (hlen : L.length ≤ 1000000) :
    Calls Tryz.prog 110 #[v, .int .i64 s] w fun e w' => e = .returned (.int .i64 (outH L s)) ∧ Below w.heap.size w w' := by
  obtain ⟨ao, n, c, rfl, hn, hnc, hcm⟩ := hS.shape
  have hn1 : n ≤ 1000000 := by omega
  have HS := Lib.hid hS
  have HN := Lib.hid hn
  have HK := Lib.hid hok
  clear hS hn hlen hok
  go_enter Tryz.func110, Tryz.ntmps110
  go_wp2
  go_loopw [5, 10] (fun sv iv wr => ∃ k : Nat, k ≤ n ∧ iv = .int .i64 k ∧ sv = .int .i64 (outH (L.take k) s) ∧ Below w.heap.size w wr) (fun _ iv _ => n - (intOf iv).toNat)
  case atStart => exact ⟨0, by omega, rfl, rfl, brefl⟩
  case round =>
    obtain ⟨k, hk, rfl, rfl, hbr⟩ := hrel
    have zr := hbr.size
    obtain ⟨sb0, sb1⟩ := outH_take_le HK.out.pos s k
    have sb2 := HK.out.out s
    by_cases hlt : k < n
    · obtain ⟨b, off, vs, vh, va, rfl, -, hb', hL, k0, k1, k2⟩ := (HS.out.below hbr).hold hlt
      obtain ⟨tb0, tb1⟩ := outH_take_le HK.out.pos s (k + 1)
      rw [take_snocZ hL, outH_append] at tb0 tb1
      have HT := Lib.hid (take_snocZ hL)
      obtain ⟨S, hSs⟩ : ∃ S, outH (L.take k) s = S := ⟨_, rfl⟩
      rw [hSs] at sb0 sb1 tb0 tb1
      have HSS := Lib.hid hSs
      rw [hSs]
      simp only [outH, Int.add_zero] at tb0 tb1
      have hpos := Lib.hid (HK.out.pos _ (List.mem_of_getElem? hL))
      clear hL hSs
      by_cases hq : vs = s
      · rw [if_pos hq] at tb0 tb1
        have HR := Lib.hid (show outH (L.take (k + 1)) s = S + va by rw [HT.out, outH_append, HSS.out]; simp [outH, hq])
        subst hq
        go_wp2
        go_roundw
        case rel => exact ⟨k + 1, by omega, by go_num, by rw [HR.out], bal hbr _⟩
        case measure => simp [intOf]; omega
      · have HR := Lib.hid (show outH (L.take (k + 1)) s = S by rw [HT.out, outH_append, HSS.out]; simp [outH, hq])
        have hq' : (vs == s) = false := by simpa using hq
        go_wp2
        go_roundw
        case rel => exact ⟨k + 1, by omega, by go_num, by rw [HR.out], bal hbr _⟩
        case measure => simp [intOf]; omega
    · have hfin := Lib.hid (show outH (L.take k) s = outH L s by rw [take_all (by have := HN.out; omega)])
      rw [hfin.out]
      go_wp2
      go_ret
      exact ⟨rfl, hbr⟩
set_option maxHeartbeats 2000000 in
theorem fhold_any (P P' : Nat → Prop) (v v' : Value) (L M : List Hold) (w : World) (h : Sl 3 encHold P w v L) (h' : Sl 3 encHold P' w v' M) (hl : L.length ≤ 1000000) :
    Calls Tryz.prog 49 #[v, v'] w fun e w' => e = .returned (.bool (eqHs L M)) ∧ ∃ nq, w' = w.drewN nq := by
  obtain ⟨ao, n, c, rfl, hn, hnc, hcm⟩ := h.shape
  obtain ⟨ao', n', c', rfl, hn', hnc', hcm'⟩ := h'.shape
  have hn1 : n ≤ 1000000 := by omega
  obtain ⟨r, hr⟩ : ∃ r, eqHs L M = r := ⟨_, rfl⟩
  rw [hr]
  have H := Lib.hid h
  have H' := Lib.hid h'
  have HN := Lib.hid hn
  have HN' := Lib.hid hn'
  have HR := Lib.hid hr
  clear h h' hn hn' hr hl
  by_cases he : n = n'
  rotate_left
  · have hf : r = false := by
      cases r
      · rfl
      · have := congrArg List.length (eqHs_iff.1 HR.out)
        rw [HN.out, HN'.out] at this
        exact absurd this he
    subst hf
    have he1 : ((n : Int) != (n' : Int)) = true := by simp; omega
    have he2 : ((n : Int) == (n' : Int)) = false := by simp; omega
    have he3 : ¬ (n : Int) = (n' : Int) := by omega
    go_enter Tryz.func49, Tryz.ntmps49
    go_wp2
    go_ret
    exact ⟨rfl, 0, rfl⟩
  subst he
  go_enter Tryz.func49, Tryz.ntmps49
  go_wp2
  go_loopw [13] (fun iv wr => ∃ k : Nat, k ≤ n ∧ iv = .int .i64 k ∧ r = eqHs (L.drop k) (M.drop k) ∧ ∃ nq, wr = w.drewN nq) (fun iv _ => n - (intOf iv).toNat)
  case atStart => exact ⟨0, by omega, rfl, by rw [List.drop_zero, List.drop_zero]; exact HR.out.symm, 0, rfl⟩
  case round =>
    obtain ⟨k, hk, rfl, hrk, nq, rfl⟩ := hrel
    by_cases hlt : k < n
    · obtain ⟨b, off, xs, xh, xa, rfl, -, -, hL, k0, k1, k2⟩ := H.out.hold hlt
      obtain ⟨b', off', ys, yh, ya, rfl, -, -, hM, j0, j1, j2⟩ := H'.out.hold hlt
      rw [drop_cons hL, drop_cons hM] at hrk
      simp only [eqHs] at hrk
      have HRK := Lib.hid hrk
      have hkn : (k : Int) < n := by omega
      clear hrk hL hM
      by_cases e1 : xs = ys
      · by_cases e2 : xh = yh
        · by_cases e3 : xa = ya
          · subst e1 e2 e3
            have hrel2 := Lib.hid (show r = eqHs (L.drop (k + 1)) (M.drop (k + 1)) by rw [HRK.out]; simp)
            go_wp2
            go_quiet (fail)
            go_wp2
            go_roundw
            case rel => exact ⟨k + 1, by omega, by go_num, hrel2.out, _, rfl⟩
            case measure => simp [intOf]; omega
          · have hf : r = false := by rw [HRK.out]; simp [e3]
            subst hf
            subst e1 e2
            have q1 : (xa == ya) = false := by simpa using e3
            go_wp2
            go_quiet (fail)
            go_wp2
            go_ret
            exact ⟨rfl, _, World.drewN_drewN ..⟩
        · have hf : r = false := by rw [HRK.out]; simp [e2]
          subst hf
          subst e1
          have q1 : (xh == yh) = false := by simpa using e2
          go_wp2
          go_quiet (fail)
          go_wp2
          go_ret
          exact ⟨rfl, _, World.drewN_drewN ..⟩
      · have hf : r = false := by rw [HRK.out]; simp [e1]
        subst hf
        have q1 : (xs == ys) = false := by simpa using e1
        go_wp2
        go_quiet (fail)
        go_wp2
        go_ret
        exact ⟨rfl, _, World.drewN_drewN ..⟩
    · have hf : r = true := by rw [hrk, drop_all (by have := HN.out; omega), drop_all (by have := HN'.out; omega)]; rfl
      subst hf
      clear hrk
      go_wp2
      go_ret
      exact ⟨rfl, _, rfl⟩
end Go.Proofs.YthhoaefadfeknaaGreat
namespace Go.Proofs.YthhoaefadfeknaaGreat
open Go.RowKit
set_option linter.unusedVariables false
set_option linter.unusedSimpArgs false
set_option maxHeartbeats 4000000 in
theorem ffind_yes (P : Nat → Prop) (vs vh vm : Value) (R : Reg) (x : Int) (id un is ma ra ev : Int) (ix : Bool) (w : World) (hr : RgIn P w vs vh vm R) (hlen : R.secs.length ≤ 1000000) (hf : findS R.secs x = some ⟨id, un, is, ma, ra, ev, ix⟩) :
    Calls Tryz.prog 47 #[.agg #[vs, vh, vm], .int .i64 x] w fun e w' => e = .returned (.tuple #[.agg #[.int .i64 id, .int .i64 un, .int .i64 is, .int .i64 ma, .int .i64 ra, .int .i64 ev, .bool ix], .bool true]) ∧ Below w.heap.size w w' := by
  obtain ⟨a0, n0, c0, rfl, hn0, -, -⟩ := hr.S.shape
  obtain ⟨a1, n1, c1, rfl, -, -, -⟩ := hr.H.shape
  obtain ⟨a2, n2, c2, rfl, -, -, -⟩ := hr.M.shape
  have hn1 : n0 ≤ 1000000 := by omega
  have HS := Lib.hid hr.S
  have HN := Lib.hid hn0
  have HF := Lib.hid hf
  clear hr hn0 hlen hf
  go_enter Tryz.func47, Tryz.ntmps47
  go_wp2
  go_loopw [11] (fun iv wr => ∃ k : Nat, k ≤ n0 ∧ iv = .int .i64 k ∧ findS (R.secs.drop k) x = some ⟨id, un, is, ma, ra, ev, ix⟩ ∧ Below w.heap.size w wr ∧ wr.heap[w.heap.size + 1]? = some (.cells #[.int .i64 0, .int .i64 0, .int .i64 0, .int .i64 0, .int .i64 0, .int .i64 0, .bool false] 26 (0, 0))) (fun iv _ => n0 - (intOf iv).toNat)
  case atStart => exact ⟨0, by omega, rfl, by rw [List.drop_zero]; exact HF.out, bal (bal brefl _) _, heap_at (by simp)⟩
  case round =>
    obtain ⟨k, hk, rfl, hrk, hbr, hx⟩ := hrel
    have zr := hbr.size
    have zx : w.heap.size + 1 < wr.heap.size := (Array.getElem?_eq_some_iff.1 hx).1
    have hlt : k < n0 := by
      rcases Nat.lt_or_ge k n0 with h | h
      · exact h
      · rw [drop_all (by have := HN.out; omega)] at hrk; cases hrk
    obtain ⟨b, off, vid, vun, vis, vma, vra, vev, vix, rfl, -, hb', hL, k0, k1, k2, k3, k4, k5, k6⟩ := (HS.out.below hbr).sec hlt
    rw [drop_cons hL] at hrk
    simp only [findS] at hrk
    have HRK := Lib.hid hrk
    have HBR := Lib.hid hbr
    have HX := Lib.hid hx
    have xf : ∀ i, wr.frozen? ⟨w.heap.size + 1, i, none⟩ = false := fun i => frozen_of_row wr _ _ _ _ hx
    have x0 := cell_heap (i := 0) hx rfl
    have x1 := cell_heap (i := 1) hx rfl
    have x2 := cell_heap (i := 2) hx rfl
    have x3 := cell_heap (i := 3) hx rfl
    have x4 := cell_heap (i := 4) hx rfl
    have x5 := cell_heap (i := 5) hx rfl
    have x6 := cell_heap (i := 6) hx rfl
    clear hL hrk hbr hx
    by_cases e1 : vid = x
    · have hq := HRK.out
      rw [if_pos e1] at hq
      simp only [Option.some.injEq, Sec.mk.injEq] at hq
      obtain ⟨rfl, rfl, rfl, rfl, rfl, rfl, rfl⟩ := hq
      clear HRK HF
      subst e1
      go_wp2
      refine bodyPost_ret (v := .tuple #[.agg #[.int .i64 vid, .int .i64 vun, .int .i64 vis, .int .i64 vma, .int .i64 vra, .int .i64 vev, .bool vix], .bool true]) (by simp [results, Tryz.results47, go_sem, x0, x1, x2, x3, x4, x5, x6, zx]) rfl ⟨rfl, ?_⟩
      exact bal (bset7 HBR.out (by omega) _ _ _ _ _ _ _) _
    · have hrel2 := Lib.hid (show findS (R.secs.drop (k + 1)) x = some ⟨id, un, is, ma, ra, ev, ix⟩ by have := HRK.out; rw [if_neg e1] at this; exact this)
      have q1 : (vid == x) = false := by simpa using e1
      go_wp2
      go_roundw
      case rel => exact ⟨k + 1, by omega, by go_num, hrel2.out, bal HBR.out _, (heap_alloc_old _ _ (by omega)).trans HX.out⟩
      case measure => simp [intOf]; omega
set_option maxHeartbeats 4000000 in
theorem ffind_no (P : Nat → Prop) (vs vh vm : Value) (R : Reg) (x : Int) (w : World) (hr : RgIn P w vs vh vm R) (hlen : R.secs.length ≤ 1000000) (hf : findS R.secs x = none) :
    Calls Tryz.prog 47 #[.agg #[vs, vh, vm], .int .i64 x] w fun e w' => e = .returned (.tuple #[.agg #[.int .i64 0, .int .i64 0, .int .i64 0, .int .i64 0, .int .i64 0, .int .i64 0, .bool false], .bool false]) ∧ Below w.heap.size w w' := by
  obtain ⟨a0, n0, c0, rfl, hn0, -, -⟩ := hr.S.shape
  obtain ⟨a1, n1, c1, rfl, -, -, -⟩ := hr.H.shape
  obtain ⟨a2, n2, c2, rfl, -, -, -⟩ := hr.M.shape
  have hn1 : n0 ≤ 1000000 := by omega
  have HS := Lib.hid hr.S
  have HN := Lib.hid hn0
  have HF := Lib.hid hf
  clear hr hn0 hlen hf
  go_enter Tryz.func47, Tryz.ntmps47
  go_wp2
  go_loopw [11] (fun iv wr => ∃ k : Nat, k ≤ n0 ∧ iv = .int .i64 k ∧ findS (R.secs.drop k) x = none ∧ Below w.heap.size w wr ∧ wr.heap[w.heap.size + 1]? = some (.cells #[.int .i64 0, .int .i64 0, .int .i64 0, .int .i64 0, .int .i64 0, .int .i64 0, .bool false] 26 (0, 0))) (fun iv _ => n0 - (intOf iv).toNat)
  case atStart => exact ⟨0, by omega, rfl, by rw [List.drop_zero]; exact HF.out, bal (bal brefl _) _, heap_at (by simp)⟩
  case round =>
    obtain ⟨k, hk, rfl, hrk, hbr, hx⟩ := hrel
    have zr := hbr.size
    have zx : w.heap.size + 1 < wr.heap.size := (Array.getElem?_eq_some_iff.1 hx).1
    have HBR := Lib.hid hbr
    have HX := Lib.hid hx
    by_cases hlt : k < n0
    · obtain ⟨b, off, vid, vun, vis, vma, vra, vev, vix, rfl, -, hb', hL, k0, k1, k2, k3, k4, k5, k6⟩ := (HS.out.below hbr).sec hlt
      rw [drop_cons hL] at hrk
      simp only [findS] at hrk
      have e1 : vid ≠ x := by intro e; rw [if_pos e] at hrk; cases hrk
      rw [if_neg e1] at hrk
      have hrel2 := Lib.hid hrk
      have q1 : (vid == x) = false := by simpa using e1
      clear hL hrk hbr hx
      go_wp2
      go_roundw
      case rel => exact ⟨k + 1, by omega, by go_num, hrel2.out, bal HBR.out _, (heap_alloc_old _ _ (by omega)).trans HX.out⟩
      case measure => simp [intOf]; omega
    · have xf : ∀ i, wr.frozen? ⟨w.heap.size + 1, i, none⟩ = false := fun i => frozen_of_row wr _ _ _ _ hx
      have x0 := cell_heap (i := 0) hx rfl
      have x1 := cell_heap (i := 1) hx rfl
      have x2 := cell_heap (i := 2) hx rfl
      have x3 := cell_heap (i := 3) hx rfl
      have x4 := cell_heap (i := 4) hx rfl
      have x5 := cell_heap (i := 5) hx rfl
      have x6 := cell_heap (i := 6) hx rfl
      clear hrk hbr hx
      go_wp2
      refine bodyPost_ret (v := .tuple #[.agg #[.int .i64 0, .int .i64 0, .int .i64 0, .int .i64 0, .int .i64 0, .int .i64 0, .bool false], .bool false]) (by simp [results, Tryz.results47, go_sem, x0, x1, x2, x3, x4, x5, x6]) rfl ⟨rfl, ?_⟩
      exact bset7 HBR.out (by omega) _ _ _ _ _ _ _
end Go.Proofs.YthhoaefadfeknaaGreat
namespace Go.Proofs.YthhoaefadfeknaaGreat
open Go.RowKit
set_option linter.unusedVariables false
set_option linter.unusedSimpArgs false
def gtK (x : Hold) (s h : Int) : Bool := decide (s < x.s ∨ (x.s = s ∧ h < x.h))
/-- set's loop -/
def setL : List Hold → Bool → Int → Int → Int → List Hold
  | [], put, s, h, n => if put then [] else [⟨s, h, n⟩]
  | x :: L, put, s, h, n => if eqK x s h then setL L put s h n else if put then x :: setL L true s h n else if gtK x s h then ⟨s, h, n⟩ :: x :: setL L true s h n else x :: setL L false s h n
theorem setL_true {s h n : Int} : ∀ {L : List Hold}, (∀ y ∈ L, eqK y s h = false) → setL L true s h n = L
  | [], _ => rfl
  | x :: L, hq => by
    simp only [setL]
    rw [hq x (List.mem_cons_self ..), setL_true (fun y hy => hq y (List.mem_cons_of_mem _ hy))]
    rfl
theorem heldH_none {s h : Int} : ∀ {L : List Hold}, (∀ y ∈ L, eqK y s h = false) → heldH L s h = 0
  | [], _ => rfl
  | x :: L, hq => by
    simp only [heldH]
    rw [hq x (List.mem_cons_self ..), heldH_none (fun y hy => hq y (List.mem_cons_of_mem _ hy))]
    rfl
theorem above_no {x : Hold} {L : List Hold} {s h : Int} (hs : srtH (x :: L)) (hx : eqK x s h = true ∨ gtK x s h = true) : ∀ y ∈ L, eqK y s h = false ∧ gtK y s h = true := by
  intro y hy
  have h1 := srtH_head hs y hy
  simp only [eqK, gtK, decide_eq_true_eq, decide_eq_false_iff_not] at hx ⊢
  omega
theorem setL_eq : ∀ {L : List Hold} {s h by' N : Int}, srtH L → N = heldH L s h + by' → setL L (decide (N = 0)) s h N = addH L s h by'
  | [], s, h, b, N, _, hN => by
    simp only [heldH, Int.zero_add] at hN
    subst hN
    simp [setL, addH]
  | x :: L, s, h, b, N, hs, hN => by
    simp only [setL, addH]
    simp only [heldH] at hN
    cases hl : ltK x s h
    · cases he : eqK x s h
      · have hg : gtK x s h = true := by
          simp only [ltK, eqK, gtK, decide_eq_true_eq, decide_eq_false_iff_not] at hl he ⊢
          omega
        have hab := above_no hs (.inr hg)
        rw [he, heldH_none (fun y hy => (hab y hy).1)] at hN
        simp only [Bool.false_eq_true, if_false, Int.zero_add] at hN ⊢
        subst hN
        rw [hg, setL_true (fun y hy => (hab y hy).1)]
        by_cases hz : N = 0 <;> simp [hz]
      · have hab := above_no hs (.inl he)
        rw [he] at hN
        simp only [if_true] at hN
        subst hN
        simp only [if_true, Bool.false_eq_true, if_false]
        by_cases hz : x.a + b = 0
        · rw [decide_eq_true hz, if_pos hz, setL_true (fun y hy => (hab y hy).1)]
        · rw [decide_eq_false hz, if_neg hz]
          cases L with
          | nil => rfl
          | cons y L =>
            simp only [setL]
            rw [(hab y (List.mem_cons_self ..)).1, (hab y (List.mem_cons_self ..)).2, setL_true (fun z hz => (hab z (List.mem_cons_of_mem _ hz)).1)]
            simp
    · have he : eqK x s h = false := by
        simp only [ltK, eqK, decide_eq_true_eq, decide_eq_false_iff_not] at hl ⊢
        omega
      have hg : gtK x s h = false := by
        simp only [ltK, gtK, decide_eq_true_eq, decide_eq_false_iff_not] at hl ⊢
        omega
      rw [he] at hN
      simp only [Bool.false_eq_true, if_false] at hN
      have ih := setL_eq (srtH_tail hs) hN
      rw [he, hg, if_pos rfl, ← ih]
      by_cases hz : N = 0
      · simp [hz]
      · simp [hz]
theorem newsHold (w : World) (x : Hold) : ∀ j u, (encHold x)[j]? = some u → (w.alloc (.cells #[.int .i64 x.s, .int .i64 x.h, .int .i64 x.a] 127 (0, 0))).cell? ((⟨w.heap.size, 0, none⟩ : Addr).add j) = some u := by
  intro j u hj
  rw [add_litZ, Nat.zero_add]
  exact cell_whole (heap_alloc_new w _) hj
end Go.Proofs.YthhoaefadfeknaaGreat
namespace Go.Proofs.YthhoaefadfeknaaGreat
open Go.RowKit
set_option linter.unusedVariables false
set_option linter.unusedSimpArgs false
theorem flat_snoc {α : Type} (enc : α → List Value) (L : List α) (a : α) : flatE enc (L ++ [a]) = flatE enc L ++ enc a := by simp [flatE]
theorem newsH (w : World) (g : Nat) (hg : g = w.heap.size) (s h a : Int) : ∀ j u, (encHold ⟨s, h, a⟩)[j]? = some u → (w.alloc (.cells #[.int .i64 s, .int .i64 h, .int .i64 a] 127 (0, 0))).cell? ((⟨g, 0, none⟩ : Addr).add j) = some u := by
  subst hg; exact newsHold w ⟨s, h, a⟩
set_option maxHeartbeats 4000000 in
set_option maxRecDepth 20000 in
theorem fset_any (P : Nat → Prop) (v : Value) (L : List Hold) (s h n : Int) (w : World) (hS : Sl 3 encHold P w v L) (hsrt : srtH L) (hlen : L.length ≤ 1000000) (hb0 : -4611686018427387904 ≤ heldH L s h + n) (hb1 : heldH L s h + n ≤ 4611686018427387904) :
    Calls Tryz.prog 210 #[v, .int .i64 s, .int .i64 h, .int .i64 n] w fun e w' => ∃ v', e = .returned v' ∧ w'.ownsRow w.heap.size 127 3 v' (addH L s h n).length (flatE encHold (addH L s h n)) ∧ Below w.heap.size w w' := by
  obtain ⟨i1, hi, hz0, hz1, hz2⟩ := info_parts infoHold
  have HH := Lib.hid (fun W (hW : Below w.heap.size w W) => fheld_any P v L s h W (hS.below hW) hlen)
  obtain ⟨ao, c0, c, rfl, hn, hnc, hcm⟩ := hS.shape
  have hn1 : c0 ≤ 1000000 := by omega
  obtain ⟨N, hN⟩ : ∃ N, heldH L s h + n = N := ⟨_, rfl⟩
  have hst := setL_eq hsrt hN.symm
  obtain ⟨F, hF⟩ : ∃ F, addH L s h n = F := ⟨_, rfl⟩
  rw [hF] at hst ⊢
  rw [hN] at hb0 hb1
  obtain ⟨A0, hA⟩ : ∃ A0, heldH L s h = A0 := ⟨_, rfl⟩
  rw [hA] at HH hN
  have HS := Lib.hid hS
  have HN := Lib.hid hn
  have HT := Lib.hid hst
  subst hN
  clear hS hn hst hsrt hF hA hlen
  go_enter Tryz.func210, Tryz.ntmps210
  go_wp2_with fail
  refine (HH.out _ brefl).mono ?_
  rintro e w1 ⟨rfl, hb⟩
  have HB := Lib.hid hb
  have zb := hb.size
  clear hb
  obtain ⟨N, hNN⟩ : ∃ N, A0 + n = N := ⟨_, rfl⟩
  rw [hNN] at hb0 hb1
  have HT2 := Lib.hid (show setL L (decide (N = 0)) s h N = F by rw [← hNN]; exact HT.out)
  clear HT
  obtain ⟨p0, hp0⟩ : ∃ p, decide (N = 0) = p := ⟨_, rfl⟩
  rw [hp0] at HT2
  have hp1 : (N == 0) = p0 := by rw [← hp0, Bool.eq_iff_iff, beq_iff_eq, decide_eq_true_eq]
  have hp2 : (A0 + n == 0) = p0 := by rw [hNN]; exact hp1
  clear hp0
  go_wp2
  go_loopw [10, 11, 24] (fun ov pv iv wr => ∃ (k m : Nat) (b : Bool) (out : List Hold), k ≤ c0 ∧ iv = .int .i64 k ∧ pv = .bool b ∧ m = out.length ∧ m ≤ 2 * k ∧ wr.ownsRow w1.heap.size 127 3 ov m (flatE encHold out) ∧ out ++ setL (L.drop k) b s h N = F ∧ Below w1.heap.size w1 wr) (fun _ _ iv _ => c0 - (intOf iv).toNat)
  case atStart => exact ⟨0, 0, p0, [], by omega, rfl, rfl, rfl, by omega, World.ownsRow_nil _ _ _ _, HT2.out, brefl⟩
  case round =>
    obtain ⟨k, m, b, out, hk, rfl, rfl, hm, hmk, hown, hF, hbr⟩ := hrel
    have zr := hbr.size
    have HBR := Lib.hid hbr
    have HF := Lib.hid hF
    clear hbr hF hNN hp1 hp2
    by_cases hlt : k < c0
    · obtain ⟨b', off, vs, vh, va, rfl, -, hb', hL, k0, k1, k2⟩ := ((HS.out.below HB.out).below HBR.out).hold hlt
      have hF2 := HF.out
      rw [drop_cons hL] at hF2
      simp only [setL] at hF2
      have HF2 := Lib.hid hF2
      clear hL hF2
      have HO := Lib.hid hown
      clear hown
      cases he : eqK ⟨vs, vh, va⟩ s h
      · have HNE := Lib.hid he
        have hne := he
        simp only [eqK, decide_eq_false_iff_not] at hne
        cases b
        · cases hg : gtK ⟨vs, vh, va⟩ s h
          · -- behind: append the element
            have hF3 := HF2.out
            rw [he, hg] at hF3
            simp only [Bool.false_eq_true, if_false] at hF3
            have HF3 := Lib.hid hF3
            clear hF3
            simp only [gtK, decide_eq_false_iff_not] at hg
            clear he
            rcases (show (vs < s) ∨ (vs = s ∧ vh < h) by omega) with h1 | ⟨rfl, h1⟩
            · have q1 : (vs == s) = false := by simp; omega
              have q2 : decide (s < vs) = false := by simp; omega
              go_wp2_with (at_builtin; go_must (refine wpList_append_own _ rfl _ _ 28 rfl w1.heap.size 127 i1 (.agg #[.int .i64 0, .int .i64 0, .int .i64 0]) 3 24 Tryz.underlying28 hi hz0 hz1 hz2 rfl (by decide) _ _ _ rfl ((HO.out.alloc _).alloc _) ⟨_, 0, none⟩ 1 1 (encHold ⟨vs, vh, va⟩) rfl rfl (newsH _ _ (by simp) vs  vh  va) (oneHold ⟨vs, vh, va⟩) (by unfold maxLen; omega) (by omega) (by simp; omega) ?_); intro v2 w2 o2 hgrw2 _; have b2 : Below w1.heap.size w1 w2 := (bal (bal HBR.out _) _).grown hgrw2 (by simp; omega) (fun q hq => (HO.out.lt q hq).1); clear hgrw2; have zw2 := b2.size)
              go_roundw
              case rel => exact ⟨k + 1, m + 1, false, out ++ [⟨vs, vh, va⟩], by omega, by go_num, rfl, by simp [hm], by omega, by rw [flat_snoc]; exact o2, by rw [List.append_assoc]; exact HF3.out, b2⟩
              case measure => simp [intOf]; omega
            · have q1 : (vh == h) = false := by simp; omega
              have q2 : decide (h < vh) = false := by simp; omega
              go_wp2_with (at_builtin; go_must (refine wpList_append_own _ rfl _ _ 28 rfl w1.heap.size 127 i1 (.agg #[.int .i64 0, .int .i64 0, .int .i64 0]) 3 24 Tryz.underlying28 hi hz0 hz1 hz2 rfl (by decide) _ _ _ rfl ((HO.out.alloc _).alloc _) ⟨_, 0, none⟩ 1 1 (encHold ⟨vs, vh, va⟩) rfl rfl (newsH _ _ (by simp) vs  vh  va) (oneHold ⟨vs, vh, va⟩) (by unfold maxLen; omega) (by omega) (by simp; omega) ?_); intro v2 w2 o2 hgrw2 _; have b2 : Below w1.heap.size w1 w2 := (bal (bal HBR.out _) _).grown hgrw2 (by simp; omega) (fun q hq => (HO.out.lt q hq).1); clear hgrw2; have zw2 := b2.size)
              go_roundw
              case rel => exact ⟨k + 1, m + 1, false, out ++ [⟨vs, vh, va⟩], by omega, by go_num, rfl, by simp [hm], by omega, by rw [flat_snoc]; exact o2, by rw [List.append_assoc]; exact HF3.out, b2⟩
              case measure => simp [intOf]; omega
          · -- the new one, then the element
            have hF3 := HF2.out
            rw [he, hg] at hF3
            simp only [Bool.false_eq_true, if_false, if_true] at hF3
            have HF3 := Lib.hid hF3
            clear hF3
            simp only [gtK, decide_eq_true_eq] at hg
            clear he
            by_cases h1 : s < vs
            · have q1 : (vs == s) = false := by simp; omega
              have q2 : decide (s < vs) = true := by simp; omega
              go_wp2_with (first | (at_builtin; (refine wpList_append_own _ rfl _ _ 28 rfl w1.heap.size 127 i1 (.agg #[.int .i64 0, .int .i64 0, .int .i64 0]) 3 24 Tryz.underlying28 hi hz0 hz1 hz2 rfl (by decide) _ _ _ rfl ((HO.out.alloc _).alloc _) ⟨_, 0, none⟩ 1 1 (encHold ⟨_, h, N⟩) rfl rfl (newsH _ _ (by simp) _  h  N) (oneHold ⟨_, h, N⟩) (by unfold maxLen; omega) (by omega) (by simp; omega) ?_); intro v2 w2 o2 hgrw2 _; have b2 : Below w1.heap.size w1 w2 := (bal (bal HBR.out _) _).grown hgrw2 (by simp; omega) (fun q hq => (HO.out.lt q hq).1); have bx := (hgrw2.block wr.heap.size (by simp; omega) (fun hk => by have := (HO.out.lt _ hk.symm).2; omega)).trans ((heap_alloc_old _ _ (by simp)).trans (heap_alloc_new wr _)); have g0 := cell_heap (i := 0) bx rfl; have g1 := cell_heap (i := 1) bx rfl; have g2 := cell_heap (i := 2) bx rfl; clear hgrw2 bx; have zw2 := b2.size) | (at_builtin; go_must (refine wpList_append_own _ rfl _ _ 28 rfl w1.heap.size 127 i1 (.agg #[.int .i64 0, .int .i64 0, .int .i64 0]) 3 24 Tryz.underlying28 hi hz0 hz1 hz2 rfl (by decide) _ _ _ rfl (o2.alloc _) ⟨_, 0, none⟩ 1 1 (encHold ⟨vs, vh, va⟩) rfl rfl (newsH _ _ (by simp) vs  vh  va) (oneHold ⟨vs, vh, va⟩) (by unfold maxLen; omega) (by omega) (by simp; omega) ?_); intro v3 w3 o3 hgrw3 _; have b3 : Below w1.heap.size w1 w3 := (bal b2 _).grown hgrw3 (by simp; omega) (fun q hq => (o2.lt q hq).1); clear hgrw3; have zw3 := b3.size))
              go_roundw
              case rel => exact ⟨k + 1, m + 1 + 1, true, (out ++ [⟨s, h, N⟩]) ++ [⟨vs, vh, va⟩], by omega, by go_num, rfl, by simp [hm], by omega, by rw [flat_snoc, flat_snoc]; exact o3, by rw [List.append_assoc, List.append_assoc]; exact HF3.out, b3⟩
              case measure => simp [intOf]; omega
            · obtain ⟨rfl, h1⟩ : vs = s ∧ h < vh := by omega
              have q1 : (vh == h) = false := by simp; omega
              have q2 : decide (h < vh) = true := by simp; omega
              go_wp2_with (first | (at_builtin; (refine wpList_append_own _ rfl _ _ 28 rfl w1.heap.size 127 i1 (.agg #[.int .i64 0, .int .i64 0, .int .i64 0]) 3 24 Tryz.underlying28 hi hz0 hz1 hz2 rfl (by decide) _ _ _ rfl ((HO.out.alloc _).alloc _) ⟨_, 0, none⟩ 1 1 (encHold ⟨_, h, N⟩) rfl rfl (newsH _ _ (by simp) _  h  N) (oneHold ⟨_, h, N⟩) (by unfold maxLen; omega) (by omega) (by simp; omega) ?_); intro v2 w2 o2 hgrw2 _; have b2 : Below w1.heap.size w1 w2 := (bal (bal HBR.out _) _).grown hgrw2 (by simp; omega) (fun q hq => (HO.out.lt q hq).1); have bx := (hgrw2.block wr.heap.size (by simp; omega) (fun hk => by have := (HO.out.lt _ hk.symm).2; omega)).trans ((heap_alloc_old _ _ (by simp)).trans (heap_alloc_new wr _)); have g0 := cell_heap (i := 0) bx rfl; have g1 := cell_heap (i := 1) bx rfl; have g2 := cell_heap (i := 2) bx rfl; clear hgrw2 bx; have zw2 := b2.size) | (at_builtin; go_must (refine wpList_append_own _ rfl _ _ 28 rfl w1.heap.size 127 i1 (.agg #[.int .i64 0, .int .i64 0, .int .i64 0]) 3 24 Tryz.underlying28 hi hz0 hz1 hz2 rfl (by decide) _ _ _ rfl (o2.alloc _) ⟨_, 0, none⟩ 1 1 (encHold ⟨vs, vh, va⟩) rfl rfl (newsH _ _ (by simp) vs  vh  va) (oneHold ⟨vs, vh, va⟩) (by unfold maxLen; omega) (by omega) (by simp; omega) ?_); intro v3 w3 o3 hgrw3 _; have b3 : Below w1.heap.size w1 w3 := (bal b2 _).grown hgrw3 (by simp; omega) (fun q hq => (o2.lt q hq).1); clear hgrw3; have zw3 := b3.size))
              go_roundw
              case rel => exact ⟨k + 1, m + 1 + 1, true, (out ++ [⟨vs, h, N⟩]) ++ [⟨vs, vh, va⟩], by omega, by go_num, rfl, by simp [hm], by omega, by rw [flat_snoc, flat_snoc]; exact o3, by rw [List.append_assoc, List.append_assoc]; exact HF3.out, b3⟩
              case measure => simp [intOf]; omega
        · -- put before
          have hF3 := HF2.out
          rw [he] at hF3
          simp only [Bool.false_eq_true, if_false, if_true] at hF3
          have HF3 := Lib.hid hF3
          clear hF3 he
          by_cases h1 : vs = s
          · subst h1
            have q1 : (vh == h) = false := by simp; omega
            go_wp2_with (at_builtin; go_must (refine wpList_append_own _ rfl _ _ 28 rfl w1.heap.size 127 i1 (.agg #[.int .i64 0, .int .i64 0, .int .i64 0]) 3 24 Tryz.underlying28 hi hz0 hz1 hz2 rfl (by decide) _ _ _ rfl ((HO.out.alloc _).alloc _) ⟨_, 0, none⟩ 1 1 (encHold ⟨vs, vh, va⟩) rfl rfl (newsH _ _ (by simp) vs  vh  va) (oneHold ⟨vs, vh, va⟩) (by unfold maxLen; omega) (by omega) (by simp; omega) ?_); intro v2 w2 o2 hgrw2 _; have b2 : Below w1.heap.size w1 w2 := (bal (bal HBR.out _) _).grown hgrw2 (by simp; omega) (fun q hq => (HO.out.lt q hq).1); clear hgrw2; have zw2 := b2.size)
            go_roundw
            case rel => exact ⟨k + 1, m + 1, true, out ++ [⟨vs, vh, va⟩], by omega, by go_num, rfl, by simp [hm], by omega, by rw [flat_snoc]; exact o2, by rw [List.append_assoc]; exact HF3.out, b2⟩
            case measure => simp [intOf]; omega
          · have q1 : (vs == s) = false := by simp; omega
            go_wp2_with (at_builtin; go_must (refine wpList_append_own _ rfl _ _ 28 rfl w1.heap.size 127 i1 (.agg #[.int .i64 0, .int .i64 0, .int .i64 0]) 3 24 Tryz.underlying28 hi hz0 hz1 hz2 rfl (by decide) _ _ _ rfl ((HO.out.alloc _).alloc _) ⟨_, 0, none⟩ 1 1 (encHold ⟨vs, vh, va⟩) rfl rfl (newsH _ _ (by simp) vs  vh  va) (oneHold ⟨vs, vh, va⟩) (by unfold maxLen; omega) (by omega) (by simp; omega) ?_); intro v2 w2 o2 hgrw2 _; have b2 : Below w1.heap.size w1 w2 := (bal (bal HBR.out _) _).grown hgrw2 (by simp; omega) (fun q hq => (HO.out.lt q hq).1); clear hgrw2; have zw2 := b2.size)
            go_roundw
            case rel => exact ⟨k + 1, m + 1, true, out ++ [⟨vs, vh, va⟩], by omega, by go_num, rfl, by simp [hm], by omega, by rw [flat_snoc]; exact o2, by rw [List.append_assoc]; exact HF3.out, b2⟩
            case measure => simp [intOf]; omega
      · -- the key itself
        have hF3 := HF2.out
        rw [he] at hF3
        simp only [if_true] at hF3
        have HF3 := Lib.hid hF3
        simp only [eqK, decide_eq_true_eq] at he
        obtain ⟨rfl, rfl⟩ := he
        clear hF3
        go_wp2
        go_roundw
        case rel => exact ⟨k + 1, m, b, out, by omega, by go_num, rfl, hm, by omega, HO.out.alloc _, HF3.out, bal HBR.out _⟩
        case measure => simp [intOf]; omega
    · have hF2 := HF.out
      rw [drop_all (by have := HN.out; omega)] at hF2
      simp only [setL] at hF2
      cases b
      · have HF2 := Lib.hid hF2
        clear hF2
        go_wp2_with (at_builtin; go_must (refine wpList_append_own _ rfl _ _ 28 rfl w1.heap.size 127 i1 (.agg #[.int .i64 0, .int .i64 0, .int .i64 0]) 3 24 Tryz.underlying28 hi hz0 hz1 hz2 rfl (by decide) _ _ _ rfl (hown.alloc _) ⟨_, 0, none⟩ 1 1 (encHold ⟨s, h, N⟩) rfl rfl (newsH _ _ (by simp) s  h  N) (oneHold ⟨s, h, N⟩) (by unfold maxLen; omega) (by omega) (by simp; omega) ?_); intro v2 w2 o2 hgrw2 _; have b2 : Below w1.heap.size w1 w2 := (bal HBR.out _).grown hgrw2 (by simp; omega) (fun q hq => (hown.lt q hq).1); clear hgrw2; have zw2 := b2.size)
        go_ret
        refine ⟨_, rfl, ?_, HB.out.trans (b2.mono (by omega))⟩
        have e := HF2.out
        simp only [Bool.false_eq_true, if_false] at e
        rw [← e, flat_snoc, show (out ++ [(⟨s, h, N⟩ : Hold)]).length = m + 1 by simp [hm]]
        exact ownsRow_baseZ o2 (by omega)
      · have HF2 := Lib.hid hF2
        clear hF2
        go_wp2
        go_ret
        refine ⟨_, rfl, ?_, HB.out.trans (HBR.out.mono (by omega))⟩
        have e := HF2.out
        simp only [if_true, List.append_nil] at e
        rw [← e, ← hm]
        exact ownsRow_baseZ hown (by omega)
end Go.Proofs.YthhoaefadfeknaaGreat

namespace Go.Proofs.YthhoaefadfeknaaGreat
open Go.RowKit
set_option linter.unusedVariables false
set_option linter.unusedSimpArgs false
/-- holdings and an error that come back -/
def MovedL (E : Int) (H : List Hold) (w : World) (e : Ending) (w' : World) : Prop :=
  ∃ v', e = .returned (.tuple #[v', .int .i64 E]) ∧ (E ≠ 0 → v' = .slice none 0 0) ∧ (E = 0 → w'.ownsRow w.heap.size 127 3 v' H.length (flatE encHold H)) ∧ Below w.heap.size w w'
theorem moved_err {E k : Int} {H : List Hold} {w w' : World} (he : E = k) (hk : k ≠ 0) (hb : Below w.heap.size w w') : MovedL E H w (.returned (.tuple #[.slice none 0 0, .int .i64 k])) w' := by
  subst he; exact ⟨_, rfl, fun _ => rfl, fun h => absurd h hk, hb⟩
theorem moved_ok {E : Int} {H G : List Hold} {w w' : World} {v' : Value} {base : Nat} (he : E = 0) (hH : H = G) (ho : w'.ownsRow base 127 3 v' G.length (flatE encHold G)) (hbs : w.heap.size ≤ base) (hb : Below w.heap.size w w') : MovedL E H w (.returned (.tuple #[v', .int .i64 0])) w' := by
  subst he hH; exact ⟨_, rfl, fun h => absurd rfl h, fun _ => ownsRow_baseZ ho hbs, hb⟩
theorem mvE1_8 {S : Sec} {hs : List Hold} {day : Int} {m : Mv} (h : m.day < day ∨ m.day < S.is ∨ (if m.kind = 3 then 36000 else S.ma) < m.day) : mvE1 S hs day m = 8 := by
  unfold mvE1
  rw [if_neg]
  simp only [inB, decide_eq_true_eq]
  omega
theorem mvE1_in {S : Sec} {hs : List Hold} {day : Int} {m : Mv} (h1 : ¬ m.day < day) (h2 : ¬ m.day < S.is) (h3 : ¬ (if m.kind = 3 then 36000 else S.ma) < m.day) :
    mvE1 S hs day m = if 0 < m.a ∧ m.a ≤ 1000000000000 ∧ m.a % S.un = 0 then (if strangeB m then 6 else if m.f ≠ 0 ∧ heldH hs m.s m.f < m.a then 77 else if m.f = 0 ∧ 1000000000000 < outH hs m.s + m.a then 2 else 0) else 79 := by
  unfold mvE1
  rw [if_pos]
  simp only [inB, decide_eq_true_eq]
  omega
theorem heldH_mem : ∀ {L : List Hold} {s h : Int}, heldH L s h = 0 ∨ ∃ x ∈ L, heldH L s h = x.a
  | [], _, _ => .inl rfl
  | x :: L, s, h => by
    simp only [heldH]
    split
    · exact .inr ⟨x, List.mem_cons_self .., rfl⟩
    · rcases heldH_mem (L := L) (s := s) (h := h) with e | ⟨y, hy, e⟩
      · exact .inl e
      · exact .inr ⟨y, List.mem_cons_of_mem _ hy, e⟩
theorem heldH_le {L : List Hold} (hok : HsOk L) (s h : Int) : heldH L s h ≤ 1000000000000 := by
  rcases heldH_mem (L := L) (s := s) (h := h) with e | ⟨y, hy, e⟩
  · omega
  · rw [e]; exact hok.le hy
end Go.Proofs.YthhoaefadfeknaaGreat
