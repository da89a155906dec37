/- The register's keys: comparing, finding the place of a key. -/
import Derived.Test.YthjaofgdickkaaaGreatRegP
import Derived.Deep.RegionHeld3
import Derived.BigQuiet
namespace Go.Proofs.YthjaofgdickkaaaGreat
open Go.RowKit
set_option linter.unusedVariables false

theorem isNaN_any (a : Int) (w : World) : Calls Tryz.prog 260 #[.int .i64 a] w fun e w' => e = .returned (.bool false) ∧ w = w' := by
  go_enter Tryz.func260, Tryz.ntmps260
  go_wp2
  go_ret
  exact ⟨rfl, rfl⟩
/-- the comparison of two numbers -/
def cmpI (a b : Int) : Int := if a < b then -1 else if b < a then 1 else 0
theorem compare_any (a b : Int) (w : World) : Calls Tryz.prog 188 #[.int .i64 a, .int .i64 b] w fun e w' => e = .returned (.int .i64 (cmpI a b)) ∧ w = w' := by
  by_cases h1 : a < b
  · have e : cmpI a b = -1 := if_pos h1
    rw [e]
    go_enter Tryz.func188, Tryz.ntmps188
    go_wp2_with (go_at_call 260; refine (isNaN_any _ _).mono ?_; rintro e w' ⟨rfl, rfl⟩)
    go_ret
    exact ⟨rfl, rfl⟩
  · by_cases h2 : b < a
    · have e : cmpI a b = 1 := by unfold cmpI; rw [if_neg h1, if_pos h2]
      rw [e]
      go_enter Tryz.func188, Tryz.ntmps188
      go_wp2_with (go_at_call 260; refine (isNaN_any _ _).mono ?_; rintro e w' ⟨rfl, rfl⟩)
      go_ret
      exact ⟨rfl, rfl⟩
    · have e : cmpI a b = 0 := by unfold cmpI; rw [if_neg h1, if_neg h2]
      rw [e]
      go_enter Tryz.func188, Tryz.ntmps188
      go_wp2_with (go_at_call 260; refine (isNaN_any _ _).mono ?_; rintro e w' ⟨rfl, rfl⟩)
      go_ret
      exact ⟨rfl, rfl⟩
/-- the first of two that is not 0 -/
def orI (a b : Int) : Int := if a = 0 then b else a
theorem or2_any (a b : Int) (g : Nat) (w : World) (h0 : w.cell? ⟨g, 0, none⟩ = some (.int .i64 a)) (h1 : w.cell? ⟨g, 1, none⟩ = some (.int .i64 b)) :
    Calls Tryz.prog 187 #[.slice (some ⟨g, 0, none⟩) 2 2] w fun e w' => e = .returned (.int .i64 (orI a b)) ∧ w = w' := by
  go_enter Tryz.func187, Tryz.ntmps187
  go_wp2
  go_loop [8] (fun iv => ∃ k : Nat, k ≤ 2 ∧ iv = .int .i64 k ∧ (1 ≤ k → a = 0) ∧ (2 ≤ k → b = 0)) (fun iv => 2 - (intOf iv).toNat)
  case atStart => exact ⟨0, by omega, rfl, by omega, by omega⟩
  case round =>
    obtain ⟨k, hk, rfl, ha, hb⟩ := hrel
    rcases (show k = 0 ∨ k = 1 ∨ k = 2 by omega) with rfl | rfl | rfl
    · clear ha hb
      by_cases h : a = 0
      · subst h
        go_wp2
        go_round
        case rel => exact ⟨1, by omega, by go_num, by simp, by omega⟩
        case measure => simp [intOf]
      · have e := Lib.hid (show orI a b = a from if_neg h)
        have h' : (a == 0) = false := by simpa using h
        have h2 : (a != 0) = true := by simpa using h
        go_wp2
        go_ret
        exact ⟨ret_int e.out.symm, rfl⟩
    · have h := ha (by omega)
      subst h
      clear ha hb
      by_cases h : b = 0
      · subst h
        go_wp2
        go_round
        case rel => exact ⟨2, by omega, by go_num, by simp, by simp⟩
        case measure => simp [intOf]
      · have e := Lib.hid (show orI 0 b = b from if_pos rfl)
        have h' : (b == 0) = false := by simpa using h
        have h2 : (b != 0) = true := by simpa using h
        go_wp2
        go_ret
        exact ⟨ret_int e.out.symm, rfl⟩
    · have h := ha (by omega)
      have hb' := hb (by omega)
      subst h hb'
      clear ha hb
      go_wp2
      go_ret
      exact ⟨rfl, rfl⟩
/-- the comparison of two keys -/
def cmpK (s h s' h' : Int) : Int := orI (cmpI s s') (cmpI h h')
theorem keycmp_any (s h s' h' : Int) (w : World) :
    Calls Tryz.prog 325 #[.agg #[.int .i64 s, .int .i64 h], .agg #[.int .i64 s', .int .i64 h']] w fun e w' => e = .returned (.int .i64 (cmpK s h s' h')) ∧ Below w.heap.size w w' := by
  obtain ⟨x, hx⟩ : ∃ x, cmpI s s' = x := ⟨_, rfl⟩
  obtain ⟨y, hy⟩ : ∃ y, cmpI h h' = y := ⟨_, rfl⟩
  have HX := Lib.hid hx
  have HY := Lib.hid hy
  have e := Lib.hid (show cmpK s h s' h' = orI x y by unfold cmpK; rw [hx, hy])
  clear hx hy
  go_enter Tryz.func325, Tryz.ntmps325
  go_wp2
  go_region_held3 (fun w' => w'.cell? ⟨w.heap.size, 0, none⟩ = some (.int .i64 s) ∧ w'.cell? ⟨w.heap.size, 1, none⟩ = some (.int .i64 h) ∧ w'.cell? ⟨w.heap.size + 1, 0, none⟩ = some (.int .i64 s') ∧ w'.cell? ⟨w.heap.size + 1, 1, none⟩ = some (.int .i64 h')) (first | go_keep) (first | (go_at_call 188; refine (compare_any _ _ _).mono ?_; (first | rw [HX.out] | rw [HY.out]); rintro e w' ⟨rfl, rfl⟩) | (go_at_call 187; refine (or2_any x y _ _ ?_ ?_).mono ?_; (· exact (World.cell?_alloc_at _ _ _ _ (by simp)).trans rfl); (· exact (World.cell?_alloc_at _ _ _ _ (by simp)).trans rfl); rintro e w' ⟨rfl, rfl⟩))
  go_wp2
  go_ret
  exact ⟨ret_int e.out.symm, bdr (bal (bal (bal brefl _) _) _)⟩
theorem of_any (s h a : Int) (w : World) :
    Calls Tryz.prog 324 #[.agg #[.int .i64 s, .int .i64 h, .int .i64 a]] w fun e w' => e = .returned (.agg #[.int .i64 s, .int .i64 h]) ∧ Below w.heap.size w w' := by
  go_enter Tryz.func324, Tryz.ntmps324
  go_wp2
  exact bodyPost_ret (v := .agg #[.int .i64 s, .int .i64 h]) (by simp [results, Tryz.results324, go_sem]) rfl ⟨rfl, bal (bal brefl _) _⟩
theorem place1_any (s h a s' h' : Int) (w : World) :
    Calls Tryz.prog 323 #[.agg #[.int .i64 s, .int .i64 h, .int .i64 a], .agg #[.int .i64 s', .int .i64 h']] w fun e w' => e = .returned (.int .i64 (cmpK s h s' h')) ∧ Below w.heap.size w w' := by
  go_enter Tryz.func323, Tryz.ntmps323
  go_wp2
  go_region_held3 (fun w' => w'.cell? ⟨w.heap.size, 0, none⟩ = some (.int .i64 s) ∧ w'.cell? ⟨w.heap.size, 1, none⟩ = some (.int .i64 h) ∧ w'.cell? ⟨w.heap.size, 2, none⟩ = some (.int .i64 a) ∧ w'.cell? ⟨w.heap.size + 1, 0, none⟩ = some (.int .i64 s') ∧ w'.cell? ⟨w.heap.size + 1, 1, none⟩ = some (.int .i64 h')) (first | (refine ⟨keepB hb2 ?_, keepB hb2 ?_, keepB hb2 ?_, keepB hb2 ?_, keepB hb2 ?_⟩ <;> first | (simp; done) | (simp [*]; done)) | (refine ⟨keepB hb1 ?_, keepB hb1 ?_, keepB hb1 ?_, keepB hb1 ?_, keepB hb1 ?_⟩ <;> first | (simp; done) | (simp [*]; done)) | go_keep) (first | (go_at_call 324; refine (of_any _ _ _ _).mono ?_; rintro e w1 ⟨rfl, hb1⟩) | (go_at_call 325; refine (keycmp_any _ _ _ _ _).mono ?_; rintro e w2 ⟨rfl, hb2⟩))
  go_wp2
  go_ret
  exact ⟨rfl, bup (bup (bdr (bal (bal brefl _) _)) hb1) hb2⟩
theorem cmpK_cases (s h s' h' : Int) : (cmpK s h s' h' = -1 ∧ (s < s' ∨ (s = s' ∧ h < h'))) ∨ (cmpK s h s' h' = 0 ∧ s = s' ∧ h = h') ∨ (cmpK s h s' h' = 1 ∧ (s' < s ∨ (s = s' ∧ h' < h))) := by
  unfold cmpK orI cmpI
  repeat' split
  all_goals omega
theorem cmpK_lt {x : Hold} {s h : Int} : decide (cmpK x.s x.h s h < 0) = ltK x s h := by
  have := cmpK_cases x.s x.h s h
  unfold ltK
  rw [decide_eq_decide]
  omega
theorem cmpK_eq {x : Hold} {s h : Int} : (cmpK x.s x.h s h == 0) = eqK x s h := by
  have := cmpK_cases x.s x.h s h
  unfold eqK
  rw [Bool.eq_iff_iff, beq_iff_eq, decide_eq_true_eq]
  omega
theorem ret_tib {a a' : Int} {b b' : Bool} (h : a = a' ∧ b = b') : Ending.returned (.tuple #[.int .i64 a, .bool b]) = .returned (.tuple #[.int .i64 a', .bool b']) := by
  obtain ⟨rfl, rfl⟩ := h; rfl
/-- a key is there -/
def isH (L : List Hold) (s h : Int) : Bool := match L[posH L s h]? with | some x => eqK x s h | none => false
theorem lt_pos {L : List Hold} {s h : Int} (hs : srtH L) {m : Nat} {x : Hold} (hx : L[m]? = some x) : ltK x s h = decide (m < posH L s h) := by
  by_cases hm : m < posH L s h
  · rw [posH_lt hm hx]; simp [hm]
  · rw [posH_ge hs (by omega) hx]; simp [hm]
set_option maxHeartbeats 2000000 in
theorem bsH_any (P : Nat → Prop) (v : Value) (L : List Hold) (s h : Int) (w : World) (hS : Sl 3 encHold P w v L) (hsrt : srtH L) (hlen : L.length ≤ 1000000) :
    Calls Tryz.prog 322 #[v, .agg #[.int .i64 s, .int .i64 h], .func (.func 323) #[] #[]] w fun e w' => e = .returned (.tuple #[.int .i64 (posH L s h), .bool (isH L s h)]) ∧ Below w.heap.size w w' := by
  obtain ⟨ao, n, c, rfl, hn, hnc, hcm⟩ := hS.shape
  have hn1 : n ≤ 1000000 := by omega
  have hple := posH_le L s h
  rw [hn] at hple
  have HLT := Lib.hid (fun (m : Nat) (x : Hold) (hx : L[m]? = some x) => lt_pos (s := s) (h := h) hsrt hx)
  obtain ⟨p, hp⟩ : ∃ p, posH L s h = p := ⟨_, rfl⟩
  obtain ⟨b, hb⟩ : ∃ b, isH L s h = b := ⟨_, rfl⟩
  rw [hp] at HLT hple
  rw [hp, hb]
  have HS := Lib.hid hS
  have HN := Lib.hid hn
  have HP := Lib.hid hp
  have HB := Lib.hid hb
  clear hS hn hp hb hlen
  go_enter Tryz.func322, Tryz.ntmps322
  go_wp2
  go_loopw [9, 10] (fun iv jv wr => ∃ i j : Nat, i ≤ p ∧ p ≤ j ∧ j ≤ n ∧ iv = .int .i64 i ∧ jv = .int .i64 j ∧ Below w.heap.size w wr ∧ w.heap.size < wr.heap.size ∧ wr.cell? ⟨w.heap.size, 0, none⟩ = some (.int .i64 s) ∧ wr.cell? ⟨w.heap.size, 1, none⟩ = some (.int .i64 h)) (fun iv jv _ => (intOf jv).toNat - (intOf iv).toNat)
  case atStart => exact ⟨0, n, by omega, hple, by omega, rfl, rfl, bal brefl _, by simp, by simp, by simp⟩
  case round =>
    obtain ⟨i, j, hip, hpj, hjn, rfl, rfl, hbr, hlt, b0, b1⟩ := hrel
    by_cases hij : i < j
    · obtain ⟨b', off, xs, xh, xa, rfl, -, hb', hL, k0, k1, k2⟩ := (HS.out.below hbr).hold (k := (i + j) / 2) (by omega)
      have hm := HLT.out _ _ hL
      obtain ⟨q, hq⟩ : ∃ q, cmpK xs xh s h = q := ⟨_, rfl⟩
      have hq' : decide (q < 0) = decide ((i + j) / 2 < p) := by rw [← hm, ← hq]; exact cmpK_lt (x := ⟨xs, xh, xa⟩)
      rw [decide_eq_decide] at hq'
      have HQ := Lib.hid hq
      have zr := hbr.size
      clear hL hm hq
      have m0 : (0 : Int) ≤ ((i : Int) + j) / 2 := by omega
      have m1 : ((i : Int) + j) / 2 < n := by omega
      have e0 : (((i : Int) + j) / 2).toNat = (i + j) / 2 := by omega
      by_cases hlt' : q < 0
      all_goals
        have hx := hq'
        clear hq'
        go_wp2
        go_region_held3 (fun w' => w'.cell? ⟨b', off + (i + j) / 2 * 3, none⟩ = some (.int .i64 xs) ∧ w'.cell? ⟨b', off + (i + j) / 2 * 3 + 1, none⟩ = some (.int .i64 xh) ∧ w'.cell? ⟨b', off + (i + j) / 2 * 3 + 2, none⟩ = some (.int .i64 xa) ∧ w'.cell? ⟨w.heap.size, 0, none⟩ = some (.int .i64 s) ∧ w'.cell? ⟨w.heap.size, 1, none⟩ = some (.int .i64 h)) (first | (refine ⟨keepB hb1 ?_, keepB hb1 ?_, keepB hb1 ?_, keepB hb1 ?_, keepB hb1 ?_⟩ <;> first | assumption | (simp; done) | (simp [*]; done)) | go_keep) (first | (go_at_call 323; refine (place1_any _ _ _ _ _ _).mono ?_; rw [HQ.out]; rintro e w1 ⟨rfl, hb1⟩))
        go_wp2
        go_roundw
        case rel => first
          | exact ⟨(i + j) / 2 + 1, j, by omega, by omega, by omega, by go_num, rfl, bup hbr (bup (bdr brefl) hb1), by have := hb1.size; simp at this; omega, by simp [*], by simp [*]⟩
          | exact ⟨i, (i + j) / 2, by omega, by omega, by omega, rfl, by go_num, bup hbr (bup (bdr brefl) hb1), by have := hb1.size; simp at this; omega, by simp [*], by simp [*]⟩
        case measure => simp [intOf]; omega
    · obtain rfl : i = j := by omega
      obtain rfl : i = p := by omega
      by_cases hpn : i < n
      · obtain ⟨b', off, xs, xh, xa, rfl, -, hb', hL, k0, k1, k2⟩ := (HS.out.below hbr).hold (k := i) (by omega)
        obtain ⟨q, hq⟩ : ∃ q, cmpK xs xh s h = q := ⟨_, rfl⟩
        have he : (q == 0) = b := by
          rw [← hq, ← HB.out]; unfold isH; rw [HP.out, hL]; exact cmpK_eq (x := ⟨xs, xh, xa⟩)
        have HQ := Lib.hid hq
        have HE := Lib.hid he
        have zr := hbr.size
        have hpn1 : (i : Int) < n := by omega
        have hd : decide (i < n) = true := by simp; omega
        clear hL hq he
        go_wp2
        go_region_held3 (fun w' => w'.cell? ⟨b', off + i * 3, none⟩ = some (.int .i64 xs) ∧ w'.cell? ⟨b', off + i * 3 + 1, none⟩ = some (.int .i64 xh) ∧ w'.cell? ⟨b', off + i * 3 + 2, none⟩ = some (.int .i64 xa) ∧ w'.cell? ⟨w.heap.size, 0, none⟩ = some (.int .i64 s) ∧ w'.cell? ⟨w.heap.size, 1, none⟩ = some (.int .i64 h)) (first | (refine ⟨keepB hb1 ?_, keepB hb1 ?_, keepB hb1 ?_, keepB hb1 ?_, keepB hb1 ?_⟩ <;> first | assumption | (simp; done) | (simp [*]; done)) | go_keep) (first | (go_at_call 323; refine (place1_any _ _ _ _ _ _).mono ?_; rw [HQ.out]; rintro e w1 ⟨rfl, hb1⟩))
        go_wp2
        go_ret2
        exact ⟨ret_tib ⟨rfl, HE.out⟩, bup hbr (bup (bdr brefl) hb1)⟩
      · have hd : decide (i < n) = false := by simpa using hpn
        have hpn1 : ¬ (i : Int) < n := by omega
        have he : b = false := by
          rw [← HB.out]; unfold isH; rw [HP.out, List.getElem?_eq_none (by have := HN.out; omega)]
        subst he
        go_wp2
        go_quiet (fail)
        go_wp2
        go_ret2
        exact ⟨rfl, below_drewZ hbr _⟩
end Go.Proofs.YthjaofgdickkaaaGreat
