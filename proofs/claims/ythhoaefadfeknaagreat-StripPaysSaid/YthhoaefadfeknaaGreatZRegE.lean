/- The register's keys: comparing, finding the place of a key. The register's searches: find, place, held, outstanding, strange. slices.Insert (one element) and slices.Delete (one element) at rows that the call owns. Printed by wip/gen/ins.py. The register's clerk: outstanding, strange, add. The register's clerk: add. A register's moves in plain lists: what is made by them. No program in sight. The register's clerk: do. -/
import Derived.Test.YthhoaefadfeknaaGreatZRegP
import Derived.Deep.RegionHeld3
import Derived.BigQuiet
import Derived.Deep.DeepCutAuto
namespace Go.Proofs.YthhoaefadfeknaaGreat
open Go.RowKit
set_option linter.unusedVariables false

theorem isNaN_any (a : Int) (w : World) : Calls Tryz.prog 190 #[.int .i64 a] w fun e w' => e = .returned (.bool false) ∧ w = w' := by
  go_enter Tryz.func190, Tryz.ntmps190
  go_wp2
  go_ret
  exact ⟨rfl, rfl⟩
/-- the comparison of two numbers -/
def cmpI (a b : Int) : Int := if a < b then -1 else if b < a then 1 else 0
theorem compare_any (a b : Int) (w : World) : Calls Tryz.prog 136 #[.int .i64 a, .int .i64 b] w fun e w' => e = .returned (.int .i64 (cmpI a b)) ∧ w = w' := by
  by_cases h1 : a < b
  · have e : cmpI a b = -1 := if_pos h1
    rw [e]
    go_enter Tryz.func136, Tryz.ntmps136
    go_wp2_with (go_at_call 190; refine (isNaN_any _ _).mono ?_; rintro e w' ⟨rfl, rfl⟩)
    go_ret
    exact ⟨rfl, rfl⟩
  · by_cases h2 : b < a
    · have e : cmpI a b = 1 := by unfold cmpI; rw [if_neg h1, if_pos h2]
      rw [e]
      go_enter Tryz.func136, Tryz.ntmps136
      go_wp2_with (go_at_call 190; refine (isNaN_any _ _).mono ?_; rintro e w' ⟨rfl, rfl⟩)
      go_ret
      exact ⟨rfl, rfl⟩
    · have e : cmpI a b = 0 := by unfold cmpI; rw [if_neg h1, if_neg h2]
      rw [e]
      go_enter Tryz.func136, Tryz.ntmps136
      go_wp2_with (go_at_call 190; refine (isNaN_any _ _).mono ?_; rintro e w' ⟨rfl, rfl⟩)
      go_ret
      exact ⟨rfl, rfl⟩
/-- the first of two that is not 0 -/
def orI (a b : Int) : Int := if a = 0 then b else a
theorem or2_any (a b : Int) (g : Nat) (w : World) (h0 : w.cell? ⟨g, 0, none⟩ = some (.int .i64 a)) (h1 : w.cell? ⟨g, 1, none⟩ = some (.int .i64 b)) :
    Calls Tryz.prog 135 #[.slice (some ⟨g, 0, none⟩) 2 2] w fun e w' => e = .returned (.int .i64 (orI a b)) ∧ w = w' := by
  go_enter Tryz.func135, Tryz.ntmps135
  go_wp2
  go_loop [8] (fun iv => ∃ k : Nat, k ≤ 2 ∧ iv = .int .i64 k ∧ (1 ≤ k → a = 0) ∧ (2 ≤ k → b = 0)) (fun iv => 2 - (intOf iv).toNat)
  case atStart => exact ⟨0, by omega, rfl, by omega, by omega⟩
  case round =>
    obtain ⟨k, hk, rfl, ha, hb⟩ := hrel
    rcases (show k = 0 ∨ k = 1 ∨ k = 2 by omega) with rfl | rfl | rfl
    · clear ha hb
      by_cases h : a = 0
      · subst h
        go_wp2
        go_round
        case rel => exact ⟨1, by omega, by go_num, by simp, by omega⟩
        case measure => simp [intOf]
      · have e := Lib.hid (show orI a b = a from if_neg h)
        have h' : (a == 0) = false := by simpa using h
        have h2 : (a != 0) = true := by simpa using h
        go_wp2
        go_ret
        exact ⟨ret_int e.out.symm, rfl⟩
    · have h := ha (by omega)
      subst h
      clear ha hb
      by_cases h : b = 0
      · subst h
        go_wp2
        go_round
        case rel => exact ⟨2, by omega, by go_num, by simp, by simp⟩
        case measure => simp [intOf]
      · have e := Lib.hid (show orI 0 b = b from if_pos rfl)
        have h' : (b == 0) = false := by simpa using h
        have h2 : (b != 0) = true := by simpa using h
        go_wp2
        go_ret
        exact ⟨ret_int e.out.symm, rfl⟩
    · have h := ha (by omega)
      have hb' := hb (by omega)
      subst h hb'
      clear ha hb
      go_wp2
      go_ret
      exact ⟨rfl, rfl⟩
/-- the comparison of two keys -/
def cmpK (s h s' h' : Int) : Int := orI (cmpI s s') (cmpI h h')
theorem keycmp_any (s h s' h' : Int) (w : World) :
    Calls Tryz.prog 214 #[.agg #[.int .i64 s, .int .i64 h], .agg #[.int .i64 s', .int .i64 h']] w fun e w' => e = .returned (.int .i64 (cmpK s h s' h')) ∧ Below w.heap.size w w' := by
  obtain ⟨x, hx⟩ : ∃ x, cmpI s s' = x := ⟨_, rfl⟩
  obtain ⟨y, hy⟩ : ∃ y, cmpI h h' = y := ⟨_, rfl⟩
  have HX := Lib.hid hx
  have HY := Lib.hid hy
  have e := Lib.hid (show cmpK s h s' h' = orI x y by unfold cmpK; rw [hx, hy])
  clear hx hy
  go_enter Tryz.func214, Tryz.ntmps214
  go_wp2
  go_region_held3 (fun w' => w'.cell? ⟨w.heap.size, 0, none⟩ = some (.int .i64 s) ∧ w'.cell? ⟨w.heap.size, 1, none⟩ = some (.int .i64 h) ∧ w'.cell? ⟨w.heap.size + 1, 0, none⟩ = some (.int .i64 s') ∧ w'.cell? ⟨w.heap.size + 1, 1, none⟩ = some (.int .i64 h')) (first | go_keep) (first | (go_at_call 136; refine (compare_any _ _ _).mono ?_; (first | rw [HX.out] | rw [HY.out]); rintro e w' ⟨rfl, rfl⟩) | (go_at_call 135; refine (or2_any x y _ _ ?_ ?_).mono ?_; (· exact (World.cell?_alloc_at _ _ _ _ (by simp)).trans rfl); (· exact (World.cell?_alloc_at _ _ _ _ (by simp)).trans rfl); rintro e w' ⟨rfl, rfl⟩))
  go_wp2
  go_ret
  exact ⟨ret_int e.out.symm, bdr (bal (bal (bal brefl _) _) _)⟩
theorem of_any (s h a : Int) (w : World) :
    Calls Tryz.prog 213 #[.agg #[.int .i64 s, .int .i64 h, .int .i64 a]] w fun e w' => e = .returned (.agg #[.int .i64 s, .int .i64 h]) ∧ Below w.heap.size w w' := by
  go_enter Tryz.func213, Tryz.ntmps213
  go_wp2
  exact bodyPost_ret (v := .agg #[.int .i64 s, .int .i64 h]) (by simp [results, Tryz.results213, go_sem]) rfl ⟨rfl, bal (bal brefl _) _⟩
theorem place1_any (s h a s' h' : Int) (w : World) :
    Calls Tryz.prog 212 #[.agg #[.int .i64 s, .int .i64 h, .int .i64 a], .agg #[.int .i64 s', .int .i64 h']] w fun e w' => e = .returned (.int .i64 (cmpK s h s' h')) ∧ Below w.heap.size w w' := by
  go_enter Tryz.func212, Tryz.ntmps212
  go_wp2
  go_region_held3 (fun w' => w'.cell? ⟨w.heap.size, 0, none⟩ = some (.int .i64 s) ∧ w'.cell? ⟨w.heap.size, 1, none⟩ = some (.int .i64 h) ∧ w'.cell? ⟨w.heap.size, 2, none⟩ = some (.int .i64 a) ∧ w'.cell? ⟨w.heap.size + 1, 0, none⟩ = some (.int .i64 s') ∧ w'.cell? ⟨w.heap.size + 1, 1, none⟩ = some (.int .i64 h')) (first | (refine ⟨keepB hb2 ?_, keepB hb2 ?_, keepB hb2 ?_, keepB hb2 ?_, keepB hb2 ?_⟩ <;> first | (simp; done) | (simp [*]; done)) | (refine ⟨keepB hb1 ?_, keepB hb1 ?_, keepB hb1 ?_, keepB hb1 ?_, keepB hb1 ?_⟩ <;> first | (simp; done) | (simp [*]; done)) | go_keep) (first | (go_at_call 213; refine (of_any _ _ _ _).mono ?_; rintro e w1 ⟨rfl, hb1⟩) | (go_at_call 214; refine (keycmp_any _ _ _ _ _).mono ?_; rintro e w2 ⟨rfl, hb2⟩))
  go_wp2
  go_ret
  exact ⟨rfl, bup (bup (bdr (bal (bal brefl _) _)) hb1) hb2⟩
theorem cmpK_cases (s h s' h' : Int) : (cmpK s h s' h' = -1 ∧ (s < s' ∨ (s = s' ∧ h < h'))) ∨ (cmpK s h s' h' = 0 ∧ s = s' ∧ h = h') ∨ (cmpK s h s' h' = 1 ∧ (s' < s ∨ (s = s' ∧ h' < h))) := by
  unfold cmpK orI cmpI
  repeat' split
  all_goals omega
theorem cmpK_lt {x : Hold} {s h : Int} : decide (cmpK x.s x.h s h < 0) = ltK x s h := by
  have := cmpK_cases x.s x.h s h
  unfold ltK
  rw [decide_eq_decide]
  omega
theorem cmpK_eq {x : Hold} {s h : Int} : (cmpK x.s x.h s h == 0) = eqK x s h := by
  have := cmpK_cases x.s x.h s h
  unfold eqK
  rw [Bool.eq_iff_iff, beq_iff_eq, decide_eq_true_eq]
  omega
theorem ret_tib {a a' : Int} {b b' : Bool} (h : a = a' ∧ b = b') : Ending.returned (.tuple #[.int .i64 a, .bool b]) = .returned (.tuple #[.int .i64 a', .bool b']) := by
  obtain ⟨rfl, rfl⟩ := h; rfl
/-- a key is there -/
def isH (L : List Hold) (s h : Int) : Bool := match L[posH L s h]? with | some x => eqK x s h | none => false
theorem lt_pos {L : List Hold} {s h : Int} (hs : srtH L) {m : Nat} {x : Hold} (hx : L[m]? = some x) : ltK x s h = decide (m < posH L s h) := by
  by_cases hm : m < posH L s h
  · rw [posH_lt hm hx]; simp [hm]
  · rw [posH_ge hs (by omega) hx]; simp [hm]
set_option maxHeartbeats 2000000 in
theorem bsH_any (P : Nat → Prop) (v : Value) (L : List Hold) (s h : Int) (w : World) (hS : Sl 3 encHold P w v L) (hsrt : srtH L) (hlen : L.length ≤ 1000000) :
    Calls Tryz.prog 211 #[v, .agg #[.int .i64 s, .int .i64 h], .func (.func 212) #[] #[]] w fun e w' => e = .returned (.tuple #[.int .i64 (posH L s h), .bool (isH L s h)]) ∧ Below w.heap.size w w' := by
  obtain ⟨ao, n, c, rfl, hn, hnc, hcm⟩ := hS.shape
  have hn1 : n ≤ 1000000 := by omega
  have hple := posH_le L s h
  rw [hn] at hple
  have HLT := Lib.hid (fun (m : Nat) (x : Hold) (hx : L[m]? = some x) => lt_pos (s := s) (h := h) hsrt hx)
  obtain ⟨p, hp⟩ : ∃ p, posH L s h = p := ⟨_, rfl⟩
  obtain ⟨b, hb⟩ : ∃ b, isH L s h = b := ⟨_, rfl⟩
  rw [hp] at HLT hple
  rw [hp, hb]
  have HS := Lib.hid hS
  have HN := Lib.hid hn
  have HP := Lib.hid hp
  have HB := Lib.hid hb
  clear hS hn hp hb hlen
  go_enter Tryz.func211, Tryz.ntmps211
  go_wp2
  go_loopw [9, 10] (fun iv jv wr => ∃ i j : Nat, i ≤ p ∧ p ≤ j ∧ j ≤ n ∧ iv = .int .i64 i ∧ jv = .int .i64 j ∧ Below w.heap.size w wr ∧ w.heap.size < wr.heap.size ∧ wr.cell? ⟨w.heap.size, 0, none⟩ = some (.int .i64 s) ∧ wr.cell? ⟨w.heap.size, 1, none⟩ = some (.int .i64 h)) (fun iv jv _ => (intOf jv).toNat - (intOf iv).toNat)
  case atStart => exact ⟨0, n, by omega, hple, by omega, rfl, rfl, bal brefl _, by simp, by simp, by simp⟩
  case round =>
    obtain ⟨i, j, hip, hpj, hjn, rfl, rfl, hbr, hlt, b0, b1⟩ := hrel
    by_cases hij : i < j
    · obtain ⟨b', off, xs, xh, xa, rfl, -, hb', hL, k0, k1, k2⟩ := (HS.out.below hbr).hold (k := (i + j) / 2) (by omega)
      have hm := HLT.out _ _ hL
      obtain ⟨q, hq⟩ : ∃ q, cmpK xs xh s h = q := ⟨_, rfl⟩
      have hq' : decide (q < 0) = decide ((i + j) / 2 < p) := by rw [← hm, ← hq]; exact cmpK_lt (x := ⟨xs, xh, xa⟩)
      rw [decide_eq_decide] at hq'
      have HQ := Lib.hid hq
      have zr := hbr.size
      clear hL hm hq
      have m0 : (0 : Int) ≤ ((i : Int) + j) / 2 := by omega
      have m1 : ((i : Int) + j) / 2 < n := by omega
      have e0 : (((i : Int) + j) / 2).toNat = (i + j) / 2 := by omega
      by_cases hlt' : q < 0
      all_goals
        have hx := hq'
        clear hq'
        go_wp2
        go_region_held3 (fun w' => w'.cell? ⟨b', off + (i + j) / 2 * 3, none⟩ = some (.int .i64 xs) ∧ w'.cell? ⟨b', off + (i + j) / 2 * 3 + 1, none⟩ = some (.int .i64 xh) ∧ w'.cell? ⟨b', off + (i + j) / 2 * 3 + 2, none⟩ = some (.int .i64 xa) ∧ w'.cell? ⟨w.heap.size, 0, none⟩ = some (.int .i64 s) ∧ w'.cell? ⟨w.heap.size, 1, none⟩ = some (.int .i64 h)) (first | (refine ⟨keepB hb1 ?_, keepB hb1 ?_, keepB hb1 ?_, keepB hb1 ?_, keepB hb1 ?_⟩ <;> first | assumption | (simp; done) | (simp [*]; done)) | go_keep) (first | (go_at_call 212; refine (place1_any _ _ _ _ _ _).mono ?_; rw [HQ.out]; rintro e w1 ⟨rfl, hb1⟩))
        go_wp2
        go_roundw
        case rel => first
          | exact ⟨(i + j) / 2 + 1, j, by omega, by omega, by omega, by go_num, rfl, bup hbr (bup (bdr brefl) hb1), by have := hb1.size; simp at this; omega, by simp [*], by simp [*]⟩
          | exact ⟨i, (i + j) / 2, by omega, by omega, by omega, rfl, by go_num, bup hbr (bup (bdr brefl) hb1), by have := hb1.size; simp at this; omega, by simp [*], by simp [*]⟩
        case measure => simp [intOf]; omega
    · obtain rfl : i = j := by omega
      obtain rfl : i = p := by omega
      by_cases hpn : i < n
      · obtain ⟨b', off, xs, xh, xa, rfl, -, hb', hL, k0, k1, k2⟩ := (HS.out.below hbr).hold (k := i) (by omega)
        obtain ⟨q, hq⟩ : ∃ q, cmpK xs xh s h = q := ⟨_, rfl⟩
        have he : (q == 0) = b := by
          rw [← hq, ← HB.out]; unfold isH; rw [HP.out, hL]; exact cmpK_eq (x := ⟨xs, xh, xa⟩)
        have HQ := Lib.hid hq
        have HE := Lib.hid he
        have zr := hbr.size
        have hpn1 : (i : Int) < n := by omega
        have hd : decide (i < n) = true := by simp; omega
        clear hL hq he
        go_wp2
        go_region_held3 (fun w' => w'.cell? ⟨b', off + i * 3, none⟩ = some (.int .i64 xs) ∧ w'.cell? ⟨b', off + i * 3 + 1, none⟩ = some (.int .i64 xh) ∧ w'.cell? ⟨b', off + i * 3 + 2, none⟩ = some (.int .i64 xa) ∧ w'.cell? ⟨w.heap.size, 0, none⟩ = some (.int .i64 s) ∧ w'.cell? ⟨w.heap.size, 1, none⟩ = some (.int .i64 h)) (first | (refine ⟨keepB hb1 ?_, keepB hb1 ?_, keepB hb1 ?_, keepB hb1 ?_, keepB hb1 ?_⟩ <;> first | assumption | (simp; done) | (simp [*]; done)) | go_keep) (first | (go_at_call 212; refine (place1_any _ _ _ _ _ _).mono ?_; rw [HQ.out]; rintro e w1 ⟨rfl, hb1⟩))
        go_wp2
        go_ret2
        exact ⟨ret_tib ⟨rfl, HE.out⟩, bup hbr (bup (bdr brefl) hb1)⟩
      · have hd : decide (i < n) = false := by simpa using hpn
        have hpn1 : ¬ (i : Int) < n := by omega
        have he : b = false := by
          rw [← HB.out]; unfold isH; rw [HP.out, List.getElem?_eq_none (by have := HN.out; omega)]
        subst he
        go_wp2
        go_quiet (fail)
        go_wp2
        go_ret2
        exact ⟨rfl, below_drewZ hbr _⟩
end Go.Proofs.YthhoaefadfeknaaGreat
namespace Go.Proofs.YthhoaefadfeknaaGreat
open Go.RowKit
set_option linter.unusedVariables false
set_option linter.unusedSimpArgs false

theorem regholder_any (n : Int) (w : World) : Calls Tryz.prog 218 #[.int .i64 n] w fun e w' => e = .returned (.bool (inB n 1 1000)) ∧ w = w' := by
  go_enter Tryz.func218, Tryz.ntmps218
  go_wp2_with (go_at_call 157; refine (amongR_any _ _ _ _).mono ?_; rintro e w' ⟨rfl, rfl⟩)
  go_ret
  exact ⟨rfl, rfl⟩
/-- the place of a security, or the length -/
def idxS : List Sec → Int → Nat
  | [], _ => 0
  | s :: L, id => if s.id = id then 0 else idxS L id + 1
theorem idxS_le : ∀ (L : List Sec) (id : Int), idxS L id ≤ L.length
  | [], _ => Nat.le_refl _
  | s :: L, id => by have := idxS_le L id; simp only [idxS, List.length_cons]; split <;> omega
theorem findS_idx : ∀ (L : List Sec) (id : Int), findS L id = L[idxS L id]?
  | [], _ => rfl
  | s :: L, id => by
    simp only [findS, idxS]
    split
    · rfl
    · rw [findS_idx L id]; rfl
theorem find1_any (id un is ma ra ev : Int) (ix : Bool) (x : Int) (ib : Nat) (w : World) (h : w.cell? ⟨ib, 0, none⟩ = some (.int .i64 x)) :
    Calls Tryz.prog 195 #[.agg #[.int .i64 id, .int .i64 un, .int .i64 is, .int .i64 ma, .int .i64 ra, .int .i64 ev, .bool ix], .pointer (some ⟨ib, 0, none⟩)] w fun e w' => e = .returned (.bool (id == x)) ∧ Below w.heap.size w w' := by
  have hlt := World.block_lt_of_cell? w _ h
  simp only at hlt
  have hne : ¬ ib = w.heap.size := by omega
  have h' : (w.alloc (.cells #[.int .i64 id, .int .i64 un, .int .i64 is, .int .i64 ma, .int .i64 ra, .int .i64 ev, .bool ix] 26)).cell? ⟨ib, 0, none⟩ = some (.int .i64 x) := (World.cell?_alloc_past _ _ _ hlt).trans h
  go_enter Tryz.func195, Tryz.ntmps195
  go_wp2
  go_ret
  exact ⟨rfl, bal brefl _⟩
set_option maxHeartbeats 1000000 in
theorem idxSec_any (P : Nat → Prop) (v : Value) (L : List Sec) (x : Int) (ib : Nat) (w : World) (hS : Sl 7 encSec P w v L) (hlen : L.length ≤ 1000000) (hi : w.cell? ⟨ib, 0, none⟩ = some (.int .i64 x)) :
    Calls Tryz.prog 170 #[v, .func (.func 195) #[] #[.pointer (some ⟨ib, 0, none⟩)]] w fun e w' => e = .returned (.int .i64 (if idxS L x < L.length then (idxS L x : Int) else -1)) ∧ Below w.heap.size w w' := by
  obtain ⟨ao, n, c, rfl, hn, hnc, hcm⟩ := hS.shape
  have hn1 : n ≤ 1000000 := by omega
  rw [hn]
  obtain ⟨p, hp⟩ : ∃ p, idxS L x = p := ⟨_, rfl⟩
  rw [hp]
  obtain ⟨r, hr⟩ : ∃ r, (if p < n then (p : Int) else -1) = r := ⟨_, rfl⟩
  rw [hr]
  have HS := Lib.hid hS
  have HN := Lib.hid hn
  have HP := Lib.hid hp
  have HI := Lib.hid hi
  have HR := Lib.hid hr
  clear hS hn hp hlen hi hr
  go_enter Tryz.func170, Tryz.ntmps170
  go_wp2
  go_loopw [8] (fun iv wr => ∃ k : Nat, k ≤ n ∧ iv = .int .i64 k ∧ p = k + idxS (L.drop k) x ∧ Below w.heap.size w wr) (fun iv _ => n - (intOf iv).toNat)
  case atStart => exact ⟨0, by omega, rfl, by rw [List.drop_zero, Nat.zero_add]; exact HP.out.symm, brefl⟩
  case round =>
    obtain ⟨k, hk, rfl, hpk, hbr⟩ := hrel
    have zr := hbr.size
    by_cases hlt : k < n
    · obtain ⟨b, off, vid, vun, vis, vma, vra, vev, vix, rfl, -, hb', hL, k0, k1, k2, k3, k4, k5, k6⟩ := (HS.out.below hbr).sec hlt
      rw [drop_cons hL] at hpk
      simp only [idxS] at hpk
      have HI' := Lib.hid (keepB hbr HI.out)
      clear hL
      by_cases hq : vid = x
      · rw [if_pos hq, Nat.add_zero] at hpk
        have HQ := Lib.hid (show (vid == x) = true by simpa using hq)
        have hfin := Lib.hid (show (k : Int) = r by rw [← HR.out, if_pos (by omega)]; omega)
        clear hq hpk
        go_wp2_with fail
        refine (find1_any _ _ _ _ _ _ _ _ _ _ HI'.out).mono ?_
        rw [HQ.out]
        rintro e w' ⟨rfl, hb⟩
        go_wp2
        go_ret
        exact ⟨ret_int hfin.out, bup hbr hb⟩
      · rw [if_neg hq] at hpk
        have HQ := Lib.hid (show (vid == x) = false by simpa using hq)
        have HPK := Lib.hid (show p = (k + 1) + idxS (L.drop (k + 1)) x by omega)
        clear hq hpk
        go_wp2_with fail
        refine (find1_any _ _ _ _ _ _ _ _ _ _ HI'.out).mono ?_
        rw [HQ.out]
        rintro e w' ⟨rfl, hb⟩
        go_wp2
        go_roundw
        case rel => exact ⟨k + 1, by omega, by go_num, HPK.out, bup hbr hb⟩
        case measure => simp [intOf]; omega
    · rw [drop_all (by have := HN.out; omega)] at hpk
      simp only [idxS] at hpk
      have hfin := Lib.hid (show (-1 : Int) = r by rw [← HR.out, if_neg (by omega)])
      clear hpk
      go_wp2
      go_ret
      exact ⟨ret_int hfin.out, hbr⟩
/-- the value of a security -/
def valSec (s : Sec) : Value := .agg #[.int .i64 s.id, .int .i64 s.un, .int .i64 s.is, .int .i64 s.ma, .int .i64 s.ra, .int .i64 s.ev, .bool s.ix]
theorem find_no (P : Nat → Prop) (v : Value) (L : List Sec) (x : Int) (w : World) (hS : Sl 7 encSec P w v L) (hlen : L.length ≤ 1000000) (hf : findS L x = none) :
    Calls Tryz.prog 163 #[v, .int .i64 x] w fun e w' => e = .returned (.tuple #[.agg #[.int .i64 0, .int .i64 0, .int .i64 0, .int .i64 0, .int .i64 0, .int .i64 0, .bool false], .bool false]) ∧ Below w.heap.size w w' := by
  have hp : ¬ idxS L x < L.length := by
    rw [findS_idx] at hf
    have := List.getElem?_eq_none_iff.1 hf
    omega
  have H := Lib.hid (fun W ib hS' hi => idxSec_any P v L x ib W hS' hlen hi)
  have HS := Lib.hid hS
  have HP := Lib.hid hp
  clear hS hf hp hlen
  go_enter Tryz.func163, Tryz.ntmps163
  go_wp2_with fail
  refine (H.out _ _ ((HS.out.alloc _).alloc _) (by simp)).mono ?_
  rw [if_neg HP.out]
  rintro e w1 ⟨rfl, hb⟩
  obtain ⟨hc, hf⟩ := bcell hb
  have hz : w.heap.size + 1 < w1.heap.size := by have := hb.size; simp at this; omega
  go_wp2
  refine bodyPost_ret (v := .tuple #[.agg #[.int .i64 0, .int .i64 0, .int .i64 0, .int .i64 0, .int .i64 0, .int .i64 0, .bool false], .bool false]) (by simp [results, Tryz.results163, go_sem, hc, hz]) rfl ⟨rfl, bset7 (bup (bal (bal brefl _) _) hb) (by simp) _ _ _ _ _ _ _⟩
theorem find_yes (P : Nat → Prop) (v : Value) (L : List Sec) (x id un is ma ra ev : Int) (ix : Bool) (w : World) (hS : Sl 7 encSec P w v L) (hlen : L.length ≤ 1000000) (hf : findS L x = some ⟨id, un, is, ma, ra, ev, ix⟩) :
    Calls Tryz.prog 163 #[v, .int .i64 x] w fun e w' => e = .returned (.tuple #[.agg #[.int .i64 id, .int .i64 un, .int .i64 is, .int .i64 ma, .int .i64 ra, .int .i64 ev, .bool ix], .bool true]) ∧ Below w.heap.size w w' := by
  rw [findS_idx] at hf
  have hp : idxS L x < L.length := (List.getElem?_eq_some_iff.1 hf).1
  obtain ⟨ao, n, c, rfl, hn, hnc, hcm⟩ := hS.shape
  have H := Lib.hid (fun W ib hS' hi => idxSec_any P (.slice ao n c) L x ib W hS' hlen hi)
  obtain ⟨p, hpe⟩ : ∃ p, idxS L x = p := ⟨_, rfl⟩
  rw [hpe] at hf hp H
  have hpn : p < n := by omega
  have HS := Lib.hid hS
  have HP := Lib.hid hp
  have HF := Lib.hid hf
  obtain ⟨b, off, _, _, _, _, _, _, _, rfl, -, hb0, -⟩ := hS.sec hpn
  clear hf hp hlen hpe hn hS
  go_enter Tryz.func163, Tryz.ntmps163
  go_wp2_with fail
  refine (H.out _ _ ((HS.out.alloc _).alloc _) (by simp)).mono ?_
  rw [if_pos HP.out]
  rintro e w1 ⟨rfl, hb⟩
  obtain ⟨b', off', vid, vun, vis, vma, vra, vev, vix, he, -, hb', hL, k0, k1, k2, k3, k4, k5, k6⟩ := (((HS.out.alloc _).alloc _).below hb).sec hpn
  cases he
  rw [HF.out] at hL
  cases hL
  obtain ⟨hc, hf⟩ := bcell hb
  have hz : w.heap.size + 1 < w1.heap.size := by have := hb.size; simp at this; omega
  have hbo : ¬ b = w.heap.size + 1 := by omega
  go_wp2
  refine bodyPost_ret (v := .tuple #[.agg #[.int .i64 id, .int .i64 un, .int .i64 is, .int .i64 ma, .int .i64 ra, .int .i64 ev, .bool ix], .bool true]) (by simp [results, Tryz.results163, go_sem, hc, hz]) rfl ⟨rfl, bset7 (bup (bal (bal brefl _) _) hb) (by simp) _ _ _ _ _ _ _⟩
set_option maxHeartbeats 1000000 in
theorem place_any (P : Nat → Prop) (cb : Nat) (v : Value) (L : List Hold) (s h : Int) (w : World) (hv : w.cell? ⟨cb, 1, none⟩ = some v) (hS : Sl 3 encHold P w v L) (hsrt : srtH L) (hlen : L.length ≤ 1000000) :
    Calls Tryz.prog 200 #[.pointer (some ⟨cb, 0, none⟩), .agg #[.int .i64 s, .int .i64 h]] w fun e w' => e = .returned (.tuple #[.int .i64 (posH L s h), .bool (isH L s h)]) ∧ Below w.heap.size w w' := by
  have H := Lib.hid (fun W hS' => bsH_any P v L s h W hS' hsrt hlen)
  have HS := Lib.hid (hS.alloc (.cells #[.int .i64 s, .int .i64 h] 211))
  obtain ⟨p, hp⟩ : ∃ p, posH L s h = p := ⟨_, rfl⟩
  obtain ⟨b, hb⟩ : ∃ b, isH L s h = b := ⟨_, rfl⟩
  rw [hp, hb] at H
  rw [hp, hb]
  have hcl := World.block_lt_of_cell? w _ hv
  simp only at hcl
  have hv' : (w.alloc (.cells #[.int .i64 s, .int .i64 h] 211)).cell? ⟨cb, 1, none⟩ = some v := (World.cell?_alloc_past _ _ _ hcl).trans hv
  clear hS hp hb hsrt hlen
  go_enter Tryz.func200, Tryz.ntmps200
  go_wp2
  go_region_held3 (fun w' => w'.cell? ⟨cb, 1, none⟩ = some v ∧ w'.cell? ⟨w.heap.size, 0, none⟩ = some (.int .i64 s) ∧ w'.cell? ⟨w.heap.size, 1, none⟩ = some (.int .i64 h)) (first | (refine ⟨keepB hb1 ?_, keepB hb1 ?_, keepB hb1 ?_⟩ <;> first | assumption | (simp; done) | (simp [*]; done)) | go_keep) (first | (go_at_call 211; refine (H.out _ (HS.out.drewN 1)).mono ?_; rintro e w1 ⟨rfl, hb1⟩))
  go_wp2
  go_ret2
  exact ⟨rfl, bup (bdr (bal brefl _)) hb1⟩
theorem held_at {L : List Hold} {s h : Int} (hs : srtH L) : (isH L s h = true → ∃ a, L[posH L s h]? = some ⟨s, h, a⟩ ∧ heldH L s h = a) ∧ (isH L s h = false → heldH L s h = 0) := by
  rw [heldH_pos hs]
  unfold isH
  cases hq : L[posH L s h]? with
  | none => simp
  | some x =>
    obtain ⟨xs, xh, xa⟩ := x
    constructor
    · intro he
      obtain ⟨rfl, rfl⟩ := eqK_iff.1 he
      exact ⟨xa, rfl, by simp [he]⟩
    · intro he
      simp [he]
set_option maxHeartbeats 1000000 in
theorem held_any (P : Nat → Prop) (cb : Nat) (v : Value) (L : List Hold) (s h : Int) (w : World) (hv : w.cell? ⟨cb, 1, none⟩ = some v) (hS : Sl 3 encHold P w v L) (hsrt : srtH L) (hlen : L.length ≤ 1000000) :
    Calls Tryz.prog 175 #[.pointer (some ⟨cb, 0, none⟩), .int .i64 s, .int .i64 h] w fun e w' => e = .returned (.int .i64 (heldH L s h)) ∧ Below w.heap.size w w' := by
  have H := place_any P cb v L s h w hv hS hsrt hlen
  obtain ⟨hy, hn⟩ := held_at (s := s) (h := h) hsrt
  have hple := posH_le L s h
  obtain ⟨p, hp⟩ : ∃ p, posH L s h = p := ⟨_, rfl⟩
  obtain ⟨b, hb⟩ : ∃ b, isH L s h = b := ⟨_, rfl⟩
  rw [hp, hb] at H
  rw [hp] at hy hple
  rw [hb] at hy hn
  have HH := Lib.hid H
  cases b
  · rw [hn rfl]
    clear H hy hn hp hb hv hS hsrt
    go_enter Tryz.func175, Tryz.ntmps175
    go_wp2_with fail
    refine HH.out.mono ?_
    rintro e w1 ⟨rfl, hb1⟩
    go_wp2
    go_ret
    exact ⟨rfl, hb1⟩
  · obtain ⟨a, hL, ha⟩ := hy rfl
    rw [ha]
    obtain ⟨ao, n, c, rfl, hn', hnc, hcm⟩ := hS.shape
    have hpn : p < n := by have := (List.getElem?_eq_some_iff.1 hL).1; omega
    have HS := Lib.hid hS
    have HV := Lib.hid hv
    have HL := Lib.hid hL
    clear H hy hn hp hb hv hS hsrt ha hL hn'
    go_enter Tryz.func175, Tryz.ntmps175
    go_wp2_with fail
    refine HH.out.mono ?_
    rintro e w1 ⟨rfl, hb1⟩
    obtain ⟨b', off', vs, vh, va, he, -, hb', hL, k0, k1, k2⟩ := (HS.out.below hb1).hold hpn
    rw [HL.out] at hL
    cases hL
    subst he
    have hv1 := keepB hb1 HV.out
    go_wp2
    go_ret
    exact ⟨rfl, hb1⟩
end Go.Proofs.YthhoaefadfeknaaGreat
namespace Go.Proofs.YthhoaefadfeknaaGreat
open Go.RowKit
set_option linter.unusedVariables false
set_option linter.unusedSimpArgs false

theorem overH_any (vb g i lb cb : Nat) (C cur : Array Value) (w : World) (hne : vb ≠ g) (hv : w.heap[vb]? = some (.cells C 127 (0, 0))) (hg : w.heap[g]? = some (.cells cur 127 (0, 0))) (hk : cur.size ≠ 0) :
    (callFunc 224 #[.slice (some ⟨vb, 0, none⟩) 1 1, .slice (some ⟨g, i, none⟩) lb cb]).run Tryz.prog w = .ok (.value (.bool false)) w := by
  have hz : ∀ w, (Go.sizeOf 127).run Tryz.prog w = .ok 3 w := fun w => by kernel_rfl
  rw [run_callFunc_extern Tryz.func224 (by kernel_rfl) (by kernel_rfl) (by kernel_rfl) (e := Extern.SlicesOverlaps.overlaps #[28, 28] #[4]) (by kernel_rfl),
    Lib.run_overlaps_apart w 28 4 127 Tryz.underlying28 3 hz ⟨vb, 0, none⟩ ⟨g, i, none⟩ 1 1 lb cb hne 127 127 C.size cur.size (by simp [World.shape?, hv]) (by simp [World.shape?, hg]) hk (by simp [World.frozen?, hv]) (by simp [World.frozen?, hv])]
  rfl
/-- the list with an element put in -/
theorem insH_end (base : Nat) (v : Value) (n vb : Nat) (L : List Hold) (x : Hold) (w : World) (hown : w.ownsRow base 127 3 v n (flatE encHold L)) (hn : n ≤ 1000000) (hl : L.length = n) (hbase : base ≤ w.heap.size)
    (hv : w.heap[vb]? = some (.cells (encHold x).toArray 127 (0, 0))) :
    Calls Tryz.prog 219 #[v, .int .i64 n, .slice (some ⟨vb, 0, none⟩) 1 1] w fun e w' => ∃ v', e = .returned v' ∧ w'.ownsRow base 127 3 v' (n + 1) (flatE encHold (L ++ [x])) ∧ w.grownBy w' v.ownBlock := by
  obtain ⟨i1, hi, hz0, hz1, hz2⟩ := info_parts infoHold
  have hnews : ∀ j u, (encHold x)[j]? = some u → w.cell? ((⟨vb, 0, none⟩ : Addr).add j) = some u := fun j u hj => by rw [add_litZ, Nat.zero_add]; exact cell_whole hv hj
  have HN := Lib.hid hnews
  have HV := Lib.hid hv
  have HL := Lib.hid hl
  clear hnews hv hl
  rcases Nat.eq_zero_or_pos n with h0 | h0
  · subst h0
    have hL : L = [] := List.eq_nil_of_length_eq_zero HL.out
    subst hL
    rcases hown.2 with ⟨rfl, -⟩ | ⟨g, cap, cur, rfl, hbg, hg, hnc, hcm, hcs, htake⟩
    · go_enter Tryz.func219, Tryz.ntmps219
      go_wp2_with (at_builtin; refine wpList_append_own _ rfl _ _ 28 rfl base 127 i1 (.agg #[.int .i64 0, .int .i64 0, .int .i64 0]) 3 24 Tryz.underlying28 hi hz0 hz1 hz2 rfl (by decide) _ _ _ rfl hown ⟨vb, 0, none⟩ 1 1 (encHold x) rfl rfl HN.out (oneHold x) (by unfold maxLen; omega) (by omega) hbase ?_; intro v' w2 hown' hgrow _)
      go_wp2
      go_ret
      exact ⟨v', rfl, by simpa [flatE] using hown', hgrow⟩
    · have HG := Lib.hid hg
      clear hg htake hcs
      by_cases hc0 : cap = 0
      · subst hc0
        go_enter Tryz.func219, Tryz.ntmps219
        go_wp2_with (at_builtin; refine wpList_append_own _ rfl _ _ 28 rfl base 127 i1 (.agg #[.int .i64 0, .int .i64 0, .int .i64 0]) 3 24 Tryz.underlying28 hi hz0 hz1 hz2 rfl (by decide) _ _ _ rfl hown ⟨vb, 0, none⟩ 1 1 (encHold x) rfl rfl HN.out (oneHold x) (by unfold maxLen; omega) (by omega) hbase ?_; intro v' w2 hown' hgrow _)
        go_wp2
        go_ret
        exact ⟨v', rfl, by simpa [flatE] using hown', hgrow⟩
      · go_enter Tryz.func219, Tryz.ntmps219
        go_wp2_with (at_builtin; refine wpList_append_own _ rfl _ _ 28 rfl base 127 i1 (.agg #[.int .i64 0, .int .i64 0, .int .i64 0]) 3 24 Tryz.underlying28 hi hz0 hz1 hz2 rfl (by decide) _ _ _ rfl hown ⟨vb, 0, none⟩ 1 1 (encHold x) rfl rfl HN.out (oneHold x) (by unfold maxLen; omega) (by omega) hbase ?_; intro v' w2 hown' hgrow _)
        go_wp2
        go_ret
        exact ⟨v', rfl, by simpa [flatE] using hown', hgrow⟩
  · obtain ⟨g, cap, rest, rfl, hbg, hg, hnc, hcm, hxl, hrl⟩ := own_whole hown h0
    unfold maxLen at hcm
    have HG := Lib.hid hg
    clear hg hxl hrl
    by_cases hc0 : cap = n
    · subst hc0
      go_enter Tryz.func219, Tryz.ntmps219
      go_wp2_with (at_builtin; refine wpList_append_own _ rfl _ _ 28 rfl base 127 i1 (.agg #[.int .i64 0, .int .i64 0, .int .i64 0]) 3 24 Tryz.underlying28 hi hz0 hz1 hz2 rfl (by decide) _ _ _ rfl hown ⟨vb, 0, none⟩ 1 1 (encHold x) rfl rfl HN.out (oneHold x) (by unfold maxLen; omega) (by omega) hbase ?_; intro v' w2 hown' hgrow _)
      go_wp2
      go_ret
      exact ⟨v', rfl, by rw [flatE_snoc]; exact hown', hgrow⟩
    · go_enter Tryz.func219, Tryz.ntmps219
      go_wp2_with (at_builtin; refine wpList_append_own _ rfl _ _ 28 rfl base 127 i1 (.agg #[.int .i64 0, .int .i64 0, .int .i64 0]) 3 24 Tryz.underlying28 hi hz0 hz1 hz2 rfl (by decide) _ _ _ rfl hown ⟨vb, 0, none⟩ 1 1 (encHold x) rfl rfl HN.out (oneHold x) (by unfold maxLen; omega) (by omega) hbase ?_; intro v' w2 hown' hgrow _)
      go_wp2
      go_ret
      exact ⟨v', rfl, by rw [flatE_snoc]; exact hown', hgrow⟩
set_option maxHeartbeats 4000000 in
set_option maxRecDepth 100000 in
theorem insH_shift (base g cap n i vb : Nat) (L1 L2 : List Hold) (x : Hold) (rest : List Value) (w : World) (hi : i < n) (hn : n ≤ 1000000) (hl : L1.length = i) (hl2 : L2.length = n - i) (hroom : n + 1 ≤ cap) (hcm : cap ≤ maxLen) (hvb : vb ≠ g) (hbg : base ≤ g)
    (hg : w.heap[g]? = some (.cells (flatE encHold L1 ++ flatE encHold L2 ++ rest).toArray 127 (0, 0))) (hrl : (flatE encHold L1 ++ flatE encHold L2 ++ rest).length = cap * 3)
    (hv : w.heap[vb]? = some (.cells (encHold x).toArray 127 (0, 0))) :
    Calls Tryz.prog 219 #[.slice (some ⟨g, 0, none⟩) n cap, .int .i64 i, .slice (some ⟨vb, 0, none⟩) 1 1] w fun e w' => ∃ v', e = .returned v' ∧ w'.ownsRow base 127 3 v' (n + 1) (flatE encHold (L1 ++ x :: L2)) ∧ w.grownBy w' (some g) := by
  have hcm' := hcm
  unfold maxLen at hcm
  have hsz : (Tryz.prog.info? 127).map (·.size) = some 3 := by kernel_rfl
  obtain ⟨X1, hX1⟩ : ∃ X, flatE encHold L1 = X := ⟨_, rfl⟩
  obtain ⟨X2, hX2⟩ : ∃ X, flatE encHold L2 = X := ⟨_, rfl⟩
  have l1 : X1.length = i * 3 := by rw [← hX1, flatE_length encHold_len, hl]
  have l2 : X2.length = (n - i) * 3 := by rw [← hX2, flatE_length encHold_len, hl2]
  have hfl : flatE encHold (L1 ++ x :: L2) = X1 ++ (encHold x ++ X2) := by rw [← hX1, ← hX2]; simp [flatE]
  have o2 : ∀ u ∈ X2, u.oneCell' = true := by rw [← hX2]; exact oneE oneHold L2
  rw [hX1, hX2] at hg hrl
  rw [hfl]
  obtain ⟨cur, hcur⟩ : ∃ c, X1 ++ X2 ++ rest = c := ⟨_, rfl⟩
  rw [hcur] at hg hrl
  have gd : w.drew.heap[g]? = some (.cells cur.toArray 127 (0, 0)) := hg
  obtain ⟨W1, hW1⟩ : ∃ W1, W1 = w.drew.setRow g ((cur.toArray.toList.take ((i + 1) * 3) ++ X2 ++ cur.toArray.toList.drop ((i + 1) * 3 + X2.length)).toArray) := ⟨_, rfl⟩
  have hcp1 : ∀ ty dc sc, (Builtin.copy_ #[28, 28] ty #[.slice (some ⟨g, (i + 1) * 3, none⟩) (n - i) dc, .slice (some ⟨g, i * 3, none⟩) (n + 1 - i) sc]).run Tryz.prog w.drew = .ok (goInt (n - i : Nat)) W1 := fun ty dc sc => by
    rw [hW1]
    refine run_copy_rowZ w.drew _ _ ty 127 g ((i + 1) * 3) (n - i) dc ⟨g, i * 3, none⟩ (n + 1 - i) sc cur.toArray 127 X2 3 (n - i) Tryz.underlying28 hsz gd (by simp only [Nat.min_def]; split <;> omega) l2 (fun j u hj => ?_) (by simp only [List.size_toArray]; omega) o2
    rw [add_litZ]
    refine cell_whole gd ?_
    have hj2 : j < X2.length := (List.getElem?_eq_some_iff.1 hj).1
    rw [← hcur, List.append_assoc, List.getElem?_append_right (by omega), l1, Nat.add_sub_cancel_left, List.getElem?_append_left hj2]
    exact hj
  have hg1 : W1.heap[g]? = some (.cells (cur.take ((i + 1) * 3) ++ X2 ++ cur.drop ((i + 1) * 3 + X2.length)).toArray 127 (0, 0)) := by rw [hW1]; simpa using heap_setRow gd
  have gr1 : w.grownBy W1 (some g) := by
    have q := grownBy_setRow w.drew g ((cur.toArray.toList.take ((i + 1) * 3) ++ X2 ++ cur.toArray.toList.drop ((i + 1) * 3 + X2.length)).toArray)
    rw [hW1]; exact ⟨q.os, q.tape, q.output, q.size, q.block⟩
  have hv1 : W1.heap[vb]? = some (.cells (encHold x).toArray 127 (0, 0)) := (gr1.block vb (Array.getElem?_eq_some_iff.1 hv).1 (by simpa using hvb)).trans hv
  obtain ⟨cur1, hcur1⟩ : ∃ c, cur.take ((i + 1) * 3) ++ X2 ++ cur.drop ((i + 1) * 3 + X2.length) = c := ⟨_, rfl⟩
  rw [hcur1] at hg1
  have lc1 : cur1.length = cap * 3 := by rw [← hcur1]; simp only [List.length_append, List.length_take, List.length_drop]; omega
  have hcp2 : ∀ ty dc, (Builtin.copy_ #[28, 28] ty #[.slice (some ⟨g, i * 3, none⟩) (n + 1 - i) dc, .slice (some ⟨vb, 0, none⟩) 1 1]).run Tryz.prog W1 = .ok (goInt (1 : Nat)) (W1.setRow g (cur1.toArray.toList.take (i * 3) ++ encHold x ++ cur1.toArray.toList.drop (i * 3 + (encHold x).length)).toArray) := fun ty dc =>
    run_copy_rowZ W1 _ _ ty 127 g (i * 3) (n + 1 - i) dc ⟨vb, 0, none⟩ 1 1 cur1.toArray 127 (encHold x) 3 1 Tryz.underlying28 hsz hg1 (by simp only [Nat.min_def]; split <;> omega) rfl (fun j u hj => by rw [add_litZ, Nat.zero_add]; exact cell_whole hv1 hj) (by simp only [List.size_toArray, encHold_len]; omega) (oneHold x)
  have hfin : (W1.setRow g (cur1.toArray.toList.take (i * 3) ++ encHold x ++ cur1.toArray.toList.drop (i * 3 + (encHold x).length)).toArray).ownsRow base 127 3 (.slice (some ⟨g, 0, none⟩) (n + 1) cap) (n + 1) (X1 ++ (encHold x ++ X2)) := by
    have q := heap_setRow (cs := (cur1.toArray.toList.take (i * 3) ++ encHold x ++ cur1.toArray.toList.drop (i * 3 + (encHold x).length)).toArray) hg1
    have sr := shift_rows X1 X2 rest (encHold x) (i * 3) 3 l1 rfl (by have := congrArg List.length hcur; simp only [List.length_append] at this ⊢; omega)
    rw [hcur, ← Nat.succ_mul] at sr
    simp only [Nat.succ_eq_add_one] at sr
    rw [hcur1] at sr
    have q2 : cur1.toArray.toList.take (i * 3) ++ encHold x ++ cur1.toArray.toList.drop (i * 3 + (encHold x).length) = X1 ++ (encHold x ++ X2) ++ cur.drop ((i + 1) * 3 + X2.length) := sr
    rw [q2] at q ⊢
    exact own_mk hbg q (by omega) hcm' (by simp only [List.length_append, encHold_len]; omega) (by simp only [List.length_append, List.length_drop, encHold_len]; omega)
  have hgr : w.grownBy (W1.setRow g (cur1.toArray.toList.take (i * 3) ++ encHold x ++ cur1.toArray.toList.drop (i * 3 + (encHold x).length)).toArray) (some g) := grownBy_transZ gr1 (grownBy_setRow _ _ _)
  obtain ⟨W2, hW2⟩ : ∃ W2, W2 = W1.setRow g (cur1.toArray.toList.take (i * 3) ++ encHold x ++ cur1.toArray.toList.drop (i * 3 + (encHold x).length)).toArray := ⟨_, rfl⟩
  rw [← hW2] at hcp2 hfin hgr
  have hov : ∀ lb cb, (callFunc 224 #[.slice (some ⟨vb, 0, none⟩) 1 1, .slice (some ⟨g, (i + 1) * 3, none⟩) lb cb]).run Tryz.prog w = .ok (.value (.bool false)) w := fun lb cb => overH_any vb g _ lb cb _ _ w hvb hv hg (by simp only [List.size_toArray]; omega)
  have hb2 : ¬ (cap = i + 1) := by omega
  have hb4 : ¬ (cap = i) := by omega
  have htn : ((i : Int) + 1).toNat = i + 1 := by omega
  have hw1 : IntKind.i64.wrap ((i : Int) + 1) = (i : Int) + 1 := by rw [IntKind.wrap_i64]; omega
  have hbi : (0 : Int) ≤ (i : Int) + 1 := by omega
  have hb3 : (i : Int) ≤ (n : Int) + 1 := by omega
  have hin : i ≤ n := by omega
  have HC1 := Lib.hid hcp1
  have HC2 := Lib.hid hcp2
  have HF := Lib.hid hfin
  have HGR := Lib.hid hgr
  clear hcp1 hcp2 hfin hgr hW2 hW1 hcur1 lc1 hv1 gr1 hg1 gd hcur o2 hfl l1 l2 hX1 hX2 hrl hg hv hl hl2 hsz
  go_enter Tryz.func219, Tryz.ntmps219
  go_wp2_with (simp only [hov])
  go_region_law (refine step_copy_runZ rfl (.tmp 73) (.tmp 76) 28 28 rfl (.slice (some ⟨g, (i + 1) * 3, none⟩) (n - i) (cap - (i + 1))) (.slice (some ⟨g, i * 3, none⟩) (n + 1 - i) (cap - i)) (by simp [Act.eval, Act.put]) (by simp [Act.eval, Act.put]) (HC1.out 3 (cap - (i + 1)) (cap - i)) ?_)
  go_wp2_with (refine wpList_copy_runZ _ rfl (.tmp 80) (.tmp 81) 28 28 rfl (.slice (some ⟨g, i * 3, none⟩) (n + 1 - i) (cap - i)) (.slice (some ⟨vb, 0, none⟩) 1 1) rfl rfl (HC2.out 3 (cap - i)) ?_)
  go_ret
  exact ⟨_, rfl, HF.out, HGR.out⟩
set_option maxHeartbeats 4000000 in
set_option maxRecDepth 100000 in
theorem insH_grow (base g n i vb : Nat) (L1 L2 : List Hold) (x : Hold) (w : World) (hi : i < n) (hn : n ≤ 1000000) (hl : L1.length = i) (hl2 : L2.length = n - i) (hvb : vb ≠ g) (hbase : base ≤ w.heap.size)
    (hg : w.heap[g]? = some (.cells (flatE encHold L1 ++ flatE encHold L2).toArray 127 (0, 0)))
    (hv : w.heap[vb]? = some (.cells (encHold x).toArray 127 (0, 0))) :
    Calls Tryz.prog 219 #[.slice (some ⟨g, 0, none⟩) n n, .int .i64 i, .slice (some ⟨vb, 0, none⟩) 1 1] w fun e w' => ∃ v', e = .returned v' ∧ w'.ownsRow base 127 3 v' (n + 1) (flatE encHold (L1 ++ x :: L2)) ∧ w.grownBy w' (some g) := by
  have hsz : (Tryz.prog.info? 127).map (·.size) = some 3 := by kernel_rfl
  obtain ⟨i1, hi1, hz0, hz1, hz2⟩ := info_parts infoHold
  have hkint : ∃ k, Tryz.prog.underlying 3 = some (.int k) := ⟨_, Tryz.underlying3⟩
  obtain ⟨kn, hkn⟩ := hkint
  obtain ⟨X1, hX1⟩ : ∃ X, flatE encHold L1 = X := ⟨_, rfl⟩
  obtain ⟨X2, hX2⟩ : ∃ X, flatE encHold L2 = X := ⟨_, rfl⟩
  have l1 : X1.length = i * 3 := by rw [← hX1, flatE_length encHold_len, hl]
  have l2 : X2.length = (n - i) * 3 := by rw [← hX2, flatE_length encHold_len, hl2]
  have hfl : flatE encHold (L1 ++ x :: L2) = X1 ++ (encHold x ++ X2) := by rw [← hX1, ← hX2]; simp [flatE]
  have o2 : ∀ u ∈ X2, u.oneCell' = true := by rw [← hX2]; exact oneE oneHold L2
  rw [hX1, hX2] at hg
  rw [hfl]
  have hgN : g < w.heap.size := (Array.getElem?_eq_some_iff.1 hg).1
  have hvN : vb < w.heap.size := (Array.getElem?_eq_some_iff.1 hv).1
  have hik : i + (n + 1 - i) = n + 1 := by omega
  have hkk : (n : Int) + 1 - (i : Int) = ((n + 1 - i : Nat) : Int) := by omega
  have hold : (Builtin.firstCells i1.size i (.slice (some ⟨g, 0, none⟩) i n)).run Tryz.prog w.drew = .ok X1.toArray w.drew := by
    rw [hz1]
    exact run_firstCells_some w.drew 3 i ⟨g, 0, none⟩ i n X1 l1 (fun j u hj => by
      rw [add_litZ, Nat.zero_add]
      have hj2 : j < X1.length := (List.getElem?_eq_some_iff.1 hj).1
      exact cell_whole (w := w) hg (by rw [List.getElem?_append_left hj2]; exact hj))
  obtain ⟨G, hG⟩ : ∃ G, G = grownCap w (n + 1) n 127 := ⟨_, rfl⟩
  have hGn : n + 1 ≤ G := by rw [hG]; exact grownCap_ge w _ _ _
  have hGm : G ≤ maxLen := by rw [hG]; exact grownCap_le_maxLen w (n + 1) n 127 (by unfold maxLen; omega)
  have hG63 := hGm
  unfold maxLen at hG63
  obtain ⟨Z, hZ⟩ : ∃ Z : Value, Z = .agg #[.int .i64 0, .int .i64 0, .int .i64 0] := ⟨_, rfl⟩
  have hzc : Z.cells.size = 3 := by rw [hZ]; rfl
  obtain ⟨W0, hW0⟩ : ∃ W0, W0 = w.drew.alloc (.cells (X1.toArray ++ Builtin.zeroCells Z.cells (n + 1 - i) ++ Builtin.zeroCells Z.cells (G - (n + 1))) 127) := ⟨_, rfl⟩
  have hrz : ∀ ty, (Builtin.append_ #[28, 3] ty #[.slice (some ⟨g, 0, none⟩) i n, .int .i64 ((n : Int) + 1 - (i : Int))]).run Tryz.prog w = .ok (.slice (some ⟨w.heap.size, 0, none⟩) (n + 1) G) W0 := fun ty => by
    have q := Lib.run_append_grow_zeros w 28 3 ty 127 i1 Z .i64 kn Tryz.underlying28 hkn hi1 (by rw [hz0, hZ]) (some ⟨g, 0, none⟩) i n X1 hold (n + 1 - i) (by omega) (by omega) (by omega) (by omega) (by rw [hz2]; omega) (by rw [hz2, hik]; exact growslice_fits (by omega) (by omega))
    rw [hik, ← hG] at q
    rw [hkk, hW0]
    exact q
  obtain ⟨R0, hR0⟩ : ∃ R0 : List Value, R0 = (Builtin.zeroCells Z.cells (n + 1 - i)).toList ++ (Builtin.zeroCells Z.cells (G - (n + 1))).toList := ⟨_, rfl⟩
  have lR0 : R0.length = (G - i) * 3 := by rw [hR0, List.length_append, Array.length_toList, Array.length_toList, size_zeroCells, size_zeroCells, hzc, ← Nat.add_mul]; congr 1; omega
  have g0 : W0.heap[w.heap.size]? = some (.cells (X1 ++ R0).toArray 127 (0, 0)) := by
    rw [hW0, hR0]
    have q := heap_alloc_new w.drew (.cells (X1.toArray ++ Builtin.zeroCells Z.cells (n + 1 - i) ++ Builtin.zeroCells Z.cells (G - (n + 1))) 127)
    refine Eq.trans q ?_
    congr 2
    apply Array.toList_inj.1
    simp
  have gr0 : w.grownBy W0 (some g) := by
    rw [hW0]
    have q := World.grownBy_alloc w.drew (.cells (X1.toArray ++ Builtin.zeroCells Z.cells (n + 1 - i) ++ Builtin.zeroCells Z.cells (G - (n + 1))) 127) (some g)
    exact ⟨q.os, q.tape, q.output, q.size, q.block⟩
  have og0 : W0.heap[g]? = some (.cells (X1 ++ X2).toArray 127 (0, 0)) := by
    rw [hW0]
    exact (heap_alloc_old w.drew _ hgN).trans hg
  have ov0 : W0.heap[vb]? = some (.cells (encHold x).toArray 127 (0, 0)) := (gr0.block vb hvN (by simpa using hvb)).trans hv
  -- the first copy
  obtain ⟨W1, hW1⟩ : ∃ W1, W1 = W0.setRow w.heap.size ((X1 ++ R0).toArray.toList.take (i * 3) ++ encHold x ++ (X1 ++ R0).toArray.toList.drop (i * 3 + (encHold x).length)).toArray := ⟨_, rfl⟩
  have hcp1 : ∀ ty dc, (Builtin.copy_ #[28, 28] ty #[.slice (some ⟨w.heap.size, i * 3, none⟩) (n + 1 - i) dc, .slice (some ⟨vb, 0, none⟩) 1 1]).run Tryz.prog W0 = .ok (goInt (1 : Nat)) W1 := fun ty dc => by
    rw [hW1]
    exact run_copy_rowZ W0 _ _ ty 127 w.heap.size (i * 3) (n + 1 - i) dc ⟨vb, 0, none⟩ 1 1 (X1 ++ R0).toArray 127 (encHold x) 3 1 Tryz.underlying28 hsz g0 (by simp only [Nat.min_def]; split <;> omega) rfl (fun j u hj => by rw [add_litZ, Nat.zero_add]; exact cell_whole ov0 hj) (by simp only [List.size_toArray, encHold_len, List.length_append]; omega) (oneHold x)
  have e1 : (X1 ++ R0).toArray.toList.take (i * 3) ++ encHold x ++ (X1 ++ R0).toArray.toList.drop (i * 3 + (encHold x).length) = X1 ++ encHold x ++ R0.drop (encHold x).length := by
    rw [List.toList_toArray, ← l1, List.take_left, List.drop_append]
    simp
  have g1 : W1.heap[w.heap.size]? = some (.cells (X1 ++ encHold x ++ R0.drop (encHold x).length).toArray 127 (0, 0)) := by rw [hW1, ← e1]; exact heap_setRow g0
  have gr1 : W0.grownBy W1 (some w.heap.size) := by rw [hW1]; exact grownBy_setRow _ _ _
  have og1 : W1.heap[g]? = some (.cells (X1 ++ X2).toArray 127 (0, 0)) := (gr1.block g (Nat.lt_of_lt_of_le hgN gr0.size) (by simp; omega)).trans og0
  -- the second copy
  obtain ⟨W2, hW2⟩ : ∃ W2, W2 = W1.drew.setRow w.heap.size ((X1 ++ encHold x ++ R0.drop (encHold x).length).toArray.toList.take ((i + 1) * 3) ++ X2 ++ (X1 ++ encHold x ++ R0.drop (encHold x).length).toArray.toList.drop ((i + 1) * 3 + X2.length)).toArray := ⟨_, rfl⟩
  have hcp2 : ∀ ty dc sc, (Builtin.copy_ #[28, 28] ty #[.slice (some ⟨w.heap.size, (i + 1) * 3, none⟩) (n - i) dc, .slice (some ⟨g, i * 3, none⟩) (n - i) sc]).run Tryz.prog W1.drew = .ok (goInt (n - i : Nat)) W2 := fun ty dc sc => by
    rw [hW2]
    refine run_copy_rowZ W1.drew _ _ ty 127 w.heap.size ((i + 1) * 3) (n - i) dc ⟨g, i * 3, none⟩ (n - i) sc (X1 ++ encHold x ++ R0.drop (encHold x).length).toArray 127 X2 3 (n - i) Tryz.underlying28 hsz g1 (by simp only [Nat.min_def]; split <;> omega) l2 (fun j u hj => ?_) (by simp only [List.size_toArray, encHold_len, List.length_append, List.length_drop]; omega) o2
    rw [add_litZ]
    exact cell_whole (w := W1) og1 (by rw [← l1, List.getElem?_append_right (by omega), Nat.add_sub_cancel_left]; exact hj)
  have e2 : (X1 ++ encHold x ++ R0.drop (encHold x).length).toArray.toList.take ((i + 1) * 3) ++ X2 ++ (X1 ++ encHold x ++ R0.drop (encHold x).length).toArray.toList.drop ((i + 1) * 3 + X2.length) = X1 ++ (encHold x ++ X2) ++ (X1 ++ encHold x ++ R0.drop (encHold x).length).drop ((i + 1) * 3 + X2.length) := by
    have el : (X1 ++ encHold x).length = (i + 1) * 3 := by simp only [List.length_append, encHold_len]; omega
    rw [List.toList_toArray, ← el, List.take_left]
    simp
  have g2 : W2.heap[w.heap.size]? = some (.cells (X1 ++ (encHold x ++ X2) ++ (X1 ++ encHold x ++ R0.drop (encHold x).length).drop ((i + 1) * 3 + X2.length)).toArray 127 (0, 0)) := by rw [hW2, ← e2]; exact heap_setRow (w := W1.drew) g1
  have gr2 : W1.grownBy W2 (some w.heap.size) := by
    rw [hW2]
    have q := grownBy_setRow W1.drew w.heap.size ((X1 ++ encHold x ++ R0.drop (encHold x).length).toArray.toList.take ((i + 1) * 3) ++ X2 ++ (X1 ++ encHold x ++ R0.drop (encHold x).length).toArray.toList.drop ((i + 1) * 3 + X2.length)).toArray
    exact ⟨q.os, q.tape, q.output, q.size, q.block⟩
  have hF : W2.ownsRow base 127 3 (.slice (some ⟨w.heap.size, 0, none⟩) (n + 1) G) (n + 1) (X1 ++ (encHold x ++ X2)) := own_mk hbase g2 hGn hGm (by simp only [List.length_append, encHold_len]; omega) (by simp only [List.length_append, List.length_drop, encHold_len]; omega)
  have hGR : w.grownBy W2 (some g) := by
    have q := grownBy_transZ gr1 gr2
    exact ⟨q.os.trans gr0.os, q.tape.trans gr0.tape, q.output.trans gr0.output, Nat.le_trans gr0.size q.size, fun k hk hne => (q.block k (Nat.lt_of_lt_of_le hk gr0.size) (by simp; omega)).trans (gr0.block k hk hne)⟩
  have hGi : ¬ (G = i) := by omega
  have hGim : ¬ (G = i + 1) := by omega
  have hci : ¬ (n = i) := by omega
  have htn : ((i : Int) + 1).toNat = i + 1 := by omega
  have hw1 : IntKind.i64.wrap ((i : Int) + 1) = (i : Int) + 1 := by rw [IntKind.wrap_i64]; omega
  have hbi : (0 : Int) ≤ (i : Int) + 1 := by omega
  have hin : i ≤ n := by omega
  have hin1 : (i : Int) ≤ n := by omega
  have hz3 : (n : Int) < (n : Int) + 1 := by omega
  have HZ := Lib.hid hrz
  have HC1 := Lib.hid hcp1
  have HC2 := Lib.hid hcp2
  have HF := Lib.hid hF
  have HGR := Lib.hid hGR
  clear hrz hcp1 hcp2 hF hGR hW2 hW1 hW0 e1 e2 g1 g2 gr0 gr1 gr2 og0 og1 ov0 g0 lR0 hR0 hzc hZ hG hGm hold hkk hik o2 hfl l1 l2 hX1 hX2 hg hv hl hl2 hsz hz0 hz1 hz2 hi1 hkn
  go_enter Tryz.func219, Tryz.ntmps219
  go_wp2_with (first
    | (at_builtin; refine Lib.wpList_append_run _ rfl (.tmp 34) (.tmp 39) 28 3 rfl (.slice (some ⟨g, 0, none⟩) i n) (.int .i64 ((n : Int) + 1 - (i : Int))) rfl rfl (.slice (some ⟨w.heap.size, 0, none⟩) (n + 1) G) W0 (HZ.out 28) ?_)
    | (refine wpList_copy_runZ _ rfl (.tmp 43) (.tmp 44) 28 28 rfl (.slice (some ⟨w.heap.size, i * 3, none⟩) (n + 1 - i) (G - i)) (.slice (some ⟨vb, 0, none⟩) 1 1) rfl rfl (HC1.out 3 (G - i)) ?_))
  go_region_law (refine step_copy_runZ rfl (.tmp 50) (.tmp 53) 28 28 rfl (.slice (some ⟨w.heap.size, (i + 1) * 3, none⟩) (n - i) (G - (i + 1))) (.slice (some ⟨g, i * 3, none⟩) (n - i) (n - i)) (by simp [Act.eval, Act.put]) (by simp [Act.eval, Act.put]) (HC2.out 3 (G - (i + 1)) (n - i)) ?_)
  go_wp2
  go_ret
  exact ⟨_, rfl, HF.out, HGR.out⟩
/-- an element is put in -/
theorem insH_any (base : Nat) (v : Value) (n i vb : Nat) (L : List Hold) (x : Hold) (w : World) (hown : w.ownsRow base 127 3 v n (flatE encHold L)) (hn : n ≤ 1000000) (hi : i ≤ n) (hl : L.length = n) (hbase : base ≤ w.heap.size)
    (hv : w.heap[vb]? = some (.cells (encHold x).toArray 127 (0, 0))) (hvb : v.ownBlock ≠ some vb) :
    Calls Tryz.prog 219 #[v, .int .i64 i, .slice (some ⟨vb, 0, none⟩) 1 1] w fun e w' => ∃ v', e = .returned v' ∧ w'.ownsRow base 127 3 v' (n + 1) (flatE encHold (L.take i ++ x :: L.drop i)) ∧ w.grownBy w' v.ownBlock := by
  by_cases hin : i = n
  · subst hin
    rw [List.take_of_length_le (by omega), List.drop_of_length_le (by omega)]
    exact insH_end base v i vb L x w hown hn hl hbase hv
  · obtain ⟨g, cap, rest, rfl, hbg, hg, hnc, hcm, hxl, hrl⟩ := own_whole hown (by omega)
    have hs : flatE encHold (L.take i) ++ flatE encHold (L.drop i) = flatE encHold L := by rw [← flatE_append, List.take_append_drop]
    have hne : vb ≠ g := fun h => hvb (by simp [Value.ownBlock, h])
    by_cases hr : n + 1 ≤ cap
    · exact insH_shift base g cap n i vb (L.take i) (L.drop i) x rest w (by omega) hn (by simp; omega) (by simp; omega) hr hcm hne hbg (by rw [hs]; exact hg) (by rw [hs]; exact hrl) hv
    · have hcn : cap = n := by omega
      subst hcn
      have hrest : rest = [] := by
        apply List.eq_nil_of_length_eq_zero
        simp only [List.length_append] at hrl
        omega
      subst hrest
      rw [List.append_nil] at hg
      exact insH_grow base g cap i vb (L.take i) (L.drop i) x w (by omega) hn (by simp; omega) (by simp; omega) hne hbase (by rw [hs]; exact hg) hv
set_option maxHeartbeats 4000000 in
set_option maxRecDepth 100000 in
theorem delH_any (base : Nat) (v : Value) (n i : Nat) (L1 L2 : List Hold) (y : Hold) (w : World) (hown : w.ownsRow base 127 3 v n (flatE encHold (L1 ++ y :: L2))) (hn : n ≤ 1000000) (hl : L1.length = i) (hl2 : L2.length + i + 1 = n) :
    Calls Tryz.prog 220 #[v, .int .i64 i, .int .i64 ((i : Int) + 1)] w fun e w' => ∃ v', e = .returned v' ∧ w'.ownsRow base 127 3 v' (n - 1) (flatE encHold (L1 ++ L2)) ∧ w.grownBy w' v.ownBlock := by
  obtain ⟨g, cap, rest, rfl, hbg, hg, hnc, hcm, hxl, hrl⟩ := own_whole hown (by omega)
  have hcm' := hcm
  unfold maxLen at hcm
  obtain ⟨i1, hi1, hz0, hz1, hz2⟩ := info_parts infoHold
  obtain ⟨X1, hX1⟩ : ∃ X, flatE encHold L1 = X := ⟨_, rfl⟩
  obtain ⟨X2, hX2⟩ : ∃ X, flatE encHold L2 = X := ⟨_, rfl⟩
  have l1 : X1.length = i * 3 := by rw [← hX1, flatE_length encHold_len, hl]
  have l2 : X2.length = (n - (i + 1)) * 3 := by rw [← hX2, flatE_length encHold_len]; congr 1; omega
  have hfl : flatE encHold (L1 ++ y :: L2) = X1 ++ (encHold y ++ X2) := by rw [← hX1, ← hX2]; simp [flatE]
  have hfl2 : flatE encHold (L1 ++ L2) = X1 ++ X2 := by rw [← hX1, ← hX2]; simp [flatE]
  have o2 : ∀ u ∈ X2, u.oneCell' = true := by rw [← hX2]; exact oneE oneHold L2
  have lE : (encHold y).length = 3 := rfl
  obtain ⟨Y, hY⟩ : ∃ Y, encHold y = Y := ⟨_, rfl⟩
  rw [hfl] at hg hrl
  rw [hfl2]
  rw [hY] at hg hrl lE
  have hown' := hown
  rw [hfl, hY] at hown'
  obtain ⟨cur, hcur⟩ : ∃ c, X1 ++ (Y ++ X2) ++ rest = c := ⟨_, rfl⟩
  rw [hcur] at hg hrl
  have gd : w.drew.heap[g]? = some (.cells cur.toArray 127 (0, 0)) := hg
  obtain ⟨W1, hW1⟩ : ∃ W1, W1 = w.drew.setRow g ((cur.toArray.toList.take (i * i1.size) ++ X2 ++ cur.toArray.toList.drop (i * i1.size + X2.length)).toArray) := ⟨_, rfl⟩
  have hap : ∀ ty a dc, (X2.length ≠ 0 → a = ⟨g, (i + 1) * 3, none⟩) → (Builtin.append_ #[28, 28] ty #[.slice (some ⟨g, 0, none⟩) i cap, .slice (some a) (n - (i + 1)) dc]).run Tryz.prog w.drew = .ok (.slice (some ⟨g, 0, none⟩) (i + (n - (i + 1))) cap) W1 := fun ty a dc ha => by
    rw [hW1]
    refine run_append_room w.drew 28 ty 127 i1 Tryz.underlying28 hi1 g i cap cur.toArray gd a (n - (i + 1)) dc X2 (by rw [hz1]; exact l2) (fun j u hj => ?_) o2 (by omega) (by rw [hz1]; simp only [List.size_toArray]; omega)
    have hj2 : j < X2.length := (List.getElem?_eq_some_iff.1 hj).1
    rw [ha (by omega), add_litZ]
    refine cell_whole gd ?_
    rw [← hcur, List.append_assoc, List.getElem?_append_right (by omega), l1, List.append_assoc, List.getElem?_append_right (by omega), lE, List.getElem?_append_left (by omega), show (i + 1) * 3 + j - i * 3 - 3 = j by omega]
    exact hj
  have e1 : cur.toArray.toList.take (i * i1.size) ++ X2 ++ cur.toArray.toList.drop (i * i1.size + X2.length) = (X1 ++ X2) ++ cur.drop (i * 3 + X2.length) := by
    rw [hz1, List.toList_toArray, ← l1, ← hcur, List.append_assoc X1, List.take_left]
  obtain ⟨D, hD⟩ : ∃ D, cur.drop (i * 3 + X2.length) = D := ⟨_, rfl⟩
  have lD : D.length + i * 3 + X2.length = cap * 3 := by rw [← hD, List.length_drop]; omega
  rw [hD] at e1
  have g1 : W1.heap[g]? = some (.cells ((X1 ++ X2) ++ D).toArray 127 (0, 0)) := by rw [hW1, ← e1]; exact heap_setRow gd
  have gr1 : w.grownBy W1 (some g) := by
    have q := grownBy_setRow w.drew g ((cur.toArray.toList.take (i * i1.size) ++ X2 ++ cur.toArray.toList.drop (i * i1.size + X2.length)).toArray)
    rw [hW1]; exact ⟨q.os, q.tape, q.output, q.size, q.block⟩
  obtain ⟨Z, hZ⟩ : ∃ Z : Value, Z = .agg #[.int .i64 0, .int .i64 0, .int .i64 0] := ⟨_, rfl⟩
  have hzl : (Builtin.zeroCells Z.cells 1).toList.length = 3 := by rw [Array.length_toList, size_zeroCells, hZ]; rfl
  have hzo : ∀ u ∈ (Builtin.zeroCells Z.cells 1).toList, u.oneCell' = true := by
    rw [hZ]
    intro u hu
    have : (Builtin.zeroCells (Value.agg #[.int .i64 0, .int .i64 0, .int .i64 0]).cells 1).toList = [.int .i64 0, .int .i64 0, .int .i64 0] := by simp [Builtin.zeroCells, Value.cells, List.range_succ]
    rw [this] at hu
    simp only [List.mem_cons, List.not_mem_nil, or_false] at hu
    rcases hu with rfl | rfl | rfl <;> rfl
  obtain ⟨W2, hW2⟩ : ∃ W2, W2 = W1.setRow g (((X1 ++ X2) ++ D).toArray.toList.take ((n - 1) * 3) ++ (Builtin.zeroCells Z.cells 1).toList ++ ((X1 ++ X2) ++ D).toArray.toList.drop ((n - 1) * 3 + (Builtin.zeroCells Z.cells 1).toList.length)).toArray := ⟨_, rfl⟩
  have hcl : ∀ ty dc, (Builtin.clear_ #[28] ty #[.slice (some ⟨g, (n - 1) * 3, none⟩) 1 dc]).run Tryz.prog W1 = .ok (.tuple #[]) W2 := fun ty dc => by
    rw [hW2]
    exact run_clear_rowZ W1 28 127 ty i1 Z g ((n - 1) * 3) 1 dc _ 127 Tryz.underlying28 hi1 (by rw [hz0, hZ]) g1 (by rw [hzl]; simp only [List.size_toArray, List.length_append]; omega) hzo
  have e2 : ((X1 ++ X2) ++ D).toArray.toList.take ((n - 1) * 3) ++ (Builtin.zeroCells Z.cells 1).toList ++ ((X1 ++ X2) ++ D).toArray.toList.drop ((n - 1) * 3 + (Builtin.zeroCells Z.cells 1).toList.length) = (X1 ++ X2) ++ ((Builtin.zeroCells Z.cells 1).toList ++ D.drop (Builtin.zeroCells Z.cells 1).toList.length) := by
    have el : (X1 ++ X2).length = (n - 1) * 3 := by simp only [List.length_append]; omega
    rw [List.toList_toArray, ← el, List.take_left, List.drop_append]
    simp
  have g2 : W2.heap[g]? = some (.cells ((X1 ++ X2) ++ ((Builtin.zeroCells Z.cells 1).toList ++ D.drop (Builtin.zeroCells Z.cells 1).toList.length)).toArray 127 (0, 0)) := by rw [hW2, ← e2]; exact heap_setRow g1
  have hF : W2.ownsRow base 127 3 (.slice (some ⟨g, 0, none⟩) (n - 1) cap) (n - 1) (X1 ++ X2) := own_mk hbg g2 (by omega) hcm' (by simp only [List.length_append]; omega) (by simp only [List.length_append, List.length_drop]; omega)
  have hGR : w.grownBy W2 (some g) := by rw [hW2]; exact grownBy_transZ gr1 (grownBy_setRow _ _ _)
  have hin : i + (n - (i + 1)) = n - 1 := by omega
  rw [hin] at hap
  have hX2l : X2.length ≠ 0 → i + 1 < n := by omega
  have HA := Lib.hid hap
  have HC := Lib.hid hcl
  have HF := Lib.hid hF
  have HGR := Lib.hid hGR
  have H2 := Lib.hid l2
  have hil : i < n := by omega
  clear hap hcl hF hGR hW2 hW1 e1 e2 g1 g2 gr1 hD lD hzl hzo hZ hin gd hcur hown hown' hY lE o2 hfl hfl2 l1 l2 hX1 hX2 hg hrl hl hl2 hxl hz0 hz1 hz2 hi1
  have htn : ((i : Int) + 1).toNat = i + 1 := by omega
  have hbi : (0 : Int) ≤ (i : Int) + 1 := by omega
  have hcn : ¬ (cap = n - 1) := by omega
  have hn1 : i + 1 ≤ n := by omega
  have hn2 : (i : Int) + 1 ≤ n := by omega
  have hni : ¬ (n = i) := by omega
  have hnn : n - (n - 1) = 1 := by omega
  have hz0 : ¬ (n - 1 = cap) := by omega
  have hii : i < n := by omega
  have hic : i ≤ cap := by omega
  have hcast : ((n : Int) - 1) = ((n - 1 : Nat) : Int) := by omega
  by_cases hcap : cap = i + 1
  · have hif : (cap = i + 1) = True := eq_true hcap
    have HCAP := Lib.hid hcap
    clear hcap
    go_enter Tryz.func220, Tryz.ntmps220
    go_wp2
    go_region_law (refine step_append_runZ rfl (.tmp 22) (.tmp 25) 28 28 rfl (.slice (some ⟨g, 0, none⟩) i cap) (.slice (some ⟨g, 0, none⟩) (n - (i + 1)) (cap - (i + 1))) (by simp [Act.eval, Act.put]) (by simp [Act.eval, Act.put]) (HA.out 28 ⟨g, 0, none⟩ (cap - (i + 1)) (fun h => absurd (hX2l h) (by have := HCAP.out; clear hif; omega))) ?_)
    go_wp2_with (refine wpList_clear_runZ _ rfl (.tmp 31) 28 rfl (.slice (some ⟨g, (n - 1) * 3, none⟩) 1 (cap - (n - 1))) rfl (HC.out 0 (cap - (n - 1))) ?_)
    go_ret
    exact ⟨_, rfl, HF.out, HGR.out⟩
  · go_enter Tryz.func220, Tryz.ntmps220
    go_wp2
    go_region_law (refine step_append_runZ rfl (.tmp 22) (.tmp 25) 28 28 rfl (.slice (some ⟨g, 0, none⟩) i cap) (.slice (some ⟨g, (i + 1) * 3, none⟩) (n - (i + 1)) (cap - (i + 1))) (by simp [Act.eval, Act.put]) (by simp [Act.eval, Act.put]) (HA.out 28 ⟨g, (i + 1) * 3, none⟩ (cap - (i + 1)) (fun _ => rfl)) ?_)
    go_wp2_with (refine wpList_clear_runZ _ rfl (.tmp 31) 28 rfl (.slice (some ⟨g, (n - 1) * 3, none⟩) 1 (cap - (n - 1))) rfl (HC.out 0 (cap - (n - 1))) ?_)
    go_ret
    exact ⟨_, rfl, HF.out, HGR.out⟩
end Go.Proofs.YthhoaefadfeknaaGreat
namespace Go.Proofs.YthhoaefadfeknaaGreat
open Go.RowKit
set_option linter.unusedVariables false
set_option linter.unusedSimpArgs false

theorem outH_take_le {L : List Hold} (hp : ∀ x ∈ L, 0 < x.a) (s : Int) (k : Nat) : 0 ≤ outH (L.take k) s ∧ outH (L.take k) s ≤ outH L s := by
  have h1 := outH_nonneg (L := L.take k) (fun x hx => hp x (List.mem_of_mem_take hx)) s
  have h2 := outH_nonneg (L := L.drop k) (fun x hx => hp x (List.mem_of_mem_drop hx)) s
  have h3 := outH_append (L.take k) (L.drop k) s
  rw [List.take_append_drop] at h3
  omega
set_option maxHeartbeats 1000000 in
theorem outst_any (P : Nat → Prop) (cb : Nat) (v : Value) (L : List Hold) (s : Int) (w : World) (hv : w.cell? ⟨cb, 1, none⟩ = some v) (hS : Sl 3 encHold P w v L) (hok : HsOk L) (hlen : L.length ≤ 1000000) :
    Calls Tryz.prog 174 #[.pointer (some ⟨cb, 0, none⟩), .int .i64 s] w fun e w' => e = .returned (.int .i64 (outH L s)) ∧ Below w.heap.size w w' := by
  obtain ⟨ao, n, c, rfl, hn, hnc, hcm⟩ := hS.shape
  have hn1 : n ≤ 1000000 := by omega
  have HS := Lib.hid hS
  have HN := Lib.hid hn
  have HK := Lib.hid hok
  clear hS hn hlen hok
  go_enter Tryz.func174, Tryz.ntmps174
  go_wp2
  go_loopw [5, 13] (fun sv iv wr => ∃ k : Nat, k ≤ n ∧ iv = .int .i64 k ∧ sv = .int .i64 (outH (L.take k) s) ∧ Below w.heap.size w wr) (fun _ iv _ => n - (intOf iv).toNat)
  case atStart => exact ⟨0, by omega, rfl, rfl, brefl⟩
  case round =>
    obtain ⟨k, hk, rfl, rfl, hbr⟩ := hrel
    have zr := hbr.size
    obtain ⟨sb0, sb1⟩ := outH_take_le HK.out.pos s k
    have sb2 := HK.out.out s
    by_cases hlt : k < n
    · obtain ⟨b, off, vs, vh, va, rfl, -, hb', hL, k0, k1, k2⟩ := (HS.out.below hbr).hold hlt
      obtain ⟨tb0, tb1⟩ := outH_take_le HK.out.pos s (k + 1)
      rw [take_snocZ hL, outH_append] at tb0 tb1
      have HT := Lib.hid (take_snocZ hL)
      obtain ⟨S, hSs⟩ : ∃ S, outH (L.take k) s = S := ⟨_, rfl⟩
      rw [hSs] at sb0 sb1 tb0 tb1
      have HSS := Lib.hid hSs
      rw [hSs]
      simp only [outH, Int.add_zero] at tb0 tb1
      have hpos := Lib.hid (HK.out.pos _ (List.mem_of_getElem? hL))
      clear hL hSs
      by_cases hq : vs = s
      · rw [if_pos hq] at tb0 tb1
        have HR := Lib.hid (show outH (L.take (k + 1)) s = S + va by rw [HT.out, outH_append, HSS.out]; simp [outH, hq])
        subst hq
        go_wp2
        go_roundw
        case rel => exact ⟨k + 1, by omega, by go_num, by rw [HR.out], bal hbr _⟩
        case measure => simp [intOf]; omega
      · have HR := Lib.hid (show outH (L.take (k + 1)) s = S by rw [HT.out, outH_append, HSS.out]; simp [outH, hq])
        have hq' : (vs == s) = false := by simpa using hq
        go_wp2
        go_roundw
        case rel => exact ⟨k + 1, by omega, by go_num, by rw [HR.out], bal hbr _⟩
        case measure => simp [intOf]; omega
    · have hfin := Lib.hid (show outH (L.take k) s = outH L s by rw [take_all (by have := HN.out; omega)])
      rw [hfin.out]
      go_wp2
      go_ret
      exact ⟨rfl, hbr⟩
set_option maxHeartbeats 1000000 in
theorem strange_any (num day kind s f t a : Int) (w : World) :
    Calls Tryz.prog 207 #[.agg #[.int .i64 num, .int .i64 day, .int .i64 kind, .int .i64 s, .int .i64 f, .int .i64 t, .int .i64 a]] w fun e w' => e = .returned (.bool (strangeB ⟨num, day, kind, s, f, t, a⟩)) ∧ Below w.heap.size w w' := by
  obtain ⟨x, hx⟩ : ∃ x, inB f 1 1000 = x := ⟨_, rfl⟩
  obtain ⟨y, hy⟩ : ∃ y, inB t 1 1000 = y := ⟨_, rfl⟩
  have HX := Lib.hid hx
  have HY := Lib.hid hy
  obtain ⟨r, hr⟩ : ∃ r, strangeB ⟨num, day, kind, s, f, t, a⟩ = r := ⟨_, rfl⟩
  have hr' := hr
  unfold strangeB at hr'
  simp only [hx, hy] at hr'
  have HR := Lib.hid hr'
  rw [hr]
  clear hx hy hr hr'
  by_cases h1 : kind = 1
  · subst h1
    rw [if_pos rfl] at HR
    by_cases hf : f = 0
    · have hfb : (f != 0) = false := by simpa using hf
      rw [hfb] at HR
      subst hf
      cases y
      all_goals
        go_enter Tryz.func207, Tryz.ntmps207
        go_wp2
        go_quiet ((go_at_call 218; refine (regholder_any _ _).mono ?_; (first | rw [HX.out] | rw [HY.out]); exact fun _ _ hh => ⟨hh.1, _, hh.2.symm⟩))
        go_wp2
        go_ret
        exact ⟨ret_bool HR.out, below_drewZ (bal brefl _) _⟩
    · have hfb : (f != 0) = true := by simpa using hf
      have hfb' : (f == 0) = false := by simpa using hf
      rw [hfb] at HR
      go_enter Tryz.func207, Tryz.ntmps207
      go_wp2
      go_quiet ((go_at_call 218; refine (regholder_any _ _).mono ?_; (first | rw [HX.out] | rw [HY.out]); exact fun _ _ hh => ⟨hh.1, _, hh.2.symm⟩))
      go_wp2
      go_ret
      exact ⟨ret_bool HR.out, below_drewZ (bal brefl _) _⟩
  · have k1 : (kind == 1) = false := by simpa using h1
    rw [if_neg h1] at HR
    by_cases h2 : kind = 2
    · subst h2
      rw [if_pos rfl] at HR
      cases x
      · go_enter Tryz.func207, Tryz.ntmps207
        go_wp2
        go_quiet ((go_at_call 218; refine (regholder_any _ _).mono ?_; (first | rw [HX.out] | rw [HY.out]); exact fun _ _ hh => ⟨hh.1, _, hh.2.symm⟩))
        go_wp2
        go_ret
        exact ⟨ret_bool HR.out, below_drewZ (bal brefl _) _⟩
      · cases y
        · go_enter Tryz.func207, Tryz.ntmps207
          go_wp2
          go_quiet ((go_at_call 218; refine (regholder_any _ _).mono ?_; (first | rw [HX.out] | rw [HY.out]); exact fun _ _ hh => ⟨hh.1, _, hh.2.symm⟩))
          go_wp2
          go_ret
          exact ⟨ret_bool HR.out, below_drewZ (bal brefl _) _⟩
        · by_cases he : f = t
          · have he' : (f == t) = true := by simpa using he
            rw [he'] at HR
            go_enter Tryz.func207, Tryz.ntmps207
            go_wp2
            go_quiet ((go_at_call 218; refine (regholder_any _ _).mono ?_; (first | rw [HX.out] | rw [HY.out]); exact fun _ _ hh => ⟨hh.1, _, hh.2.symm⟩))
            go_wp2
            go_ret
            exact ⟨ret_bool HR.out, below_drewZ (bal brefl _) _⟩
          · have he' : (f == t) = false := by simpa using he
            rw [he'] at HR
            go_enter Tryz.func207, Tryz.ntmps207
            go_wp2
            go_quiet ((go_at_call 218; refine (regholder_any _ _).mono ?_; (first | rw [HX.out] | rw [HY.out]); exact fun _ _ hh => ⟨hh.1, _, hh.2.symm⟩))
            go_wp2
            go_ret
            exact ⟨ret_bool HR.out, below_drewZ (bal brefl _) _⟩
    · have k2 : (kind == 2) = false := by simpa using h2
      rw [if_neg h2] at HR
      cases x
      · go_enter Tryz.func207, Tryz.ntmps207
        go_wp2
        go_quiet ((go_at_call 218; refine (regholder_any _ _).mono ?_; (first | rw [HX.out] | rw [HY.out]); exact fun _ _ hh => ⟨hh.1, _, hh.2.symm⟩))
        go_wp2
        go_ret
        exact ⟨ret_bool HR.out, below_drewZ (bal brefl _) _⟩
      · by_cases he : t = 0
        · have he' : (t != 0) = false := by simpa using he
          rw [he'] at HR
          subst he
          go_enter Tryz.func207, Tryz.ntmps207
          go_wp2
          go_quiet ((go_at_call 218; refine (regholder_any _ _).mono ?_; (first | rw [HX.out] | rw [HY.out]); exact fun _ _ hh => ⟨hh.1, _, hh.2.symm⟩))
          go_wp2
          go_ret
          exact ⟨ret_bool HR.out, below_drewZ (bal brefl _) _⟩
        · have he' : (t != 0) = true := by simpa using he
          have he2 : (t == 0) = false := by simpa using he
          rw [he'] at HR
          go_enter Tryz.func207, Tryz.ntmps207
          go_wp2
          go_quiet ((go_at_call 218; refine (regholder_any _ _).mono ?_; (first | rw [HX.out] | rw [HY.out]); exact fun _ _ hh => ⟨hh.1, _, hh.2.symm⟩))
          go_wp2
          go_ret
          exact ⟨ret_bool HR.out, below_drewZ (bal brefl _) _⟩
end Go.Proofs.YthhoaefadfeknaaGreat
namespace Go.Proofs.YthhoaefadfeknaaGreat
open Go.RowKit
set_option linter.unusedVariables false
set_option linter.unusedSimpArgs false

theorem flatE_set (L1 L2 : List Hold) (s h a y : Int) (p : Nat) (hp : L1.length = p) : (flatE encHold (L1 ++ ⟨s, h, a⟩ :: L2)).set (p * 3 + 2) (.int .i64 y) = flatE encHold (L1 ++ ⟨s, h, y⟩ :: L2) := by
  have hl : (flatE encHold L1).length = p * 3 := by rw [flatE_length encHold_len, hp]
  have e : ∀ b, flatE encHold (L1 ++ ⟨s, h, b⟩ :: L2) = flatE encHold L1 ++ (.int .i64 s :: .int .i64 h :: .int .i64 b :: flatE encHold L2) := fun b => by simp [flatE, encHold]
  rw [e, e, List.set_append_right _ _ (by omega), hl, Nat.add_sub_cancel_left]
  rfl
/-- a block that is no row of holdings -/
def NoRow (w : World) (k : Nat) : Prop := ∀ cur, w.heap[k]? ≠ some (.cells cur 127 (0, 0))
/-- what add leaves: the holdings L' in the clerk at cb, all that lies below as it was, and all that is no row of holdings -/
def AddedV (cb : Nat) (v' : Value) (L' : List Hold) (w w' : World) : Prop :=
  w'.cell? ⟨cb, 1, none⟩ = some v' ∧ w'.ownsRow (cb + 1) 127 3 v' L'.length (flatE encHold L') ∧ (∀ o, o ≠ 1 → w'.cell? ⟨cb, o, none⟩ = w.cell? ⟨cb, o, none⟩) ∧ (∀ o, w'.frozen? ⟨cb, o, none⟩ = w.frozen? ⟨cb, o, none⟩) ∧ Below cb w w' ∧ (∀ k, k < w.heap.size → k ≠ cb → NoRow w k → w'.heap[k]? = w.heap[k]?)
def Added (cb : Nat) (L' : List Hold) (w w' : World) : Prop := ∃ v', AddedV cb v' L' w w'
theorem grownBy_setCellZ (w : World) (b o : Nat) (v : Value) : w.grownBy (w.setCell ⟨b, o, none⟩ v) (some b) :=
  ⟨rfl, rfl, rfl, by simp [World.setCell], fun k _ hne => Below.heap_setCell _ _ _ _ (fun h => hne (by rw [h]))⟩
/-- the row that may turn lies above the clerk, and is a row of holdings -/
def RowOf (cb : Nat) (w : World) (row : Option Nat) : Prop := ∀ k, row = some k → cb < k ∧ ∃ cur, w.heap[k]? = some (.cells cur 127 (0, 0))
theorem rowOf_own {cb n : Nat} {w : World} {v : Value} {xs : List Value} (h : w.ownsRow (cb + 1) 127 3 v n xs) : RowOf cb w v.ownBlock := by
  intro k hk
  rcases h.2 with ⟨rfl, -⟩ | ⟨g, cap, cur, rfl, hbg, hg, -⟩
  · simp [Value.ownBlock] at hk
  · simp only [Value.ownBlock, Option.some.injEq] at hk
    subst hk
    exact ⟨by omega, cur, hg⟩
theorem added_frame {cb : Nat} {w w1 w2 : World} {row : Option Nat} (hb1 : Below w.heap.size w w1) (hr : RowOf cb w row) (h2 : w1.grownBy w2 row) : ∀ k, k < w.heap.size → NoRow w k → w2.heap[k]? = w.heap[k]? := by
  intro k hk hn
  refine (h2.block k (Nat.lt_of_lt_of_le hk hb1.size) (fun q => ?_)).trans (hb1.block k hk)
  obtain ⟨_, cur, hc⟩ := hr k q.symm
  exact hn cur hc
theorem added_mk0 {cb n : Nat} {w w1 w2 : World} {row : Option Nat} {L' : List Hold} {v' : Value} (hb1 : Below w.heap.size w w1) (hcb : cb < w.heap.size) (hr : RowOf cb w row) (h2 : w1.grownBy w2 row) (hv : w.cell? ⟨cb, 1, none⟩ = some v') (hown : w2.ownsRow (cb + 1) 127 3 v' n (flatE encHold L')) (hn : L'.length = n) : Added cb L' w w2 := by
  have hne : ∀ k, k ≤ cb → some k ≠ row := fun k hk q => by have := (hr k q.symm).1; omega
  have hblk : w2.heap[cb]? = w.heap[cb]? := (h2.block cb (Nat.lt_of_lt_of_le hcb hb1.size) (hne cb (Nat.le_refl _))).trans (hb1.block cb hcb)
  subst hn
  refine ⟨v', (World.cell?_of_block (a := ⟨cb, 1, none⟩) hblk).trans hv, hown, fun o _ => World.cell?_of_block (a := ⟨cb, o, none⟩) hblk, fun o => World.frozen?_of_block (a := ⟨cb, o, none⟩) hblk, ?_, fun k hk _ hn => added_frame hb1 hr h2 k hk hn⟩
  exact ⟨h2.os.trans hb1.os, h2.tape.trans hb1.tape, h2.output.trans hb1.output, Nat.le_trans hb1.size h2.size, fun k hk => (h2.block k (Nat.lt_of_lt_of_le (Nat.lt_trans hk hcb) hb1.size) (hne k (by omega))).trans (hb1.block k (Nat.lt_trans hk hcb))⟩
theorem added_mk {cb n : Nat} {w w1 w2 : World} {row : Option Nat} {L' : List Hold} {v v' : Value} (hb1 : Below w.heap.size w w1) (hcb : cb < w.heap.size) (hr : RowOf cb w row) (h2 : w1.grownBy w2 row) (hv : w.cell? ⟨cb, 1, none⟩ = some v) (hown : w2.ownsRow (cb + 1) 127 3 v' n (flatE encHold L')) (hn : L'.length = n) : AddedV cb v' L' w (w2.setCell ⟨cb, 1, none⟩ v') := by
  have hne : ∀ k, k ≤ cb → some k ≠ row := fun k hk q => by have := (hr k q.symm).1; omega
  have hblk : w2.heap[cb]? = w.heap[cb]? := (h2.block cb (Nat.lt_of_lt_of_le hcb hb1.size) (hne cb (Nat.le_refl _))).trans (hb1.block cb hcb)
  subst hn
  have hv2 := (World.cell?_of_block (a := ⟨cb, 1, none⟩) hblk).trans hv
  refine ⟨World.cell?_setCell_same w2 _ _ hv2, World.ownsRow.kept hown (grownBy_setCellZ w2 cb 1 v') ?_, fun o ho => ?_, fun o => ?_, ?_, fun k hk hkc hn => ?_⟩
  · cases hb : v'.ownBlock with
    | none => exact .inl rfl
    | some k => exact .inr (by have := (hown.lt k hb).1; simp; omega)
  · rw [World.cell?_setCell_other w2 _ _ _ (by intro q; injection q; omega)]
    exact World.cell?_of_block (a := ⟨cb, o, none⟩) hblk
  · rw [World.frozen?_setCell]
    exact World.frozen?_of_block (a := ⟨cb, o, none⟩) hblk
  · have h3 : Below cb w w2 := ⟨h2.os.trans hb1.os, h2.tape.trans hb1.tape, h2.output.trans hb1.output, Nat.le_trans hb1.size h2.size, fun k hk => (h2.block k (Nat.lt_of_lt_of_le (Nat.lt_trans hk hcb) hb1.size) (hne k (by omega))).trans (hb1.block k (Nat.lt_trans hk hcb))⟩
    exact h3.setCell (Nat.le_refl _) _
  · rw [Below.heap_setCell _ _ _ _ (by simp only; omega)]
    exact added_frame hb1 hr h2 k hk hn
theorem AddedV.stored {cb g n cap j : Nat} {w W : World} {L' L'' : List Hold} {u : Value} (h : AddedV cb (.slice (some ⟨g, 0, none⟩) n cap) L' w W) (hn : L'.length = n) (hn' : L''.length = n) (hg : cb < g) (hs : (flatE encHold L').set j u = flatE encHold L'') : AddedV cb (.slice (some ⟨g, 0, none⟩) n cap) L'' w (W.setCell ⟨g, j, none⟩ u) := by
  obtain ⟨h1, h2, h3, h4, h5, h6⟩ := h
  rw [hn] at h2
  have q := World.ownsRow.stored h2 j u
  rw [hs] at q
  refine ⟨?_, by rw [hn']; exact q.1, fun o ho => ?_, fun o => ?_, h5.setCell (by simp only; omega) _, fun k hk hkc hno => ?_⟩
  · rw [World.cell?_setCell_other W _ _ _ (by intro q; injection q; omega)]; exact h1
  · rw [World.cell?_setCell_other W _ _ _ (by intro q; injection q; omega)]; exact h3 o ho
  · rw [World.frozen?_setCell]; exact h4 o
  · have hk6 := h6 k hk hkc hno
    rw [Below.heap_setCell _ _ _ _ (?_)]
    · exact hk6
    · simp only
      rintro rfl
      obtain ⟨_, cur, hc⟩ := rowOf_own h2 k rfl
      rw [hk6] at hc
      exact hno cur hc
theorem own_slice {w : World} {base : Nat} {e : TypeId} {z : Nat} {v : Value} {n : Nat} {xs : List Value} (h : w.ownsRow base e z v n xs) : ∃ ao c, v = .slice ao n c := by
  rcases h.2 with ⟨rfl, rfl⟩ | ⟨g, cap, cur, rfl, _⟩
  · exact ⟨_, _, rfl⟩
  · exact ⟨_, _, rfl⟩
theorem add_zero (cb : Nat) (s n : Int) (w : World) :
    Calls Tryz.prog 208 #[.pointer (some ⟨cb, 0, none⟩), .int .i64 s, .int .i64 0, .int .i64 n] w fun e w' => e = .returned (.tuple #[]) ∧ w = w' := by
  go_enter Tryz.func208, Tryz.ntmps208
  go_wp2
  refine bodyPost_ret (results_none rfl _ _ _) rfl ?_
  exact ⟨rfl, rfl⟩
set_option maxHeartbeats 1000000 in
theorem add_there (cb : Nat) (v : Value) (L1 L2 : List Hold) (s h a n : Int) (w : World) (hv : w.cell? ⟨cb, 1, none⟩ = some v) (hf : w.frozen? ⟨cb, 1, none⟩ = false) (hown : w.ownsRow (cb + 1) 127 3 v (L1 ++ ⟨s, h, a⟩ :: L2).length (flatE encHold (L1 ++ ⟨s, h, a⟩ :: L2)))
    (hp : posH (L1 ++ ⟨s, h, a⟩ :: L2) s h = L1.length) (hs : srtH (L1 ++ ⟨s, h, a⟩ :: L2)) (hlen : (L1 ++ ⟨s, h, a⟩ :: L2).length ≤ 100000) (hh : h ≠ 0) (ha0 : 0 ≤ a) (ha1 : a ≤ 1000000000000) (hn0 : -1000000000000 ≤ n) (hn1 : n ≤ 1000000000000) :
    Calls Tryz.prog 208 #[.pointer (some ⟨cb, 0, none⟩), .int .i64 s, .int .i64 h, .int .i64 n] w fun e w' => e = .returned (.tuple #[]) ∧ Added cb (if a + n = 0 then L1 ++ L2 else L1 ++ ⟨s, h, a + n⟩ :: L2) w w' := by
  have hi : isH (L1 ++ ⟨s, h, a⟩ :: L2) s h = true := by unfold isH; rw [hp]; simp [eqK]
  have H := place_any (fun _ => True) cb v _ s h w hv (Sl.own encHold_len hown rfl (fun _ _ => trivial)) hs (by omega)
  rw [hi, hp] at H
  obtain ⟨p, hpe⟩ : ∃ p, L1.length = p := ⟨_, rfl⟩
  rw [hpe] at H
  obtain ⟨N, hN⟩ : ∃ N, (L1 ++ ⟨s, h, a⟩ :: L2).length = N := ⟨_, rfl⟩
  rw [hN] at hown hlen
  have hNp : L2.length + p + 1 = N := by rw [← hN, ← hpe]; simp; omega
  obtain ⟨g, cap, rest, rfl, hbg, hg, hnc, hcm, hxl, hrl⟩ := own_whole hown (by omega)
  unfold maxLen at hcm
  have hgc : ¬ g = cb := by omega
  have hcg : ¬ cb = g := by omega
  have hh' : (h == 0) = false := by simpa using hh
  have hcell : w.cell? ⟨g, p * 3 + 2, none⟩ = some (.int .i64 a) := by
    refine cell_whole hg ?_
    have hl : (flatE encHold L1).length = p * 3 := by rw [flatE_length encHold_len, hpe]
    have e : flatE encHold (L1 ++ ⟨s, h, a⟩ :: L2) = flatE encHold L1 ++ (.int .i64 s :: .int .i64 h :: .int .i64 a :: flatE encHold L2) := by simp [flatE, encHold]
    rw [e, List.append_assoc, List.getElem?_append_right (by omega), hl, Nat.add_sub_cancel_left]
    rfl
  have hfz : w.frozen? ⟨g, p * 3 + 2, none⟩ = false := frozen_of_row w g _ _ _ hg
  have HH := Lib.hid H
  have HO := Lib.hid hown
  have HL := Lib.hid hpe
  have hpN : p < N := by omega
  clear H hp hs hi hg hxl hrl hN hpe hown
  by_cases hz : a + n = 0
  · rw [if_pos hz]
    have HZ := Lib.hid hz
    have hz2 : (a + n == 0) = true := by simpa using hz
    clear hz
    go_enter Tryz.func208, Tryz.ntmps208
    go_wp2_with fail
    refine HH.out.mono ?_
    rintro e w1 ⟨rfl, hb1⟩
    have c1 := keepB hb1 hv
    have c2 := keepB hb1 hcell
    have f1 : w1.frozen? ⟨cb, 1, none⟩ = false := (hb1.frozen (p := ⟨cb, 1, none⟩) (World.block_lt_of_cell? w _ hv)).trans hf
    have f2 : w1.frozen? ⟨g, p * 3 + 2, none⟩ = false := (hb1.frozen (p := ⟨g, p * 3 + 2, none⟩) (World.block_lt_of_cell? w _ hcell)).trans hfz
    have HO1 := Lib.hid (ownsRow_belowZ HO.out hb1)
    have hst := World.ownsRow.stored HO1.out (p * 3 + 2) (.int .i64 (a + n))
    rw [flatE_set L1 L2 s h a (a + n) p HL.out] at hst
    obtain ⟨hst1, hst2⟩ := hst
    have HS1 := Lib.hid hst1
    have HS2 := Lib.hid hst2
    have HH1 := Lib.hid hb1
    clear hst1 hst2
    go_wp2_with fail
    refine (delH_any (cb + 1) _ N p L1 L2 ⟨s, h, a + n⟩ _ HS1.out (by omega) HL.out hNp).mono ?_
    rintro e w2 ⟨v', rfl, hown2, hgr2⟩
    obtain ⟨ao', c', rfl⟩ := own_slice hown2
    have c3 : w2.cell? ⟨cb, 1, none⟩ = some _ := hgr2.cell ((World.cell?_setCell_other _ _ _ _ (by simp [hgc])).trans c1) (by simp [Value.ownBlock]; omega)
    have f3 : w2.frozen? ⟨cb, 1, none⟩ = false := by
      rw [World.frozen?_of_block (a := ⟨cb, 1, none⟩) (hgr2.block cb (by simpa [World.setCell] using World.block_lt_of_cell? w1 _ c1) (by simp [Value.ownBlock]; omega)), World.frozen?_setCell]
      exact f1
    go_wp2
    go_end0
    exact ⟨rfl, _, added_mk HH1.out (World.block_lt_of_cell? w _ hv) (rowOf_own HO.out) (grownBy_transZ HS2.out hgr2) hv hown2 (by have := HL.out; simp; omega)⟩
  · rw [if_neg hz]
    have hz2 : (a + n == 0) = false := by simpa using hz
    clear hz
    go_enter Tryz.func208, Tryz.ntmps208
    go_wp2_with fail
    refine HH.out.mono ?_
    rintro e w1 ⟨rfl, hb1⟩
    have c1 := keepB hb1 hv
    have c2 := keepB hb1 hcell
    have f1 : w1.frozen? ⟨cb, 1, none⟩ = false := (hb1.frozen (p := ⟨cb, 1, none⟩) (World.block_lt_of_cell? w _ hv)).trans hf
    have f2 : w1.frozen? ⟨g, p * 3 + 2, none⟩ = false := (hb1.frozen (p := ⟨g, p * 3 + 2, none⟩) (World.block_lt_of_cell? w _ hcell)).trans hfz
    have hst := World.ownsRow.stored (ownsRow_belowZ HO.out hb1) (p * 3 + 2) (.int .i64 (a + n))
    rw [flatE_set L1 L2 s h a (a + n) p HL.out] at hst
    obtain ⟨hst1, hst2⟩ := hst
    have HS1 := Lib.hid hst1
    have HS2 := Lib.hid hst2
    have HH1 := Lib.hid hb1
    clear hst1 hst2
    go_wp2
    go_end0
    exact ⟨rfl, added_mk0 HH1.out (World.block_lt_of_cell? w _ hv) (rowOf_own HO.out) HS2.out hv HS1.out (by have := HL.out; simp; omega)⟩
set_option maxHeartbeats 1000000 in
theorem add_new (cb : Nat) (v : Value) (L : List Hold) (s h n : Int) (w : World) (hv : w.cell? ⟨cb, 1, none⟩ = some v) (hf : w.frozen? ⟨cb, 1, none⟩ = false) (hown : w.ownsRow (cb + 1) 127 3 v L.length (flatE encHold L))
    (hi : isH L s h = false) (hs : srtH L) (hlen : L.length ≤ 100000) (hh : h ≠ 0) (hn0 : -1000000000000 ≤ n) (hn1 : n ≤ 1000000000000) (hnz : n ≠ 0) :
    Calls Tryz.prog 208 #[.pointer (some ⟨cb, 0, none⟩), .int .i64 s, .int .i64 h, .int .i64 n] w fun e w' => e = .returned (.tuple #[]) ∧ Added cb (L.take (posH L s h) ++ ⟨s, h, n⟩ :: L.drop (posH L s h)) w w' := by
  have H := place_any (fun _ => True) cb v _ s h w hv (Sl.own encHold_len hown rfl (fun _ _ => trivial)) hs (by omega)
  have hple := posH_le L s h
  rw [hi] at H
  obtain ⟨p, hpe⟩ : ∃ p, posH L s h = p := ⟨_, rfl⟩
  rw [hpe] at H hple
  rw [hpe]
  obtain ⟨N, hN⟩ : ∃ N, L.length = N := ⟨_, rfl⟩
  rw [hN] at hown hlen hple
  have hh' : (h == 0) = false := by simpa using hh
  have hcb := World.block_lt_of_cell? w _ hv
  simp only at hcb
  have hvb : ∀ k, v.ownBlock = some k → cb + 1 ≤ k ∧ k < w.heap.size := hown.lt
  have hz2 : (n == 0) = false := by simpa using hnz
  have HH := Lib.hid H
  have HO := Lib.hid hown
  have HN := Lib.hid hN
  have HVB := Lib.hid hvb
  have HV := Lib.hid hv
  clear H hs hi hN hpe hown hnz hvb
  go_enter Tryz.func208, Tryz.ntmps208
  go_wp2_with fail
  refine HH.out.mono ?_
  rintro e w1 ⟨rfl, hb1⟩
  have zb := hb1.size
  have c1 := keepB hb1 HV.out
  have f1 : w1.frozen? ⟨cb, 1, none⟩ = false := (hb1.frozen (p := ⟨cb, 1, none⟩) hcb).trans hf
  have HO1 := Lib.hid ((ownsRow_belowZ HO.out hb1).alloc (.cells #[.int .i64 s, .int .i64 h, .int .i64 0] 127))
  have HH1 := Lib.hid hb1
  clear hb1
  go_wp2_with fail
  refine (insH_any (cb + 1) v N p w1.heap.size L ⟨s, h, 0⟩ _ HO1.out (by omega) hple HN.out (by simp; omega) (heap_alloc_new _ _) (fun hq => by have := (HVB.out _ hq).2; omega)).mono ?_
  rintro e w2 ⟨v', rfl, hown2, hgr2⟩
  obtain ⟨g, cap, rest, rfl, hbg, hg, hnc, hcm, hxl, hrl⟩ := own_whole hown2 (by omega)
  unfold maxLen at hcm
  have hgr0 : v.ownBlock ≠ some cb := fun hq => by have := (HVB.out _ hq).1; omega
  have hblk : w2.heap[cb]? = w1.heap[cb]? := (hgr2.block cb (by simp; omega) (fun q => hgr0 q.symm)).trans (heap_alloc_old w1 _ (by omega))
  have c3 : w2.cell? ⟨cb, 1, none⟩ = some v := (World.cell?_of_block (a := ⟨cb, 1, none⟩) hblk).trans c1
  have f3 : w2.frozen? ⟨cb, 1, none⟩ = false := (World.frozen?_of_block (a := ⟨cb, 1, none⟩) hblk).trans f1
  have hlt : (L.take p).length = p := by have := HN.out; simp; omega
  have hcell : w2.cell? ⟨g, p * 3 + 2, none⟩ = some (.int .i64 0) := by
    refine cell_whole hg ?_
    have hl : (flatE encHold (L.take p)).length = p * 3 := by rw [flatE_length encHold_len, hlt]
    have e : flatE encHold (L.take p ++ ⟨s, h, 0⟩ :: L.drop p) = flatE encHold (L.take p) ++ (.int .i64 s :: .int .i64 h :: .int .i64 0 :: flatE encHold (L.drop p)) := by simp [flatE, encHold]
    rw [e, List.append_assoc, List.getElem?_append_right (by omega), hl, Nat.add_sub_cancel_left]
    rfl
  have hfz : w2.frozen? ⟨g, p * 3 + 2, none⟩ = false := frozen_of_row w2 g _ _ _ hg
  have hgc : ¬ g = cb := by omega
  have hcg : ¬ cb = g := by omega
  have hA : AddedV cb (.slice (some ⟨g, 0, none⟩) (N + 1) cap) (L.take p ++ ⟨s, h, 0⟩ :: L.drop p) w (w2.setCell ⟨cb, 1, none⟩ (.slice (some ⟨g, 0, none⟩) (N + 1) cap)) := by
    have hln : (L.take p ++ ⟨s, h, 0⟩ :: L.drop p).length = N + 1 := by have := HN.out; simp; omega
    have hb2 : Below w.heap.size w (w1.alloc (.cells #[.int .i64 s, .int .i64 h, .int .i64 0] 127)) := bal HH1.out _
    exact added_mk hb2 hcb (rowOf_own HO.out) hgr2 HV.out hown2 hln
  have HA := Lib.hid (hA.stored (j := p * 3 + 2) (u := .int .i64 n) (L'' := L.take p ++ ⟨s, h, n⟩ :: L.drop p) (by have := HN.out; simp; omega) (by have := HN.out; simp; omega) (by omega) (flatE_set _ _ _ _ _ _ p hlt))
  clear hA hown2 hgr2 hg hxl hrl hblk hlt
  go_wp2
  go_end0
  exact ⟨rfl, _, HA.out⟩
/-- add, whole -/
theorem add_any (cb : Nat) (v : Value) (L : List Hold) (s h n : Int) (w : World) (hv : w.cell? ⟨cb, 1, none⟩ = some v) (hf : w.frozen? ⟨cb, 1, none⟩ = false) (hown : w.ownsRow (cb + 1) 127 3 v L.length (flatE encHold L))
    (hs : srtH L) (hlen : L.length ≤ 100000) (ha : ∀ x ∈ L, 0 ≤ x.a ∧ x.a ≤ 1000000000000) (hn0 : -1000000000000 ≤ n) (hn1 : n ≤ 1000000000000) (hnz : n ≠ 0) :
    Calls Tryz.prog 208 #[.pointer (some ⟨cb, 0, none⟩), .int .i64 s, .int .i64 h, .int .i64 n] w fun e w' => e = .returned (.tuple #[]) ∧ Added cb (addZ L s h n) w w' := by
  by_cases hh : h = 0
  · subst hh
    refine (add_zero cb s n w).mono ?_
    rintro e w' ⟨rfl, rfl⟩
    exact ⟨rfl, v, hv, by simpa [addZ] using hown, fun _ _ => rfl, fun _ => rfl, Below.refl _ _, fun _ _ _ _ => rfl⟩
  · have e1 : addZ L s h n = addH L s h n := if_neg hh
    rw [e1]
    cases hi : isH L s h
    · have hx : ∀ x, L[posH L s h]? = some x → eqK x s h = false := fun x hx => by
        unfold isH at hi
        rw [hx] at hi
        exact hi
      rw [addH_new n hx, if_neg hnz]
      exact add_new cb v L s h n w hv hf hown hi hs hlen hh hn0 hn1 hnz
    · obtain ⟨a, hL, -⟩ := (held_at hs).1 hi
      rw [addH_there n hL]
      have hp := (List.getElem?_eq_some_iff.1 hL).1
      obtain ⟨p, hpe⟩ : ∃ p, posH L s h = p := ⟨_, rfl⟩
      rw [hpe] at hL hp
      rw [hpe]
      have hsplit : L = L.take p ++ ⟨s, h, a⟩ :: L.drop (p + 1) := by
        rw [← drop_cons hL, List.take_append_drop]
      obtain ⟨a0, a1⟩ := ha _ (List.mem_of_getElem? hL)
      have hlt : (L.take p).length = p := by simp; omega
      obtain ⟨L1, hL1⟩ : ∃ L1, L.take p = L1 := ⟨_, rfl⟩
      obtain ⟨L2, hL2⟩ : ∃ L2, L.drop (p + 1) = L2 := ⟨_, rfl⟩
      rw [hL1, hL2] at hsplit
      rw [hL1] at hlt
      rw [hL1, hL2]
      subst hsplit
      exact add_there cb v L1 L2 s h a n w hv hf hown (by rw [hpe, hlt]) hs hlen hh a0 a1 hn0 hn1
end Go.Proofs.YthhoaefadfeknaaGreat
namespace Go.Proofs.YthhoaefadfeknaaGreat
open Go.RowKit
set_option linter.unusedVariables false
set_option linter.unusedSimpArgs false

theorem hsOk_sub {hs : List Hold} (h : HsOk hs) {s f a : Int} (ha : 0 ≤ a) (hh : f ≠ 0 → a ≤ heldH hs s f) : HsOk (addZ hs s f (-a)) := by
  unfold addZ
  split
  · exact h
  · rename_i hf
    have hle := hh hf
    refine ⟨addH_srt _ h.srt, addH_pos _ h.srt h.pos (by omega), fun s' => ?_⟩
    rw [addH_out]
    have := h.out s'
    split <;> omega
theorem hsOk_add {hs : List Hold} (h : HsOk hs) {s f a : Int} (ha : 0 ≤ a) (hh : outH hs s + a ≤ 1000000000000) : HsOk (addZ hs s f a) := by
  unfold addZ
  split
  · exact h
  · refine ⟨addH_srt _ h.srt, addH_pos _ h.srt h.pos (by have := heldH_nonneg h.pos s f; omega), fun s' => ?_⟩
    rw [addH_out]
    have := h.out s'
    split
    · rename_i e; subst e; omega
    · omega
theorem addZ_len (L : List Hold) (s f n : Int) : (addZ L s f n).length ≤ L.length + 1 := by
  unfold addZ
  split
  · omega
  · exact addH_len ..
theorem addZ_out (L : List Hold) (s h n s' : Int) : outH (addZ L s h n) s' = outH L s' + if s = s' ∧ h ≠ 0 then n else 0 := by
  unfold addZ
  split
  · rename_i h0; simp [h0]
  · rename_i h0; rw [addH_out]; simp [h0]
theorem addZ_held {L : List Hold} (hs : srtH L) (s h n s' h' : Int) (h0 : h' ≠ 0) : heldH (addZ L s h n) s' h' = heldH L s' h' + if s = s' ∧ h = h' then n else 0 := by
  unfold addZ
  split
  · rename_i hz
    rw [if_neg (by omega)]; omega
  · exact addH_held n s' h' hs
/-- what a move that is possible fulfils -/
structure MvOk (secs : List Sec) (hs : List Hold) (day : Int) (m : Mv) : Prop where
  a0 : 0 < m.a
  a1 : m.a ≤ 1000000000000
  st : strangeB m = false
  he : m.f ≠ 0 → m.a ≤ heldH hs m.s m.f
  ou : m.f = 0 → outH hs m.s + m.a ≤ 1000000000000
  fi : ∃ s, findS secs m.s = some s ∧ m.a % s.un = 0 ∧ max day s.is ≤ m.day ∧ m.day ≤ (if m.kind = 3 then 36000 else s.ma)
theorem mvOk_iff {secs : List Sec} {hs : List Hold} {day : Int} {m : Mv} : mvE secs hs day m = 0 ↔ MvOk secs hs day m := by
  unfold mvE
  cases hf : findS secs m.s with
  | none =>
    simp only
    exact ⟨fun h => by omega, fun h => by obtain ⟨s, h1, _⟩ := h.fi; rw [hf] at h1; cases h1⟩
  | some s =>
    simp only
    unfold mvE1
    constructor
    · intro h
      by_cases hd : inB m.day (max day s.is) (if m.kind = 3 then 36000 else s.ma) = true
      · rw [if_pos hd] at h
        by_cases hu : 0 < m.a ∧ m.a ≤ 1000000000000 ∧ m.a % s.un = 0
        · rw [if_pos hu] at h
          by_cases hst : strangeB m = true
          · rw [if_pos hst] at h; omega
          · rw [if_neg hst] at h
            by_cases h1 : m.f ≠ 0 ∧ heldH hs m.s m.f < m.a
            · rw [if_pos h1] at h; omega
            · rw [if_neg h1] at h
              by_cases h2 : m.f = 0 ∧ 1000000000000 < outH hs m.s + m.a
              · rw [if_pos h2] at h; omega
              · exact ⟨hu.1, hu.2.1, by simpa using hst, fun q => by have := fun r => h1 ⟨q, r⟩; omega, fun q => by have := fun r => h2 ⟨q, r⟩; omega, s, hf, hu.2.2, (inB_iff.1 hd).1, (inB_iff.1 hd).2⟩
        · rw [if_neg hu] at h; omega
      · rw [if_neg hd] at h; omega
    · rintro ⟨a0, a1, st, he, ou, s', h1, h2, h3, h4⟩
      rw [hf] at h1
      cases h1
      rw [if_pos (inB_iff.2 ⟨h3, h4⟩), if_pos ⟨a0, a1, h2⟩, st, if_neg (by simp), if_neg (fun q => by have := he q.1; omega), if_neg (fun q => by have := ou q.1; omega)]
theorem mvH_ok {secs : List Sec} {hs : List Hold} {day : Int} {m : Mv} (h : HsOk hs) (hm : MvOk secs hs day m) : HsOk (mvH hs m) := by
  have a0 := hm.a0
  refine hsOk_add (hsOk_sub h (by omega) hm.he) (by omega) ?_
  rw [addZ_out]
  by_cases hf : m.f = 0
  · simp [hf]; exact hm.ou hf
  · have := h.out m.s
    simp [hf]; omega
theorem mvH_len (hs : List Hold) (m : Mv) : (mvH hs m).length ≤ hs.length + 2 := by
  unfold mvH
  have h1 := addZ_len hs m.s m.f (-m.a)
  have h2 := addZ_len (addZ hs m.s m.f (-m.a)) m.s m.t m.a
  omega
/-- a move of a list of moves is right -/
def stepB (secs : List Sec) (n d : Int) (hs : List Hold) (m : Mv) : Bool := decide (m.num = n + 1) && (inB m.kind 1 3 && decide (mvE secs hs d m = 0))
/-- the moves, one after the other, as long as they are wanted -/
def repl (secs : List Sec) (want : Mv → Bool) : List Mv → Int → Int → List Hold → Bool × Int × Int × List Hold
  | [], n, d, hs => (true, n, d, hs)
  | m :: ms, n, d, hs => if want m then (if stepB secs n d hs m then repl secs want ms (n + 1) m.day (mvH hs m) else (false, n, d, hs)) else (true, n, d, hs)
theorem stepB_iff {secs : List Sec} {n d : Int} {hs : List Hold} {m : Mv} : stepB secs n d hs m = true ↔ m.num = n + 1 ∧ (1 ≤ m.kind ∧ m.kind ≤ 3) ∧ MvOk secs hs d m := by
  unfold stepB
  rw [Bool.and_eq_true, Bool.and_eq_true, decide_eq_true_eq, decide_eq_true_eq, inB_iff, mvOk_iff]
theorem repl_ok (secs : List Sec) (want : Mv → Bool) : ∀ (ms : List Mv) (n d : Int) (hs : List Hold), HsOk hs → HsOk (repl secs want ms n d hs).2.2.2
  | [], n, d, hs, h => h
  | m :: ms, n, d, hs, h => by
    simp only [repl]
    split
    · split
      · rename_i hq
        exact repl_ok secs want ms _ _ _ (mvH_ok h (stepB_iff.1 hq).2.2)
      · exact h
    · exact h
theorem repl_len (secs : List Sec) (want : Mv → Bool) : ∀ (ms : List Mv) (n d : Int) (hs : List Hold), (repl secs want ms n d hs).2.2.2.length ≤ hs.length + 2 * ms.length
  | [], n, d, hs => by simp [repl]
  | m :: ms, n, d, hs => by
    simp only [repl]
    have h1 := mvH_len hs m
    split
    · split
      · have := repl_len secs want ms (n + 1) m.day (mvH hs m)
        simp only [List.length_cons]; omega
      · simp only [List.length_cons]; omega
    · simp only [List.length_cons]; omega
/-- the securities are valid and ascend, behind an ID -/
def secsB : Int → List Sec → Bool
  | _, [] => true
  | p, s :: L => secOk s && (decide (p < s.id) && secsB s.id L)
theorem secsB_all : ∀ {p : Int} {L : List Sec}, secsB p L = true → ∀ s ∈ L, secOk s = true
  | p, [], _, s, hs => by simp at hs
  | p, x :: L, h, s, hs => by
    simp only [secsB, Bool.and_eq_true] at h
    rcases List.mem_cons.1 hs with rfl | hs
    · exact h.1
    · exact secsB_all h.2.2 s hs
theorem secOk_un {s : Sec} (h : secOk s = true) : 1 ≤ s.un ∧ s.un ≤ 1000000000 := by
  have := secB_iff.1 h
  exact ⟨this.un0, this.un1⟩
structure Reg where
  secs : List Sec
  hs : List Hold
  ms : List Mv
def wantAll (m : Mv) : Bool := true
def wantDay (day : Int) (m : Mv) : Bool := decide (m.day ≤ day)
/-- two lists of holdings are one -/
def eqHs : List Hold → List Hold → Bool
  | [], [] => true
  | x :: L, y :: M => decide (x.s = y.s ∧ x.h = y.h ∧ x.a = y.a) && eqHs L M
  | _, _ => false
theorem eqHs_iff : ∀ {L M : List Hold}, eqHs L M = true ↔ L = M
  | [], [] => by simp [eqHs]
  | [], _ :: _ => by simp [eqHs]
  | _ :: _, [] => by simp [eqHs]
  | ⟨s, h, a⟩ :: L, ⟨s', h', a'⟩ :: M => by
    simp only [eqHs, Bool.and_eq_true, decide_eq_true_eq, List.cons.injEq, Hold.mk.injEq]
    rw [eqHs_iff]
/-- the holdings are those that the moves make -/
def movesB (R : Reg) : Bool := (repl R.secs wantAll R.ms 0 0 []).1 && eqHs (repl R.secs wantAll R.ms 0 0 []).2.2.2 R.hs
/-- what is wrong with a register -/
def chkE (R : Reg) : Int := if 20 < R.secs.length ∨ 400 < R.ms.length then 3 else if secsB 0 R.secs then (if movesB R then 0 else 78) else 78
end Go.Proofs.YthhoaefadfeknaaGreat
namespace Go.Proofs.YthhoaefadfeknaaGreat
open Go.RowKit
set_option linter.unusedVariables false
set_option linter.unusedSimpArgs false

/-- the clerk at cb -/
structure CkIn (cb : Nat) (w : World) (secs : List Sec) (hs : List Hold) (num day : Int) (vs v : Value) : Prop where
  h0 : w.cell? ⟨cb, 0, none⟩ = some vs
  h1 : w.cell? ⟨cb, 1, none⟩ = some v
  h2 : w.cell? ⟨cb, 2, none⟩ = some (.int .i64 num)
  h3 : w.cell? ⟨cb, 3, none⟩ = some (.int .i64 day)
  f1 : w.frozen? ⟨cb, 1, none⟩ = false
  f2 : w.frozen? ⟨cb, 2, none⟩ = false
  f3 : w.frozen? ⟨cb, 3, none⟩ = false
  S : Sl 7 encSec (· < cb) w vs secs
  O : w.ownsRow (cb + 1) 127 3 v hs.length (flatE encHold hs)
theorem CkIn.lt {cb : Nat} {w : World} {secs : List Sec} {hs : List Hold} {num day : Int} {vs v : Value} (h : CkIn cb w secs hs num day vs v) : cb < w.heap.size := World.block_lt_of_cell? w _ h.h0
theorem CkIn.below {cb : Nat} {w w' : World} {secs : List Sec} {hs : List Hold} {num day : Int} {vs v : Value} (h : CkIn cb w secs hs num day vs v) (hb : Below w.heap.size w w') : CkIn cb w' secs hs num day vs v := by
  have hl := h.lt
  exact ⟨keepB hb h.h0, keepB hb h.h1, keepB hb h.h2, keepB hb h.h3, (hb.frozen (p := ⟨cb, 1, none⟩) hl).trans h.f1, (hb.frozen (p := ⟨cb, 2, none⟩) hl).trans h.f2, (hb.frozen (p := ⟨cb, 3, none⟩) hl).trans h.f3, h.S.below hb, ownsRow_belowZ h.O hb⟩
theorem keepS {w : World} {b o k j : Nat} {v v0 : Value} (hne : o ≠ b) (h : w.cell? ⟨o, k, none⟩ = some v) : (w.setCell ⟨b, j, none⟩ v0).cell? ⟨o, k, none⟩ = some v :=
  (World.cell?_setCell_other _ _ _ _ (by intro q; injection q; exact hne (Eq.symm (by assumption)))).trans h
theorem keepS7 {w : World} {b o k : Nat} {v v0 v1 v2 v3 v4 v5 v6 : Value} (hne : o ≠ b) (h : w.cell? ⟨o, k, none⟩ = some v) : (((((((w.setCell ⟨b, 0, none⟩ v0).setCell ⟨b, 1, none⟩ v1).setCell ⟨b, 2, none⟩ v2).setCell ⟨b, 3, none⟩ v3).setCell ⟨b, 4, none⟩ v4).setCell ⟨b, 5, none⟩ v5).setCell ⟨b, 6, none⟩ v6).cell? ⟨o, k, none⟩ = some v :=
  keepS hne (keepS hne (keepS hne (keepS hne (keepS hne (keepS hne (keepS hne h))))))
theorem boxB {w wx : World} {C : Array Value} {T : TypeId} (hb : Below (w.heap.size + 1) (w.alloc (.cells C T)) wx) (i : Nat) {v : Value} (hv : C[i]? = some v) : wx.cell? ⟨w.heap.size, i, none⟩ = some v :=
  (hb.cell (p := ⟨w.heap.size, i, none⟩) (by simp)).trans ((World.cell?_alloc_at _ _ _ _ rfl).trans hv)
/-- what a move leaves -/
def DoPost (cb : Nat) (secs : List Sec) (vs : Value) (num md E : Int) (H' : List Hold) (w : World) (e : Ending) (w' : World) : Prop :=
  (E ≠ 0 ∧ e = .returned (.int .i64 E) ∧ Below w.heap.size w w') ∨ (E = 0 ∧ e = .returned (.int .i64 0) ∧ (∃ v', CkIn cb w' secs H' (num + 1) md vs v') ∧ Below cb w w')
theorem do_err {cb : Nat} {secs : List Sec} {vs : Value} {num md E k : Int} {H' : List Hold} {w w' : World} (hE : E = k) (hk : k ≠ 0) (hb : Below w.heap.size w w') : DoPost cb secs vs num md E H' w (.returned (.int .i64 k)) w' := by
  subst hE; exact .inl ⟨hk, rfl, hb⟩
/-- what the search in a move leaves: the security in a box of its own -/
def FoundAt (w : World) (M : Array Value) (s : Sec) (s5 : Value) (wx : World) : Prop :=
  ∃ sb : Nat, s5 = .pointer (some ⟨sb, 0, none⟩) ∧ w.heap.size < sb ∧ wx.cell? ⟨sb, 0, none⟩ = some (.int .i64 s.id) ∧ wx.cell? ⟨sb, 1, none⟩ = some (.int .i64 s.un) ∧ wx.cell? ⟨sb, 2, none⟩ = some (.int .i64 s.is) ∧ wx.cell? ⟨sb, 3, none⟩ = some (.int .i64 s.ma) ∧ Below (w.heap.size + 1) (w.alloc (.cells M 130)) wx
theorem below_undrew {B : Nat} {w w1 : World} (h : Below w.drew.heap.size w.drew w1) : Below w.heap.size w w1 := ⟨h.os, h.tape, h.output, h.size, h.block⟩
theorem found_a {w w1 : World} {M : Array Value} {s : Sec} (hb' : Below (w.alloc (.cells M 130)).drew.heap.size (w.alloc (.cells M 130)).drew w1) :
    FoundAt w M s (.pointer (some ⟨w1.heap.size, 0, none⟩)) (w1.alloc (.cells #[.int .i64 s.id, .int .i64 s.un, .int .i64 s.is, .int .i64 s.ma, .int .i64 s.ra, .int .i64 s.ev, .bool s.ix] 26)) := by
  have hb : Below (w.alloc (.cells M 130)).heap.size (w.alloc (.cells M 130)) w1 := ⟨hb'.os, hb'.tape, hb'.output, hb'.size, hb'.block⟩
  have hz := hb.size
  rw [World.size_alloc] at hz
  rw [World.size_alloc] at hb
  exact ⟨_, rfl, by omega, (World.cell?_alloc_at _ _ _ _ rfl).trans rfl, (World.cell?_alloc_at _ _ _ _ rfl).trans rfl, (World.cell?_alloc_at _ _ _ _ rfl).trans rfl, (World.cell?_alloc_at _ _ _ _ rfl).trans rfl, hb.alloc (by omega) _⟩
theorem set7_cells {w : World} {b : Nat} {v0 v1 v2 v3 v4 v5 v6 : Value} (hc : ∀ i, i < 7 → ∃ u, w.cell? ⟨b, i, none⟩ = some u) :
    (((((((w.setCell ⟨b, 0, none⟩ v0).setCell ⟨b, 1, none⟩ v1).setCell ⟨b, 2, none⟩ v2).setCell ⟨b, 3, none⟩ v3).setCell ⟨b, 4, none⟩ v4).setCell ⟨b, 5, none⟩ v5).setCell ⟨b, 6, none⟩ v6).cell? ⟨b, 0, none⟩ = some v0 ∧
    (((((((w.setCell ⟨b, 0, none⟩ v0).setCell ⟨b, 1, none⟩ v1).setCell ⟨b, 2, none⟩ v2).setCell ⟨b, 3, none⟩ v3).setCell ⟨b, 4, none⟩ v4).setCell ⟨b, 5, none⟩ v5).setCell ⟨b, 6, none⟩ v6).cell? ⟨b, 1, none⟩ = some v1 ∧
    (((((((w.setCell ⟨b, 0, none⟩ v0).setCell ⟨b, 1, none⟩ v1).setCell ⟨b, 2, none⟩ v2).setCell ⟨b, 3, none⟩ v3).setCell ⟨b, 4, none⟩ v4).setCell ⟨b, 5, none⟩ v5).setCell ⟨b, 6, none⟩ v6).cell? ⟨b, 2, none⟩ = some v2 ∧
    (((((((w.setCell ⟨b, 0, none⟩ v0).setCell ⟨b, 1, none⟩ v1).setCell ⟨b, 2, none⟩ v2).setCell ⟨b, 3, none⟩ v3).setCell ⟨b, 4, none⟩ v4).setCell ⟨b, 5, none⟩ v5).setCell ⟨b, 6, none⟩ v6).cell? ⟨b, 3, none⟩ = some v3 := by
  obtain ⟨u0, c0⟩ := hc 0 (by omega)
  obtain ⟨u1, c1⟩ := hc 1 (by omega)
  obtain ⟨u2, c2⟩ := hc 2 (by omega)
  obtain ⟨u3, c3⟩ := hc 3 (by omega)
  refine ⟨?_, ?_, ?_, ?_⟩ <;> simp [go_sem, c0, c1, c2, c3]
theorem found_b {w w1 : World} {M Z : Array Value} {T : TypeId} {s : Sec} (hZ : Z.size = 7) (hb' : Below ((w.alloc (.cells M 130)).alloc (.cells Z T)).drew.heap.size ((w.alloc (.cells M 130)).alloc (.cells Z T)).drew w1) :
    FoundAt w M s (.pointer (some ⟨w.heap.size + 1, 0, none⟩)) (((((((w1.setCell ⟨w.heap.size + 1, 0, none⟩ (.int .i64 s.id)).setCell ⟨w.heap.size + 1, 1, none⟩ (.int .i64 s.un)).setCell ⟨w.heap.size + 1, 2, none⟩ (.int .i64 s.is)).setCell ⟨w.heap.size + 1, 3, none⟩ (.int .i64 s.ma)).setCell ⟨w.heap.size + 1, 4, none⟩ (.int .i64 s.ra)).setCell ⟨w.heap.size + 1, 5, none⟩ (.int .i64 s.ev)).setCell ⟨w.heap.size + 1, 6, none⟩ (.bool s.ix)) := by
  have hb : Below ((w.alloc (.cells M 130)).alloc (.cells Z T)).heap.size ((w.alloc (.cells M 130)).alloc (.cells Z T)) w1 := ⟨hb'.os, hb'.tape, hb'.output, hb'.size, hb'.block⟩
  have hbm : Below (w.heap.size + 1) (w.alloc (.cells M 130)) w1 := ((Below.refl _ _).alloc (by simp) _).trans (hb.mono (by simp))
  have hc : ∀ i, i < 7 → ∃ u, w1.cell? ⟨w.heap.size + 1, i, none⟩ = some u := fun i hi => by
    rw [hb.cell (p := ⟨w.heap.size + 1, i, none⟩) (by simp), World.cell?_alloc_at _ _ _ _ (by simp)]
    exact ⟨Z[i], Array.getElem?_eq_getElem (by omega)⟩
  obtain ⟨q0, q1, q2, q3⟩ := set7_cells (v0 := .int .i64 s.id) (v1 := .int .i64 s.un) (v2 := .int .i64 s.is) (v3 := .int .i64 s.ma) (v4 := .int .i64 s.ra) (v5 := .int .i64 s.ev) (v6 := .bool s.ix) hc
  refine ⟨_, rfl, by omega, q0, q1, q2, q3, ?_⟩
  exact (((((((hbm.setCell (by simp) _).setCell (by simp) _).setCell (by simp) _).setCell (by simp) _).setCell (by simp) _).setCell (by simp) _).setCell (by simp) _)
set_option maxHeartbeats 2000000 in
set_option maxRecDepth 100000 in
theorem do_none (cb : Nat) (secs : List Sec) (hs : List Hold) (num day : Int) (vs v : Value) (mn md mk ms mf mt ma : Int) (w : World) (C : CkIn cb w secs hs num day vs v) (hlen : secs.length ≤ 1000000) (hf : findS secs ms = none) :
    Calls Tryz.prog 194 #[.pointer (some ⟨cb, 0, none⟩), .agg #[.int .i64 mn, .int .i64 md, .int .i64 mk, .int .i64 ms, .int .i64 mf, .int .i64 mt, .int .i64 ma]] w fun e w' => e = .returned (.int .i64 76) ∧ Below w.heap.size w w' := by
  have h0 := C.h0
  have hcl := C.lt
  have H := Lib.hid (fun W hS => find_no (· < cb) vs secs ms W hS hlen hf)
  have HS := Lib.hid (C.S.alloc (.cells #[.int .i64 mn, .int .i64 md, .int .i64 mk, .int .i64 ms, .int .i64 mf, .int .i64 mt, .int .i64 ma] 130))
  clear C hf
  have h0' : (w.alloc (.cells #[.int .i64 mn, .int .i64 md, .int .i64 mk, .int .i64 ms, .int .i64 mf, .int .i64 mt, .int .i64 ma] 130)).cell? ⟨cb, 0, none⟩ = some vs := (World.cell?_alloc_past _ _ _ hcl).trans h0
  have hne : ¬ cb = w.heap.size + 1 := by omega
  go_enter Tryz.func194, Tryz.ntmps194
  go_upto_region 1 with fail
  go_cut [5, 6] (fun s5 s6 wx => s6 = .bool false ∧ FoundAt w #[.int .i64 mn, .int .i64 md, .int .i64 mk, .int .i64 ms, .int .i64 mf, .int .i64 mt, .int .i64 ma] ⟨0, 0, 0, 0, 0, 0, false⟩ s5 wx)
  case first =>
    go_region_with (first | (go_at_call 163; refine (H.out _ ?_).mono ?_; (· first | exact HS.out.drewN 1 | exact (HS.out.alloc _).drewN 1); rintro e w1 ⟨rfl, hb1⟩; obtain ⟨hc1, hf1⟩ := bcell hb1; have hz1 := hb1.size; simp at hz1))
    all_goals (go_wp2_with fail; go_meet)
    all_goals first
      | exact ⟨rfl, found_a (s := ⟨0, 0, 0, 0, 0, 0, false⟩) hb1⟩
      | exact ⟨rfl, found_b (s := ⟨0, 0, 0, 0, 0, 0, false⟩) rfl hb1⟩
  case rest =>
    obtain ⟨rfl, sb, rfl, hsb, s0, s1, s2, s3, hbx⟩ := hcut
    have m2 := boxB hbx 2 rfl
    have HB := Lib.hid hbx
    clear hbx
    by_cases hk : mk = 3
    · subst hk
      go_wp2
      go_ret
      exact ⟨rfl, (bal brefl _).trans (HB.out.mono (by omega))⟩
    · have hk' : (mk == 3) = false := by simpa using hk
      go_wp2
      go_ret
      exact ⟨rfl, (bal brefl _).trans (HB.out.mono (by omega))⟩
end Go.Proofs.YthhoaefadfeknaaGreat
