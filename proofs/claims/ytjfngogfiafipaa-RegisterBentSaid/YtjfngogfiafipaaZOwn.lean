/- The register's keys: comparing, finding the place of a key. The register's searches: find, place, held, outstanding, strange. Laws of append, copy and clear on rows that the call owns, elements of any number of cells. -/
import Derived.Test.YtjfngogfiafipaaZRegP
import Derived.Deep.RegionHeld3
import Derived.BigQuiet
import Derived.Lib.AppendZerosOnto
import Derived.Lib.Overlaps
import Derived.Laws.Externs
import Derived.Laws.OwnMore
import Derived.Laws.CopyOwn
import Derived.Deep.RegionLaw
namespace Go.Proofs.Ytjfngogfiafipaa
open Go.RowKit
set_option linter.unusedVariables false

theorem isNaN_any (a : Int) (w : World) : Calls Try.prog 86 #[.int .i64 a] w fun e w' => e = .returned (.bool false) ∧ w = w' := by
  go_enter Try.func86, Try.ntmps86
  go_wp2
  go_ret
  exact ⟨rfl, rfl⟩
/-- the comparison of two numbers -/
def cmpI (a b : Int) : Int := if a < b then -1 else if b < a then 1 else 0
theorem compare_any (a b : Int) (w : World) : Calls Try.prog 63 #[.int .i64 a, .int .i64 b] w fun e w' => e = .returned (.int .i64 (cmpI a b)) ∧ w = w' := by
  by_cases h1 : a < b
  · have e : cmpI a b = -1 := if_pos h1
    rw [e]
    go_enter Try.func63, Try.ntmps63
    go_wp2_with (go_at_call 86; refine (isNaN_any _ _).mono ?_; rintro e w' ⟨rfl, rfl⟩)
    go_ret
    exact ⟨rfl, rfl⟩
  · by_cases h2 : b < a
    · have e : cmpI a b = 1 := by unfold cmpI; rw [if_neg h1, if_pos h2]
      rw [e]
      go_enter Try.func63, Try.ntmps63
      go_wp2_with (go_at_call 86; refine (isNaN_any _ _).mono ?_; rintro e w' ⟨rfl, rfl⟩)
      go_ret
      exact ⟨rfl, rfl⟩
    · have e : cmpI a b = 0 := by unfold cmpI; rw [if_neg h1, if_neg h2]
      rw [e]
      go_enter Try.func63, Try.ntmps63
      go_wp2_with (go_at_call 86; refine (isNaN_any _ _).mono ?_; rintro e w' ⟨rfl, rfl⟩)
      go_ret
      exact ⟨rfl, rfl⟩
/-- the first of two that is not 0 -/
def orI (a b : Int) : Int := if a = 0 then b else a
theorem or2_any (a b : Int) (g : Nat) (w : World) (h0 : w.cell? ⟨g, 0, none⟩ = some (.int .i64 a)) (h1 : w.cell? ⟨g, 1, none⟩ = some (.int .i64 b)) :
    Calls Try.prog 82 #[.slice (some ⟨g, 0, none⟩) 2 2] w fun e w' => e = .returned (.int .i64 (orI a b)) ∧ w = w' := by
  go_enter Try.func82, Try.ntmps82
  go_wp2
  go_loop [8] (fun iv => ∃ k : Nat, k ≤ 2 ∧ iv = .int .i64 k ∧ (1 ≤ k → a = 0) ∧ (2 ≤ k → b = 0)) (fun iv => 2 - (intOf iv).toNat)
  case atStart => exact ⟨0, by omega, rfl, by omega, by omega⟩
  case round =>
    obtain ⟨k, hk, rfl, ha, hb⟩ := hrel
    rcases (show k = 0 ∨ k = 1 ∨ k = 2 by omega) with rfl | rfl | rfl
    · clear ha hb
      by_cases h : a = 0
      · subst h
        go_wp2
        go_round
        case rel => exact ⟨1, by omega, by go_num, by simp, by omega⟩
        case measure => simp [intOf]
      · have e := Lib.hid (show orI a b = a from if_neg h)
        have h' : (a == 0) = false := by simpa using h
        have h2 : (a != 0) = true := by simpa using h
        go_wp2
        go_ret
        exact ⟨ret_int e.out.symm, rfl⟩
    · have h := ha (by omega)
      subst h
      clear ha hb
      by_cases h : b = 0
      · subst h
        go_wp2
        go_round
        case rel => exact ⟨2, by omega, by go_num, by simp, by simp⟩
        case measure => simp [intOf]
      · have e := Lib.hid (show orI 0 b = b from if_pos rfl)
        have h' : (b == 0) = false := by simpa using h
        have h2 : (b != 0) = true := by simpa using h
        go_wp2
        go_ret
        exact ⟨ret_int e.out.symm, rfl⟩
    · have h := ha (by omega)
      have hb' := hb (by omega)
      subst h hb'
      clear ha hb
      go_wp2
      go_ret
      exact ⟨rfl, rfl⟩
/-- the comparison of two keys -/
def cmpK (s h s' h' : Int) : Int := orI (cmpI s s') (cmpI h h')
theorem keycmp_any (s h s' h' : Int) (w : World) :
    Calls Try.prog 104 #[.agg #[.int .i64 s, .int .i64 h], .agg #[.int .i64 s', .int .i64 h']] w fun e w' => e = .returned (.int .i64 (cmpK s h s' h')) ∧ Below w.heap.size w w' := by
  obtain ⟨x, hx⟩ : ∃ x, cmpI s s' = x := ⟨_, rfl⟩
  obtain ⟨y, hy⟩ : ∃ y, cmpI h h' = y := ⟨_, rfl⟩
  have HX := Lib.hid hx
  have HY := Lib.hid hy
  have e := Lib.hid (show cmpK s h s' h' = orI x y by unfold cmpK; rw [hx, hy])
  clear hx hy
  go_enter Try.func104, Try.ntmps104
  go_wp2
  go_region_held3 (fun w' => w'.cell? ⟨w.heap.size, 0, none⟩ = some (.int .i64 s) ∧ w'.cell? ⟨w.heap.size, 1, none⟩ = some (.int .i64 h) ∧ w'.cell? ⟨w.heap.size + 1, 0, none⟩ = some (.int .i64 s') ∧ w'.cell? ⟨w.heap.size + 1, 1, none⟩ = some (.int .i64 h')) (first | go_keep) (first | (go_at_call 63; refine (compare_any _ _ _).mono ?_; (first | rw [HX.out] | rw [HY.out]); rintro e w' ⟨rfl, rfl⟩) | (go_at_call 82; refine (or2_any x y _ _ ?_ ?_).mono ?_; (· exact (World.cell?_alloc_at _ _ _ _ (by simp)).trans rfl); (· exact (World.cell?_alloc_at _ _ _ _ (by simp)).trans rfl); rintro e w' ⟨rfl, rfl⟩))
  go_wp2
  go_ret
  exact ⟨ret_int e.out.symm, bdr (bal (bal (bal brefl _) _) _)⟩
theorem of_any (s h a : Int) (w : World) :
    Calls Try.prog 103 #[.agg #[.int .i64 s, .int .i64 h, .int .i64 a]] w fun e w' => e = .returned (.agg #[.int .i64 s, .int .i64 h]) ∧ Below w.heap.size w w' := by
  go_enter Try.func103, Try.ntmps103
  go_wp2
  exact bodyPost_ret (v := .agg #[.int .i64 s, .int .i64 h]) (by simp [results, Try.results103, go_sem]) rfl ⟨rfl, bal (bal brefl _) _⟩
theorem place1_any (s h a s' h' : Int) (w : World) :
    Calls Try.prog 102 #[.agg #[.int .i64 s, .int .i64 h, .int .i64 a], .agg #[.int .i64 s', .int .i64 h']] w fun e w' => e = .returned (.int .i64 (cmpK s h s' h')) ∧ Below w.heap.size w w' := by
  go_enter Try.func102, Try.ntmps102
  go_wp2
  go_region_held3 (fun w' => w'.cell? ⟨w.heap.size, 0, none⟩ = some (.int .i64 s) ∧ w'.cell? ⟨w.heap.size, 1, none⟩ = some (.int .i64 h) ∧ w'.cell? ⟨w.heap.size, 2, none⟩ = some (.int .i64 a) ∧ w'.cell? ⟨w.heap.size + 1, 0, none⟩ = some (.int .i64 s') ∧ w'.cell? ⟨w.heap.size + 1, 1, none⟩ = some (.int .i64 h')) (first | (refine ⟨keepB hb2 ?_, keepB hb2 ?_, keepB hb2 ?_, keepB hb2 ?_, keepB hb2 ?_⟩ <;> first | (simp; done) | (simp [*]; done)) | (refine ⟨keepB hb1 ?_, keepB hb1 ?_, keepB hb1 ?_, keepB hb1 ?_, keepB hb1 ?_⟩ <;> first | (simp; done) | (simp [*]; done)) | go_keep) (first | (go_at_call 103; refine (of_any _ _ _ _).mono ?_; rintro e w1 ⟨rfl, hb1⟩) | (go_at_call 104; refine (keycmp_any _ _ _ _ _).mono ?_; rintro e w2 ⟨rfl, hb2⟩))
  go_wp2
  go_ret
  exact ⟨rfl, bup (bup (bdr (bal (bal brefl _) _)) hb1) hb2⟩
theorem cmpK_cases (s h s' h' : Int) : (cmpK s h s' h' = -1 ∧ (s < s' ∨ (s = s' ∧ h < h'))) ∨ (cmpK s h s' h' = 0 ∧ s = s' ∧ h = h') ∨ (cmpK s h s' h' = 1 ∧ (s' < s ∨ (s = s' ∧ h' < h))) := by
  unfold cmpK orI cmpI
  repeat' split
  all_goals omega
theorem cmpK_lt {x : Hold} {s h : Int} : decide (cmpK x.s x.h s h < 0) = ltK x s h := by
  have := cmpK_cases x.s x.h s h
  unfold ltK
  rw [decide_eq_decide]
  omega
theorem cmpK_eq {x : Hold} {s h : Int} : (cmpK x.s x.h s h == 0) = eqK x s h := by
  have := cmpK_cases x.s x.h s h
  unfold eqK
  rw [Bool.eq_iff_iff, beq_iff_eq, decide_eq_true_eq]
  omega
theorem ret_tib {a a' : Int} {b b' : Bool} (h : a = a' ∧ b = b') : Ending.returned (.tuple #[.int .i64 a, .bool b]) = .returned (.tuple #[.int .i64 a', .bool b']) := by
  obtain ⟨rfl, rfl⟩ := h; rfl
/-- a key is there -/
def isH (L : List Hold) (s h : Int) : Bool := match L[posH L s h]? with | some x => eqK x s h | none => false
theorem lt_pos {L : List Hold} {s h : Int} (hs : srtH L) {m : Nat} {x : Hold} (hx : L[m]? = some x) : ltK x s h = decide (m < posH L s h) := by
  by_cases hm : m < posH L s h
  · rw [posH_lt hm hx]; simp [hm]
  · rw [posH_ge hs (by omega) hx]; simp [hm]
set_option maxHeartbeats 2000000 in
theorem bsH_any (P : Nat → Prop) (v : Value) (L : List Hold) (s h : Int) (w : World) (hS : Sl 3 encHold P w v L) (hsrt : srtH L) (hlen : L.length ≤ 1000000) :
    Calls Try.prog 101 #[v, .agg #[.int .i64 s, .int .i64 h], .func (.func 102) #[] #[]] w fun e w' => e = .returned (.tuple #[.int .i64 (posH L s h), .bool (isH L s h)]) ∧ Below w.heap.size w w' := by
  obtain ⟨ao, n, c, rfl, hn, hnc, hcm⟩ := hS.shape
  have hn1 : n ≤ 1000000 := by omega
  have hple := posH_le L s h
  rw [hn] at hple
  have HLT := Lib.hid (fun (m : Nat) (x : Hold) (hx : L[m]? = some x) => lt_pos (s := s) (h := h) hsrt hx)
  obtain ⟨p, hp⟩ : ∃ p, posH L s h = p := ⟨_, rfl⟩
  obtain ⟨b, hb⟩ : ∃ b, isH L s h = b := ⟨_, rfl⟩
  rw [hp] at HLT hple
  rw [hp, hb]
  have HS := Lib.hid hS
  have HN := Lib.hid hn
  have HP := Lib.hid hp
  have HB := Lib.hid hb
  clear hS hn hp hb hlen
  go_enter Try.func101, Try.ntmps101
  go_wp2
  go_loopw [9, 10] (fun iv jv wr => ∃ i j : Nat, i ≤ p ∧ p ≤ j ∧ j ≤ n ∧ iv = .int .i64 i ∧ jv = .int .i64 j ∧ Below w.heap.size w wr ∧ w.heap.size < wr.heap.size ∧ wr.cell? ⟨w.heap.size, 0, none⟩ = some (.int .i64 s) ∧ wr.cell? ⟨w.heap.size, 1, none⟩ = some (.int .i64 h)) (fun iv jv _ => (intOf jv).toNat - (intOf iv).toNat)
  case atStart => exact ⟨0, n, by omega, hple, by omega, rfl, rfl, bal brefl _, by simp, by simp, by simp⟩
  case round =>
    obtain ⟨i, j, hip, hpj, hjn, rfl, rfl, hbr, hlt, b0, b1⟩ := hrel
    by_cases hij : i < j
    · obtain ⟨b', off, xs, xh, xa, rfl, -, hb', hL, k0, k1, k2⟩ := (HS.out.below hbr).hold (k := (i + j) / 2) (by omega)
      have hm := HLT.out _ _ hL
      obtain ⟨q, hq⟩ : ∃ q, cmpK xs xh s h = q := ⟨_, rfl⟩
      have hq' : decide (q < 0) = decide ((i + j) / 2 < p) := by rw [← hm, ← hq]; exact cmpK_lt (x := ⟨xs, xh, xa⟩)
      rw [decide_eq_decide] at hq'
      have HQ := Lib.hid hq
      have zr := hbr.size
      clear hL hm hq
      have m0 : (0 : Int) ≤ ((i : Int) + j) / 2 := by omega
      have m1 : ((i : Int) + j) / 2 < n := by omega
      have e0 : (((i : Int) + j) / 2).toNat = (i + j) / 2 := by omega
      by_cases hlt' : q < 0
      all_goals
        have hx := hq'
        clear hq'
        go_wp2
        go_region_held3 (fun w' => w'.cell? ⟨b', off + (i + j) / 2 * 3, none⟩ = some (.int .i64 xs) ∧ w'.cell? ⟨b', off + (i + j) / 2 * 3 + 1, none⟩ = some (.int .i64 xh) ∧ w'.cell? ⟨b', off + (i + j) / 2 * 3 + 2, none⟩ = some (.int .i64 xa) ∧ w'.cell? ⟨w.heap.size, 0, none⟩ = some (.int .i64 s) ∧ w'.cell? ⟨w.heap.size, 1, none⟩ = some (.int .i64 h)) (first | (refine ⟨keepB hb1 ?_, keepB hb1 ?_, keepB hb1 ?_, keepB hb1 ?_, keepB hb1 ?_⟩ <;> first | assumption | (simp; done) | (simp [*]; done)) | go_keep) (first | (go_at_call 102; refine (place1_any _ _ _ _ _ _).mono ?_; rw [HQ.out]; rintro e w1 ⟨rfl, hb1⟩))
        go_wp2
        go_roundw
        case rel => first
          | exact ⟨(i + j) / 2 + 1, j, by omega, by omega, by omega, by go_num, rfl, bup hbr (bup (bdr brefl) hb1), by have := hb1.size; simp at this; omega, by simp [*], by simp [*]⟩
          | exact ⟨i, (i + j) / 2, by omega, by omega, by omega, rfl, by go_num, bup hbr (bup (bdr brefl) hb1), by have := hb1.size; simp at this; omega, by simp [*], by simp [*]⟩
        case measure => simp [intOf]; omega
    · obtain rfl : i = j := by omega
      obtain rfl : i = p := by omega
      by_cases hpn : i < n
      · obtain ⟨b', off, xs, xh, xa, rfl, -, hb', hL, k0, k1, k2⟩ := (HS.out.below hbr).hold (k := i) (by omega)
        obtain ⟨q, hq⟩ : ∃ q, cmpK xs xh s h = q := ⟨_, rfl⟩
        have he : (q == 0) = b := by
          rw [← hq, ← HB.out]; unfold isH; rw [HP.out, hL]; exact cmpK_eq (x := ⟨xs, xh, xa⟩)
        have HQ := Lib.hid hq
        have HE := Lib.hid he
        have zr := hbr.size
        have hpn1 : (i : Int) < n := by omega
        have hd : decide (i < n) = true := by simp; omega
        clear hL hq he
        go_wp2
        go_region_held3 (fun w' => w'.cell? ⟨b', off + i * 3, none⟩ = some (.int .i64 xs) ∧ w'.cell? ⟨b', off + i * 3 + 1, none⟩ = some (.int .i64 xh) ∧ w'.cell? ⟨b', off + i * 3 + 2, none⟩ = some (.int .i64 xa) ∧ w'.cell? ⟨w.heap.size, 0, none⟩ = some (.int .i64 s) ∧ w'.cell? ⟨w.heap.size, 1, none⟩ = some (.int .i64 h)) (first | (refine ⟨keepB hb1 ?_, keepB hb1 ?_, keepB hb1 ?_, keepB hb1 ?_, keepB hb1 ?_⟩ <;> first | assumption | (simp; done) | (simp [*]; done)) | go_keep) (first | (go_at_call 102; refine (place1_any _ _ _ _ _ _).mono ?_; rw [HQ.out]; rintro e w1 ⟨rfl, hb1⟩))
        go_wp2
        go_ret2
        exact ⟨ret_tib ⟨rfl, HE.out⟩, bup hbr (bup (bdr brefl) hb1)⟩
      · have hd : decide (i < n) = false := by simpa using hpn
        have hpn1 : ¬ (i : Int) < n := by omega
        have he : b = false := by
          rw [← HB.out]; unfold isH; rw [HP.out, List.getElem?_eq_none (by have := HN.out; omega)]
        subst he
        go_wp2
        go_quiet (fail)
        go_wp2
        go_ret2
        exact ⟨rfl, below_drewZ hbr _⟩
end Go.Proofs.Ytjfngogfiafipaa
namespace Go.Proofs.Ytjfngogfiafipaa
open Go.RowKit
set_option linter.unusedVariables false
set_option linter.unusedSimpArgs false

theorem regholder_any (n : Int) (w : World) : Calls Try.prog 114 #[.int .i64 n] w fun e w' => e = .returned (.bool (inB n 1 1000)) ∧ w = w' := by
  go_enter Try.func114, Try.ntmps114
  go_wp2_with (go_at_call 66; refine (amongR_any _ _ _ _).mono ?_; rintro e w' ⟨rfl, rfl⟩)
  go_ret
  exact ⟨rfl, rfl⟩
/-- the place of a security, or the length -/
def idxS : List Sec → Int → Nat
  | [], _ => 0
  | s :: L, id => if s.id = id then 0 else idxS L id + 1
theorem idxS_le : ∀ (L : List Sec) (id : Int), idxS L id ≤ L.length
  | [], _ => Nat.le_refl _
  | s :: L, id => by have := idxS_le L id; simp only [idxS, List.length_cons]; split <;> omega
theorem findS_idx : ∀ (L : List Sec) (id : Int), findS L id = L[idxS L id]?
  | [], _ => rfl
  | s :: L, id => by
    simp only [findS, idxS]
    split
    · rfl
    · rw [findS_idx L id]; rfl
theorem find1_any (id un is ma ra ev : Int) (ix : Bool) (x : Int) (ib : Nat) (w : World) (h : w.cell? ⟨ib, 0, none⟩ = some (.int .i64 x)) :
    Calls Try.prog 93 #[.agg #[.int .i64 id, .int .i64 un, .int .i64 is, .int .i64 ma, .int .i64 ra, .int .i64 ev, .bool ix], .pointer (some ⟨ib, 0, none⟩)] w fun e w' => e = .returned (.bool (id == x)) ∧ Below w.heap.size w w' := by
  have hlt := World.block_lt_of_cell? w _ h
  simp only at hlt
  have hne : ¬ ib = w.heap.size := by omega
  have h' : (w.alloc (.cells #[.int .i64 id, .int .i64 un, .int .i64 is, .int .i64 ma, .int .i64 ra, .int .i64 ev, .bool ix] 45)).cell? ⟨ib, 0, none⟩ = some (.int .i64 x) := (World.cell?_alloc_past _ _ _ hlt).trans h
  go_enter Try.func93, Try.ntmps93
  go_wp2
  go_ret
  exact ⟨rfl, bal brefl _⟩
set_option maxHeartbeats 1000000 in
theorem idxSec_any (P : Nat → Prop) (v : Value) (L : List Sec) (x : Int) (ib : Nat) (w : World) (hS : Sl 7 encSec P w v L) (hlen : L.length ≤ 1000000) (hi : w.cell? ⟨ib, 0, none⟩ = some (.int .i64 x)) :
    Calls Try.prog 92 #[v, .func (.func 93) #[] #[.pointer (some ⟨ib, 0, none⟩)]] w fun e w' => e = .returned (.int .i64 (if idxS L x < L.length then (idxS L x : Int) else -1)) ∧ Below w.heap.size w w' := by
  obtain ⟨ao, n, c, rfl, hn, hnc, hcm⟩ := hS.shape
  have hn1 : n ≤ 1000000 := by omega
  rw [hn]
  obtain ⟨p, hp⟩ : ∃ p, idxS L x = p := ⟨_, rfl⟩
  rw [hp]
  obtain ⟨r, hr⟩ : ∃ r, (if p < n then (p : Int) else -1) = r := ⟨_, rfl⟩
  rw [hr]
  have HS := Lib.hid hS
  have HN := Lib.hid hn
  have HP := Lib.hid hp
  have HI := Lib.hid hi
  have HR := Lib.hid hr
  clear hS hn hp hlen hi hr
  go_enter Try.func92, Try.ntmps92
  go_wp2
  go_loopw [8] (fun iv wr => ∃ k : Nat, k ≤ n ∧ iv = .int .i64 k ∧ p = k + idxS (L.drop k) x ∧ Below w.heap.size w wr) (fun iv _ => n - (intOf iv).toNat)
  case atStart => exact ⟨0, by omega, rfl, by rw [List.drop_zero, Nat.zero_add]; exact HP.out.symm, brefl⟩
  case round =>
    obtain ⟨k, hk, rfl, hpk, hbr⟩ := hrel
    have zr := hbr.size
    by_cases hlt : k < n
    · obtain ⟨b, off, vid, vun, vis, vma, vra, vev, vix, rfl, -, hb', hL, k0, k1, k2, k3, k4, k5, k6⟩ := (HS.out.below hbr).sec hlt
      rw [drop_cons hL] at hpk
      simp only [idxS] at hpk
      have HI' := Lib.hid (keepB hbr HI.out)
      clear hL
      by_cases hq : vid = x
      · rw [if_pos hq, Nat.add_zero] at hpk
        have HQ := Lib.hid (show (vid == x) = true by simpa using hq)
        have hfin := Lib.hid (show (k : Int) = r by rw [← HR.out, if_pos (by omega)]; omega)
        clear hq hpk
        go_wp2_with fail
        refine (find1_any _ _ _ _ _ _ _ _ _ _ HI'.out).mono ?_
        rw [HQ.out]
        rintro e w' ⟨rfl, hb⟩
        go_wp2
        go_ret
        exact ⟨ret_int hfin.out, bup hbr hb⟩
      · rw [if_neg hq] at hpk
        have HQ := Lib.hid (show (vid == x) = false by simpa using hq)
        have HPK := Lib.hid (show p = (k + 1) + idxS (L.drop (k + 1)) x by omega)
        clear hq hpk
        go_wp2_with fail
        refine (find1_any _ _ _ _ _ _ _ _ _ _ HI'.out).mono ?_
        rw [HQ.out]
        rintro e w' ⟨rfl, hb⟩
        go_wp2
        go_roundw
        case rel => exact ⟨k + 1, by omega, by go_num, HPK.out, bup hbr hb⟩
        case measure => simp [intOf]; omega
    · rw [drop_all (by have := HN.out; omega)] at hpk
      simp only [idxS] at hpk
      have hfin := Lib.hid (show (-1 : Int) = r by rw [← HR.out, if_neg (by omega)])
      clear hpk
      go_wp2
      go_ret
      exact ⟨ret_int hfin.out, hbr⟩
/-- the value of a security -/
def valSec (s : Sec) : Value := .agg #[.int .i64 s.id, .int .i64 s.un, .int .i64 s.is, .int .i64 s.ma, .int .i64 s.ra, .int .i64 s.ev, .bool s.ix]
theorem find_no (P : Nat → Prop) (v : Value) (L : List Sec) (x : Int) (w : World) (hS : Sl 7 encSec P w v L) (hlen : L.length ≤ 1000000) (hf : findS L x = none) :
    Calls Try.prog 68 #[v, .int .i64 x] w fun e w' => e = .returned (.tuple #[.agg #[.int .i64 0, .int .i64 0, .int .i64 0, .int .i64 0, .int .i64 0, .int .i64 0, .bool false], .bool false]) ∧ Below w.heap.size w w' := by
  have hp : ¬ idxS L x < L.length := by
    rw [findS_idx] at hf
    have := List.getElem?_eq_none_iff.1 hf
    omega
  have H := Lib.hid (fun W ib hS' hi => idxSec_any P v L x ib W hS' hlen hi)
  have HS := Lib.hid hS
  have HP := Lib.hid hp
  clear hS hf hp hlen
  go_enter Try.func68, Try.ntmps68
  go_wp2_with fail
  refine (H.out _ _ ((HS.out.alloc _).alloc _) (by simp)).mono ?_
  rw [if_neg HP.out]
  rintro e w1 ⟨rfl, hb⟩
  obtain ⟨hc, hf⟩ := bcell hb
  have hz : w.heap.size + 1 < w1.heap.size := by have := hb.size; simp at this; omega
  go_wp2
  refine bodyPost_ret (v := .tuple #[.agg #[.int .i64 0, .int .i64 0, .int .i64 0, .int .i64 0, .int .i64 0, .int .i64 0, .bool false], .bool false]) (by simp [results, Try.results68, go_sem, hc, hz]) rfl ⟨rfl, bset7 (bup (bal (bal brefl _) _) hb) (by simp) _ _ _ _ _ _ _⟩
theorem find_yes (P : Nat → Prop) (v : Value) (L : List Sec) (x id un is ma ra ev : Int) (ix : Bool) (w : World) (hS : Sl 7 encSec P w v L) (hlen : L.length ≤ 1000000) (hf : findS L x = some ⟨id, un, is, ma, ra, ev, ix⟩) :
    Calls Try.prog 68 #[v, .int .i64 x] w fun e w' => e = .returned (.tuple #[.agg #[.int .i64 id, .int .i64 un, .int .i64 is, .int .i64 ma, .int .i64 ra, .int .i64 ev, .bool ix], .bool true]) ∧ Below w.heap.size w w' := by
  rw [findS_idx] at hf
  have hp : idxS L x < L.length := (List.getElem?_eq_some_iff.1 hf).1
  obtain ⟨ao, n, c, rfl, hn, hnc, hcm⟩ := hS.shape
  have H := Lib.hid (fun W ib hS' hi => idxSec_any P (.slice ao n c) L x ib W hS' hlen hi)
  obtain ⟨p, hpe⟩ : ∃ p, idxS L x = p := ⟨_, rfl⟩
  rw [hpe] at hf hp H
  have hpn : p < n := by omega
  have HS := Lib.hid hS
  have HP := Lib.hid hp
  have HF := Lib.hid hf
  obtain ⟨b, off, _, _, _, _, _, _, _, rfl, -, hb0, -⟩ := hS.sec hpn
  clear hf hp hlen hpe hn hS
  go_enter Try.func68, Try.ntmps68
  go_wp2_with fail
  refine (H.out _ _ ((HS.out.alloc _).alloc _) (by simp)).mono ?_
  rw [if_pos HP.out]
  rintro e w1 ⟨rfl, hb⟩
  obtain ⟨b', off', vid, vun, vis, vma, vra, vev, vix, he, -, hb', hL, k0, k1, k2, k3, k4, k5, k6⟩ := (((HS.out.alloc _).alloc _).below hb).sec hpn
  cases he
  rw [HF.out] at hL
  cases hL
  obtain ⟨hc, hf⟩ := bcell hb
  have hz : w.heap.size + 1 < w1.heap.size := by have := hb.size; simp at this; omega
  have hbo : ¬ b = w.heap.size + 1 := by omega
  go_wp2
  refine bodyPost_ret (v := .tuple #[.agg #[.int .i64 id, .int .i64 un, .int .i64 is, .int .i64 ma, .int .i64 ra, .int .i64 ev, .bool ix], .bool true]) (by simp [results, Try.results68, go_sem, hc, hz]) rfl ⟨rfl, bset7 (bup (bal (bal brefl _) _) hb) (by simp) _ _ _ _ _ _ _⟩
set_option maxHeartbeats 1000000 in
theorem place_any (P : Nat → Prop) (cb : Nat) (v : Value) (L : List Hold) (s h : Int) (w : World) (hv : w.cell? ⟨cb, 1, none⟩ = some v) (hS : Sl 3 encHold P w v L) (hsrt : srtH L) (hlen : L.length ≤ 1000000) :
    Calls Try.prog 83 #[.pointer (some ⟨cb, 0, none⟩), .agg #[.int .i64 s, .int .i64 h]] w fun e w' => e = .returned (.tuple #[.int .i64 (posH L s h), .bool (isH L s h)]) ∧ Below w.heap.size w w' := by
  have H := Lib.hid (fun W hS' => bsH_any P v L s h W hS' hsrt hlen)
  have HS := Lib.hid (hS.alloc (.cells #[.int .i64 s, .int .i64 h] 114))
  obtain ⟨p, hp⟩ : ∃ p, posH L s h = p := ⟨_, rfl⟩
  obtain ⟨b, hb⟩ : ∃ b, isH L s h = b := ⟨_, rfl⟩
  rw [hp, hb] at H
  rw [hp, hb]
  have hcl := World.block_lt_of_cell? w _ hv
  simp only at hcl
  have hv' : (w.alloc (.cells #[.int .i64 s, .int .i64 h] 114)).cell? ⟨cb, 1, none⟩ = some v := (World.cell?_alloc_past _ _ _ hcl).trans hv
  clear hS hp hb hsrt hlen
  go_enter Try.func83, Try.ntmps83
  go_wp2
  go_region_held3 (fun w' => w'.cell? ⟨cb, 1, none⟩ = some v ∧ w'.cell? ⟨w.heap.size, 0, none⟩ = some (.int .i64 s) ∧ w'.cell? ⟨w.heap.size, 1, none⟩ = some (.int .i64 h)) (first | (refine ⟨keepB hb1 ?_, keepB hb1 ?_, keepB hb1 ?_⟩ <;> first | assumption | (simp; done) | (simp [*]; done)) | go_keep) (first | (go_at_call 101; refine (H.out _ (HS.out.drewN 1)).mono ?_; rintro e w1 ⟨rfl, hb1⟩))
  go_wp2
  go_ret2
  exact ⟨rfl, bup (bdr (bal brefl _)) hb1⟩
theorem held_at {L : List Hold} {s h : Int} (hs : srtH L) : (isH L s h = true → ∃ a, L[posH L s h]? = some ⟨s, h, a⟩ ∧ heldH L s h = a) ∧ (isH L s h = false → heldH L s h = 0) := by
  rw [heldH_pos hs]
  unfold isH
  cases hq : L[posH L s h]? with
  | none => simp
  | some x =>
    obtain ⟨xs, xh, xa⟩ := x
    constructor
    · intro he
      obtain ⟨rfl, rfl⟩ := eqK_iff.1 he
      exact ⟨xa, rfl, by simp [he]⟩
    · intro he
      simp [he]
set_option maxHeartbeats 1000000 in
theorem held_any (P : Nat → Prop) (cb : Nat) (v : Value) (L : List Hold) (s h : Int) (w : World) (hv : w.cell? ⟨cb, 1, none⟩ = some v) (hS : Sl 3 encHold P w v L) (hsrt : srtH L) (hlen : L.length ≤ 1000000) :
    Calls Try.prog 53 #[.pointer (some ⟨cb, 0, none⟩), .int .i64 s, .int .i64 h] w fun e w' => e = .returned (.int .i64 (heldH L s h)) ∧ Below w.heap.size w w' := by
  have H := place_any P cb v L s h w hv hS hsrt hlen
  obtain ⟨hy, hn⟩ := held_at (s := s) (h := h) hsrt
  have hple := posH_le L s h
  obtain ⟨p, hp⟩ : ∃ p, posH L s h = p := ⟨_, rfl⟩
  obtain ⟨b, hb⟩ : ∃ b, isH L s h = b := ⟨_, rfl⟩
  rw [hp, hb] at H
  rw [hp] at hy hple
  rw [hb] at hy hn
  have HH := Lib.hid H
  cases b
  · rw [hn rfl]
    clear H hy hn hp hb hv hS hsrt
    go_enter Try.func53, Try.ntmps53
    go_wp2_with fail
    refine HH.out.mono ?_
    rintro e w1 ⟨rfl, hb1⟩
    go_wp2
    go_ret
    exact ⟨rfl, hb1⟩
  · obtain ⟨a, hL, ha⟩ := hy rfl
    rw [ha]
    obtain ⟨ao, n, c, rfl, hn', hnc, hcm⟩ := hS.shape
    have hpn : p < n := by have := (List.getElem?_eq_some_iff.1 hL).1; omega
    have HS := Lib.hid hS
    have HV := Lib.hid hv
    have HL := Lib.hid hL
    clear H hy hn hp hb hv hS hsrt ha hL hn'
    go_enter Try.func53, Try.ntmps53
    go_wp2_with fail
    refine HH.out.mono ?_
    rintro e w1 ⟨rfl, hb1⟩
    obtain ⟨b', off', vs, vh, va, he, -, hb', hL, k0, k1, k2⟩ := (HS.out.below hb1).hold hpn
    rw [HL.out] at hL
    cases hL
    subst he
    have hv1 := keepB hb1 HV.out
    go_wp2
    go_ret
    exact ⟨rfl, hb1⟩
end Go.Proofs.Ytjfngogfiafipaa
namespace Go.Proofs.Ytjfngogfiafipaa
open Go.RowKit
set_option linter.unusedVariables false
set_option linter.unusedSimpArgs false

section
variable {P : Program}
theorem run_copy_rowZ (w : World) (dT sT ty elem : TypeId) (g o dLen dCap : Nat) (a : Addr) (sLen sCap : Nat) (cur : Array Value) (t : TypeId) (cs : List Value) (z n : Nat)
    (hu : P.underlying dT = some (.slice elem)) (hs : (P.info? elem).map (·.size) = some z)
    (hg : w.heap[g]? = some (.cells cur t (0, 0))) (hn : Nat.min sLen dLen = n) (hl : cs.length = n * z)
    (hsrc : ∀ j v, cs[j]? = some v → w.cell? (a.add j) = some v) (hfit : o + cs.length ≤ cur.size) (h1 : ∀ v ∈ cs, v.oneCell' = true) :
    (Builtin.copy_ #[dT, sT] ty #[.slice (some ⟨g, o, none⟩) dLen dCap, .slice (some a) sLen sCap]).run P w =
      .ok (goInt n) (w.setRow g (cur.toList.take o ++ cs ++ cur.toList.drop (o + cs.length)).toArray) := by
  have hf := run_firstCells_some (P := P) w z n a sLen sCap cs hl hsrc
  have hst := run_storeCells_at P g o t cs 0 cur w hg (by simpa using hfit) h1
  cases hq : P.info? elem with
  | none => simp [hq] at hs
  | some i =>
    have hi : i.size = z := by simpa [hq] using hs
    simp [Builtin.copy_, run_underlying hu, Builtin.lenOf, sizeOf, typeInfo, hq, hi, hn, hf, hst]
theorem wp_copy_runZ (w : World) {o : Oper} {a : Act} {K : Act → World → Prop} {Q : Exit → Act → World → Prop} (d s : Operand) (t t' : TypeId)
    (ho : o.op = .call { callee := .builtin .copy, args := #[d, s], argTypes := #[t, t'] }) (v u : Value) (hd : a.eval d = v) (hs : a.eval s = u) {v' : Value} {w' : World}
    (hr : (Builtin.copy_ #[t, t'] o.type #[v, u]).run P w = .ok v' w') (h : K (a.put o.dst v') w') : o.wp P a w K Q := by
  unfold Oper.wp execOp
  simp only [ho, resolve, invoke, builtin, Sem.run_bind, Sem.run_pure, Result.andThen_ok, List.map_toArray, List.map_cons, List.map_nil, hd, hs, hr]
  exact h
theorem wpList_copy_runZ (w : World) {ops : Array Oper} {rest : List Oper} {o : Oper} {a : Act} {Q : Exit → Act → World → Prop} (hgd : o.guard = none) (d s : Operand) (t t' : TypeId)
    (ho : o.op = .call { callee := .builtin .copy, args := #[d, s], argTypes := #[t, t'] }) (v u : Value) (hd : a.eval d = v) (hs : a.eval s = u) {v' : Value} {w' : World}
    (hr : (Builtin.copy_ #[t, t'] o.type #[v, u]).run P w = .ok v' w') (h : wpList P ops Q rest (a.put o.dst v') w') : wpList P ops Q (o :: rest) a w :=
  wpList_plain hgd fun _ hK => wp_copy_runZ w d s t t' ho v u hd hs hr (hK _ _ h)
theorem step_copy_runZ {ops : Array Oper} {o : Oper} {a : Act} {w : World} {K : Act → World → Prop} {Q : Exit → Act → World → Prop} {E : Prop}
    (hg : o.guard = none) (d x : Operand) (dT sT : TypeId) (hop : o.op = Op.call { callee := Callee.builtin Builtin.copy, args := #[d, x], argTypes := #[dT, sT] })
    (v u : Value) (hd : a.eval d = v) (hx : a.eval x = u) {v' : Value} {w' : World} (hr : (Builtin.copy_ #[dT, sT] o.type #[v, u]).run P w = .ok v' w') (hK : K (a.put o.dst v') w') :
    if Region.wanted o (yielded ops a.tmps) = true then Oper.wp P o a w K Q else E := by
  have hw : Region.wanted o (yielded ops a.tmps) = true := by simp [Region.wanted, hg]
  rw [if_pos hw]
  unfold Oper.wp
  simp [execOp, hop, resolve, invoke, builtin, hd, hx, hr, Result.andThen]
  exact hK
/-- an append as one step of a region that draws -/
theorem step_append_runZ {ops : Array Oper} {o : Oper} {a : Act} {w : World} {K : Act → World → Prop} {Q : Exit → Act → World → Prop} {E : Prop}
    (hg : o.guard = none) (d x : Operand) (dT sT : TypeId) (hop : o.op = Op.call { callee := Callee.builtin Builtin.append, args := #[d, x], argTypes := #[dT, sT] })
    (v u : Value) (hd : a.eval d = v) (hx : a.eval x = u) {v' : Value} {w' : World} (hr : (Builtin.append_ #[dT, sT] o.type #[v, u]).run P w = .ok v' w') (hK : K (a.put o.dst v') w') :
    if Region.wanted o (yielded ops a.tmps) = true then Oper.wp P o a w K Q else E := by
  have hw : Region.wanted o (yielded ops a.tmps) = true := by simp [Region.wanted, hg]
  rw [if_pos hw]
  unfold Oper.wp
  simp [execOp, hop, resolve, invoke, builtin, hd, hx, hr, Result.andThen]
  exact hK
theorem wpList_clear_runZ (w : World) {ops : Array Oper} {rest : List Oper} {o : Oper} {a : Act} {Q : Exit → Act → World → Prop} (hgd : o.guard = none) (s : Operand) (t : TypeId)
    (ho : o.op = .call { callee := .builtin .clear, args := #[s], argTypes := #[t] }) (v : Value) (hs : a.eval s = v) {v' : Value} {w' : World}
    (hr : (Builtin.clear_ #[t] o.type #[v]).run P w = .ok v' w') (h : wpList P ops Q rest (a.put o.dst v') w') : wpList P ops Q (o :: rest) a w := by
  refine wpList_plain hgd fun _ hK => ?_
  unfold Oper.wp execOp
  simp only [ho, resolve, invoke, builtin, Sem.run_bind, Sem.run_pure, Result.andThen_ok, List.map_toArray, List.map_cons, List.map_nil, hs, hr]
  exact hK _ _ h
theorem run_clear_rowZ (w : World) (t elem ty : TypeId) (i : TypeInfo) (zv : Value) (g o n c : Nat) (cur : Array Value) (tt : TypeId)
    (hu : P.underlying t = some (.slice elem)) (hi : P.info? elem = some i) (hz : i.zero = some zv)
    (hg : w.heap[g]? = some (.cells cur tt (0, 0))) (hfit : o + (Builtin.zeroCells zv.cells n).toList.length ≤ cur.size) (h1 : ∀ v ∈ (Builtin.zeroCells zv.cells n).toList, v.oneCell' = true) :
    (Builtin.clear_ #[t] ty #[.slice (some ⟨g, o, none⟩) n c]).run P w =
      .ok (.tuple #[]) (w.setRow g (cur.toList.take o ++ (Builtin.zeroCells zv.cells n).toList ++ cur.toList.drop (o + (Builtin.zeroCells zv.cells n).toList.length)).toArray) := by
  have hst := run_storeCells_at P g o tt (Builtin.zeroCells zv.cells n).toList 0 cur w hg (by simpa using hfit) h1
  cases n with
  | zero =>
    simp [Builtin.clear_, run_underlying hu, Builtin.zeroCells]
    rw [setRow_self w g cur tt (0, 0) hg]
  | succ n =>
    simp at hst
    simp [Builtin.clear_, run_underlying hu, zeroValue, typeInfo, hi, hz, hst, Result.andThen]
end
theorem heap_setRow {w : World} {g : Nat} {old cs : Array Value} {t : TypeId} (hg : w.heap[g]? = some (.cells old t (0, 0))) : (w.setRow g cs).heap[g]? = some (.cells cs t (0, 0)) := setRow_heap w g old cs t _ hg
theorem grownBy_setRow (w : World) (g : Nat) (cs : Array Value) : w.grownBy (w.setRow g cs) (some g) :=
  ⟨rfl, rfl, rfl, by simp [World.setRow], fun k _ hne => setRow_other w g k cs (by simpa using hne)⟩
theorem grownBy_transZ {a b c : World} {row : Option Nat} (h : a.grownBy b row) (k : b.grownBy c row) : a.grownBy c row :=
  ⟨k.os.trans h.os, k.tape.trans h.tape, k.output.trans h.output, Nat.le_trans h.size k.size, fun i hi hne => (k.block i (Nat.lt_of_lt_of_le hi h.size) hne).trans (h.block i hi hne)⟩
theorem grownBy_new {a b : World} {row : Option Nat} (h : a.heap.size ≤ b.heap.size) (ho : b.os = a.os) (ht : b.tape = a.tape) (hu : b.output = a.output) (hb : ∀ k, k < a.heap.size → some k ≠ row → b.heap[k]? = a.heap[k]?) : a.grownBy b row := ⟨ho, ht, hu, h, hb⟩
/-- a row that is owned, known whole -/
theorem own_whole {w : World} {base : Nat} {e : TypeId} {z : Nat} {v : Value} {n : Nat} {xs : List Value} (h : w.ownsRow base e z v n xs) (hn : 0 < n) :
    ∃ g cap rest, v = .slice (some ⟨g, 0, none⟩) n cap ∧ base ≤ g ∧ w.heap[g]? = some (.cells (xs ++ rest).toArray e (0, 0)) ∧ n ≤ cap ∧ cap ≤ maxLen ∧ xs.length = n * z ∧ (xs ++ rest).length = cap * z := by
  rcases h.2 with ⟨rfl, rfl⟩ | ⟨g, cap, cur, rfl, hbg, hg, hnc, hcm, hcs, htake⟩
  · omega
  · have e : xs ++ cur.toList.drop (n * z) = cur.toList := by rw [← htake]; exact List.take_append_drop _ _
    exact ⟨g, cap, cur.toList.drop (n * z), rfl, hbg, by rw [e]; simpa using hg, hnc, hcm, h.1, by rw [e]; simpa using hcs⟩
theorem own_mk {w : World} {base g cap n z : Nat} {e : TypeId} {xs rest : List Value} (hbg : base ≤ g) (hg : w.heap[g]? = some (.cells (xs ++ rest).toArray e (0, 0))) (hnc : n ≤ cap) (hcm : cap ≤ maxLen) (hx : xs.length = n * z) (hl : (xs ++ rest).length = cap * z) :
    w.ownsRow base e z (.slice (some ⟨g, 0, none⟩) n cap) n xs :=
  ⟨hx, .inr ⟨g, cap, _, rfl, hbg, hg, hnc, hcm, by simpa using hl, by rw [← hx]; exact List.take_left⟩⟩
theorem cell_whole {w : World} {g : Nat} {e : TypeId} {xs : List Value} (hg : w.heap[g]? = some (.cells xs.toArray e (0, 0))) {j : Nat} {u : Value} (hj : xs[j]? = some u) : w.cell? ⟨g, j, none⟩ = some u := by
  rw [cell_of_row w g j _ e (0, 0) hg]
  simpa using hj
theorem add_litZ (g o j : Nat) : (⟨g, o, none⟩ : Addr).add j = ⟨g, o + j, none⟩ := by unfold Addr.add; split <;> simp_all
theorem oneE {α : Type} {enc : α → List Value} (h1 : ∀ a, ∀ u ∈ enc a, u.oneCell' = true) (L : List α) : ∀ u ∈ flatE enc L, u.oneCell' = true := by
  intro u hu
  obtain ⟨a, _, ha⟩ := List.mem_flatMap.1 hu
  exact h1 a u ha
theorem shift_rows (xs1 xs2 rest e : List Value) (p z : Nat) (h1 : xs1.length = p) (he : e.length = z) (hr : z ≤ (xs2 ++ rest).length) :
    (((xs1 ++ xs2 ++ rest).take (p + z) ++ xs2 ++ (xs1 ++ xs2 ++ rest).drop (p + z + xs2.length)).take p ++ e ++ ((xs1 ++ xs2 ++ rest).take (p + z) ++ xs2 ++ (xs1 ++ xs2 ++ rest).drop (p + z + xs2.length)).drop (p + e.length)) = (xs1 ++ (e ++ xs2)) ++ (xs1 ++ xs2 ++ rest).drop (p + z + xs2.length) := by
  subst h1 he
  have e0 : (xs1 ++ xs2 ++ rest).take (xs1.length + e.length) = xs1 ++ (xs2 ++ rest).take e.length := by
    rw [List.append_assoc, List.take_append]; simp
    exact List.take_of_length_le (by omega)
  rw [e0]
  have el : (xs1 ++ (xs2 ++ rest).take e.length).length = xs1.length + e.length := by
    rw [List.length_append, List.length_take, Nat.min_eq_left hr]
  have e1 : ((xs1 ++ (xs2 ++ rest).take e.length) ++ xs2 ++ (xs1 ++ xs2 ++ rest).drop (xs1.length + e.length + xs2.length)).take xs1.length = xs1 := by
    rw [List.append_assoc, List.append_assoc, List.take_left]
  have e2 : ((xs1 ++ (xs2 ++ rest).take e.length) ++ xs2 ++ (xs1 ++ xs2 ++ rest).drop (xs1.length + e.length + xs2.length)).drop (xs1.length + e.length) = xs2 ++ (xs1 ++ xs2 ++ rest).drop (xs1.length + e.length + xs2.length) := by
    rw [List.append_assoc (xs1 ++ _), ← el, List.drop_left]
  rw [e1, e2]; simp
end Go.Proofs.Ytjfngogfiafipaa
