/- register: the place of a security. register: Add. slices.Insert (one element) and slices.Delete (one element) at rows that the call owns. Printed by wip/gen/ins.py. register: Add, the way that ends well. -/
import Derived.Test.YtpoidaenkjjdfaaZRegN
import Derived.Test.YtpoidaenkjjdfaaZRegP
import Derived.BigQuiet
namespace Go.Proofs.Ytpoidaenkjjdfaa
open Go.RowKit
set_option linter.unusedVariables false
set_option linter.unusedSimpArgs false
/-- how many securities lie ahead of an id -/
def posS : List Sec → Int → Nat
  | [], _ => 0
  | x :: L, id => if x.id < id then posS L id + 1 else 0
theorem posS_le : ∀ (L : List Sec) (id : Int), posS L id ≤ L.length
  | [], _ => Nat.le_refl _
  | x :: L, id => by
    have := posS_le L id
    simp only [posS, List.length_cons]; split <;> omega
theorem secsB_gt : ∀ {p : Int} {L : List Sec}, secsB p L = true → ∀ s ∈ L, p < s.id
  | p, [], _, s, hs => by simp at hs
  | p, x :: L, h, s, hs => by
    simp only [secsB, Bool.and_eq_true, decide_eq_true_eq] at h
    rcases List.mem_cons.1 hs with rfl | hs
    · exact h.2.1
    · have := secsB_gt h.2.2 s hs; omega
theorem lt_posS : ∀ {p : Int} {L : List Sec} {id : Int}, secsB p L = true → ∀ {m : Nat} {x : Sec}, L[m]? = some x → decide (x.id < id) = decide (m < posS L id)
  | _, [], _, _, m, x, hx => by simp at hx
  | p, y :: L, id, h, m, x, hx => by
    simp only [secsB, Bool.and_eq_true, decide_eq_true_eq] at h
    rw [decide_eq_decide]
    have e : posS (y :: L) id = if y.id < id then posS L id + 1 else 0 := rfl
    rw [e]
    cases m with
    | zero =>
      simp only [List.getElem?_cons_zero, Option.some.injEq] at hx
      subst hx
      split <;> omega
    | succ m =>
      simp only [List.getElem?_cons_succ] at hx
      have ih := lt_posS (id := id) h.2.2 hx
      rw [decide_eq_decide] at ih
      split
      · omega
      · have := secsB_gt h.2.2 x (List.mem_of_getElem? hx); omega
def isS (L : List Sec) (id : Int) : Bool := match L[posS L id]? with | some x => decide (x.id = id) | none => false
theorem findS_none : ∀ {p : Int} {L : List Sec} {id : Int}, secsB p L = true → id ≤ p → findS L id = none
  | _, [], _, _, _ => rfl
  | p, y :: L, id, h, hp => by
    simp only [secsB, Bool.and_eq_true, decide_eq_true_eq] at h
    simp only [findS]
    rw [if_neg (by omega)]
    exact findS_none h.2.2 (by omega)
theorem isS_find : ∀ {p : Int} {L : List Sec} {id : Int}, secsB p L = true → isS L id = (findS L id).isSome
  | _, [], _, _ => rfl
  | p, y :: L, id, h => by
    have h0 := h
    simp only [secsB, Bool.and_eq_true, decide_eq_true_eq] at h
    have ih := isS_find (id := id) h.2.2
    unfold isS at ih ⊢
    simp only [posS, findS]
    by_cases h1 : y.id < id
    · rw [if_pos h1, if_neg (by omega)]
      simpa using ih
    · rw [if_neg h1]
      by_cases h2 : y.id = id
      · simp [h2]
      · rw [if_neg h2, findS_none h.2.2 (by omega)]
        simp [h2]
theorem add1_any (id un is ma ra ev : Int) (ix : Bool) (x : Int) (w : World) :
    Calls Try.prog 76 #[.agg #[.int .i64 id, .int .i64 un, .int .i64 is, .int .i64 ma, .int .i64 ra, .int .i64 ev, .bool ix], .int .i64 x] w fun e w' => e = .returned (.int .i64 (cmpI id x)) ∧ Below w.heap.size w w' := by
  go_enter Try.func76, Try.ntmps76
  go_wp2_with (go_at_call 77; refine (compare_any _ _ _).mono ?_; rintro e w' ⟨rfl, rfl⟩)
  go_ret
  exact ⟨rfl, bal brefl _⟩
theorem cmpI_cases (a b : Int) : (cmpI a b = -1 ∧ a < b) ∨ (cmpI a b = 0 ∧ a = b) ∨ (cmpI a b = 1 ∧ b < a) := by
  unfold cmpI
  repeat' split
  all_goals omega
set_option maxHeartbeats 2000000 in
theorem bsS_any (P : Nat → Prop) (v : Value) (L : List Sec) (s p0 : Int) (w : World) (hS : Sl 7 encSec P w v L) (hsrt : secsB p0 L = true) (hlen : L.length ≤ 1000000) :
    Calls Try.prog 75 #[v, .int .i64 s, .func (.func 76) #[] #[]] w fun e w' => e = .returned (.tuple #[.int .i64 (posS L s), .bool (isS L s)]) ∧ Below w.heap.size w w' := by
  obtain ⟨ao, n, c, rfl, hn, hnc, hcm⟩ := hS.shape
  have hn1 : n ≤ 1000000 := by omega
  have hple := posS_le L s
  rw [hn] at hple
  have HLT := Lib.hid (fun (m : Nat) (x : Sec) (hx : L[m]? = some x) => lt_posS (id := s) hsrt hx)
  obtain ⟨p, hp⟩ : ∃ p, posS L s = p := ⟨_, rfl⟩
  obtain ⟨b, hb⟩ : ∃ b, isS L s = b := ⟨_, rfl⟩
  rw [hp] at HLT hple
  rw [hp, hb]
  have HS := Lib.hid hS
  have HN := Lib.hid hn
  have HP := Lib.hid hp
  have HB := Lib.hid hb
  clear hS hn hp hb hlen hsrt
  go_enter Try.func75, Try.ntmps75
  go_wp2
  go_loopw [9, 10] (fun iv jv wr => ∃ i j : Nat, i ≤ p ∧ p ≤ j ∧ j ≤ n ∧ iv = .int .i64 i ∧ jv = .int .i64 j ∧ Below w.heap.size w wr) (fun iv jv _ => (intOf jv).toNat - (intOf iv).toNat)
  case atStart => exact ⟨0, n, by omega, hple, by omega, rfl, rfl, brefl⟩
  case round =>
    obtain ⟨i, j, hip, hpj, hjn, rfl, rfl, hbr⟩ := hrel
    by_cases hij : i < j
    · obtain ⟨b', off, vid, vun, vis, vma, vra, vev, vix, rfl, -, hb', hL, k0, k1, k2, k3, k4, k5, k6⟩ := (HS.out.below hbr).sec (k := (i + j) / 2) (by omega)
      have hm : decide (vid < s) = decide ((i + j) / 2 < p) := HLT.out _ _ hL
      obtain ⟨q, hq⟩ : ∃ q, cmpI vid s = q := ⟨_, rfl⟩
      have hq' : decide (q < 0) = decide ((i + j) / 2 < p) := by rw [← hm, ← hq, decide_eq_decide]; have := cmpI_cases vid s; omega
      rw [decide_eq_decide] at hq'
      have HQ := Lib.hid hq
      have zr := hbr.size
      have HBR := Lib.hid hbr
      clear hL hm hq hbr
      have m0 : (0 : Int) ≤ ((i : Int) + j) / 2 := by omega
      have m1 : ((i : Int) + j) / 2 < n := by omega
      have e0 : (((i : Int) + j) / 2).toNat = (i + j) / 2 := by omega
      by_cases hlt' : q < 0
      all_goals
        have hx := hq'
        clear hq'
        go_wp2_with (go_at_call 76; refine (add1_any _ _ _ _ _ _ _ _ _).mono ?_; rw [HQ.out]; rintro e w1 ⟨rfl, hb1⟩)
        go_roundw
        case rel => first
          | exact ⟨(i + j) / 2 + 1, j, by omega, by omega, by omega, by go_num, rfl, bup HBR.out hb1⟩
          | exact ⟨i, (i + j) / 2, by omega, by omega, by omega, rfl, by go_num, bup HBR.out hb1⟩
        case measure => simp [intOf]; omega
    · obtain rfl : i = j := by omega
      obtain rfl : i = p := by omega
      by_cases hpn : i < n
      · obtain ⟨b', off, vid, vun, vis, vma, vra, vev, vix, rfl, -, hb', hL, k0, k1, k2, k3, k4, k5, k6⟩ := (HS.out.below hbr).sec (k := i) (by omega)
        obtain ⟨q, hq⟩ : ∃ q, cmpI vid s = q := ⟨_, rfl⟩
        have he : (q == 0) = b := by
          rw [← hq, ← HB.out]; unfold isS; rw [HP.out, hL]; have := cmpI_cases vid s; simp only; rw [Bool.eq_iff_iff, beq_iff_eq, decide_eq_true_eq]; omega
        have HQ := Lib.hid hq
        have HE := Lib.hid he
        have HBR := Lib.hid hbr
        have zr := hbr.size
        have hpn1 : (i : Int) < n := by omega
        have hd : decide (i < n) = true := by simp; omega
        clear hL hq he hbr
        go_wp2_with (go_at_call 76; refine (add1_any _ _ _ _ _ _ _ _ _).mono ?_; rw [HQ.out]; rintro e w1 ⟨rfl, hb1⟩)
        go_ret2
        exact ⟨ret_tib ⟨rfl, HE.out⟩, bup HBR.out hb1⟩
      · have hd : decide (i < n) = false := by simpa using hpn
        have hpn1 : ¬ (i : Int) < n := by omega
        have he : b = false := by
          rw [← HB.out]; unfold isS; rw [HP.out, List.getElem?_eq_none (by have := HN.out; omega)]
        subst he
        go_wp2
        go_ret2
        exact ⟨rfl, hbr⟩
end Go.Proofs.Ytpoidaenkjjdfaa
namespace Go.Proofs.Ytpoidaenkjjdfaa
open Go.RowKit
set_option linter.unusedVariables false
set_option linter.unusedSimpArgs false
/-- the error and the register of Add -/
def raE (R : Reg) (x : Sec) : Int := if chkE R = 0 then (if secOk x = true ∧ isS R.secs x.id = false then (if R.secs.length = 20 then 3 else 0) else 76) else chkE R
def raR (R : Reg) (x : Sec) : Reg := if raE R x = 0 then ⟨R.secs.take (posS R.secs x.id) ++ x :: R.secs.drop (posS R.secs x.id), R.hs, R.ms⟩ else ⟨[], [], []⟩
set_option maxHeartbeats 4000000 in
set_option maxRecDepth 100000 in
theorem radd_bad (P : Nat → Prop) (vs vh vm : Value) (R : Reg) (id un is ma ra ev : Int) (ix : Bool) (w : World) (hr : RgIn P w vs vh vm R) (hS : R.secs.length ≤ 1000000) (hH : R.hs.length ≤ 1000000) (hM : R.ms.length ≤ 1000000) (hP : ∀ b, w.heap.size ≤ b → P b) (hx : chkE R ≠ 0) :
    Calls Try.prog 21 #[.agg #[vs, vh, vm], .agg #[.int .i64 id, .int .i64 un, .int .i64 is, .int .i64 ma, .int .i64 ra, .int .i64 ev, .bool ix]] w (GaveR P (raR R ⟨id, un, is, ma, ra, ev, ix⟩) (raE R ⟨id, un, is, ma, ra, ev, ix⟩) w) := by
  obtain ⟨a0, n0, c0, rfl, hn0, -, -⟩ := hr.S.shape
  obtain ⟨a1, n1, c1, rfl, -, -, -⟩ := hr.H.shape
  obtain ⟨a2, n2, c2, rfl, -, -, -⟩ := hr.M.shape
  have HC := Lib.hid (fun W hW => check_any P _ _ _ R W (hr.below (w' := W) hW) hS hH hM)
  have HR := Lib.hid hr
  have HN0 := Lib.hid hn0
  clear hr hn0
  have hf1 : raE R ⟨id, un, is, ma, ra, ev, ix⟩ = chkE R := if_neg hx
  have hf2 : raR R ⟨id, un, is, ma, ra, ev, ix⟩ = ⟨[], [], []⟩ := if_neg (by rw [hf1]; exact hx)
  rw [hf1, hf2]
  clear hf1 hf2
  obtain ⟨E0, hE0⟩ : ∃ E, chkE R = E := ⟨_, rfl⟩
  rw [hE0] at HC hx ⊢
  clear hE0
  have g1 : (E0 != 0) = true := by simpa using hx
  have g2 : (E0 == 0) = false := by simpa using hx
  go_enter Try.func21, Try.ntmps21
  go_wp2_with fail
  refine (HC.out _ (bal (bal (bal brefl _) _) _)).mono ?_
  rintro e w1 ⟨rfl, hb1⟩
  obtain ⟨hc, hf⟩ := bcell hb1
  have hz : w.heap.size + 1 + 1 < w1.heap.size := by have := hb1.size; simp at this; omega
  go_wp2
  refine bodyPost_ret (v := .tuple #[.agg #[.slice none 0 0, .slice none 0 0, .slice none 0 0], .int .i64 E0]) (by simp [results, Try.results21, go_sem, hc, hz]) rfl (gave_nil rfl rfl ?_)
  exact bset3 (bup (bal (bal (bal brefl _) _) _) hb1) (by omega) _ _ _
set_option maxHeartbeats 4000000 in
set_option maxRecDepth 100000 in
theorem radd_sec (P : Nat → Prop) (vs vh vm : Value) (R : Reg) (id un is ma ra ev : Int) (ix : Bool) (w : World) (hr : RgIn P w vs vh vm R) (hS : R.secs.length ≤ 1000000) (hH : R.hs.length ≤ 1000000) (hM : R.ms.length ≤ 1000000) (hP : ∀ b, w.heap.size ≤ b → P b) (hx : chkE R = 0) (hy : secB id un is ma ra ev = false) :
    Calls Try.prog 21 #[.agg #[vs, vh, vm], .agg #[.int .i64 id, .int .i64 un, .int .i64 is, .int .i64 ma, .int .i64 ra, .int .i64 ev, .bool ix]] w (GaveR P (raR R ⟨id, un, is, ma, ra, ev, ix⟩) (raE R ⟨id, un, is, ma, ra, ev, ix⟩) w) := by
  obtain ⟨a0, n0, c0, rfl, hn0, -, -⟩ := hr.S.shape
  obtain ⟨a1, n1, c1, rfl, -, -, -⟩ := hr.H.shape
  obtain ⟨a2, n2, c2, rfl, -, -, -⟩ := hr.M.shape
  have HC := Lib.hid (fun W hW => check_any P _ _ _ R W (hr.below (w' := W) hW) hS hH hM)
  have HR := Lib.hid hr
  have HN0 := Lib.hid hn0
  clear hr hn0
  have hf1 : raE R ⟨id, un, is, ma, ra, ev, ix⟩ = 76 := by unfold raE; rw [if_pos hx, if_neg (by rintro ⟨h, -⟩; simp [secOk, hy] at h)]
  have hf2 : raR R ⟨id, un, is, ma, ra, ev, ix⟩ = ⟨[], [], []⟩ := if_neg (by rw [hf1]; omega)
  rw [hf1, hf2]
  clear hf1 hf2
  rw [hx] at HC
  have hok := chkE_iff.1 hx
  have HBS := Lib.hid (fun W (hW : Below w.heap.size w W) => bsS_any P _ R.secs id 0 W (HR.out.S.below hW) hok.secs hS)
  have HOK := Lib.hid hok
  clear hok hx
  obtain ⟨pp, hpp⟩ : ∃ p, posS R.secs id = p := ⟨_, rfl⟩
  obtain ⟨fo, hfo⟩ : ∃ b, isS R.secs id = b := ⟨_, rfl⟩
  obtain ⟨so, hso⟩ : ∃ b, secB id un is ma ra ev = b := ⟨_, rfl⟩
  rw [hpp, hfo] at HBS
  have HPP := Lib.hid hpp
  have HSO := Lib.hid hso
  have e1 : so = false := hso.symm.trans hy
  clear hy
  clear hpp hfo hso
  subst e1
  go_enter Try.func21, Try.ntmps21
  go_wp2_with fail
  refine (HC.out _ (bal (bal (bal brefl _) _) _)).mono ?_
  rintro e w1 ⟨rfl, hb1⟩
  have HB1 := Lib.hid (bup (bal (bal (bal brefl _) _) _) hb1)
  have hrb := (hb1.block w.heap.size (by simp; omega)).trans ((heap_alloc_old _ _ (by simp; omega)).trans ((heap_alloc_old _ _ (by simp)).trans (heap_alloc_new w _)))
  have hmb := (hb1.block (w.heap.size + 1) (by simp)).trans ((heap_alloc_old _ _ (by simp)).trans (heap_at (by simp)))
  have hxb := (hb1.block (w.heap.size + 1 + 1) (by simp)).trans (heap_at (by simp))
  have z1 := hb1.size
  simp only [World.size_alloc] at z1
  have HRB := Lib.hid hrb
  have HMB := Lib.hid hmb
  have HXB := Lib.hid hxb
  have r0 := cell_heap (i := 0) hrb rfl
  have m0 := cell_heap (i := 0) hmb rfl
  clear hrb hmb hxb hb1
  go_wp2_with fail
  refine (HBS.out _ HB1.out).mono ?_
  rintro e w2 ⟨rfl, hb2⟩
  have HB2 := Lib.hid (bup HB1.out hb2)
  have hmb2 := (hb2.block (w.heap.size + 1) (by omega)).trans HMB.out
  have HRB2 := Lib.hid ((hb2.block w.heap.size (by omega)).trans HRB.out)
  have HMB2 := Lib.hid hmb2
  have HXB2 := Lib.hid ((hb2.block (w.heap.size + 1 + 1) (by omega)).trans HXB.out)
  have z2 := hb2.size
  clear r0 m0 hb2
  have m0 := cell_heap (i := 0) hmb2 rfl
  have m1 := cell_heap (i := 1) hmb2 rfl
  have m2 := cell_heap (i := 2) hmb2 rfl
  have m3 := cell_heap (i := 3) hmb2 rfl
  have m4 := cell_heap (i := 4) hmb2 rfl
  have m5 := cell_heap (i := 5) hmb2 rfl
  have m6 := cell_heap (i := 6) hmb2 rfl
  clear hmb2
  go_wp2_with fail
  refine (security_any _ _ _ _ _ _ _ _).mono ?_
  rw [HSO.out]
  rintro e w3 ⟨rfl, hb3⟩
  have HB3 := Lib.hid (bup HB2.out hb3)
  have z3 := hb3.size
  have hrb3 := (hb3.block w.heap.size (by omega)).trans HRB2.out
  have hmb3 := (hb3.block (w.heap.size + 1) (by omega)).trans HMB2.out
  have hxb3 := (hb3.block (w.heap.size + 1 + 1) (by omega)).trans HXB2.out
  clear m0 m1 m2 m3 m4 m5 m6 hb3
  have y0 := cell_heap (i := 0) hrb3 rfl
  have x0 := cell_heap (i := 0) hxb3 rfl
  have x1 := cell_heap (i := 1) hxb3 rfl
  have x2 := cell_heap (i := 2) hxb3 rfl
  have xf0 : w3.frozen? ⟨w.heap.size + 1 + 1, 0, none⟩ = false := frozen_of_row w3 _ _ _ _ hxb3
  have xf1 : w3.frozen? ⟨w.heap.size + 1 + 1, 1, none⟩ = false := frozen_of_row w3 _ _ _ _ hxb3
  have xf2 : w3.frozen? ⟨w.heap.size + 1 + 1, 2, none⟩ = false := frozen_of_row w3 _ _ _ _ hxb3
  go_wp2
  refine bodyPost_ret (v := .tuple #[.agg #[.slice none 0 0, .slice none 0 0, .slice none 0 0], .int .i64 76]) (by simp [results, Try.results21, go_sem, x0, x1, x2]) rfl (gave_nil rfl rfl ?_)
  exact bset3 HB3.out (by omega) _ _ _
set_option maxHeartbeats 4000000 in
set_option maxRecDepth 100000 in
theorem radd_there (P : Nat → Prop) (vs vh vm : Value) (R : Reg) (id un is ma ra ev : Int) (ix : Bool) (w : World) (hr : RgIn P w vs vh vm R) (hS : R.secs.length ≤ 1000000) (hH : R.hs.length ≤ 1000000) (hM : R.ms.length ≤ 1000000) (hP : ∀ b, w.heap.size ≤ b → P b) (hx : chkE R = 0) (hy : secB id un is ma ra ev = true) (hi : isS R.secs id = true) :
    Calls Try.prog 21 #[.agg #[vs, vh, vm], .agg #[.int .i64 id, .int .i64 un, .int .i64 is, .int .i64 ma, .int .i64 ra, .int .i64 ev, .bool ix]] w (GaveR P (raR R ⟨id, un, is, ma, ra, ev, ix⟩) (raE R ⟨id, un, is, ma, ra, ev, ix⟩) w) := by
  obtain ⟨a0, n0, c0, rfl, hn0, -, -⟩ := hr.S.shape
  obtain ⟨a1, n1, c1, rfl, -, -, -⟩ := hr.H.shape
  obtain ⟨a2, n2, c2, rfl, -, -, -⟩ := hr.M.shape
  have HC := Lib.hid (fun W hW => check_any P _ _ _ R W (hr.below (w' := W) hW) hS hH hM)
  have HR := Lib.hid hr
  have HN0 := Lib.hid hn0
  clear hr hn0
  have hf1 : raE R ⟨id, un, is, ma, ra, ev, ix⟩ = 76 := by unfold raE; rw [if_pos hx, if_neg (by rintro ⟨-, h⟩; simp [hi] at h)]
  have hf2 : raR R ⟨id, un, is, ma, ra, ev, ix⟩ = ⟨[], [], []⟩ := if_neg (by rw [hf1]; omega)
  rw [hf1, hf2]
  clear hf1 hf2
  rw [hx] at HC
  have hok := chkE_iff.1 hx
  have HBS := Lib.hid (fun W (hW : Below w.heap.size w W) => bsS_any P _ R.secs id 0 W (HR.out.S.below hW) hok.secs hS)
  have HOK := Lib.hid hok
  clear hok hx
  obtain ⟨pp, hpp⟩ : ∃ p, posS R.secs id = p := ⟨_, rfl⟩
  obtain ⟨fo, hfo⟩ : ∃ b, isS R.secs id = b := ⟨_, rfl⟩
  obtain ⟨so, hso⟩ : ∃ b, secB id un is ma ra ev = b := ⟨_, rfl⟩
  rw [hpp, hfo] at HBS
  have HPP := Lib.hid hpp
  have HSO := Lib.hid hso
  have e1 : so = true := hso.symm.trans hy
  have e2 : fo = true := hfo.symm.trans hi
  clear hy hi
  clear hpp hfo hso
  subst e1
  subst e2
  go_enter Try.func21, Try.ntmps21
  go_wp2_with fail
  refine (HC.out _ (bal (bal (bal brefl _) _) _)).mono ?_
  rintro e w1 ⟨rfl, hb1⟩
  have HB1 := Lib.hid (bup (bal (bal (bal brefl _) _) _) hb1)
  have hrb := (hb1.block w.heap.size (by simp; omega)).trans ((heap_alloc_old _ _ (by simp; omega)).trans ((heap_alloc_old _ _ (by simp)).trans (heap_alloc_new w _)))
  have hmb := (hb1.block (w.heap.size + 1) (by simp)).trans ((heap_alloc_old _ _ (by simp)).trans (heap_at (by simp)))
  have hxb := (hb1.block (w.heap.size + 1 + 1) (by simp)).trans (heap_at (by simp))
  have z1 := hb1.size
  simp only [World.size_alloc] at z1
  have HRB := Lib.hid hrb
  have HMB := Lib.hid hmb
  have HXB := Lib.hid hxb
  have r0 := cell_heap (i := 0) hrb rfl
  have m0 := cell_heap (i := 0) hmb rfl
  clear hrb hmb hxb hb1
  go_wp2_with fail
  refine (HBS.out _ HB1.out).mono ?_
  rintro e w2 ⟨rfl, hb2⟩
  have HB2 := Lib.hid (bup HB1.out hb2)
  have hmb2 := (hb2.block (w.heap.size + 1) (by omega)).trans HMB.out
  have HRB2 := Lib.hid ((hb2.block w.heap.size (by omega)).trans HRB.out)
  have HMB2 := Lib.hid hmb2
  have HXB2 := Lib.hid ((hb2.block (w.heap.size + 1 + 1) (by omega)).trans HXB.out)
  have z2 := hb2.size
  clear r0 m0 hb2
  have m0 := cell_heap (i := 0) hmb2 rfl
  have m1 := cell_heap (i := 1) hmb2 rfl
  have m2 := cell_heap (i := 2) hmb2 rfl
  have m3 := cell_heap (i := 3) hmb2 rfl
  have m4 := cell_heap (i := 4) hmb2 rfl
  have m5 := cell_heap (i := 5) hmb2 rfl
  have m6 := cell_heap (i := 6) hmb2 rfl
  clear hmb2
  go_wp2_with fail
  refine (security_any _ _ _ _ _ _ _ _).mono ?_
  rw [HSO.out]
  rintro e w3 ⟨rfl, hb3⟩
  have HB3 := Lib.hid (bup HB2.out hb3)
  have z3 := hb3.size
  have hrb3 := (hb3.block w.heap.size (by omega)).trans HRB2.out
  have hmb3 := (hb3.block (w.heap.size + 1) (by omega)).trans HMB2.out
  have hxb3 := (hb3.block (w.heap.size + 1 + 1) (by omega)).trans HXB2.out
  clear m0 m1 m2 m3 m4 m5 m6 hb3
  have y0 := cell_heap (i := 0) hrb3 rfl
  have x0 := cell_heap (i := 0) hxb3 rfl
  have x1 := cell_heap (i := 1) hxb3 rfl
  have x2 := cell_heap (i := 2) hxb3 rfl
  have xf0 : w3.frozen? ⟨w.heap.size + 1 + 1, 0, none⟩ = false := frozen_of_row w3 _ _ _ _ hxb3
  have xf1 : w3.frozen? ⟨w.heap.size + 1 + 1, 1, none⟩ = false := frozen_of_row w3 _ _ _ _ hxb3
  have xf2 : w3.frozen? ⟨w.heap.size + 1 + 1, 2, none⟩ = false := frozen_of_row w3 _ _ _ _ hxb3
  go_wp2
  refine bodyPost_ret (v := .tuple #[.agg #[.slice none 0 0, .slice none 0 0, .slice none 0 0], .int .i64 76]) (by simp [results, Try.results21, go_sem, x0, x1, x2]) rfl (gave_nil rfl rfl ?_)
  exact bset3 HB3.out (by omega) _ _ _
set_option maxHeartbeats 4000000 in
set_option maxRecDepth 100000 in
theorem radd_full (P : Nat → Prop) (vs vh vm : Value) (R : Reg) (id un is ma ra ev : Int) (ix : Bool) (w : World) (hr : RgIn P w vs vh vm R) (hS : R.secs.length ≤ 1000000) (hH : R.hs.length ≤ 1000000) (hM : R.ms.length ≤ 1000000) (hP : ∀ b, w.heap.size ≤ b → P b) (hx : chkE R = 0) (hy : secB id un is ma ra ev = true) (hi : isS R.secs id = false) (hl : R.secs.length = 20) :
    Calls Try.prog 21 #[.agg #[vs, vh, vm], .agg #[.int .i64 id, .int .i64 un, .int .i64 is, .int .i64 ma, .int .i64 ra, .int .i64 ev, .bool ix]] w (GaveR P (raR R ⟨id, un, is, ma, ra, ev, ix⟩) (raE R ⟨id, un, is, ma, ra, ev, ix⟩) w) := by
  obtain ⟨a0, n0, c0, rfl, hn0, -, -⟩ := hr.S.shape
  obtain ⟨a1, n1, c1, rfl, -, -, -⟩ := hr.H.shape
  obtain ⟨a2, n2, c2, rfl, -, -, -⟩ := hr.M.shape
  have HC := Lib.hid (fun W hW => check_any P _ _ _ R W (hr.below (w' := W) hW) hS hH hM)
  have HR := Lib.hid hr
  have HN0 := Lib.hid hn0
  clear hr hn0
  have hf1 : raE R ⟨id, un, is, ma, ra, ev, ix⟩ = 3 := by unfold raE; rw [if_pos hx, if_pos ⟨hy, hi⟩, if_pos hl]
  have hf2 : raR R ⟨id, un, is, ma, ra, ev, ix⟩ = ⟨[], [], []⟩ := if_neg (by rw [hf1]; omega)
  rw [hf1, hf2]
  clear hf1 hf2
  rw [hx] at HC
  have hok := chkE_iff.1 hx
  have HBS := Lib.hid (fun W (hW : Below w.heap.size w W) => bsS_any P _ R.secs id 0 W (HR.out.S.below hW) hok.secs hS)
  have HOK := Lib.hid hok
  clear hok hx
  obtain ⟨pp, hpp⟩ : ∃ p, posS R.secs id = p := ⟨_, rfl⟩
  obtain ⟨fo, hfo⟩ : ∃ b, isS R.secs id = b := ⟨_, rfl⟩
  obtain ⟨so, hso⟩ : ∃ b, secB id un is ma ra ev = b := ⟨_, rfl⟩
  rw [hpp, hfo] at HBS
  have HPP := Lib.hid hpp
  have HSO := Lib.hid hso
  have e1 : so = true := hso.symm.trans hy
  have e2 : fo = false := hfo.symm.trans hi
  have e3 : ((n0 : Int) == 20) = true := by have := HN0.out; simp; omega
  clear hy hi hl
  clear hpp hfo hso
  subst e1
  subst e2
  go_enter Try.func21, Try.ntmps21
  go_wp2_with fail
  refine (HC.out _ (bal (bal (bal brefl _) _) _)).mono ?_
  rintro e w1 ⟨rfl, hb1⟩
  have HB1 := Lib.hid (bup (bal (bal (bal brefl _) _) _) hb1)
  have hrb := (hb1.block w.heap.size (by simp; omega)).trans ((heap_alloc_old _ _ (by simp; omega)).trans ((heap_alloc_old _ _ (by simp)).trans (heap_alloc_new w _)))
  have hmb := (hb1.block (w.heap.size + 1) (by simp)).trans ((heap_alloc_old _ _ (by simp)).trans (heap_at (by simp)))
  have hxb := (hb1.block (w.heap.size + 1 + 1) (by simp)).trans (heap_at (by simp))
  have z1 := hb1.size
  simp only [World.size_alloc] at z1
  have HRB := Lib.hid hrb
  have HMB := Lib.hid hmb
  have HXB := Lib.hid hxb
  have r0 := cell_heap (i := 0) hrb rfl
  have m0 := cell_heap (i := 0) hmb rfl
  clear hrb hmb hxb hb1
  go_wp2_with fail
  refine (HBS.out _ HB1.out).mono ?_
  rintro e w2 ⟨rfl, hb2⟩
  have HB2 := Lib.hid (bup HB1.out hb2)
  have hmb2 := (hb2.block (w.heap.size + 1) (by omega)).trans HMB.out
  have HRB2 := Lib.hid ((hb2.block w.heap.size (by omega)).trans HRB.out)
  have HMB2 := Lib.hid hmb2
  have HXB2 := Lib.hid ((hb2.block (w.heap.size + 1 + 1) (by omega)).trans HXB.out)
  have z2 := hb2.size
  clear r0 m0 hb2
  have m0 := cell_heap (i := 0) hmb2 rfl
  have m1 := cell_heap (i := 1) hmb2 rfl
  have m2 := cell_heap (i := 2) hmb2 rfl
  have m3 := cell_heap (i := 3) hmb2 rfl
  have m4 := cell_heap (i := 4) hmb2 rfl
  have m5 := cell_heap (i := 5) hmb2 rfl
  have m6 := cell_heap (i := 6) hmb2 rfl
  clear hmb2
  go_wp2_with fail
  refine (security_any _ _ _ _ _ _ _ _).mono ?_
  rw [HSO.out]
  rintro e w3 ⟨rfl, hb3⟩
  have HB3 := Lib.hid (bup HB2.out hb3)
  have z3 := hb3.size
  have hrb3 := (hb3.block w.heap.size (by omega)).trans HRB2.out
  have hmb3 := (hb3.block (w.heap.size + 1) (by omega)).trans HMB2.out
  have hxb3 := (hb3.block (w.heap.size + 1 + 1) (by omega)).trans HXB2.out
  clear m0 m1 m2 m3 m4 m5 m6 hb3
  have y0 := cell_heap (i := 0) hrb3 rfl
  have x0 := cell_heap (i := 0) hxb3 rfl
  have x1 := cell_heap (i := 1) hxb3 rfl
  have x2 := cell_heap (i := 2) hxb3 rfl
  have xf0 : w3.frozen? ⟨w.heap.size + 1 + 1, 0, none⟩ = false := frozen_of_row w3 _ _ _ _ hxb3
  have xf1 : w3.frozen? ⟨w.heap.size + 1 + 1, 1, none⟩ = false := frozen_of_row w3 _ _ _ _ hxb3
  have xf2 : w3.frozen? ⟨w.heap.size + 1 + 1, 2, none⟩ = false := frozen_of_row w3 _ _ _ _ hxb3
  go_wp2
  refine bodyPost_ret (v := .tuple #[.agg #[.slice none 0 0, .slice none 0 0, .slice none 0 0], .int .i64 3]) (by simp [results, Try.results21, go_sem, x0, x1, x2]) rfl (gave_nil rfl rfl ?_)
  exact bset3 HB3.out (by omega) _ _ _
end Go.Proofs.Ytpoidaenkjjdfaa
namespace Go.Proofs.Ytpoidaenkjjdfaa
open Go.RowKit
set_option linter.unusedVariables false
set_option linter.unusedSimpArgs false

theorem overS_any (vb g i lb cb : Nat) (C cur : Array Value) (w : World) (hne : vb ≠ g) (hv : w.heap[vb]? = some (.cells C 29 (0, 0))) (hg : w.heap[g]? = some (.cells cur 29 (0, 0))) (hk : cur.size ≠ 0) :
    (callFunc 135 #[.slice (some ⟨vb, 0, none⟩) 1 1, .slice (some ⟨g, i, none⟩) lb cb]).run Try.prog w = .ok (.value (.bool false)) w := by
  have hz : ∀ w, (Go.sizeOf 29).run Try.prog w = .ok 7 w := fun w => by kernel_rfl
  rw [run_callFunc_extern Try.func135 (by kernel_rfl) (by kernel_rfl) (by kernel_rfl) (e := Extern.SlicesOverlaps.overlaps #[23, 23] #[4]) (by kernel_rfl),
    Lib.run_overlaps_apart w 23 4 29 Try.underlying23 7 hz ⟨vb, 0, none⟩ ⟨g, i, none⟩ 1 1 lb cb hne 29 29 C.size cur.size (by simp [World.shape?, hv]) (by simp [World.shape?, hg]) hk (by simp [World.frozen?, hv]) (by simp [World.frozen?, hv])]
  rfl
/-- the list with an element put in -/
theorem insS_end (base : Nat) (v : Value) (n vb : Nat) (L : List Sec) (x : Sec) (w : World) (hown : w.ownsRow base 29 7 v n (flatE encSec L)) (hn : n ≤ 1000000) (hl : L.length = n) (hbase : base ≤ w.heap.size)
    (hv : w.heap[vb]? = some (.cells (encSec x).toArray 29 (0, 0))) :
    Calls Try.prog 79 #[v, .int .i64 n, .slice (some ⟨vb, 0, none⟩) 1 1] w fun e w' => ∃ v', e = .returned v' ∧ w'.ownsRow base 29 7 v' (n + 1) (flatE encSec (L ++ [x])) ∧ w.grownBy w' v.ownBlock := by
  obtain ⟨i1, hi, hz0, hz1, hz2⟩ := info_parts infoSec
  have hnews : ∀ j u, (encSec x)[j]? = some u → w.cell? ((⟨vb, 0, none⟩ : Addr).add j) = some u := fun j u hj => by rw [add_litZ, Nat.zero_add]; exact cell_whole hv hj
  have HN := Lib.hid hnews
  have HV := Lib.hid hv
  have HL := Lib.hid hl
  clear hnews hv hl
  rcases Nat.eq_zero_or_pos n with h0 | h0
  · subst h0
    have hL : L = [] := List.eq_nil_of_length_eq_zero HL.out
    subst hL
    rcases hown.2 with ⟨rfl, -⟩ | ⟨g, cap, cur, rfl, hbg, hg, hnc, hcm, hcs, htake⟩
    · go_enter Try.func79, Try.ntmps79
      go_wp2_with (at_builtin; refine wpList_append_own _ rfl _ _ 23 rfl base 29 i1 (.agg #[.int .i64 0, .int .i64 0, .int .i64 0, .int .i64 0, .int .i64 0, .int .i64 0, .bool false]) 7 56 Try.underlying23 hi hz0 hz1 hz2 rfl (by decide) _ _ _ rfl hown ⟨vb, 0, none⟩ 1 1 (encSec x) rfl rfl HN.out (oneSec x) (by unfold maxLen; omega) (by omega) hbase ?_; intro v' w2 hown' hgrow _)
      go_wp2
      go_ret
      exact ⟨v', rfl, by simpa [flatE] using hown', hgrow⟩
    · have HG := Lib.hid hg
      clear hg htake hcs
      by_cases hc0 : cap = 0
      · subst hc0
        go_enter Try.func79, Try.ntmps79
        go_wp2_with (at_builtin; refine wpList_append_own _ rfl _ _ 23 rfl base 29 i1 (.agg #[.int .i64 0, .int .i64 0, .int .i64 0, .int .i64 0, .int .i64 0, .int .i64 0, .bool false]) 7 56 Try.underlying23 hi hz0 hz1 hz2 rfl (by decide) _ _ _ rfl hown ⟨vb, 0, none⟩ 1 1 (encSec x) rfl rfl HN.out (oneSec x) (by unfold maxLen; omega) (by omega) hbase ?_; intro v' w2 hown' hgrow _)
        go_wp2
        go_ret
        exact ⟨v', rfl, by simpa [flatE] using hown', hgrow⟩
      · go_enter Try.func79, Try.ntmps79
        go_wp2_with (at_builtin; refine wpList_append_own _ rfl _ _ 23 rfl base 29 i1 (.agg #[.int .i64 0, .int .i64 0, .int .i64 0, .int .i64 0, .int .i64 0, .int .i64 0, .bool false]) 7 56 Try.underlying23 hi hz0 hz1 hz2 rfl (by decide) _ _ _ rfl hown ⟨vb, 0, none⟩ 1 1 (encSec x) rfl rfl HN.out (oneSec x) (by unfold maxLen; omega) (by omega) hbase ?_; intro v' w2 hown' hgrow _)
        go_wp2
        go_ret
        exact ⟨v', rfl, by simpa [flatE] using hown', hgrow⟩
  · obtain ⟨g, cap, rest, rfl, hbg, hg, hnc, hcm, hxl, hrl⟩ := own_whole hown h0
    unfold maxLen at hcm
    have HG := Lib.hid hg
    clear hg hxl hrl
    by_cases hc0 : cap = n
    · subst hc0
      go_enter Try.func79, Try.ntmps79
      go_wp2_with (at_builtin; refine wpList_append_own _ rfl _ _ 23 rfl base 29 i1 (.agg #[.int .i64 0, .int .i64 0, .int .i64 0, .int .i64 0, .int .i64 0, .int .i64 0, .bool false]) 7 56 Try.underlying23 hi hz0 hz1 hz2 rfl (by decide) _ _ _ rfl hown ⟨vb, 0, none⟩ 1 1 (encSec x) rfl rfl HN.out (oneSec x) (by unfold maxLen; omega) (by omega) hbase ?_; intro v' w2 hown' hgrow _)
      go_wp2
      go_ret
      exact ⟨v', rfl, by rw [flatE_snoc]; exact hown', hgrow⟩
    · go_enter Try.func79, Try.ntmps79
      go_wp2_with (at_builtin; refine wpList_append_own _ rfl _ _ 23 rfl base 29 i1 (.agg #[.int .i64 0, .int .i64 0, .int .i64 0, .int .i64 0, .int .i64 0, .int .i64 0, .bool false]) 7 56 Try.underlying23 hi hz0 hz1 hz2 rfl (by decide) _ _ _ rfl hown ⟨vb, 0, none⟩ 1 1 (encSec x) rfl rfl HN.out (oneSec x) (by unfold maxLen; omega) (by omega) hbase ?_; intro v' w2 hown' hgrow _)
      go_wp2
      go_ret
      exact ⟨v', rfl, by rw [flatE_snoc]; exact hown', hgrow⟩
set_option maxHeartbeats 4000000 in
set_option maxRecDepth 100000 in
theorem insS_shift (base g cap n i vb : Nat) (L1 L2 : List Sec) (x : Sec) (rest : List Value) (w : World) (hi : i < n) (hn : n ≤ 1000000) (hl : L1.length = i) (hl2 : L2.length = n - i) (hroom : n + 1 ≤ cap) (hcm : cap ≤ maxLen) (hvb : vb ≠ g) (hbg : base ≤ g)
    (hg : w.heap[g]? = some (.cells (flatE encSec L1 ++ flatE encSec L2 ++ rest).toArray 29 (0, 0))) (hrl : (flatE encSec L1 ++ flatE encSec L2 ++ rest).length = cap * 7)
    (hv : w.heap[vb]? = some (.cells (encSec x).toArray 29 (0, 0))) :
    Calls Try.prog 79 #[.slice (some ⟨g, 0, none⟩) n cap, .int .i64 i, .slice (some ⟨vb, 0, none⟩) 1 1] w fun e w' => ∃ v', e = .returned v' ∧ w'.ownsRow base 29 7 v' (n + 1) (flatE encSec (L1 ++ x :: L2)) ∧ w.grownBy w' (some g) := by
  have hcm' := hcm
  unfold maxLen at hcm
  have hsz : (Try.prog.info? 29).map (·.size) = some 7 := by kernel_rfl
  obtain ⟨X1, hX1⟩ : ∃ X, flatE encSec L1 = X := ⟨_, rfl⟩
  obtain ⟨X2, hX2⟩ : ∃ X, flatE encSec L2 = X := ⟨_, rfl⟩
  have l1 : X1.length = i * 7 := by rw [← hX1, flatE_length encSec_len, hl]
  have l2 : X2.length = (n - i) * 7 := by rw [← hX2, flatE_length encSec_len, hl2]
  have hfl : flatE encSec (L1 ++ x :: L2) = X1 ++ (encSec x ++ X2) := by rw [← hX1, ← hX2]; simp [flatE]
  have o2 : ∀ u ∈ X2, u.oneCell' = true := by rw [← hX2]; exact oneE oneSec L2
  rw [hX1, hX2] at hg hrl
  rw [hfl]
  obtain ⟨cur, hcur⟩ : ∃ c, X1 ++ X2 ++ rest = c := ⟨_, rfl⟩
  rw [hcur] at hg hrl
  have gd : w.drew.heap[g]? = some (.cells cur.toArray 29 (0, 0)) := hg
  obtain ⟨W1, hW1⟩ : ∃ W1, W1 = w.drew.setRow g ((cur.toArray.toList.take ((i + 1) * 7) ++ X2 ++ cur.toArray.toList.drop ((i + 1) * 7 + X2.length)).toArray) := ⟨_, rfl⟩
  have hcp1 : ∀ ty dc sc, (Builtin.copy_ #[23, 23] ty #[.slice (some ⟨g, (i + 1) * 7, none⟩) (n - i) dc, .slice (some ⟨g, i * 7, none⟩) (n + 1 - i) sc]).run Try.prog w.drew = .ok (goInt (n - i : Nat)) W1 := fun ty dc sc => by
    rw [hW1]
    refine run_copy_rowZ w.drew _ _ ty 29 g ((i + 1) * 7) (n - i) dc ⟨g, i * 7, none⟩ (n + 1 - i) sc cur.toArray 29 X2 7 (n - i) Try.underlying23 hsz gd (by simp only [Nat.min_def]; split <;> omega) l2 (fun j u hj => ?_) (by simp only [List.size_toArray]; omega) o2
    rw [add_litZ]
    refine cell_whole gd ?_
    have hj2 : j < X2.length := (List.getElem?_eq_some_iff.1 hj).1
    rw [← hcur, List.append_assoc, List.getElem?_append_right (by omega), l1, Nat.add_sub_cancel_left, List.getElem?_append_left hj2]
    exact hj
  have hg1 : W1.heap[g]? = some (.cells (cur.take ((i + 1) * 7) ++ X2 ++ cur.drop ((i + 1) * 7 + X2.length)).toArray 29 (0, 0)) := by rw [hW1]; simpa using heap_setRow gd
  have gr1 : w.grownBy W1 (some g) := by
    have q := grownBy_setRow w.drew g ((cur.toArray.toList.take ((i + 1) * 7) ++ X2 ++ cur.toArray.toList.drop ((i + 1) * 7 + X2.length)).toArray)
    rw [hW1]; exact ⟨q.os, q.tape, q.output, q.size, q.block⟩
  have hv1 : W1.heap[vb]? = some (.cells (encSec x).toArray 29 (0, 0)) := (gr1.block vb (Array.getElem?_eq_some_iff.1 hv).1 (by simpa using hvb)).trans hv
  obtain ⟨cur1, hcur1⟩ : ∃ c, cur.take ((i + 1) * 7) ++ X2 ++ cur.drop ((i + 1) * 7 + X2.length) = c := ⟨_, rfl⟩
  rw [hcur1] at hg1
  have lc1 : cur1.length = cap * 7 := by rw [← hcur1]; simp only [List.length_append, List.length_take, List.length_drop]; omega
  have hcp2 : ∀ ty dc, (Builtin.copy_ #[23, 23] ty #[.slice (some ⟨g, i * 7, none⟩) (n + 1 - i) dc, .slice (some ⟨vb, 0, none⟩) 1 1]).run Try.prog W1 = .ok (goInt (1 : Nat)) (W1.setRow g (cur1.toArray.toList.take (i * 7) ++ encSec x ++ cur1.toArray.toList.drop (i * 7 + (encSec x).length)).toArray) := fun ty dc =>
    run_copy_rowZ W1 _ _ ty 29 g (i * 7) (n + 1 - i) dc ⟨vb, 0, none⟩ 1 1 cur1.toArray 29 (encSec x) 7 1 Try.underlying23 hsz hg1 (by simp only [Nat.min_def]; split <;> omega) rfl (fun j u hj => by rw [add_litZ, Nat.zero_add]; exact cell_whole hv1 hj) (by simp only [List.size_toArray, encSec_len]; omega) (oneSec x)
  have hfin : (W1.setRow g (cur1.toArray.toList.take (i * 7) ++ encSec x ++ cur1.toArray.toList.drop (i * 7 + (encSec x).length)).toArray).ownsRow base 29 7 (.slice (some ⟨g, 0, none⟩) (n + 1) cap) (n + 1) (X1 ++ (encSec x ++ X2)) := by
    have q := heap_setRow (cs := (cur1.toArray.toList.take (i * 7) ++ encSec x ++ cur1.toArray.toList.drop (i * 7 + (encSec x).length)).toArray) hg1
    have sr := shift_rows X1 X2 rest (encSec x) (i * 7) 7 l1 rfl (by have := congrArg List.length hcur; simp only [List.length_append] at this ⊢; omega)
    rw [hcur, ← Nat.succ_mul] at sr
    simp only [Nat.succ_eq_add_one] at sr
    rw [hcur1] at sr
    have q2 : cur1.toArray.toList.take (i * 7) ++ encSec x ++ cur1.toArray.toList.drop (i * 7 + (encSec x).length) = X1 ++ (encSec x ++ X2) ++ cur.drop ((i + 1) * 7 + X2.length) := sr
    rw [q2] at q ⊢
    exact own_mk hbg q (by omega) hcm' (by simp only [List.length_append, encSec_len]; omega) (by simp only [List.length_append, List.length_drop, encSec_len]; omega)
  have hgr : w.grownBy (W1.setRow g (cur1.toArray.toList.take (i * 7) ++ encSec x ++ cur1.toArray.toList.drop (i * 7 + (encSec x).length)).toArray) (some g) := grownBy_transZ gr1 (grownBy_setRow _ _ _)
  obtain ⟨W2, hW2⟩ : ∃ W2, W2 = W1.setRow g (cur1.toArray.toList.take (i * 7) ++ encSec x ++ cur1.toArray.toList.drop (i * 7 + (encSec x).length)).toArray := ⟨_, rfl⟩
  rw [← hW2] at hcp2 hfin hgr
  have hov : ∀ lb cb, (callFunc 135 #[.slice (some ⟨vb, 0, none⟩) 1 1, .slice (some ⟨g, (i + 1) * 7, none⟩) lb cb]).run Try.prog w = .ok (.value (.bool false)) w := fun lb cb => overS_any vb g _ lb cb _ _ w hvb hv hg (by simp only [List.size_toArray]; omega)
  have hb2 : ¬ (cap = i + 1) := by omega
  have hb4 : ¬ (cap = i) := by omega
  have htn : ((i : Int) + 1).toNat = i + 1 := by omega
  have hw1 : IntKind.i64.wrap ((i : Int) + 1) = (i : Int) + 1 := by rw [IntKind.wrap_i64]; omega
  have hbi : (0 : Int) ≤ (i : Int) + 1 := by omega
  have hb3 : (i : Int) ≤ (n : Int) + 1 := by omega
  have hin : i ≤ n := by omega
  have HC1 := Lib.hid hcp1
  have HC2 := Lib.hid hcp2
  have HF := Lib.hid hfin
  have HGR := Lib.hid hgr
  clear hcp1 hcp2 hfin hgr hW2 hW1 hcur1 lc1 hv1 gr1 hg1 gd hcur o2 hfl l1 l2 hX1 hX2 hrl hg hv hl hl2 hsz
  go_enter Try.func79, Try.ntmps79
  go_wp2_with (simp only [hov])
  go_region_law (refine step_copy_runZ rfl (.tmp 73) (.tmp 76) 23 23 rfl (.slice (some ⟨g, (i + 1) * 7, none⟩) (n - i) (cap - (i + 1))) (.slice (some ⟨g, i * 7, none⟩) (n + 1 - i) (cap - i)) (by simp [Act.eval, Act.put]) (by simp [Act.eval, Act.put]) (HC1.out 3 (cap - (i + 1)) (cap - i)) ?_)
  go_wp2_with (refine wpList_copy_runZ _ rfl (.tmp 80) (.tmp 81) 23 23 rfl (.slice (some ⟨g, i * 7, none⟩) (n + 1 - i) (cap - i)) (.slice (some ⟨vb, 0, none⟩) 1 1) rfl rfl (HC2.out 3 (cap - i)) ?_)
  go_ret
  exact ⟨_, rfl, HF.out, HGR.out⟩
set_option maxHeartbeats 4000000 in
set_option maxRecDepth 100000 in
theorem insS_grow (base g n i vb : Nat) (L1 L2 : List Sec) (x : Sec) (w : World) (hi : i < n) (hn : n ≤ 1000000) (hl : L1.length = i) (hl2 : L2.length = n - i) (hvb : vb ≠ g) (hbase : base ≤ w.heap.size)
    (hg : w.heap[g]? = some (.cells (flatE encSec L1 ++ flatE encSec L2).toArray 29 (0, 0)))
    (hv : w.heap[vb]? = some (.cells (encSec x).toArray 29 (0, 0))) :
    Calls Try.prog 79 #[.slice (some ⟨g, 0, none⟩) n n, .int .i64 i, .slice (some ⟨vb, 0, none⟩) 1 1] w fun e w' => ∃ v', e = .returned v' ∧ w'.ownsRow base 29 7 v' (n + 1) (flatE encSec (L1 ++ x :: L2)) ∧ w.grownBy w' (some g) := by
  have hsz : (Try.prog.info? 29).map (·.size) = some 7 := by kernel_rfl
  obtain ⟨i1, hi1, hz0, hz1, hz2⟩ := info_parts infoSec
  have hkint : ∃ k, Try.prog.underlying 3 = some (.int k) := ⟨_, Try.underlying3⟩
  obtain ⟨kn, hkn⟩ := hkint
  obtain ⟨X1, hX1⟩ : ∃ X, flatE encSec L1 = X := ⟨_, rfl⟩
  obtain ⟨X2, hX2⟩ : ∃ X, flatE encSec L2 = X := ⟨_, rfl⟩
  have l1 : X1.length = i * 7 := by rw [← hX1, flatE_length encSec_len, hl]
  have l2 : X2.length = (n - i) * 7 := by rw [← hX2, flatE_length encSec_len, hl2]
  have hfl : flatE encSec (L1 ++ x :: L2) = X1 ++ (encSec x ++ X2) := by rw [← hX1, ← hX2]; simp [flatE]
  have o2 : ∀ u ∈ X2, u.oneCell' = true := by rw [← hX2]; exact oneE oneSec L2
  rw [hX1, hX2] at hg
  rw [hfl]
  have hgN : g < w.heap.size := (Array.getElem?_eq_some_iff.1 hg).1
  have hvN : vb < w.heap.size := (Array.getElem?_eq_some_iff.1 hv).1
  have hik : i + (n + 1 - i) = n + 1 := by omega
  have hkk : (n : Int) + 1 - (i : Int) = ((n + 1 - i : Nat) : Int) := by omega
  have hold : (Builtin.firstCells i1.size i (.slice (some ⟨g, 0, none⟩) i n)).run Try.prog w.drew = .ok X1.toArray w.drew := by
    rw [hz1]
    exact run_firstCells_some w.drew 7 i ⟨g, 0, none⟩ i n X1 l1 (fun j u hj => by
      rw [add_litZ, Nat.zero_add]
      have hj2 : j < X1.length := (List.getElem?_eq_some_iff.1 hj).1
      exact cell_whole (w := w) hg (by rw [List.getElem?_append_left hj2]; exact hj))
  obtain ⟨G, hG⟩ : ∃ G, G = grownCap w (n + 1) n 29 := ⟨_, rfl⟩
  have hGn : n + 1 ≤ G := by rw [hG]; exact grownCap_ge w _ _ _
  have hGm : G ≤ maxLen := by rw [hG]; exact grownCap_le_maxLen w (n + 1) n 29 (by unfold maxLen; omega)
  have hG63 := hGm
  unfold maxLen at hG63
  obtain ⟨Z, hZ⟩ : ∃ Z : Value, Z = .agg #[.int .i64 0, .int .i64 0, .int .i64 0, .int .i64 0, .int .i64 0, .int .i64 0, .bool false] := ⟨_, rfl⟩
  have hzc : Z.cells.size = 7 := by rw [hZ]; rfl
  obtain ⟨W0, hW0⟩ : ∃ W0, W0 = w.drew.alloc (.cells (X1.toArray ++ Builtin.zeroCells Z.cells (n + 1 - i) ++ Builtin.zeroCells Z.cells (G - (n + 1))) 29) := ⟨_, rfl⟩
  have hrz : ∀ ty, (Builtin.append_ #[23, 3] ty #[.slice (some ⟨g, 0, none⟩) i n, .int .i64 ((n : Int) + 1 - (i : Int))]).run Try.prog w = .ok (.slice (some ⟨w.heap.size, 0, none⟩) (n + 1) G) W0 := fun ty => by
    have q := Lib.run_append_grow_zeros w 23 3 ty 29 i1 Z .i64 kn Try.underlying23 hkn hi1 (by rw [hz0, hZ]) (some ⟨g, 0, none⟩) i n X1 hold (n + 1 - i) (by omega) (by omega) (by omega) (by omega) (by rw [hz2]; omega) (by rw [hz2, hik]; exact growslice_fits (by omega) (by omega))
    rw [hik, ← hG] at q
    rw [hkk, hW0]
    exact q
  obtain ⟨R0, hR0⟩ : ∃ R0 : List Value, R0 = (Builtin.zeroCells Z.cells (n + 1 - i)).toList ++ (Builtin.zeroCells Z.cells (G - (n + 1))).toList := ⟨_, rfl⟩
  have lR0 : R0.length = (G - i) * 7 := by rw [hR0, List.length_append, Array.length_toList, Array.length_toList, size_zeroCells, size_zeroCells, hzc, ← Nat.add_mul]; congr 1; omega
  have g0 : W0.heap[w.heap.size]? = some (.cells (X1 ++ R0).toArray 29 (0, 0)) := by
    rw [hW0, hR0]
    have q := heap_alloc_new w.drew (.cells (X1.toArray ++ Builtin.zeroCells Z.cells (n + 1 - i) ++ Builtin.zeroCells Z.cells (G - (n + 1))) 29)
    refine Eq.trans q ?_
    congr 2
    apply Array.toList_inj.1
    simp
  have gr0 : w.grownBy W0 (some g) := by
    rw [hW0]
    have q := World.grownBy_alloc w.drew (.cells (X1.toArray ++ Builtin.zeroCells Z.cells (n + 1 - i) ++ Builtin.zeroCells Z.cells (G - (n + 1))) 29) (some g)
    exact ⟨q.os, q.tape, q.output, q.size, q.block⟩
  have og0 : W0.heap[g]? = some (.cells (X1 ++ X2).toArray 29 (0, 0)) := by
    rw [hW0]
    exact (heap_alloc_old w.drew _ hgN).trans hg
  have ov0 : W0.heap[vb]? = some (.cells (encSec x).toArray 29 (0, 0)) := (gr0.block vb hvN (by simpa using hvb)).trans hv
  -- the first copy
  obtain ⟨W1, hW1⟩ : ∃ W1, W1 = W0.setRow w.heap.size ((X1 ++ R0).toArray.toList.take (i * 7) ++ encSec x ++ (X1 ++ R0).toArray.toList.drop (i * 7 + (encSec x).length)).toArray := ⟨_, rfl⟩
  have hcp1 : ∀ ty dc, (Builtin.copy_ #[23, 23] ty #[.slice (some ⟨w.heap.size, i * 7, none⟩) (n + 1 - i) dc, .slice (some ⟨vb, 0, none⟩) 1 1]).run Try.prog W0 = .ok (goInt (1 : Nat)) W1 := fun ty dc => by
    rw [hW1]
    exact run_copy_rowZ W0 _ _ ty 29 w.heap.size (i * 7) (n + 1 - i) dc ⟨vb, 0, none⟩ 1 1 (X1 ++ R0).toArray 29 (encSec x) 7 1 Try.underlying23 hsz g0 (by simp only [Nat.min_def]; split <;> omega) rfl (fun j u hj => by rw [add_litZ, Nat.zero_add]; exact cell_whole ov0 hj) (by simp only [List.size_toArray, encSec_len, List.length_append]; omega) (oneSec x)
  have e1 : (X1 ++ R0).toArray.toList.take (i * 7) ++ encSec x ++ (X1 ++ R0).toArray.toList.drop (i * 7 + (encSec x).length) = X1 ++ encSec x ++ R0.drop (encSec x).length := by
    rw [List.toList_toArray, ← l1, List.take_left, List.drop_append]
    simp
  have g1 : W1.heap[w.heap.size]? = some (.cells (X1 ++ encSec x ++ R0.drop (encSec x).length).toArray 29 (0, 0)) := by rw [hW1, ← e1]; exact heap_setRow g0
  have gr1 : W0.grownBy W1 (some w.heap.size) := by rw [hW1]; exact grownBy_setRow _ _ _
  have og1 : W1.heap[g]? = some (.cells (X1 ++ X2).toArray 29 (0, 0)) := (gr1.block g (Nat.lt_of_lt_of_le hgN gr0.size) (by simp; omega)).trans og0
  -- the second copy
  obtain ⟨W2, hW2⟩ : ∃ W2, W2 = W1.drew.setRow w.heap.size ((X1 ++ encSec x ++ R0.drop (encSec x).length).toArray.toList.take ((i + 1) * 7) ++ X2 ++ (X1 ++ encSec x ++ R0.drop (encSec x).length).toArray.toList.drop ((i + 1) * 7 + X2.length)).toArray := ⟨_, rfl⟩
  have hcp2 : ∀ ty dc sc, (Builtin.copy_ #[23, 23] ty #[.slice (some ⟨w.heap.size, (i + 1) * 7, none⟩) (n - i) dc, .slice (some ⟨g, i * 7, none⟩) (n - i) sc]).run Try.prog W1.drew = .ok (goInt (n - i : Nat)) W2 := fun ty dc sc => by
    rw [hW2]
    refine run_copy_rowZ W1.drew _ _ ty 29 w.heap.size ((i + 1) * 7) (n - i) dc ⟨g, i * 7, none⟩ (n - i) sc (X1 ++ encSec x ++ R0.drop (encSec x).length).toArray 29 X2 7 (n - i) Try.underlying23 hsz g1 (by simp only [Nat.min_def]; split <;> omega) l2 (fun j u hj => ?_) (by simp only [List.size_toArray, encSec_len, List.length_append, List.length_drop]; omega) o2
    rw [add_litZ]
    exact cell_whole (w := W1) og1 (by rw [← l1, List.getElem?_append_right (by omega), Nat.add_sub_cancel_left]; exact hj)
  have e2 : (X1 ++ encSec x ++ R0.drop (encSec x).length).toArray.toList.take ((i + 1) * 7) ++ X2 ++ (X1 ++ encSec x ++ R0.drop (encSec x).length).toArray.toList.drop ((i + 1) * 7 + X2.length) = X1 ++ (encSec x ++ X2) ++ (X1 ++ encSec x ++ R0.drop (encSec x).length).drop ((i + 1) * 7 + X2.length) := by
    have el : (X1 ++ encSec x).length = (i + 1) * 7 := by simp only [List.length_append, encSec_len]; omega
    rw [List.toList_toArray, ← el, List.take_left]
    simp
  have g2 : W2.heap[w.heap.size]? = some (.cells (X1 ++ (encSec x ++ X2) ++ (X1 ++ encSec x ++ R0.drop (encSec x).length).drop ((i + 1) * 7 + X2.length)).toArray 29 (0, 0)) := by rw [hW2, ← e2]; exact heap_setRow (w := W1.drew) g1
  have gr2 : W1.grownBy W2 (some w.heap.size) := by
    rw [hW2]
    have q := grownBy_setRow W1.drew w.heap.size ((X1 ++ encSec x ++ R0.drop (encSec x).length).toArray.toList.take ((i + 1) * 7) ++ X2 ++ (X1 ++ encSec x ++ R0.drop (encSec x).length).toArray.toList.drop ((i + 1) * 7 + X2.length)).toArray
    exact ⟨q.os, q.tape, q.output, q.size, q.block⟩
  have hF : W2.ownsRow base 29 7 (.slice (some ⟨w.heap.size, 0, none⟩) (n + 1) G) (n + 1) (X1 ++ (encSec x ++ X2)) := own_mk hbase g2 hGn hGm (by simp only [List.length_append, encSec_len]; omega) (by simp only [List.length_append, List.length_drop, encSec_len]; omega)
  have hGR : w.grownBy W2 (some g) := by
    have q := grownBy_transZ gr1 gr2
    exact ⟨q.os.trans gr0.os, q.tape.trans gr0.tape, q.output.trans gr0.output, Nat.le_trans gr0.size q.size, fun k hk hne => (q.block k (Nat.lt_of_lt_of_le hk gr0.size) (by simp; omega)).trans (gr0.block k hk hne)⟩
  have hGi : ¬ (G = i) := by omega
  have hGim : ¬ (G = i + 1) := by omega
  have hci : ¬ (n = i) := by omega
  have htn : ((i : Int) + 1).toNat = i + 1 := by omega
  have hw1 : IntKind.i64.wrap ((i : Int) + 1) = (i : Int) + 1 := by rw [IntKind.wrap_i64]; omega
  have hbi : (0 : Int) ≤ (i : Int) + 1 := by omega
  have hin : i ≤ n := by omega
  have hin1 : (i : Int) ≤ n := by omega
  have hz3 : (n : Int) < (n : Int) + 1 := by omega
  have HZ := Lib.hid hrz
  have HC1 := Lib.hid hcp1
  have HC2 := Lib.hid hcp2
  have HF := Lib.hid hF
  have HGR := Lib.hid hGR
  clear hrz hcp1 hcp2 hF hGR hW2 hW1 hW0 e1 e2 g1 g2 gr0 gr1 gr2 og0 og1 ov0 g0 lR0 hR0 hzc hZ hG hGm hold hkk hik o2 hfl l1 l2 hX1 hX2 hg hv hl hl2 hsz hz0 hz1 hz2 hi1 hkn
  go_enter Try.func79, Try.ntmps79
  go_wp2_with (first
    | (at_builtin; refine Lib.wpList_append_run _ rfl (.tmp 34) (.tmp 39) 23 3 rfl (.slice (some ⟨g, 0, none⟩) i n) (.int .i64 ((n : Int) + 1 - (i : Int))) rfl rfl (.slice (some ⟨w.heap.size, 0, none⟩) (n + 1) G) W0 (HZ.out 23) ?_)
    | (refine wpList_copy_runZ _ rfl (.tmp 43) (.tmp 44) 23 23 rfl (.slice (some ⟨w.heap.size, i * 7, none⟩) (n + 1 - i) (G - i)) (.slice (some ⟨vb, 0, none⟩) 1 1) rfl rfl (HC1.out 3 (G - i)) ?_))
  go_region_law (refine step_copy_runZ rfl (.tmp 50) (.tmp 53) 23 23 rfl (.slice (some ⟨w.heap.size, (i + 1) * 7, none⟩) (n - i) (G - (i + 1))) (.slice (some ⟨g, i * 7, none⟩) (n - i) (n - i)) (by simp [Act.eval, Act.put]) (by simp [Act.eval, Act.put]) (HC2.out 3 (G - (i + 1)) (n - i)) ?_)
  go_wp2
  go_ret
  exact ⟨_, rfl, HF.out, HGR.out⟩
/-- an element is put in -/
theorem insS_any (base : Nat) (v : Value) (n i vb : Nat) (L : List Sec) (x : Sec) (w : World) (hown : w.ownsRow base 29 7 v n (flatE encSec L)) (hn : n ≤ 1000000) (hi : i ≤ n) (hl : L.length = n) (hbase : base ≤ w.heap.size)
    (hv : w.heap[vb]? = some (.cells (encSec x).toArray 29 (0, 0))) (hvb : v.ownBlock ≠ some vb) :
    Calls Try.prog 79 #[v, .int .i64 i, .slice (some ⟨vb, 0, none⟩) 1 1] w fun e w' => ∃ v', e = .returned v' ∧ w'.ownsRow base 29 7 v' (n + 1) (flatE encSec (L.take i ++ x :: L.drop i)) ∧ w.grownBy w' v.ownBlock := by
  by_cases hin : i = n
  · subst hin
    rw [List.take_of_length_le (by omega), List.drop_of_length_le (by omega)]
    exact insS_end base v i vb L x w hown hn hl hbase hv
  · obtain ⟨g, cap, rest, rfl, hbg, hg, hnc, hcm, hxl, hrl⟩ := own_whole hown (by omega)
    have hs : flatE encSec (L.take i) ++ flatE encSec (L.drop i) = flatE encSec L := by rw [← flatE_append, List.take_append_drop]
    have hne : vb ≠ g := fun h => hvb (by simp [Value.ownBlock, h])
    by_cases hr : n + 1 ≤ cap
    · exact insS_shift base g cap n i vb (L.take i) (L.drop i) x rest w (by omega) hn (by simp; omega) (by simp; omega) hr hcm hne hbg (by rw [hs]; exact hg) (by rw [hs]; exact hrl) hv
    · have hcn : cap = n := by omega
      subst hcn
      have hrest : rest = [] := by
        apply List.eq_nil_of_length_eq_zero
        simp only [List.length_append] at hrl
        omega
      subst hrest
      rw [List.append_nil] at hg
      exact insS_grow base g cap i vb (L.take i) (L.drop i) x w (by omega) hn (by simp; omega) (by simp; omega) hne hbase (by rw [hs]; exact hg) hv
end Go.Proofs.Ytpoidaenkjjdfaa
namespace Go.Proofs.Ytpoidaenkjjdfaa
open Go.RowKit
set_option linter.unusedVariables false
set_option linter.unusedSimpArgs false
/-- the register that Add hands back -/
theorem radd_fin {P : Nat → Prop} {R : Reg} {L : List Sec} {w W5 W6 W7 : World} {B : Nat} {s0 s1 s2 s3 : Option Addr} {t0 t1 t2 t3 : Nat} {o : Obj} (hP : ∀ b, w.heap.size ≤ b → P b)
    (h5 : Below w.heap.size w W5) (h6 : W6 = W5.alloc o) (h7 : W6.grownBy W7 (Value.slice s0 R.secs.length t0).ownBlock) (hB : w.heap.size + 3 ≤ B)
    (o0 : W5.ownsRow B 29 7 (.slice s0 R.secs.length t0) R.secs.length (flatE encSec R.secs))
    (o2 : W5.ownsRow B 98 3 (.slice s2 R.hs.length t2) R.hs.length (flatE encHold R.hs))
    (o3 : W5.ownsRow B 110 7 (.slice s3 R.ms.length t3) R.ms.length (flatE encMv R.ms))
    (o7 : W7.ownsRow B 29 7 (.slice s1 (R.secs.length + 1) t1) (R.secs.length + 1) (flatE encSec L)) (hL : L.length = R.secs.length + 1) :
    GaveR P ⟨L, R.hs, R.ms⟩ 0 w (.returned (.tuple #[.agg #[.slice s1 (R.secs.length + 1) t1, .slice s2 R.hs.length t2, .slice s3 R.ms.length t3], .int .i64 0]))
      ((((W7.setCell ⟨w.heap.size, 0, none⟩ (.slice s1 (R.secs.length + 1) t1)).setCell ⟨w.heap.size + 1 + 1, 0, none⟩ (.slice s1 (R.secs.length + 1) t1)).setCell ⟨w.heap.size + 1 + 1, 1, none⟩ (.slice s2 R.hs.length t2)).setCell ⟨w.heap.size + 1 + 1, 2, none⟩ (.slice s3 R.ms.length t3)) := by
  have q0 : W6.ownsRow B 29 7 (.slice s0 R.secs.length t0) R.secs.length (flatE encSec R.secs) := by rw [h6]; exact o0.alloc _
  have q2 : W6.ownsRow B 98 3 (.slice s2 R.hs.length t2) R.hs.length (flatE encHold R.hs) := by rw [h6]; exact o2.alloc _
  have q3 : W6.ownsRow B 110 7 (.slice s3 R.ms.length t3) R.ms.length (flatE encMv R.ms) := by rw [h6]; exact o3.alloc _
  have p2 := q2.kept h7 (own_apart q2 q0 (by decide))
  have p3 := q3.kept h7 (own_apart q3 q0 (by decide))
  have g1 : W7.grownBy (W7.setCell ⟨w.heap.size, 0, none⟩ (.slice s1 (R.secs.length + 1) t1)) (some w.heap.size) := grownBy_setCellZ ..
  have g2 := grownBy_set3 (W7.setCell ⟨w.heap.size, 0, none⟩ (.slice s1 (R.secs.length + 1) t1)) (w.heap.size + 1 + 1) (.slice s1 (R.secs.length + 1) t1) (.slice s2 R.hs.length t2) (.slice s3 R.ms.length t3)
  have r2 := own_kept (own_kept p2 g1 (by omega)) g2 (by omega)
  have r3 := own_kept (own_kept p3 g1 (by omega)) g2 (by omega)
  have r7 := own_kept (own_kept o7 g1 (by omega)) g2 (by omega)
  have h66 : Below w.heap.size w W6 := by rw [h6]; exact bal h5 o
  have z5 := h5.size
  have z6 := h66.size
  have b7 : Below w.heap.size w W7 := h66.grown h7 z6 (fun k hk => by have := (q0.lt k hk).1; omega)
  exact ⟨_, _, _, rfl, ⟨Sl.own encSec_len r7 hL (fun b hb => hP b (by omega)), Sl.own encHold_len r2 rfl (fun b hb => hP b (by omega)), Sl.own encMv_len r3 rfl (fun b hb => hP b (by omega))⟩, bset3 (bset b7 (Nat.le_refl _) _) (by omega) _ _ _⟩
set_option maxHeartbeats 4000000 in
set_option maxRecDepth 100000 in
theorem radd_go (P : Nat → Prop) (vs vh vm : Value) (R : Reg) (id un is ma ra ev : Int) (ix : Bool) (w : World) (hr : RgIn P w vs vh vm R) (hS : R.secs.length ≤ 1000000) (hH : R.hs.length ≤ 1000000) (hM : R.ms.length ≤ 1000000) (hP : ∀ b, w.heap.size ≤ b → P b) (hx : chkE R = 0) (hy : secB id un is ma ra ev = true) (hi : isS R.secs id = false) (hl : R.secs.length ≠ 20) :
    Calls Try.prog 21 #[.agg #[vs, vh, vm], .agg #[.int .i64 id, .int .i64 un, .int .i64 is, .int .i64 ma, .int .i64 ra, .int .i64 ev, .bool ix]] w (GaveR P (raR R ⟨id, un, is, ma, ra, ev, ix⟩) (raE R ⟨id, un, is, ma, ra, ev, ix⟩) w) := by
  obtain ⟨a0, n0, c0, rfl, hn0, -, -⟩ := hr.S.shape
  obtain ⟨a1, n1, c1, rfl, -, -, -⟩ := hr.H.shape
  obtain ⟨a2, n2, c2, rfl, -, -, -⟩ := hr.M.shape
  have HC := Lib.hid (fun W hW => check_any P _ _ _ R W (hr.below (w' := W) hW) hS hH hM)
  have HR := Lib.hid hr
  have HN0 := Lib.hid hn0
  clear hr hn0
  have hf1 : raE R ⟨id, un, is, ma, ra, ev, ix⟩ = 0 := by unfold raE; rw [if_pos hx, if_pos ⟨hy, hi⟩, if_neg hl]
  have hf2 : raR R ⟨id, un, is, ma, ra, ev, ix⟩ = ⟨R.secs.take (posS R.secs id) ++ ⟨id, un, is, ma, ra, ev, ix⟩ :: R.secs.drop (posS R.secs id), R.hs, R.ms⟩ := if_pos hf1
  rw [hf1, hf2]
  clear hf1 hf2
  rw [hx] at HC
  have hok := chkE_iff.1 hx
  have HBS := Lib.hid (fun W (hW : Below w.heap.size w W) => bsS_any P _ R.secs id 0 W (HR.out.S.below hW) hok.secs hS)
  have HOK := Lib.hid hok
  clear hok hx
  obtain ⟨pp, hpp⟩ : ∃ p, posS R.secs id = p := ⟨_, rfl⟩
  obtain ⟨fo, hfo⟩ : ∃ b, isS R.secs id = b := ⟨_, rfl⟩
  obtain ⟨so, hso⟩ : ∃ b, secB id un is ma ra ev = b := ⟨_, rfl⟩
  rw [hpp, hfo] at HBS
  have HPP := Lib.hid hpp
  have HSO := Lib.hid hso
  have hple := posS_le R.secs id
  rw [hpp] at hple ⊢
  have e1 : so = true := hso.symm.trans hy
  have e2 : fo = false := hfo.symm.trans hi
  have e3 : ((n0 : Int) == 20) = false := by have := HN0.out; simp; omega
  have hlen : (R.secs.take pp ++ ⟨id, un, is, ma, ra, ev, ix⟩ :: R.secs.drop pp).length = R.secs.length + 1 := by simp; omega
  have HLEN := Lib.hid hlen
  have HPL := Lib.hid hple
  clear hy hi hl hlen hple
  clear hpp hfo hso
  subst e1
  subst e2
  go_enter Try.func21, Try.ntmps21
  go_wp2_with fail
  refine (HC.out _ (bal (bal (bal brefl _) _) _)).mono ?_
  rintro e w1 ⟨rfl, hb1⟩
  have HB1 := Lib.hid (bup (bal (bal (bal brefl _) _) _) hb1)
  have hrb := (hb1.block w.heap.size (by simp; omega)).trans ((heap_alloc_old _ _ (by simp; omega)).trans ((heap_alloc_old _ _ (by simp)).trans (heap_alloc_new w _)))
  have hmb := (hb1.block (w.heap.size + 1) (by simp)).trans ((heap_alloc_old _ _ (by simp)).trans (heap_at (by simp)))
  have hxb := (hb1.block (w.heap.size + 1 + 1) (by simp)).trans (heap_at (by simp))
  have z1 := hb1.size
  simp only [World.size_alloc] at z1
  have HRB := Lib.hid hrb
  have HMB := Lib.hid hmb
  have HXB := Lib.hid hxb
  have r0 := cell_heap (i := 0) hrb rfl
  have m0 := cell_heap (i := 0) hmb rfl
  clear hrb hmb hxb hb1
  go_wp2_with fail
  refine (HBS.out _ HB1.out).mono ?_
  rintro e w2 ⟨rfl, hb2⟩
  have HB2 := Lib.hid (bup HB1.out hb2)
  have hmb2 := (hb2.block (w.heap.size + 1) (by omega)).trans HMB.out
  have HRB2 := Lib.hid ((hb2.block w.heap.size (by omega)).trans HRB.out)
  have HMB2 := Lib.hid hmb2
  have HXB2 := Lib.hid ((hb2.block (w.heap.size + 1 + 1) (by omega)).trans HXB.out)
  have z2 := hb2.size
  clear r0 m0 hb2
  have m0 := cell_heap (i := 0) hmb2 rfl
  have m1 := cell_heap (i := 1) hmb2 rfl
  have m2 := cell_heap (i := 2) hmb2 rfl
  have m3 := cell_heap (i := 3) hmb2 rfl
  have m4 := cell_heap (i := 4) hmb2 rfl
  have m5 := cell_heap (i := 5) hmb2 rfl
  have m6 := cell_heap (i := 6) hmb2 rfl
  clear hmb2
  go_wp2_with fail
  refine (security_any _ _ _ _ _ _ _ _).mono ?_
  rw [HSO.out]
  rintro e w3 ⟨rfl, hb3⟩
  have HB3 := Lib.hid (bup HB2.out hb3)
  have z3 := hb3.size
  have hrb3 := (hb3.block w.heap.size (by omega)).trans HRB2.out
  have hmb3 := (hb3.block (w.heap.size + 1) (by omega)).trans HMB2.out
  have hxb3 := (hb3.block (w.heap.size + 1 + 1) (by omega)).trans HXB2.out
  clear m0 m1 m2 m3 m4 m5 m6 hb3
  have y0 := cell_heap (i := 0) hrb3 rfl
  have x0 := cell_heap (i := 0) hxb3 rfl
  have x1 := cell_heap (i := 1) hxb3 rfl
  have x2 := cell_heap (i := 2) hxb3 rfl
  have xf0 : w3.frozen? ⟨w.heap.size + 1 + 1, 0, none⟩ = false := frozen_of_row w3 _ _ _ _ hxb3
  have xf1 : w3.frozen? ⟨w.heap.size + 1 + 1, 1, none⟩ = false := frozen_of_row w3 _ _ _ _ hxb3
  have xf2 : w3.frozen? ⟨w.heap.size + 1 + 1, 2, none⟩ = false := frozen_of_row w3 _ _ _ _ hxb3
  clear x0 x1 x2 xf0 xf1 xf2
  have yc1 := cell_heap (i := 1) hrb3 rfl
  have yc2 := cell_heap (i := 2) hrb3 rfl
  go_wp2_with fail
  refine (copy_any P _ _ _ R _ (HR.out.below HB3.out) hS hH hM).mono ?_
  rintro e w4 ⟨us, uh, um, rfl, hO4, hb4⟩
  obtain ⟨s0, t0, rfl⟩ := own_slice0 hO4.S
  obtain ⟨s2, t2, rfl⟩ := own_slice0 hO4.H
  obtain ⟨s3, t3, rfl⟩ := own_slice0 hO4.M
  have z4 := hb4.size
  obtain ⟨W5, hW5⟩ : ∃ W, W = ((w4.setCell ⟨w.heap.size, 0, none⟩ (.slice s0 R.secs.length t0)).setCell ⟨w.heap.size, 1, none⟩ (.slice s2 R.hs.length t2)).setCell ⟨w.heap.size, 2, none⟩ (.slice s3 R.ms.length t3) := ⟨_, rfl⟩
  have g45 : w4.grownBy W5 (some w.heap.size) := by rw [hW5]; exact grownBy_set3 ..
  have z5 : W5.heap.size = w4.heap.size := by rw [hW5]; simp [World.setCell]
  have hB4 := bup HB3.out hb4
  have hB5 : Below w.heap.size w W5 := by rw [hW5]; exact bset3 hB4 (Nat.le_refl _) _ _ _
  have hr4 := (hb4.block _ (by omega)).trans hrb3
  have hr5 : W5.heap[w.heap.size]? = some (.cells #[.slice s0 R.secs.length t0, .slice s2 R.hs.length t2, .slice s3 R.ms.length t3] 27 (0, 0)) := by
    have a0 := heap_setCell_same _ _ 0 _ _ (.slice s0 R.secs.length t0) hr4
    have a1 := heap_setCell_same _ _ 1 _ _ (.slice s2 R.hs.length t2) a0
    have a2 := heap_setCell_same _ _ 2 _ _ (.slice s3 R.ms.length t3) a1
    rw [hW5, a2]; rfl
  have hx5 := (g45.block _ (by omega) (by simp; omega)).trans ((hb4.block _ (by omega)).trans hxb3)
  have hm5 := (g45.block _ (by omega) (by simp)).trans ((hb4.block _ (by omega)).trans hmb3)
  have oS5 := own_kept hO4.S g45 (by omega)
  have oM5 := own_kept hO4.M g45 (by omega)
  have oH5 := own_kept hO4.H g45 (by omega)
  have p0 := cell_heap (i := 0) hr4 rfl
  have p1 := cell_heap (i := 1) hr4 rfl
  have p2 := cell_heap (i := 2) hr4 rfl
  have pf0 : w4.frozen? ⟨w.heap.size, 0, none⟩ = false := frozen_of_row w4 _ _ _ _ hr4
  have pf1 : w4.frozen? ⟨w.heap.size, 1, none⟩ = false := frozen_of_row w4 _ _ _ _ hr4
  have pf2 : w4.frozen? ⟨w.heap.size, 2, none⟩ = false := frozen_of_row w4 _ _ _ _ hr4
  have HY := Lib.hid hW5
  have HM5 := Lib.hid hm5
  have HR5 := Lib.hid hr5
  have HX5 := Lib.hid hx5
  have HO := Lib.hid (And.intro oS5 (And.intro oH5 (And.intro oM5 hB5)))
  have HZ := Lib.hid (And.intro z4 z5)
  clear hW5 g45 hB4 hB5 hr4 hm5 hr5 hx5 oS5 oM5 oH5 hrb3 hmb3 hxb3 y0 yc1 yc2 hO4 hb4
  go_upto_region 10 with fail
  rename_i K hK
  rw [← HY.out]
  have zz5 : w3.heap.size ≤ W5.heap.size := by have := HZ.out; omega
  clear p0 p1 p2 pf0 pf1 pf2
  have m0 := cell_heap (i := 0) HM5.out rfl
  have m1 := cell_heap (i := 1) HM5.out rfl
  have m2 := cell_heap (i := 2) HM5.out rfl
  have m3 := cell_heap (i := 3) HM5.out rfl
  have m4 := cell_heap (i := 4) HM5.out rfl
  have m5 := cell_heap (i := 5) HM5.out rfl
  have m6 := cell_heap (i := 6) HM5.out rfl
  have o0 := cell_heap (i := 0) HR5.out rfl
  go_wp2_with fail
  obtain ⟨W6, hW6⟩ : ∃ W, W = W5.alloc (.cells #[.int .i64 id, .int .i64 un, .int .i64 is, .int .i64 ma, .int .i64 ra, .int .i64 ev, .bool ix] 29 (0, 0)) := ⟨_, rfl⟩
  rw [← hW6]
  have oS6 : W6.ownsRow w3.heap.size 29 7 (.slice s0 R.secs.length t0) R.secs.length (flatE encSec R.secs) := by rw [hW6]; exact HO.out.1.alloc _
  have hv6 : W6.heap[W5.heap.size]? = some (.cells (encSec ⟨id, un, is, ma, ra, ev, ix⟩).toArray 29 (0, 0)) := by rw [hW6]; exact heap_alloc_new W5 _
  have z6 : W6.heap.size = W5.heap.size + 1 := by rw [hW6]; simp
  rw [show w4.heap.size = W5.heap.size from HZ.out.2.symm]
  refine (insS_any w3.heap.size _ R.secs.length pp W5.heap.size R.secs ⟨id, un, is, ma, ra, ev, ix⟩ W6 oS6 hS HPL.out rfl (by omega) hv6 (fun hk => by have := (HO.out.1.lt _ hk).2; omega)).mono ?_
  rintro e W7 ⟨v7, rfl, own7, g67⟩
  obtain ⟨s1, t1, rfl⟩ := own_slice own7
  have z7 := g67.size
  have hne : ∀ k, k < w3.heap.size → some k ≠ (Value.slice s0 R.secs.length t0).ownBlock := by
    intro k hk he
    have := (oS6.lt k he.symm).1
    omega
  have blk7 : ∀ k, k < w3.heap.size → W7.heap[k]? = W5.heap[k]? := by
    intro k hk
    rw [g67.block k (by omega) (hne k hk), hW6]
    exact heap_alloc_old W5 _ (by omega)
  have hr7b := (blk7 _ (by omega)).trans HR5.out
  have hx7b := (blk7 _ (by omega)).trans HX5.out
  have HFIN := Lib.hid (radd_fin (s2 := s2) (s3 := s3) (t2 := t2) (t3 := t3) hP HO.out.2.2.2 hW6 g67 (by omega) HO.out.1 HO.out.2.1 HO.out.2.2.1 own7 HLEN.out)
  have f70 : W7.frozen? ⟨w.heap.size, 0, none⟩ = false := frozen_of_row W7 _ _ _ _ hr7b
  have o70 := cell_heap (i := 0) hr7b rfl
  have o71 := cell_heap (i := 1) hr7b rfl
  have o72 := cell_heap (i := 2) hr7b rfl
  have e70 := cell_heap (i := 0) hx7b rfl
  have e71 := cell_heap (i := 1) hx7b rfl
  have e72 := cell_heap (i := 2) hx7b rfl
  have ef0 : W7.frozen? ⟨w.heap.size + 1 + 1, 0, none⟩ = false := frozen_of_row W7 _ _ _ _ hx7b
  have ef1 : W7.frozen? ⟨w.heap.size + 1 + 1, 1, none⟩ = false := frozen_of_row W7 _ _ _ _ hx7b
  have ef2 : W7.frozen? ⟨w.heap.size + 1 + 1, 2, none⟩ = false := frozen_of_row W7 _ _ _ _ hx7b
  clear m0 m1 m2 m3 m4 m5 m6 o0 oS6 hv6 z6 z7 zz5 hne blk7 own7 g67 hW6 hr7b hx7b
  go_wp2
  refine bodyPost_ret (v := .tuple #[.agg #[.slice s1 (R.secs.length + 1) t1, .slice s2 R.hs.length t2, .slice s3 R.ms.length t3], .int .i64 0]) (by simp [results, Try.results21, go_sem, e70, e71, e72]) rfl ?_
  exact HFIN.out
theorem radd_any (P : Nat → Prop) (vs vh vm : Value) (R : Reg) (id un is ma ra ev : Int) (ix : Bool) (w : World) (hr : RgIn P w vs vh vm R) (hS : R.secs.length ≤ 1000000) (hH : R.hs.length ≤ 1000000) (hM : R.ms.length ≤ 1000000) (hP : ∀ b, w.heap.size ≤ b → P b) :
    Calls Try.prog 21 #[.agg #[vs, vh, vm], .agg #[.int .i64 id, .int .i64 un, .int .i64 is, .int .i64 ma, .int .i64 ra, .int .i64 ev, .bool ix]] w (GaveR P (raR R ⟨id, un, is, ma, ra, ev, ix⟩) (raE R ⟨id, un, is, ma, ra, ev, ix⟩) w) := by
  by_cases hx : chkE R = 0
  · cases hy : secB id un is ma ra ev
    · exact radd_sec P vs vh vm R id un is ma ra ev ix w hr hS hH hM hP hx hy
    · cases hi : isS R.secs id
      · by_cases hl : R.secs.length = 20
        · exact radd_full P vs vh vm R id un is ma ra ev ix w hr hS hH hM hP hx hy hi hl
        · exact radd_go P vs vh vm R id un is ma ra ev ix w hr hS hH hM hP hx hy hi hl
      · exact radd_there P vs vh vm R id un is ma ra ev ix w hr hS hH hM hP hx hy hi
  · exact radd_bad P vs vh vm R id un is ma ra ev ix w hr hS hH hM hP hx
end Go.Proofs.Ytpoidaenkjjdfaa
