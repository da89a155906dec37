/- The structs of the program as Lean structures: their cells, their reading out of a slice. Printed by wip/gen/typesa.py. cmp.Or at any numbers. Auction: the small tests, the order of bids. -/
import Derived.Test.YtenbbmmbpjjjpaaZRegP
import Derived.Test.YtenbbmmbpjjjpaaZCmpI
import Derived.Test.YtenbbmmbpjjjpaaZSortR
import Derived.Shelf.Abstract
import Derived.ChangeAlike
import Derived.RegionTactic
import Derived.BigRegion
import Derived.Deep.RegionHeld3
import Derived.Deep.QuietTactic
namespace Go.Proofs.Ytenbbmmbpjjjpaa
open Go.RowKit
set_option linter.unusedVariables false

structure Bid where
  bd : Int
  num : Int
  p : Int
  a : Int
  f : Bool
def encBid (a : Bid) : List Value := [.int .i64 a.bd, .int .i64 a.num, .int .i64 a.p, .int .i64 a.a, .bool a.f]
theorem encBid_len (a : Bid) : (encBid a).length = 5 := rfl
theorem oneBid (a : Bid) : ∀ u ∈ encBid a, u.oneCell' = true := by
  intro u hu
  simp only [encBid, List.mem_cons, List.not_mem_nil, or_false] at hu
  rcases hu with rfl | rfl | rfl | rfl | rfl <;> rfl
theorem Sl.bid {P : Nat → Prop} {w : World} {ao : Option Addr} {n c k : Nat} {L : List Bid} (h : Sl 5 encBid P w (.slice ao n c) L) (hk : k < n) :
    ∃ b off vbd vnum vp va vf, ao = some ⟨b, off, none⟩ ∧ P b ∧ b < w.heap.size ∧ L[k]? = some ⟨vbd, vnum, vp, va, vf⟩ ∧ w.cell? ⟨b, off + k * 5, none⟩ = some (.int .i64 vbd) ∧ w.cell? ⟨b, off + k * 5 + 1, none⟩ = some (.int .i64 vnum) ∧ w.cell? ⟨b, off + k * 5 + 2, none⟩ = some (.int .i64 vp) ∧ w.cell? ⟨b, off + k * 5 + 3, none⟩ = some (.int .i64 va) ∧ w.cell? ⟨b, off + k * 5 + 4, none⟩ = some (.bool vf) := by
  obtain ⟨b, off, ⟨vbd, vnum, vp, va, vf⟩, h1, h2, h3, h4, h5⟩ := h.at_ hk
  exact ⟨b, off, vbd, vnum, vp, va, vf, h1, h2, h3, h4, h5 0 _ rfl, h5 1 _ rfl, h5 2 _ rfl, h5 3 _ rfl, h5 4 _ rfl⟩
theorem infoBid : (Try.prog.info? 37).map (fun i => (i.zero, i.size, i.bytes)) = some (some (.agg #[.int .i64 0, .int .i64 0, .int .i64 0, .int .i64 0, .bool false]), 5, 40) := by kernel_rfl
structure Awd where
  bd : Int
  num : Int
  a : Int
  p : Int
def encAwd (a : Awd) : List Value := [.int .i64 a.bd, .int .i64 a.num, .int .i64 a.a, .int .i64 a.p]
theorem encAwd_len (a : Awd) : (encAwd a).length = 4 := rfl
theorem oneAwd (a : Awd) : ∀ u ∈ encAwd a, u.oneCell' = true := by
  intro u hu
  simp only [encAwd, List.mem_cons, List.not_mem_nil, or_false] at hu
  rcases hu with rfl | rfl | rfl | rfl <;> rfl
theorem Sl.awd {P : Nat → Prop} {w : World} {ao : Option Addr} {n c k : Nat} {L : List Awd} (h : Sl 4 encAwd P w (.slice ao n c) L) (hk : k < n) :
    ∃ b off vbd vnum va vp, ao = some ⟨b, off, none⟩ ∧ P b ∧ b < w.heap.size ∧ L[k]? = some ⟨vbd, vnum, va, vp⟩ ∧ w.cell? ⟨b, off + k * 4, none⟩ = some (.int .i64 vbd) ∧ w.cell? ⟨b, off + k * 4 + 1, none⟩ = some (.int .i64 vnum) ∧ w.cell? ⟨b, off + k * 4 + 2, none⟩ = some (.int .i64 va) ∧ w.cell? ⟨b, off + k * 4 + 3, none⟩ = some (.int .i64 vp) := by
  obtain ⟨b, off, ⟨vbd, vnum, va, vp⟩, h1, h2, h3, h4, h5⟩ := h.at_ hk
  exact ⟨b, off, vbd, vnum, va, vp, h1, h2, h3, h4, h5 0 _ rfl, h5 1 _ rfl, h5 2 _ rfl, h5 3 _ rfl⟩
theorem infoAwd : (Try.prog.info? 42).map (fun i => (i.zero, i.size, i.bytes)) = some (some (.agg #[.int .i64 0, .int .i64 0, .int .i64 0, .int .i64 0]), 4, 32) := by kernel_rfl
end Go.Proofs.Ytenbbmmbpjjjpaa
namespace Go.Proofs.Ytenbbmmbpjjjpaa
open Go.RowKit
set_option linter.unusedVariables false
set_option linter.unusedSimpArgs false
/-- the first that is not 0 -/
def orL : List Int → Int
  | [] => 0
  | a :: L => if a = 0 then orL L else a
theorem or_any (P : Nat → Prop) (v : Value) (L : List Int) (w : World) (hS : Sl 1 encI P w v L) (hlen : L.length ≤ 1000000) :
    Calls Try.prog 65 #[v] w fun e w' => e = .returned (.int .i64 (orL L)) ∧ w = w' := by
  obtain ⟨ao, n, c, rfl, hn, hnc, hcm⟩ := hS.shape
  have hn1 : n ≤ 1000000 := by omega
  obtain ⟨r, hr⟩ : ∃ r, orL L = r := ⟨_, rfl⟩
  rw [hr]
  have HS := Lib.hid hS
  have HN := Lib.hid hn
  have HR := Lib.hid hr
  clear hS hn hlen hr
  go_enter Try.func65, Try.ntmps65
  go_wp2
  go_loopw [8] (fun iv wr => ∃ k : Nat, k ≤ n ∧ iv = .int .i64 k ∧ r = orL (L.drop k) ∧ wr = w) (fun iv _ => n - (intOf iv).toNat)
  case atStart => exact ⟨0, by omega, rfl, by rw [List.drop_zero]; exact HR.out.symm, rfl⟩
  case round =>
    obtain ⟨k, hk, rfl, hrk, rfl⟩ := hrel
    by_cases hlt : k < n
    · obtain ⟨b, off, a, rfl, -, hb', hL, k0⟩ := HS.out.int hlt
      rw [drop_cons hL] at hrk
      simp only [orL] at hrk
      have HRK := Lib.hid hrk
      have hkn : (k : Int) < n := by omega
      clear hL hrk
      by_cases e1 : a = 0
      · have hrel2 := Lib.hid (show r = orL (L.drop (k + 1)) by rw [HRK.out, if_pos e1])
        subst e1
        go_wp2
        go_roundw
        case rel => exact ⟨k + 1, by omega, by go_num, hrel2.out, by first | rfl | trivial⟩
        case measure => simp [intOf]; omega
      · have hf := Lib.hid (show r = a by rw [HRK.out, if_neg e1])
        have h' : (a == 0) = false := by simpa using e1
        have h2 : (a != 0) = true := by simpa using e1
        go_wp2
        go_ret
        exact ⟨ret_int hf.out.symm, rfl⟩
    · have hf := Lib.hid (show r = 0 by rw [hrk, drop_all (by have := HN.out; omega)]; rfl)
      clear hrk
      go_wp2
      go_ret
      exact ⟨ret_int hf.out.symm, rfl⟩
theorem cmpI_neg (a b : Int) : cmpI a b < 0 ↔ a < b := by
  unfold cmpI
  by_cases h1 : a < b
  · simp [h1]
  · by_cases h2 : b < a
    · simp [h1, h2]
    · simp [h1, h2]
theorem cmpI_zero (a b : Int) : cmpI a b = 0 ↔ a = b := by
  unfold cmpI
  by_cases h1 : a < b
  · rw [if_pos h1]; omega
  · rw [if_neg h1]
    by_cases h2 : b < a
    · rw [if_pos h2]; omega
    · rw [if_neg h2]; omega
end Go.Proofs.Ytenbbmmbpjjjpaa
namespace Go.Proofs.Ytenbbmmbpjjjpaa
open Go.RowKit
set_option linter.unusedVariables false
set_option linter.unusedSimpArgs false
/-- a valid bid -/
structure BidOk (x : Bid) : Prop where
  b0 : 1 ≤ x.bd
  b1 : x.bd ≤ 40
  n0 : 1 ≤ x.num
  n1 : x.num ≤ 40
  a0 : 1000 ≤ x.a
  a1 : x.a ≤ 1000000000
  am : x.a % 1000 = 0
  pf : x.f = true → x.p = 0
  pc : x.f = false → 1 ≤ x.p ∧ x.p ≤ 200000
/-- a valid offer -/
structure OffOk (am le sh : Int) : Prop where
  a0 : 1000 ≤ am
  a1 : am ≤ 1000000000
  m : am % 1000 = 0
  l0 : 1 ≤ le
  l1 : le ≤ 200000
  s0 : 0 ≤ sh
  s1 : sh ≤ 100
theorem amongB_any (n lo hi : Int) (w : World) : Calls Try.prog 62 #[.int .i64 n, .int .i64 lo, .int .i64 hi] w fun e w' => e = .returned (.bool (inB n lo hi)) ∧ w = w' := by
  go_enter Try.func62, Try.ntmps62
  go_wp2
  all_goals (go_ret; exact ⟨ret_bool (by simp only [inB]; first | (rw [Bool.eq_iff_iff]; simp; omega) | (simp; omega)), rfl⟩)
theorem amongU_any (n lo hi : Int) (w : World) : Calls Try.prog 45 #[.int .i64 n, .int .i64 lo, .int .i64 hi] w fun e w' => e = .returned (.bool (inB n lo hi)) ∧ w = w' := by
  go_enter Try.func45, Try.ntmps45
  go_wp2
  all_goals (go_ret; exact ⟨ret_bool (by simp only [inB]; first | (rw [Bool.eq_iff_iff]; simp; omega) | (simp; omega)), rfl⟩)
theorem lots_any (n : Int) (w : World) (h0 : 1000 ≤ n) (h1 : n ≤ 1000000000) (hm : n % 1000 = 0) : Calls Try.prog 44 #[.int .i64 n] w fun e w' => e = .returned (.bool true) ∧ w = w' := by
  have ht : Int.tmod n 1000 = 0 := by rw [Int.tmod_eq_emod_of_nonneg (by omega)]; exact hm
  have hb : inB n 1000 1000000000 = true := inB_iff.2 ⟨h0, h1⟩
  go_enter Try.func44, Try.ntmps44
  go_wp2_with (go_at_call 62; refine (amongB_any _ _ _ _).mono ?_; rw [hb]; rintro e w' ⟨rfl, rfl⟩)
  go_ret
  exact ⟨ret_bool (by simp [ht]), rfl⟩
theorem offer_any (am le sh : Int) (un : Bool) (w : World) (h : OffOk am le sh) : Calls Try.prog 22 #[.agg #[.int .i64 am, .int .i64 le, .int .i64 sh, .bool un]] w fun e w' => e = .returned (.bool true) ∧ Below w.heap.size w w' := by
  have K1 := Lib.hid (fun U => lots_any am U h.a0 h.a1 h.m)
  have hb1 : inB le 1 200000 = true := inB_iff.2 ⟨h.l0, h.l1⟩
  have hb2 : inB sh 0 100 = true := inB_iff.2 ⟨h.s0, h.s1⟩
  clear h
  go_enter Try.func22, Try.ntmps22
  go_wp2_with (first | (go_at_call 44; refine (K1.out _).mono ?_; rintro e w' ⟨rfl, rfl⟩) | (go_at_call 45; refine (amongU_any _ _ _ _).mono ?_; (first | rw [hb1] | rw [hb2]); rintro e w' ⟨rfl, rfl⟩))
  go_ret
  exact ⟨ret_bool (by first | rfl | simp), bal brefl _⟩
theorem bvalid_any (x : Bid) (w : World) (h : BidOk x) : Calls Try.prog 50 #[.agg #[.int .i64 x.bd, .int .i64 x.num, .int .i64 x.p, .int .i64 x.a, .bool x.f]] w fun e w' => e = .returned (.bool true) ∧ Below w.heap.size w w' := by
  obtain ⟨bd, num, p, a, f⟩ := x
  obtain ⟨b0, b1, n0, n1, a0, a1, am, pf, pc⟩ := h
  simp only at b0 b1 n0 n1 a0 a1 am pf pc ⊢
  have K1 := Lib.hid (fun U => lots_any a U a0 a1 am)
  have hb1 := Lib.hid (show inB bd 1 40 = true from inB_iff.2 ⟨b0, b1⟩)
  have hb2 := Lib.hid (show inB num 1 40 = true from inB_iff.2 ⟨n0, n1⟩)
  cases f with
  | true =>
    have hp := pf rfl
    subst hp
    clear pf pc
    go_enter Try.func50, Try.ntmps50
    go_wp2_with (first | (go_at_call 44; refine (K1.out _).mono ?_; rintro e w' ⟨rfl, rfl⟩) | (go_at_call 62; refine (amongB_any _ _ _ _).mono ?_; (first | rw [hb1.out] | rw [hb2.out] | rw [show inB 0 1 200000 = false from rfl]); rintro e w' ⟨rfl, rfl⟩))
    go_ret
    exact ⟨ret_bool (by first | rfl | simp), bal brefl _⟩
  | false =>
    have hp := Lib.hid (show inB p 1 200000 = true from inB_iff.2 (pc rfl))
    clear pf pc
    go_enter Try.func50, Try.ntmps50
    go_wp2_with (first | (go_at_call 44; refine (K1.out _).mono ?_; rintro e w' ⟨rfl, rfl⟩) | (go_at_call 62; refine (amongB_any _ _ _ _).mono ?_; (first | rw [hp.out] | rw [hb1.out] | rw [hb2.out]); rintro e w' ⟨rfl, rfl⟩))
    go_ret
    exact ⟨ret_bool (by first | rfl | simp), bal brefl _⟩
theorem bcheck1_any (x : Bid) (w : World) (h : BidOk x) : Calls Try.prog 49 #[.agg #[.int .i64 x.bd, .int .i64 x.num, .int .i64 x.p, .int .i64 x.a, .bool x.f]] w fun e w' => e = .returned (.bool false) ∧ Below w.heap.size w w' := by
  have K := Lib.hid (fun U => bvalid_any x U h)
  obtain ⟨bd, num, p, a, f⟩ := x
  clear h
  go_enter Try.func49, Try.ntmps49
  go_wp2_with fail
  refine (K.out _).mono ?_
  rintro e w1 ⟨rfl, hb1⟩
  go_wp2
  go_ret
  exact ⟨ret_bool (by first | rfl | simp), bup (bal brefl _) hb1⟩
/-- the order of bids -/
def cmpB (x y : Bid) : Int := orL [cmpI x.bd y.bd, cmpI x.num y.num]
theorem orL2_neg (p q : Int) : orL [p, q] < 0 ↔ p < 0 ∨ p = 0 ∧ q < 0 := by
  simp only [orL]
  by_cases h1 : p = 0
  · rw [if_pos h1]
    by_cases h2 : q = 0
    · rw [if_pos h2]; omega
    · rw [if_neg h2]; omega
  · rw [if_neg h1]; omega
theorem orL2_zero (p q : Int) : orL [p, q] = 0 ↔ p = 0 ∧ q = 0 := by
  simp only [orL]
  by_cases h1 : p = 0
  · rw [if_pos h1]
    by_cases h2 : q = 0
    · rw [if_pos h2]; omega
    · rw [if_neg h2]; omega
  · rw [if_neg h1]; omega
theorem cmpB_neg (x y : Bid) : cmpB x y < 0 ↔ x.bd < y.bd ∨ x.bd = y.bd ∧ x.num < y.num := by
  unfold cmpB
  rw [orL2_neg, cmpI_neg, cmpI_neg, cmpI_zero]
theorem cmpB_zero (x y : Bid) : cmpB x y = 0 ↔ x.bd = y.bd ∧ x.num = y.num := by
  unfold cmpB
  rw [orL2_zero, cmpI_zero, cmpI_zero]
theorem cmpB_wk : Wk (ltz cmpB) := by
  constructor
  · intro x y h
    unfold ltz at h ⊢
    rw [decide_eq_true_iff, cmpB_neg] at h
    rw [decide_eq_false_iff_not, cmpB_neg]
    omega
  · intro x y z h1 h2
    unfold ltz at h1 h2 ⊢
    rw [decide_eq_false_iff_not, cmpB_neg] at h1 h2 ⊢
    omega
theorem sl2 {a b : Int} {w : World} {B : Nat} (h0 : w.cell? ⟨B, 0, none⟩ = some (.int .i64 a)) (h1 : w.cell? ⟨B, 1, none⟩ = some (.int .i64 b)) : Sl 1 encI (fun _ => True) w (.slice (some ⟨B, 0, none⟩) 2 2) [a, b] := by
  refine ⟨_, 2, 2, rfl, rfl, Nat.le_refl _, by unfold maxLen; omega, .inr ⟨B, 0, rfl, trivial, World.block_lt_of_cell? w _ h0, fun j x hj i u hi => ?_⟩⟩
  have hj4 : j < 2 := by have := (List.getElem?_eq_some_iff.1 hj).1; simpa using this
  have hi1 : i < 1 := by have := (List.getElem?_eq_some_iff.1 hi).1; simpa [encI] using this
  obtain rfl : i = 0 := by omega
  simp only [encI, List.getElem?_cons_zero, Option.some.injEq] at hi
  subst hi
  rcases (show j = 0 ∨ j = 1 by omega) with rfl | rfl
  · simp at hj; subst hj; simpa using h0
  · simp at hj; subst hj; simpa using h1
set_option maxHeartbeats 4000000 in
set_option maxRecDepth 100000 in
theorem bcompare_any (bd num p a bd' num' p' a' : Int) (f f' : Bool) (w : World) :
    Calls Try.prog 53 #[.agg #[.int .i64 bd, .int .i64 num, .int .i64 p, .int .i64 a, .bool f], .agg #[.int .i64 bd', .int .i64 num', .int .i64 p', .int .i64 a', .bool f']] w fun e w' => e = .returned (.int .i64 (cmpB ⟨bd, num, p, a, f⟩ ⟨bd', num', p', a', f'⟩)) ∧ Below w.heap.size w w' := by
  obtain ⟨x1, hx1⟩ : ∃ x, cmpI bd bd' = x := ⟨_, rfl⟩
  obtain ⟨x2, hx2⟩ : ∃ x, cmpI num num' = x := ⟨_, rfl⟩
  have e := Lib.hid (show cmpB ⟨bd, num, p, a, f⟩ ⟨bd', num', p', a', f'⟩ = orL [x1, x2] by unfold cmpB; simp only [hx1, hx2])
  have HX1 := Lib.hid hx1
  have HX2 := Lib.hid hx2
  clear hx1 hx2
  go_enter Try.func53, Try.ntmps53
  go_wp2
  go_region_held3 (fun w' => w'.cell? ⟨w.heap.size, 0, none⟩ = some (.int .i64 bd) ∧ w'.cell? ⟨w.heap.size, 1, none⟩ = some (.int .i64 num) ∧ w'.cell? ⟨w.heap.size + 1, 0, none⟩ = some (.int .i64 bd') ∧ w'.cell? ⟨w.heap.size + 1, 1, none⟩ = some (.int .i64 num')) (first | go_keep) (first | (go_at_call 57; refine (compare_any _ _ _).mono ?_; (first | rw [HX1.out] | rw [HX2.out]); rintro e w' ⟨rfl, rfl⟩) | (go_at_call 65; refine (or_any (fun _ => True) _ [x1, x2] _ (sl2 ?_ ?_) (by simp)).mono ?_; (· exact (World.cell?_alloc_at _ _ _ _ (by simp)).trans rfl); (· exact (World.cell?_alloc_at _ _ _ _ (by simp)).trans rfl); rintro e w' ⟨rfl, rfl⟩))
  go_wp2
  go_ret
  exact ⟨ret_int e.out.symm, bal (bdr (bal (bal brefl _) _)) _⟩
end Go.Proofs.Ytenbbmmbpjjjpaa
