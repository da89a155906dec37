/- Contracts of index.Scaled, Final, Coupon. -/
import Derived.Test.YtmhglabcnimegaaZIdx2
import Derived.Test.YtmhglabcnimegaaZShare
namespace Go.Proofs.Ytmhglabcnimegaa
open Go.RowKit
set_option linter.unusedVariables false

def scV (fi : Int) (n : Nat) (xs : Nat → Int) (id un is ma ra ev : Int) (ix : Bool) (a day : Int) : Int := if rtE fi n xs id un is ma ra ev ix day = 0 then shV a (rtN fi n xs id un is ma ra ev ix day) (rtD fi n xs id un is ma ra ev ix day) else 0
def scE (fi : Int) (n : Nat) (xs : Nat → Int) (id un is ma ra ev : Int) (ix : Bool) (a day : Int) : Int := if rtE fi n xs id un is ma ra ev ix day = 0 then shE a (rtN fi n xs id un is ma ra ev ix day) (rtD fi n xs id un is ma ra ev ix day) else rtE fi n xs id un is ma ra ev ix day
set_option maxHeartbeats 400000 in
theorem scaled_any (fi : Int) (ao : Option Addr) (n c : Nat) (xs : Nat → Int) (id un is ma ra ev : Int) (ix : Bool) (a day : Int) (w : World) (h : IxOk w ao n c xs) :
    Calls Try.prog 66 #[.agg #[.int .i64 fi, .slice ao n c], .agg #[.int .i64 id, .int .i64 un, .int .i64 is, .int .i64 ma, .int .i64 ra, .int .i64 ev, .bool ix], .int .i64 a, .int .i64 day] w fun e w' => e = .returned (.tuple #[.int .i64 (scV fi n xs id un is ma ra ev ix a day), .int .i64 (scE fi n xs id un is ma ra ev ix a day)]) ∧ Below w.heap.size w w' := by
  have H := Lib.hid ((h.alloc (.cells #[.int .i64 fi, .slice ao n c] 95)).alloc (.cells #[.int .i64 id, .int .i64 un, .int .i64 is, .int .i64 ma, .int .i64 ra, .int .i64 ev, .bool ix] 41))
  clear h
  unfold scV scE
  obtain ⟨rn, hn⟩ : ∃ r, rtN fi n xs id un is ma ra ev ix day = r := ⟨_, rfl⟩
  obtain ⟨rd, hd⟩ : ∃ r, rtD fi n xs id un is ma ra ev ix day = r := ⟨_, rfl⟩
  obtain ⟨re, he⟩ : ∃ r, rtE fi n xs id un is ma ra ev ix day = r := ⟨_, rfl⟩
  rw [hn, hd, he]
  have HR := Lib.hid (And.intro hn (And.intro hd he))
  clear hn hd he
  by_cases h0 : re = 0
  · rw [if_pos h0, if_pos h0]
    subst h0
    go_enter Try.func66, Try.ntmps66
    go_wp2_with fail
    refine (ratio_any fi ao n c xs id un is ma ra ev ix day _ H.out).mono ?_
    rw [HR.out.1, HR.out.2.1, HR.out.2.2]
    rintro e w1 ⟨rfl, hb⟩
    have hB := below_box2 hb
    go_wp2_with (go_at_call 126; refine (share_any _ _ _ _).mono ?_; rintro e w' ⟨rfl, rfl⟩)
    go_ret2
    exact ⟨rfl, hB⟩
  · rw [if_neg h0, if_neg h0]
    have h1 : (re != 0) = true := by simpa using h0
    clear h0
    go_enter Try.func66, Try.ntmps66
    go_wp2_with fail
    refine (ratio_any fi ao n c xs id un is ma ra ev ix day _ H.out).mono ?_
    rw [HR.out.1, HR.out.2.1, HR.out.2.2]
    rintro e w1 ⟨rfl, hb⟩
    have hB := below_box2 hb
    go_wp2
    go_ret2
    exact ⟨rfl, hB⟩
def fnV (fi : Int) (n : Nat) (xs : Nat → Int) (id un is ma ra ev : Int) (ix : Bool) (a : Int) : Int := if scE fi n xs id un is ma ra ev ix a ma = 0 then max (scV fi n xs id un is ma ra ev ix a ma) a else 0
theorem final_any (fi : Int) (ao : Option Addr) (n c : Nat) (xs : Nat → Int) (id un is ma ra ev : Int) (ix : Bool) (a : Int) (w : World) (h : IxOk w ao n c xs) :
    Calls Try.prog 132 #[.agg #[.int .i64 fi, .slice ao n c], .agg #[.int .i64 id, .int .i64 un, .int .i64 is, .int .i64 ma, .int .i64 ra, .int .i64 ev, .bool ix], .int .i64 a] w fun e w' => e = .returned (.tuple #[.int .i64 (fnV fi n xs id un is ma ra ev ix a), .int .i64 (scE fi n xs id un is ma ra ev ix a ma)]) ∧ Below w.heap.size w w' := by
  have H := Lib.hid ((h.alloc (.cells #[.int .i64 fi, .slice ao n c] 95)).alloc (.cells #[.int .i64 id, .int .i64 un, .int .i64 is, .int .i64 ma, .int .i64 ra, .int .i64 ev, .bool ix] 41))
  clear h
  unfold fnV
  obtain ⟨v, hv⟩ : ∃ r, scV fi n xs id un is ma ra ev ix a ma = r := ⟨_, rfl⟩
  obtain ⟨re, he⟩ : ∃ r, scE fi n xs id un is ma ra ev ix a ma = r := ⟨_, rfl⟩
  rw [hv, he]
  have HR := Lib.hid (And.intro hv he)
  clear hv he
  by_cases h0 : re = 0
  · rw [if_pos h0]
    subst h0
    rcases (show a ≤ v ∨ v < a by omega) with g | g
    all_goals
      first | rw [Int.max_eq_left g] | rw [Int.max_eq_right (Int.le_of_lt g)]
      go_enter Try.func132, Try.ntmps132
      go_wp2_with fail
      refine (scaled_any fi ao n c xs id un is ma ra ev ix a ma _ H.out).mono ?_
      rw [HR.out.1, HR.out.2]
      rintro e w1 ⟨rfl, hb⟩
      have hB := below_box2 hb
      go_wp2
      go_ret2
      exact ⟨rfl, hB⟩
  · rw [if_neg h0]
    have h1 : (re != 0) = true := by simpa using h0
    clear h0
    go_enter Try.func132, Try.ntmps132
    go_wp2_with fail
    refine (scaled_any fi ao n c xs id un is ma ra ev ix a ma _ H.out).mono ?_
    rw [HR.out.1, HR.out.2]
    rintro e w1 ⟨rfl, hb⟩
    have hB := below_box2 hb
    go_wp2
    go_ret2
    exact ⟨rfl, hB⟩
def icV (fi : Int) (n : Nat) (xs : Nat → Int) (id un is ma ra ev : Int) (ix : Bool) (a day : Int) : Int := if scE fi n xs id un is ma ra ev ix a day = 0 then cpN id un is ma ra ev (scV fi n xs id un is ma ra ev ix a day) else 0
def icE (fi : Int) (n : Nat) (xs : Nat → Int) (id un is ma ra ev : Int) (ix : Bool) (a day : Int) : Int := if scE fi n xs id un is ma ra ev ix a day = 0 then ccE id un is ma ra ev (scV fi n xs id un is ma ra ev ix a day) else scE fi n xs id un is ma ra ev ix a day
set_option maxHeartbeats 400000 in
theorem idxcoupon_any (fi : Int) (ao : Option Addr) (n c : Nat) (xs : Nat → Int) (id un is ma ra ev : Int) (ix : Bool) (a day : Int) (w : World) (h : IxOk w ao n c xs) :
    Calls Try.prog 130 #[.agg #[.int .i64 fi, .slice ao n c], .agg #[.int .i64 id, .int .i64 un, .int .i64 is, .int .i64 ma, .int .i64 ra, .int .i64 ev, .bool ix], .int .i64 a, .int .i64 day] w fun e w' => e = .returned (.tuple #[.int .i64 (icV fi n xs id un is ma ra ev ix a day), .int .i64 (icE fi n xs id un is ma ra ev ix a day)]) ∧ Below w.heap.size w w' := by
  have H := Lib.hid ((h.alloc (.cells #[.int .i64 fi, .slice ao n c] 95)).alloc (.cells #[.int .i64 id, .int .i64 un, .int .i64 is, .int .i64 ma, .int .i64 ra, .int .i64 ev, .bool ix] 41))
  clear h
  unfold icV icE
  obtain ⟨v, hv⟩ : ∃ r, scV fi n xs id un is ma ra ev ix a day = r := ⟨_, rfl⟩
  obtain ⟨re, he⟩ : ∃ r, scE fi n xs id un is ma ra ev ix a day = r := ⟨_, rfl⟩
  rw [hv, he]
  have HR := Lib.hid (And.intro hv he)
  clear hv he
  by_cases h0 : re = 0
  · rw [if_pos h0, if_pos h0]
    subst h0
    go_enter Try.func130, Try.ntmps130
    go_wp2_with fail
    refine (scaled_any fi ao n c xs id un is ma ra ev ix a day _ H.out).mono ?_
    rw [HR.out.1, HR.out.2]
    rintro e w1 ⟨rfl, hb⟩
    obtain ⟨hc1, hf1⟩ := bcell hb
    have hB := below_box2 hb
    have hz : w.heap.size + 1 < w1.heap.size := by have := hb.size; simp at this; omega
    go_wp2_with fail
    refine (coupon_any id un is ma ra ev ix v _).mono ?_
    rintro e w2 ⟨rfl, hb2⟩
    go_wp2
    go_ret2
    exact ⟨rfl, hB.trans (hb2.mono (by omega))⟩
  · rw [if_neg h0, if_neg h0]
    have h1 : (re != 0) = true := by simpa using h0
    clear h0
    go_enter Try.func130, Try.ntmps130
    go_wp2_with fail
    refine (scaled_any fi ao n c xs id un is ma ra ev ix a day _ H.out).mono ?_
    rw [HR.out.1, HR.out.2]
    rintro e w1 ⟨rfl, hb⟩
    have hB := below_box2 hb
    go_wp2
    go_ret2
    exact ⟨rfl, hB⟩
end Go.Proofs.Ytmhglabcnimegaa
