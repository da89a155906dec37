/- Contracts of index.Ratio, money.Share, index.Scaled, Final, Coupon. -/
import Derived.Test.YtmhglabcnimegaaZIdx
namespace Go.Proofs.Ytmhglabcnimegaa
open Go.RowKit
set_option linter.unusedVariables false

theorem below_box2 {w w1 : World} {o o2 : Obj} (h : Below ((w.alloc o).alloc o2).heap.size ((w.alloc o).alloc o2) w1) : Below w.heap.size w w1 :=
  (((Below.refl _ _).alloc (Nat.le_refl _) o).alloc (by simp) o2).trans (h.mono (by simp; omega))
theorem ret_iie {a b e a' b' e' : Int} (h : a = a' ∧ b = b' ∧ e = e') : Ending.returned (.tuple #[.int .i64 a, .int .i64 b, .int .i64 e]) = .returned (.tuple #[.int .i64 a', .int .i64 b', .int .i64 e']) := by
  obtain ⟨rfl, rfl, rfl⟩ := h; rfl

/-- the error, and the two values, of a ratio -/
def rtE (fi : Int) (n : Nat) (xs : Nat → Int) (id un is ma ra ev : Int) (ix : Bool) (day : Int) : Int :=
  if ixB fi n xs then (if secB id un is ma ra ev then (if is ≤ day ∧ day ≤ ma then (if ix then (if ixO fi n xs (day / 30 - 3) && ixO fi n xs (is / 30 - 3) then 0 else 81) else 0) else 8) else 76) else 81
def rtN (fi : Int) (n : Nat) (xs : Nat → Int) (id un is ma ra ev : Int) (ix : Bool) (day : Int) : Int := if rtE fi n xs id un is ma ra ev ix day = 0 then (if ix then ixV fi n xs (day / 30 - 3) else 1) else 0
def rtD (fi : Int) (n : Nat) (xs : Nat → Int) (id un is ma ra ev : Int) (ix : Bool) (day : Int) : Int := if rtE fi n xs id un is ma ra ev ix day = 0 then (if ix then ixV fi n xs (is / 30 - 3) else 1) else 0

set_option maxHeartbeats 2000000 in
theorem ratio_any (fi : Int) (ao : Option Addr) (n c : Nat) (xs : Nat → Int) (id un is ma ra ev : Int) (ix : Bool) (day : Int) (w : World) (h : IxOk w ao n c xs) :
    Calls Try.prog 125 #[.agg #[.int .i64 fi, .slice ao n c], .agg #[.int .i64 id, .int .i64 un, .int .i64 is, .int .i64 ma, .int .i64 ra, .int .i64 ev, .bool ix], .int .i64 day] w fun e w' => e = .returned (.tuple #[.int .i64 (rtN fi n xs id un is ma ra ev ix day), .int .i64 (rtD fi n xs id un is ma ra ev ix day), .int .i64 (rtE fi n xs id un is ma ra ev ix day)]) ∧ Below w.heap.size w w' := by
  have H := Lib.hid ((h.alloc (.cells #[.int .i64 fi, .slice ao n c] 95)).alloc (.cells #[.int .i64 id, .int .i64 un, .int .i64 is, .int .i64 ma, .int .i64 ra, .int .i64 ev, .bool ix] 41))
  clear h
  have fin : ∀ {e : Int}, rtE fi n xs id un is ma ra ev ix day = e → e ≠ 0 → Ending.returned (.tuple #[.int .i64 0, .int .i64 0, .int .i64 e]) = .returned (.tuple #[.int .i64 (rtN fi n xs id un is ma ra ev ix day), .int .i64 (rtD fi n xs id un is ma ra ev ix day), .int .i64 (rtE fi n xs id un is ma ra ev ix day)]) := by
    intro e he h0
    refine ret_iie ⟨?_, ?_, he.symm⟩
    · unfold rtN; rw [if_neg (by rw [he]; exact h0)]
    · unfold rtD; rw [if_neg (by rw [he]; exact h0)]
  cases hB : ixB fi n xs
  · have hf := Lib.hid (fin (e := 81) (by simp [rtE, hB]) (by decide))
    have E := Lib.hid (show ixE fi n xs = 81 by simp [ixE, hB])
    clear fin hB
    go_enter Try.func125, Try.ntmps125
    go_wp2_with fail
    refine (idxcheck_any fi ao n c xs _ H.out).mono ?_
    rw [E.out]
    rintro e w1 ⟨rfl, hb⟩
    have hB := below_box2 hb
    go_wp2
    go_ret3
    exact ⟨hf.out, hB⟩
  have E := Lib.hid (show ixE fi n xs = 0 by simp [ixE, hB])
  cases hs : secB id un is ma ra ev
  · have hf := Lib.hid (fin (e := 76) (by simp [rtE, hB, hs]) (by decide))
    have HS := Lib.hid hs
    clear fin hB hs
    go_enter Try.func125, Try.ntmps125
    go_wp2_with fail
    refine (idxcheck_any fi ao n c xs _ H.out).mono ?_
    rw [E.out]
    rintro e w1 ⟨rfl, hb⟩
    obtain ⟨hc1, hf1⟩ := bcell hb
    have hB := below_box2 hb
    have hz : w.heap.size + 1 < w1.heap.size := by have := hb.size; simp at this; omega
    have hz' : w.heap.size < w1.heap.size := by omega
    go_wp2_with fail
    refine (security_any id un is ma ra ev ix _).mono ?_
    rw [HS.out]
    rintro e w2 ⟨rfl, hb2⟩
    go_wp2
    go_ret3
    exact ⟨hf.out, hB.trans (hb2.mono (by omega))⟩
  obtain ⟨_, _, _, _, i0, m0, m1, m2, _, _, _⟩ := secB_iff.1 hs
  have HS := Lib.hid hs
  by_cases hd : is ≤ day ∧ day ≤ ma
  · obtain ⟨d0, d1⟩ := hd
    cases ix
    · have hf := Lib.hid (show rtE fi n xs id un is ma ra ev false day = 0 ∧ rtN fi n xs id un is ma ra ev false day = 1 ∧ rtD fi n xs id un is ma ra ev false day = 1 by
        have e : rtE fi n xs id un is ma ra ev false day = 0 := by simp [rtE, hB, hs, d0, d1]
        refine ⟨e, ?_, ?_⟩
        · unfold rtN; rw [if_pos e]; rfl
        · unfold rtD; rw [if_pos e]; rfl)
      clear fin hB hs
      go_enter Try.func125, Try.ntmps125
      go_wp2_with fail
      refine (idxcheck_any fi ao n c xs _ H.out).mono ?_
      rw [E.out]
      rintro e w1 ⟨rfl, hb⟩
      obtain ⟨hc1, hf1⟩ := bcell hb
      have hB := below_box2 hb
      have hz : w.heap.size + 1 < w1.heap.size := by have := hb.size; simp at this; omega
      have hz' : w.heap.size < w1.heap.size := by omega
      go_wp2_with fail
      refine (security_any id un is ma ra ev false _).mono ?_
      rw [HS.out]
      rintro e w2 ⟨rfl, hb2⟩
      obtain ⟨hc2, hf2⟩ := bcell hb2
      go_wp2
      go_ret3
      exact ⟨ret_iie ⟨hf.out.2.1.symm, hf.out.2.2.symm, hf.out.1.symm⟩, hB.trans (hb2.mono (by omega))⟩
    · obtain ⟨o1, ho1⟩ : ∃ o1, ixO fi n xs (day / 30 - 3) = o1 := ⟨_, rfl⟩
      obtain ⟨o2, ho2⟩ : ∃ o2, ixO fi n xs (is / 30 - 3) = o2 := ⟨_, rfl⟩
      have q0 : 0 ≤ day / 30 := by omega
      have q1 : day / 30 ≤ day := by omega
      have q2 : 0 ≤ is / 30 := by omega
      have q3 : is / 30 ≤ is := by omega
      have e : rtE fi n xs id un is ma ra ev true day = if o1 && o2 then 0 else 81 := by simp [rtE, hB, hs, d0, d1, ho1, ho2]
      have hy : (o1 && o2) = true → Ending.returned (.tuple #[.int .i64 (ixV fi n xs (day / 30 - 3)), .int .i64 (ixV fi n xs (is / 30 - 3)), .int .i64 0]) = .returned (.tuple #[.int .i64 (rtN fi n xs id un is ma ra ev true day), .int .i64 (rtD fi n xs id un is ma ra ev true day), .int .i64 (rtE fi n xs id un is ma ra ev true day)]) := by
        intro ho
        rw [ho] at e
        refine ret_iie ⟨?_, ?_, e.symm⟩
        · unfold rtN; rw [if_pos (by rw [e]; rfl)]; rfl
        · unfold rtD; rw [if_pos (by rw [e]; rfl)]; rfl
      have hn : (o1 && o2) = false → Ending.returned (.tuple #[.int .i64 0, .int .i64 0, .int .i64 81]) = .returned (.tuple #[.int .i64 (rtN fi n xs id un is ma ra ev true day), .int .i64 (rtD fi n xs id un is ma ra ev true day), .int .i64 (rtE fi n xs id un is ma ra ev true day)]) := by
        intro ho
        rw [ho] at e
        exact fin e (by decide)
      have HY := Lib.hid hy
      have HN := Lib.hid hn
      have HO1 := Lib.hid ho1
      have HO2 := Lib.hid ho2
      clear fin hB hs e hy hn ho1 ho2
      cases o1 <;> cases o2
      all_goals
        go_enter Try.func125, Try.ntmps125
        go_wp2_with fail
        refine (idxcheck_any fi ao n c xs _ H.out).mono ?_
        rw [E.out]
        rintro e w1 ⟨rfl, hb⟩
        obtain ⟨hc1, hf1⟩ := bcell hb
        have hB := below_box2 hb
        have hz : w.heap.size + 1 < w1.heap.size := by have := hb.size; simp at this; omega
        have hz' : w.heap.size < w1.heap.size := by omega
        have H1 := Lib.hid (H.out.below hb)
        go_wp2_with fail
        refine (security_any id un is ma ra ev true _).mono ?_
        rw [HS.out]
        rintro e w2 ⟨rfl, hb2⟩
        obtain ⟨hc2, hf2⟩ := bcell hb2
        have z2 := hb2.size
        have hz2 : w.heap.size + 1 < w2.heap.size := by omega
        have hz2' : w.heap.size < w2.heap.size := by omega
        have H2 := Lib.hid (H1.out.below hb2)
        have hB2 := hB.trans (hb2.mono (show w.heap.size ≤ w1.heap.size by omega))
        clear hb hb2 hB
        go_wp2_with fail
        refine (idxvalue_any fi ao n c xs (day / 30 - 3) _ H2.out (by omega) (by omega)).mono ?_
        rw [HO1.out]
        rintro e w3 ⟨rfl, hb3⟩
        obtain ⟨hc3, hf3⟩ := bcell hb3
        have z3 := hb3.size
        have hz3 : w.heap.size + 1 < w3.heap.size := by omega
        have hz3' : w.heap.size < w3.heap.size := by omega
        have H3 := Lib.hid (H2.out.below hb3)
        have hB3 := hB2.trans (hb3.mono (show w.heap.size ≤ w2.heap.size by omega))
        clear hb3 hB2
        go_wp2_with fail
        refine (idxvalue_any fi ao n c xs (is / 30 - 3) _ H3.out (by omega) (by omega)).mono ?_
        rw [HO2.out]
        rintro e w4 ⟨rfl, hb4⟩
        have hB4 := hB3.trans (hb4.mono (show w.heap.size ≤ w3.heap.size by omega))
        clear hb4 hB3
        go_wp2
        go_ret3
        first | exact ⟨HY.out rfl, hB4⟩ | exact ⟨HN.out rfl, hB4⟩
  · have hf := Lib.hid (fin (e := 8) (by simp only [rtE, hB, hs, if_true]; rw [if_neg hd]) (by decide))
    clear fin hB hs
    rcases (show day < is ∨ (is ≤ day ∧ ma < day) by omega) with d0 | ⟨d0, d1⟩
    all_goals
      clear hd
      go_enter Try.func125, Try.ntmps125
      go_wp2_with fail
      refine (idxcheck_any fi ao n c xs _ H.out).mono ?_
      rw [E.out]
      rintro e w1 ⟨rfl, hb⟩
      obtain ⟨hc1, hf1⟩ := bcell hb
      have hB := below_box2 hb
      have hz : w.heap.size + 1 < w1.heap.size := by have := hb.size; simp at this; omega
      have hz' : w.heap.size < w1.heap.size := by omega
      go_wp2_with fail
      refine (security_any id un is ma ra ev ix _).mono ?_
      rw [HS.out]
      rintro e w2 ⟨rfl, hb2⟩
      obtain ⟨hc2, hf2⟩ := bcell hb2
      have z2 := hb2.size
      go_wp2
      go_ret3
      exact ⟨hf.out, hB.trans (hb2.mono (by omega))⟩
end Go.Proofs.Ytmhglabcnimegaa
