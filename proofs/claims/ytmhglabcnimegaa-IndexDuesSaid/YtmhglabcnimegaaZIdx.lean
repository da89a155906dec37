/- Contracts of index.Check, Value, Ratio, Scaled, Final, Coupon; money.Share. -/
import Derived.Test.YtmhglabcnimegaaZCont
import Derived.Test.YtmhglabcnimegaaZRegP
namespace Go.Proofs.Ytmhglabcnimegaa
open Go.RowKit
set_option linter.unusedVariables false

/-- the first place below n with p, or -1 -/
def fstI (p : Nat → Bool) (n : Nat) : Int := if ∃ i, i < n ∧ p i = true then (((List.range n).find? p).getD 0 : Nat) else -1
theorem fstI_none {p : Nat → Bool} {n : Nat} (h : ∀ j, j < n → p j = false) : fstI p n = -1 := by
  unfold fstI
  rw [if_neg]
  rintro ⟨i, hi, hp⟩
  rw [h i hi] at hp
  cases hp
theorem fstI_some {p : Nat → Bool} {n k : Nat} (hk : k < n) (hp : p k = true) (h : ∀ j, j < k → p j = false) : fstI p n = k := by
  unfold fstI
  rw [if_pos ⟨k, hk, hp⟩]
  have : (List.range n).find? p = some k := by
    rw [List.find?_range_eq_some]
    exact ⟨hp, List.mem_range.2 hk, fun j hj => by rw [h j hj]; rfl⟩
  rw [this]
  rfl
/-- some place below n has p -/
def anyB (p : Nat → Bool) (n : Nat) : Bool := decide (∃ i, i < n ∧ p i = true)
theorem fstI_any (p : Nat → Bool) (n : Nat) : decide (0 ≤ fstI p n) = anyB p n := by
  unfold fstI anyB
  by_cases h : ∃ i, i < n ∧ p i = true
  · rw [if_pos h]; simp [h]
  · rw [if_neg h]; simp [h]
theorem anyB_false {p : Nat → Bool} {n : Nat} (h : ∀ j, j < n → p j = false) : anyB p n = false := by
  unfold anyB
  simp only [decide_eq_false_iff_not]
  rintro ⟨i, hi, hp⟩
  rw [h i hi] at hp
  cases hp

theorem idxwrong_any (x : Int) (w : World) : Calls Try.prog 157 #[.int .i64 x] w fun e w' => e = .returned (.bool (!inB x 1 1000000)) ∧ w = w' := by
  go_enter Try.func157, Try.ntmps157
  go_wp2
  all_goals
    go_ret
    refine ⟨ret_bool ?_, rfl⟩
    unfold inB
    rw [Bool.eq_iff_iff, Bool.not_eq_true', decide_eq_false_iff_not]
    simp
    omega

set_option maxHeartbeats 1000000 in
theorem indexFuncInt_any (ao : Option Addr) (n c : Nat) (xs : Nat → Int) (w : World) (hn : n ≤ 1000000) (h : n = 0 ∨ ∃ b off, ao = some ⟨b, off, none⟩ ∧ ∀ j, j < n → w.cell? ⟨b, off + j, none⟩ = some (.int .i64 (xs j))) :
    Calls Try.prog 153 #[.slice ao n c, .func (.func 157) #[] #[]] w fun e w' => e = .returned (.int .i64 (fstI (fun j => !inB (xs j) 1 1000000) n)) ∧ w = w' := by
  have H := Lib.hid h
  clear h
  go_enter Try.func153, Try.ntmps153
  go_wp2
  go_loop [8] (fun iv => ∃ k : Nat, k ≤ n ∧ iv = .int .i64 k ∧ ∀ j, j < k → (!inB (xs j) 1 1000000) = false) (fun iv => n - (intOf iv).toNat)
  case atStart => exact ⟨0, by omega, rfl, by omega⟩
  case round =>
    obtain ⟨k, hk, rfl, hall⟩ := hrel
    have HA := Lib.hid hall
    clear hall
    by_cases hlt : k < n
    · obtain ⟨b, off, rfl, hc⟩ : ∃ b off, ao = some ⟨b, off, none⟩ ∧ ∀ j, j < n → w.cell? ⟨b, off + j, none⟩ = some (.int .i64 (xs j)) := by
        rcases H.out with h | h
        · omega
        · exact h
      have hck := hc k hlt
      obtain ⟨x, hx⟩ : ∃ x, xs k = x := ⟨_, rfl⟩
      rw [hx] at hck
      have HX := Lib.hid hx
      clear hc hx
      cases hp : inB x 1 1000000
      · have hfin := Lib.hid (fstI_some (p := fun j => !inB (xs j) 1 1000000) hlt (by simp only [HX.out, hp]; rfl) HA.out)
        go_wp2_with (go_at_call 157; refine (idxwrong_any _ _).mono ?_; rw [hp]; rintro e w' ⟨rfl, rfl⟩)
        go_ret
        exact ⟨ret_int hfin.out.symm, rfl⟩
      · have hstep := Lib.hid (show ∀ j, j < k + 1 → (!inB (xs j) 1 1000000) = false from fun j hj => by
          rcases Nat.lt_or_ge j k with h | h
          · exact HA.out j h
          · rw [show j = k by omega, HX.out, hp]; rfl)
        go_wp2_with (go_at_call 157; refine (idxwrong_any _ _).mono ?_; rw [hp]; rintro e w' ⟨rfl, rfl⟩)
        go_round
        case rel => exact ⟨k + 1, by omega, by go_num, hstep.out⟩
        case measure => simp [intOf]; omega
    · have hfin := Lib.hid (fstI_none (p := fun j => !inB (xs j) 1 1000000) (n := n) (fun j hj => HA.out j (by omega)))
      go_wp2
      go_ret
      exact ⟨ret_int hfin.out.symm, rfl⟩
theorem containsFuncInt_any (ao : Option Addr) (n c : Nat) (xs : Nat → Int) (w : World) (hn : n ≤ 1000000) (h : n = 0 ∨ ∃ b off, ao = some ⟨b, off, none⟩ ∧ ∀ j, j < n → w.cell? ⟨b, off + j, none⟩ = some (.int .i64 (xs j))) :
    Calls Try.prog 120 #[.slice ao n c, .func (.func 157) #[] #[]] w fun e w' => e = .returned (.bool (anyB (fun j => !inB (xs j) 1 1000000) n)) ∧ w = w' := by
  have hf := fstI_any (fun j => !inB (xs j) 1 1000000) n
  obtain ⟨i, hi⟩ : ∃ i, fstI (fun j => !inB (xs j) 1 1000000) n = i := ⟨_, rfl⟩
  rw [← hf, hi]
  have H := Lib.hid h
  have HI := Lib.hid hi
  clear h hf hi
  go_enter Try.func120, Try.ntmps120
  go_wp2_with fail
  refine (indexFuncInt_any ao n c xs w hn H.out).mono ?_
  rw [HI.out]
  rintro e w' ⟨rfl, rfl⟩
  go_wp2
  go_ret
  exact ⟨rfl, rfl⟩

/-- the values of an index lie in w -/
def IxOk (w : World) (ao : Option Addr) (n c : Nat) (xs : Nat → Int) : Prop :=
  n ≤ c ∧ c ≤ maxLen ∧ (n = 0 ∨ ∃ b off, ao = some ⟨b, off, none⟩ ∧ ∀ j, j < n → w.cell? ⟨b, off + j, none⟩ = some (.int .i64 (xs j)))
theorem IxOk.below {w w' : World} {ao : Option Addr} {n c : Nat} {xs : Nat → Int} (h : IxOk w ao n c xs) (hb : Below w.heap.size w w') : IxOk w' ao n c xs := by
  obtain ⟨h1, h2, h3⟩ := h
  refine ⟨h1, h2, ?_⟩
  rcases h3 with h3 | ⟨b, off, k1, k2⟩
  · exact .inl h3
  · exact .inr ⟨b, off, k1, fun j hj => (hb.cell (World.block_lt_of_cell? w _ (k2 j hj))).trans (k2 j hj)⟩
theorem IxOk.alloc {w : World} {ao : Option Addr} {n c : Nat} {xs : Nat → Int} (h : IxOk w ao n c xs) (o : Obj) : IxOk (w.alloc o) ao n c xs := h.below ((Below.refl _ _).alloc (Nat.le_refl _) _)
/-- a valid index -/
def ixB (fi : Int) (n : Nat) (xs : Nat → Int) : Bool := inB fi 0 1200 && (decide (1 ≤ n ∧ n ≤ 700) && !anyB (fun j => !inB (xs j) 1 1000000) n)
def ixE (fi : Int) (n : Nat) (xs : Nat → Int) : Int := if ixB fi n xs then 0 else 81
theorem ixB_true {fi : Int} {n : Nat} {xs : Nat → Int} (h : ixB fi n xs = true) : 0 ≤ fi ∧ fi ≤ 1200 ∧ 1 ≤ n ∧ n ≤ 700 ∧ ∀ j, j < n → 1 ≤ xs j ∧ xs j ≤ 1000000 := by
  simp only [ixB, Bool.and_eq_true, inB_iff, decide_eq_true_eq, Bool.not_eq_true', anyB, decide_eq_false_iff_not] at h
  obtain ⟨⟨h1, h2⟩, ⟨h3, h4⟩, h5⟩ := h
  refine ⟨h1, h2, h3, h4, fun j hj => ?_⟩
  cases hp : inB (xs j) 1 1000000
  · exact absurd ⟨j, hj, by simp [hp]⟩ h5
  · exact inB_iff.1 hp
theorem ixB_of {fi : Int} {n : Nat} {xs : Nat → Int} (h1 : 0 ≤ fi) (h2 : fi ≤ 1200) (h3 : 1 ≤ n) (h4 : n ≤ 700) (h5 : ∀ j, j < n → 1 ≤ xs j ∧ xs j ≤ 1000000) : ixB fi n xs = true := by
  simp only [ixB, Bool.and_eq_true, inB_iff, decide_eq_true_eq, Bool.not_eq_true']
  exact ⟨⟨h1, h2⟩, ⟨h3, h4⟩, anyB_false fun j hj => by rw [inB_iff.2 (h5 j hj)]; rfl⟩

theorem ixE_81 {fi : Int} {n : Nat} {xs : Nat → Int} (h : fi < 0 ∨ 1200 < fi ∨ (n : Int) < 1 ∨ 700 < (n : Int)) : ixE fi n xs = 81 := by
  unfold ixE
  cases hB : ixB fi n xs
  · rfl
  · have := ixB_true hB
    omega
set_option maxHeartbeats 1000000 in
theorem idxcheck_any (fi : Int) (ao : Option Addr) (n c : Nat) (xs : Nat → Int) (w : World) (h : IxOk w ao n c xs) :
    Calls Try.prog 127 #[.agg #[.int .i64 fi, .slice ao n c]] w fun e w' => e = .returned (.int .i64 (ixE fi n xs)) ∧ Below w.heap.size w w' := by
  have H := Lib.hid (h.alloc (.cells #[.int .i64 fi, .slice ao n c] 95))
  obtain ⟨hn, hc, _⟩ := h
  unfold maxLen at hc
  have fin : ∀ {e : Int}, ixE fi n xs = e → Ending.returned (.int .i64 e) = .returned (.int .i64 (ixE fi n xs)) := fun h => by rw [h]
  by_cases h1 : fi < 0
  · have hf := Lib.hid (fin (ixE_81 (by omega)))
    clear fin
    go_enter Try.func127, Try.ntmps127
    go_wp2
    go_ret
    exact ⟨hf.out, (Below.refl _ _).alloc (Nat.le_refl _) _⟩
  by_cases h2 : 1200 < fi
  · have hf := Lib.hid (fin (ixE_81 (by omega)))
    clear fin
    go_enter Try.func127, Try.ntmps127
    go_wp2
    go_ret
    exact ⟨hf.out, (Below.refl _ _).alloc (Nat.le_refl _) _⟩
  by_cases h3 : (n : Int) < 1
  · have hf := Lib.hid (fin (ixE_81 (by omega)))
    clear fin
    go_enter Try.func127, Try.ntmps127
    go_wp2
    go_ret
    exact ⟨hf.out, (Below.refl _ _).alloc (Nat.le_refl _) _⟩
  by_cases h4 : 700 < (n : Int)
  · have hf := Lib.hid (fin (ixE_81 (by omega)))
    clear fin
    go_enter Try.func127, Try.ntmps127
    go_wp2
    go_ret
    exact ⟨hf.out, (Below.refl _ _).alloc (Nat.le_refl _) _⟩
  have e0 : ixE fi n xs = if anyB (fun j => !inB (xs j) 1 1000000) n then 81 else 0 := by
    have a1 : inB fi 0 1200 = true := inB_iff.2 (by omega)
    have a2 : decide (1 ≤ n ∧ n ≤ 700) = true := by simp; omega
    cases hv : anyB (fun j => !inB (xs j) 1 1000000) n <;> simp [ixE, ixB, a1, a2, hv]
  have E0 := Lib.hid e0
  clear e0 fin
  obtain ⟨b, hb⟩ : ∃ b, anyB (fun j => !inB (xs j) 1 1000000) n = b := ⟨_, rfl⟩
  have HB := Lib.hid hb
  clear hb
  cases b
  all_goals
    have hf := Lib.hid (E0.out.trans (by rw [HB.out]))
    go_enter Try.func127, Try.ntmps127
    go_wp2_with fail
    refine (containsFuncInt_any ao n c xs _ (by omega) H.out.2.2).mono ?_
    rw [HB.out]
    rintro e w' ⟨rfl, rfl⟩
    go_wp2
    go_ret
    exact ⟨ret_int (by rw [hf.out]; rfl), (Below.refl _ _).alloc (Nat.le_refl _) _⟩

/-- the value of a month -/
def ixV (fi : Int) (n : Nat) (xs : Nat → Int) (m : Int) : Int := if ixB fi n xs ∧ fi ≤ m ∧ m - fi < n then xs (m - fi).toNat else 0
def ixO (fi : Int) (n : Nat) (xs : Nat → Int) (m : Int) : Bool := ixB fi n xs && decide (fi ≤ m ∧ m - fi < n)
theorem ret_io {a a' : Int} {b b' : Bool} (h : a = a' ∧ b = b') : Ending.returned (.tuple #[.int .i64 a, .bool b]) = .returned (.tuple #[.int .i64 a', .bool b']) := by
  obtain ⟨rfl, rfl⟩ := h; rfl
set_option maxHeartbeats 1000000 in
theorem idxvalue_any (fi : Int) (ao : Option Addr) (n c : Nat) (xs : Nat → Int) (m : Int) (w : World) (h : IxOk w ao n c xs) (hm : -9223372036854775808 ≤ m) (hm2 : m ≤ 9223372036854775807) :
    Calls Try.prog 154 #[.agg #[.int .i64 fi, .slice ao n c], .int .i64 m] w fun e w' => e = .returned (.tuple #[.int .i64 (ixV fi n xs m), .bool (ixO fi n xs m)]) ∧ Below w.heap.size w w' := by
  have H := Lib.hid (h.alloc (.cells #[.int .i64 fi, .slice ao n c] 95))
  obtain ⟨hn, hc, hcell⟩ := h
  unfold maxLen at hc
  cases hB : ixB fi n xs
  · have hf := Lib.hid (show ixV fi n xs m = 0 ∧ ixO fi n xs m = false by simp [ixV, ixO, hB])
    have E := Lib.hid (show ixE fi n xs = 81 by simp [ixE, hB])
    clear hcell hB
    go_enter Try.func154, Try.ntmps154
    go_wp2_with fail
    refine (idxcheck_any fi ao n c xs _ H.out).mono ?_
    rw [E.out]
    rintro e w1 ⟨rfl, hb⟩
    have hB := below_box hb
    go_wp2
    go_ret2
    exact ⟨ret_io ⟨hf.out.1.symm, hf.out.2.symm⟩, hB⟩
  · obtain ⟨f0, f1, n0, n1, _⟩ := ixB_true hB
    have E := Lib.hid (show ixE fi n xs = 0 by simp [ixE, hB])
    have HB := Lib.hid hB
    clear hB
    by_cases h1 : m < fi
    · have hf := Lib.hid (show ixV fi n xs m = 0 ∧ ixO fi n xs m = false by simp only [ixV, ixO]; rw [if_neg (by omega)]; simp; intros; omega)
      clear hcell
      go_enter Try.func154, Try.ntmps154
      go_wp2_with fail
      refine (idxcheck_any fi ao n c xs _ H.out).mono ?_
      rw [E.out]
      rintro e w1 ⟨rfl, hb⟩
      obtain ⟨hc1, hf1⟩ := bcell hb
      have hB := below_box hb
      have hz : w.heap.size < w1.heap.size := by have := hb.size; simp at this; omega
      go_wp2
      go_ret2
      exact ⟨ret_io ⟨hf.out.1.symm, hf.out.2.symm⟩, hB⟩
    · by_cases h2 : m - fi < n
      · obtain ⟨k, hk⟩ : ∃ k : Nat, m = fi + k := ⟨(m - fi).toNat, by omega⟩
        have hkn : k < n := by omega
        have hf := Lib.hid (show ixV fi n xs m = xs k ∧ ixO fi n xs m = true by
          simp only [ixV, ixO, HB.out]
          rw [if_pos ⟨trivial, by omega, by omega⟩]
          refine ⟨by congr 1; omega, by simp; omega⟩)
        rcases hcell with h0 | ⟨b, off, rfl, hcell⟩
        · omega
        have hck := hcell k hkn
        have hbw := World.block_lt_of_cell? w _ hck
        simp only at hbw
        obtain ⟨x, hx⟩ : ∃ x, xs k = x := ⟨_, rfl⟩
        rw [hx] at hck hf
        have hmk : m - fi = (k : Int) := by omega
        clear hcell hx h2 hk
        go_enter Try.func154, Try.ntmps154
        go_wp2_with fail
        refine (idxcheck_any fi (some ⟨b, off, none⟩) n c xs _ H.out).mono ?_
        rw [E.out]
        rintro e w1 ⟨rfl, hb⟩
        obtain ⟨hc1, hf1⟩ := bcell hb
        have hB := below_box hb
        have hz : w.heap.size < w1.heap.size := by have := hb.size; simp at this; omega
        have hck1 : w1.cell? ⟨b, off + k, none⟩ = some (.int .i64 x) := (hB.cell (p := ⟨b, off + k, none⟩) hbw).trans hck
        go_wp2
        go_ret2
        exact ⟨ret_io ⟨hf.out.1.symm, hf.out.2.symm⟩, hB⟩
      · have hf := Lib.hid (show ixV fi n xs m = 0 ∧ ixO fi n xs m = false by simp only [ixV, ixO]; rw [if_neg (by omega)]; simp; intros; omega)
        clear hcell
        go_enter Try.func154, Try.ntmps154
        go_wp2_with fail
        refine (idxcheck_any fi ao n c xs _ H.out).mono ?_
        rw [E.out]
        rintro e w1 ⟨rfl, hb⟩
        obtain ⟨hc1, hf1⟩ := bcell hb
        have hB := below_box hb
        have hz : w.heap.size < w1.heap.size := by have := hb.size; simp at this; omega
        go_wp2
        go_ret2
        exact ⟨ret_io ⟨hf.out.1.symm, hf.out.2.symm⟩, hB⟩
end Go.Proofs.Ytmhglabcnimegaa
