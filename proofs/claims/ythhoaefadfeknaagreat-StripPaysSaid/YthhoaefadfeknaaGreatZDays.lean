/- The contract of coupon's Days. -/
import Derived.Test.YthhoaefadfeknaaGreatZCont
import Derived.Test.YthhoaefadfeknaaGreatZRegP
import Derived.Deep.DeepMust
namespace Go.Proofs.YthhoaefadfeknaaGreat
open Go.RowKit
set_option linter.unusedVariables false

/-- the k-th coupon day, from 0 -/
def dayAt (is ev : Int) (k : Nat) : Int := is + 30 * ev * (k + 1)
/-- how many coupon days there are -/
def dayN (id un is ma ra ev : Int) : Nat := if secB id un is ma ra ev && ev != 0 then ((ma - is) / (30 * ev)).toNat else 0
def daysL (id un is ma ra ev : Int) : List Int := (List.range (dayN id un is ma ra ev)).map (dayAt is ev)
def dayCells (is ev : Int) (k : Nat) : List Value := (List.range k).map fun j => Value.int .i64 (dayAt is ev j)
theorem dayCells_succ (is ev : Int) (k : Nat) : dayCells is ev (k + 1) = dayCells is ev k ++ [.int .i64 (dayAt is ev k)] := by simp [dayCells, List.range_succ]
/-- what Days leaves -/
def DaysMade (id un is ma ra ev : Int) (w : World) (e : Ending) (w' : World) : Prop :=
  ∃ v, e = .returned v ∧ SlAt w' (w.heap.size ≤ ·) v (dayN id un is ma ra ev) (dayCells is ev (dayN id un is ma ra ev)) ∧ Below w.heap.size w w'

structure DInv (is ma ev : Int) (k : Nat) (d : Int) : Prop where
  d0 : d = dayAt is ev k
  lo : is + 30 * ev ≤ d
  hi : d ≤ ma + 30 * ev
  kk : (k : Int) * 30 ≤ ma - is
theorem dinv_start {is ma ev : Int} (h1 : 1 ≤ ev) (h : is ≤ ma) : DInv is ma ev 0 (is + 30 * ev) := ⟨by simp [dayAt], by omega, by omega, by omega⟩
theorem dayAt_succ (is ev : Int) (k : Nat) : dayAt is ev (k + 1) = dayAt is ev k + 30 * ev := by
  unfold dayAt
  have : ((k + 1 : Nat) : Int) = (k : Int) + 1 := by omega
  rw [this, Int.mul_add (30 * ev) ((k : Int) + 1) 1]
  omega
theorem dayAt_ge (is ev : Int) (k : Nat) (h : 1 ≤ ev) : is + 30 * ((k : Int) + 1) ≤ dayAt is ev k := by
  unfold dayAt
  have : 30 * ((k : Int) + 1) ≤ 30 * ev * ((k : Int) + 1) := Int.mul_le_mul_of_nonneg_right (by omega) (by omega)
  omega
theorem dinv_step {is ma ev : Int} {k : Nat} {d : Int} (h : DInv is ma ev k d) (h1 : 1 ≤ ev) (hd : d ≤ ma) : DInv is ma ev (k + 1) (d + 30 * ev) := by
  obtain ⟨h0, hl, hh, hk⟩ := h
  have := dayAt_ge is ev k h1
  exact ⟨by rw [dayAt_succ, ← h0], by omega, by omega, by omega⟩
theorem dinv_end {is ma ev : Int} {k : Nat} {d : Int} (h : DInv is ma ev k d) (h1 : 1 ≤ ev) (him : is ≤ ma) (hd : ma < d) : k = ((ma - is) / (30 * ev)).toNat := by
  obtain ⟨h0, hl, hh, hk⟩ := h
  unfold dayAt at h0
  have e1 : 30 * ev * ((k : Int) + 1) = k * (30 * ev) + 30 * ev := by rw [Int.mul_add, Int.mul_one, Int.mul_comm]
  have e2 : (ma - is) / (30 * ev) = k := by
    have a := Int.ediv_emod_unique (a := ma - is) (b := 30 * ev) (r := ma - is - k * (30 * ev)) (q := k) (by omega)
    exact (a.2 ⟨by rw [Int.mul_comm (30 * ev) (k : Int)]; omega, by omega, by omega⟩).1
  omega

set_option maxHeartbeats 1000000 in
theorem days_any (id un is ma ra ev : Int) (ix : Bool) (w : World) :
    Calls Tryz.prog 59 #[.agg #[.int .i64 id, .int .i64 un, .int .i64 is, .int .i64 ma, .int .i64 ra, .int .i64 ev, .bool ix]] w (DaysMade id un is ma ra ev w) := by
  cases hs : secB id un is ma ra ev
  · have hn : dayN id un is ma ra ev = 0 := by simp [dayN, hs]
    have HN := Lib.hid hn
    clear hn
    go_enter Tryz.func59, Tryz.ntmps59
    go_wp2_with fail
    refine (security_any id un is ma ra ev ix _).mono ?_
    rw [hs]
    rintro e w1 ⟨rfl, hb⟩
    have hB := below_box hb
    go_wp2
    go_ret
    exact ⟨_, rfl, by rw [HN.out]; exact ⟨none, 0, rfl, Nat.le_refl _, Nat.zero_le _, .inl rfl⟩, hB⟩
  · obtain ⟨_, _, _, _, i0, m0, m1, m2, r0, r1, he⟩ := secB_iff.1 hs
    have HS := Lib.hid hs
    by_cases e0 : ev = 0
    · have hn : dayN id un is ma ra ev = 0 := by simp [dayN, e0]
      have HN := Lib.hid hn
      have e1 : (ev == 0) = true := by simpa using e0
      clear hn he e0 hs
      go_enter Tryz.func59, Tryz.ntmps59
      go_wp2_with fail
      refine (security_any id un is ma ra ev ix _).mono ?_
      rw [HS.out]
      rintro e w1 ⟨rfl, hb⟩
      obtain ⟨hc, hf⟩ := bcell hb
      have hB := below_box hb
      have hz : w.heap.size < w1.heap.size := by have := hb.size; simp at this; omega
      go_wp2
      go_ret
      exact ⟨_, rfl, by rw [HN.out]; exact ⟨none, 0, rfl, Nat.le_refl _, Nat.zero_le _, .inl rfl⟩, hB⟩
    · have hn : dayN id un is ma ra ev = ((ma - is) / (30 * ev)).toNat := by simp [dayN, hs, e0]
      have HN := Lib.hid hn
      have e1 : 1 ≤ ev := by omega
      have e2 : ev ≤ 12 := by omega
      have e3 : (ev == 0) = false := by simpa using e0
      clear hn he e0 hs
      obtain ⟨i1, hi, hz0, hz1, hz2⟩ := info_parts infoInt
      go_enter Tryz.func59, Tryz.ntmps59
      go_wp2_with fail
      refine (security_any id un is ma ra ev ix _).mono ?_
      rw [HS.out]
      rintro e w1 ⟨rfl, hb⟩
      have hB := below_box hb
      have hz : w.heap.size < w1.heap.size := by have := hb.size; simp at this; omega
      have b2 : w1.cell? ⟨w.heap.size, 2, none⟩ = some (.int .i64 is) := by obtain ⟨hc, _⟩ := bcell hb; rw [hc _ _ (by simp), World.cell?_alloc_at _ _ _ _ rfl]; rfl
      have b3 : w1.cell? ⟨w.heap.size, 3, none⟩ = some (.int .i64 ma) := by obtain ⟨hc, _⟩ := bcell hb; rw [hc _ _ (by simp), World.cell?_alloc_at _ _ _ _ rfl]; rfl
      have b5 : w1.cell? ⟨w.heap.size, 5, none⟩ = some (.int .i64 ev) := by obtain ⟨hc, _⟩ := bcell hb; rw [hc _ _ (by simp), World.cell?_alloc_at _ _ _ _ rfl]; rfl
      clear hb
      go_wp2
      go_loopw [3, 4] (fun v dv wr => ∃ (k : Nat) (d : Int), dv = .int .i64 d ∧ DInv is ma ev k d ∧ wr.ownsRow w1.heap.size 3 1 v k (dayCells is ev k) ∧ Below w1.heap.size w1 wr) (fun _ dv _ => (ma + 361 - intOf dv).toNat)
      case atStart => exact ⟨0, _, rfl, dinv_start e1 (by omega), World.ownsRow_nil _ _ _ _, Below.refl _ _⟩
      case round =>
        obtain ⟨k, d, rfl, hI, hown, hbr⟩ := hrel
        have d1 := hI.lo
        have d2 := hI.hi
        have d3 := hI.kk
        have HI := Lib.hid hI
        have c2 : wr.cell? ⟨w.heap.size, 2, none⟩ = some (.int .i64 is) := (hbr.cell (by exact hz)).trans b2
        have c3 : wr.cell? ⟨w.heap.size, 3, none⟩ = some (.int .i64 ma) := (hbr.cell (by exact hz)).trans b3
        have c5 : wr.cell? ⟨w.heap.size, 5, none⟩ = some (.int .i64 ev) := (hbr.cell (by exact hz)).trans b5
        have zr := hbr.size
        clear hI
        by_cases hd : d ≤ ma
        · go_wp2_with (at_builtin; go_must (refine wpList_append_own _ rfl _ _ 22 rfl w1.heap.size 3 i1 (.int .i64 0) 1 8 Tryz.underlying22 hi hz0 hz1 hz2 rfl (by decide) _ _ _ rfl (hown.alloc _) ⟨wr.heap.size, 0, none⟩ 1 1 [.int .i64 d] rfl rfl (news1 _ _ _) (one1 _ _) (by unfold maxLen; omega) (by omega) (by simp; omega) ?_); intro v' w2 hown' hgrow _; have hb2 : Below w1.heap.size w1 w2 := (hbr.alloc hbr.size _).grown hgrow (by simp; omega) (fun q hq => (hown.lt q hq).1); have c5' := (hb2.cell (p := ⟨w.heap.size, 5, none⟩) (by exact hz)).trans b5)
          go_roundw
          case rel => exact ⟨k + 1, d + 30 * ev, by go_num, dinv_step HI.out e1 hd, by rw [dayCells_succ, ← HI.out.d0]; exact hown', hb2⟩
          case measure => simp [intOf]; omega
        · have hk := dinv_end HI.out e1 (by omega) (by omega)
          go_wp2
          go_ret
          exact ⟨_, rfl, by rw [HN.out, ← hk]; exact (SlAt.own hown).mono (fun b h => by omega), hB.trans (hbr.mono (by omega))⟩
end Go.Proofs.YthhoaefadfeknaaGreat
