/- The reference of layer 34: Days, Falls, Pending. -/
import Derived.Test.YtpoidaenkjjdfaaZRefSec
import Derived.Test.YtpoidaenkjjdfaaZCpnE
namespace Go.Proofs.Ytpoidaenkjjdfaa
open Go.RowKit
set_option linter.unusedVariables false
set_option linter.unusedSimpArgs false
set_option maxHeartbeats 1000000 in
theorem r34days_any (id un is ma ra ev : Int) (ix : Bool) (w : World) :
    Calls Try.prog 110 #[.agg #[.int .i64 id, .int .i64 un, .int .i64 is, .int .i64 ma, .int .i64 ra, .int .i64 ev, .bool ix]] w (DaysMade id un is ma ra ev w) := by
  cases hs : secB id un is ma ra ev
  · have hn : dayN id un is ma ra ev = 0 := by simp [dayN, hs]
    have HN := Lib.hid hn
    clear hn
    go_enter Try.func110, Try.ntmps110
    go_wp2_with fail
    refine (r33sec_any id un is ma ra ev ix _).mono ?_
    rw [hs]
    rintro e w1 ⟨rfl, hb⟩
    have hB := below_box hb
    go_wp2
    go_ret
    exact ⟨_, rfl, by rw [HN.out]; exact ⟨none, 0, rfl, Nat.le_refl _, Nat.zero_le _, .inl rfl⟩, hB⟩
  · obtain ⟨_, _, _, _, i0, m0, m1, m2, r0, r1, he⟩ := secB_iff.1 hs
    have HS := Lib.hid hs
    by_cases e0 : ev = 0
    · have hn : dayN id un is ma ra ev = 0 := by simp [dayN, e0]
      have HN := Lib.hid hn
      have e1 : (ev == 0) = true := by simpa using e0
      clear hn he e0 hs
      go_enter Try.func110, Try.ntmps110
      go_wp2_with fail
      refine (r33sec_any id un is ma ra ev ix _).mono ?_
      rw [HS.out]
      rintro e w1 ⟨rfl, hb⟩
      obtain ⟨hc, hf⟩ := bcell hb
      have hB := below_box hb
      have hz : w.heap.size < w1.heap.size := by have := hb.size; simp at this; omega
      go_wp2
      go_ret
      exact ⟨_, rfl, by rw [HN.out]; exact ⟨none, 0, rfl, Nat.le_refl _, Nat.zero_le _, .inl rfl⟩, hB⟩
    · have hn : dayN id un is ma ra ev = ((ma - is) / (30 * ev)).toNat := by simp [dayN, hs, e0]
      have HN := Lib.hid hn
      have e1 : 1 ≤ ev := by omega
      have e2 : ev ≤ 12 := by omega
      have e3 : (ev == 0) = false := by simpa using e0
      clear hn he e0 hs
      obtain ⟨i1, hi, hz0, hz1, hz2⟩ := info_parts infoInt
      go_enter Try.func110, Try.ntmps110
      go_wp2_with fail
      refine (r33sec_any id un is ma ra ev ix _).mono ?_
      rw [HS.out]
      rintro e w1 ⟨rfl, hb⟩
      have hB := below_box hb
      have hz : w.heap.size < w1.heap.size := by have := hb.size; simp at this; omega
      have b2 : w1.cell? ⟨w.heap.size, 2, none⟩ = some (.int .i64 is) := by obtain ⟨hc, _⟩ := bcell hb; rw [hc _ _ (by simp), World.cell?_alloc_at _ _ _ _ rfl]; rfl
      have b3 : w1.cell? ⟨w.heap.size, 3, none⟩ = some (.int .i64 ma) := by obtain ⟨hc, _⟩ := bcell hb; rw [hc _ _ (by simp), World.cell?_alloc_at _ _ _ _ rfl]; rfl
      have b5 : w1.cell? ⟨w.heap.size, 5, none⟩ = some (.int .i64 ev) := by obtain ⟨hc, _⟩ := bcell hb; rw [hc _ _ (by simp), World.cell?_alloc_at _ _ _ _ rfl]; rfl
      clear hb
      go_wp2
      go_loopw [3, 4] (fun v dv wr => ∃ (k : Nat) (d : Int), dv = .int .i64 d ∧ DInv is ma ev k d ∧ wr.ownsRow w1.heap.size 3 1 v k (dayCells is ev k) ∧ Below w1.heap.size w1 wr) (fun _ dv _ => (ma + 361 - intOf dv).toNat)
      case atStart => exact ⟨0, _, rfl, dinv_start e1 (by omega), World.ownsRow_nil _ _ _ _, Below.refl _ _⟩
      case round =>
        obtain ⟨k, d, rfl, hI, hown, hbr⟩ := hrel
        have d1 := hI.lo
        have d2 := hI.hi
        have d3 := hI.kk
        have HI := Lib.hid hI
        have c2 : wr.cell? ⟨w.heap.size, 2, none⟩ = some (.int .i64 is) := (hbr.cell (by exact hz)).trans b2
        have c3 : wr.cell? ⟨w.heap.size, 3, none⟩ = some (.int .i64 ma) := (hbr.cell (by exact hz)).trans b3
        have c5 : wr.cell? ⟨w.heap.size, 5, none⟩ = some (.int .i64 ev) := (hbr.cell (by exact hz)).trans b5
        have zr := hbr.size
        clear hI
        by_cases hd : d ≤ ma
        · go_wp2_with (at_builtin; go_must (refine wpList_append_own _ rfl _ _ 22 rfl w1.heap.size 3 i1 (.int .i64 0) 1 8 Try.underlying22 hi hz0 hz1 hz2 rfl (by decide) _ _ _ rfl (hown.alloc _) ⟨wr.heap.size, 0, none⟩ 1 1 [.int .i64 d] rfl rfl (news1 _ _ _) (one1 _ _) (by unfold maxLen; omega) (by omega) (by simp; omega) ?_); intro v' w2 hown' hgrow _; have hb2 : Below w1.heap.size w1 w2 := (hbr.alloc hbr.size _).grown hgrow (by simp; omega) (fun q hq => (hown.lt q hq).1); have c5' := (hb2.cell (p := ⟨w.heap.size, 5, none⟩) (by exact hz)).trans b5)
          go_roundw
          case rel => exact ⟨k + 1, d + 30 * ev, by go_num, dinv_step HI.out e1 hd, by rw [dayCells_succ, ← HI.out.d0]; exact hown', hb2⟩
          case measure => simp [intOf]; omega
        · have hk := dinv_end HI.out e1 (by omega) (by omega)
          go_wp2
          go_ret
          exact ⟨_, rfl, by rw [HN.out, ← hk]; exact (SlAt.own hown).mono (fun b h => by omega), hB.trans (hbr.mono (by omega))⟩
set_option maxHeartbeats 1000000 in
theorem r34falls_any (id un is ma ra ev : Int) (ix : Bool) (day : Int) (w : World) :
    Calls Try.prog 99 #[.agg #[.int .i64 id, .int .i64 un, .int .i64 is, .int .i64 ma, .int .i64 ra, .int .i64 ev, .bool ix], .int .i64 day] w fun e w' => e = .returned (.bool (decide (day ∈ daysL id un is ma ra ev))) ∧ Below w.heap.size w w' := by
  obtain ⟨r, hr⟩ : ∃ r, decide (day ∈ daysL id un is ma ra ev) = r := ⟨_, rfl⟩
  have hdl : (daysL id un is ma ra ev).length ≤ 1000000 := by unfold daysL; rw [List.length_map, List.length_range]; exact dayN_le id un is ma ra ev ix
  obtain ⟨D, hD⟩ : ∃ D, daysL id un is ma ra ev = D := ⟨_, rfl⟩
  rw [hr]
  rw [hD] at hr hdl
  have HR := Lib.hid hr
  have HDD := Lib.hid hD
  clear hr hD
  go_enter Try.func99, Try.ntmps99
  go_wp2_with fail
  refine (r34days_any id un is ma ra ev ix _).mono ?_
  intro e w1 hdm
  obtain ⟨v, rfl, hsl, hb1⟩ := daysMade_sl id un is ma ra ev ix hdm
  rw [HDD.out] at hsl
  obtain ⟨ao, n, c, rfl, hn, -, -⟩ := hsl.shape
  have hn1 : n ≤ 1000000 := by omega
  have HS := Lib.hid hsl
  have HN := Lib.hid hn
  have HB := Lib.hid (bup (bal brefl _) hb1)
  clear hdm hsl hb1 hn hdl
  go_wp2
  go_loopw [10] (fun iv wr => ∃ k : Nat, k ≤ n ∧ iv = .int .i64 k ∧ r = decide (day ∈ D.drop k) ∧ wr = w1) (fun iv _ => n - (intOf iv).toNat)
  case atStart => exact ⟨0, by omega, rfl, by rw [List.drop_zero]; exact HR.out.symm, rfl⟩
  case round =>
    obtain ⟨k, hk, rfl, hrk, rfl⟩ := hrel
    by_cases hlt : k < n
    · obtain ⟨b, off, a, rfl, -, hb', hL, k0⟩ := HS.out.int hlt
      rw [drop_cons hL] at hrk
      have HRK := Lib.hid hrk
      clear hL hrk
      by_cases e1 : a = day
      · have hf : r = true := by rw [HRK.out]; simp [e1]
        subst hf
        subst e1
        go_wp2
        go_ret
        exact ⟨rfl, HB.out⟩
      · have hrel2 := Lib.hid (show r = decide (day ∈ D.drop (k + 1)) by rw [HRK.out, decide_eq_decide]; simp only [List.mem_cons]; exact ⟨fun h => h.elim (fun h => absurd h.symm e1) (fun h => h), .inr⟩)
        have q1 : (a == day) = false := by simpa using e1
        go_wp2
        go_roundw
        case rel => exact ⟨k + 1, by omega, by go_num, hrel2.out, by first | rfl | trivial⟩
        case measure => simp [intOf]; omega
    · have hf : r = false := by rw [hrk, drop_all (by have := HN.out; omega)]; rfl
      subst hf
      clear hrk
      go_wp2
      go_ret
      exact ⟨rfl, HB.out⟩
/-- what the reference adds for a holding -/
def rpF (x : Sec) (day : Int) (y : Hold) : List Due :=
  (if 0 < cpN x.id x.un x.is x.ma x.ra x.ev y.a ∧ day ∈ daysL x.id x.un x.is x.ma x.ra x.ev then [⟨day, x.id, y.h, 1, cpN x.id x.un x.is x.ma x.ra x.ev y.a⟩] else []) ++ (if x.ma = day then [⟨day, x.id, y.h, 2, y.a⟩] else [])
theorem rpF_eq {x : Sec} {day : Int} {y : Hold} (hs : secOk x = true) (hid : x.id = y.s) (h0 : 0 < y.a) (h1 : y.a ≤ 1000000000000) : rpF x day y = plL x day y := by
  obtain ⟨id, un, is, ma, ra, ev, ix⟩ := x
  obtain ⟨s, h, a⟩ := y
  simp only at hid h0 h1
  subst hid
  have hok := secB_iff.1 hs
  simp only at hok
  have hE := ccE_of hok (by omega) h1
  have hc : 0 ≤ cpN id un is ma ra ev a := by
    unfold cpN
    rw [if_pos hE]
    obtain ⟨p0, -⟩ := mul_bd (show 0 ≤ a by omega) h1 hok.ra0 hok.ra1
    have he := hok.ev
    have : 0 ≤ a * ra * ev := Int.mul_nonneg p0 (by omega)
    exact Int.ediv_nonneg (by omega) (by omega)
  obtain ⟨C, hC⟩ : ∃ C, cpN id un is ma ra ev a = C := ⟨_, rfl⟩
  unfold rpF plL
  simp only [hE, hC]
  rw [hC] at hc
  unfold ofL ofE dueL
  simp only [ne_eq, not_true_eq_false, and_false, if_false, if_true]
  by_cases hd : day ∈ daysL id un is ma ra ev
  · by_cases hC0 : C = 0
    · subst hC0
      by_cases hm : ma = day
      · subst hm; simp [show ¬ a = 0 by omega]
      · have hm' : ¬ day = ma := fun e => hm e.symm
        simp [hm, hm']
    · have : 0 < C := by omega
      by_cases hm : ma = day
      · subst hm; simp [hd, this, hC0, show ¬ a = 0 by omega]
      · have hm' : ¬ day = ma := fun e => hm e.symm
        simp [hd, this, hC0, hm, hm']
  · by_cases hm : ma = day
    · subst hm; simp [hd, show ¬ a = 0 by omega]
    · have hm' : ¬ day = ma := fun e => hm e.symm
      simp [hd, hm, hm']
end Go.Proofs.Ytpoidaenkjjdfaa
