/- Contracts of the reference's Coupon. The reference of layer 34: Days, Falls, Pending. The reference's Parts of a security (out of XStI). -/
import Derived.Test.YthhoaefadfeknaaGreatZCont
import Derived.Test.YthhoaefadfeknaaGreatZRefH
import Derived.Test.YthhoaefadfeknaaGreatZCpnE
import Derived.Test.YthhoaefadfeknaaGreatZStL
namespace Go.Proofs.YthhoaefadfeknaaGreat
open Go.RowKit
set_option linter.unusedVariables false

/-- the reference's coupon is the coupon -/
theorem r34coupon_any (id un is ma ra ev : Int) (ix : Bool) (n : Int) (w : World) :
    Calls Tryz.prog 61 #[.agg #[.int .i64 id, .int .i64 un, .int .i64 is, .int .i64 ma, .int .i64 ra, .int .i64 ev, .bool ix], .int .i64 n] w fun e w' => e = .returned (.tuple #[.int .i64 (cpN id un is ma ra ev n), .int .i64 (ccE id un is ma ra ev n)]) ∧ Below w.heap.size w w' := by
  cases hs : secB id un is ma ra ev
  · have hf := Lib.hid (show ccE id un is ma ra ev n = 76 ∧ cpN id un is ma ra ev n = 0 by simp [ccE, cpN, hs])
    go_enter Tryz.func61, Tryz.ntmps61
    go_wp2_with fail
    refine (r33sec_any id un is ma ra ev ix _).mono ?_
    rw [hs]
    rintro e w1 ⟨rfl, hb⟩
    have hB := below_box hb
    go_wp2
    go_ret2
    exact ⟨ret_ee ⟨hf.out.2.symm, hf.out.1.symm⟩, hB⟩
  cases hn : inB n 0 1000000000000
  · have hf := Lib.hid (show ccE id un is ma ra ev n = 2 ∧ cpN id un is ma ra ev n = 0 by simp [ccE, cpN, hs, hn])
    go_enter Tryz.func61, Tryz.ntmps61
    go_wp2_with fail
    refine (r33sec_any id un is ma ra ev ix _).mono ?_
    rw [hs]
    rintro e w1 ⟨rfl, hb⟩
    have hB := below_box hb
    go_wp2_with (go_at_call 93; refine (r01valid_any _ _).mono ?_; rw [hn]; rintro e w' ⟨rfl, rfl⟩)
    go_ret2
    exact ⟨ret_ee ⟨hf.out.2.symm, hf.out.1.symm⟩, hB⟩
  obtain ⟨n0, n1⟩ := inB_iff.1 hn
  have hz := ccE_of (secB_iff.1 hs) n0 n1
  have hf := Lib.hid (show ccE id un is ma ra ev n = 0 ∧ cpN id un is ma ra ev n = (n * ra * ev + 600000) / 1200000 from ⟨hz, if_pos hz⟩)
  obtain ⟨_, _, _, _, _, _, _, _, r0, r1, he⟩ := secB_iff.1 hs
  have e0 : 0 ≤ ev ∧ ev ≤ 12 := by omega
  obtain ⟨e0, e1⟩ := e0
  obtain ⟨p0, p1⟩ := mul_bd n0 n1 r0 r1
  obtain ⟨q0, q1⟩ := mul_bd p0 p1 e0 e1
  have HS := Lib.hid hs
  clear he hz hs
  go_enter Tryz.func61, Tryz.ntmps61
  go_wp2_with fail
  refine (r33sec_any id un is ma ra ev ix _).mono ?_
  rw [HS.out]
  rintro e w1 ⟨rfl, hb⟩
  obtain ⟨hc, hfz⟩ := bcell hb
  have hz : w.heap.size < w1.heap.size := by have := hb.size; simp at this; omega
  have hB := below_box hb
  go_wp2_with (go_at_call 93; refine (r01valid_any _ _).mono ?_; rw [hn]; rintro e w' ⟨rfl, rfl⟩)
  go_ret2
  exact ⟨ret_ee ⟨hf.out.2.symm, hf.out.1.symm⟩, hB⟩
end Go.Proofs.YthhoaefadfeknaaGreat
namespace Go.Proofs.YthhoaefadfeknaaGreat
open Go.RowKit
set_option linter.unusedVariables false
set_option linter.unusedSimpArgs false
set_option maxHeartbeats 1000000 in
theorem r34days_any (id un is ma ra ev : Int) (ix : Bool) (w : World) :
    Calls Tryz.prog 43 #[.agg #[.int .i64 id, .int .i64 un, .int .i64 is, .int .i64 ma, .int .i64 ra, .int .i64 ev, .bool ix]] w (DaysMade id un is ma ra ev w) := by
  cases hs : secB id un is ma ra ev
  · have hn : dayN id un is ma ra ev = 0 := by simp [dayN, hs]
    have HN := Lib.hid hn
    clear hn
    go_enter Tryz.func43, Tryz.ntmps43
    go_wp2_with fail
    refine (r33sec_any id un is ma ra ev ix _).mono ?_
    rw [hs]
    rintro e w1 ⟨rfl, hb⟩
    have hB := below_box hb
    go_wp2
    go_ret
    exact ⟨_, rfl, by rw [HN.out]; exact ⟨none, 0, rfl, Nat.le_refl _, Nat.zero_le _, .inl rfl⟩, hB⟩
  · obtain ⟨_, _, _, _, i0, m0, m1, m2, r0, r1, he⟩ := secB_iff.1 hs
    have HS := Lib.hid hs
    by_cases e0 : ev = 0
    · have hn : dayN id un is ma ra ev = 0 := by simp [dayN, e0]
      have HN := Lib.hid hn
      have e1 : (ev == 0) = true := by simpa using e0
      clear hn he e0 hs
      go_enter Tryz.func43, Tryz.ntmps43
      go_wp2_with fail
      refine (r33sec_any id un is ma ra ev ix _).mono ?_
      rw [HS.out]
      rintro e w1 ⟨rfl, hb⟩
      obtain ⟨hc, hf⟩ := bcell hb
      have hB := below_box hb
      have hz : w.heap.size < w1.heap.size := by have := hb.size; simp at this; omega
      go_wp2
      go_ret
      exact ⟨_, rfl, by rw [HN.out]; exact ⟨none, 0, rfl, Nat.le_refl _, Nat.zero_le _, .inl rfl⟩, hB⟩
    · have hn : dayN id un is ma ra ev = ((ma - is) / (30 * ev)).toNat := by simp [dayN, hs, e0]
      have HN := Lib.hid hn
      have e1 : 1 ≤ ev := by omega
      have e2 : ev ≤ 12 := by omega
      have e3 : (ev == 0) = false := by simpa using e0
      clear hn he e0 hs
      obtain ⟨i1, hi, hz0, hz1, hz2⟩ := info_parts infoInt
      go_enter Tryz.func43, Tryz.ntmps43
      go_wp2_with fail
      refine (r33sec_any id un is ma ra ev ix _).mono ?_
      rw [HS.out]
      rintro e w1 ⟨rfl, hb⟩
      have hB := below_box hb
      have hz : w.heap.size < w1.heap.size := by have := hb.size; simp at this; omega
      have b2 : w1.cell? ⟨w.heap.size, 2, none⟩ = some (.int .i64 is) := by obtain ⟨hc, _⟩ := bcell hb; rw [hc _ _ (by simp), World.cell?_alloc_at _ _ _ _ rfl]; rfl
      have b3 : w1.cell? ⟨w.heap.size, 3, none⟩ = some (.int .i64 ma) := by obtain ⟨hc, _⟩ := bcell hb; rw [hc _ _ (by simp), World.cell?_alloc_at _ _ _ _ rfl]; rfl
      have b5 : w1.cell? ⟨w.heap.size, 5, none⟩ = some (.int .i64 ev) := by obtain ⟨hc, _⟩ := bcell hb; rw [hc _ _ (by simp), World.cell?_alloc_at _ _ _ _ rfl]; rfl
      clear hb
      go_wp2
      go_loopw [3, 4] (fun v dv wr => ∃ (k : Nat) (d : Int), dv = .int .i64 d ∧ DInv is ma ev k d ∧ wr.ownsRow w1.heap.size 3 1 v k (dayCells is ev k) ∧ Below w1.heap.size w1 wr) (fun _ dv _ => (ma + 361 - intOf dv).toNat)
      case atStart => exact ⟨0, _, rfl, dinv_start e1 (by omega), World.ownsRow_nil _ _ _ _, Below.refl _ _⟩
      case round =>
        obtain ⟨k, d, rfl, hI, hown, hbr⟩ := hrel
        have d1 := hI.lo
        have d2 := hI.hi
        have d3 := hI.kk
        have HI := Lib.hid hI
        have c2 : wr.cell? ⟨w.heap.size, 2, none⟩ = some (.int .i64 is) := (hbr.cell (by exact hz)).trans b2
        have c3 : wr.cell? ⟨w.heap.size, 3, none⟩ = some (.int .i64 ma) := (hbr.cell (by exact hz)).trans b3
        have c5 : wr.cell? ⟨w.heap.size, 5, none⟩ = some (.int .i64 ev) := (hbr.cell (by exact hz)).trans b5
        have zr := hbr.size
        clear hI
        by_cases hd : d ≤ ma
        · go_wp2_with (at_builtin; go_must (refine wpList_append_own _ rfl _ _ 22 rfl w1.heap.size 3 i1 (.int .i64 0) 1 8 Tryz.underlying22 hi hz0 hz1 hz2 rfl (by decide) _ _ _ rfl (hown.alloc _) ⟨wr.heap.size, 0, none⟩ 1 1 [.int .i64 d] rfl rfl (news1 _ _ _) (one1 _ _) (by unfold maxLen; omega) (by omega) (by simp; omega) ?_); intro v' w2 hown' hgrow _; have hb2 : Below w1.heap.size w1 w2 := (hbr.alloc hbr.size _).grown hgrow (by simp; omega) (fun q hq => (hown.lt q hq).1); have c5' := (hb2.cell (p := ⟨w.heap.size, 5, none⟩) (by exact hz)).trans b5)
          go_roundw
          case rel => exact ⟨k + 1, d + 30 * ev, by go_num, dinv_step HI.out e1 hd, by rw [dayCells_succ, ← HI.out.d0]; exact hown', hb2⟩
          case measure => simp [intOf]; omega
        · have hk := dinv_end HI.out e1 (by omega) (by omega)
          go_wp2
          go_ret
          exact ⟨_, rfl, by rw [HN.out, ← hk]; exact (SlAt.own hown).mono (fun b h => by omega), hB.trans (hbr.mono (by omega))⟩
set_option maxHeartbeats 1000000 in
theorem r34falls_any (id un is ma ra ev : Int) (ix : Bool) (day : Int) (w : World) :
    Calls Tryz.prog 100 #[.agg #[.int .i64 id, .int .i64 un, .int .i64 is, .int .i64 ma, .int .i64 ra, .int .i64 ev, .bool ix], .int .i64 day] w fun e w' => e = .returned (.bool (decide (day ∈ daysL id un is ma ra ev))) ∧ Below w.heap.size w w' := by
  obtain ⟨r, hr⟩ : ∃ r, decide (day ∈ daysL id un is ma ra ev) = r := ⟨_, rfl⟩
  have hdl : (daysL id un is ma ra ev).length ≤ 1000000 := by unfold daysL; rw [List.length_map, List.length_range]; exact dayN_le id un is ma ra ev ix
  obtain ⟨D, hD⟩ : ∃ D, daysL id un is ma ra ev = D := ⟨_, rfl⟩
  rw [hr]
  rw [hD] at hr hdl
  have HR := Lib.hid hr
  have HDD := Lib.hid hD
  clear hr hD
  go_enter Tryz.func100, Tryz.ntmps100
  go_wp2_with fail
  refine (r34days_any id un is ma ra ev ix _).mono ?_
  intro e w1 hdm
  obtain ⟨v, rfl, hsl, hb1⟩ := daysMade_sl id un is ma ra ev ix hdm
  rw [HDD.out] at hsl
  obtain ⟨ao, n, c, rfl, hn, -, -⟩ := hsl.shape
  have hn1 : n ≤ 1000000 := by omega
  have HS := Lib.hid hsl
  have HN := Lib.hid hn
  have HB := Lib.hid (bup (bal brefl _) hb1)
  clear hdm hsl hb1 hn hdl
  go_wp2
  go_loopw [10] (fun iv wr => ∃ k : Nat, k ≤ n ∧ iv = .int .i64 k ∧ r = decide (day ∈ D.drop k) ∧ wr = w1) (fun iv _ => n - (intOf iv).toNat)
  case atStart => exact ⟨0, by omega, rfl, by rw [List.drop_zero]; exact HR.out.symm, rfl⟩
  case round =>
    obtain ⟨k, hk, rfl, hrk, rfl⟩ := hrel
    by_cases hlt : k < n
    · obtain ⟨b, off, a, rfl, -, hb', hL, k0⟩ := HS.out.int hlt
      rw [drop_cons hL] at hrk
      have HRK := Lib.hid hrk
      clear hL hrk
      by_cases e1 : a = day
      · have hf : r = true := by rw [HRK.out]; simp [e1]
        subst hf
        subst e1
        go_wp2
        go_ret
        exact ⟨rfl, HB.out⟩
      · have hrel2 := Lib.hid (show r = decide (day ∈ D.drop (k + 1)) by rw [HRK.out, decide_eq_decide]; simp only [List.mem_cons]; exact ⟨fun h => h.elim (fun h => absurd h.symm e1) (fun h => h), .inr⟩)
        have q1 : (a == day) = false := by simpa using e1
        go_wp2
        go_roundw
        case rel => exact ⟨k + 1, by omega, by go_num, hrel2.out, by first | rfl | trivial⟩
        case measure => simp [intOf]; omega
    · have hf : r = false := by rw [hrk, drop_all (by have := HN.out; omega)]; rfl
      subst hf
      clear hrk
      go_wp2
      go_ret
      exact ⟨rfl, HB.out⟩
/-- what the reference adds for a holding -/
def rpF (x : Sec) (day : Int) (y : Hold) : List Due :=
  (if 0 < cpN x.id x.un x.is x.ma x.ra x.ev y.a ∧ day ∈ daysL x.id x.un x.is x.ma x.ra x.ev then [⟨day, x.id, y.h, 1, cpN x.id x.un x.is x.ma x.ra x.ev y.a⟩] else []) ++ (if x.ma = day then [⟨day, x.id, y.h, 2, y.a⟩] else [])
theorem rpF_eq {x : Sec} {day : Int} {y : Hold} (hs : secOk x = true) (hid : x.id = y.s) (h0 : 0 < y.a) (h1 : y.a ≤ 1000000000000) : rpF x day y = plL x day y := by
  obtain ⟨id, un, is, ma, ra, ev, ix⟩ := x
  obtain ⟨s, h, a⟩ := y
  simp only at hid h0 h1
  subst hid
  have hok := secB_iff.1 hs
  simp only at hok
  have hE := ccE_of hok (by omega) h1
  have hc : 0 ≤ cpN id un is ma ra ev a := by
    unfold cpN
    rw [if_pos hE]
    obtain ⟨p0, -⟩ := mul_bd (show 0 ≤ a by omega) h1 hok.ra0 hok.ra1
    have he := hok.ev
    have : 0 ≤ a * ra * ev := Int.mul_nonneg p0 (by omega)
    exact Int.ediv_nonneg (by omega) (by omega)
  obtain ⟨C, hC⟩ : ∃ C, cpN id un is ma ra ev a = C := ⟨_, rfl⟩
  unfold rpF plL
  simp only [hE, hC]
  rw [hC] at hc
  unfold ofL ofE dueL
  simp only [ne_eq, not_true_eq_false, and_false, if_false, if_true]
  by_cases hd : day ∈ daysL id un is ma ra ev
  · by_cases hC0 : C = 0
    · subst hC0
      by_cases hm : ma = day
      · subst hm; simp [show ¬ a = 0 by omega]
      · have hm' : ¬ day = ma := fun e => hm e.symm
        simp [hm, hm']
    · have : 0 < C := by omega
      by_cases hm : ma = day
      · subst hm; simp [hd, this, hC0, show ¬ a = 0 by omega]
      · have hm' : ¬ day = ma := fun e => hm e.symm
        simp [hd, this, hC0, hm, hm']
  · by_cases hm : ma = day
    · subst hm; simp [hd, show ¬ a = 0 by omega]
    · have hm' : ¬ day = ma := fun e => hm e.symm
      simp [hd, hm, hm']
end Go.Proofs.YthhoaefadfeknaaGreat
namespace Go.Proofs.YthhoaefadfeknaaGreat
open Go.RowKit
set_option linter.unusedVariables false
set_option linter.unusedSimpArgs false
set_option maxHeartbeats 4000000 in
set_option maxRecDepth 100000 in
theorem fparts_any (id un is ma ra ev : Int) (ix : Bool) (day : Int) (w : World) :
    Calls Tryz.prog 50 #[.agg #[.int .i64 id, .int .i64 un, .int .i64 is, .int .i64 ma, .int .i64 ra, .int .i64 ev, .bool ix], .int .i64 day] w (PartsW (partsL ⟨id, un, is, ma, ra, ev, ix⟩ day) w) := by
  obtain ⟨so, hso⟩ : ∃ b, secB id un is ma ra ev = b := ⟨_, rfl⟩
  have KS := Lib.hid (fun W => r33sec_any id un is ma ra ev ix W)
  rw [hso] at KS
  have HSO := Lib.hid hso
  have hp : partsB ⟨id, un, is, ma, ra, ev, ix⟩ day = (so && (ev != 0 && (decide (is ≤ day) && decide (day < ma)))) := by unfold partsB secOk; simp only; rw [hso]
  have HP := Lib.hid hp
  clear hso hp
  cases so with
  | false =>
    have e1 : partsL ⟨id, un, is, ma, ra, ev, ix⟩ day = [] := by unfold partsL; rw [HP.out]; simp []
    rw [e1]
    clear e1
    go_enter Tryz.func50, Tryz.ntmps50
    go_wp2_with fail
    refine (KS.out _).mono ?_
    rintro e w1 ⟨rfl, hb1⟩
    have s0 : w1.cell? ⟨w.heap.size, 0, none⟩ = some (.int .i64 id) := boxed_cell hb1 0 rfl
    have s1 : w1.cell? ⟨w.heap.size, 1, none⟩ = some (.int .i64 un) := boxed_cell hb1 1 rfl
    have s2 : w1.cell? ⟨w.heap.size, 2, none⟩ = some (.int .i64 is) := boxed_cell hb1 2 rfl
    have s3 : w1.cell? ⟨w.heap.size, 3, none⟩ = some (.int .i64 ma) := boxed_cell hb1 3 rfl
    have s4 : w1.cell? ⟨w.heap.size, 4, none⟩ = some (.int .i64 ra) := boxed_cell hb1 4 rfl
    have s5 : w1.cell? ⟨w.heap.size, 5, none⟩ = some (.int .i64 ev) := boxed_cell hb1 5 rfl
    have s6 : w1.cell? ⟨w.heap.size, 6, none⟩ = some (.bool ix) := boxed_cell hb1 6 rfl
    go_wp2
    go_ret
    exact partsW_nil rfl (bup (bal brefl _) hb1)
  | true =>
  by_cases he : ev = 0
  case pos =>
    have e1 : partsL ⟨id, un, is, ma, ra, ev, ix⟩ day = [] := by unfold partsL; rw [HP.out]; simp [he]
    rw [e1]
    have g1 : (ev == 0) = true := by simpa using he
    clear he
    clear e1
    go_enter Tryz.func50, Tryz.ntmps50
    go_wp2_with fail
    refine (KS.out _).mono ?_
    rintro e w1 ⟨rfl, hb1⟩
    have s0 : w1.cell? ⟨w.heap.size, 0, none⟩ = some (.int .i64 id) := boxed_cell hb1 0 rfl
    have s1 : w1.cell? ⟨w.heap.size, 1, none⟩ = some (.int .i64 un) := boxed_cell hb1 1 rfl
    have s2 : w1.cell? ⟨w.heap.size, 2, none⟩ = some (.int .i64 is) := boxed_cell hb1 2 rfl
    have s3 : w1.cell? ⟨w.heap.size, 3, none⟩ = some (.int .i64 ma) := boxed_cell hb1 3 rfl
    have s4 : w1.cell? ⟨w.heap.size, 4, none⟩ = some (.int .i64 ra) := boxed_cell hb1 4 rfl
    have s5 : w1.cell? ⟨w.heap.size, 5, none⟩ = some (.int .i64 ev) := boxed_cell hb1 5 rfl
    have s6 : w1.cell? ⟨w.heap.size, 6, none⟩ = some (.bool ix) := boxed_cell hb1 6 rfl
    go_wp2
    go_ret
    exact partsW_nil rfl (bup (bal brefl _) hb1)
  by_cases h3 : is ≤ day
  case neg =>
    have e1 : partsL ⟨id, un, is, ma, ra, ev, ix⟩ day = [] := by unfold partsL; rw [HP.out]; simp [he, h3]
    rw [e1]
    have g1 : (ev == 0) = false := by simpa using he
    have g3 : day < is := by omega
    clear e1
    go_enter Tryz.func50, Tryz.ntmps50
    go_wp2_with fail
    refine (KS.out _).mono ?_
    rintro e w1 ⟨rfl, hb1⟩
    have s0 : w1.cell? ⟨w.heap.size, 0, none⟩ = some (.int .i64 id) := boxed_cell hb1 0 rfl
    have s1 : w1.cell? ⟨w.heap.size, 1, none⟩ = some (.int .i64 un) := boxed_cell hb1 1 rfl
    have s2 : w1.cell? ⟨w.heap.size, 2, none⟩ = some (.int .i64 is) := boxed_cell hb1 2 rfl
    have s3 : w1.cell? ⟨w.heap.size, 3, none⟩ = some (.int .i64 ma) := boxed_cell hb1 3 rfl
    have s4 : w1.cell? ⟨w.heap.size, 4, none⟩ = some (.int .i64 ra) := boxed_cell hb1 4 rfl
    have s5 : w1.cell? ⟨w.heap.size, 5, none⟩ = some (.int .i64 ev) := boxed_cell hb1 5 rfl
    have s6 : w1.cell? ⟨w.heap.size, 6, none⟩ = some (.bool ix) := boxed_cell hb1 6 rfl
    go_wp2
    go_ret
    exact partsW_nil rfl (bup (bal brefl _) hb1)
  by_cases h4 : day < ma
  case neg =>
    have e1 : partsL ⟨id, un, is, ma, ra, ev, ix⟩ day = [] := by unfold partsL; rw [HP.out]; simp [he, h3, h4]
    rw [e1]
    have g1 : (ev == 0) = false := by simpa using he
    have g3 : ¬ day < is := by omega
    have g4 : ma ≤ day := by omega
    clear e1
    go_enter Tryz.func50, Tryz.ntmps50
    go_wp2_with fail
    refine (KS.out _).mono ?_
    rintro e w1 ⟨rfl, hb1⟩
    have s0 : w1.cell? ⟨w.heap.size, 0, none⟩ = some (.int .i64 id) := boxed_cell hb1 0 rfl
    have s1 : w1.cell? ⟨w.heap.size, 1, none⟩ = some (.int .i64 un) := boxed_cell hb1 1 rfl
    have s2 : w1.cell? ⟨w.heap.size, 2, none⟩ = some (.int .i64 is) := boxed_cell hb1 2 rfl
    have s3 : w1.cell? ⟨w.heap.size, 3, none⟩ = some (.int .i64 ma) := boxed_cell hb1 3 rfl
    have s4 : w1.cell? ⟨w.heap.size, 4, none⟩ = some (.int .i64 ra) := boxed_cell hb1 4 rfl
    have s5 : w1.cell? ⟨w.heap.size, 5, none⟩ = some (.int .i64 ev) := boxed_cell hb1 5 rfl
    have s6 : w1.cell? ⟨w.heap.size, 6, none⟩ = some (.bool ix) := boxed_cell hb1 6 rfl
    go_wp2
    go_ret
    exact partsW_nil rfl (bup (bal brefl _) hb1)
  have hP : partsB ⟨id, un, is, ma, ra, ev, ix⟩ day = true := by rw [HP.out]; simp [he, h3, h4]
  obtain ⟨D, hD⟩ : ∃ D, daysOf ⟨id, un, is, ma, ra, ev, ix⟩ = D := ⟨_, rfl⟩
  have hdl : D.length ≤ 1000000 := by rw [← hD, daysOf_len]; exact dayN_le id un is ma ra ev ix
  obtain ⟨n, hn⟩ : ∃ n, D.length = n := ⟨_, rfl⟩
  rw [hn] at hdl
  have hM : partsL ⟨id, un, is, ma, ra, ev, ix⟩ day = parK D id day n ++ [⟨id, ma, true, 0, 0⟩] := by
    unfold partsL parK; rw [if_pos hP, hD, ← hn, List.take_length]
  rw [hM]
  have HDD := Lib.hid hD
  have HN := Lib.hid hn
  have g1 : (ev == 0) = false := by simpa using he
  have g3 : ¬ day < is := by omega
  have g4 : ¬ ma ≤ day := by omega
  obtain ⟨i1, hi, hz0, hz1, hz2⟩ := info_parts infoStp
  clear hM hP hD hn HP
  go_enter Tryz.func50, Tryz.ntmps50
  go_wp2_with fail
  refine (KS.out _).mono ?_
  rintro e w1 ⟨rfl, hb1⟩
  have s0 : w1.cell? ⟨w.heap.size, 0, none⟩ = some (.int .i64 id) := boxed_cell hb1 0 rfl
  have s1 : w1.cell? ⟨w.heap.size, 1, none⟩ = some (.int .i64 un) := boxed_cell hb1 1 rfl
  have s2 : w1.cell? ⟨w.heap.size, 2, none⟩ = some (.int .i64 is) := boxed_cell hb1 2 rfl
  have s3 : w1.cell? ⟨w.heap.size, 3, none⟩ = some (.int .i64 ma) := boxed_cell hb1 3 rfl
  have s4 : w1.cell? ⟨w.heap.size, 4, none⟩ = some (.int .i64 ra) := boxed_cell hb1 4 rfl
  have s5 : w1.cell? ⟨w.heap.size, 5, none⟩ = some (.int .i64 ev) := boxed_cell hb1 5 rfl
  have s6 : w1.cell? ⟨w.heap.size, 6, none⟩ = some (.bool ix) := boxed_cell hb1 6 rfl
  have HB := Lib.hid (bup (bal brefl _) hb1)
  clear hb1
  go_wp2_with fail
  refine (r34days_any id un is ma ra ev ix _).mono ?_
  intro e w2 hdm
  obtain ⟨v2, rfl, hsl2, hb2⟩ := daysMade_sl id un is ma ra ev ix hdm
  rw [show daysL id un is ma ra ev = D from HDD.out] at hsl2
  obtain ⟨ao, n2, cc, rfl, hn2, -, -⟩ := hsl2.shape
  obtain rfl : n = n2 := by have := HN.out; omega
  have HS2 := Lib.hid hsl2
  have HB2 := Lib.hid (bup HB.out hb2)
  have t0 := keepB hb2 s0
  have t3 := keepB hb2 s3
  have zz : w.heap.size < w2.heap.size := World.block_lt_of_cell? _ _ t0
  clear hdm hsl2 hn2 hb2 s0 s1 s2 s3 s4 s5 s6
  go_wp2
  go_loopw [5, 31] (fun v iv wr => ∃ k : Nat, k ≤ n ∧ iv = .int .i64 k ∧ wr.ownsRow w2.heap.size 88 5 v (parK D id day k).length (flatE encStp (parK D id day k)) ∧ Below w2.heap.size w2 wr) (fun _ iv _ => n - (intOf iv).toNat)
  case atStart => exact ⟨0, by omega, rfl, World.ownsRow_nil _ _ _ _, brefl⟩
  case round =>
    obtain ⟨k, hk, rfl, hown, hbr⟩ := hrel
    have u0 := keepB hbr t0
    have u3 := keepB hbr t3
    have zr := hbr.size
    have hpl := parK_len D id day k
    by_cases hlt : k < n
    · obtain ⟨b, off, d, rfl, -, hbb, hL, k0⟩ := (HS2.out.below hbr).int hlt
      have hkz : (k : Int) < (n : Int) := by omega
      by_cases hd : day < d
      · have HK := Lib.hid (parK_yes (id := id) hL hd)
        clear hL
        go_wp2_with (at_builtin; go_must (refine wpList_append_own _ rfl _ _ 67 rfl w2.heap.size 88 i1 (.agg #[.int .i64 0, .int .i64 0, .bool false, .int .i64 0, .int .i64 0]) 5 40 Tryz.underlying67 hi hz0 hz1 hz2 rfl (by decide) _ _ _ rfl (hown.alloc _) ⟨wr.heap.size, 0, none⟩ 1 1 (encStp ⟨id, d, false, 0, 0⟩) rfl rfl (newsL _ _ _) (oneStp _) (by unfold maxLen; omega) (by omega) (by simp; omega) ?_); intro v' w3 hown' hgrow _; have hb3 : Below w2.heap.size w2 w3 := (hbr.alloc hbr.size _).grown hgrow (by simp; omega) (fun q hq => (hown.lt q hq).1))
        go_roundw
        case rel => exact ⟨k + 1, by omega, by go_num, by rw [HK.out, flatE_snoc, List.length_append]; exact hown', hb3⟩
        case measure => simp [intOf]; omega
      · have HK := Lib.hid (parK_no (id := id) hL hd)
        clear hL
        go_wp2
        go_roundw
        case rel => exact ⟨k + 1, by omega, by go_num, by rw [HK.out]; exact hown, hbr⟩
        case measure => simp [intOf]; omega
    · obtain rfl : k = n := by omega
      go_wp2_with (at_builtin; go_must (refine wpList_append_own _ rfl _ _ 67 rfl w2.heap.size 88 i1 (.agg #[.int .i64 0, .int .i64 0, .bool false, .int .i64 0, .int .i64 0]) 5 40 Tryz.underlying67 hi hz0 hz1 hz2 rfl (by decide) _ _ _ rfl (hown.alloc _) ⟨wr.heap.size, 0, none⟩ 1 1 (encStp ⟨id, ma, true, 0, 0⟩) rfl rfl (newsL _ _ _) (oneStp _) (by unfold maxLen; omega) (by omega) (by simp; omega) ?_); intro v' w3 hown' hgrow _; have hb3 : Below w2.heap.size w2 w3 := (hbr.alloc hbr.size _).grown hgrow (by simp; omega) (fun q hq => (hown.lt q hq).1))
      go_wp2
      go_ret
      exact ⟨_, rfl, by rw [flatE_snoc, List.length_append]; exact ownsRow_baseZ hown' HB2.out.size, bup HB2.out hb3⟩
end Go.Proofs.YthhoaefadfeknaaGreat
