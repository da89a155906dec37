/- Vaults in plain lists: what is checked, what splitting, joining and moving lead to. No program in sight. coupon.Days: the row is the call's own. Printed by wip/gen/stf.py. Strips: unit, possible, the days left; slices.Equal at numbers. Strips: covered; slices.Equal at numbers. Strips: Check. Printed by wip/gen/sth.py. -/
import Derived.Test.YthhoaefadfeknaaGreatZStE
import Derived.Test.YthhoaefadfeknaaGreatZRefN
import Derived.Test.YthhoaefadfeknaaGreatZCpnE
import Derived.Test.YthhoaefadfeknaaGreatZDays
import Derived.Test.YthhoaefadfeknaaGreatZFnStp
import Derived.Test.YthhoaefadfeknaaGreatZCont
import Derived.Test.YthhoaefadfeknaaGreatZRegJ
namespace Go.Proofs.YthhoaefadfeknaaGreat
open Go.RowKit
set_option linter.unusedVariables false

def daysOf (x : Sec) : List Int := daysL x.id x.un x.is x.ma x.ra x.ev
/-- there can be a strip of a day and a kind -/
def possB (x : Sec) (d : Int) (p : Bool) : Bool := if p then d == x.ma else decide (d ∈ daysOf x)
def unitB (x : Sec) (n : Int) : Bool := decide (0 < n ∧ n ≤ 1000000000000 ∧ n % x.un = 0)
/-- the coupon days of which there are strips -/
def leftD (L : List Stp) (x : Sec) : List Int := (daysOf x).filter fun d => !(sumP L x.id d false == 0)
/-- the strips of a security are those of what is stripped -/
def covB (R : Reg) (L : List Stp) (x : Sec) : Bool :=
  if sumP L x.id x.ma true = rgHeld R x.id 1000 then
    (if rgHeld R x.id 1000 = 0 ∨ (leftD L x) = [] then decide (rgHeld R x.id 1000 = 0 ∧ leftD L x = [])
     else decide (leftD L x = (daysOf x).drop ((daysOf x).length - (leftD L x).length)) && !((leftD L x).any fun d => !(sumP L x.id d false == rgHeld R x.id 1000)))
  else false
/-- a strip stands behind another one -/
def aftB : Option Stp → Stp → Bool
  | none, _ => true
  | some y, x => ltS y x.s x.d x.p x.h
/-- a strip is right -/
def stpB (R : Reg) (q : Option Stp) (x : Stp) : Bool :=
  match findS R.secs x.s with
  | none => false
  | some s => possB s x.d x.p && (holdP x.h && (unitB s x.a && aftB q x))
def stsB (R : Reg) : Option Stp → List Stp → Bool
  | _, [] => true
  | q, x :: L => stpB R q x && stsB R (some x) L
/-- what is wrong with a vault -/
def vkE (R : Reg) (L : List Stp) : Int :=
  if chkE R = 0 then (if 400 < L.length then 3 else if stsB R none L then (if R.secs.any fun s => !covB R L s then 82 else 0) else 82) else chkE R
/-- the error of what needs a security with coupons -/
def vsE (R : Reg) (L : List Stp) (id : Int) : Int :=
  if vkE R L = 0 then (match findS R.secs id with | none => 76 | some s => if s.ev = 0 then 76 else 0) else vkE R L
def vsS (R : Reg) (L : List Stp) (id : Int) : Sec := if vsE R L id = 0 then (findS R.secs id).getD ⟨0, 0, 0, 0, 0, 0, false⟩ else ⟨0, 0, 0, 0, 0, 0, false⟩
/-- the parts of a security on a day -/
def partsB (x : Sec) (day : Int) : Bool := secOk x && (x.ev != 0 && (decide (x.is ≤ day) && decide (day < x.ma)))
def partsL (x : Sec) (day : Int) : List Stp :=
  if partsB x day then ((daysOf x).filter fun d => decide (day < d)).map (fun d => ⟨x.id, d, false, 0, 0⟩) ++ [⟨x.id, x.ma, true, 0, 0⟩] else []
def laterD (x : Sec) (day : Int) : List Int := if partsB x day then (daysOf x).filter fun d => decide (day < d) else []
/-- the parts, for a holder -/
def prE (L : List Stp) (x : Sec) (day : Int) : Int := if partsL x day = [] ∨ (leftD L x ≠ [] ∧ leftD L x ≠ laterD x day) then 8 else 0
def prL (L : List Stp) (x : Sec) (day h : Int) : List Stp := if prE L x day = 0 then (partsL x day).map (fun y => ⟨y.s, y.d, y.p, h, y.a⟩) else []
/-- strips added for each part -/
def addAll (L : List Stp) (M : List Stp) (n : Int) : List Stp := M.foldl (fun A y => addP A y.s y.d y.p y.h n) L
/-- Split -/
def spE (R : Reg) (L : List Stp) (day id h n : Int) : Int :=
  if vsE R L id = 0 then
    (if rmE R ⟨0, day, 2, id, h, 1000, n⟩ = 0 then
      (if prE L (vsS R L id) day = 0 then (if 400 < (addAll L (prL L (vsS R L id) day h) n).length then 3 else 0) else prE L (vsS R L id) day)
     else rmE R ⟨0, day, 2, id, h, 1000, n⟩)
  else vsE R L id
def spR (R : Reg) (L : List Stp) (day id h n : Int) : Reg := if spE R L day id h n = 0 then rmR R ⟨0, day, 2, id, h, 1000, n⟩ else ⟨[], [], []⟩
def spL (R : Reg) (L : List Stp) (day id h n : Int) : List Stp := if spE R L day id h n = 0 then addAll L (prL L (vsS R L id) day h) n else []
/-- Join -/
def jnE (R : Reg) (L : List Stp) (day id h n : Int) : Int :=
  if vsE R L id = 0 then
    (if prE L (vsS R L id) day = 0 then
      (if (prL L (vsS R L id) day h).any fun y => decide (heldP L y.s y.d y.p y.h < n) then 77 else rmE R ⟨0, day, 2, id, 1000, h, n⟩)
     else prE L (vsS R L id) day)
  else vsE R L id
def jnR (R : Reg) (L : List Stp) (day id h n : Int) : Reg := if jnE R L day id h n = 0 then rmR R ⟨0, day, 2, id, 1000, h, n⟩ else ⟨[], [], []⟩
def jnL (R : Reg) (L : List Stp) (day id h n : Int) : List Stp := if jnE R L day id h n = 0 then addAll L (prL L (vsS R L id) day h) (-n) else []
/-- Move -/
def mwE (R : Reg) (L : List Stp) (x : Stp) (tg : Int) : Int :=
  if vkE R L = 0 then
    (match findS R.secs x.s with
     | none => 79
     | some s => if 0 < x.a ∧ x.a % s.un = 0 then
        (if holdP tg = true ∧ tg ≠ x.h then
          (if heldP L x.s x.d x.p x.h < x.a then 77
           else if 400 < (addP (addP L x.s x.d x.p x.h (-x.a)) x.s x.d x.p tg x.a).length then 3 else 0)
         else 6)
       else 79)
  else vkE R L
def mwR (R : Reg) (L : List Stp) (x : Stp) (tg : Int) : Reg := if mwE R L x tg = 0 then R else ⟨[], [], []⟩
def mwL (R : Reg) (L : List Stp) (x : Stp) (tg : Int) : List Stp := if mwE R L x tg = 0 then addP (addP L x.s x.d x.p x.h (-x.a)) x.s x.d x.p tg x.a else []
/-- Held, Rights -/
def vhN (R : Reg) (L : List Stp) (x : Stp) : Int := if vkE R L = 0 then heldP L x.s x.d x.p x.h else 0
def rgN (R : Reg) (L : List Stp) (id d : Int) (p : Bool) : Int :=
  if vkE R L = 0 then (match findS R.secs id with | none => 0 | some s => if possB s d p then rgOut R id - rgHeld R id 1000 + sumP L id d p else 0) else 0

/-! what a right vault fulfils -/
theorem stsB_srt {R : Reg} : ∀ {L : List Stp} {q : Option Stp}, stsB R q L = true → srtP L ∧ ∀ x ∈ L, aftB q x = true
  | [], q, _ => ⟨List.Pairwise.nil, by simp⟩
  | x :: L, q, h => by
    simp only [stsB, Bool.and_eq_true] at h
    obtain ⟨h1, h2⟩ := h
    obtain ⟨h3, h4⟩ := stsB_srt h2
    have hq : aftB q x = true := by
      unfold stpB at h1
      split at h1
      · simp at h1
      · simp only [Bool.and_eq_true] at h1; exact h1.2.2.2
    refine ⟨List.pairwise_cons.2 ⟨fun y hy => ?_, h3⟩, fun y hy => ?_⟩
    · have := h4 y hy
      simp only [aftB, ltS_iff] at this
      exact this
    · rcases List.mem_cons.1 hy with rfl | hy
      · exact hq
      · have h5 := h4 y hy
        cases q with
        | none => rfl
        | some z =>
          simp only [aftB, ltS_iff] at h5 hq ⊢
          omega
theorem stsB_mem {R : Reg} : ∀ {L : List Stp} {q : Option Stp}, stsB R q L = true → ∀ x ∈ L, ∃ s, findS R.secs x.s = some s ∧ possB s x.d x.p = true ∧ holdP x.h = true ∧ unitB s x.a = true
  | [], _, _, x, hx => by simp at hx
  | y :: L, q, h, x, hx => by
    simp only [stsB, Bool.and_eq_true] at h
    rcases List.mem_cons.1 hx with rfl | hx
    · have h1 := h.1
      unfold stpB at h1
      split at h1
      · simp at h1
      · rename_i s hs
        simp only [Bool.and_eq_true] at h1
        exact ⟨s, hs, h1.1, h1.2.1, h1.2.2.1⟩
    · exact stsB_mem h.2 x hx
/-- what a checked vault fulfils -/
structure VkOk (R : Reg) (L : List Stp) : Prop where
  rg : RgOk R
  ln : L.length ≤ 400
  sts : stsB R none L = true
  cov : ∀ s ∈ R.secs, covB R L s = true
theorem vkE_iff {R : Reg} {L : List Stp} : vkE R L = 0 ↔ VkOk R L := by
  unfold vkE
  constructor
  · intro h
    split at h
    · rename_i h0
      split at h
      · simp at h
      · rename_i h1
        split at h
        · rename_i h2
          split at h
          · simp at h
          · rename_i h3
            refine ⟨chkE_iff.1 h0, by omega, h2, fun s hs => ?_⟩
            cases hc : covB R L s
            · exact absurd (List.any_eq_true.2 ⟨s, hs, by simp [hc]⟩) h3
            · rfl
        · simp at h
    · rename_i h0; exact absurd h h0
  · rintro ⟨h1, h2, h3, h4⟩
    rw [if_pos (chkE_iff.2 h1), if_neg (by omega), if_pos h3, if_neg]
    intro h
    obtain ⟨s, hs, h⟩ := List.any_eq_true.1 h
    simp [h4 s hs] at h
theorem VkOk.srt {R : Reg} {L : List Stp} (h : VkOk R L) : srtP L := (stsB_srt h.sts).1
theorem VkOk.amt {R : Reg} {L : List Stp} (h : VkOk R L) : ∀ x ∈ L, 0 < x.a ∧ x.a ≤ 1000000000000 := fun x hx => by
  obtain ⟨s, _, _, _, h4⟩ := stsB_mem h.sts x hx
  simp only [unitB, decide_eq_true_eq] at h4
  exact ⟨h4.1, h4.2.1⟩
end Go.Proofs.YthhoaefadfeknaaGreat
namespace Go.Proofs.YthhoaefadfeknaaGreat
open Go.RowKit
set_option linter.unusedVariables false
def DaysOwn (x : Sec) (w : World) (e : Ending) (w' : World) : Prop := ∃ v, e = .returned v ∧ w'.ownsRow w.heap.size 3 1 v (daysOf x).length (flatE encI (daysOf x)) ∧ Below w.heap.size w w'
theorem daysOf_len (x : Sec) : (daysOf x).length = dayN x.id x.un x.is x.ma x.ra x.ev := by simp [daysOf, daysL]
theorem daysOf_flat (x : Sec) : flatE encI (daysOf x) = dayCells x.is x.ev (dayN x.id x.un x.is x.ma x.ra x.ev) := by
  simp only [daysOf, daysL, dayCells, flatE, List.flatMap_map]
  generalize List.range _ = L
  induction L with
  | nil => rfl
  | cons a L ih => rw [List.flatMap_cons, List.map_cons, ih]; rfl
theorem daysOwn_nil {x : Sec} {w w' : World} (h : dayN x.id x.un x.is x.ma x.ra x.ev = 0) (hb : Below w.heap.size w w') : DaysOwn x w (.returned (.slice none 0 0)) w' := by
  refine ⟨_, rfl, ?_, hb⟩
  rw [daysOf_len, daysOf_flat, h]
  exact World.ownsRow_nil _ _ _ _
theorem daysOwn_mk {x : Sec} {w w' : World} {b k : Nat} {v : Value} (h : dayN x.id x.un x.is x.ma x.ra x.ev = k) (ho : w'.ownsRow b 3 1 v k (dayCells x.is x.ev k)) (hw : w.heap.size ≤ b) (hb : Below w.heap.size w w') : DaysOwn x w (.returned v) w' := by
  refine ⟨_, rfl, ?_, hb⟩
  rw [daysOf_len, daysOf_flat, h]
  exact ownsRow_baseZ ho hw
set_option maxHeartbeats 1000000 in
theorem days_own (id un is ma ra ev : Int) (ix : Bool) (w : World) :
    Calls Tryz.prog 59 #[.agg #[.int .i64 id, .int .i64 un, .int .i64 is, .int .i64 ma, .int .i64 ra, .int .i64 ev, .bool ix]] w (DaysOwn ⟨id, un, is, ma, ra, ev, ix⟩ w) := by
  cases hs : secB id un is ma ra ev
  · have hn : dayN id un is ma ra ev = 0 := by simp [dayN, hs]
    have HN := Lib.hid hn
    clear hn
    go_enter Tryz.func59, Tryz.ntmps59
    go_wp2_with fail
    refine (security_any id un is ma ra ev ix _).mono ?_
    rw [hs]
    rintro e w1 ⟨rfl, hb⟩
    have hB := below_box hb
    go_wp2
    go_ret
    exact daysOwn_nil HN.out hB
  · obtain ⟨_, _, _, _, i0, m0, m1, m2, r0, r1, he⟩ := secB_iff.1 hs
    have HS := Lib.hid hs
    by_cases e0 : ev = 0
    · have hn : dayN id un is ma ra ev = 0 := by simp [dayN, e0]
      have HN := Lib.hid hn
      have e1 : (ev == 0) = true := by simpa using e0
      clear hn he e0 hs
      go_enter Tryz.func59, Tryz.ntmps59
      go_wp2_with fail
      refine (security_any id un is ma ra ev ix _).mono ?_
      rw [HS.out]
      rintro e w1 ⟨rfl, hb⟩
      obtain ⟨hc, hf⟩ := bcell hb
      have hB := below_box hb
      have hz : w.heap.size < w1.heap.size := by have := hb.size; simp at this; omega
      go_wp2
      go_ret
      exact daysOwn_nil HN.out hB
    · have hn : dayN id un is ma ra ev = ((ma - is) / (30 * ev)).toNat := by simp [dayN, hs, e0]
      have HN := Lib.hid hn
      have e1 : 1 ≤ ev := by omega
      have e2 : ev ≤ 12 := by omega
      have e3 : (ev == 0) = false := by simpa using e0
      clear hn he e0 hs
      obtain ⟨i1, hi, hz0, hz1, hz2⟩ := info_parts infoInt
      go_enter Tryz.func59, Tryz.ntmps59
      go_wp2_with fail
      refine (security_any id un is ma ra ev ix _).mono ?_
      rw [HS.out]
      rintro e w1 ⟨rfl, hb⟩
      have hB := below_box hb
      have hz : w.heap.size < w1.heap.size := by have := hb.size; simp at this; omega
      have b2 : w1.cell? ⟨w.heap.size, 2, none⟩ = some (.int .i64 is) := by obtain ⟨hc, _⟩ := bcell hb; rw [hc _ _ (by simp), World.cell?_alloc_at _ _ _ _ rfl]; rfl
      have b3 : w1.cell? ⟨w.heap.size, 3, none⟩ = some (.int .i64 ma) := by obtain ⟨hc, _⟩ := bcell hb; rw [hc _ _ (by simp), World.cell?_alloc_at _ _ _ _ rfl]; rfl
      have b5 : w1.cell? ⟨w.heap.size, 5, none⟩ = some (.int .i64 ev) := by obtain ⟨hc, _⟩ := bcell hb; rw [hc _ _ (by simp), World.cell?_alloc_at _ _ _ _ rfl]; rfl
      clear hb
      go_wp2
      go_loopw [3, 4] (fun v dv wr => ∃ (k : Nat) (d : Int), dv = .int .i64 d ∧ DInv is ma ev k d ∧ wr.ownsRow w1.heap.size 3 1 v k (dayCells is ev k) ∧ Below w1.heap.size w1 wr) (fun _ dv _ => (ma + 361 - intOf dv).toNat)
      case atStart => exact ⟨0, _, rfl, dinv_start e1 (by omega), World.ownsRow_nil _ _ _ _, Below.refl _ _⟩
      case round =>
        obtain ⟨k, d, rfl, hI, hown, hbr⟩ := hrel
        have d1 := hI.lo
        have d2 := hI.hi
        have d3 := hI.kk
        have HI := Lib.hid hI
        have c2 : wr.cell? ⟨w.heap.size, 2, none⟩ = some (.int .i64 is) := (hbr.cell (by exact hz)).trans b2
        have c3 : wr.cell? ⟨w.heap.size, 3, none⟩ = some (.int .i64 ma) := (hbr.cell (by exact hz)).trans b3
        have c5 : wr.cell? ⟨w.heap.size, 5, none⟩ = some (.int .i64 ev) := (hbr.cell (by exact hz)).trans b5
        have zr := hbr.size
        clear hI
        by_cases hd : d ≤ ma
        · go_wp2_with (at_builtin; go_must (refine wpList_append_own _ rfl _ _ 22 rfl w1.heap.size 3 i1 (.int .i64 0) 1 8 Tryz.underlying22 hi hz0 hz1 hz2 rfl (by decide) _ _ _ rfl (hown.alloc _) ⟨wr.heap.size, 0, none⟩ 1 1 [.int .i64 d] rfl rfl (news1 _ _ _) (one1 _ _) (by unfold maxLen; omega) (by omega) (by simp; omega) ?_); intro v' w2 hown' hgrow _; have hb2 : Below w1.heap.size w1 w2 := (hbr.alloc hbr.size _).grown hgrow (by simp; omega) (fun q hq => (hown.lt q hq).1); have c5' := (hb2.cell (p := ⟨w.heap.size, 5, none⟩) (by exact hz)).trans b5)
          go_roundw
          case rel => exact ⟨k + 1, d + 30 * ev, by go_num, dinv_step HI.out e1 hd, by rw [dayCells_succ, ← HI.out.d0]; exact hown', hb2⟩
          case measure => simp [intOf]; omega
        · have hk := dinv_end HI.out e1 (by omega) (by omega)
          go_wp2
          go_ret
          exact daysOwn_mk (HN.out.trans hk.symm) hown (by omega) (hB.trans (hbr.mono (by omega)))
end Go.Proofs.YthhoaefadfeknaaGreat
namespace Go.Proofs.YthhoaefadfeknaaGreat
open Go.RowKit
set_option linter.unusedVariables false
set_option linter.unusedSimpArgs false
theorem stunit_any (id un is ma ra ev : Int) (ix : Bool) (n : Int) (w : World) (hu : 1 ≤ un) (hu1 : un ≤ 1000000000) :
    Calls Tryz.prog 104 #[.agg #[.int .i64 id, .int .i64 un, .int .i64 is, .int .i64 ma, .int .i64 ra, .int .i64 ev, .bool ix], .int .i64 n] w fun e w' => e = .returned (.bool (unitB ⟨id, un, is, ma, ra, ev, ix⟩ n)) ∧ Below w.heap.size w w' := by
  obtain ⟨r, hr⟩ : ∃ r, unitB ⟨id, un, is, ma, ra, ev, ix⟩ n = r := ⟨_, rfl⟩
  rw [hr]
  unfold unitB at hr
  simp only at hr
  by_cases h1 : 0 < n
  · by_cases h2 : n ≤ 1000000000000
    · have hm : n.tmod un = n % un := Int.tmod_eq_emod_of_nonneg (by omega)
      obtain ⟨m, hmm⟩ : ∃ m, n % un = m := ⟨_, rfl⟩
      have hm0 : 0 ≤ m := by rw [← hmm]; exact Int.emod_nonneg _ (by omega)
      have hm1 : m < un := by rw [← hmm]; exact Int.emod_lt_of_pos _ (by omega)
      rw [hmm] at hm hr
      have hr' := Lib.hid (show r = (m == 0) by rw [← hr, Bool.eq_iff_iff]; simp [h1, h2])
      have hun : (un == 0) = false := by simp; omega
      have hun2 : ¬ un = 0 := by omega
      clear hr
      go_enter Tryz.func104, Tryz.ntmps104
      go_wp2
      go_ret
      exact ⟨ret_bool hr'.out.symm, bal brefl _⟩
    · obtain rfl : r = false := by rw [← hr]; simp [h2]
      clear hr
      go_enter Tryz.func104, Tryz.ntmps104
      go_wp2
      go_ret
      exact ⟨rfl, bal brefl _⟩
  · obtain rfl : r = false := by rw [← hr]; simp [h1]
    clear hr
    go_enter Tryz.func104, Tryz.ntmps104
    go_wp2
    go_ret
    exact ⟨rfl, bal brefl _⟩
theorem stpossible_any (id un is ma ra ev : Int) (ix : Bool) (d : Int) (p : Bool) (w : World) :
    Calls Tryz.prog 102 #[.agg #[.int .i64 id, .int .i64 un, .int .i64 is, .int .i64 ma, .int .i64 ra, .int .i64 ev, .bool ix], .int .i64 d, .bool p] w fun e w' => e = .returned (.bool (possB ⟨id, un, is, ma, ra, ev, ix⟩ d p)) ∧ Below w.heap.size w w' := by
  cases p with
  | true =>
    have e : possB ⟨id, un, is, ma, ra, ev, ix⟩ d true = (d == ma) := rfl
    rw [e]
    go_enter Tryz.func102, Tryz.ntmps102
    go_wp2
    go_ret
    exact ⟨rfl, bal brefl _⟩
  | false =>
    have e : possB ⟨id, un, is, ma, ra, ev, ix⟩ d false = decide (d ∈ daysOf ⟨id, un, is, ma, ra, ev, ix⟩) := rfl
    have hdl : (daysOf ⟨id, un, is, ma, ra, ev, ix⟩).length ≤ 1000000 := by rw [daysOf_len]; exact dayN_le id un is ma ra ev ix
    rw [e]
    obtain ⟨D, hD⟩ : ∃ D, daysOf ⟨id, un, is, ma, ra, ev, ix⟩ = D := ⟨_, rfl⟩
    have hdo := fun W => days_own id un is ma ra ev ix W
    unfold DaysOwn at hdo
    rw [hD] at hdl hdo ⊢
    obtain ⟨r, hr⟩ : ∃ r, decide (d ∈ D) = r := ⟨_, rfl⟩
    rw [hr]
    have HR := Lib.hid hr
    have HD := Lib.hid hdo
    have HL := Lib.hid hdl
    clear hr hdo hdl hD e
    go_enter Tryz.func102, Tryz.ntmps102
    go_wp2_with fail
    refine (HD.out _).mono ?_
    rintro e w1 ⟨v, rfl, ho, hb1⟩
    have HC := Lib.hid (contains_any (fun _ => True) v D d w1 (Sl.own encI_len ho rfl (fun _ _ => trivial)) HL.out)
    obtain ⟨ao, c, rfl⟩ := own_sl ho
    have HB := Lib.hid (bup (bal brefl _) hb1)
    clear ho hb1
    go_wp2_with fail
    refine HC.out.mono ?_
    rw [HR.out]
    rintro e w2 ⟨rfl, rfl⟩
    go_wp2
    go_ret
    exact ⟨rfl, HB.out⟩
/-- the closure of days -/
theorem stdays1_any (P : Nat → Prop) (vt : Value) (L : List Stp) (x0 day : Int) (B C : Nat) (w : World) (hS : Sl 5 encStp P w vt L) (hok : ∀ x ∈ L, 0 < x.a ∧ x.a ≤ 1000000000000) (hlen : L.length ≤ 100000) (hB : w.cell? ⟨B, 0, none⟩ = some vt) (hC : w.cell? ⟨C, 0, none⟩ = some (.int .i64 x0)) :
    Calls Tryz.prog 199 #[.int .i64 day, .pointer (some ⟨B, 0, none⟩), .pointer (some ⟨C, 0, none⟩)] w fun e w' => e = .returned (.bool (sumP L x0 day false == 0)) ∧ Below w.heap.size w w' := by
  have H := stsum_any P vt L x0 day false w hS hok hlen
  obtain ⟨S, hs⟩ : ∃ S, sumP L x0 day false = S := ⟨_, rfl⟩
  rw [hs] at H ⊢
  obtain ⟨ao, n, c, rfl, -, -, -⟩ := hS.shape
  have HH := Lib.hid H
  clear H hs hS hok hlen
  go_enter Tryz.func199, Tryz.ntmps199
  go_wp2_with fail
  refine HH.out.mono ?_
  rintro e w1 ⟨rfl, hb1⟩
  go_wp2
  go_ret
  exact ⟨rfl, hb1⟩
/-- what days leaves: a row of the call's own -/
def DaysLeft (L : List Stp) (x : Sec) (w : World) (e : Ending) (w' : World) : Prop := ∃ v, e = .returned v ∧ w'.ownsRow w.heap.size 3 1 v (leftD L x).length (flatE encI (leftD L x)) ∧ Below w.heap.size w w'
set_option maxHeartbeats 1000000 in
theorem stdays_any (P : Nat → Prop) (vt : Value) (L : List Stp) (id un is ma ra ev : Int) (ix : Bool) (w : World) (hS : Sl 5 encStp P w vt L) (hok : ∀ x ∈ L, 0 < x.a ∧ x.a ≤ 1000000000000) (hlen : L.length ≤ 100000) :
    Calls Tryz.prog 171 #[vt, .agg #[.int .i64 id, .int .i64 un, .int .i64 is, .int .i64 ma, .int .i64 ra, .int .i64 ev, .bool ix]] w (DaysLeft L ⟨id, un, is, ma, ra, ev, ix⟩ w) := by
  have hS0 := hS.mono (Q := (· < w.heap.size)) (fun b _ h => h)
  have hsh := hS.shape
  have hdl : (daysOf ⟨id, un, is, ma, ra, ev, ix⟩).length ≤ 1000000 := by rw [daysOf_len]; exact dayN_le id un is ma ra ev ix
  obtain ⟨D, hD⟩ : ∃ D, daysOf ⟨id, un, is, ma, ra, ev, ix⟩ = D := ⟨_, rfl⟩
  have hdo := fun W => days_own id un is ma ra ev ix W
  unfold DaysOwn at hdo
  have e : leftD L ⟨id, un, is, ma, ra, ev, ix⟩ = D.filter fun d => !(sumP L id d false == 0) := by unfold leftD; rw [hD]
  unfold DaysLeft
  rw [e]
  rw [hD] at hdl hdo
  obtain ⟨M, hM⟩ : ∃ M, (D.filter fun d => !(sumP L id d false == 0)) = M := ⟨_, rfl⟩
  rw [hM]
  have eg : ∀ args w, (callFunc 199 args).run Tryz.prog w = .ok (.enter 199 args) w := enters_of Tryz.func199 (by kernel_rfl) rfl
  have HEG := Lib.hid eg
  have HS := Lib.hid hS0
  have HK := Lib.hid hok
  have HD := Lib.hid hdo
  have HL := Lib.hid hdl
  have HM := Lib.hid hM
  have HN := Lib.hid hlen
  obtain ⟨ao, n, c, rfl, -, -, -⟩ := hsh
  clear hS hS0 hok hdo hdl hM hD e hlen eg
  go_enter Tryz.func171, Tryz.ntmps171
  go_wp2_with fail
  refine (HD.out _).mono ?_
  rintro e w1 ⟨v, rfl, ho, hb1⟩
  have zw : (((w.alloc (.cells #[.slice ao n c] 67)).alloc (.cells #[.int .i64 id, .int .i64 un, .int .i64 is, .int .i64 ma, .int .i64 ra, .int .i64 ev, .bool ix] 26))).heap.size = w.heap.size + 1 + 1 := by simp
  rw [zw] at ho
  have HB := Lib.hid (bup (bal (bal brefl _) _) hb1)
  have b0 : w1.cell? ⟨w.heap.size, 0, none⟩ = some (.slice ao n c) := (hb1.cell (p := ⟨w.heap.size, 0, none⟩) (by simp; omega)).trans ((World.cell?_alloc_past _ _ _ (by simp)).trans (World.cell?_alloc_at _ _ _ _ rfl))
  have b1 : w1.cell? ⟨w.heap.size + 1, 0, none⟩ = some (.int .i64 id) := by have q := boxed_cell hb1 0 (v := .int .i64 id) rfl; simpa using q
  have hvb : ∀ k, v.ownBlock = some k → w.heap.size + 1 + 1 ≤ k := fun k hk => (ho.lt k hk).1
  have hpro : ProInt 199 #[.pointer (some ⟨w.heap.size, 0, none⟩), .pointer (some ⟨w.heap.size + 1, 0, none⟩)] v.ownBlock (fun d => sumP L id d false == 0) (fun _ => True) w1 := by
    intro W hW x _
    have hne : ∀ b, b < w.heap.size + 1 + 1 → some b ≠ v.ownBlock := fun b hb hq => by have := hvb b hq.symm; omega
    have z1 := HB.out.size
    refine stdays1_any (· < w.heap.size) (.slice ao n c) L id x w.heap.size (w.heap.size + 1) W ((HS.out.below HB.out).block hW.size (fun b hb hlt => hW.block b hlt (hne b (by omega)))) HK.out HN.out ?_ ?_
    · exact (World.cell?_of_block (a := ⟨w.heap.size, 0, none⟩) (hW.block _ (World.block_lt_of_cell? w1 _ b0) (hne w.heap.size (by omega)))).trans b0
    · exact (World.cell?_of_block (a := ⟨w.heap.size + 1, 0, none⟩) (hW.block _ (World.block_lt_of_cell? w1 _ b1) (hne (w.heap.size + 1) (by omega)))).trans b1
  have HPR := Lib.hid hpro
  have HO := Lib.hid ho
  have HVB := Lib.hid hvb
  obtain ⟨ao1, c1, rfl⟩ := own_sl ho
  clear hpro ho hb1 b0 b1 hvb zw
  go_wp2_with fail
  refine (dlfInt_any _ _ _ (fun _ => True) _ _ D w1 HEG.out HPR.out (fun _ _ => trivial) HO.out HL.out).mono ?_
  rw [HM.out]
  rintro e w2 ⟨v2, rfl, ho2, hg2⟩
  have hfin : Below w.heap.size w w2 := by
    refine ⟨hg2.os.trans HB.out.os, hg2.tape.trans HB.out.tape, hg2.output.trans HB.out.output, Nat.le_trans HB.out.size hg2.size, fun k hk => ?_⟩
    rw [hg2.block k (Nat.lt_of_lt_of_le hk HB.out.size) (fun hq => by have := HVB.out k hq.symm; omega)]
    exact HB.out.block k hk
  have HO2 := Lib.hid (ownsRow_baseZ (b' := w.heap.size) ho2 (by omega))
  have HF := Lib.hid hfin
  obtain ⟨ao2, c2, rfl⟩ := own_sl ho2
  clear ho2 hg2 hfin
  go_wp2
  go_ret
  exact ⟨_, rfl, HO2.out, HF.out⟩
end Go.Proofs.YthhoaefadfeknaaGreat
namespace Go.Proofs.YthhoaefadfeknaaGreat
open Go.RowKit
set_option linter.unusedVariables false
set_option linter.unusedSimpArgs false
theorem eqI_any (P Q : Nat → Prop) (v v' : Value) (L M : List Int) (w : World) (h : Sl 1 encI P w v L) (h' : Sl 1 encI Q w v' M) (hl : L.length ≤ 1000000) (hl' : M.length ≤ 1000000) :
    Calls Tryz.prog 173 #[v, v'] w fun e w' => e = .returned (.bool (decide (L = M))) ∧ Below w.heap.size w w' := by
  obtain ⟨a0, n, c, rfl, hn, -, -⟩ := h.shape
  obtain ⟨a1, m, c', rfl, hm, -, -⟩ := h'.shape
  have hn1 : n ≤ 1000000 := by omega
  have hm1 : m ≤ 1000000 := by omega
  obtain ⟨r, hr⟩ : ∃ r, decide (L = M) = r := ⟨_, rfl⟩
  rw [hr]
  have HL := Lib.hid h
  have HM := Lib.hid h'
  have HN := Lib.hid hn
  have HMM := Lib.hid hm
  have HR := Lib.hid hr
  by_cases hnm : n = m
  · subst hnm
    clear h h' hn hm hl hl' hr
    go_enter Tryz.func173, Tryz.ntmps173
    go_wp2
    go_loopw [13] (fun iv wr => ∃ k q : Nat, k ≤ n ∧ iv = .int .i64 k ∧ r = decide (L.drop k = M.drop k) ∧ wr = w.drewN q) (fun iv _ => n - (intOf iv).toNat)
    case atStart => exact ⟨0, 0, by omega, rfl, by rw [List.drop_zero, List.drop_zero]; exact HR.out.symm, rfl⟩
    case round =>
      obtain ⟨k, q, hk, rfl, hrk, rfl⟩ := hrel
      by_cases hlt : k < n
      · obtain ⟨b, off, a, rfl, -, hb', hLk, k0⟩ := HL.out.int hlt
        obtain ⟨b1, off1, a1, rfl, -, hb1', hMk, l0⟩ := HM.out.int hlt
        rw [drop_cons hLk, drop_cons hMk] at hrk
        have HRK := Lib.hid hrk
        have hkn : (k : Int) < n := by omega
        clear hLk hMk hrk
        by_cases e1 : a = a1
        · have hrel2 := Lib.hid (show r = decide (L.drop (k + 1) = M.drop (k + 1)) by rw [HRK.out, decide_eq_decide]; simp [e1])
          have q1 : (a != a1) = false := by simp [e1]
          have q2 : (a == a1) = true := by simp [e1]
          go_wp2_with fail
          go_quiet (fail)
          go_wp2
          go_roundw
          case rel => exact ⟨k + 1, q + nq, by omega, by go_num, hrel2.out, by first | rfl | rw [World.drewN_drewN]⟩
          case measure => simp [intOf]; omega
        · have hf : r = false := by rw [HRK.out]; simp [e1]
          subst hf
          have q1 : (a != a1) = true := by simpa using e1
          have q2 : (a == a1) = false := by simpa using e1
          go_wp2_with fail
          go_quiet (fail)
          go_wp2
          go_ret
          exact ⟨rfl, below_drewZ (below_drewZ brefl _) _⟩
      · have hf : r = true := by rw [hrk, drop_all (by have := HN.out; omega), drop_all (by have := HMM.out; omega)]; rfl
        subst hf
        clear hrk
        go_wp2
        go_ret
        exact ⟨rfl, below_drewZ brefl _⟩
  · have hf : r = false := by
      rw [← hr, decide_eq_false_iff_not]
      intro he
      rw [he] at hn
      omega
    subst hf
    have q1 : ((n : Int) == (m : Int)) = false := by simp; omega
    clear h h' hn hm hl hl' hr
    go_enter Tryz.func173, Tryz.ntmps173
    go_wp2
    go_ret
    exact ⟨rfl, brefl⟩
theorem Sl.dropI {P : Nat → Prop} {w : World} {b off n c k : Nat} {L : List Int} (h : Sl 1 encI P w (.slice (some ⟨b, off, none⟩) n c) L) (hk : k ≤ n) : Sl 1 encI P w (.slice (some ⟨b, off + k, none⟩) (n - k) (c - k)) (L.drop k) := by
  obtain ⟨ao, n', c', he, h2, h3, h4, h5⟩ := h
  cases he
  refine ⟨_, n - k, c - k, rfl, by rw [List.length_drop, h2], by omega, by unfold maxLen at *; omega, ?_⟩
  rcases h5 with h5 | ⟨b', off', k1, k2, k3, k4⟩
  · exact .inl (by omega)
  · cases k1
    refine .inr ⟨b, off + k, rfl, k2, k3, fun j a hj i u hi => ?_⟩
    rw [List.getElem?_drop] at hj
    have := k4 (k + j) a hj i u hi
    rw [show off + k + j * 1 + i = off + (k + j) * 1 + i by omega]
    exact this
/-- the closure of covered -/
theorem stcov1_any (P : Nat → Prop) (vt : Value) (L : List Stp) (x0 day st : Int) (B C E : Nat) (w : World) (hS : Sl 5 encStp P w vt L) (hok : ∀ x ∈ L, 0 < x.a ∧ x.a ≤ 1000000000000) (hlen : L.length ≤ 100000) (hB : w.cell? ⟨B, 3, none⟩ = some vt) (hC : w.cell? ⟨C, 0, none⟩ = some (.int .i64 x0)) (hE : w.cell? ⟨E, 0, none⟩ = some (.int .i64 st)) :
    Calls Tryz.prog 172 #[.int .i64 day, .pointer (some ⟨B, 0, none⟩), .pointer (some ⟨C, 0, none⟩), .pointer (some ⟨E, 0, none⟩)] w fun e w' => e = .returned (.bool (!(sumP L x0 day false == st))) ∧ Below w.heap.size w w' := by
  have H := fun U (hU : Below w.heap.size w U) => stsum_any P vt L x0 day false U (hS.below hU) hok hlen
  obtain ⟨S, hs⟩ : ∃ S, sumP L x0 day false = S := ⟨_, rfl⟩
  rw [hs] at H ⊢
  obtain ⟨ao, n, c, rfl, -, -, -⟩ := hS.shape
  have HH := Lib.hid H
  have u1 := up_cell hB
  have u2 := up_cell hC
  have u3 := up_cell hE
  have hb : (S != st) = !(S == st) := rfl
  clear H hs hS hok hlen
  go_enter Tryz.func172, Tryz.ntmps172
  go_upto_region 1 with fail
  (refine wp_region_up (by kernel_rfl) (by kernel_rfl) ?_); (repeat (go_big_quiet_step (((go_at_call 113; refine (HH.out _ (up_prop _)).mono ?_; exact fun _ _ hh => ⟨hh.1, ⟨_, bup (up_prop _) hh.2⟩, rfl⟩))))); (refine wpQuiet_nil ?_); (rintro w1 ⟨⟨_, hb1⟩, rfl⟩)
  go_wp2
  go_ret
  exact ⟨ret_bool (by first | rfl | simp), hb1⟩
/-- a vault that lies in blocks with P, its strips being right one by one -/
structure VkIn (P : Nat → Prop) (w : World) (vs vh vm vt : Value) (R : Reg) (L : List Stp) : Prop where
  rg : RgIn P w vs vh vm R
  st : Sl 5 encStp P w vt L
  lS : R.secs.length ≤ 1000000
  lH : R.hs.length ≤ 1000000
  lM : R.ms.length ≤ 1000000
  lL : L.length ≤ 1000000
theorem VkIn.below {P : Nat → Prop} {w w' : World} {vs vh vm vt : Value} {R : Reg} {L : List Stp} (h : VkIn P w vs vh vm vt R L) (hb : Below w.heap.size w w') : VkIn P w' vs vh vm vt R L := ⟨h.rg.below hb, h.st.below hb, h.lS, h.lH, h.lM, h.lL⟩
theorem VkIn.mono {P Q : Nat → Prop} {w : World} {vs vh vm vt : Value} {R : Reg} {L : List Stp} (h : VkIn P w vs vh vm vt R L) (hq : ∀ b, P b → b < w.heap.size → Q b) : VkIn Q w vs vh vm vt R L := ⟨h.rg.mono hq, h.st.mono hq, h.lS, h.lH, h.lM, h.lL⟩
set_option maxHeartbeats 4000000 in
set_option maxRecDepth 100000 in
theorem stcovered_any (P : Nat → Prop) (vs vh vm vt : Value) (R : Reg) (L : List Stp) (id un is ma ra ev : Int) (ix : Bool) (w : World) (hv : VkIn P w vs vh vm vt R L) (hok : ∀ x ∈ L, 0 < x.a ∧ x.a ≤ 1000000000000) (hlen : L.length ≤ 100000) :
    Calls Tryz.prog 108 #[.agg #[vs, vh, vm, vt], .agg #[.int .i64 id, .int .i64 un, .int .i64 is, .int .i64 ma, .int .i64 ra, .int .i64 ev, .bool ix]] w fun e w' => e = .returned (.bool (covB R L ⟨id, un, is, ma, ra, ev, ix⟩)) ∧ Below w.heap.size w w' := by
  obtain ⟨a0, n0, c0, rfl, -, -, -⟩ := hv.rg.S.shape
  obtain ⟨a1, n1, c1, rfl, -, -, -⟩ := hv.rg.H.shape
  obtain ⟨a2, n2, c2, rfl, -, -, -⟩ := hv.rg.M.shape
  obtain ⟨a3, n3, c3, rfl, -, -, -⟩ := hv.st.shape
  have KH := Lib.hid (fun U (hU : Below w.heap.size w U) => rheld_any P _ _ _ R id 1000 U (hv.rg.below hU) hv.lS hv.lH hv.lM)
  have KS := Lib.hid (fun U (hU : Below w.heap.size w U) => stsum_any P _ L id ma true U (hv.st.below hU) hok hlen)
  have KD := Lib.hid (fun U (hU : Below w.heap.size w U) => stdays_any P _ L id un is ma ra ev ix U (hv.st.below hU) hok hlen)
  have KW := Lib.hid (fun U (hU : Below w.heap.size w U) day st B C E => stcov1_any P _ L id day st B C E U (hv.st.below hU) hok hlen)
  obtain ⟨st, hst⟩ : ∃ st, rgHeld R id 1000 = st := ⟨_, rfl⟩
  obtain ⟨sm, hsm⟩ : ∃ sm, sumP L id ma true = sm := ⟨_, rfl⟩
  obtain ⟨D, hD⟩ : ∃ D, daysOf ⟨id, un, is, ma, ra, ev, ix⟩ = D := ⟨_, rfl⟩
  obtain ⟨F, hF⟩ : ∃ F, leftD L ⟨id, un, is, ma, ra, ev, ix⟩ = F := ⟨_, rfl⟩
  have hFD : F.length ≤ D.length := by rw [← hF, ← hD]; unfold leftD; exact List.length_filter_le _ _
  have hdl : D.length ≤ 1000000 := by rw [← hD, daysOf_len]; exact dayN_le id un is ma ra ev ix
  obtain ⟨r, hr⟩ : ∃ r, covB R L ⟨id, un, is, ma, ra, ev, ix⟩ = r := ⟨_, rfl⟩
  rw [hr]
  unfold covB at hr
  simp only at hr
  unfold DaysLeft at KD
  have KY := Lib.hid (fun W => days_own id un is ma ra ev ix W)
  unfold DaysOwn at KY
  rw [hst] at KH hr
  rw [hsm] at KS hr
  rw [hF] at KD hr
  rw [hD] at KY hr
  have HRR := Lib.hid hr
  have eg : ∀ args w, (callFunc 172 args).run Tryz.prog w = .ok (.enter 172 args) w := enters_of Tryz.func172 (by kernel_rfl) rfl
  have HEG := Lib.hid eg
  have HFD := Lib.hid hFD
  have HDL := Lib.hid hdl
  clear hv hok hlen hst hsm hD hF hr eg hFD hdl
  by_cases h1 : sm = st
  case neg =>
    obtain rfl : r = false := by have q := HRR.out; rw [if_neg h1] at q; exact q.symm
    have g1 : (sm != st) = true := by simpa using h1
    have g2 : (sm == st) = false := by simpa using h1
    go_enter Tryz.func108, Tryz.ntmps108
    go_wp2_with fail
    refine (KH.out _ (bal (bal brefl _) _)).mono ?_
    rintro e w1 ⟨rfl, hb1⟩
    have HB := Lib.hid (bup (bal (bal brefl _) _) hb1)
    have b3 : w1.cell? ⟨w.heap.size, 3, none⟩ = some (.slice a3 n3 c3) := (hb1.cell (p := ⟨w.heap.size, 3, none⟩) (by simp; omega)).trans ((World.cell?_alloc_past _ _ _ (by simp)).trans (World.cell?_alloc_at _ _ _ _ rfl))
    have s0 : w1.cell? ⟨w.heap.size + 1, 0, none⟩ = some (.int .i64 id) := by have q := boxed_cell hb1 0 (v := .int .i64 id) rfl; simpa using q
    have s3 : w1.cell? ⟨w.heap.size + 1, 3, none⟩ = some (.int .i64 ma) := by have q := boxed_cell hb1 3 (v := .int .i64 ma) rfl; simpa using q
    have z1 := hb1.size
    simp at z1
    go_upto_region 2 with fail
    obtain ⟨W1, hW1⟩ : ∃ W, W = w1.alloc (.cells #[.int .i64 st] 3 (0, 0)) := ⟨_, rfl⟩
    try rw [← hW1]
    have HB2 := Lib.hid (show Below w.heap.size w W1 by rw [hW1]; exact bal HB.out _)
    have u1 := up_cell (show W1.cell? ⟨w.heap.size, 3, none⟩ = some (.slice a3 n3 c3) by rw [hW1]; exact keepA b3)
    have u2 := up_cell (show W1.cell? ⟨w.heap.size + 1, 0, none⟩ = some (.int .i64 id) by rw [hW1]; exact keepA s0)
    have u3 := up_cell (show W1.cell? ⟨w.heap.size + 1, 3, none⟩ = some (.int .i64 ma) by rw [hW1]; exact keepA s3)
    have u4 := up_cell (show W1.cell? ⟨w1.heap.size, 0, none⟩ = some (.int .i64 st) by rw [hW1]; exact World.cell?_alloc_at _ _ _ _ rfl)
    clear b3 s0 s3 hb1 hW1
    (refine wp_region_up (by kernel_rfl) (by kernel_rfl) ?_); (repeat (go_big_quiet_step (((go_at_call 113; refine (KS.out _ (bup HB2.out (up_prop _))).mono ?_; exact fun _ _ hh => ⟨hh.1, ⟨_, bup (up_prop _) hh.2⟩, rfl⟩))))); (refine wpQuiet_nil ?_); (rintro w2 ⟨⟨_, hb2⟩, rfl⟩)
    go_wp2
    go_ret
    exact ⟨rfl, bup HB2.out hb2⟩
  case pos =>
  subst h1
  have g1 : (sm != sm) = false := by simp
  have g2 : (sm == sm) = true := by simp
  obtain ⟨m, hm⟩ : ∃ m, F.length = m := ⟨_, rfl⟩
  obtain ⟨nD, hnD⟩ : ∃ m, D.length = m := ⟨_, rfl⟩
  rw [hm] at KD
  rw [hnD] at KY
  have HM := Lib.hid hm
  have HND := Lib.hid hnD
  have hmd : m ≤ nD := by have := HFD.out; omega
  have hnl : nD ≤ 1000000 := by have := HDL.out; omega
  clear hm hnD
  go_enter Tryz.func108, Tryz.ntmps108
  go_wp2_with fail
  refine (KH.out _ (bal (bal brefl _) _)).mono ?_
  rintro e w1 ⟨rfl, hb1⟩
  have HB := Lib.hid (bup (bal (bal brefl _) _) hb1)
  have b3 : w1.cell? ⟨w.heap.size, 3, none⟩ = some (.slice a3 n3 c3) := (hb1.cell (p := ⟨w.heap.size, 3, none⟩) (by simp; omega)).trans ((World.cell?_alloc_past _ _ _ (by simp)).trans (World.cell?_alloc_at _ _ _ _ rfl))
  have s0 : w1.cell? ⟨w.heap.size + 1, 0, none⟩ = some (.int .i64 id) := by have q := boxed_cell hb1 0 (v := .int .i64 id) rfl; simpa using q
  have s1 : w1.cell? ⟨w.heap.size + 1, 1, none⟩ = some (.int .i64 un) := by have q := boxed_cell hb1 1 (v := .int .i64 un) rfl; simpa using q
  have s2 : w1.cell? ⟨w.heap.size + 1, 2, none⟩ = some (.int .i64 is) := by have q := boxed_cell hb1 2 (v := .int .i64 is) rfl; simpa using q
  have s3 : w1.cell? ⟨w.heap.size + 1, 3, none⟩ = some (.int .i64 ma) := by have q := boxed_cell hb1 3 (v := .int .i64 ma) rfl; simpa using q
  have s4 : w1.cell? ⟨w.heap.size + 1, 4, none⟩ = some (.int .i64 ra) := by have q := boxed_cell hb1 4 (v := .int .i64 ra) rfl; simpa using q
  have s5 : w1.cell? ⟨w.heap.size + 1, 5, none⟩ = some (.int .i64 ev) := by have q := boxed_cell hb1 5 (v := .int .i64 ev) rfl; simpa using q
  have s6 : w1.cell? ⟨w.heap.size + 1, 6, none⟩ = some (.bool ix) := by have q := boxed_cell hb1 6 (v := .bool ix) rfl; simpa using q
  have z1 := hb1.size
  simp at z1
  go_upto_region 2 with fail
  obtain ⟨W1, hW1⟩ : ∃ W, W = w1.alloc (.cells #[.int .i64 sm] 3 (0, 0)) := ⟨_, rfl⟩
  try rw [← hW1]
  have HB2 := Lib.hid (show Below w.heap.size w W1 by rw [hW1]; exact bal HB.out _)
  have t3 : W1.cell? ⟨w.heap.size, 3, none⟩ = some (.slice a3 n3 c3) := by rw [hW1]; exact keepA b3
  have q0 : W1.cell? ⟨w.heap.size + 1, 0, none⟩ = some (.int .i64 id) := by rw [hW1]; exact keepA s0
  have q1 : W1.cell? ⟨w.heap.size + 1, 1, none⟩ = some (.int .i64 un) := by rw [hW1]; exact keepA s1
  have q2 : W1.cell? ⟨w.heap.size + 1, 2, none⟩ = some (.int .i64 is) := by rw [hW1]; exact keepA s2
  have q3 : W1.cell? ⟨w.heap.size + 1, 3, none⟩ = some (.int .i64 ma) := by rw [hW1]; exact keepA s3
  have q4 : W1.cell? ⟨w.heap.size + 1, 4, none⟩ = some (.int .i64 ra) := by rw [hW1]; exact keepA s4
  have q5 : W1.cell? ⟨w.heap.size + 1, 5, none⟩ = some (.int .i64 ev) := by rw [hW1]; exact keepA s5
  have q6 : W1.cell? ⟨w.heap.size + 1, 6, none⟩ = some (.bool ix) := by rw [hW1]; exact keepA s6
  have x0 : W1.cell? ⟨w1.heap.size, 0, none⟩ = some (.int .i64 sm) := by rw [hW1]; exact World.cell?_alloc_at _ _ _ _ rfl
  clear b3 s0 s1 s2 s3 s4 s5 s6 hb1 hW1
  have u1 := up_cell t3
  have u2 := up_cell q0
  have u3 := up_cell q3
  have u4 := up_cell x0
  (refine wp_region_up (by kernel_rfl) (by kernel_rfl) ?_); (repeat (go_big_quiet_step (((go_at_call 113; refine (KS.out _ (bup HB2.out (up_prop _))).mono ?_; exact fun _ _ hh => ⟨hh.1, ⟨_, bup (up_prop _) hh.2⟩, rfl⟩))))); (refine wpQuiet_nil ?_); (rintro w2 ⟨⟨_, hb2⟩, rfl⟩)
  clear u1 u2 u3 u4
  have HB3 := Lib.hid (bup HB2.out hb2)
  have T3 := Lib.hid (keepB hb2 t3)
  have X0 := Lib.hid (keepB hb2 x0)
  have Q0 := Lib.hid (keepB hb2 q0)
  have HQS := Lib.hid (And.intro (keepB hb2 q1) (And.intro (keepB hb2 q2) (And.intro (keepB hb2 q3) (And.intro (keepB hb2 q4) (And.intro (keepB hb2 q5) (keepB hb2 q6))))))
  clear t3 x0 q0 q1 q2 q3 q4 q5 q6 hb2
  have t3 := T3.out
  have q0 := Q0.out
  obtain ⟨q1, q2, q3, q4, q5, q6⟩ := HQS.out
  go_wp2_with fail
  refine (KD.out _ HB3.out).mono ?_
  rintro e w3 ⟨v3, rfl, ho3, hb3⟩
  have HO3 := Lib.hid ho3
  have HB4 := Lib.hid (bup HB3.out hb3)
  have HBX := Lib.hid hb3
  obtain ⟨ao, cc, rfl⟩ := own_sl ho3
  have x0' := keepB hb3 X0.out
  clear ho3 hb3 t3 q0 q1 q2 q3 q4 q5 q6
  by_cases hs0 : sm = 0
  · have hr0 := HRR.out
    rw [if_pos trivial, if_pos (.inl hs0)] at hr0
    have hmr : ((m : Int) == 0) = r := by
      rw [← hr0, Bool.eq_iff_iff]
      simp only [beq_iff_eq, decide_eq_true_eq, hs0, true_and]
      rw [← List.length_eq_zero_iff, HM.out]
      omega
    have HMR := Lib.hid hmr
    subst hs0
    clear hr0 hmr
    go_wp2
    go_ret
    exact ⟨ret_bool (by first | exact HMR.out | (rw [← HMR.out]; done) | (rw [← HMR.out]; simp)), HB4.out⟩
  · have k1 : (sm == 0) = false := by simpa using hs0
    by_cases hF0 : m = 0
    · have hr0 := HRR.out
      have hFe : F = [] := List.eq_nil_of_length_eq_zero (by rw [HM.out, hF0])
      rw [if_pos trivial, if_pos (.inr hFe)] at hr0
      obtain rfl : r = false := by rw [← hr0]; simp [hs0]
      subst hF0
      clear hr0 hFe
      go_wp2
      go_ret
      exact ⟨rfl, HB4.out⟩
    · have hr0 := HRR.out
      have hFe : ¬ F = [] := fun h => hF0 (by rw [← HM.out, h]; rfl)
      rw [if_pos trivial, if_neg (by simp [hs0, hFe])] at hr0
      have HR0 := Lib.hid hr0
      have k2 : ((m : Int) == 0) = false := by simp; omega
      obtain ⟨q1, q2, q3, q4, q5, q6⟩ := HQS.out
      have y0 := keepB HBX.out Q0.out
      have y1 := keepB HBX.out q1
      have y2 := keepB HBX.out q2
      have y3 := keepB HBX.out q3
      have y4 := keepB HBX.out q4
      have y5 := keepB HBX.out q5
      have y6 := keepB HBX.out q6
      clear hr0 hFe q1 q2 q3 q4 q5 q6
      go_wp2_with fail
      refine (KY.out _).mono ?_
      rintro e w4 ⟨v4, rfl, ho4, hb4⟩
      have HO4 := Lib.hid ho4
      obtain ⟨g4, cap4, rest4, rfl, -, -, hnc4, hcm4, -, -⟩ := own_whole ho4 (by omega)
      unfold maxLen at hcm4
      have HB5 := Lib.hid (bup HB4.out hb4)
      have X5 := Lib.hid (keepB hb4 x0')
      have hsF := Sl.own encI_len (ownsRow_belowZ HO3.out hb4) HM.out (P := fun _ => True) (fun _ _ => trivial)
      have hsD := Sl.dropI (k := nD - m) (Sl.own encI_len HO4.out HND.out (P := fun _ => True) (fun _ _ => trivial)) (by omega)
      simp only [Nat.zero_add, show nD - (nD - m) = m by omega] at hsD
      have KE := Lib.hid (eqI_any _ _ _ _ F (D.drop (nD - m)) w4 hsF hsD (by have := HM.out; omega) (by rw [List.length_drop]; have := HND.out; omega))
      have HSF := Lib.hid hsF
      have hsub : (nD : Int) - (m : Int) = ((nD - m : Nat) : Int) := by omega
      have hsn : nD - (nD - m) = m := by omega
      have hcn : ¬ cap4 = nD - m := by omega
      have hdn : nD - m ≤ nD := by omega
      have hdn2 : nD - m ≤ cap4 := by omega
      obtain ⟨e1, he1⟩ : ∃ e1, decide (F = D.drop (nD - m)) = e1 := ⟨_, rfl⟩
      rw [he1] at KE
      have HE1 := Lib.hid he1
      have HR1 := Lib.hid (show (e1 && !(F.any fun d => !(sumP L id d false == sm))) = r by rw [← HR0.out, ← he1, HM.out, HND.out])
      have b3 := keepB (bup HBX.out hb4) T3.out
      have s0 := keepB (bup HBX.out hb4) Q0.out
      have B3 := Lib.hid b3
      have S0 := Lib.hid s0
      clear ho4 hb4 hsF hsD he1 y0 y1 y2 y3 y4 y5 y6 x0' b3 s0
      cases e1 with
      | false =>
        obtain rfl : r = false := by rw [← HR1.out]; rfl
        go_wp2_with fail
        refine KE.out.mono ?_
        rintro e w5 ⟨rfl, hb5⟩
        go_wp2
        go_ret
        exact ⟨rfl, bup HB5.out hb5⟩
      | true =>
        have hrr : (!(F.any fun d => !(sumP L id d false == sm))) = r := by rw [← HR1.out]; rfl
        obtain ⟨fa, hfa⟩ : ∃ fa, (F.any fun d => !(sumP L id d false == sm)) = fa := ⟨_, rfl⟩
        rw [hfa] at hrr
        have HFA := Lib.hid hfa
        subst hrr
        clear hfa
        go_wp2_with fail
        refine KE.out.mono ?_
        rintro e w5 ⟨rfl, hb5⟩
        have HB6 := Lib.hid (bup HB5.out hb5)
        have hpr : PrdInt 172 #[.pointer (some ⟨w.heap.size, 0, none⟩), .pointer (some ⟨w.heap.size + 1, 0, none⟩), .pointer (some ⟨w1.heap.size, 0, none⟩)] (fun d => !(sumP L id d false == sm)) (fun _ => True) w5 :=
          fun U hU x _ => KW.out U (bup HB6.out hU) x sm _ _ _ (keepB (bup hb5 hU) B3.out) (keepB (bup hb5 hU) S0.out) (keepB (bup hb5 hU) X5.out)
        have KC := Lib.hid (cnfInt_any _ _ _ _ (fun _ => True) _ F w5 HEG.out hpr (fun _ _ => trivial) (HSF.out.below hb5) (by have := HM.out; omega))
        rw [HFA.out] at KC
        clear hpr hb5
        go_wp2_with fail
        refine KC.out.mono ?_
        rintro e w6 ⟨rfl, hb6⟩
        go_wp2
        go_ret
        exact ⟨rfl, bup HB6.out hb6⟩
end Go.Proofs.YthhoaefadfeknaaGreat
namespace Go.Proofs.YthhoaefadfeknaaGreat
open Go.RowKit
set_option linter.unusedVariables false
set_option linter.unusedSimpArgs false
/-- the closure of Check -/
theorem stck1_any (P : Nat → Prop) (vs vh vm vt : Value) (R : Reg) (L : List Stp) (id un is ma ra ev : Int) (ix : Bool) (B : Nat) (w : World) (hv : VkIn P w vs vh vm vt R L) (hok : ∀ x ∈ L, 0 < x.a ∧ x.a ≤ 1000000000000) (hlen : L.length ≤ 100000)
    (h0 : w.cell? ⟨B, 0, none⟩ = some vs) (h1 : w.cell? ⟨B, 1, none⟩ = some vh) (h2 : w.cell? ⟨B, 2, none⟩ = some vm) (h3 : w.cell? ⟨B, 3, none⟩ = some vt) :
    Calls Tryz.prog 107 #[.agg #[.int .i64 id, .int .i64 un, .int .i64 is, .int .i64 ma, .int .i64 ra, .int .i64 ev, .bool ix], .pointer (some ⟨B, 0, none⟩)] w fun e w' => e = .returned (.bool (!covB R L ⟨id, un, is, ma, ra, ev, ix⟩)) ∧ Below w.heap.size w w' := by
  obtain ⟨a0, n0, c0, rfl, -, -, -⟩ := hv.rg.S.shape
  obtain ⟨a1, n1, c1, rfl, -, -, -⟩ := hv.rg.H.shape
  obtain ⟨a2, n2, c2, rfl, -, -, -⟩ := hv.rg.M.shape
  obtain ⟨a3, n3, c3, rfl, -, -, -⟩ := hv.st.shape
  have hbl := World.block_lt_of_cell? w _ h0
  simp only at hbl
  have hne : ¬ B = w.heap.size := by omega
  have k0 := keepA (o := .cells #[.int .i64 id, .int .i64 un, .int .i64 is, .int .i64 ma, .int .i64 ra, .int .i64 ev, .bool ix] 26) h0
  have k1 := keepA (o := .cells #[.int .i64 id, .int .i64 un, .int .i64 is, .int .i64 ma, .int .i64 ra, .int .i64 ev, .bool ix] 26) h1
  have k2 := keepA (o := .cells #[.int .i64 id, .int .i64 un, .int .i64 is, .int .i64 ma, .int .i64 ra, .int .i64 ev, .bool ix] 26) h2
  have k3 := keepA (o := .cells #[.int .i64 id, .int .i64 un, .int .i64 is, .int .i64 ma, .int .i64 ra, .int .i64 ev, .bool ix] 26) h3
  have H := Lib.hid (stcovered_any P _ _ _ _ R L id un is ma ra ev ix _ (hv.below (bal brefl (.cells #[.int .i64 id, .int .i64 un, .int .i64 is, .int .i64 ma, .int .i64 ra, .int .i64 ev, .bool ix] 26))) hok hlen)
  obtain ⟨r, hr⟩ : ∃ r, covB R L ⟨id, un, is, ma, ra, ev, ix⟩ = r := ⟨_, rfl⟩
  rw [hr] at H ⊢
  clear hv hok hlen hr h0 h1 h2 h3 hbl
  go_enter Tryz.func107, Tryz.ntmps107
  go_wp2_with fail
  refine H.out.mono ?_
  rintro e w1 ⟨rfl, hb1⟩
  go_wp2
  go_ret
  exact ⟨rfl, bup (bal brefl _) hb1⟩
/-- the strip ahead of place k -/
def pvS (L : List Stp) (k : Nat) : Option Stp := if k = 0 then none else L[k - 1]?
theorem pvS_succ {L : List Stp} {k : Nat} {x : Stp} (h : L[k]? = some x) : pvS L (k + 1) = some x := by unfold pvS; simpa using h
theorem stsB_amt {R : Reg} {L : List Stp} {q : Option Stp} (h : stsB R q L = true) : ∀ x ∈ L, 0 < x.a ∧ x.a ≤ 1000000000000 := fun x hx => by
  obtain ⟨s, _, _, _, h4⟩ := stsB_mem h x hx
  simp only [unitB, decide_eq_true_eq] at h4
  exact ⟨h4.1, h4.2.1⟩
set_option maxHeartbeats 8000000 in
set_option maxRecDepth 100000 in
theorem vcheck_any (P : Nat → Prop) (vs vh vm vt : Value) (R : Reg) (L : List Stp) (w : World) (hv : VkIn P w vs vh vm vt R L) :
    Calls Tryz.prog 40 #[.agg #[vs, vh, vm, vt]] w fun e w' => e = .returned (.int .i64 (vkE R L)) ∧ Below w.heap.size w w' := by
  obtain ⟨a0, n0, c0, rfl, -, -, -⟩ := hv.rg.S.shape
  obtain ⟨a1, n1, c1, rfl, -, -, -⟩ := hv.rg.H.shape
  obtain ⟨a2, n2, c2, rfl, -, -, -⟩ := hv.rg.M.shape
  obtain ⟨a3, n, c3, rfl, hn, -, -⟩ := hv.st.shape
  have KC := Lib.hid (fun U (hU : Below w.heap.size w U) => check_any P _ _ _ R U (hv.rg.below hU) hv.lS hv.lH hv.lM)
  obtain ⟨E, hE⟩ : ∃ E, chkE R = E := ⟨_, rfl⟩
  rw [hE] at KC
  obtain ⟨V, hV⟩ : ∃ V, vkE R L = V := ⟨_, rfl⟩
  rw [hV]
  unfold vkE at hV
  rw [hE] at hV
  have HE := Lib.hid hE
  have HVV := Lib.hid hV
  have HV := Lib.hid hv
  have HN := Lib.hid hn
  have hn1 : n ≤ 1000000 := by have := hv.lL; omega
  clear hE hV hv hn
  by_cases h0 : E = 0
  case neg =>
    have hV := HVV.out
    rw [if_neg h0] at hV
    subst hV
    have g1 : (E != 0) = true := by simpa using h0
    have g2 : (E == 0) = false := by simpa using h0
    go_enter Tryz.func40, Tryz.ntmps40
    go_wp2_with fail
    refine (KC.out _ (bal brefl _)).mono ?_
    rintro e w1 ⟨rfl, hb1⟩
    go_wp2
    go_ret
    exact ⟨rfl, bup (bal brefl _) hb1⟩
  subst h0
  have HOK := Lib.hid (chkE_iff.1 HE.out)
  by_cases hl : 400 < n
  case pos =>
    have hV := HVV.out
    rw [if_pos rfl, if_pos (by rw [HN.out]; exact hl)] at hV
    subst hV
    have hlz : (400 : Int) < (n : Int) := by omega
    go_enter Tryz.func40, Tryz.ntmps40
    go_wp2_with fail
    refine (KC.out _ (bal brefl _)).mono ?_
    rintro e w1 ⟨rfl, hb1⟩
    have b3 : w1.cell? ⟨w.heap.size, 3, none⟩ = some (.slice a3 n c3) := boxed_cell hb1 3 rfl
    go_wp2
    go_ret
    exact ⟨rfl, bup (bal brefl _) hb1⟩
  have hV := HVV.out
  rw [if_pos rfl, if_neg (by rw [HN.out]; exact hl)] at hV
  obtain ⟨r, hr⟩ : ∃ r, stsB R none L = r := ⟨_, rfl⟩
  rw [hr] at hV
  have HR := Lib.hid hr
  have HV2 := Lib.hid hV
  have hlz : ¬ (400 : Int) < (n : Int) := by omega
  clear hV hr HVV
  go_enter Tryz.func40, Tryz.ntmps40
  go_wp2_with fail
  refine (KC.out _ (bal brefl _)).mono ?_
  rintro e w1 ⟨rfl, hb1⟩
  have HB1 := Lib.hid (bup (bal brefl _) hb1)
  have b0 : w1.cell? ⟨w.heap.size, 0, none⟩ = some (.slice a0 n0 c0) := boxed_cell hb1 0 rfl
  have b1 : w1.cell? ⟨w.heap.size, 1, none⟩ = some (.slice a1 n1 c1) := boxed_cell hb1 1 rfl
  have b2 : w1.cell? ⟨w.heap.size, 2, none⟩ = some (.slice a2 n2 c2) := boxed_cell hb1 2 rfl
  have b3 : w1.cell? ⟨w.heap.size, 3, none⟩ = some (.slice a3 n c3) := boxed_cell hb1 3 rfl
  have z1 : w.heap.size < w1.heap.size := by have := hb1.size; simp at this; omega
  have BB := Lib.hid (And.intro b0 (And.intro b1 (And.intro b2 b3)))
  clear hb1
  go_wp2_with fail
  clear b0 b1 b2 b3
  go_loopw [21] (fun iv wr => ∃ k : Nat, k ≤ n ∧ iv = .int .i64 k ∧ r = stsB R (pvS L k) (L.drop k) ∧ Below w1.heap.size w1 wr) (fun iv _ => n - (intOf iv).toNat)
  case atStart => exact ⟨0, by omega, rfl, by rw [List.drop_zero]; exact HR.out.symm, brefl⟩
  case round =>
    obtain ⟨k, hk, rfl, hrk, hbr⟩ := hrel
    have HBR := Lib.hid hbr
    have HBW := Lib.hid (bup HB1.out hbr)
    have hbx : w.heap.size < wr.heap.size := by have := hbr.size; omega
    obtain ⟨b0, b1, b2, b3⟩ := BB.out
    replace b0 := keepB hbr b0
    replace b1 := keepB hbr b1
    replace b2 := keepB hbr b2
    replace b3 := keepB hbr b3
    clear hbr
    by_cases hlt : k < n
    · obtain ⟨bb, off, xs, xd, xp, xh, xa, rfl, -, hbb, hL, k0, k1, k2, k3, k4⟩ := (HV.out.st.below HBW.out).stp hlt
      rw [drop_cons hL] at hrk
      simp only [stsB] at hrk
      have HPV := Lib.hid (pvS_succ hL)
      have hkz : (k : Int) < (n : Int) := by omega
      obtain ⟨R0, hR0⟩ : ∃ q, stsB R (some ⟨xs, xd, xp, xh, xa⟩) (L.drop (k + 1)) = q := ⟨_, rfl⟩
      rw [hR0] at hrk
      have HR0 := Lib.hid hR0
      clear hL hR0
      cases hf : findS R.secs xs with
      | none =>
        have hr0 : r = false := by rw [hrk]; unfold stpB; simp only; rw [hf]; rfl
        have hV : V = 82 := by rw [← HV2.out, hr0]; rfl
        subst hV
        have KF := Lib.hid (fun U (hU : Below w.heap.size w U) => rfind_no P _ _ _ R xs U (HV.out.rg.below hU) HV.out.lS hf)
        clear hrk hf hr0
        go_wp2_with fail
        refine (KF.out _ (bal HBW.out _)).mono ?_
        rintro e w2 ⟨rfl, hb2⟩
        go_upto_region 10 with fail
        (refine wp_region_up (by kernel_rfl) (by kernel_rfl) ?_); (repeat (go_big_quiet_step ((fail)))); (refine wpQuiet_nil ?_); (rintro w3 ⟨⟨_, hb3⟩, rfl⟩)
        go_wp2
        go_ret
        exact ⟨rfl, bup (bal (bup (bal HBW.out _) hb2) _) hb3⟩
      | some s =>
        obtain ⟨id, un, is, ma, ra, ev, ix⟩ := s
        have hsk : secOk ⟨id, un, is, ma, ra, ev, ix⟩ = true := HOK.out.sec _ (findS_mem hf).1
        obtain ⟨un0, un1⟩ := secOk_un hsk
        simp only at un0 un1
        have KF := Lib.hid (fun U (hU : Below w.heap.size w U) => rfind_yes P _ _ _ R xs id un is ma ra ev ix U (HV.out.rg.below hU) HV.out.lS hf)
        obtain ⟨p1, hp1⟩ : ∃ q, possB ⟨id, un, is, ma, ra, ev, ix⟩ xd xp = q := ⟨_, rfl⟩
        obtain ⟨p2, hp2⟩ : ∃ q, holdP xh = q := ⟨_, rfl⟩
        obtain ⟨p3, hp3⟩ : ∃ q, unitB ⟨id, un, is, ma, ra, ev, ix⟩ xa = q := ⟨_, rfl⟩
        have K1 := Lib.hid (fun U => stpossible_any id un is ma ra ev ix xd xp U)
        have K2 := Lib.hid (fun U => stholder_any xh U)
        have K3 := Lib.hid (fun U => stunit_any id un is ma ra ev ix xa U un0 un1)
        rw [hp1] at K1
        rw [hp2] at K2
        rw [hp3] at K3
        have hrk2 : r = ((p1 && (p2 && (p3 && aftB (pvS L k) ⟨xs, xd, xp, xh, xa⟩))) && R0) := by rw [hrk]; unfold stpB; simp only; rw [hf]; simp only; rw [hp1, hp2, hp3]
        have HRK := Lib.hid hrk2
        clear hrk hrk2 hf hsk hp1 hp2 hp3
        go_wp2_with fail
        refine (KF.out _ (bal HBW.out _)).mono ?_
        rintro e w2 ⟨rfl, hb2⟩
        have HB2 := Lib.hid (bup (bal HBW.out _) hb2)
        have HBX := Lib.hid (show Below wr.heap.size wr w2 from bup (bal brefl _) hb2)
        have x0 : w2.cell? ⟨wr.heap.size, 0, none⟩ = some (.int .i64 xs) := boxed_cell hb2 0 rfl
        have x1 : w2.cell? ⟨wr.heap.size, 1, none⟩ = some (.int .i64 xd) := boxed_cell hb2 1 rfl
        have x2 : w2.cell? ⟨wr.heap.size, 2, none⟩ = some (.bool xp) := boxed_cell hb2 2 rfl
        have x3 : w2.cell? ⟨wr.heap.size, 3, none⟩ = some (.int .i64 xh) := boxed_cell hb2 3 rfl
        have x4 : w2.cell? ⟨wr.heap.size, 4, none⟩ = some (.int .i64 xa) := boxed_cell hb2 4 rfl
        have z2 : wr.heap.size < w2.heap.size := by have := hb2.size; simp at this; omega
        clear hb2
        go_upto_region 10 with fail
        obtain ⟨W3, hW3⟩ : ∃ W, W = w2.alloc (.cells #[.int .i64 id, .int .i64 un, .int .i64 is, .int .i64 ma, .int .i64 ra, .int .i64 ev, .bool ix] 26 (0, 0)) := ⟨_, rfl⟩
        try rw [← hW3]
        have HB3 := Lib.hid (show Below w2.heap.size w2 W3 by rw [hW3]; exact bal brefl _)
        have HB4 := Lib.hid (bup HB2.out HB3.out)
        have ux0 := up_cell (keepB HB3.out x0)
        have ux1 := up_cell (keepB HB3.out x1)
        have ux2 := up_cell (keepB HB3.out x2)
        have ux3 := up_cell (keepB HB3.out x3)
        have ux4 := up_cell (keepB HB3.out x4)
        have us0 := up_cell (show W3.cell? ⟨w2.heap.size, 0, none⟩ = some (.int .i64 id) by rw [hW3]; exact World.cell?_alloc_at _ _ _ _ rfl)
        have us1 := up_cell (show W3.cell? ⟨w2.heap.size, 1, none⟩ = some (.int .i64 un) by rw [hW3]; exact World.cell?_alloc_at _ _ _ _ rfl)
        have us2 := up_cell (show W3.cell? ⟨w2.heap.size, 2, none⟩ = some (.int .i64 is) by rw [hW3]; exact World.cell?_alloc_at _ _ _ _ rfl)
        have us3 := up_cell (show W3.cell? ⟨w2.heap.size, 3, none⟩ = some (.int .i64 ma) by rw [hW3]; exact World.cell?_alloc_at _ _ _ _ rfl)
        have us4 := up_cell (show W3.cell? ⟨w2.heap.size, 4, none⟩ = some (.int .i64 ra) by rw [hW3]; exact World.cell?_alloc_at _ _ _ _ rfl)
        have us5 := up_cell (show W3.cell? ⟨w2.heap.size, 5, none⟩ = some (.int .i64 ev) by rw [hW3]; exact World.cell?_alloc_at _ _ _ _ rfl)
        have us6 := up_cell (show W3.cell? ⟨w2.heap.size, 6, none⟩ = some (.bool ix) by rw [hW3]; exact World.cell?_alloc_at _ _ _ _ rfl)
        have ub3 := up_cell (keepB (bup HBX.out HB3.out) b3)
        have HK4 := Lib.hid (keepB (bup HBX.out HB3.out) b0)
        clear x0 x1 x2 x3 x4 hW3
        cases p1 with
        | false =>
          have hr0 : r = false := HRK.out
          have hV : V = 82 := by rw [← HV2.out, hr0]; rfl
          subst hV
          (refine wp_region_up (by kernel_rfl) (by kernel_rfl) ?_); (repeat (go_big_quiet_step ((first | (go_at_call 102; refine (K1.out _).mono ?_; exact fun _ _ hh => ⟨hh.1, ⟨_, bup (up_prop _) hh.2⟩, rfl⟩) | (go_at_call 103; refine (K2.out _).mono ?_; exact fun _ _ hh => ⟨hh.1, _, hh.2.symm⟩) | (go_at_call 104; refine (K3.out _).mono ?_; exact fun _ _ hh => ⟨hh.1, ⟨_, bup (up_prop _) hh.2⟩, rfl⟩))))); (refine wpQuiet_nil ?_); (rintro w5 ⟨⟨_, hb5⟩, rfl⟩)
          go_wp2
          go_ret
          exact ⟨rfl, bup HB4.out hb5⟩
        | true =>
        cases p2 with
        | false =>
          have hr0 : r = false := HRK.out
          have hV : V = 82 := by rw [← HV2.out, hr0]; rfl
          subst hV
          (refine wp_region_up (by kernel_rfl) (by kernel_rfl) ?_); (repeat (go_big_quiet_step ((first | (go_at_call 102; refine (K1.out _).mono ?_; exact fun _ _ hh => ⟨hh.1, ⟨_, bup (up_prop _) hh.2⟩, rfl⟩) | (go_at_call 103; refine (K2.out _).mono ?_; exact fun _ _ hh => ⟨hh.1, _, hh.2.symm⟩) | (go_at_call 104; refine (K3.out _).mono ?_; exact fun _ _ hh => ⟨hh.1, ⟨_, bup (up_prop _) hh.2⟩, rfl⟩))))); (refine wpQuiet_nil ?_); (rintro w5 ⟨⟨_, hb5⟩, rfl⟩)
          go_wp2
          go_ret
          exact ⟨rfl, bup HB4.out hb5⟩
        | true =>
        cases p3 with
        | false =>
          have hr0 : r = false := HRK.out
          have hV : V = 82 := by rw [← HV2.out, hr0]; rfl
          subst hV
          (refine wp_region_up (by kernel_rfl) (by kernel_rfl) ?_); (repeat (go_big_quiet_step ((first | (go_at_call 102; refine (K1.out _).mono ?_; exact fun _ _ hh => ⟨hh.1, ⟨_, bup (up_prop _) hh.2⟩, rfl⟩) | (go_at_call 103; refine (K2.out _).mono ?_; exact fun _ _ hh => ⟨hh.1, _, hh.2.symm⟩) | (go_at_call 104; refine (K3.out _).mono ?_; exact fun _ _ hh => ⟨hh.1, ⟨_, bup (up_prop _) hh.2⟩, rfl⟩))))); (refine wpQuiet_nil ?_); (rintro w5 ⟨⟨_, hb5⟩, rfl⟩)
          go_wp2
          go_ret
          exact ⟨rfl, bup HB4.out hb5⟩
        | true =>
        rcases Nat.eq_zero_or_pos k with hk0 | hk0
        · subst hk0
          have hr1 := Lib.hid (show r = R0 by rw [HRK.out]; rfl)
          (refine wp_region_up (by kernel_rfl) (by kernel_rfl) ?_); (repeat (go_big_quiet_step ((first | (go_at_call 102; refine (K1.out _).mono ?_; exact fun _ _ hh => ⟨hh.1, ⟨_, bup (up_prop _) hh.2⟩, rfl⟩) | (go_at_call 103; refine (K2.out _).mono ?_; exact fun _ _ hh => ⟨hh.1, _, hh.2.symm⟩) | (go_at_call 104; refine (K3.out _).mono ?_; exact fun _ _ hh => ⟨hh.1, ⟨_, bup (up_prop _) hh.2⟩, rfl⟩))))); (refine wpQuiet_nil ?_); (rintro w5 ⟨⟨_, hb5⟩, rfl⟩)
          go_wp2
          go_roundw
          case rel => exact ⟨1, by omega, by go_num, by rw [hr1.out, HPV.out]; exact HR0.out.symm, bup HBR.out (bup (bup HBX.out HB3.out) hb5)⟩
          case measure => simp [intOf]; omega
        · obtain ⟨j, rfl⟩ : ∃ j, k = j + 1 := ⟨k - 1, by omega⟩
          obtain ⟨bb', off', ys, yd, yp, yh, ya, he, -, hyb, hLy, l0, l1, l2, l3, l4⟩ := (HV.out.st.below HBW.out).stp (k := j) (by omega)
          cases he
          have hq1 : aftB (pvS L (j + 1)) ⟨xs, xd, xp, xh, xa⟩ = decide (cmpS ⟨ys, yd, yp, yh, ya⟩ ⟨xs, xd, xp, xh, xa⟩ < 0) := by
            rw [pvS_succ hLy, cmpS_lt]; rfl
          obtain ⟨cc, hcc⟩ : ∃ q, cmpS ⟨ys, yd, yp, yh, ya⟩ ⟨xs, xd, xp, xh, xa⟩ = q := ⟨_, rfl⟩
          rw [hcc] at hq1
          have KK := Lib.hid (fun U => stcompare_any ys yd yp yh ya xs xd xp xh xa U)
          rw [hcc] at KK
          have hr1 := Lib.hid (show r = (decide (cc < 0) && R0) by rw [HRK.out, hq1]; rfl)
          have uy0 := up_cell (keepB (bup HBX.out HB3.out) l0)
          have uy1 := up_cell (keepB (bup HBX.out HB3.out) l1)
          have uy2 := up_cell (keepB (bup HBX.out HB3.out) l2)
          have uy3 := up_cell (keepB (bup HBX.out HB3.out) l3)
          have uy4 := up_cell (keepB (bup HBX.out HB3.out) l4)
          have jz : (j : Int) < (n : Int) := by omega
          have ej : ((j + 1 : Nat) : Int) - 1 = (j : Int) := by omega
          have ej2 : (j : Int) + 1 - 1 = (j : Int) := by omega
          have epos : (0 : Int) < (j : Int) + 1 := by omega
          clear hq1 hcc hLy l0 l1 l2 l3 l4
          by_cases hc : cc < 0
          · have hc2 : ¬ (0 ≤ cc) := by omega
            (refine wp_region_up (by kernel_rfl) (by kernel_rfl) ?_); (repeat (go_big_quiet_step ((first | (go_at_call 102; refine (K1.out _).mono ?_; exact fun _ _ hh => ⟨hh.1, ⟨_, bup (up_prop _) hh.2⟩, rfl⟩) | (go_at_call 103; refine (K2.out _).mono ?_; exact fun _ _ hh => ⟨hh.1, _, hh.2.symm⟩) | (go_at_call 104; refine (K3.out _).mono ?_; exact fun _ _ hh => ⟨hh.1, ⟨_, bup (up_prop _) hh.2⟩, rfl⟩) | (go_at_call 105; refine (KK.out _).mono ?_; exact fun _ _ hh => ⟨hh.1, ⟨_, bup (up_prop _) hh.2⟩, rfl⟩))))); (refine wpQuiet_nil ?_); (rintro w5 ⟨⟨_, hb5⟩, rfl⟩)
            go_wp2
            go_roundw
            case rel => exact ⟨j + 1 + 1, by omega, by go_num, by rw [hr1.out, HPV.out, decide_eq_true hc, Bool.true_and]; exact HR0.out.symm, bup HBR.out (bup (bup HBX.out HB3.out) hb5)⟩
            case measure => simp [intOf]; omega
          · have hr0 : r = false := by rw [hr1.out, decide_eq_false hc]; rfl
            have hV : V = 82 := by rw [← HV2.out, hr0]; rfl
            subst hV
            have hc2 : 0 ≤ cc := by omega
            (refine wp_region_up (by kernel_rfl) (by kernel_rfl) ?_); (repeat (go_big_quiet_step ((first | (go_at_call 102; refine (K1.out _).mono ?_; exact fun _ _ hh => ⟨hh.1, ⟨_, bup (up_prop _) hh.2⟩, rfl⟩) | (go_at_call 103; refine (K2.out _).mono ?_; exact fun _ _ hh => ⟨hh.1, _, hh.2.symm⟩) | (go_at_call 104; refine (K3.out _).mono ?_; exact fun _ _ hh => ⟨hh.1, ⟨_, bup (up_prop _) hh.2⟩, rfl⟩) | (go_at_call 105; refine (KK.out _).mono ?_; exact fun _ _ hh => ⟨hh.1, ⟨_, bup (up_prop _) hh.2⟩, rfl⟩))))); (refine wpQuiet_nil ?_); (rintro w5 ⟨⟨_, hb5⟩, rfl⟩)
            go_wp2
            go_ret
            exact ⟨rfl, bup HB4.out hb5⟩
    · have hr0 : r = true := by rw [hrk, drop_all (by have := HN.out; omega)]; rfl
      subst hr0
      have hV := HV2.out
      rw [if_pos rfl] at hV
      obtain ⟨f, hfa⟩ : ∃ f, (R.secs.any fun s => !covB R L s) = f := ⟨_, rfl⟩
      rw [hfa] at hV
      have eg : ∀ args w, (callFunc 107 args).run Tryz.prog w = .ok (.enter 107 args) w := enters_of Tryz.func107 (by kernel_rfl) rfl
      have hpr : PrdSec 107 #[.pointer (some ⟨w.heap.size, 0, none⟩)] (fun s => !covB R L s) (fun _ => True) wr :=
        fun U hU x _ => stck1_any P _ _ _ _ R L x.id x.un x.is x.ma x.ra x.ev x.ix w.heap.size U (HV.out.below (bup HBW.out hU)) (stsB_amt HR.out) (by have := HN.out; omega) (keepB hU b0) (keepB hU b1) (keepB hU b2) (keepB hU b3)
      have KC2 := Lib.hid (cnfSec_any P _ _ _ (fun _ => True) _ R.secs wr eg hpr (fun _ _ => trivial) (HV.out.rg.S.below HBW.out) HV.out.lS)
      rw [hfa] at KC2
      have HV3 := Lib.hid hV
      clear hrk hpr eg hfa hV
      go_wp2_with fail
      refine KC2.out.mono ?_
      rintro e w2 ⟨rfl, hb2⟩
      cases f with
      | true =>
        have hV : V = 82 := by rw [← HV3.out]; rfl
        subst hV
        go_wp2
        go_ret
        exact ⟨rfl, bup HBW.out hb2⟩
      | false =>
        have hV : V = 0 := by rw [← HV3.out]; rfl
        subst hV
        go_wp2
        go_ret
        exact ⟨rfl, bup HBW.out hb2⟩
end Go.Proofs.YthhoaefadfeknaaGreat
