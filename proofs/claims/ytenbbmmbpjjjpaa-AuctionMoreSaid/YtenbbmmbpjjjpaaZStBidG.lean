/- slices.symMergeCmpFunc's two short ways, at [](struct); printed by wip/gen/sortz2.py. slices.symMergeCmpFunc at [](struct); printed by wip/gen/sortz2.py. slices.stableCmpFunc and SortStableFunc at [](struct); printed by wip/gen/sortz2.py. slices.SortStableFunc at a row that is owned, nil or not. Printed by wip/gen/sortz2.py. -/
import Derived.Test.YtenbbmmbpjjjpaaZStBidC
import Derived.Test.YtenbbmmbpjjjpaaZSortRz
import Derived.Deep.DeepCutAuto
import Derived.Deep.CutRange
import Derived.Deep.CutBlock
namespace Go.Proofs.Ytenbbmmbpjjjpaa
open Go.RowKit
set_option linter.unusedVariables false
set_option linter.unusedSimpArgs false
set_option maxHeartbeats 4000000 in
set_option maxRecDepth 100000 in
theorem symMBid_one (F : Nat) (cb : Array Value) (cf : Bid → Bid → Int) (Q : Bid → Prop) (base g n cap a m b : Nat) (x : Bid) (X B Y : List Bid) (w : World)
    (eg : ∀ args w, (callFunc F args).run Try.prog w = .ok (.enter F args) w) (hcmp : CmpBid F cb g cf Q w) (hW : Wk (ltz cf)) (hQx : Q x) (hQ : ∀ y ∈ B, Q y) (hB : Asc (ltz cf) B)
    (hrow : RowBid base g n cap (X ++ x :: (B ++ Y)) w) (ha : X.length = a) (hm : m = a + 1) (hb : m + B.length = b) (hn : n ≤ 1000000000) :
    Calls Try.prog 72 #[.slice (some ⟨g, 0, none⟩) n cap, .int .i64 a, .int .i64 m, .int .i64 b, .func (.func F) #[] cb] w fun e w' => e = .returned (.tuple #[]) ∧ RowBid base g n cap (X ++ mrg (ltz cf) [x] B ++ Y) w' ∧ w.grownBy w' (some g) := by
  have hlen : X.length + B.length + Y.length + 1 = n := by have := hrow.2; simp at this; omega
  have hbn : b ≤ n := by omega
  have hmb : m ≤ b := by omega
  have e1 : (m : Int) - a = 1 := by omega
  have HC := Lib.hid hcmp
  have HQ := Lib.hid hQ
  have HA := Lib.hid ha
  have HM := Lib.hid hm
  have HB := Lib.hid hb
  have HW := Lib.hid hW
  have HS := Lib.hid hB
  have HR := Lib.hid hrow
  have haz : (a : Int) < n := by omega
  have ham : a < m := by omega
  clear hcmp hQ hW hB hrow hlen ha hm hb
  go_enter Try.func72, Try.ntmps72
  go_wp2
  go_loopw [10, 11] (fun iv jv wr => ∃ i j : Nat, m ≤ i ∧ i ≤ j ∧ j ≤ b ∧ iv = .int .i64 i ∧ jv = .int .i64 j ∧ (i - m = 0 ∨ ∃ y, B[i - m - 1]? = some y ∧ ltz cf y x = true) ∧ (B.length ≤ j - m ∨ ∃ y, B[j - m]? = some y ∧ ltz cf y x = false) ∧ RowBid base g n cap (X ++ x :: (B ++ Y)) wr ∧ w.grownBy wr (some g)) (fun iv jv _ => (intOf jv).toNat - (intOf iv).toNat)
  case atStart => exact ⟨m, b, by omega, hmb, by omega, rfl, rfl, .inl (by omega), .inl (by have := HB.out; omega), HR.out, zrefl _ _⟩
  case round =>
    obtain ⟨i, j, hmi, hij, hjb, rfl, rfl, hlo, hhi, hr, hg⟩ := hrel
    clear e1
    by_cases hlt : i < j
    · obtain ⟨k, hk, hk1, hk2⟩ := halfZ i j hlt
      obtain ⟨y, hy⟩ : ∃ y, B[k - m]? = some y := ⟨_, List.getElem?_eq_getElem (by have := HB.out; omega)⟩
      have hcx := zget_at X (B ++ Y) x HA.out
      have hcy : (X ++ x :: (B ++ Y))[k]? = some y := by
        rw [List.getElem?_append_right (by have := HA.out; have := HM.out; omega), show k - X.length = (k - m) + 1 by have := HA.out; have := HM.out; omega, List.getElem?_cons_succ, List.getElem?_append_left (by have := HB.out; omega)]
        exact hy
      have cx0 : wr.cell? ⟨g, a * 5, none⟩ = some (.int .i64 x.bd) := hr.cell encBid_len (i := 0) hcx rfl; have cx1 : wr.cell? ⟨g, a * 5 + 1, none⟩ = some (.int .i64 x.num) := hr.cell encBid_len (i := 1) hcx rfl; have cx2 : wr.cell? ⟨g, a * 5 + 2, none⟩ = some (.int .i64 x.p) := hr.cell encBid_len (i := 2) hcx rfl; have cx3 : wr.cell? ⟨g, a * 5 + 3, none⟩ = some (.int .i64 x.a) := hr.cell encBid_len (i := 3) hcx rfl; have cx4 : wr.cell? ⟨g, a * 5 + 4, none⟩ = some (.bool x.f) := hr.cell encBid_len (i := 4) hcx rfl
      have cy0 : wr.cell? ⟨g, k * 5, none⟩ = some (.int .i64 y.bd) := hr.cell encBid_len (i := 0) hcy rfl; have cy1 : wr.cell? ⟨g, k * 5 + 1, none⟩ = some (.int .i64 y.num) := hr.cell encBid_len (i := 1) hcy rfl; have cy2 : wr.cell? ⟨g, k * 5 + 2, none⟩ = some (.int .i64 y.p) := hr.cell encBid_len (i := 2) hcy rfl; have cy3 : wr.cell? ⟨g, k * 5 + 3, none⟩ = some (.int .i64 y.a) := hr.cell encBid_len (i := 3) hcy rfl; have cy4 : wr.cell? ⟨g, k * 5 + 4, none⟩ = some (.bool y.f) := hr.cell encBid_len (i := 4) hcy rfl
      have hc := fun W (hW : Below wr.heap.size wr W) => HC.out W (ztrans hg (zbelow hW _)) y x (HQ.out y (List.mem_of_getElem? hy)) hQx
      obtain ⟨c, hcf⟩ : ∃ c, cf y x = c := ⟨_, rfl⟩
      simp only [hcf, vBid] at hc
      have HCC := Lib.hid hc
      have cx0u := up_cell cx0; have cx1u := up_cell cx1; have cx2u := up_cell cx2; have cx3u := up_cell cx3; have cx4u := up_cell cx4
      have cy0u := up_cell cy0; have cy1u := up_cell cy1; have cy2u := up_cell cy2; have cy3u := up_cell cy3; have cy4u := up_cell cy4
      clear hc hcx hcy
      have hkz : (k : Int) < n := by omega
      have HCF := Lib.hid hcf
      have HLO := Lib.hid hlo
      have HHI := Lib.hid hhi
      have HY := Lib.hid hy
      have HROW := Lib.hid hr
      have HG := Lib.hid hg
      clear hcf hlo hhi hy hr hg
      by_cases hneg : c < 0
      all_goals
        go_upto_region 5 with fail
        (refine wp_region_up (by kernel_rfl) (by kernel_rfl) ?_); (repeat (go_big_quiet_step (((go_at_fn F; refine (HCC.out _ (Subtype.property _)).mono ?_; exact fun _ _ hh => ⟨hh.1, ⟨_, bup (Subtype.property _) hh.2⟩, rfl⟩))))); (refine wpQuiet_nil ?_); (rintro w2 ⟨⟨_, hb2⟩, rfl⟩)
        go_wp2
        go_roundw
        case rel => first
          | exact ⟨k + 1, j, by omega, by omega, by omega, by go_num, rfl, .inr ⟨y, by rw [show k + 1 - m - 1 = k - m by omega]; exact HY.out, by unfold ltz; rw [HCF.out]; exact decide_eq_true hneg⟩, HHI.out, HROW.out.below hb2, ztrans HG.out (zbelow hb2 _)⟩
          | exact ⟨i, k, by omega, by omega, by omega, rfl, rfl, HLO.out, .inr ⟨y, HY.out, by unfold ltz; rw [HCF.out]; exact decide_eq_false (by omega)⟩, HROW.out.below hb2, ztrans HG.out (zbelow hb2 _)⟩
        case measure => simp [intOf]; omega
    · obtain rfl : i = j := by omega
      have h1 := asc_loZ HW.out HS.out hlo
      have h2 := asc_hiZ HW.out HS.out hhi
      obtain ⟨B1, hB1⟩ : ∃ B1, B.take (i - m) = B1 := ⟨_, rfl⟩
      obtain ⟨B2, hB2⟩ : ∃ B2, B.drop (i - m) = B2 := ⟨_, rfl⟩
      have hBB : B = B1 ++ B2 := by rw [← hB1, ← hB2, List.take_append_drop]
      have hl1 : B1.length = i - m := by rw [← hB1, List.length_take]; have := HB.out; omega
      rw [hB1] at h1
      rw [hB2] at h2
      have hfin : X ++ mrg (ltz cf) [x] B ++ Y = X ++ B1 ++ x :: (B2 ++ Y) := by rw [hBB, mrg_put_front h1 h2]; simp
      rw [hBB] at hr
      have HF := Lib.hid hfin
      have HL1 := Lib.hid hl1
      have HROW := Lib.hid hr
      have HG := Lib.hid hg
      clear h1 h2 hB1 hB2 hBB hl1 hfin hr hg hlo hhi
      go_wp2
      go_loopw [13] (fun kv wr => ∃ k : Nat, a ≤ k ∧ k + 1 ≤ i ∧ kv = .int .i64 k ∧ RowBid base g n cap (X ++ B1.take (k - a) ++ x :: (B1.drop (k - a) ++ (B2 ++ Y))) wr ∧ w.grownBy wr (some g)) (fun kv _ => i - (intOf kv).toNat)
      case atStart => exact ⟨a, by omega, by omega, rfl, by rw [Nat.sub_self]; simpa using HROW.out, HG.out⟩
      case round =>
        obtain ⟨k, hk1, hk2, rfl, hr, hg⟩ := hrel
        have hM := HM.out
        by_cases hki : k + 1 < i
        · obtain ⟨y, hy⟩ : ∃ y, B1[k - a]? = some y := ⟨_, List.getElem?_eq_getElem (by have := HL1.out; omega)⟩
          rw [drop_cons hy, show k - a + 1 = k + 1 - a by omega] at hr
          obtain ⟨P, hP⟩ : ∃ P, X ++ B1.take (k - a) = P := ⟨_, rfl⟩
          obtain ⟨R, hR⟩ : ∃ R, B1.drop (k + 1 - a) ++ (B2 ++ Y) = R := ⟨_, rfl⟩
          have hPl : P.length = k := by rw [← hP, List.length_append, List.length_take]; have := HA.out; have := HL1.out; omega
          have e2 : P ++ y :: x :: R = X ++ B1.take (k + 1 - a) ++ x :: (B1.drop (k + 1 - a) ++ (B2 ++ Y)) := by
            rw [← hP, ← hR, show k + 1 - a = k - a + 1 by omega, take_snocZ hy]; simp
          rw [hP, List.cons_append, hR] at hr
          have hck := hPl ▸ (zget_pair P R x y).1
          have hck1 := hPl ▸ (zget_pair P R x y).2
          obtain ⟨k1, hk1'⟩ : ∃ k1, k1 = k + 1 := ⟨_, rfl⟩
          rw [← hk1'] at hck1
          have ck0 : wr.cell? ⟨g, k * 5, none⟩ = some (.int .i64 x.bd) := hr.cell encBid_len (i := 0) hck rfl; have ck1 : wr.cell? ⟨g, k * 5 + 1, none⟩ = some (.int .i64 x.num) := hr.cell encBid_len (i := 1) hck rfl; have ck2 : wr.cell? ⟨g, k * 5 + 2, none⟩ = some (.int .i64 x.p) := hr.cell encBid_len (i := 2) hck rfl; have ck3 : wr.cell? ⟨g, k * 5 + 3, none⟩ = some (.int .i64 x.a) := hr.cell encBid_len (i := 3) hck rfl; have ck4 : wr.cell? ⟨g, k * 5 + 4, none⟩ = some (.bool x.f) := hr.cell encBid_len (i := 4) hck rfl
          have cl0 : wr.cell? ⟨g, k1 * 5, none⟩ = some (.int .i64 y.bd) := hr.cell encBid_len (i := 0) hck1 rfl; have cl1 : wr.cell? ⟨g, k1 * 5 + 1, none⟩ = some (.int .i64 y.num) := hr.cell encBid_len (i := 1) hck1 rfl; have cl2 : wr.cell? ⟨g, k1 * 5 + 2, none⟩ = some (.int .i64 y.p) := hr.cell encBid_len (i := 2) hck1 rfl; have cl3 : wr.cell? ⟨g, k1 * 5 + 3, none⟩ = some (.int .i64 y.a) := hr.cell encBid_len (i := 3) hck1 rfl; have cl4 : wr.cell? ⟨g, k1 * 5 + 4, none⟩ = some (.bool y.f) := hr.cell encBid_len (i := 4) hck1 rfl
          have fr := fun o => hr.fro o
          clear hck hck1
          have z1 : (k : Int) + 1 < n := by omega
          have z0 : (k : Int) < n := by omega
          have q1 : (0 : Int) ≤ (k : Int) + 1 := by omega
          have t1 : ((k : Int) + 1).toNat = k + 1 := by omega
          have v1 : IntKind.i64.wrap ((k : Int) + 1) = (k : Int) + 1 := by rw [IntKind.wrap_i64]; omega
          have w1 : (k : Int) < (i : Int) - 1 := by omega
          have HE := Lib.hid e2
          have HPL := Lib.hid hPl
          have HROW2 := Lib.hid hr
          have HG2 := Lib.hid hg
          clear hy e2 hP hR hPl hr hg hM
          rw [← hk1'] at t1
          have e1' : (k : Int) + 1 = (k1 : Int) := by omega
          have z1' : (k1 : Int) < n := by omega
          have e3' : (k1 : Int) - 1 = (k : Int) := by omega
          have e4' : k1 - 1 = k := by omega
          clear z1 q1
          have hne : k ≠ k1 := by omega
          have HK1 := Lib.hid hk1'
          clear hk1'
          go_wp2_with fail
          go_region
          all_goals go_wp2
          go_roundw
          case rel =>
            have hx := HROW2.out.swap encBid_len (i := k) (j := k1) (by simp; have := HPL.out; omega) (by simp; have := HPL.out; have := HK1.out; omega) y x 1
            rw [HK1.out] at hx
            rw [show (((P ++ x :: y :: R).set k y).set (k + 1) x) = P ++ y :: x :: R by rw [← HPL.out]; exact zset_pair' P R x y y x] at hx
            rw [← HK1.out] at hx
            exact ⟨k + 1, by omega, by omega, by go_num, by rw [← HE.out]; exact hx.1, ztrans HG2.out hx.2⟩
          case measure => simp [intOf]; omega
        · have w1 : ¬ (k : Int) < (i : Int) - 1 := by omega
          have hfin2 : X ++ B1.take (k - a) ++ x :: (B1.drop (k - a) ++ (B2 ++ Y)) = X ++ mrg (ltz cf) [x] B ++ Y := by
            rw [HF.out, List.take_of_length_le (by have := HL1.out; omega), List.drop_of_length_le (by have := HL1.out; omega)]; simp
          rw [hfin2] at hr
          have HR2 := Lib.hid hr
          have HG2 := Lib.hid hg
          clear hfin2 hr hg hM
          go_wp2
          (try simp only [Exit.inBlock, Exit.then])
          refine bodyPost_ret (results_none rfl _ _ _) rfl ?_
          exact ⟨rfl, by simpa using HR2.out, HG2.out⟩
set_option maxHeartbeats 4000000 in
set_option maxRecDepth 100000 in
theorem symMBid_last (F : Nat) (cb : Array Value) (cf : Bid → Bid → Int) (Q : Bid → Prop) (base g n cap a m b : Nat) (x : Bid) (X A Y : List Bid) (w : World)
    (eg : ∀ args w, (callFunc F args).run Try.prog w = .ok (.enter F args) w) (hcmp : CmpBid F cb g cf Q w) (hW : Wk (ltz cf)) (hQx : Q x) (hQ : ∀ y ∈ A, Q y) (hA : Asc (ltz cf) A) (hA2 : A.length ≠ 1) (hA0 : 0 < A.length)
    (hrow : RowBid base g n cap (X ++ A ++ x :: Y) w) (ha : X.length = a) (hm : a + A.length = m) (hb : b = m + 1) (hn : n ≤ 1000000000) :
    Calls Try.prog 72 #[.slice (some ⟨g, 0, none⟩) n cap, .int .i64 a, .int .i64 m, .int .i64 b, .func (.func F) #[] cb] w fun e w' => e = .returned (.tuple #[]) ∧ RowBid base g n cap (X ++ mrg (ltz cf) A [x] ++ Y) w' ∧ w.grownBy w' (some g) := by
  have hlen : X.length + A.length + Y.length + 1 = n := by have := hrow.2; simp at this; omega
  have hbn : b ≤ n := by omega
  have ham : a < m := by omega
  have e0 : (((m : Int) - a) == 1) = false := by simp; omega
  have e1 : (b : Int) - m = 1 := by omega
  have HC := Lib.hid hcmp
  have HQ := Lib.hid hQ
  have HA := Lib.hid ha
  have HM := Lib.hid hm
  have HB := Lib.hid hb
  have HW := Lib.hid hW
  have HS := Lib.hid hA
  have HR := Lib.hid hrow
  have hmz : (m : Int) < n := by omega
  have hmb : m < b := by omega
  clear hcmp hQ hW hA hrow hlen ha hm hb hA2 hA0
  go_enter Try.func72, Try.ntmps72
  go_wp2
  go_loopw [14, 15] (fun iv jv wr => ∃ i j : Nat, a ≤ i ∧ i ≤ j ∧ j ≤ m ∧ iv = .int .i64 i ∧ jv = .int .i64 j ∧ (i - a = 0 ∨ ∃ y, A[i - a - 1]? = some y ∧ ltz cf x y = false) ∧ (A.length ≤ j - a ∨ ∃ y, A[j - a]? = some y ∧ ltz cf x y = true) ∧ RowBid base g n cap (X ++ A ++ x :: Y) wr ∧ w.grownBy wr (some g)) (fun iv jv _ => (intOf jv).toNat - (intOf iv).toNat)
  case atStart => exact ⟨a, m, by omega, by omega, by omega, rfl, rfl, .inl (by omega), .inl (by have := HM.out; omega), HR.out, zrefl _ _⟩
  case round =>
    obtain ⟨i, j, hmi, hij, hjb, rfl, rfl, hlo, hhi, hr, hg⟩ := hrel
    clear e1
    by_cases hlt : i < j
    · obtain ⟨k, hk, hk1, hk2⟩ := halfZ i j hlt
      obtain ⟨y, hy⟩ : ∃ y, A[k - a]? = some y := ⟨_, List.getElem?_eq_getElem (by have := HM.out; omega)⟩
      have hcx := zget_at (X ++ A) Y x (j := m) (by have := HM.out; have := HA.out; simp; omega)
      have hcy : (X ++ A ++ x :: Y)[k]? = some y := by
        rw [List.getElem?_append_left (by have := HM.out; have := HA.out; simp; omega), List.getElem?_append_right (by have := HA.out; omega), HA.out]
        exact hy
      have cx0 : wr.cell? ⟨g, m * 5, none⟩ = some (.int .i64 x.bd) := hr.cell encBid_len (i := 0) hcx rfl; have cx1 : wr.cell? ⟨g, m * 5 + 1, none⟩ = some (.int .i64 x.num) := hr.cell encBid_len (i := 1) hcx rfl; have cx2 : wr.cell? ⟨g, m * 5 + 2, none⟩ = some (.int .i64 x.p) := hr.cell encBid_len (i := 2) hcx rfl; have cx3 : wr.cell? ⟨g, m * 5 + 3, none⟩ = some (.int .i64 x.a) := hr.cell encBid_len (i := 3) hcx rfl; have cx4 : wr.cell? ⟨g, m * 5 + 4, none⟩ = some (.bool x.f) := hr.cell encBid_len (i := 4) hcx rfl
      have cy0 : wr.cell? ⟨g, k * 5, none⟩ = some (.int .i64 y.bd) := hr.cell encBid_len (i := 0) hcy rfl; have cy1 : wr.cell? ⟨g, k * 5 + 1, none⟩ = some (.int .i64 y.num) := hr.cell encBid_len (i := 1) hcy rfl; have cy2 : wr.cell? ⟨g, k * 5 + 2, none⟩ = some (.int .i64 y.p) := hr.cell encBid_len (i := 2) hcy rfl; have cy3 : wr.cell? ⟨g, k * 5 + 3, none⟩ = some (.int .i64 y.a) := hr.cell encBid_len (i := 3) hcy rfl; have cy4 : wr.cell? ⟨g, k * 5 + 4, none⟩ = some (.bool y.f) := hr.cell encBid_len (i := 4) hcy rfl
      have hc := fun W (hW : Below wr.heap.size wr W) => HC.out W (ztrans hg (zbelow hW _)) x y hQx (HQ.out y (List.mem_of_getElem? hy))
      obtain ⟨c, hcf⟩ : ∃ c, cf x y = c := ⟨_, rfl⟩
      simp only [hcf, vBid] at hc
      have HCC := Lib.hid hc
      have cx0u := up_cell cx0; have cx1u := up_cell cx1; have cx2u := up_cell cx2; have cx3u := up_cell cx3; have cx4u := up_cell cx4
      have cy0u := up_cell cy0; have cy1u := up_cell cy1; have cy2u := up_cell cy2; have cy3u := up_cell cy3; have cy4u := up_cell cy4
      clear hc hcx hcy
      have hkz : (k : Int) < n := by omega
      have HCF := Lib.hid hcf
      have HLO := Lib.hid hlo
      have HHI := Lib.hid hhi
      have HY := Lib.hid hy
      have HROW := Lib.hid hr
      have HG := Lib.hid hg
      clear hcf hlo hhi hy hr hg
      rcases (show decide (c < 0) = true ∨ decide (c < 0) = false by cases decide (c < 0) <;> simp) with hneg | hneg
      all_goals
        go_upto_region 17 with fail
        (refine wp_region_up (by kernel_rfl) (by kernel_rfl) ?_); (repeat (go_big_quiet_step (((go_at_fn F; refine (HCC.out _ (Subtype.property _)).mono ?_; exact fun _ _ hh => ⟨hh.1, ⟨_, bup (Subtype.property _) hh.2⟩, rfl⟩))))); (refine wpQuiet_nil ?_); (rintro w2 ⟨⟨_, hb2⟩, rfl⟩)
        go_wp2
        go_roundw
        case rel => first
          | exact ⟨k + 1, j, by omega, by omega, by omega, by go_num, rfl, .inr ⟨y, by rw [show k + 1 - a - 1 = k - a by omega]; exact HY.out, by unfold ltz; rw [HCF.out]; first | exact hneg | exact decide_eq_false (by omega)⟩, HHI.out, HROW.out.below hb2, ztrans HG.out (zbelow hb2 _)⟩
          | exact ⟨i, k, by omega, by omega, by omega, rfl, rfl, HLO.out, .inr ⟨y, HY.out, by unfold ltz; rw [HCF.out]; first | exact hneg | exact decide_eq_true hneg⟩, HROW.out.below hb2, ztrans HG.out (zbelow hb2 _)⟩
        case measure => simp [intOf]; omega
    · obtain rfl : i = j := by omega
      have h1 := asc_loqZ HW.out HS.out hlo
      have h2 := asc_hiqZ HW.out HS.out hhi
      obtain ⟨A1, hA1⟩ : ∃ A1, A.take (i - a) = A1 := ⟨_, rfl⟩
      obtain ⟨A2, hA2⟩ : ∃ A2, A.drop (i - a) = A2 := ⟨_, rfl⟩
      have hAA : A = A1 ++ A2 := by rw [← hA1, ← hA2, List.take_append_drop]
      have hl1 : A1.length = i - a := by rw [← hA1, List.length_take]; have := HM.out; omega
      have hl2 : A2.length = m - i := by rw [← hA2, List.length_drop]; have := HM.out; omega
      rw [hA1] at h1
      rw [hA2] at h2
      have hfin : X ++ mrg (ltz cf) A [x] ++ Y = X ++ A1 ++ x :: (A2 ++ Y) := by rw [hAA, mrg_put_backZ h1 h2]; simp
      rw [hAA] at hr
      have HF := Lib.hid hfin
      have HL1 := Lib.hid hl1
      have HL2 := Lib.hid hl2
      have HROW := Lib.hid hr
      have HG := Lib.hid hg
      clear h1 h2 hA1 hA2 hAA hl1 hl2 hfin hr hg hlo hhi
      go_wp2
      go_loopw [17] (fun kv wr => ∃ k : Nat, i ≤ k ∧ k ≤ m ∧ kv = .int .i64 k ∧ RowBid base g n cap (X ++ A1 ++ A2.take (k - i) ++ x :: (A2.drop (k - i) ++ Y)) wr ∧ w.grownBy wr (some g)) (fun kv _ => (intOf kv).toNat)
      case atStart => exact ⟨m, by omega, by omega, rfl, by rw [List.take_of_length_le (by have := HL2.out; omega), List.drop_of_length_le (by have := HL2.out; omega)]; simpa using HROW.out, HG.out⟩
      case round =>
        obtain ⟨k, hk1, hk2, rfl, hr, hg⟩ := hrel
        by_cases hki : i < k
        · obtain ⟨kp, rfl⟩ : ∃ kp, k = kp + 1 := ⟨k - 1, by omega⟩
          obtain ⟨y, hy⟩ : ∃ y, A2[kp - i]? = some y := ⟨_, List.getElem?_eq_getElem (by have := HL2.out; omega)⟩
          obtain ⟨P, hP⟩ : ∃ P, X ++ A1 ++ A2.take (kp - i) = P := ⟨_, rfl⟩
          obtain ⟨R, hR⟩ : ∃ R, A2.drop (kp - i + 1) ++ Y = R := ⟨_, rfl⟩
          have hPl : P.length = kp := by rw [← hP, List.length_append, List.length_append, List.length_take]; have := HA.out; have := HL1.out; have := HL2.out; omega
          have e2 : P ++ x :: y :: R = X ++ A1 ++ A2.take (kp - i) ++ x :: (A2.drop (kp - i) ++ Y) := by
            rw [← hP, ← hR, drop_cons hy]; simp
          have e3 : X ++ A1 ++ A2.take (kp + 1 - i) ++ x :: (A2.drop (kp + 1 - i) ++ Y) = P ++ y :: x :: R := by
            rw [← hP, ← hR, show kp + 1 - i = kp - i + 1 by omega, take_snocZ hy]; simp
          rw [e3] at hr
          have hck := hPl ▸ (zget_pair P R y x).1
          have hck1 := hPl ▸ (zget_pair P R y x).2
          obtain ⟨k1, hk1'⟩ : ∃ k1, k1 = kp + 1 := ⟨_, rfl⟩
          rw [← hk1'] at hck1
          have ck0 : wr.cell? ⟨g, kp * 5, none⟩ = some (.int .i64 y.bd) := hr.cell encBid_len (i := 0) hck rfl; have ck1 : wr.cell? ⟨g, kp * 5 + 1, none⟩ = some (.int .i64 y.num) := hr.cell encBid_len (i := 1) hck rfl; have ck2 : wr.cell? ⟨g, kp * 5 + 2, none⟩ = some (.int .i64 y.p) := hr.cell encBid_len (i := 2) hck rfl; have ck3 : wr.cell? ⟨g, kp * 5 + 3, none⟩ = some (.int .i64 y.a) := hr.cell encBid_len (i := 3) hck rfl; have ck4 : wr.cell? ⟨g, kp * 5 + 4, none⟩ = some (.bool y.f) := hr.cell encBid_len (i := 4) hck rfl
          have cl0 : wr.cell? ⟨g, k1 * 5, none⟩ = some (.int .i64 x.bd) := hr.cell encBid_len (i := 0) hck1 rfl; have cl1 : wr.cell? ⟨g, k1 * 5 + 1, none⟩ = some (.int .i64 x.num) := hr.cell encBid_len (i := 1) hck1 rfl; have cl2 : wr.cell? ⟨g, k1 * 5 + 2, none⟩ = some (.int .i64 x.p) := hr.cell encBid_len (i := 2) hck1 rfl; have cl3 : wr.cell? ⟨g, k1 * 5 + 3, none⟩ = some (.int .i64 x.a) := hr.cell encBid_len (i := 3) hck1 rfl; have cl4 : wr.cell? ⟨g, k1 * 5 + 4, none⟩ = some (.bool x.f) := hr.cell encBid_len (i := 4) hck1 rfl
          have fr := fun o => hr.fro o
          clear hck hck1
          have z1 : (kp : Int) + 1 < n := by omega
          have z0 : (kp : Int) < n := by omega
          have q1 : (0 : Int) ≤ (kp : Int) + 1 := by omega
          have t1 : ((kp : Int) + 1).toNat = kp + 1 := by omega
          have v1 : IntKind.i64.wrap (kp : Int) = (kp : Int) := by rw [IntKind.wrap_i64]; omega
          have w1 : (i : Int) < (kp : Int) + 1 := by omega
          have HE := Lib.hid e2
          have HPL := Lib.hid hPl
          have HROW2 := Lib.hid hr
          have HG2 := Lib.hid hg
          clear hy e2 e3 hP hR hPl hr hg
          rw [← hk1'] at t1
          have e1' : (kp : Int) + 1 = (k1 : Int) := by omega
          have z1' : (k1 : Int) < n := by omega
          have e3' : (k1 : Int) - 1 = (kp : Int) := by omega
          have e4' : k1 - 1 = kp := by omega
          clear z1 q1
          have hne : k1 ≠ kp := by omega
          have HK1 := Lib.hid hk1'
          clear hk1'
          go_wp2_with fail
          go_region
          all_goals go_wp2
          go_roundw
          case rel =>
            have hx := HROW2.out.nbr encBid_len 1 HPL.out HK1.out
            exact ⟨kp, by omega, by omega, by first | rfl | go_num, by rw [← HE.out]; exact hx.1, ztrans HG2.out hx.2⟩
          case measure => simp [intOf]
        · have w1 : ¬ (i : Int) < (k : Int) := by omega
          have hfin2 : X ++ A1 ++ A2.take (k - i) ++ x :: (A2.drop (k - i) ++ Y) = X ++ mrg (ltz cf) A [x] ++ Y := by
            rw [HF.out, show k - i = 0 by omega]; simp
          rw [hfin2] at hr
          have HR2 := Lib.hid hr
          have HG2 := Lib.hid hg
          clear hfin2 hr hg
          go_wp2
          (try simp only [Exit.inBlock, Exit.then])
          refine bodyPost_ret (results_none rfl _ _ _) rfl ?_
          exact ⟨rfl, by simpa using HR2.out, HG2.out⟩
end Go.Proofs.Ytenbbmmbpjjjpaa
namespace Go.Proofs.Ytenbbmmbpjjjpaa
open Go.RowKit
set_option linter.unusedVariables false
set_option linter.unusedSimpArgs false
/-- what symMergeCmpFunc does with parts that have at most N elements together -/
def SymMBid (F : Nat) (cb : Array Value) (cf : Bid → Bid → Int) (Q : Bid → Prop) (base g n cap N : Nat) : Prop :=
    ∀ (a m b : Nat) (X A B Y : List Bid) (w : World), b - a ≤ N → CmpBid F cb g cf Q w → (∀ y ∈ A, Q y) → (∀ y ∈ B, Q y) → Asc (ltz cf) A → Asc (ltz cf) B → 0 < A.length → 0 < B.length →
    RowBid base g n cap (X ++ A ++ B ++ Y) w → X.length = a → a + A.length = m → m + B.length = b →
    Calls Try.prog 72 #[.slice (some ⟨g, 0, none⟩) n cap, .int .i64 a, .int .i64 m, .int .i64 b, .func (.func F) #[] cb] w fun e w' => e = .returned (.tuple #[]) ∧ RowBid base g n cap (X ++ mrg (ltz cf) A B ++ Y) w' ∧ w.grownBy w' (some g)
set_option maxHeartbeats 8000000 in
set_option maxRecDepth 100000 in
theorem symMBid_step (F : Nat) (cb : Array Value) (cf : Bid → Bid → Int) (Q : Bid → Prop) (base g n cap N : Nat) (eg : ∀ args w, (callFunc F args).run Try.prog w = .ok (.enter F args) w) (hW : Wk (ltz cf)) (hn : n ≤ 1000000000) (ih : SymMBid F cb cf Q base g n cap N)
    (a m b : Nat) (X A B Y : List Bid) (w : World) (hN : b - a ≤ N + 1) (hcmp : CmpBid F cb g cf Q w) (hQA : ∀ y ∈ A, Q y) (hQB : ∀ y ∈ B, Q y) (hA : Asc (ltz cf) A) (hB : Asc (ltz cf) B) (hA0 : 0 < A.length) (hB0 : 0 < B.length)
    (hrow : RowBid base g n cap (X ++ A ++ B ++ Y) w) (ha : X.length = a) (hm : a + A.length = m) (hb : m + B.length = b) :
    Calls Try.prog 72 #[.slice (some ⟨g, 0, none⟩) n cap, .int .i64 a, .int .i64 m, .int .i64 b, .func (.func F) #[] cb] w fun e w' => e = .returned (.tuple #[]) ∧ RowBid base g n cap (X ++ mrg (ltz cf) A B ++ Y) w' ∧ w.grownBy w' (some g) := by
    by_cases hA1 : A.length = 1
    · obtain ⟨x, rfl⟩ := List.length_eq_one_iff.1 hA1
      exact symMBid_one F cb cf Q base g n cap a m b x X B Y w eg hcmp hW (hQA x (by simp)) hQB hB (by simpa using hrow) ha (by simp at hm; omega) hb hn
    by_cases hB1 : B.length = 1
    · obtain ⟨x, rfl⟩ := List.length_eq_one_iff.1 hB1
      exact symMBid_last F cb cf Q base g n cap a m b x X A Y w eg hcmp hW (hQB x (by simp)) hQA hA hA1 hA0 (by simpa using hrow) ha hm (by simp at hb; omega) hn
    have hlen : X.length + A.length + B.length + Y.length = n := by have := hrow.2; simp at this; omega
    have hbn : b ≤ n := by omega
    have ham : a + 2 ≤ m := by omega
    have hmb : m + 2 ≤ b := by omega
    have e0 : (((m : Int) - a) == 1) = false := by simp; omega
    have e1 : (((b : Int) - m) == 1) = false := by simp; omega
    obtain ⟨mid, hmid, hmd1, hmd2⟩ : ∃ k : Nat, ((a : Int) + (b : Int)) / 2 = (k : Int) ∧ 2 * k ≤ a + b ∧ a + b ≤ 2 * k + 1 := ⟨(a + b) / 2, by omega, by omega, by omega⟩
    have HW := Lib.hid hW
    have HC := Lib.hid hcmp
    have HIH := Lib.hid ih
    have HQA := Lib.hid hQA
    have HQB := Lib.hid hQB
    have HA := Lib.hid ha
    have HM := Lib.hid hm
    have HB := Lib.hid hb
    have HSA := Lib.hid hA
    have HSB := Lib.hid hB
    have HR := Lib.hid hrow
    clear hcmp ih hW hQA hQB hA hB hrow hlen ha hm hb hA0 hB0 hA1 hB1
    obtain ⟨lo, hi, hlo1, hlo2, hhi1, hhi2, hside, hsl, hsh⟩ : ∃ lo hi : Nat, a ≤ lo ∧ lo ≤ hi ∧ hi ≤ m ∧ hi ≤ mid ∧ (mid + m ≤ lo + b ∧ mid + m - lo ≤ b) ∧ (if mid < m then (mid : Int) + m - b = lo else a = lo) ∧ (if mid < m then mid = hi else m = hi) := by
      by_cases h : mid < m
      · refine ⟨mid + m - b, mid, by omega, by omega, by omega, by omega, by omega, ?_, ?_⟩
        · rw [if_pos h]; omega
        · rw [if_pos h]
      · refine ⟨a, m, by omega, by omega, by omega, by omega, by omega, ?_, ?_⟩
        · rw [if_neg h]
        · rw [if_neg h]
    have hcase : (lo = a ∧ hi = m) ∨ (mid + m = lo + b ∧ hi = mid) := by
      by_cases h : mid < m
      · rw [if_pos h] at hsl hsh; omega
      · rw [if_neg h] at hsl hsh; omega
    have HCASE := Lib.hid hcase
    have HSL := Lib.hid hsl
    have HSH := Lib.hid hsh
    obtain ⟨nn, hnn⟩ : ∃ nn : Nat, nn = mid + m := ⟨_, rfl⟩
    obtain ⟨pp, hpp⟩ : ∃ pp : Nat, pp + 1 = nn := ⟨nn - 1, by omega⟩
    have en : (mid : Int) + m = nn := by omega
    have ep : (nn : Int) - 1 = pp := by omega
    have HNN := Lib.hid hnn
    have HPP := Lib.hid hpp
    clear hcase hsl hsh hnn hpp
    go_enter Try.func72, Try.ntmps72
    go_upto_if 140 with fail
    go_cut [20, 21] from 138 to 146 (fun s20 s21 wx => s20 = .int .i64 lo ∧ s21 = .int .i64 hi ∧ wx = w)
    case first =>
      by_cases hmm : mid < m
      · have hmz : (mid : Int) < (m : Int) := by omega
        have h1 := HSL.out
        have h2 := HSH.out
        rw [if_pos hmm] at h1 h2
        have H1 := Lib.hid (show (nn : Int) - b = lo by have := HNN.out; omega)
        have H2 := Lib.hid h2
        clear h1 h2
        go_wp2
        go_meet
        rw [H1.out, H2.out]
        exact ⟨rfl, rfl, rfl⟩
      · have hmz : ¬ (mid : Int) < (m : Int) := by omega
        have h1 := HSL.out
        have h2 := HSH.out
        rw [if_neg hmm] at h1 h2
        have H1 := Lib.hid h1
        have H2 := Lib.hid h2
        clear h1 h2
        go_wp2
        go_meet
        rw [H1.out, H2.out]
        exact ⟨rfl, rfl, rfl⟩
    case rest =>
      obtain ⟨rfl, rfl, hwc⟩ := hcut
      have hwc := hwc.symm
      subst hwc
      have hlz : (lo : Int) ≤ n := by omega
      go_wp2
      go_loopw [20, 21] (fun sv rv wr => ∃ s r : Nat, lo ≤ s ∧ s ≤ r ∧ r ≤ hi ∧ sv = .int .i64 s ∧ rv = .int .i64 r ∧ (s = lo ∨ ∃ x y, A[s - a - 1]? = some x ∧ B[mid - s]? = some y ∧ ltz cf y x = false) ∧ (r = hi ∨ ∃ x y, A[r - a]? = some x ∧ B[mid - r - 1]? = some y ∧ ltz cf y x = true) ∧ RowBid base g n cap (X ++ A ++ B ++ Y) wr ∧ w.grownBy wr (some g)) (fun sv rv _ => (intOf rv).toNat - (intOf sv).toNat)
      case atStart => exact ⟨lo, hi, Nat.le_refl _, hlo2, Nat.le_refl _, rfl, rfl, .inl rfl, .inl rfl, HR.out, zrefl _ _⟩
      case round =>
        obtain ⟨s, r, hs1, hs2, hs3, rfl, rfl, hlo, hhi, hr, hg⟩ := hrel
        have hXA := HA.out
        have hAm := HM.out
        have hBb := HB.out
        have hnn := HNN.out
        have hpp := HPP.out
        by_cases hlt : s < r
        · obtain ⟨k, hk, hk1, hk2⟩ := halfZ s r hlt
          obtain ⟨x, hx⟩ : ∃ x, A[k - a]? = some x := ⟨_, List.getElem?_eq_getElem (by omega)⟩
          obtain ⟨y, hy⟩ : ∃ y, B[mid - k - 1]? = some y := ⟨_, List.getElem?_eq_getElem (by omega)⟩
          obtain ⟨q, hq⟩ : ∃ q, q = pp - k := ⟨_, rfl⟩
          have eq1 : (pp : Int) - k = q := by omega
          have hcx : (X ++ A ++ B ++ Y)[k]? = some x := by
            rw [List.append_assoc, List.getElem?_append_left (by simp; omega), List.getElem?_append_right (by omega), hXA]
            exact hx
          have hcy : (X ++ A ++ B ++ Y)[q]? = some y := by
            rw [List.getElem?_append_left (by simp; omega), List.getElem?_append_right (by simp; omega), List.length_append, show q - (X.length + A.length) = mid - k - 1 by omega]
            exact hy
          have cx0 : wr.cell? ⟨g, k * 5, none⟩ = some (.int .i64 x.bd) := hr.cell encBid_len (i := 0) hcx rfl; have cx1 : wr.cell? ⟨g, k * 5 + 1, none⟩ = some (.int .i64 x.num) := hr.cell encBid_len (i := 1) hcx rfl; have cx2 : wr.cell? ⟨g, k * 5 + 2, none⟩ = some (.int .i64 x.p) := hr.cell encBid_len (i := 2) hcx rfl; have cx3 : wr.cell? ⟨g, k * 5 + 3, none⟩ = some (.int .i64 x.a) := hr.cell encBid_len (i := 3) hcx rfl; have cx4 : wr.cell? ⟨g, k * 5 + 4, none⟩ = some (.bool x.f) := hr.cell encBid_len (i := 4) hcx rfl
          have cy0 : wr.cell? ⟨g, q * 5, none⟩ = some (.int .i64 y.bd) := hr.cell encBid_len (i := 0) hcy rfl; have cy1 : wr.cell? ⟨g, q * 5 + 1, none⟩ = some (.int .i64 y.num) := hr.cell encBid_len (i := 1) hcy rfl; have cy2 : wr.cell? ⟨g, q * 5 + 2, none⟩ = some (.int .i64 y.p) := hr.cell encBid_len (i := 2) hcy rfl; have cy3 : wr.cell? ⟨g, q * 5 + 3, none⟩ = some (.int .i64 y.a) := hr.cell encBid_len (i := 3) hcy rfl; have cy4 : wr.cell? ⟨g, q * 5 + 4, none⟩ = some (.bool y.f) := hr.cell encBid_len (i := 4) hcy rfl
          have hc := fun W (hW : Below wr.heap.size wr W) => HC.out W (ztrans hg (zbelow hW _)) y x (HQB.out y (List.mem_of_getElem? hy)) (HQA.out x (List.mem_of_getElem? hx))
          obtain ⟨c, hcf⟩ : ∃ c, cf y x = c := ⟨_, rfl⟩
          simp only [hcf, vBid] at hc
          have HCC := Lib.hid hc
          have cx0u := up_cell cx0; have cx1u := up_cell cx1; have cx2u := up_cell cx2; have cx3u := up_cell cx3; have cx4u := up_cell cx4
          have cy0u := up_cell cy0; have cy1u := up_cell cy1; have cy2u := up_cell cy2; have cy3u := up_cell cy3; have cy4u := up_cell cy4
          clear hc hcx hcy
          have hkz : (k : Int) < n := by omega
          have hqz : (q : Int) < n := by omega
          have HCF := Lib.hid hcf
          have HLO := Lib.hid hlo
          have HHI := Lib.hid hhi
          have HX := Lib.hid hx
          have HY := Lib.hid hy
          have HROW := Lib.hid hr
          have HG := Lib.hid hg
          clear hcf hlo hhi hx hy hr hg hXA hAm hBb hnn hpp hq
          rcases (show decide (c < 0) = true ∨ decide (c < 0) = false by cases decide (c < 0) <;> simp) with hneg | hneg
          all_goals
            go_upto_region 35 with fail
            (refine wp_region_up (by kernel_rfl) (by kernel_rfl) ?_); (repeat (go_big_quiet_step (((go_at_fn F; refine (HCC.out _ (Subtype.property _)).mono ?_; exact fun _ _ hh => ⟨hh.1, ⟨_, bup (Subtype.property _) hh.2⟩, rfl⟩))))); (refine wpQuiet_nil ?_); (rintro w2 ⟨⟨_, hb2⟩, rfl⟩)
            go_wp2
            go_roundw
            case rel => first
              | exact ⟨k + 1, r, by omega, by omega, by omega, by go_num, rfl, .inr ⟨x, y, by rw [show k + 1 - a - 1 = k - a by omega]; exact HX.out, by rw [show mid - (k + 1) = mid - k - 1 by omega]; exact HY.out, by unfold ltz; rw [HCF.out]; exact hneg⟩, HHI.out, HROW.out.below hb2, ztrans HG.out (zbelow hb2 _)⟩
              | exact ⟨s, k, by omega, by omega, by omega, rfl, rfl, HLO.out, .inr ⟨x, y, HX.out, HY.out, by unfold ltz; rw [HCF.out]; exact hneg⟩, HROW.out.below hb2, ztrans HG.out (zbelow hb2 _)⟩
            case measure => simp [intOf]; omega
        · obtain rfl : s = r := by omega
          obtain ⟨q, hq⟩ : ∃ q, q = nn - s := ⟨_, rfl⟩
          have eq1 : (nn : Int) - s = q := by omega
          have hmq : m ≤ q := by omega
          have hqb : q ≤ b := by omega
          have hmidq : mid ≤ q := by omega
          have hsm : s ≤ m := by omega
          have hsmid : s ≤ mid := by omega
          have hcut := mrg_cutZ HW.out HSA.out HSB.out (i := s - a) (j := mid - s)
            (by
              rcases HCASE.out with h | h
              · rcases hlo with h' | h'
                · exact .inl (by omega)
                · exact .inr (.inr h')
              · rcases hlo with h' | h'
                · exact .inr (.inl (by omega))
                · exact .inr (.inr h'))
            (by
              rcases HCASE.out with h | h
              · rcases hhi with h' | h'
                · exact .inl (by omega)
                · exact .inr (.inr h')
              · rcases hhi with h' | h'
                · exact .inr (.inl (by omega))
                · exact .inr (.inr h'))
          obtain ⟨A1, hA1⟩ : ∃ A1, A.take (s - a) = A1 := ⟨_, rfl⟩
          obtain ⟨A2, hA2⟩ : ∃ A2, A.drop (s - a) = A2 := ⟨_, rfl⟩
          obtain ⟨B1, hB1⟩ : ∃ B1, B.take (mid - s) = B1 := ⟨_, rfl⟩
          obtain ⟨B2, hB2⟩ : ∃ B2, B.drop (mid - s) = B2 := ⟨_, rfl⟩
          have hAA : A = A1 ++ A2 := by rw [← hA1, ← hA2, List.take_append_drop]
          have hBB : B = B1 ++ B2 := by rw [← hB1, ← hB2, List.take_append_drop]
          have la1 : A1.length = s - a := by rw [← hA1, List.length_take]; omega
          have la2 : A2.length = m - s := by rw [← hA2, List.length_drop]; omega
          have lb1 : B1.length = mid - s := by rw [← hB1, List.length_take]; omega
          have lb2 : B2.length = b - q := by rw [← hB2, List.length_drop]; omega
          rw [hA1, hA2, hB1, hB2] at hcut
          have sA := HSA.out
          have sB := HSB.out
          have qA := HQA.out
          have qB := HQB.out
          rw [hAA] at sA qA hr
          rw [hBB] at sB qB hr
          have hQ := Lib.hid hq
          have HCUT := Lib.hid hcut
          have LA1 := Lib.hid la1
          have LA2 := Lib.hid la2
          have LB1 := Lib.hid lb1
          have LB2 := Lib.hid lb2
          have SA := Lib.hid (asc_append.1 sA)
          have SB := Lib.hid (asc_append.1 sB)
          have QA := Lib.hid qA
          have QB := Lib.hid qB
          have HROW := Lib.hid hr
          have HG := Lib.hid hg
          clear hlo hhi hr hg hXA hAm hBb hnn hpp hq hcut hA1 hA2 hB1 hB2 hAA hBB la1 la2 lb1 lb2 sA sB qA qB
          go_upto_region 39 with fail
          go_cut [185] from 178 to 185 (fun s185 wx => s185 = .bool (decide (s < m ∧ m < q)) ∧ wx = wr)
          case first =>
            by_cases h1 : s < m
            · by_cases h2 : m < q
              all_goals
                go_wp2
                go_meet
                exact ⟨by simp [h1, h2], rfl⟩
            · go_wp2
              go_meet
              exact ⟨by simp [h1], rfl⟩
          case rest =>
            obtain ⟨rfl, hwc⟩ := hcut
            have hwc := hwc.symm
            subst hwc
            go_upto_if 185 with fail
            go_cut [] from 178 to 191 (fun wx => RowBid base g n cap (X ++ A1 ++ B1 ++ A2 ++ B2 ++ Y) wx ∧ w.grownBy wx (some g))
            case first =>
              by_cases h1 : s < m ∧ m < q
              · have hd : decide (s < m ∧ m < q) = true := by simpa using h1
                have hc := fun W (hW : W = wr) => rotBid_any (.func (.func F) #[] cb) base g n cap s m q (X ++ A1) A2 B1 (B2 ++ Y) W (by rw [hW]; simpa using HROW.out) (by have := HA.out; have := LA1.out; simp; omega) (by have := LA2.out; omega) (by have := LB1.out; have := HNN.out; have := hQ.out; omega) (by have := LA2.out; omega) (by have := LB1.out; have := HNN.out; have := hQ.out; omega) hn
                go_wp2_with (go_at_call 88; refine (hc _ rfl).mono ?_; rintro e w2 ⟨rfl, hr2, hg2⟩)
                go_meet
                exact ⟨by simpa using hr2, ztrans HG.out hg2⟩
              · have hd : decide (s < m ∧ m < q) = false := by simpa using h1
                have hdis : A2 = [] ∨ B1 = [] := by
                  rcases Nat.lt_or_ge s m with h | h
                  · exact .inr (List.eq_nil_of_length_eq_zero (by have := LB1.out; have := HNN.out; have := hQ.out; omega))
                  · exact .inl (List.eq_nil_of_length_eq_zero (by have := LA2.out; omega))
                have HD := Lib.hid (show RowBid base g n cap (X ++ A1 ++ B1 ++ A2 ++ B2 ++ Y) wr by
                  have := HROW.out
                  rcases hdis with h | h <;> rw [h] at this ⊢ <;> simpa using this)
                clear hdis
                go_wp2
                go_meet
                exact ⟨HD.out, HG.out⟩
            case rest =>
              obtain ⟨hr1, hg1⟩ := hcut
              have HROW1 := Lib.hid hr1
              have HG1 := Lib.hid hg1
              clear hr1 hg1 HROW HG
              go_upto_region 41 with fail
              go_cut [199] from 192 to 199 (fun s199 wx => s199 = .bool (decide (a < s ∧ s < mid)) ∧ wx = wc)
              case first =>
                by_cases h1 : a < s
                · by_cases h2 : s < mid
                  all_goals
                    go_wp2
                    go_meet
                    exact ⟨by simp [h1, h2], rfl⟩
                · go_wp2
                  go_meet
                  exact ⟨by simp [h1], rfl⟩
              case rest =>
                obtain ⟨rfl, hwc⟩ := hcut
                rw [← hwc] at HROW1 HG1
                clear hwc
                go_upto_if 199 with fail
                go_cut [] from 192 to 205 (fun wx => RowBid base g n cap (X ++ mrg (ltz cf) A1 B1 ++ A2 ++ B2 ++ Y) wx ∧ w.grownBy wx (some g))
                case first =>
                  by_cases h1 : a < s ∧ s < mid
                  · have hd : decide (a < s ∧ s < mid) = true := by simpa using h1
                    have hc := fun W (hW : w.grownBy W (some g)) (hR : RowBid base g n cap (X ++ A1 ++ B1 ++ A2 ++ B2 ++ Y) W) => HIH.out a s mid X A1 B1 (A2 ++ B2 ++ Y) W (by omega) (HC.out.on hW) (fun y hy => QA.out y (List.mem_append_left _ hy)) (fun y hy => QB.out y (List.mem_append_left _ hy)) SA.out.1 SB.out.1 (by have := LA1.out; omega) (by have := LB1.out; omega) (by simpa using hR) HA.out (by have := LA1.out; omega) (by have := LB1.out; omega)
                    go_wp2_with (go_at_call 72; refine (hc _ HG1.out HROW1.out).mono ?_; rintro e w2 ⟨rfl, hr2, hg2⟩)
                    go_meet
                    exact ⟨by simpa using hr2, ztrans HG1.out hg2⟩
                  · have hd : decide (a < s ∧ s < mid) = false := by simpa using h1
                    have hdis : mrg (ltz cf) A1 B1 = A1 ++ B1 := mrg_disjZ (by
                      rcases Nat.lt_or_ge a s with h | h
                      · exact .inr (List.eq_nil_of_length_eq_zero (by have := LB1.out; omega))
                      · exact .inl (List.eq_nil_of_length_eq_zero (by have := LA1.out; omega)))
                    have HD := Lib.hid hdis
                    clear hdis
                    go_wp2
                    go_meet
                    exact ⟨by rw [HD.out]; simpa using HROW1.out, HG1.out⟩
                case rest =>
                  obtain ⟨hr1, hg1⟩ := hcut
                  have HROW2 := Lib.hid hr1
                  have HG2 := Lib.hid hg1
                  have HFIN := Lib.hid (show X ++ mrg (ltz cf) A1 B1 ++ mrg (ltz cf) A2 B2 ++ Y = X ++ mrg (ltz cf) A B ++ Y by rw [HCUT.out]; simp)
                  clear hr1 hg1 HROW1 HG1
                  by_cases h1 : mid < q
                  · by_cases h2 : q < b
                    · have hc := fun W (hW : w.grownBy W (some g)) (hR : RowBid base g n cap (X ++ mrg (ltz cf) A1 B1 ++ A2 ++ B2 ++ Y) W) => HIH.out mid q b (X ++ mrg (ltz cf) A1 B1) A2 B2 Y W (by omega) (HC.out.on hW) (fun y hy => QA.out y (List.mem_append_right _ hy)) (fun y hy => QB.out y (List.mem_append_right _ hy)) SA.out.2.1 SB.out.2.1 (by have := LA2.out; have := HNN.out; have := hQ.out; omega) (by have := LB2.out; omega) hR (by have := HA.out; have := LA1.out; have := LB1.out; rw [List.length_append, mrg_length]; omega) (by have := LA2.out; have := HNN.out; have := hQ.out; omega) (by have := LB2.out; omega)
                      go_wp2_with (go_at_call 72; refine (hc _ HG2.out HROW2.out).mono ?_; rintro e w2 ⟨rfl, hr2, hg2⟩)
                      go_end0
                      exact ⟨rfl, by rw [HFIN.out] at hr2; simpa using hr2, ztrans HG2.out hg2⟩
                    · have hdis := mrg_disjZ (lt := ltz cf) (A := A2) (B := B2) (.inr (List.eq_nil_of_length_eq_zero (by have := LB2.out; omega)))
                      have HR3 := Lib.hid (show RowBid base g n cap (X ++ mrg (ltz cf) A B ++ Y) wc by rw [← HFIN.out, hdis]; simpa using HROW2.out)
                      clear hdis
                      go_wp2
                      go_end0
                      exact ⟨rfl, by simpa using HR3.out, HG2.out⟩
                  · have hdis := mrg_disjZ (lt := ltz cf) (A := A2) (B := B2) (.inl (List.eq_nil_of_length_eq_zero (by have := LA2.out; have := HNN.out; have := hQ.out; omega)))
                    have HR3 := Lib.hid (show RowBid base g n cap (X ++ mrg (ltz cf) A B ++ Y) wc by rw [← HFIN.out, hdis]; simpa using HROW2.out)
                    clear hdis
                    go_wp2
                    go_end0
                    exact ⟨rfl, by simpa using HR3.out, HG2.out⟩
theorem symMBid_any (F : Nat) (cb : Array Value) (cf : Bid → Bid → Int) (Q : Bid → Prop) (base g n cap : Nat) (eg : ∀ args w, (callFunc F args).run Try.prog w = .ok (.enter F args) w) (hW : Wk (ltz cf)) (hn : n ≤ 1000000000) (N : Nat) : SymMBid F cb cf Q base g n cap N := by
  induction N with
  | zero => intro a m b X A B Y w hN hcmp hQA hQB hA hB hA0 hB0 hrow ha hm hb; omega
  | succ N ih => exact fun a m b X A B Y w hN hcmp hQA hQB hA hB hA0 hB0 hrow ha hm hb => symMBid_step F cb cf Q base g n cap N eg hW hn ih a m b X A B Y w hN hcmp hQA hQB hA hB hA0 hB0 hrow ha hm hb
end Go.Proofs.Ytenbbmmbpjjjpaa
namespace Go.Proofs.Ytenbbmmbpjjjpaa
open Go.RowKit
set_option linter.unusedVariables false
set_option linter.unusedSimpArgs false
set_option maxHeartbeats 8000000 in
set_option maxRecDepth 100000 in
theorem stableBid_any (F : Nat) (cb : Array Value) (cf : Bid → Bid → Int) (Q : Bid → Prop) (base g n cap : Nat) (D : List Bid) (w : World)
    (eg : ∀ args w, (callFunc F args).run Try.prog w = .ok (.enter F args) w) (hcmp : CmpBid F cb g cf Q w) (hW : Wk (ltz cf)) (hQ : ∀ x ∈ D, Q x)
    (hrow : RowBid base g n cap D w) (hn : n ≤ 1000000000) :
    Calls Try.prog 64 #[.slice (some ⟨g, 0, none⟩) n cap, .int .i64 n, .func (.func F) #[] cb] w fun e w' => e = .returned (.tuple #[]) ∧ RowBid base g n cap (srt (ltz cf) D) w' ∧ w.grownBy w' (some g) := by
  have hlen : D.length = n := hrow.2
  have HC := Lib.hid hcmp
  have HQ := Lib.hid hQ
  have HW := Lib.hid hW
  have HL := Lib.hid hlen
  have HR := Lib.hid hrow
  have HSY := Lib.hid (symMBid_any F cb cf Q base g n cap eg hW hn n)
  clear hcmp hQ hW hrow hlen
  go_enter Try.func64, Try.ntmps64
  go_wp2
  go_loopw [7, 8] (fun av bv wr => ∃ (a : Nat) (P L R : List Bid), av = .int .i64 a ∧ bv = .int .i64 (a + 20) ∧ a ≤ n ∧ BlZ (ltz cf) 20 P L ∧ P ++ R = D ∧ P.length = a ∧ RowBid base g n cap (L ++ R) wr ∧ w.grownBy wr (some g)) (fun av _ _ => n - (intOf av).toNat)
  case atStart => exact ⟨0, [], [], D, rfl, rfl, by omega, .nil, rfl, rfl, HR.out, zrefl _ _⟩
  case round =>
    obtain ⟨a, P, L, R, rfl, rfl, han, hB, hD, hP, hr, hg⟩ := hrel
    have hPR : a + R.length = n := by have := HL.out; rw [← hD, List.length_append] at this; omega
    have hLl : L.length = a := by rw [hB.len]; exact hP
    by_cases hlt : a + 20 ≤ n
    · have hltz : (a : Int) + 20 ≤ n := by omega
      obtain ⟨d, R', hR', hd⟩ : ∃ d R', R = d ++ R' ∧ d.length = 20 := ⟨R.take 20, R.drop 20, (List.take_append_drop _ _).symm, by rw [List.length_take]; omega⟩
      rw [hR'] at hr hD
      have HB := Lib.hid (hB.snoc hd)
      have HD := Lib.hid (show (P ++ d) ++ R' = D by rw [List.append_assoc]; exact hD)
      have HP := Lib.hid (show (P ++ d).length = a + 20 by simp; omega)
      obtain ⟨b, hb⟩ : ∃ b : Nat, b = a + 20 := ⟨_, rfl⟩
      have hc := fun W (hW : w.grownBy W (some g)) (hR : RowBid base g n cap (L ++ (d ++ R')) W) => insBid_any F cb cf Q base g n cap a b L d R' W eg (HC.out.on hW) HW.out (fun x hx => HQ.out x (by rw [← HD.out]; simp [hx])) (by simpa using hR) hLl (by omega) hn
      have HROW := Lib.hid hr
      have HG := Lib.hid hg
      have ea : (a : Int) + 20 = (b : Int) := by omega
      have hbn : b ≤ n := by omega
      have hb20 : b + 20 ≤ 2000000000 := by omega
      have HBB := Lib.hid hb
      clear hr hg hR' hd hB hD hP hPR hLl hb
      go_wp2_with (go_at_call 71; refine (hc _ HG.out HROW.out).mono ?_; rintro e w2 ⟨rfl, hr2, hg2⟩)
      have HR2 := Lib.hid hr2
      have HG2 := Lib.hid (ztrans HG.out hg2)
      clear hr2 hg2 hc
      go_roundw
      case rel => exact ⟨b, P ++ d, L ++ srt (ltz cf) d, R', rfl, rfl, hbn, HB.out, HD.out, by rw [HBB.out]; exact HP.out, HR2.out, HG2.out⟩
      case measure => have := HBB.out; simp [intOf]; omega
    · have hltz : ¬ (a : Int) + 20 ≤ n := by omega
      have hc := fun W (hW : w.grownBy W (some g)) (hR : RowBid base g n cap (L ++ R) W) => insBid_any F cb cf Q base g n cap a n L R [] W eg (HC.out.on hW) HW.out (fun x hx => HQ.out x (by rw [← hD]; simp [hx])) (by simpa using hR) hLl hPR hn
      have HROW := Lib.hid hr
      have HG := Lib.hid hg
      have HB := Lib.hid hB
      have HD := Lib.hid hD
      have HRL := Lib.hid (show R.length < 20 by omega)
      clear hr hg hB hD hP hPR hLl
      go_wp2_with (go_at_call 71; refine (hc _ HG.out HROW.out).mono ?_; rintro e w2 ⟨rfl, hr2, hg2⟩)
      have HR2 := Lib.hid (show RowBid base g n cap (L ++ srt (ltz cf) R) w2 by simpa using hr2)
      have HG2 := Lib.hid (ztrans HG.out hg2)
      clear hr2 hg2 hc HROW HG
      go_loopw [6, 7, 8, 9] (fun kv _ _ _ wr => ∃ (k : Nat) (P L R : List Bid), kv = .int .i64 k ∧ 20 ≤ k ∧ k ≤ 4000000000 ∧ BlZ (ltz cf) k P L ∧ P ++ R = D ∧ R.length < k ∧ RowBid base g n cap (L ++ srt (ltz cf) R) wr ∧ w.grownBy wr (some g)) (fun kv _ _ _ _ => n - (intOf kv).toNat)
      case atStart => exact ⟨20, P, L, R, rfl, by omega, by omega, HB.out, HD.out, HRL.out, HR2.out, HG2.out⟩
      case round =>
        clear HB HD HRL HR2 HG2 hlt hltz han
        obtain ⟨k, P, L, R, rfl, hk1, hk2, hB, hD, hRk, hr, hg⟩ := hrel
        have hPR : P.length + R.length = n := by have := HL.out; rw [← hD, List.length_append] at this; omega
        by_cases hkn : k < n
        · have hknz : (k : Int) < n := by omega
          obtain ⟨kk, hkk⟩ : ∃ kk : Nat, kk = 2 * k := ⟨_, rfl⟩
          have e2k : 2 * (k : Int) = (kk : Int) := by omega
          have ek2 : (k : Int) * 2 = (kk : Int) := by omega
          have hkkb : kk ≤ 2000000000 := by omega
          have HKK := Lib.hid hkk
          have HPR := Lib.hid hPR
          have HRK := Lib.hid hRk
          have HB := Lib.hid hB
          have HD := Lib.hid hD
          have HROW := Lib.hid hr
          have HG := Lib.hid hg
          clear hB hD hr hg hPR hkk hRk
          go_wp2
          go_loopw [7, 8] (fun av bv wr => ∃ (a : Nat) (E EL P' L' : List Bid), av = .int .i64 a ∧ bv = .int .i64 ((a : Int) + kk) ∧ a ≤ n ∧ BlZ (ltz cf) kk E EL ∧ BlZ (ltz cf) k P' L' ∧ E ++ P' ++ R = D ∧ E.length = a ∧ RowBid base g n cap (EL ++ L' ++ srt (ltz cf) R) wr ∧ w.grownBy wr (some g)) (fun av _ _ => n - (intOf av).toNat)
          case atStart => exact ⟨0, [], [], P, L, rfl, by go_num, by omega, .nil, HB.out, by simpa using HD.out, rfl, by simpa using HROW.out, HG.out⟩
          case round =>
            clear HB HD HROW HG HPR
            obtain ⟨a, E, EL, P', L', rfl, rfl, han, hE, hB, hD, hEa, hr, hg⟩ := hrel
            have hPR : a + P'.length + R.length = n := by have := HL.out; rw [← hD, List.length_append, List.length_append] at this; omega
            have hEL : EL.length = a := by rw [hE.len]; exact hEa
            obtain ⟨m, hm⟩ : ∃ m : Nat, m = a + k := ⟨_, rfl⟩
            have em : (a : Int) + k = (m : Int) := by omega
            have hkk := HKK.out
            have hRk := HRK.out
            by_cases hlt : a + kk ≤ n
            · obtain ⟨d1, d2, P2, L2, rfl, rfl, hd1, hd2, hB2⟩ := hB.two (by omega) hRk (by omega)
              obtain ⟨b, hb⟩ : ∃ b : Nat, b = a + kk := ⟨_, rfl⟩
              have eb : (a : Int) + kk = (b : Int) := by omega
              have hbn : b ≤ n := by omega
              have hbnz : (b : Int) ≤ n := by omega
              have hc := fun W (hW : w.grownBy W (some g)) (hR : RowBid base g n cap (EL ++ (srt (ltz cf) d1 ++ srt (ltz cf) d2 ++ L2) ++ srt (ltz cf) R) W) => HSY.out a m b EL (srt (ltz cf) d1) (srt (ltz cf) d2) (L2 ++ srt (ltz cf) R) W (by omega) (HC.out.on hW) (fun y hy => HQ.out y (by rw [← hD]; simp [(srt_mem _ _).1 hy])) (fun y hy => HQ.out y (by rw [← hD]; simp [(srt_mem _ _).1 hy])) (srt_asc HW.out _) (srt_asc HW.out _) (by rw [srt_length]; omega) (by rw [srt_length]; omega) (by simpa using hR) hEL (by rw [srt_length]; omega) (by rw [srt_length]; omega)
              have HE := Lib.hid (hE.snoc (d := d1 ++ d2) (by simp; omega))
              have HSA := Lib.hid (srt_append HW.out d1 d2)
              have HB2 := Lib.hid hB2
              have HD := Lib.hid (show E ++ (d1 ++ d2) ++ P2 ++ R = D by rw [← hD]; simp)
              have HEb := Lib.hid (show (E ++ (d1 ++ d2)).length = b by simp; omega)
              have HROW := Lib.hid hr
              have HG := Lib.hid hg
              have HBB := Lib.hid hb
              clear hE hB2 hB hD hEa hr hg hPR hEL hd1 hd2 hb hm hkk hRk
              go_wp2_with (go_at_call 72; refine (hc _ HG.out HROW.out).mono ?_; rintro e w2 ⟨rfl, hr2, hg2⟩)
              have HR2 := Lib.hid hr2
              have HG2 := Lib.hid (ztrans HG.out hg2)
              clear hr2 hg2 hc
              go_roundw
              case rel => exact ⟨b, E ++ (d1 ++ d2), EL ++ srt (ltz cf) (d1 ++ d2), P2, L2, rfl, rfl, hbn, HE.out, HB2.out, HD.out, HEb.out, by rw [HSA.out]; simpa using HR2.out, HG2.out⟩
              case measure => have := HBB.out; have := HKK.out; simp [intOf]; omega
            · have hlt2 : ¬ (a : Int) + kk ≤ n := by omega
              rcases hB.one (by omega) (r := R.length) (by omega) with ⟨rfl, rfl⟩ | ⟨hPk, rfl⟩
              · have hmn : ¬ m < n := by simp at hPR; omega
                have hmnz : ¬ (m : Int) < n := by omega
                have HE := Lib.hid hE
                have HD := Lib.hid (show E ++ R = D by simpa using hD)
                have HRK2 := Lib.hid (show R.length < kk by omega)
                have HROW := Lib.hid (show RowBid base g n cap (EL ++ srt (ltz cf) R) wr by simpa using hr)
                have HG := Lib.hid hg
                clear hE hD hr hg hPR hEL hEa hm hkk hRk hB
                go_wp2
                go_roundw
                case rel => exact ⟨kk, E, EL, R, rfl, by have := HKK.out; omega, by omega, HE.out, HD.out, HRK2.out, HROW.out, HG.out⟩
                case measure => have := HKK.out; simp [intOf]; omega
              · have HE := Lib.hid hE
                have HSA := Lib.hid (srt_append HW.out P' R)
                have HD := Lib.hid (show E ++ (P' ++ R) = D by rw [← hD]; simp)
                have HRK2 := Lib.hid (show (P' ++ R).length < kk by rw [List.length_append]; omega)
                have HROW := Lib.hid hr
                have HG := Lib.hid hg
                by_cases hmn : m < n
                · have hmnz : (m : Int) < n := by omega
                  have hc := fun W (hW : w.grownBy W (some g)) (hR : RowBid base g n cap (EL ++ srt (ltz cf) P' ++ srt (ltz cf) R) W) => HSY.out a m n EL (srt (ltz cf) P') (srt (ltz cf) R) [] W (by omega) (HC.out.on hW) (fun y hy => HQ.out y (by rw [← hD]; simp [(srt_mem _ _).1 hy])) (fun y hy => HQ.out y (by rw [← hD]; simp [(srt_mem _ _).1 hy])) (srt_asc HW.out _) (srt_asc HW.out _) (by rw [srt_length]; omega) (by rw [srt_length]; omega) (by simpa using hR) hEL (by rw [srt_length]; omega) (by rw [srt_length]; omega)
                  clear hE hD hr hg hPR hEL hEa hm hkk hRk hB hPk
                  go_wp2_with (go_at_call 72; refine (hc _ HG.out HROW.out).mono ?_; rintro e w2 ⟨rfl, hr2, hg2⟩)
                  have HR2 := Lib.hid hr2
                  have HG2 := Lib.hid (ztrans HG.out hg2)
                  clear hr2 hg2 hc
                  go_roundw
                  case rel => exact ⟨kk, E, EL, P' ++ R, rfl, by have := HKK.out; omega, by omega, HE.out, HD.out, HRK2.out, by rw [HSA.out]; simpa using HR2.out, HG2.out⟩
                  case measure => have := HKK.out; simp [intOf]; omega
                · have hmnz : ¬ (m : Int) < n := by omega
                  have hR0 : R = [] := List.eq_nil_of_length_eq_zero (by omega)
                  have HR3 := Lib.hid (show RowBid base g n cap (EL ++ srt (ltz cf) (P' ++ R)) wr by subst hR0; simpa [srt] using hr)
                  clear hE hD hr hg hPR hEL hEa hm hkk hRk hB hPk hR0
                  go_wp2
                  go_roundw
                  case rel => exact ⟨kk, E, EL, P' ++ R, rfl, by have := HKK.out; omega, by omega, HE.out, HD.out, HRK2.out, HR3.out, HG.out⟩
                  case measure => have := HKK.out; simp [intOf]; omega
        · have hknz : ¬ (k : Int) < n := by omega
          have hfin := hB.all HW.out (by omega) (R := R) (by omega)
          rw [hfin, hD] at hr
          have HROW := Lib.hid hr
          have HG := Lib.hid hg
          clear hB hD hPR hfin hr hg
          go_wp2
          go_end0
          exact ⟨rfl, HROW.out, HG.out⟩
theorem sortStableBid_any (F : Nat) (cb : Array Value) (cf : Bid → Bid → Int) (Q : Bid → Prop) (base g n cap : Nat) (D : List Bid) (w : World)
    (eg : ∀ args w, (callFunc F args).run Try.prog w = .ok (.enter F args) w) (hcmp : CmpBid F cb g cf Q w) (hW : Wk (ltz cf)) (hQ : ∀ x ∈ D, Q x)
    (hrow : RowBid base g n cap D w) (hn : n ≤ 1000000000) :
    Calls Try.prog 52 #[.slice (some ⟨g, 0, none⟩) n cap, .func (.func F) #[] cb] w fun e w' => e = .returned (.tuple #[]) ∧ RowBid base g n cap (srt (ltz cf) D) w' ∧ w.grownBy w' (some g) := by
  have HC := Lib.hid (stableBid_any F cb cf Q base g n cap D w eg hcmp hW hQ hrow hn)
  clear hcmp hW hQ hrow
  go_enter Try.func52, Try.ntmps52
  go_wp2_with (go_at_call 64; refine HC.out.mono ?_; rintro e w2 ⟨rfl, hr2, hg2⟩)
  go_end0
  exact ⟨rfl, hr2, hg2⟩
end Go.Proofs.Ytenbbmmbpjjjpaa
namespace Go.Proofs.Ytenbbmmbpjjjpaa
open Go.RowKit
set_option linter.unusedVariables false
set_option linter.unusedSimpArgs false
set_option maxRecDepth 100000 in
theorem insBid_nil (fv : Value) (w : World) :
    Calls Try.prog 71 #[.slice none 0 0, .int .i64 0, .int .i64 0, fv] w fun e w' => e = .returned (.tuple #[]) ∧ w' = w := by
  go_enter Try.func71, Try.ntmps71
  go_wp2
  go_loopw [8] (fun iv wr => iv = .int .i64 1 ∧ wr = w) (fun iv _ => 0)
  case atStart => exact ⟨rfl, rfl⟩
  case round =>
    obtain ⟨rfl, hw⟩ := hrel
    go_wp2
    go_end0
    first | exact ⟨rfl, hw⟩ | exact ⟨rfl, rfl⟩
set_option maxRecDepth 100000 in
theorem stableBid_nil (fv : Value) (w : World) :
    Calls Try.prog 64 #[.slice none 0 0, .int .i64 0, fv] w fun e w' => e = .returned (.tuple #[]) ∧ w' = w := by
  go_enter Try.func64, Try.ntmps64
  go_wp2
  go_loopw [7, 8] (fun av bv wr => av = .int .i64 0 ∧ bv = .int .i64 20 ∧ wr = w) (fun av _ _ => 0)
  case atStart => exact ⟨rfl, rfl, rfl⟩
  case round =>
    obtain ⟨rfl, rfl, hw⟩ := hrel
    go_wp2_with (go_at_call 71; refine (insBid_nil _ _).mono ?_; rintro e w2 ⟨rfl, hw2⟩)
    go_loopw [6, 7, 8, 9] (fun kv _ _ _ wr => kv = .int .i64 20 ∧ wr = w) (fun kv _ _ _ _ => 0)
    case atStart => exact ⟨rfl, by first | exact hw2 | trivial | rfl | (rw [hw2]; first | rfl | exact hw)⟩
    case round =>
      obtain ⟨rfl, hw3⟩ := hrel
      go_wp2
      go_end0
      first | exact ⟨rfl, hw3⟩ | exact ⟨rfl, rfl⟩
theorem sortStableBid_nil (fv : Value) (w : World) :
    Calls Try.prog 52 #[.slice none 0 0, fv] w fun e w' => e = .returned (.tuple #[]) ∧ w' = w := by
  go_enter Try.func52, Try.ntmps52
  go_wp2_with (go_at_call 64; refine (stableBid_nil _ _).mono ?_; rintro e w2 ⟨rfl, hw2⟩)
  go_end0
  first | exact ⟨rfl, hw2⟩ | exact ⟨rfl, rfl⟩
/-- any row of one's own is sorted in place -/
theorem sortBid_own (F : Nat) (cb : Array Value) (cf : Bid → Bid → Int) (Q : Bid → Prop) (base : Nat) (v : Value) (L : List Bid) (w : World)
    (eg : ∀ args w, (callFunc F args).run Try.prog w = .ok (.enter F args) w) (hcmp : ∀ W, Below base w W → ∀ x y, Q x → Q y → Calls Try.prog F (#[vBid x, vBid y] ++ cb) W fun e w' => e = .returned (.int .i64 (cf x y)) ∧ Below W.heap.size W w')
    (hW : Wk (ltz cf)) (hQ : ∀ x ∈ L, Q x) (hb : base ≤ w.heap.size) (hown : w.ownsRow base 37 5 v L.length (flatE encBid L)) (hn : L.length ≤ 1000000000) :
    Calls Try.prog 52 #[v, .func (.func F) #[] cb] w fun e w' => e = .returned (.tuple #[]) ∧ w'.ownsRow base 37 5 v L.length (flatE encBid (srt (ltz cf) L)) ∧ Below base w w' := by
  rcases hown.2 with ⟨rfl, h0⟩ | ⟨g, cap, cur, rfl, hbg, hg, -⟩
  · have hL : L = [] := List.eq_nil_of_length_eq_zero h0
    subst hL
    refine (sortStableBid_nil _ w).mono ?_
    rintro e w' ⟨rfl, rfl⟩
    exact ⟨rfl, hown, Below.refl _ _⟩
  · have hgl : g < w.heap.size := (Array.getElem?_eq_some_iff.1 hg).1
    refine (sortStableBid_any F cb cf Q base g L.length cap L w eg (fun W hg' x y hx hy => hcmp W ((Below.refl _ _).grown hg' hb (fun q hq => by cases hq; exact hbg)) x y hx hy) hW hQ ⟨hown, rfl⟩ hn).mono ?_
    rintro e w' ⟨rfl, hr, hg'⟩
    refine ⟨rfl, ?_, (Below.refl _ _).grown hg' hb (fun q hq => by cases hq; exact hbg)⟩
    exact hr.1
end Go.Proofs.Ytenbbmmbpjjjpaa
