/- slices.symMergeCmpFunc's two short ways, at [](struct); printed by wip/gen/sortz2.py. -/
import Derived.Test.YtkdbdncboljfhaaStTdrC
import Derived.Test.YtkdbdncboljfhaaSortNz
namespace Go.Proofs.Ytkdbdncboljfhaa
open Go.RowKit
set_option linter.unusedVariables false
set_option linter.unusedSimpArgs false
set_option maxHeartbeats 4000000 in
set_option maxRecDepth 100000 in
theorem symMTdr_one (F : Nat) (cb : Array Value) (cf : Tdr → Tdr → Int) (Q : Tdr → Prop) (base g n cap a m b : Nat) (x : Tdr) (X B Y : List Tdr) (w : World)
    (eg : ∀ args w, (callFunc F args).run Try.prog w = .ok (.enter F args) w) (hcmp : CmpTdr F cb g cf Q w) (hW : Wk (ltz cf)) (hQx : Q x) (hQ : ∀ y ∈ B, Q y) (hB : Asc (ltz cf) B)
    (hrow : RowTdr base g n cap (X ++ x :: (B ++ Y)) w) (ha : X.length = a) (hm : m = a + 1) (hb : m + B.length = b) (hn : n ≤ 1000000000) :
    Calls Try.prog 43 #[.slice (some ⟨g, 0, none⟩) n cap, .int .i64 a, .int .i64 m, .int .i64 b, .func (.func F) #[] cb] w fun e w' => e = .returned (.tuple #[]) ∧ RowTdr base g n cap (X ++ mrg (ltz cf) [x] B ++ Y) w' ∧ w.grownBy w' (some g) := by
  have hlen : X.length + B.length + Y.length + 1 = n := by have := hrow.2; simp at this; omega
  have hbn : b ≤ n := by omega
  have hmb : m ≤ b := by omega
  have e1 : (m : Int) - a = 1 := by omega
  have HC := Lib.hid hcmp
  have HQ := Lib.hid hQ
  have HA := Lib.hid ha
  have HM := Lib.hid hm
  have HB := Lib.hid hb
  have HW := Lib.hid hW
  have HS := Lib.hid hB
  have HR := Lib.hid hrow
  have haz : (a : Int) < n := by omega
  have ham : a < m := by omega
  clear hcmp hQ hW hB hrow hlen ha hm hb
  go_enter Try.func43, Try.ntmps43
  go_wp2
  go_loopw [10, 11] (fun iv jv wr => ∃ i j : Nat, m ≤ i ∧ i ≤ j ∧ j ≤ b ∧ iv = .int .i64 i ∧ jv = .int .i64 j ∧ (i - m = 0 ∨ ∃ y, B[i - m - 1]? = some y ∧ ltz cf y x = true) ∧ (B.length ≤ j - m ∨ ∃ y, B[j - m]? = some y ∧ ltz cf y x = false) ∧ RowTdr base g n cap (X ++ x :: (B ++ Y)) wr ∧ w.grownBy wr (some g)) (fun iv jv _ => (intOf jv).toNat - (intOf iv).toNat)
  case atStart => exact ⟨m, b, by omega, hmb, by omega, rfl, rfl, .inl (by omega), .inl (by have := HB.out; omega), HR.out, zrefl _ _⟩
  case round =>
    obtain ⟨i, j, hmi, hij, hjb, rfl, rfl, hlo, hhi, hr, hg⟩ := hrel
    clear e1
    by_cases hlt : i < j
    · obtain ⟨k, hk, hk1, hk2⟩ := halfZ i j hlt
      obtain ⟨y, hy⟩ : ∃ y, B[k - m]? = some y := ⟨_, List.getElem?_eq_getElem (by have := HB.out; omega)⟩
      have hcx := zget_at X (B ++ Y) x HA.out
      have hcy : (X ++ x :: (B ++ Y))[k]? = some y := by
        rw [List.getElem?_append_right (by have := HA.out; have := HM.out; omega), show k - X.length = (k - m) + 1 by have := HA.out; have := HM.out; omega, List.getElem?_cons_succ, List.getElem?_append_left (by have := HB.out; omega)]
        exact hy
      have cx0 : wr.cell? ⟨g, a * 4, none⟩ = some (.int .i64 x.h) := hr.cell encTdr_len (i := 0) hcx rfl; have cx1 : wr.cell? ⟨g, a * 4 + 1, none⟩ = some (.int .i64 x.n) := hr.cell encTdr_len (i := 1) hcx rfl; have cx2 : wr.cell? ⟨g, a * 4 + 2, none⟩ = some (.int .i64 x.p) := hr.cell encTdr_len (i := 2) hcx rfl; have cx3 : wr.cell? ⟨g, a * 4 + 3, none⟩ = some (.int .i64 x.a) := hr.cell encTdr_len (i := 3) hcx rfl
      have cy0 : wr.cell? ⟨g, k * 4, none⟩ = some (.int .i64 y.h) := hr.cell encTdr_len (i := 0) hcy rfl; have cy1 : wr.cell? ⟨g, k * 4 + 1, none⟩ = some (.int .i64 y.n) := hr.cell encTdr_len (i := 1) hcy rfl; have cy2 : wr.cell? ⟨g, k * 4 + 2, none⟩ = some (.int .i64 y.p) := hr.cell encTdr_len (i := 2) hcy rfl; have cy3 : wr.cell? ⟨g, k * 4 + 3, none⟩ = some (.int .i64 y.a) := hr.cell encTdr_len (i := 3) hcy rfl
      have hc := fun W (hW : Below wr.heap.size wr W) => HC.out W (ztrans hg (zbelow hW _)) y x (HQ.out y (List.mem_of_getElem? hy)) hQx
      obtain ⟨c, hcf⟩ : ∃ c, cf y x = c := ⟨_, rfl⟩
      simp only [hcf, vTdr] at hc
      have HCC := Lib.hid hc
      have cx0u := up_cell cx0; have cx1u := up_cell cx1; have cx2u := up_cell cx2; have cx3u := up_cell cx3
      have cy0u := up_cell cy0; have cy1u := up_cell cy1; have cy2u := up_cell cy2; have cy3u := up_cell cy3
      clear hc hcx hcy
      have hkz : (k : Int) < n := by omega
      have HCF := Lib.hid hcf
      have HLO := Lib.hid hlo
      have HHI := Lib.hid hhi
      have HY := Lib.hid hy
      have HROW := Lib.hid hr
      have HG := Lib.hid hg
      clear hcf hlo hhi hy hr hg
      by_cases hneg : c < 0
      all_goals
        go_upto_region 5 with fail
        (refine wp_region_up (by kernel_rfl) (by kernel_rfl) ?_); (repeat (go_big_quiet_step (((go_at_fn F; refine (HCC.out _ (Subtype.property _)).mono ?_; exact fun _ _ hh => ⟨hh.1, ⟨_, bup (Subtype.property _) hh.2⟩, rfl⟩))))); (refine wpQuiet_nil ?_); (rintro w2 ⟨⟨_, hb2⟩, rfl⟩)
        go_wp2
        go_roundw
        case rel => first
          | exact ⟨k + 1, j, by omega, by omega, by omega, by go_num, rfl, .inr ⟨y, by rw [show k + 1 - m - 1 = k - m by omega]; exact HY.out, by unfold ltz; rw [HCF.out]; exact decide_eq_true hneg⟩, HHI.out, HROW.out.below hb2, ztrans HG.out (zbelow hb2 _)⟩
          | exact ⟨i, k, by omega, by omega, by omega, rfl, rfl, HLO.out, .inr ⟨y, HY.out, by unfold ltz; rw [HCF.out]; exact decide_eq_false (by omega)⟩, HROW.out.below hb2, ztrans HG.out (zbelow hb2 _)⟩
        case measure => simp [intOf]; omega
    · obtain rfl : i = j := by omega
      have h1 := asc_loZ HW.out HS.out hlo
      have h2 := asc_hiZ HW.out HS.out hhi
      obtain ⟨B1, hB1⟩ : ∃ B1, B.take (i - m) = B1 := ⟨_, rfl⟩
      obtain ⟨B2, hB2⟩ : ∃ B2, B.drop (i - m) = B2 := ⟨_, rfl⟩
      have hBB : B = B1 ++ B2 := by rw [← hB1, ← hB2, List.take_append_drop]
      have hl1 : B1.length = i - m := by rw [← hB1, List.length_take]; have := HB.out; omega
      rw [hB1] at h1
      rw [hB2] at h2
      have hfin : X ++ mrg (ltz cf) [x] B ++ Y = X ++ B1 ++ x :: (B2 ++ Y) := by rw [hBB, mrg_put_front h1 h2]; simp
      rw [hBB] at hr
      have HF := Lib.hid hfin
      have HL1 := Lib.hid hl1
      have HROW := Lib.hid hr
      have HG := Lib.hid hg
      clear h1 h2 hB1 hB2 hBB hl1 hfin hr hg hlo hhi
      go_wp2
      go_loopw [13] (fun kv wr => ∃ k : Nat, a ≤ k ∧ k + 1 ≤ i ∧ kv = .int .i64 k ∧ RowTdr base g n cap (X ++ B1.take (k - a) ++ x :: (B1.drop (k - a) ++ (B2 ++ Y))) wr ∧ w.grownBy wr (some g)) (fun kv _ => i - (intOf kv).toNat)
      case atStart => exact ⟨a, by omega, by omega, rfl, by rw [Nat.sub_self]; simpa using HROW.out, HG.out⟩
      case round =>
        obtain ⟨k, hk1, hk2, rfl, hr, hg⟩ := hrel
        have hM := HM.out
        by_cases hki : k + 1 < i
        · obtain ⟨y, hy⟩ : ∃ y, B1[k - a]? = some y := ⟨_, List.getElem?_eq_getElem (by have := HL1.out; omega)⟩
          rw [drop_cons hy, show k - a + 1 = k + 1 - a by omega] at hr
          obtain ⟨P, hP⟩ : ∃ P, X ++ B1.take (k - a) = P := ⟨_, rfl⟩
          obtain ⟨R, hR⟩ : ∃ R, B1.drop (k + 1 - a) ++ (B2 ++ Y) = R := ⟨_, rfl⟩
          have hPl : P.length = k := by rw [← hP, List.length_append, List.length_take]; have := HA.out; have := HL1.out; omega
          have e2 : P ++ y :: x :: R = X ++ B1.take (k + 1 - a) ++ x :: (B1.drop (k + 1 - a) ++ (B2 ++ Y)) := by
            rw [← hP, ← hR, show k + 1 - a = k - a + 1 by omega, take_snocZ hy]; simp
          rw [hP, List.cons_append, hR] at hr
          have hck := hPl ▸ (zget_pair P R x y).1
          have hck1 := hPl ▸ (zget_pair P R x y).2
          obtain ⟨k1, hk1'⟩ : ∃ k1, k1 = k + 1 := ⟨_, rfl⟩
          rw [← hk1'] at hck1
          have ck0 : wr.cell? ⟨g, k * 4, none⟩ = some (.int .i64 x.h) := hr.cell encTdr_len (i := 0) hck rfl; have ck1 : wr.cell? ⟨g, k * 4 + 1, none⟩ = some (.int .i64 x.n) := hr.cell encTdr_len (i := 1) hck rfl; have ck2 : wr.cell? ⟨g, k * 4 + 2, none⟩ = some (.int .i64 x.p) := hr.cell encTdr_len (i := 2) hck rfl; have ck3 : wr.cell? ⟨g, k * 4 + 3, none⟩ = some (.int .i64 x.a) := hr.cell encTdr_len (i := 3) hck rfl
          have cl0 : wr.cell? ⟨g, k1 * 4, none⟩ = some (.int .i64 y.h) := hr.cell encTdr_len (i := 0) hck1 rfl; have cl1 : wr.cell? ⟨g, k1 * 4 + 1, none⟩ = some (.int .i64 y.n) := hr.cell encTdr_len (i := 1) hck1 rfl; have cl2 : wr.cell? ⟨g, k1 * 4 + 2, none⟩ = some (.int .i64 y.p) := hr.cell encTdr_len (i := 2) hck1 rfl; have cl3 : wr.cell? ⟨g, k1 * 4 + 3, none⟩ = some (.int .i64 y.a) := hr.cell encTdr_len (i := 3) hck1 rfl
          have fr := fun o => hr.fro o
          clear hck hck1
          have z1 : (k : Int) + 1 < n := by omega
          have z0 : (k : Int) < n := by omega
          have q1 : (0 : Int) ≤ (k : Int) + 1 := by omega
          have t1 : ((k : Int) + 1).toNat = k + 1 := by omega
          have v1 : IntKind.i64.wrap ((k : Int) + 1) = (k : Int) + 1 := by rw [IntKind.wrap_i64]; omega
          have w1 : (k : Int) < (i : Int) - 1 := by omega
          have HE := Lib.hid e2
          have HPL := Lib.hid hPl
          have HROW2 := Lib.hid hr
          have HG2 := Lib.hid hg
          clear hy e2 hP hR hPl hr hg hM
          rw [← hk1'] at t1
          have e1' : (k : Int) + 1 = (k1 : Int) := by omega
          have z1' : (k1 : Int) < n := by omega
          have e3' : (k1 : Int) - 1 = (k : Int) := by omega
          have e4' : k1 - 1 = k := by omega
          clear z1 q1
          have hne : k ≠ k1 := by omega
          have HK1 := Lib.hid hk1'
          clear hk1'
          go_wp2_with fail
          go_region
          all_goals go_wp2
          go_roundw
          case rel =>
            have hx := HROW2.out.swap encTdr_len (i := k) (j := k1) (by simp; have := HPL.out; omega) (by simp; have := HPL.out; have := HK1.out; omega) y x 1
            rw [HK1.out] at hx
            rw [show (((P ++ x :: y :: R).set k y).set (k + 1) x) = P ++ y :: x :: R by rw [← HPL.out]; exact zset_pair' P R x y y x] at hx
            rw [← HK1.out] at hx
            exact ⟨k + 1, by omega, by omega, by go_num, by rw [← HE.out]; exact hx.1, ztrans HG2.out hx.2⟩
          case measure => simp [intOf]; omega
        · have w1 : ¬ (k : Int) < (i : Int) - 1 := by omega
          have hfin2 : X ++ B1.take (k - a) ++ x :: (B1.drop (k - a) ++ (B2 ++ Y)) = X ++ mrg (ltz cf) [x] B ++ Y := by
            rw [HF.out, List.take_of_length_le (by have := HL1.out; omega), List.drop_of_length_le (by have := HL1.out; omega)]; simp
          rw [hfin2] at hr
          have HR2 := Lib.hid hr
          have HG2 := Lib.hid hg
          clear hfin2 hr hg hM
          go_wp2
          (try simp only [Exit.inBlock, Exit.then])
          refine bodyPost_ret (results_none rfl _ _ _) rfl ?_
          exact ⟨rfl, by simpa using HR2.out, HG2.out⟩
set_option maxHeartbeats 4000000 in
set_option maxRecDepth 100000 in
theorem symMTdr_last (F : Nat) (cb : Array Value) (cf : Tdr → Tdr → Int) (Q : Tdr → Prop) (base g n cap a m b : Nat) (x : Tdr) (X A Y : List Tdr) (w : World)
    (eg : ∀ args w, (callFunc F args).run Try.prog w = .ok (.enter F args) w) (hcmp : CmpTdr F cb g cf Q w) (hW : Wk (ltz cf)) (hQx : Q x) (hQ : ∀ y ∈ A, Q y) (hA : Asc (ltz cf) A) (hA2 : A.length ≠ 1) (hA0 : 0 < A.length)
    (hrow : RowTdr base g n cap (X ++ A ++ x :: Y) w) (ha : X.length = a) (hm : a + A.length = m) (hb : b = m + 1) (hn : n ≤ 1000000000) :
    Calls Try.prog 43 #[.slice (some ⟨g, 0, none⟩) n cap, .int .i64 a, .int .i64 m, .int .i64 b, .func (.func F) #[] cb] w fun e w' => e = .returned (.tuple #[]) ∧ RowTdr base g n cap (X ++ mrg (ltz cf) A [x] ++ Y) w' ∧ w.grownBy w' (some g) := by
  have hlen : X.length + A.length + Y.length + 1 = n := by have := hrow.2; simp at this; omega
  have hbn : b ≤ n := by omega
  have ham : a < m := by omega
  have e0 : (((m : Int) - a) == 1) = false := by simp; omega
  have e1 : (b : Int) - m = 1 := by omega
  have HC := Lib.hid hcmp
  have HQ := Lib.hid hQ
  have HA := Lib.hid ha
  have HM := Lib.hid hm
  have HB := Lib.hid hb
  have HW := Lib.hid hW
  have HS := Lib.hid hA
  have HR := Lib.hid hrow
  have hmz : (m : Int) < n := by omega
  have hmb : m < b := by omega
  clear hcmp hQ hW hA hrow hlen ha hm hb hA2 hA0
  go_enter Try.func43, Try.ntmps43
  go_wp2
  go_loopw [14, 15] (fun iv jv wr => ∃ i j : Nat, a ≤ i ∧ i ≤ j ∧ j ≤ m ∧ iv = .int .i64 i ∧ jv = .int .i64 j ∧ (i - a = 0 ∨ ∃ y, A[i - a - 1]? = some y ∧ ltz cf x y = false) ∧ (A.length ≤ j - a ∨ ∃ y, A[j - a]? = some y ∧ ltz cf x y = true) ∧ RowTdr base g n cap (X ++ A ++ x :: Y) wr ∧ w.grownBy wr (some g)) (fun iv jv _ => (intOf jv).toNat - (intOf iv).toNat)
  case atStart => exact ⟨a, m, by omega, by omega, by omega, rfl, rfl, .inl (by omega), .inl (by have := HM.out; omega), HR.out, zrefl _ _⟩
  case round =>
    obtain ⟨i, j, hmi, hij, hjb, rfl, rfl, hlo, hhi, hr, hg⟩ := hrel
    clear e1
    by_cases hlt : i < j
    · obtain ⟨k, hk, hk1, hk2⟩ := halfZ i j hlt
      obtain ⟨y, hy⟩ : ∃ y, A[k - a]? = some y := ⟨_, List.getElem?_eq_getElem (by have := HM.out; omega)⟩
      have hcx := zget_at (X ++ A) Y x (j := m) (by have := HM.out; have := HA.out; simp; omega)
      have hcy : (X ++ A ++ x :: Y)[k]? = some y := by
        rw [List.getElem?_append_left (by have := HM.out; have := HA.out; simp; omega), List.getElem?_append_right (by have := HA.out; omega), HA.out]
        exact hy
      have cx0 : wr.cell? ⟨g, m * 4, none⟩ = some (.int .i64 x.h) := hr.cell encTdr_len (i := 0) hcx rfl; have cx1 : wr.cell? ⟨g, m * 4 + 1, none⟩ = some (.int .i64 x.n) := hr.cell encTdr_len (i := 1) hcx rfl; have cx2 : wr.cell? ⟨g, m * 4 + 2, none⟩ = some (.int .i64 x.p) := hr.cell encTdr_len (i := 2) hcx rfl; have cx3 : wr.cell? ⟨g, m * 4 + 3, none⟩ = some (.int .i64 x.a) := hr.cell encTdr_len (i := 3) hcx rfl
      have cy0 : wr.cell? ⟨g, k * 4, none⟩ = some (.int .i64 y.h) := hr.cell encTdr_len (i := 0) hcy rfl; have cy1 : wr.cell? ⟨g, k * 4 + 1, none⟩ = some (.int .i64 y.n) := hr.cell encTdr_len (i := 1) hcy rfl; have cy2 : wr.cell? ⟨g, k * 4 + 2, none⟩ = some (.int .i64 y.p) := hr.cell encTdr_len (i := 2) hcy rfl; have cy3 : wr.cell? ⟨g, k * 4 + 3, none⟩ = some (.int .i64 y.a) := hr.cell encTdr_len (i := 3) hcy rfl
      have hc := fun W (hW : Below wr.heap.size wr W) => HC.out W (ztrans hg (zbelow hW _)) x y hQx (HQ.out y (List.mem_of_getElem? hy))
      obtain ⟨c, hcf⟩ : ∃ c, cf x y = c := ⟨_, rfl⟩
      simp only [hcf, vTdr] at hc
      have HCC := Lib.hid hc
      have cx0u := up_cell cx0; have cx1u := up_cell cx1; have cx2u := up_cell cx2; have cx3u := up_cell cx3
      have cy0u := up_cell cy0; have cy1u := up_cell cy1; have cy2u := up_cell cy2; have cy3u := up_cell cy3
      clear hc hcx hcy
      have hkz : (k : Int) < n := by omega
      have HCF := Lib.hid hcf
      have HLO := Lib.hid hlo
      have HHI := Lib.hid hhi
      have HY := Lib.hid hy
      have HROW := Lib.hid hr
      have HG := Lib.hid hg
      clear hcf hlo hhi hy hr hg
      rcases (show decide (c < 0) = true ∨ decide (c < 0) = false by cases decide (c < 0) <;> simp) with hneg | hneg
      all_goals
        go_upto_region 17 with fail
        (refine wp_region_up (by kernel_rfl) (by kernel_rfl) ?_); (repeat (go_big_quiet_step (((go_at_fn F; refine (HCC.out _ (Subtype.property _)).mono ?_; exact fun _ _ hh => ⟨hh.1, ⟨_, bup (Subtype.property _) hh.2⟩, rfl⟩))))); (refine wpQuiet_nil ?_); (rintro w2 ⟨⟨_, hb2⟩, rfl⟩)
        go_wp2
        go_roundw
        case rel => first
          | exact ⟨k + 1, j, by omega, by omega, by omega, by go_num, rfl, .inr ⟨y, by rw [show k + 1 - a - 1 = k - a by omega]; exact HY.out, by unfold ltz; rw [HCF.out]; first | exact hneg | exact decide_eq_false (by omega)⟩, HHI.out, HROW.out.below hb2, ztrans HG.out (zbelow hb2 _)⟩
          | exact ⟨i, k, by omega, by omega, by omega, rfl, rfl, HLO.out, .inr ⟨y, HY.out, by unfold ltz; rw [HCF.out]; first | exact hneg | exact decide_eq_true hneg⟩, HROW.out.below hb2, ztrans HG.out (zbelow hb2 _)⟩
        case measure => simp [intOf]; omega
    · obtain rfl : i = j := by omega
      have h1 := asc_loqZ HW.out HS.out hlo
      have h2 := asc_hiqZ HW.out HS.out hhi
      obtain ⟨A1, hA1⟩ : ∃ A1, A.take (i - a) = A1 := ⟨_, rfl⟩
      obtain ⟨A2, hA2⟩ : ∃ A2, A.drop (i - a) = A2 := ⟨_, rfl⟩
      have hAA : A = A1 ++ A2 := by rw [← hA1, ← hA2, List.take_append_drop]
      have hl1 : A1.length = i - a := by rw [← hA1, List.length_take]; have := HM.out; omega
      have hl2 : A2.length = m - i := by rw [← hA2, List.length_drop]; have := HM.out; omega
      rw [hA1] at h1
      rw [hA2] at h2
      have hfin : X ++ mrg (ltz cf) A [x] ++ Y = X ++ A1 ++ x :: (A2 ++ Y) := by rw [hAA, mrg_put_backZ h1 h2]; simp
      rw [hAA] at hr
      have HF := Lib.hid hfin
      have HL1 := Lib.hid hl1
      have HL2 := Lib.hid hl2
      have HROW := Lib.hid hr
      have HG := Lib.hid hg
      clear h1 h2 hA1 hA2 hAA hl1 hl2 hfin hr hg hlo hhi
      go_wp2
      go_loopw [17] (fun kv wr => ∃ k : Nat, i ≤ k ∧ k ≤ m ∧ kv = .int .i64 k ∧ RowTdr base g n cap (X ++ A1 ++ A2.take (k - i) ++ x :: (A2.drop (k - i) ++ Y)) wr ∧ w.grownBy wr (some g)) (fun kv _ => (intOf kv).toNat)
      case atStart => exact ⟨m, by omega, by omega, rfl, by rw [List.take_of_length_le (by have := HL2.out; omega), List.drop_of_length_le (by have := HL2.out; omega)]; simpa using HROW.out, HG.out⟩
      case round =>
        obtain ⟨k, hk1, hk2, rfl, hr, hg⟩ := hrel
        by_cases hki : i < k
        · obtain ⟨kp, rfl⟩ : ∃ kp, k = kp + 1 := ⟨k - 1, by omega⟩
          obtain ⟨y, hy⟩ : ∃ y, A2[kp - i]? = some y := ⟨_, List.getElem?_eq_getElem (by have := HL2.out; omega)⟩
          obtain ⟨P, hP⟩ : ∃ P, X ++ A1 ++ A2.take (kp - i) = P := ⟨_, rfl⟩
          obtain ⟨R, hR⟩ : ∃ R, A2.drop (kp - i + 1) ++ Y = R := ⟨_, rfl⟩
          have hPl : P.length = kp := by rw [← hP, List.length_append, List.length_append, List.length_take]; have := HA.out; have := HL1.out; have := HL2.out; omega
          have e2 : P ++ x :: y :: R = X ++ A1 ++ A2.take (kp - i) ++ x :: (A2.drop (kp - i) ++ Y) := by
            rw [← hP, ← hR, drop_cons hy]; simp
          have e3 : X ++ A1 ++ A2.take (kp + 1 - i) ++ x :: (A2.drop (kp + 1 - i) ++ Y) = P ++ y :: x :: R := by
            rw [← hP, ← hR, show kp + 1 - i = kp - i + 1 by omega, take_snocZ hy]; simp
          rw [e3] at hr
          have hck := hPl ▸ (zget_pair P R y x).1
          have hck1 := hPl ▸ (zget_pair P R y x).2
          obtain ⟨k1, hk1'⟩ : ∃ k1, k1 = kp + 1 := ⟨_, rfl⟩
          rw [← hk1'] at hck1
          have ck0 : wr.cell? ⟨g, kp * 4, none⟩ = some (.int .i64 y.h) := hr.cell encTdr_len (i := 0) hck rfl; have ck1 : wr.cell? ⟨g, kp * 4 + 1, none⟩ = some (.int .i64 y.n) := hr.cell encTdr_len (i := 1) hck rfl; have ck2 : wr.cell? ⟨g, kp * 4 + 2, none⟩ = some (.int .i64 y.p) := hr.cell encTdr_len (i := 2) hck rfl; have ck3 : wr.cell? ⟨g, kp * 4 + 3, none⟩ = some (.int .i64 y.a) := hr.cell encTdr_len (i := 3) hck rfl
          have cl0 : wr.cell? ⟨g, k1 * 4, none⟩ = some (.int .i64 x.h) := hr.cell encTdr_len (i := 0) hck1 rfl; have cl1 : wr.cell? ⟨g, k1 * 4 + 1, none⟩ = some (.int .i64 x.n) := hr.cell encTdr_len (i := 1) hck1 rfl; have cl2 : wr.cell? ⟨g, k1 * 4 + 2, none⟩ = some (.int .i64 x.p) := hr.cell encTdr_len (i := 2) hck1 rfl; have cl3 : wr.cell? ⟨g, k1 * 4 + 3, none⟩ = some (.int .i64 x.a) := hr.cell encTdr_len (i := 3) hck1 rfl
          have fr := fun o => hr.fro o
          clear hck hck1
          have z1 : (kp : Int) + 1 < n := by omega
          have z0 : (kp : Int) < n := by omega
          have q1 : (0 : Int) ≤ (kp : Int) + 1 := by omega
          have t1 : ((kp : Int) + 1).toNat = kp + 1 := by omega
          have v1 : IntKind.i64.wrap (kp : Int) = (kp : Int) := by rw [IntKind.wrap_i64]; omega
          have w1 : (i : Int) < (kp : Int) + 1 := by omega
          have HE := Lib.hid e2
          have HPL := Lib.hid hPl
          have HROW2 := Lib.hid hr
          have HG2 := Lib.hid hg
          clear hy e2 e3 hP hR hPl hr hg
          rw [← hk1'] at t1
          have e1' : (kp : Int) + 1 = (k1 : Int) := by omega
          have z1' : (k1 : Int) < n := by omega
          have e3' : (k1 : Int) - 1 = (kp : Int) := by omega
          have e4' : k1 - 1 = kp := by omega
          clear z1 q1
          have hne : k1 ≠ kp := by omega
          have HK1 := Lib.hid hk1'
          clear hk1'
          go_wp2_with fail
          go_region
          all_goals go_wp2
          go_roundw
          case rel =>
            have hx := HROW2.out.nbr encTdr_len 1 HPL.out HK1.out
            exact ⟨kp, by omega, by omega, by first | rfl | go_num, by rw [← HE.out]; exact hx.1, ztrans HG2.out hx.2⟩
          case measure => simp [intOf]
        · have w1 : ¬ (i : Int) < (k : Int) := by omega
          have hfin2 : X ++ A1 ++ A2.take (k - i) ++ x :: (A2.drop (k - i) ++ Y) = X ++ mrg (ltz cf) A [x] ++ Y := by
            rw [HF.out, show k - i = 0 by omega]; simp
          rw [hfin2] at hr
          have HR2 := Lib.hid hr
          have HG2 := Lib.hid hg
          clear hfin2 hr hg
          go_wp2
          (try simp only [Exit.inBlock, Exit.then])
          refine bodyPost_ret (results_none rfl _ _ _) rfl ?_
          exact ⟨rfl, by simpa using HR2.out, HG2.out⟩
end Go.Proofs.Ytkdbdncboljfhaa
