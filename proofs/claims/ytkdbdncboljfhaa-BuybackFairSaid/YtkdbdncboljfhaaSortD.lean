/- slices.symMergeCmpFunc's short ways, at []int. -/
import Derived.Test.YtkdbdncboljfhaaSortC
namespace Go.Proofs.Ytkdbdncboljfhaa
open Go.RowKit
set_option linter.unusedVariables false
set_option linter.unusedSimpArgs false
section
variable {α : Type} {lt : α → α → Bool}
theorem asc_get (H : Wk lt) {B : List α} (hB : Asc lt B) {k l : Nat} {y z : α} (hkl : k ≤ l) (hy : B[k]? = some y) (hz : B[l]? = some z) : lt z y = false := by
  rcases Nat.lt_or_ge k l with h | h
  · obtain ⟨hk, rfl⟩ := List.getElem?_eq_some_iff.1 hy
    obtain ⟨hl, rfl⟩ := List.getElem?_eq_some_iff.1 hz
    exact (List.pairwise_iff_getElem.1 hB) k l hk hl h
  · have : k = l := by omega
    subst this
    rw [hy] at hz
    cases hz
    exact H.irr _
theorem mem_take' {B : List α} {i : Nat} {y : α} (h : y ∈ B.take i) : ∃ k, k < i ∧ B[k]? = some y := by
  obtain ⟨k, hk⟩ := List.mem_iff_getElem?.1 h
  have hl := (List.getElem?_eq_some_iff.1 hk).1
  rw [List.length_take] at hl
  rw [List.getElem?_take_of_lt (by omega)] at hk
  exact ⟨k, by omega, hk⟩
theorem mem_drop' {B : List α} {i : Nat} {y : α} (h : y ∈ B.drop i) : ∃ k, i ≤ k ∧ B[k]? = some y := by
  obtain ⟨k, hk⟩ := List.mem_iff_getElem?.1 h
  rw [List.getElem?_drop] at hk
  exact ⟨i + k, by omega, hk⟩
theorem asc_lo (H : Wk lt) {B : List α} (hB : Asc lt B) {x : α} {i : Nat} (h : i = 0 ∨ ∃ y, B[i - 1]? = some y ∧ lt y x = true) : ∀ y ∈ B.take i, lt y x = true := by
  intro y hy
  obtain ⟨k, hk, hk2⟩ := mem_take' hy
  rcases h with h | ⟨z, hz, hl⟩
  · omega
  · exact H.le_lt (asc_get H hB (show k ≤ i - 1 by omega) hk2 hz) hl
theorem asc_hi (H : Wk lt) {B : List α} (hB : Asc lt B) {x : α} {i : Nat} (h : B.length ≤ i ∨ ∃ y, B[i]? = some y ∧ lt y x = false) : ∀ y ∈ B.drop i, lt y x = false := by
  intro y hy
  obtain ⟨k, hk, hk2⟩ := mem_drop' hy
  rcases h with h | ⟨z, hz, hl⟩
  · have := (List.getElem?_eq_some_iff.1 hk2).1; omega
  · exact H.tr _ _ _ (asc_get H hB hk hz hk2) hl
theorem asc_lo' (H : Wk lt) {B : List α} (hB : Asc lt B) {x : α} {i : Nat} (h : i = 0 ∨ ∃ y, B[i - 1]? = some y ∧ lt x y = false) : ∀ y ∈ B.take i, lt x y = false := by
  intro y hy
  obtain ⟨k, hk, hk2⟩ := mem_take' hy
  rcases h with h | ⟨z, hz, hl⟩
  · omega
  · exact H.tr _ _ _ hl (asc_get H hB (show k ≤ i - 1 by omega) hk2 hz)
theorem asc_hi' (H : Wk lt) {B : List α} (hB : Asc lt B) {x : α} {i : Nat} (h : B.length ≤ i ∨ ∃ y, B[i]? = some y ∧ lt x y = true) : ∀ y ∈ B.drop i, lt x y = true := by
  intro y hy
  obtain ⟨k, hk, hk2⟩ := mem_drop' hy
  rcases h with h | ⟨z, hz, hl⟩
  · have := (List.getElem?_eq_some_iff.1 hk2).1; omega
  · exact H.lt_le hl (asc_get H hB hk hz hk2)
theorem mrg_put_back {S1 S2 : List α} {x : α} (h1 : ∀ y ∈ S1, lt x y = false) (h2 : ∀ y ∈ S2, lt x y = true) : mrg lt (S1 ++ S2) [x] = S1 ++ x :: S2 := by
  have e1 := mrg_append (lt := lt) S1 [] (A2 := S2) (B2 := [x]) (fun a ha b hb => by rw [List.mem_singleton.1 hb]; exact h1 a ha) (by simp)
  have e2 := mrg_append (lt := lt) [] [x] (A2 := S2) (B2 := ([] : List α)) (by simp) (fun a ha b hb => by rw [List.mem_singleton.1 hb]; exact h2 a ha)
  rw [List.nil_append, mrg_nil_r] at e1
  rw [List.nil_append, List.append_nil, mrg_nil_l, mrg_nil_r] at e2
  rw [e1, e2]; rfl
end
theorem half (i j : Nat) (h : i < j) : ∃ k : Nat, ((i : Int) + (j : Int)) / 2 = (k : Int) ∧ i ≤ k ∧ k < j := ⟨(i + j) / 2, by omega, by omega, by omega⟩

set_option maxHeartbeats 4000000 in
set_option maxRecDepth 100000 in
theorem symM_one (F : Nat) (cb : Array Value) (cf : Int → Int → Int) (Q : Int → Prop) (base g n cap a m b : Nat) (x : Int) (X B Y : List Int) (w : World)
    (eg : ∀ args w, (callFunc F args).run Try.prog w = .ok (.enter F args) w) (hcmp : Cmps F cb g cf Q w) (hW : Wk (ltc cf)) (hQx : Q x) (hQ : ∀ y ∈ B, Q y) (hB : Asc (ltc cf) B)
    (hrow : RowI base g n cap (X ++ x :: (B ++ Y)) w) (ha : X.length = a) (hm : m = a + 1) (hb : m + B.length = b) (hn : n ≤ 1000000000) :
    Calls Try.prog 70 #[.slice (some ⟨g, 0, none⟩) n cap, .int .i64 a, .int .i64 m, .int .i64 b, .func (.func F) #[] cb] w fun e w' => e = .returned (.tuple #[]) ∧ RowI base g n cap (X ++ mrg (ltc cf) [x] B ++ Y) w' ∧ w.grownBy w' (some g) := by
  have hlen : X.length + B.length + Y.length + 1 = n := by have := hrow.2; simp at this; omega
  have hbn : b ≤ n := by omega
  have hmb : m ≤ b := by omega
  have e1 : (m : Int) - a = 1 := by omega
  have HC := Lib.hid hcmp
  have HQ := Lib.hid hQ
  have HA := Lib.hid ha
  have HM := Lib.hid hm
  have HB := Lib.hid hb
  have HW := Lib.hid hW
  have HS := Lib.hid hB
  have HR := Lib.hid hrow
  have haz : (a : Int) < n := by omega
  have ham : a < m := by omega
  clear hcmp hQ hW hB hrow hlen ha hm hb
  go_enter Try.func70, Try.ntmps70
  go_wp2
  go_loopw [10, 11] (fun iv jv wr => ∃ i j : Nat, m ≤ i ∧ i ≤ j ∧ j ≤ b ∧ iv = .int .i64 i ∧ jv = .int .i64 j ∧ (i - m = 0 ∨ ∃ y, B[i - m - 1]? = some y ∧ ltc cf y x = true) ∧ (B.length ≤ j - m ∨ ∃ y, B[j - m]? = some y ∧ ltc cf y x = false) ∧ RowI base g n cap (X ++ x :: (B ++ Y)) wr ∧ w.grownBy wr (some g)) (fun iv jv _ => (intOf jv).toNat - (intOf iv).toNat)
  case atStart => exact ⟨m, b, by omega, hmb, by omega, rfl, rfl, .inl (by omega), .inl (by have := HB.out; omega), HR.out, grefl _ _⟩
  case round =>
    obtain ⟨i, j, hmi, hij, hjb, rfl, rfl, hlo, hhi, hr, hg⟩ := hrel
    clear e1
    by_cases hlt : i < j
    · obtain ⟨k, hk, hk1, hk2⟩ := half i j hlt
      obtain ⟨y, hy⟩ : ∃ y, B[k - m]? = some y := ⟨_, List.getElem?_eq_getElem (by have := HB.out; omega)⟩
      obtain ⟨cx, -⟩ := hr.at_ (get_at X (B ++ Y) x HA.out)
      obtain ⟨cy, -⟩ := hr.at_ (j := k) (x := y) (by
        rw [List.getElem?_append_right (by have := HA.out; have := HM.out; omega), show k - X.length = (k - m) + 1 by have := HA.out; have := HM.out; omega, List.getElem?_cons_succ, List.getElem?_append_left (by have := HB.out; omega)]
        exact hy)
      have hc := fun q => HC.out (wr.drewN q) (gdrew hg q) y x (HQ.out y (List.mem_of_getElem? hy)) hQx
      obtain ⟨c, hcf⟩ : ∃ c, cf y x = c := ⟨_, rfl⟩
      simp only [hcf] at hc
      have hkz : (k : Int) < n := by omega
      have HCF := Lib.hid hcf
      have HLO := Lib.hid hlo
      have HHI := Lib.hid hhi
      have HY := Lib.hid hy
      have HROW := Lib.hid hr
      have HG := Lib.hid hg
      clear hcf hlo hhi hy hr hg
      by_cases hneg : c < 0
      all_goals
        go_wp2_with fail
        go_quiet ((go_at_fn F; exact Calls.quiet_of (hc _)))
        go_wp2
        go_roundw
        case rel => first
          | exact ⟨k + 1, j, by omega, by omega, by omega, by go_num, rfl, .inr ⟨y, by rw [show k + 1 - m - 1 = k - m by omega]; exact HY.out, by unfold ltc; rw [HCF.out]; exact decide_eq_true hneg⟩, HHI.out, HROW.out.drewN nq, gdrew HG.out nq⟩
          | exact ⟨i, k, by omega, by omega, by omega, rfl, rfl, HLO.out, .inr ⟨y, HY.out, by unfold ltc; rw [HCF.out]; exact decide_eq_false (by omega)⟩, HROW.out.drewN nq, gdrew HG.out nq⟩
        case measure => simp [intOf]; omega
    · obtain rfl : i = j := by omega
      have h1 := asc_lo HW.out HS.out hlo
      have h2 := asc_hi HW.out HS.out hhi
      obtain ⟨B1, hB1⟩ : ∃ B1, B.take (i - m) = B1 := ⟨_, rfl⟩
      obtain ⟨B2, hB2⟩ : ∃ B2, B.drop (i - m) = B2 := ⟨_, rfl⟩
      have hBB : B = B1 ++ B2 := by rw [← hB1, ← hB2, List.take_append_drop]
      have hl1 : B1.length = i - m := by rw [← hB1, List.length_take]; have := HB.out; omega
      rw [hB1] at h1
      rw [hB2] at h2
      have hfin : X ++ mrg (ltc cf) [x] B ++ Y = X ++ B1 ++ x :: (B2 ++ Y) := by rw [hBB, mrg_put_front h1 h2]; simp
      rw [hBB] at hr
      have HF := Lib.hid hfin
      have HL1 := Lib.hid hl1
      have HROW := Lib.hid hr
      have HG := Lib.hid hg
      clear h1 h2 hB1 hB2 hBB hl1 hfin hr hg hlo hhi
      go_wp2
      go_loopw [13] (fun kv wr => ∃ k : Nat, a ≤ k ∧ k + 1 ≤ i ∧ kv = .int .i64 k ∧ RowI base g n cap (X ++ B1.take (k - a) ++ x :: (B1.drop (k - a) ++ (B2 ++ Y))) wr ∧ w.grownBy wr (some g)) (fun kv _ => i - (intOf kv).toNat)
      case atStart => exact ⟨a, by omega, by omega, rfl, by rw [Nat.sub_self]; simpa using HROW.out, HG.out⟩
      case round =>
        obtain ⟨k, hk1, hk2, rfl, hr, hg⟩ := hrel
        have hM := HM.out
        by_cases hki : k + 1 < i
        · obtain ⟨y, hy⟩ : ∃ y, B1[k - a]? = some y := ⟨_, List.getElem?_eq_getElem (by have := HL1.out; omega)⟩
          rw [drop_cons hy, show k - a + 1 = k + 1 - a by omega] at hr
          obtain ⟨P, hP⟩ : ∃ P, X ++ B1.take (k - a) = P := ⟨_, rfl⟩
          obtain ⟨R, hR⟩ : ∃ R, B1.drop (k + 1 - a) ++ (B2 ++ Y) = R := ⟨_, rfl⟩
          have hPl : P.length = k := by rw [← hP, List.length_append, List.length_take]; have := HA.out; have := HL1.out; omega
          have e2 : P ++ y :: x :: R = X ++ B1.take (k + 1 - a) ++ x :: (B1.drop (k + 1 - a) ++ (B2 ++ Y)) := by
            rw [← hP, ← hR, show k + 1 - a = k - a + 1 by omega, take_snocZ hy]; simp
          rw [hP, List.cons_append, hR] at hr
          obtain ⟨ck, fk⟩ := hr.at_ (hPl ▸ (get_pair P R x y).1)
          obtain ⟨ck1, fk1⟩ := hr.at_ (hPl ▸ (get_pair P R x y).2)
          have z1 : (k : Int) + 1 < n := by omega
          have z0 : (k : Int) < n := by omega
          have q1 : (0 : Int) ≤ (k : Int) + 1 := by omega
          have t1 : ((k : Int) + 1).toNat = k + 1 := by omega
          have v1 : IntKind.i64.wrap ((k : Int) + 1) = (k : Int) + 1 := by rw [IntKind.wrap_i64]; omega
          have w1 : (k : Int) < (i : Int) - 1 := by omega
          have HE := Lib.hid e2
          have HPL := Lib.hid hPl
          have HROW2 := Lib.hid hr
          have HG2 := Lib.hid hg
          clear hy e2 hP hR hPl hr hg hM
          obtain ⟨k1, hk1'⟩ : ∃ k1, k1 = k + 1 := ⟨_, rfl⟩
          rw [← hk1'] at ck1 fk1 t1
          have hne : k ≠ k1 := by omega
          have HK1 := Lib.hid hk1'
          clear hk1'
          go_wp2_with fail
          go_region
          all_goals go_wp2
          go_roundw
          case rel =>
            have hx := HROW2.out.swap k k1 y x 1
            rw [HK1.out] at hx
            rw [show (((P ++ x :: y :: R).set k y).set (k + 1) x) = P ++ y :: x :: R by rw [← HPL.out]; exact set_pair' P R x y y x] at hx
            rw [← HK1.out] at hx
            exact ⟨k + 1, by omega, by omega, by go_num, by rw [← HE.out]; exact hx.1, gtrans HG2.out hx.2⟩
          case measure => simp [intOf]; omega
        · have w1 : ¬ (k : Int) < (i : Int) - 1 := by omega
          have hfin2 : X ++ B1.take (k - a) ++ x :: (B1.drop (k - a) ++ (B2 ++ Y)) = X ++ mrg (ltc cf) [x] B ++ Y := by
            rw [HF.out, List.take_of_length_le (by have := HL1.out; omega), List.drop_of_length_le (by have := HL1.out; omega)]; simp
          rw [hfin2] at hr
          have HR2 := Lib.hid hr
          have HG2 := Lib.hid hg
          clear hfin2 hr hg hM
          go_wp2
          (try simp only [Exit.inBlock, Exit.then])
          refine bodyPost_ret (results_none rfl _ _ _) rfl ?_
          exact ⟨rfl, by simpa using HR2.out, HG2.out⟩
set_option maxHeartbeats 4000000 in
set_option maxRecDepth 100000 in
theorem symM_last (F : Nat) (cb : Array Value) (cf : Int → Int → Int) (Q : Int → Prop) (base g n cap a m b : Nat) (x : Int) (X A Y : List Int) (w : World)
    (eg : ∀ args w, (callFunc F args).run Try.prog w = .ok (.enter F args) w) (hcmp : Cmps F cb g cf Q w) (hW : Wk (ltc cf)) (hQx : Q x) (hQ : ∀ y ∈ A, Q y) (hA : Asc (ltc cf) A) (hA2 : A.length ≠ 1) (hA0 : 0 < A.length)
    (hrow : RowI base g n cap (X ++ A ++ x :: Y) w) (ha : X.length = a) (hm : a + A.length = m) (hb : b = m + 1) (hn : n ≤ 1000000000) :
    Calls Try.prog 70 #[.slice (some ⟨g, 0, none⟩) n cap, .int .i64 a, .int .i64 m, .int .i64 b, .func (.func F) #[] cb] w fun e w' => e = .returned (.tuple #[]) ∧ RowI base g n cap (X ++ mrg (ltc cf) A [x] ++ Y) w' ∧ w.grownBy w' (some g) := by
  have hlen : X.length + A.length + Y.length + 1 = n := by have := hrow.2; simp at this; omega
  have hbn : b ≤ n := by omega
  have ham : a < m := by omega
  have e0 : (((m : Int) - a) == 1) = false := by simp; omega
  have e1 : (b : Int) - m = 1 := by omega
  have HC := Lib.hid hcmp
  have HQ := Lib.hid hQ
  have HA := Lib.hid ha
  have HM := Lib.hid hm
  have HB := Lib.hid hb
  have HW := Lib.hid hW
  have HS := Lib.hid hA
  have HR := Lib.hid hrow
  have hmz : (m : Int) < n := by omega
  have hmb : m < b := by omega
  clear hcmp hQ hW hA hrow hlen ha hm hb hA2 hA0
  go_enter Try.func70, Try.ntmps70
  go_wp2
  go_loopw [14, 15] (fun iv jv wr => ∃ i j : Nat, a ≤ i ∧ i ≤ j ∧ j ≤ m ∧ iv = .int .i64 i ∧ jv = .int .i64 j ∧ (i - a = 0 ∨ ∃ y, A[i - a - 1]? = some y ∧ ltc cf x y = false) ∧ (A.length ≤ j - a ∨ ∃ y, A[j - a]? = some y ∧ ltc cf x y = true) ∧ RowI base g n cap (X ++ A ++ x :: Y) wr ∧ w.grownBy wr (some g)) (fun iv jv _ => (intOf jv).toNat - (intOf iv).toNat)
  case atStart => exact ⟨a, m, by omega, by omega, by omega, rfl, rfl, .inl (by omega), .inl (by have := HM.out; omega), HR.out, grefl _ _⟩
  case round =>
    obtain ⟨i, j, hmi, hij, hjb, rfl, rfl, hlo, hhi, hr, hg⟩ := hrel
    clear e1
    by_cases hlt : i < j
    · obtain ⟨k, hk, hk1, hk2⟩ := half i j hlt
      obtain ⟨y, hy⟩ : ∃ y, A[k - a]? = some y := ⟨_, List.getElem?_eq_getElem (by have := HM.out; omega)⟩
      obtain ⟨cx, -⟩ := hr.at_ (get_at (X ++ A) Y x (j := m) (by have := HM.out; have := HA.out; simp; omega))
      obtain ⟨cy, -⟩ := hr.at_ (j := k) (x := y) (by
        rw [List.getElem?_append_left (by have := HM.out; have := HA.out; simp; omega), List.getElem?_append_right (by have := HA.out; omega), HA.out]
        exact hy)
      have hc := fun q => HC.out (wr.drewN q) (gdrew hg q) x y hQx (HQ.out y (List.mem_of_getElem? hy))
      obtain ⟨c, hcf⟩ : ∃ c, cf x y = c := ⟨_, rfl⟩
      simp only [hcf] at hc
      have hkz : (k : Int) < n := by omega
      have HCF := Lib.hid hcf
      have HLO := Lib.hid hlo
      have HHI := Lib.hid hhi
      have HY := Lib.hid hy
      have HROW := Lib.hid hr
      have HG := Lib.hid hg
      clear hcf hlo hhi hy hr hg
      rcases (show decide (c < 0) = true ∨ decide (c < 0) = false by cases decide (c < 0) <;> simp) with hneg | hneg
      all_goals
        go_wp2_with fail
        go_quiet ((go_at_fn F; exact Calls.quiet_of (hc _)))
        go_wp2
        go_roundw
        case rel => first
          | exact ⟨k + 1, j, by omega, by omega, by omega, by go_num, rfl, .inr ⟨y, by rw [show k + 1 - a - 1 = k - a by omega]; exact HY.out, by unfold ltc; rw [HCF.out]; first | exact hneg | exact decide_eq_false (by omega)⟩, HHI.out, HROW.out.drewN nq, gdrew HG.out nq⟩
          | exact ⟨i, k, by omega, by omega, by omega, rfl, rfl, HLO.out, .inr ⟨y, HY.out, by unfold ltc; rw [HCF.out]; first | exact hneg | exact decide_eq_true hneg⟩, HROW.out.drewN nq, gdrew HG.out nq⟩
        case measure => simp [intOf]; omega
    · obtain rfl : i = j := by omega
      have h1 := asc_lo' HW.out HS.out hlo
      have h2 := asc_hi' HW.out HS.out hhi
      obtain ⟨A1, hA1⟩ : ∃ A1, A.take (i - a) = A1 := ⟨_, rfl⟩
      obtain ⟨A2, hA2⟩ : ∃ A2, A.drop (i - a) = A2 := ⟨_, rfl⟩
      have hAA : A = A1 ++ A2 := by rw [← hA1, ← hA2, List.take_append_drop]
      have hl1 : A1.length = i - a := by rw [← hA1, List.length_take]; have := HM.out; omega
      have hl2 : A2.length = m - i := by rw [← hA2, List.length_drop]; have := HM.out; omega
      rw [hA1] at h1
      rw [hA2] at h2
      have hfin : X ++ mrg (ltc cf) A [x] ++ Y = X ++ A1 ++ x :: (A2 ++ Y) := by rw [hAA, mrg_put_back h1 h2]; simp
      rw [hAA] at hr
      have HF := Lib.hid hfin
      have HL1 := Lib.hid hl1
      have HL2 := Lib.hid hl2
      have HROW := Lib.hid hr
      have HG := Lib.hid hg
      clear h1 h2 hA1 hA2 hAA hl1 hl2 hfin hr hg hlo hhi
      go_wp2
      go_loopw [17] (fun kv wr => ∃ k : Nat, i ≤ k ∧ k ≤ m ∧ kv = .int .i64 k ∧ RowI base g n cap (X ++ A1 ++ A2.take (k - i) ++ x :: (A2.drop (k - i) ++ Y)) wr ∧ w.grownBy wr (some g)) (fun kv _ => (intOf kv).toNat)
      case atStart => exact ⟨m, by omega, by omega, rfl, by rw [List.take_of_length_le (by have := HL2.out; omega), List.drop_of_length_le (by have := HL2.out; omega)]; simpa using HROW.out, HG.out⟩
      case round =>
        obtain ⟨k, hk1, hk2, rfl, hr, hg⟩ := hrel
        by_cases hki : i < k
        · obtain ⟨kp, rfl⟩ : ∃ kp, k = kp + 1 := ⟨k - 1, by omega⟩
          obtain ⟨y, hy⟩ : ∃ y, A2[kp - i]? = some y := ⟨_, List.getElem?_eq_getElem (by have := HL2.out; omega)⟩
          obtain ⟨P, hP⟩ : ∃ P, X ++ A1 ++ A2.take (kp - i) = P := ⟨_, rfl⟩
          obtain ⟨R, hR⟩ : ∃ R, A2.drop (kp - i + 1) ++ Y = R := ⟨_, rfl⟩
          have hPl : P.length = kp := by rw [← hP, List.length_append, List.length_append, List.length_take]; have := HA.out; have := HL1.out; have := HL2.out; omega
          have e2 : P ++ x :: y :: R = X ++ A1 ++ A2.take (kp - i) ++ x :: (A2.drop (kp - i) ++ Y) := by
            rw [← hP, ← hR, drop_cons hy]; simp
          have e3 : X ++ A1 ++ A2.take (kp + 1 - i) ++ x :: (A2.drop (kp + 1 - i) ++ Y) = P ++ y :: x :: R := by
            rw [← hP, ← hR, show kp + 1 - i = kp - i + 1 by omega, take_snocZ hy]; simp
          rw [e3] at hr
          obtain ⟨ck, fk⟩ := hr.at_ (hPl ▸ (get_pair P R y x).1)
          obtain ⟨ck1, fk1⟩ := hr.at_ (hPl ▸ (get_pair P R y x).2)
          have z1 : (kp : Int) + 1 < n := by omega
          have z0 : (kp : Int) < n := by omega
          have q1 : (0 : Int) ≤ (kp : Int) + 1 := by omega
          have t1 : ((kp : Int) + 1).toNat = kp + 1 := by omega
          have v1 : IntKind.i64.wrap (kp : Int) = (kp : Int) := by rw [IntKind.wrap_i64]; omega
          have w1 : (i : Int) < (kp : Int) + 1 := by omega
          have HE := Lib.hid e2
          have HPL := Lib.hid hPl
          have HROW2 := Lib.hid hr
          have HG2 := Lib.hid hg
          clear hy e2 e3 hP hR hPl hr hg
          obtain ⟨k1, hk1'⟩ : ∃ k1, k1 = kp + 1 := ⟨_, rfl⟩
          rw [← hk1'] at ck1 fk1 t1
          have hne : k1 ≠ kp := by omega
          have HK1 := Lib.hid hk1'
          clear hk1'
          go_wp2_with fail
          go_region
          all_goals go_wp2
          go_roundw
          case rel =>
            have hx := HROW2.out.nbr 1 HPL.out HK1.out
            exact ⟨kp, by omega, by omega, by first | rfl | go_num, by rw [← HE.out]; exact hx.1, gtrans HG2.out hx.2⟩
          case measure => simp [intOf]
        · have w1 : ¬ (i : Int) < (k : Int) := by omega
          have hfin2 : X ++ A1 ++ A2.take (k - i) ++ x :: (A2.drop (k - i) ++ Y) = X ++ mrg (ltc cf) A [x] ++ Y := by
            rw [HF.out, show k - i = 0 by omega]; simp
          rw [hfin2] at hr
          have HR2 := Lib.hid hr
          have HG2 := Lib.hid hg
          clear hfin2 hr hg
          go_wp2
          (try simp only [Exit.inBlock, Exit.then])
          refine bodyPost_ret (results_none rfl _ _ _) rfl ?_
          exact ⟨rfl, by simpa using HR2.out, HG2.out⟩
end Go.Proofs.Ytkdbdncboljfhaa
