/- slices.symMergeCmpFunc at []int. -/
import Derived.Test.YtkdbdncboljfhaaSortD
import Derived.Deep.DeepCutAuto
import Derived.Deep.CutRange
import Derived.Deep.CutBlock
namespace Go.Proofs.Ytkdbdncboljfhaa
open Go.RowKit
set_option linter.unusedVariables false
set_option linter.unusedSimpArgs false
theorem mrg_cut {α : Type} {lt : α → α → Bool} (H : Wk lt) {A B : List α} (hA : Asc lt A) (hB : Asc lt B) {i j : Nat}
    (h1 : i = 0 ∨ B.length ≤ j ∨ ∃ x y, A[i - 1]? = some x ∧ B[j]? = some y ∧ lt y x = false) (h2 : A.length ≤ i ∨ j = 0 ∨ ∃ x y, A[i]? = some x ∧ B[j - 1]? = some y ∧ lt y x = true) :
    mrg lt A B = mrg lt (A.take i) (B.take j) ++ mrg lt (A.drop i) (B.drop j) := by
  have := mrg_append (lt := lt) (A.take i) (B.take j) (A2 := A.drop i) (B2 := B.drop j) (fun x hx y hy => by
    obtain ⟨k, hk, hk2⟩ := mem_take' hx
    obtain ⟨l, hl, hl2⟩ := mem_drop' hy
    rcases h1 with h1 | h1 | ⟨u, v, hu, hv, huv⟩
    · omega
    · have := (List.getElem?_eq_some_iff.1 hl2).1; omega
    · exact H.tr _ _ _ (H.tr _ _ _ (asc_get H hB hl hv hl2) huv) (asc_get H hA (show k ≤ i - 1 by omega) hk2 hu)) (fun x hx y hy => by
    obtain ⟨k, hk, hk2⟩ := mem_drop' hx
    obtain ⟨l, hl, hl2⟩ := mem_take' hy
    rcases h2 with h2 | h2 | ⟨u, v, hu, hv, huv⟩
    · have := (List.getElem?_eq_some_iff.1 hk2).1; omega
    · omega
    · exact H.lt_le (H.le_lt (asc_get H hB (show l ≤ j - 1 by omega) hl2 hv) huv) (asc_get H hA hk hu hk2))
  rw [List.take_append_drop, List.take_append_drop] at this
  exact this
theorem mrg_disj {α : Type} {lt : α → α → Bool} {A B : List α} (h : A = [] ∨ B = []) : mrg lt A B = A ++ B := by
  rcases h with rfl | rfl
  · rw [mrg_nil_l]; rfl
  · rw [mrg_nil_r]; simp
/-- what symMergeCmpFunc does with parts that have at most N elements together -/
def SymM (F : Nat) (cb : Array Value) (cf : Int → Int → Int) (Q : Int → Prop) (base g n cap N : Nat) : Prop :=
    ∀ (a m b : Nat) (X A B Y : List Int) (w : World), b - a ≤ N → Cmps F cb g cf Q w → (∀ y ∈ A, Q y) → (∀ y ∈ B, Q y) → Asc (ltc cf) A → Asc (ltc cf) B → 0 < A.length → 0 < B.length →
    RowI base g n cap (X ++ A ++ B ++ Y) w → X.length = a → a + A.length = m → m + B.length = b →
    Calls Try.prog 70 #[.slice (some ⟨g, 0, none⟩) n cap, .int .i64 a, .int .i64 m, .int .i64 b, .func (.func F) #[] cb] w fun e w' => e = .returned (.tuple #[]) ∧ RowI base g n cap (X ++ mrg (ltc cf) A B ++ Y) w' ∧ w.grownBy w' (some g)
set_option maxHeartbeats 8000000 in
set_option maxRecDepth 100000 in
theorem symM_step (F : Nat) (cb : Array Value) (cf : Int → Int → Int) (Q : Int → Prop) (base g n cap N : Nat) (eg : ∀ args w, (callFunc F args).run Try.prog w = .ok (.enter F args) w) (hW : Wk (ltc cf)) (hn : n ≤ 1000000000) (ih : SymM F cb cf Q base g n cap N)
    (a m b : Nat) (X A B Y : List Int) (w : World) (hN : b - a ≤ N + 1) (hcmp : Cmps F cb g cf Q w) (hQA : ∀ y ∈ A, Q y) (hQB : ∀ y ∈ B, Q y) (hA : Asc (ltc cf) A) (hB : Asc (ltc cf) B) (hA0 : 0 < A.length) (hB0 : 0 < B.length)
    (hrow : RowI base g n cap (X ++ A ++ B ++ Y) w) (ha : X.length = a) (hm : a + A.length = m) (hb : m + B.length = b) :
    Calls Try.prog 70 #[.slice (some ⟨g, 0, none⟩) n cap, .int .i64 a, .int .i64 m, .int .i64 b, .func (.func F) #[] cb] w fun e w' => e = .returned (.tuple #[]) ∧ RowI base g n cap (X ++ mrg (ltc cf) A B ++ Y) w' ∧ w.grownBy w' (some g) := by
    by_cases hA1 : A.length = 1
    · obtain ⟨x, rfl⟩ := List.length_eq_one_iff.1 hA1
      exact symM_one F cb cf Q base g n cap a m b x X B Y w eg hcmp hW (hQA x (by simp)) hQB hB (by simpa using hrow) ha (by simp at hm; omega) hb hn
    by_cases hB1 : B.length = 1
    · obtain ⟨x, rfl⟩ := List.length_eq_one_iff.1 hB1
      exact symM_last F cb cf Q base g n cap a m b x X A Y w eg hcmp hW (hQB x (by simp)) hQA hA hA1 hA0 (by simpa using hrow) ha hm (by simp at hb; omega) hn
    have hlen : X.length + A.length + B.length + Y.length = n := by have := hrow.2; simp at this; omega
    have hbn : b ≤ n := by omega
    have ham : a + 2 ≤ m := by omega
    have hmb : m + 2 ≤ b := by omega
    have e0 : (((m : Int) - a) == 1) = false := by simp; omega
    have e1 : (((b : Int) - m) == 1) = false := by simp; omega
    obtain ⟨mid, hmid, hmd1, hmd2⟩ : ∃ k : Nat, ((a : Int) + (b : Int)) / 2 = (k : Int) ∧ 2 * k ≤ a + b ∧ a + b ≤ 2 * k + 1 := ⟨(a + b) / 2, by omega, by omega, by omega⟩
    have HW := Lib.hid hW
    have HC := Lib.hid hcmp
    have HIH := Lib.hid ih
    have HQA := Lib.hid hQA
    have HQB := Lib.hid hQB
    have HA := Lib.hid ha
    have HM := Lib.hid hm
    have HB := Lib.hid hb
    have HSA := Lib.hid hA
    have HSB := Lib.hid hB
    have HR := Lib.hid hrow
    clear hcmp ih hW hQA hQB hA hB hrow hlen ha hm hb hA0 hB0 hA1 hB1
    obtain ⟨lo, hi, hlo1, hlo2, hhi1, hhi2, hside, hsl, hsh⟩ : ∃ lo hi : Nat, a ≤ lo ∧ lo ≤ hi ∧ hi ≤ m ∧ hi ≤ mid ∧ (mid + m ≤ lo + b ∧ mid + m - lo ≤ b) ∧ (if mid < m then (mid : Int) + m - b = lo else a = lo) ∧ (if mid < m then mid = hi else m = hi) := by
      by_cases h : mid < m
      · refine ⟨mid + m - b, mid, by omega, by omega, by omega, by omega, by omega, ?_, ?_⟩
        · rw [if_pos h]; omega
        · rw [if_pos h]
      · refine ⟨a, m, by omega, by omega, by omega, by omega, by omega, ?_, ?_⟩
        · rw [if_neg h]
        · rw [if_neg h]
    have hcase : (lo = a ∧ hi = m) ∨ (mid + m = lo + b ∧ hi = mid) := by
      by_cases h : mid < m
      · rw [if_pos h] at hsl hsh; omega
      · rw [if_neg h] at hsl hsh; omega
    have HCASE := Lib.hid hcase
    have HSL := Lib.hid hsl
    have HSH := Lib.hid hsh
    obtain ⟨nn, hnn⟩ : ∃ nn : Nat, nn = mid + m := ⟨_, rfl⟩
    obtain ⟨pp, hpp⟩ : ∃ pp : Nat, pp + 1 = nn := ⟨nn - 1, by omega⟩
    have en : (mid : Int) + m = nn := by omega
    have ep : (nn : Int) - 1 = pp := by omega
    have HNN := Lib.hid hnn
    have HPP := Lib.hid hpp
    clear hcase hsl hsh hnn hpp
    go_enter Try.func70, Try.ntmps70
    go_upto_if 140 with fail
    go_cut [20, 21] from 138 to 146 (fun s20 s21 wx => s20 = .int .i64 lo ∧ s21 = .int .i64 hi ∧ wx = w)
    case first =>
      by_cases hmm : mid < m
      · have hmz : (mid : Int) < (m : Int) := by omega
        have h1 := HSL.out
        have h2 := HSH.out
        rw [if_pos hmm] at h1 h2
        have H1 := Lib.hid (show (nn : Int) - b = lo by have := HNN.out; omega)
        have H2 := Lib.hid h2
        clear h1 h2
        go_wp2
        go_meet
        rw [H1.out, H2.out]
        exact ⟨rfl, rfl, rfl⟩
      · have hmz : ¬ (mid : Int) < (m : Int) := by omega
        have h1 := HSL.out
        have h2 := HSH.out
        rw [if_neg hmm] at h1 h2
        have H1 := Lib.hid h1
        have H2 := Lib.hid h2
        clear h1 h2
        go_wp2
        go_meet
        rw [H1.out, H2.out]
        exact ⟨rfl, rfl, rfl⟩
    case rest =>
      obtain ⟨rfl, rfl, hwc⟩ := hcut
      have hwc := hwc.symm
      subst hwc
      have hlz : (lo : Int) ≤ n := by omega
      go_wp2
      go_loopw [20, 21] (fun sv rv wr => ∃ s r : Nat, lo ≤ s ∧ s ≤ r ∧ r ≤ hi ∧ sv = .int .i64 s ∧ rv = .int .i64 r ∧ (s = lo ∨ ∃ x y, A[s - a - 1]? = some x ∧ B[mid - s]? = some y ∧ ltc cf y x = false) ∧ (r = hi ∨ ∃ x y, A[r - a]? = some x ∧ B[mid - r - 1]? = some y ∧ ltc cf y x = true) ∧ RowI base g n cap (X ++ A ++ B ++ Y) wr ∧ w.grownBy wr (some g)) (fun sv rv _ => (intOf rv).toNat - (intOf sv).toNat)
      case atStart => exact ⟨lo, hi, Nat.le_refl _, hlo2, Nat.le_refl _, rfl, rfl, .inl rfl, .inl rfl, HR.out, grefl _ _⟩
      case round =>
        obtain ⟨s, r, hs1, hs2, hs3, rfl, rfl, hlo, hhi, hr, hg⟩ := hrel
        have hXA := HA.out
        have hAm := HM.out
        have hBb := HB.out
        have hnn := HNN.out
        have hpp := HPP.out
        by_cases hlt : s < r
        · obtain ⟨k, hk, hk1, hk2⟩ := half s r hlt
          obtain ⟨x, hx⟩ : ∃ x, A[k - a]? = some x := ⟨_, List.getElem?_eq_getElem (by omega)⟩
          obtain ⟨y, hy⟩ : ∃ y, B[mid - k - 1]? = some y := ⟨_, List.getElem?_eq_getElem (by omega)⟩
          obtain ⟨q, hq⟩ : ∃ q, q = pp - k := ⟨_, rfl⟩
          have eq1 : (pp : Int) - k = q := by omega
          obtain ⟨cx, -⟩ := hr.at_ (j := k) (x := x) (by
            rw [List.append_assoc, List.getElem?_append_left (by simp; omega), List.getElem?_append_right (by omega), hXA]
            exact hx)
          obtain ⟨cy, -⟩ := hr.at_ (j := q) (x := y) (by
            rw [List.getElem?_append_left (by simp; omega), List.getElem?_append_right (by simp; omega), List.length_append, show q - (X.length + A.length) = mid - k - 1 by omega]
            exact hy)
          have hc := fun z => HC.out (wr.drewN z) (gdrew hg z) y x (HQB.out y (List.mem_of_getElem? hy)) (HQA.out x (List.mem_of_getElem? hx))
          obtain ⟨c, hcf⟩ : ∃ c, cf y x = c := ⟨_, rfl⟩
          simp only [hcf] at hc
          have hkz : (k : Int) < n := by omega
          have hqz : (q : Int) < n := by omega
          have HCF := Lib.hid hcf
          have HLO := Lib.hid hlo
          have HHI := Lib.hid hhi
          have HX := Lib.hid hx
          have HY := Lib.hid hy
          have HROW := Lib.hid hr
          have HG := Lib.hid hg
          clear hcf hlo hhi hx hy hr hg hXA hAm hBb hnn hpp hq
          rcases (show decide (c < 0) = true ∨ decide (c < 0) = false by cases decide (c < 0) <;> simp) with hneg | hneg
          all_goals
            go_wp2_with fail
            go_quiet ((go_at_fn F; exact Calls.quiet_of (hc _)))
            go_wp2
            go_roundw
            case rel => first
              | exact ⟨k + 1, r, by omega, by omega, by omega, by go_num, rfl, .inr ⟨x, y, by rw [show k + 1 - a - 1 = k - a by omega]; exact HX.out, by rw [show mid - (k + 1) = mid - k - 1 by omega]; exact HY.out, by unfold ltc; rw [HCF.out]; exact hneg⟩, HHI.out, HROW.out.drewN nq, gdrew HG.out nq⟩
              | exact ⟨s, k, by omega, by omega, by omega, rfl, rfl, HLO.out, .inr ⟨x, y, HX.out, HY.out, by unfold ltc; rw [HCF.out]; exact hneg⟩, HROW.out.drewN nq, gdrew HG.out nq⟩
            case measure => simp [intOf]; omega
        · obtain rfl : s = r := by omega
          obtain ⟨q, hq⟩ : ∃ q, q = nn - s := ⟨_, rfl⟩
          have eq1 : (nn : Int) - s = q := by omega
          have hmq : m ≤ q := by omega
          have hqb : q ≤ b := by omega
          have hmidq : mid ≤ q := by omega
          have hsm : s ≤ m := by omega
          have hsmid : s ≤ mid := by omega
          have hcut := mrg_cut HW.out HSA.out HSB.out (i := s - a) (j := mid - s)
            (by
              rcases HCASE.out with h | h
              · rcases hlo with h' | h'
                · exact .inl (by omega)
                · exact .inr (.inr h')
              · rcases hlo with h' | h'
                · exact .inr (.inl (by omega))
                · exact .inr (.inr h'))
            (by
              rcases HCASE.out with h | h
              · rcases hhi with h' | h'
                · exact .inl (by omega)
                · exact .inr (.inr h')
              · rcases hhi with h' | h'
                · exact .inr (.inl (by omega))
                · exact .inr (.inr h'))
          obtain ⟨A1, hA1⟩ : ∃ A1, A.take (s - a) = A1 := ⟨_, rfl⟩
          obtain ⟨A2, hA2⟩ : ∃ A2, A.drop (s - a) = A2 := ⟨_, rfl⟩
          obtain ⟨B1, hB1⟩ : ∃ B1, B.take (mid - s) = B1 := ⟨_, rfl⟩
          obtain ⟨B2, hB2⟩ : ∃ B2, B.drop (mid - s) = B2 := ⟨_, rfl⟩
          have hAA : A = A1 ++ A2 := by rw [← hA1, ← hA2, List.take_append_drop]
          have hBB : B = B1 ++ B2 := by rw [← hB1, ← hB2, List.take_append_drop]
          have la1 : A1.length = s - a := by rw [← hA1, List.length_take]; omega
          have la2 : A2.length = m - s := by rw [← hA2, List.length_drop]; omega
          have lb1 : B1.length = mid - s := by rw [← hB1, List.length_take]; omega
          have lb2 : B2.length = b - q := by rw [← hB2, List.length_drop]; omega
          rw [hA1, hA2, hB1, hB2] at hcut
          have sA := HSA.out
          have sB := HSB.out
          have qA := HQA.out
          have qB := HQB.out
          rw [hAA] at sA qA hr
          rw [hBB] at sB qB hr
          have hQ := Lib.hid hq
          have HCUT := Lib.hid hcut
          have LA1 := Lib.hid la1
          have LA2 := Lib.hid la2
          have LB1 := Lib.hid lb1
          have LB2 := Lib.hid lb2
          have SA := Lib.hid (asc_append.1 sA)
          have SB := Lib.hid (asc_append.1 sB)
          have QA := Lib.hid qA
          have QB := Lib.hid qB
          have HROW := Lib.hid hr
          have HG := Lib.hid hg
          clear hlo hhi hr hg hXA hAm hBb hnn hpp hq hcut hA1 hA2 hB1 hB2 hAA hBB la1 la2 lb1 lb2 sA sB qA qB
          go_upto_region 39 with fail
          go_cut [185] from 178 to 185 (fun s185 wx => s185 = .bool (decide (s < m ∧ m < q)) ∧ wx = wr)
          case first =>
            by_cases h1 : s < m
            · by_cases h2 : m < q
              all_goals
                go_wp2
                go_meet
                exact ⟨by simp [h1, h2], rfl⟩
            · go_wp2
              go_meet
              exact ⟨by simp [h1], rfl⟩
          case rest =>
            obtain ⟨rfl, hwc⟩ := hcut
            have hwc := hwc.symm
            subst hwc
            go_upto_if 185 with fail
            go_cut [] from 178 to 191 (fun wx => RowI base g n cap (X ++ A1 ++ B1 ++ A2 ++ B2 ++ Y) wx ∧ w.grownBy wx (some g))
            case first =>
              by_cases h1 : s < m ∧ m < q
              · have hd : decide (s < m ∧ m < q) = true := by simpa using h1
                have hc := fun W (hW : W = wr) => rot_any (.func (.func F) #[] cb) base g n cap s m q (X ++ A1) A2 B1 (B2 ++ Y) W (by rw [hW]; simpa using HROW.out) (by have := HA.out; have := LA1.out; simp; omega) (by have := LA2.out; omega) (by have := LB1.out; have := HNN.out; have := hQ.out; omega) (by have := LA2.out; omega) (by have := LB1.out; have := HNN.out; have := hQ.out; omega) hn
                go_wp2_with (go_at_call 72; refine (hc _ rfl).mono ?_; rintro e w2 ⟨rfl, hr2, hg2⟩)
                go_meet
                exact ⟨by simpa using hr2, gtrans HG.out hg2⟩
              · have hd : decide (s < m ∧ m < q) = false := by simpa using h1
                have hdis : A2 = [] ∨ B1 = [] := by
                  rcases Nat.lt_or_ge s m with h | h
                  · exact .inr (List.eq_nil_of_length_eq_zero (by have := LB1.out; have := HNN.out; have := hQ.out; omega))
                  · exact .inl (List.eq_nil_of_length_eq_zero (by have := LA2.out; omega))
                have HD := Lib.hid (show RowI base g n cap (X ++ A1 ++ B1 ++ A2 ++ B2 ++ Y) wr by
                  have := HROW.out
                  rcases hdis with h | h <;> rw [h] at this ⊢ <;> simpa using this)
                clear hdis
                go_wp2
                go_meet
                exact ⟨HD.out, HG.out⟩
            case rest =>
              obtain ⟨hr1, hg1⟩ := hcut
              have HROW1 := Lib.hid hr1
              have HG1 := Lib.hid hg1
              clear hr1 hg1 HROW HG
              go_upto_region 41 with fail
              go_cut [199] from 192 to 199 (fun s199 wx => s199 = .bool (decide (a < s ∧ s < mid)) ∧ wx = wc)
              case first =>
                by_cases h1 : a < s
                · by_cases h2 : s < mid
                  all_goals
                    go_wp2
                    go_meet
                    exact ⟨by simp [h1, h2], rfl⟩
                · go_wp2
                  go_meet
                  exact ⟨by simp [h1], rfl⟩
              case rest =>
                obtain ⟨rfl, hwc⟩ := hcut
                rw [← hwc] at HROW1 HG1
                clear hwc
                go_upto_if 199 with fail
                go_cut [] from 192 to 205 (fun wx => RowI base g n cap (X ++ mrg (ltc cf) A1 B1 ++ A2 ++ B2 ++ Y) wx ∧ w.grownBy wx (some g))
                case first =>
                  by_cases h1 : a < s ∧ s < mid
                  · have hd : decide (a < s ∧ s < mid) = true := by simpa using h1
                    have hc := fun W (hW : w.grownBy W (some g)) (hR : RowI base g n cap (X ++ A1 ++ B1 ++ A2 ++ B2 ++ Y) W) => HIH.out a s mid X A1 B1 (A2 ++ B2 ++ Y) W (by omega) (HC.out.on hW) (fun y hy => QA.out y (List.mem_append_left _ hy)) (fun y hy => QB.out y (List.mem_append_left _ hy)) SA.out.1 SB.out.1 (by have := LA1.out; omega) (by have := LB1.out; omega) (by simpa using hR) HA.out (by have := LA1.out; omega) (by have := LB1.out; omega)
                    go_wp2_with (go_at_call 70; refine (hc _ HG1.out HROW1.out).mono ?_; rintro e w2 ⟨rfl, hr2, hg2⟩)
                    go_meet
                    exact ⟨by simpa using hr2, gtrans HG1.out hg2⟩
                  · have hd : decide (a < s ∧ s < mid) = false := by simpa using h1
                    have hdis : mrg (ltc cf) A1 B1 = A1 ++ B1 := mrg_disj (by
                      rcases Nat.lt_or_ge a s with h | h
                      · exact .inr (List.eq_nil_of_length_eq_zero (by have := LB1.out; omega))
                      · exact .inl (List.eq_nil_of_length_eq_zero (by have := LA1.out; omega)))
                    have HD := Lib.hid hdis
                    clear hdis
                    go_wp2
                    go_meet
                    exact ⟨by rw [HD.out]; simpa using HROW1.out, HG1.out⟩
                case rest =>
                  obtain ⟨hr1, hg1⟩ := hcut
                  have HROW2 := Lib.hid hr1
                  have HG2 := Lib.hid hg1
                  have HFIN := Lib.hid (show X ++ mrg (ltc cf) A1 B1 ++ mrg (ltc cf) A2 B2 ++ Y = X ++ mrg (ltc cf) A B ++ Y by rw [HCUT.out]; simp)
                  clear hr1 hg1 HROW1 HG1
                  by_cases h1 : mid < q
                  · by_cases h2 : q < b
                    · have hc := fun W (hW : w.grownBy W (some g)) (hR : RowI base g n cap (X ++ mrg (ltc cf) A1 B1 ++ A2 ++ B2 ++ Y) W) => HIH.out mid q b (X ++ mrg (ltc cf) A1 B1) A2 B2 Y W (by omega) (HC.out.on hW) (fun y hy => QA.out y (List.mem_append_right _ hy)) (fun y hy => QB.out y (List.mem_append_right _ hy)) SA.out.2.1 SB.out.2.1 (by have := LA2.out; have := HNN.out; have := hQ.out; omega) (by have := LB2.out; omega) hR (by have := HA.out; have := LA1.out; have := LB1.out; rw [List.length_append, mrg_length]; omega) (by have := LA2.out; have := HNN.out; have := hQ.out; omega) (by have := LB2.out; omega)
                      go_wp2_with (go_at_call 70; refine (hc _ HG2.out HROW2.out).mono ?_; rintro e w2 ⟨rfl, hr2, hg2⟩)
                      go_end0
                      exact ⟨rfl, by rw [HFIN.out] at hr2; simpa using hr2, gtrans HG2.out hg2⟩
                    · have hdis := mrg_disj (lt := ltc cf) (A := A2) (B := B2) (.inr (List.eq_nil_of_length_eq_zero (by have := LB2.out; omega)))
                      have HR3 := Lib.hid (show RowI base g n cap (X ++ mrg (ltc cf) A B ++ Y) wc by rw [← HFIN.out, hdis]; simpa using HROW2.out)
                      clear hdis
                      go_wp2
                      go_end0
                      exact ⟨rfl, by simpa using HR3.out, HG2.out⟩
                  · have hdis := mrg_disj (lt := ltc cf) (A := A2) (B := B2) (.inl (List.eq_nil_of_length_eq_zero (by have := LA2.out; have := HNN.out; have := hQ.out; omega)))
                    have HR3 := Lib.hid (show RowI base g n cap (X ++ mrg (ltc cf) A B ++ Y) wc by rw [← HFIN.out, hdis]; simpa using HROW2.out)
                    clear hdis
                    go_wp2
                    go_end0
                    exact ⟨rfl, by simpa using HR3.out, HG2.out⟩
theorem symM_any (F : Nat) (cb : Array Value) (cf : Int → Int → Int) (Q : Int → Prop) (base g n cap : Nat) (eg : ∀ args w, (callFunc F args).run Try.prog w = .ok (.enter F args) w) (hW : Wk (ltc cf)) (hn : n ≤ 1000000000) (N : Nat) : SymM F cb cf Q base g n cap N := by
  induction N with
  | zero => intro a m b X A B Y w hN hcmp hQA hQB hA hB hA0 hB0 hrow ha hm hb; omega
  | succ N ih => exact fun a m b X A B Y w hN hcmp hQA hQB hA hB hA0 hB0 hrow ha hm hb => symM_step F cb cf Q base g n cap N eg hW hn ih a m b X A B Y w hN hcmp hQA hQB hA hB hA0 hB0 hrow ha hm hb
end Go.Proofs.Ytkdbdncboljfhaa
