/- MoneySums: the law's walk. -/
import Derived.Test.YtkkgipcidbgbhaaMonS
import Derived.Test.YtkkgipcidbgbhaaMonC
namespace Go.Proofs.Ytkkgipcidbgbhaa
open Go.RowKit
set_option linter.unusedVariables false
set_option linter.unusedSimpArgs false
theorem sm_small : ∀ (L : List Int) (s B : Int), 0 ≤ B → (∀ x ∈ L, -B ≤ x ∧ x ≤ B) → -1000000000000000 ≤ s - L.length * B → s + L.length * B ≤ 1000000000000000 → smE s L = 0 ∧ smV s L = s + sumI L
  | [], s, B, _, _, _, _ => by simp [smE, smV, sumI]
  | x :: L, s, B, h0, h, h1, h2 => by
    have hx := h x (List.mem_cons_self ..)
    have e : (((x :: L).length : Nat) : Int) * B = L.length * B + B := by
      rw [List.length_cons, show ((L.length + 1 : Nat) : Int) = (L.length : Int) + 1 by omega, Int.add_mul, Int.one_mul]
    rw [e] at h1 h2
    have hp := Int.mul_nonneg (show (0 : Int) ≤ L.length by omega) h0
    obtain ⟨i1, i2⟩ := sm_small L (s + x) B h0 (fun y hy => h y (List.mem_cons_of_mem _ hy)) (by omega) (by omega)
    have t1 : ttB x = true := ttB_iff.2 (by omega)
    have t2 : ttB (s + x) = true := ttB_iff.2 (by omega)
    simp only [smE, smV, t1, t2, Bool.and_self, if_true, i1, i2, sumI]
    exact ⟨trivial, by omega⟩
theorem sum_bd {L : List Int} {B : Int} (h : ∀ x ∈ L, -B ≤ x ∧ x ≤ B) : -(L.length * B) ≤ sumI L ∧ sumI L ≤ L.length * B := by
  induction L with
  | nil => simp [sumI]
  | cons x L ih =>
    have := ih (fun y hy => h y (List.mem_cons_of_mem _ hy))
    have hx := h x (List.mem_cons_self ..)
    have e : (((x :: L).length : Nat) : Int) * B = L.length * B + B := by
      rw [List.length_cons, show ((L.length + 1 : Nat) : Int) = (L.length : Int) + 1 by omega, Int.add_mul, Int.one_mul]
    rw [e]; simp only [sumI]; omega
def lAt (L : List Int) (k : Int) : Int := L.getD k.toNat 0
theorem map_lAt (L : List Int) : (idxs L.length).map (lAt L) = L := by
  refine List.ext_getElem? fun k => ?_
  by_cases h : k < L.length
  · simp [idxs, lAt, h]
  · rw [List.getElem?_eq_none (by simp [idxs]; omega), List.getElem?_eq_none (by omega)]
theorem sum_order {L O : List Int} (h : O.Perm (idxs L.length)) : sumI (O.map (lAt L)) = sumI L := by
  rw [sumI_perm (h.map (lAt L)), map_lAt]
theorem mem2 {a b x : Int} (h : x ∈ [a, b]) : x = a ∨ x = b := by simpa using h
theorem mem3 {a b c x : Int} (h : x ∈ [a, b, c]) : x = a ∨ x = b ∨ x = c := by simpa using h
theorem _root_.Go.World.ownsRow.cap_max {w : World} {B z : Nat} {e : TypeId} {g n c : Nat} {xs : List Value} (h : w.ownsRow B e z (.slice (some ⟨g, 0, none⟩) n c) n xs) : c ≤ maxLen := by
  rcases h.2 with ⟨h, _⟩ | ⟨g', cap, cur, h, _, _, _, hc, _⟩
  · cases h
  · cases h; exact hc
theorem row_take {base g n c K : Nat} {L : List Int} {w : World} (h : RowI base g n c L w) (hK : K ≤ n) (hc : n ≤ c) (hm : c ≤ maxLen) : Sl 1 encI (fun b => base ≤ b) w (.slice (some ⟨g, 0, none⟩) K c) (L.take K) := by
  have hb := h.1.lt g rfl
  refine ⟨_, _, _, rfl, by rw [List.length_take, h.2]; omega, by omega, hm, .inr ⟨g, 0, rfl, hb.1, hb.2, fun j a hj i u hi => ?_⟩⟩
  have hj' : L[j]? = some a := by
    rw [List.getElem?_take] at hj
    split at hj
    · exact hj
    · cases hj
  match i, hi with
  | 0, hi => simp only [encI, List.getElem?_cons_zero, Option.some.injEq] at hi; subst hi; simpa using (h.at_ hj').1
theorem row_drop {base g n c K : Nat} {L : List Int} {w : World} (h : RowI base g n c L w) (hK : K ≤ n) (hc : n ≤ c) (hm : c ≤ maxLen) : Sl 1 encI (fun b => base ≤ b) w (.slice (some ⟨g, K, none⟩) (n - K) (c - K)) (L.drop K) := by
  have hb := h.1.lt g rfl
  refine ⟨_, _, _, rfl, by rw [List.length_drop, h.2], by omega, by omega, .inr ⟨g, K, rfl, hb.1, hb.2, fun j a hj i u hi => ?_⟩⟩
  have hj' : L[K + j]? = some a := by rw [List.getElem?_drop] at hj; exact hj
  match i, hi with
  | 0, hi => simp only [encI, List.getElem?_cons_zero, Option.some.injEq] at hi; subst hi; simpa using (h.at_ hj').1
def nilB (v : Value) (L : List Int) : Prop := L = [] → v = .slice none 0 0
set_option maxRecDepth 100000 in
set_option maxHeartbeats 64000000 in
theorem sums_walk (ao : Option Addr) (m c : Nat) (w : World) (hm : m ≤ c) (hc : c ≤ maxLen) (hz : m = 0 ∨ ∃ b off, ao = some ⟨b, off, none⟩ ∧ ∀ i, i < m → ∃ z : Int, w.cell? ⟨b, off + i, none⟩ = some (.int .i64 z)) :
    Calls Try.prog 7 #[.slice ao m c] w fun e w' => e = .returned (.bool true) ∧ Below w.heap.size w w' := by
  obtain ⟨i1, hi, hz0, hz1, hz2⟩ := info_parts infoInt
  have HNEW := Lib.hid (tnew_any ao m c w hm hc hz)
  clear hm hc hz
  go_enter Try.func7, Try.ntmps7
  go_wp2_with fail
  refine HNEW.out.mono ?_
  rintro e w1 ⟨sb, rfl, hsb, hS1, hB1⟩
  go_wp2_with fail
  refine (tn_any sb _ _ hS1 (by omega) (by omega)).mono ?_
  rintro e w6 ⟨n0, ⟨n1, n2⟩, rfl, hS6, hG6⟩
  have b6 := bgr hB1 hG6 hsb
  have hlt := srcOk_lt hS6
  clear hG6 hS1 hB1
  obtain ⟨N0, rfl⟩ := Int.eq_ofNat_of_zero_le n1
  go_wp2
  go_loopw [4, 6] (fun v kv wr => ∃ (L : List Int) (k : Nat), kv = .int .i64 k ∧ L.length + k ≤ 11 ∧ (∀ x ∈ L, -1000000000000 ≤ x ∧ x ≤ 1000000000000) ∧ wr.ownsRow w6.heap.size 3 1 v L.length (L.map cI) ∧ nilB v L ∧ SrcOk wr sb ∧ Below w.heap.size w wr ∧ w6.heap.size ≤ wr.heap.size) (fun _ kv _ => (intOf kv).toNat)
  case atStart => exact ⟨[], N0, rfl, by show 0 + N0 ≤ 11; omega, by simp, World.ownsRow_nil _ _ _ _, fun _ => rfl, hS6, b6, Nat.le_refl _⟩
  case round =>
    obtain ⟨L, k, rfl, hk, hL, hown, hnil, hSr, hbr, hzr⟩ := hrel
    have HL := Lib.hid hL
    have HB := Lib.hid hbr
    clear hL hbr
    by_cases hk0 : 0 < k
    · obtain ⟨j, rfl⟩ : ∃ j, k = j + 1 := ⟨k - 1, by omega⟩
      clear hk0 hnil
      go_wp2_with fail
      refine (tpick_lit sb [-1, 1] _ _ 2 _ hSr (by omega) (by omega) rfl rfl rfl).mono ?_
      rintro e w7 ⟨a, ha, rfl, hS7, hG7⟩
      have hown7 := town_grown hown hG7 hlt
      have HB7 := Lib.hid (bgr HB.out hG7 hsb)
      have z7 := hG7.size
      clear hown hSr hG7
      go_wp2_with fail
      refine (tn_any sb _ _ hS7 (by omega) (by omega)).mono ?_
      rintro e w8 ⟨y1, hy1, rfl, hS8, hG8⟩
      have hown8 := town_grown hown7 hG8 hlt
      have HB8 := Lib.hid (bgr HB7.out hG8 hsb)
      have z8 := hG8.size
      clear hown7 hS7 hG8
      go_wp2_with fail
      refine (tn_any sb _ _ hS8 (by omega) (by omega)).mono ?_
      rintro e w9 ⟨y2, hy2, rfl, hS9, hG9⟩
      have hown9 := town_grown hown8 hG9 hlt
      have HB9 := Lib.hid (bgr HB8.out hG9 hsb)
      have z9 := hG9.size
      clear hown8 hS8 hG9
      go_wp2_with fail
      refine (tpick_lit sb [y1, 1000000000000, y2] _ _ 3 w9 hS9 (by omega) (by omega) rfl rfl rfl).mono ?_
      rintro e w10 ⟨b, hb, rfl, hS10, hG10⟩
      have hown10 := town_grown hown9 hG10 hlt
      have HB10 := Lib.hid (bgr HB9.out hG10 hsb)
      have z10 := hG10.size
      obtain ⟨X, hX⟩ : ∃ X, a * b = X := ⟨_, rfl⟩
      have xb : -1000000000000 ≤ X ∧ X ≤ 1000000000000 := by
        have hb0 : 0 ≤ b ∧ b ≤ 1000000000000 := by rcases mem3 hb with h | h | h <;> omega
        rcases mem2 ha with rfl | rfl <;> omega
      have wX : IntKind.i64.wrap X = X := IntWalk.i64_in _ (by omega)
      have HX := Lib.hid xb
      clear hown9 hS9 hG10 ha hb hy1 hy2 xb
      go_wp2_with (at_builtin; go_must (refine wpList_append_lies _ rfl _ _ 22 rfl w6.heap.size 3 i1 (.int .i64 0) 1 8 Try.underlying22 hi hz0 hz1 hz2 rfl (by decide) _ _ _ rfl (hown10.alloc _) ⟨w10.heap.size, 0, none⟩ 1 1 [.int .i64 X] rfl rfl (news1 _ _ _) (one1 _ _) (by omega) (by unfold maxLen; omega) (by omega) (by simp; omega) _ rfl ?_); intro g' c' w11 hown' hgrow _ _; have hB11 : Below w6.heap.size w10 w11 := ((Below.refl _ _).alloc (by omega) _).grown hgrow (by simp; omega) (fun q hq => (hown10.lt q hq).1); have hz11 := hB11.size)
      go_roundw
      case rel => exact ⟨L ++ [X], j, by go_num, by simp; omega, fun y hy => by
        rcases List.mem_append.1 hy with h | h
        · exact HL.out y h
        · rw [List.mem_singleton.1 h]; exact HX.out, by rw [List.map_append, List.length_append]; exact hown', fun h => by simp at h, srcOk_below hS10 hB11 hlt, HB10.out.trans (hB11.mono (by omega)), by omega⟩
      case measure => simp [intOf]
    · have hk1 : k = 0 := by omega
      subst hk1
      rename World => W0
      obtain ⟨n, hn⟩ : ∃ n, L.length = n := ⟨_, rfl⟩
      rw [hn] at hk hown
      have HN := Lib.hid hn
      have HSM := Lib.hid (show ∀ M : List Int, M.length ≤ n → (∀ x ∈ M, -1000000000000 ≤ x ∧ x ≤ 1000000000000) → smE 0 M = 0 ∧ smV 0 M = sumI M from fun M hM hb => by have := sm_small M 0 1000000000000 (by omega) hb (by omega) (by omega); rw [Int.zero_add] at this; exact this)
      have HDR := Lib.hid hown
      by_cases h0 : n = 0
      · have hL0 : L = [] := List.eq_nil_of_length_eq_zero (by rw [HN.out]; exact h0)
        have hv := hnil hL0
        subst hL0 h0 hv
        clear hown hnil HDR hn HL HSM hk HN
        go_wp2_with fail
        refine (torder_any sb 0 W0 hSr (by omega)).mono ?_
        rintro e w7 ⟨v2, O, rfl, hO, hown2, hS7, hG7⟩
        obtain ⟨a2, c2, rfl⟩ : ∃ ao c, v2 = .slice ao 0 c := by
          rcases hown2.2 with ⟨h, _⟩ | ⟨g', cap, cur, h, _⟩
          · exact ⟨_, _, h⟩
          · exact ⟨_, _, h⟩
        have HB7 := Lib.hid (bgr HB.out hG7 hsb)
        clear hown2 hG7 hO HB hSr
        go_wp2
        go_loopw [5, 47] (fun mv iv wr => iv = .int .i64 0 ∧ mv = .slice none 0 0 ∧ wr = w7) (fun _ iv _ => 0)
        case atStart => exact ⟨rfl, rfl, rfl⟩
        case round =>
          obtain ⟨rfl, rfl, rfl⟩ := hrel
          rename World => W9
          go_wp2_with fail
          refine (tn_any sb _ _ hS7 (by omega) (by omega)).mono ?_
          rintro e w10 ⟨kv, ⟨k0, k1⟩, rfl, hS10, hG10⟩
          have hkv : kv = 0 := by omega
          subst hkv
          have HB10 := Lib.hid (bgr HB7.out hG10 hsb)
          have S1 : smV 0 [] = 0 := rfl
          have S1E : smE 0 [] = 0 := rfl
          have S5V : adV 0 0 = 0 := by decide
          have S5E : adE 0 0 = 0 := by decide
          have C1 := Lib.hid (sum_any (fun _ => True) _ [] w10 Sl.nil (by simp))
          rw [S1, S1E] at C1
          have C5 := Lib.hid (add_any 0 0 w10)
          rw [S5V, S5E] at C5
          clear S1 S1E S5V S5E hS10 hG10 hS7 k0 k1
          go_wp2_with fail
          refine C1.out.mono ?_
          rintro e w11 ⟨rfl, rfl⟩
          go_wp2_with fail
          refine C1.out.mono ?_
          rintro e w11 ⟨rfl, rfl⟩
          go_wp2_with fail
          refine C1.out.mono ?_
          rintro e w11 ⟨rfl, rfl⟩
          go_wp2_with fail
          refine C1.out.mono ?_
          rintro e w11 ⟨rfl, rfl⟩
          go_wp2_with fail
          refine C5.out.mono ?_
          rintro e w11 ⟨rfl, hb11⟩
          have HB11 := Lib.hid (bup HB10.out hb11)
          clear hb11
          go_wp2_with (go_at_call 35; refine (awake_any _).mono ?_; rintro e w12 ⟨rfl, hb12⟩)
          go_ret
          exact ⟨rfl, bup HB11.out hb12⟩
      · obtain ⟨g, cp, rfl, hg, hgz⟩ := hown.form (by omega)
        have HR := Lib.hid (show RowI w6.heap.size g n cp L W0 from ⟨hown, hn⟩)
        have hcap := hown.cap_le
        have hlt0 := srcOk_lt hSr
        clear hown hnil HDR hn
        go_wp2_with fail
        refine (torder_any sb n W0 hSr (by omega)).mono ?_
        rintro e w7 ⟨v2, O, rfl, hO, hown2, hS7, hG7⟩
        obtain ⟨g2, cp2, rfl, hg2, hg2z⟩ := hown2.form (by omega)
        have hOl : O.length = n := by rw [hO.length_eq, idxs_length]
        have HR2 := Lib.hid (show RowI W0.heap.size g2 n cp2 O w7 from ⟨hown2, hOl⟩)
        have HRL := Lib.hid (show RowI w6.heap.size g n cp L w7 from ⟨town_grown HR.out.1 hG7 hlt, HR.out.2⟩)
        have HB7 := Lib.hid (bgr HB.out hG7 hsb)
        have z7 := hG7.size
        have HO := Lib.hid hO
        have HOM := Lib.hid (show ∀ x ∈ O, 0 ≤ x ∧ x < n from fun x hx => idxs_mem (hO.mem_iff.1 hx))
        clear hOl hown2 hG7 hO HB HR hSr
        go_wp2
        go_loopw [5, 47] (fun mv iv wr => ∃ k : Nat, k ≤ n ∧ iv = .int .i64 k ∧ wr.ownsRow w7.heap.size 3 1 mv k (((O.take k).map (lAt L)).map cI) ∧ Below w7.heap.size w7 wr) (fun _ iv _ => n - (intOf iv).toNat)
        case atStart => exact ⟨0, by omega, rfl, World.ownsRow_nil _ _ _ _, brefl⟩
        case round =>
          obtain ⟨k, hk2, rfl, hrm, hbm⟩ := hrel
          have zm := hbm.size
          have HBM := Lib.hid hbm
          clear hbm
          by_cases hkn : k < n
          · have hkz : (k : Int) < n := by omega
            obtain ⟨x, hx⟩ : ∃ x, O[k]? = some x := ⟨_, List.getElem?_eq_getElem (by rw [HR2.out.2]; omega)⟩
            have bx := HOM.out x (List.mem_of_getElem? hx)
            obtain ⟨a, rfl⟩ := Int.eq_ofNat_of_zero_le bx.1
            have ha : a < n := by omega
            have haz : (a : Int) < n := bx.2
            obtain ⟨y, hy⟩ : ∃ y, L[a]? = some y := ⟨_, List.getElem?_eq_getElem (by rw [HRL.out.2]; omega)⟩
            have cx := keepB HBM.out (HR2.out.at_ hx).1
            have cy := keepB HBM.out (HRL.out.at_ hy).1
            have HNX := Lib.hid (show (O.take (k + 1)).map (lAt L) = (O.take k).map (lAt L) ++ [y] by rw [take_snocZ hx, List.map_append]; simp [lAt, List.getD_eq_getElem?_getD, hy])
            clear hx hy bx
            go_wp2_with (at_builtin; go_must (refine wpList_append_own _ rfl _ _ 22 rfl w7.heap.size 3 i1 (.int .i64 0) 1 8 Try.underlying22 hi hz0 hz1 hz2 rfl (by decide) _ _ _ rfl (hrm.alloc _) ⟨wr.heap.size, 0, none⟩ 1 1 [.int .i64 y] rfl rfl (news1 _ _ _) (one1 _ _) (by unfold maxLen; omega) (by omega) (by simp; omega) ?_); intro v' w10 hown' hgrow _; have HB10 := Lib.hid ((bal HBM.out _).grown hgrow (by simp; omega) (fun q hq => (hrm.lt q hq).1)); clear hgrow)
            go_roundw
            case rel => exact ⟨k + 1, by omega, by go_num, by rw [HNX.out, List.map_append]; exact hown', HB10.out⟩
            case measure => simp [intOf]; omega
          · have hkn2 : k = n := by omega
            subst hkn2
            rename World => W9
            rw [take_all (by rw [HR2.out.2]; omega)] at hrm
            have HRM := Lib.hid hrm
            obtain ⟨am, nm, cm, rfl, hnm, -, -⟩ := (Sl.own encI_len (P := fun b => w7.heap.size ≤ b) (by rw [flatI]; exact hrm) (by simp [HR2.out.2]) (fun b h => h)).shape
            have hnm2 : nm = k := by rw [← hnm]; simp [HR2.out.2]
            subst hnm2
            have HRL9 := Lib.hid (show RowI w6.heap.size g nm cp L W9 from ⟨ownsRow_belowZ HRL.out.1 HBM.out, HRL.out.2⟩)
            have hS9 := srcOk_below hS7 HBM.out (by omega)
            have HB9 := Lib.hid (bup HB7.out HBM.out)
            clear hrm hnm HB7 HBM HRL hS7
            go_wp2_with fail
            refine (tn_any sb _ _ hS9 (by omega) (by omega)).mono ?_
            rintro e w10 ⟨kv, ⟨k0, k1⟩, rfl, hS10, hG10⟩
            obtain ⟨K, rfl⟩ := Int.eq_ofNat_of_zero_le k0
            have hK : K ≤ nm := by omega
            have HRL10 := Lib.hid (show RowI w6.heap.size g nm cp L w10 from ⟨town_grown HRL9.out.1 hG10 hlt, HRL9.out.2⟩)
            have HRM10 := Lib.hid (town_grown HRM.out hG10 (by omega))
            have HB10 := Lib.hid (bgr HB9.out hG10 hsb)
            have hSumM := sum_order (L := L) (O := O) (by rw [HN.out]; exact HO.out)
            obtain ⟨A, hA⟩ : ∃ A, sumI L = A := ⟨_, rfl⟩
            rw [hA] at hSumM
            have bA := sum_bd HL.out
            rw [hA, HN.out] at bA
            have bT := sum_bd (L := L.take K) (B := 1000000000000) (fun x hx => HL.out x (List.mem_of_mem_take hx))
            have bD := sum_bd (L := L.drop K) (B := 1000000000000) (fun x hx => HL.out x (List.mem_of_mem_drop hx))
            have lT : (L.take K).length = K := by rw [List.length_take, HN.out]; omega
            have lD : (L.drop K).length = nm - K := by rw [List.length_drop, HN.out]
            rw [lT] at bT
            rw [lD] at bD
            have hTD : sumI (L.take K) + sumI (L.drop K) = A := by rw [← sumI_append, List.take_append_drop]; exact hA
            have S1 := HSM.out L (by rw [HN.out]; omega) HL.out
            have S2 := HSM.out (O.map (lAt L)) (by rw [List.length_map, HR2.out.2]; omega) (fun x hx => by
              obtain ⟨o, ho, rfl⟩ := List.mem_map.1 hx
              have hb := HOM.out o ho
              exact HL.out _ (List.mem_of_getElem? (i := o.toNat) (by unfold lAt; rw [List.getD_eq_getElem?_getD, List.getElem?_eq_getElem (by rw [HN.out]; omega)]; rfl)))
            have S3 := HSM.out (L.take K) (by omega) (fun x hx => HL.out x (List.mem_of_mem_take hx))
            have S4 := HSM.out (L.drop K) (by omega) (fun x hx => HL.out x (List.mem_of_mem_drop hx))
            rw [hA] at S1
            rw [hSumM] at S2
            obtain ⟨T, hT⟩ : ∃ T, sumI (L.take K) = T := ⟨_, rfl⟩
            obtain ⟨D, hD⟩ : ∃ D, sumI (L.drop K) = D := ⟨_, rfl⟩
            rw [hT] at S3 hTD bT
            rw [hD] at S4 hTD bD
            have S5 := sm_small [T, D] 0 20000000000000 (by omega) (by simp; omega) (by simp) (by simp)
            have S5V : adV T D = A := by unfold adV; rw [S5.2]; simp [sumI]; omega
            have S5E : adE T D = 0 := S5.1
            have C1 := Lib.hid (sum_any _ _ L w10 (Sl.own encI_len (P := fun b => w6.heap.size ≤ b) (by rw [flatI]; exact HRL10.out.1) HN.out (fun b h => h)) (by rw [HN.out]; omega))
            have C2 := Lib.hid (sum_any _ _ (O.map (lAt L)) w10 (Sl.own encI_len (P := fun b => w7.heap.size ≤ b) (by rw [flatI]; exact HRM10.out) (by rw [List.length_map, HR2.out.2]) (fun b h => h)) (by rw [List.length_map, HR2.out.2]; omega))
            rw [S1.1, S1.2] at C1
            rw [S2.1, S2.2] at C2
            have C3 := Lib.hid (sum_any _ _ (L.take K) w10 (row_take HRL10.out hK hcap HRL10.out.1.cap_max) (by omega))
            rw [S3.1, S3.2] at C3
            have C4 := Lib.hid (sum_any _ _ (L.drop K) w10 (row_drop HRL10.out hK hcap HRL10.out.1.cap_max) (by omega))
            rw [S4.1, S4.2] at C4
            have C4b := Lib.hid (fun hk : cp ≤ K => sum_any (fun _ => True) (.slice (some ⟨g, 0, none⟩) (nm - K) 0) (L.drop K) w10 ⟨_, _, _, rfl, by omega, by omega, Nat.zero_le _, .inl (by omega)⟩ (by omega))
            rw [S4.1, S4.2] at C4b
            have C5 := Lib.hid (add_any T D w10)
            rw [S5V, S5E] at C5
            clear S1 S2 S3 S4 S5 S5V S5E hSumM hA hT hD hTD lT lD k0 hS9 hS10 hG10 HSM
            go_wp2_with fail
            refine C1.out.mono ?_
            rintro e w11 ⟨rfl, rfl⟩
            go_wp2_with fail
            refine C2.out.mono ?_
            rintro e w11 ⟨rfl, rfl⟩
            go_wp2_with fail
            refine C3.out.mono ?_
            rintro e w11 ⟨rfl, rfl⟩
            go_wp2_with fail
            · refine (C4b.out (by omega)).mono ?_
              rintro e w11 ⟨rfl, rfl⟩
              go_wp2_with fail
              refine C5.out.mono ?_
              rintro e w11 ⟨rfl, hb11⟩
              have HB11 := Lib.hid (bup HB10.out hb11)
              clear hb11
              go_wp2_with (go_at_call 35; refine (awake_any _).mono ?_; rintro e w12 ⟨rfl, hb12⟩)
              go_ret
              exact ⟨rfl, bup HB11.out hb12⟩
            · refine C4.out.mono ?_
              rintro e w11 ⟨rfl, rfl⟩
              go_wp2_with fail
              refine C5.out.mono ?_
              rintro e w11 ⟨rfl, hb11⟩
              have HB11 := Lib.hid (bup HB10.out hb11)
              clear hb11
              go_wp2_with (go_at_call 35; refine (awake_any _).mono ?_; rintro e w12 ⟨rfl, hb12⟩)
              go_ret
              exact ⟨rfl, bup HB11.out hb12⟩
end Go.Proofs.Ytkkgipcidbgbhaa
