/- the reference's register: set. -/
import Derived.Test.YthjaofgdickkaaaGreatRefC
namespace Go.Proofs.YthjaofgdickkaaaGreat
open Go.RowKit
set_option linter.unusedVariables false
set_option linter.unusedSimpArgs false
theorem flat_snoc {α : Type} (enc : α → List Value) (L : List α) (a : α) : flatE enc (L ++ [a]) = flatE enc L ++ enc a := by simp [flatE]
theorem newsH (w : World) (g : Nat) (hg : g = w.heap.size) (s h a : Int) : ∀ j u, (encHold ⟨s, h, a⟩)[j]? = some u → (w.alloc (.cells #[.int .i64 s, .int .i64 h, .int .i64 a] 171 (0, 0))).cell? ((⟨g, 0, none⟩ : Addr).add j) = some u := by
  subst hg; exact newsHold w ⟨s, h, a⟩
set_option maxHeartbeats 4000000 in
set_option maxRecDepth 20000 in
theorem fset_any (P : Nat → Prop) (v : Value) (L : List Hold) (s h n : Int) (w : World) (hS : Sl 3 encHold P w v L) (hsrt : srtH L) (hlen : L.length ≤ 1000000) (hb0 : -4611686018427387904 ≤ heldH L s h + n) (hb1 : heldH L s h + n ≤ 4611686018427387904) :
    Calls Tryz.prog 319 #[v, .int .i64 s, .int .i64 h, .int .i64 n] w fun e w' => ∃ v', e = .returned v' ∧ w'.ownsRow w.heap.size 171 3 v' (addH L s h n).length (flatE encHold (addH L s h n)) ∧ Below w.heap.size w w' := by
  obtain ⟨i1, hi, hz0, hz1, hz2⟩ := info_parts infoHold
  have HH := Lib.hid (fun W (hW : Below w.heap.size w W) => fheld_any P v L s h W (hS.below hW) hlen)
  obtain ⟨ao, c0, c, rfl, hn, hnc, hcm⟩ := hS.shape
  have hn1 : c0 ≤ 1000000 := by omega
  obtain ⟨N, hN⟩ : ∃ N, heldH L s h + n = N := ⟨_, rfl⟩
  have hst := setL_eq hsrt hN.symm
  obtain ⟨F, hF⟩ : ∃ F, addH L s h n = F := ⟨_, rfl⟩
  rw [hF] at hst ⊢
  rw [hN] at hb0 hb1
  obtain ⟨A0, hA⟩ : ∃ A0, heldH L s h = A0 := ⟨_, rfl⟩
  rw [hA] at HH hN
  have HS := Lib.hid hS
  have HN := Lib.hid hn
  have HT := Lib.hid hst
  subst hN
  clear hS hn hst hsrt hF hA hlen
  go_enter Tryz.func319, Tryz.ntmps319
  go_wp2_with fail
  refine (HH.out _ brefl).mono ?_
  rintro e w1 ⟨rfl, hb⟩
  have HB := Lib.hid hb
  have zb := hb.size
  clear hb
  obtain ⟨N, hNN⟩ : ∃ N, A0 + n = N := ⟨_, rfl⟩
  rw [hNN] at hb0 hb1
  have HT2 := Lib.hid (show setL L (decide (N = 0)) s h N = F by rw [← hNN]; exact HT.out)
  clear HT
  obtain ⟨p0, hp0⟩ : ∃ p, decide (N = 0) = p := ⟨_, rfl⟩
  rw [hp0] at HT2
  have hp1 : (N == 0) = p0 := by rw [← hp0, Bool.eq_iff_iff, beq_iff_eq, decide_eq_true_eq]
  have hp2 : (A0 + n == 0) = p0 := by rw [hNN]; exact hp1
  clear hp0
  go_wp2
  go_loopw [10, 11, 24] (fun ov pv iv wr => ∃ (k m : Nat) (b : Bool) (out : List Hold), k ≤ c0 ∧ iv = .int .i64 k ∧ pv = .bool b ∧ m = out.length ∧ m ≤ 2 * k ∧ wr.ownsRow w1.heap.size 171 3 ov m (flatE encHold out) ∧ out ++ setL (L.drop k) b s h N = F ∧ Below w1.heap.size w1 wr) (fun _ _ iv _ => c0 - (intOf iv).toNat)
  case atStart => exact ⟨0, 0, p0, [], by omega, rfl, rfl, rfl, by omega, World.ownsRow_nil _ _ _ _, HT2.out, brefl⟩
  case round =>
    obtain ⟨k, m, b, out, hk, rfl, rfl, hm, hmk, hown, hF, hbr⟩ := hrel
    have zr := hbr.size
    have HBR := Lib.hid hbr
    have HF := Lib.hid hF
    clear hbr hF hNN hp1 hp2
    by_cases hlt : k < c0
    · obtain ⟨b', off, vs, vh, va, rfl, -, hb', hL, k0, k1, k2⟩ := ((HS.out.below HB.out).below HBR.out).hold hlt
      have hF2 := HF.out
      rw [drop_cons hL] at hF2
      simp only [setL] at hF2
      have HF2 := Lib.hid hF2
      clear hL hF2
      have HO := Lib.hid hown
      clear hown
      cases he : eqK ⟨vs, vh, va⟩ s h
      · have HNE := Lib.hid he
        have hne := he
        simp only [eqK, decide_eq_false_iff_not] at hne
        cases b
        · cases hg : gtK ⟨vs, vh, va⟩ s h
          · -- behind: append the element
            have hF3 := HF2.out
            rw [he, hg] at hF3
            simp only [Bool.false_eq_true, if_false] at hF3
            have HF3 := Lib.hid hF3
            clear hF3
            simp only [gtK, decide_eq_false_iff_not] at hg
            clear he
            rcases (show (vs < s) ∨ (vs = s ∧ vh < h) by omega) with h1 | ⟨rfl, h1⟩
            · have q1 : (vs == s) = false := by simp; omega
              have q2 : decide (s < vs) = false := by simp; omega
              go_wp2_with (at_builtin; go_must (refine wpList_append_own _ rfl _ _ 28 rfl w1.heap.size 171 i1 (.agg #[.int .i64 0, .int .i64 0, .int .i64 0]) 3 24 Tryz.underlying28 hi hz0 hz1 hz2 rfl (by decide) _ _ _ rfl ((HO.out.alloc _).alloc _) ⟨_, 0, none⟩ 1 1 (encHold ⟨vs, vh, va⟩) rfl rfl (newsH _ _ (by simp) vs  vh  va) (oneHold ⟨vs, vh, va⟩) (by unfold maxLen; omega) (by omega) (by simp; omega) ?_); intro v2 w2 o2 hgrw2 _; have b2 : Below w1.heap.size w1 w2 := (bal (bal HBR.out _) _).grown hgrw2 (by simp; omega) (fun q hq => (HO.out.lt q hq).1); clear hgrw2; have zw2 := b2.size)
              go_roundw
              case rel => exact ⟨k + 1, m + 1, false, out ++ [⟨vs, vh, va⟩], by omega, by go_num, rfl, by simp [hm], by omega, by rw [flat_snoc]; exact o2, by rw [List.append_assoc]; exact HF3.out, b2⟩
              case measure => simp [intOf]; omega
            · have q1 : (vh == h) = false := by simp; omega
              have q2 : decide (h < vh) = false := by simp; omega
              go_wp2_with (at_builtin; go_must (refine wpList_append_own _ rfl _ _ 28 rfl w1.heap.size 171 i1 (.agg #[.int .i64 0, .int .i64 0, .int .i64 0]) 3 24 Tryz.underlying28 hi hz0 hz1 hz2 rfl (by decide) _ _ _ rfl ((HO.out.alloc _).alloc _) ⟨_, 0, none⟩ 1 1 (encHold ⟨vs, vh, va⟩) rfl rfl (newsH _ _ (by simp) vs  vh  va) (oneHold ⟨vs, vh, va⟩) (by unfold maxLen; omega) (by omega) (by simp; omega) ?_); intro v2 w2 o2 hgrw2 _; have b2 : Below w1.heap.size w1 w2 := (bal (bal HBR.out _) _).grown hgrw2 (by simp; omega) (fun q hq => (HO.out.lt q hq).1); clear hgrw2; have zw2 := b2.size)
              go_roundw
              case rel => exact ⟨k + 1, m + 1, false, out ++ [⟨vs, vh, va⟩], by omega, by go_num, rfl, by simp [hm], by omega, by rw [flat_snoc]; exact o2, by rw [List.append_assoc]; exact HF3.out, b2⟩
              case measure => simp [intOf]; omega
          · -- the new one, then the element
            have hF3 := HF2.out
            rw [he, hg] at hF3
            simp only [Bool.false_eq_true, if_false, if_true] at hF3
            have HF3 := Lib.hid hF3
            clear hF3
            simp only [gtK, decide_eq_true_eq] at hg
            clear he
            by_cases h1 : s < vs
            · have q1 : (vs == s) = false := by simp; omega
              have q2 : decide (s < vs) = true := by simp; omega
              go_wp2_with (first | (at_builtin; (refine wpList_append_own _ rfl _ _ 28 rfl w1.heap.size 171 i1 (.agg #[.int .i64 0, .int .i64 0, .int .i64 0]) 3 24 Tryz.underlying28 hi hz0 hz1 hz2 rfl (by decide) _ _ _ rfl ((HO.out.alloc _).alloc _) ⟨_, 0, none⟩ 1 1 (encHold ⟨_, h, N⟩) rfl rfl (newsH _ _ (by simp) _  h  N) (oneHold ⟨_, h, N⟩) (by unfold maxLen; omega) (by omega) (by simp; omega) ?_); intro v2 w2 o2 hgrw2 _; have b2 : Below w1.heap.size w1 w2 := (bal (bal HBR.out _) _).grown hgrw2 (by simp; omega) (fun q hq => (HO.out.lt q hq).1); have bx := (hgrw2.block wr.heap.size (by simp; omega) (fun hk => by have := (HO.out.lt _ hk.symm).2; omega)).trans ((heap_alloc_old _ _ (by simp)).trans (heap_alloc_new wr _)); have g0 := cell_heap (i := 0) bx rfl; have g1 := cell_heap (i := 1) bx rfl; have g2 := cell_heap (i := 2) bx rfl; clear hgrw2 bx; have zw2 := b2.size) | (at_builtin; go_must (refine wpList_append_own _ rfl _ _ 28 rfl w1.heap.size 171 i1 (.agg #[.int .i64 0, .int .i64 0, .int .i64 0]) 3 24 Tryz.underlying28 hi hz0 hz1 hz2 rfl (by decide) _ _ _ rfl (o2.alloc _) ⟨_, 0, none⟩ 1 1 (encHold ⟨vs, vh, va⟩) rfl rfl (newsH _ _ (by simp) vs  vh  va) (oneHold ⟨vs, vh, va⟩) (by unfold maxLen; omega) (by omega) (by simp; omega) ?_); intro v3 w3 o3 hgrw3 _; have b3 : Below w1.heap.size w1 w3 := (bal b2 _).grown hgrw3 (by simp; omega) (fun q hq => (o2.lt q hq).1); clear hgrw3; have zw3 := b3.size))
              go_roundw
              case rel => exact ⟨k + 1, m + 1 + 1, true, (out ++ [⟨s, h, N⟩]) ++ [⟨vs, vh, va⟩], by omega, by go_num, rfl, by simp [hm], by omega, by rw [flat_snoc, flat_snoc]; exact o3, by rw [List.append_assoc, List.append_assoc]; exact HF3.out, b3⟩
              case measure => simp [intOf]; omega
            · obtain ⟨rfl, h1⟩ : vs = s ∧ h < vh := by omega
              have q1 : (vh == h) = false := by simp; omega
              have q2 : decide (h < vh) = true := by simp; omega
              go_wp2_with (first | (at_builtin; (refine wpList_append_own _ rfl _ _ 28 rfl w1.heap.size 171 i1 (.agg #[.int .i64 0, .int .i64 0, .int .i64 0]) 3 24 Tryz.underlying28 hi hz0 hz1 hz2 rfl (by decide) _ _ _ rfl ((HO.out.alloc _).alloc _) ⟨_, 0, none⟩ 1 1 (encHold ⟨_, h, N⟩) rfl rfl (newsH _ _ (by simp) _  h  N) (oneHold ⟨_, h, N⟩) (by unfold maxLen; omega) (by omega) (by simp; omega) ?_); intro v2 w2 o2 hgrw2 _; have b2 : Below w1.heap.size w1 w2 := (bal (bal HBR.out _) _).grown hgrw2 (by simp; omega) (fun q hq => (HO.out.lt q hq).1); have bx := (hgrw2.block wr.heap.size (by simp; omega) (fun hk => by have := (HO.out.lt _ hk.symm).2; omega)).trans ((heap_alloc_old _ _ (by simp)).trans (heap_alloc_new wr _)); have g0 := cell_heap (i := 0) bx rfl; have g1 := cell_heap (i := 1) bx rfl; have g2 := cell_heap (i := 2) bx rfl; clear hgrw2 bx; have zw2 := b2.size) | (at_builtin; go_must (refine wpList_append_own _ rfl _ _ 28 rfl w1.heap.size 171 i1 (.agg #[.int .i64 0, .int .i64 0, .int .i64 0]) 3 24 Tryz.underlying28 hi hz0 hz1 hz2 rfl (by decide) _ _ _ rfl (o2.alloc _) ⟨_, 0, none⟩ 1 1 (encHold ⟨vs, vh, va⟩) rfl rfl (newsH _ _ (by simp) vs  vh  va) (oneHold ⟨vs, vh, va⟩) (by unfold maxLen; omega) (by omega) (by simp; omega) ?_); intro v3 w3 o3 hgrw3 _; have b3 : Below w1.heap.size w1 w3 := (bal b2 _).grown hgrw3 (by simp; omega) (fun q hq => (o2.lt q hq).1); clear hgrw3; have zw3 := b3.size))
              go_roundw
              case rel => exact ⟨k + 1, m + 1 + 1, true, (out ++ [⟨vs, h, N⟩]) ++ [⟨vs, vh, va⟩], by omega, by go_num, rfl, by simp [hm], by omega, by rw [flat_snoc, flat_snoc]; exact o3, by rw [List.append_assoc, List.append_assoc]; exact HF3.out, b3⟩
              case measure => simp [intOf]; omega
        · -- put before
          have hF3 := HF2.out
          rw [he] at hF3
          simp only [Bool.false_eq_true, if_false, if_true] at hF3
          have HF3 := Lib.hid hF3
          clear hF3 he
          by_cases h1 : vs = s
          · subst h1
            have q1 : (vh == h) = false := by simp; omega
            go_wp2_with (at_builtin; go_must (refine wpList_append_own _ rfl _ _ 28 rfl w1.heap.size 171 i1 (.agg #[.int .i64 0, .int .i64 0, .int .i64 0]) 3 24 Tryz.underlying28 hi hz0 hz1 hz2 rfl (by decide) _ _ _ rfl ((HO.out.alloc _).alloc _) ⟨_, 0, none⟩ 1 1 (encHold ⟨vs, vh, va⟩) rfl rfl (newsH _ _ (by simp) vs  vh  va) (oneHold ⟨vs, vh, va⟩) (by unfold maxLen; omega) (by omega) (by simp; omega) ?_); intro v2 w2 o2 hgrw2 _; have b2 : Below w1.heap.size w1 w2 := (bal (bal HBR.out _) _).grown hgrw2 (by simp; omega) (fun q hq => (HO.out.lt q hq).1); clear hgrw2; have zw2 := b2.size)
            go_roundw
            case rel => exact ⟨k + 1, m + 1, true, out ++ [⟨vs, vh, va⟩], by omega, by go_num, rfl, by simp [hm], by omega, by rw [flat_snoc]; exact o2, by rw [List.append_assoc]; exact HF3.out, b2⟩
            case measure => simp [intOf]; omega
          · have q1 : (vs == s) = false := by simp; omega
            go_wp2_with (at_builtin; go_must (refine wpList_append_own _ rfl _ _ 28 rfl w1.heap.size 171 i1 (.agg #[.int .i64 0, .int .i64 0, .int .i64 0]) 3 24 Tryz.underlying28 hi hz0 hz1 hz2 rfl (by decide) _ _ _ rfl ((HO.out.alloc _).alloc _) ⟨_, 0, none⟩ 1 1 (encHold ⟨vs, vh, va⟩) rfl rfl (newsH _ _ (by simp) vs  vh  va) (oneHold ⟨vs, vh, va⟩) (by unfold maxLen; omega) (by omega) (by simp; omega) ?_); intro v2 w2 o2 hgrw2 _; have b2 : Below w1.heap.size w1 w2 := (bal (bal HBR.out _) _).grown hgrw2 (by simp; omega) (fun q hq => (HO.out.lt q hq).1); clear hgrw2; have zw2 := b2.size)
            go_roundw
            case rel => exact ⟨k + 1, m + 1, true, out ++ [⟨vs, vh, va⟩], by omega, by go_num, rfl, by simp [hm], by omega, by rw [flat_snoc]; exact o2, by rw [List.append_assoc]; exact HF3.out, b2⟩
            case measure => simp [intOf]; omega
      · -- the key itself
        have hF3 := HF2.out
        rw [he] at hF3
        simp only [if_true] at hF3
        have HF3 := Lib.hid hF3
        simp only [eqK, decide_eq_true_eq] at he
        obtain ⟨rfl, rfl⟩ := he
        clear hF3
        go_wp2
        go_roundw
        case rel => exact ⟨k + 1, m, b, out, by omega, by go_num, rfl, hm, by omega, HO.out.alloc _, HF3.out, bal HBR.out _⟩
        case measure => simp [intOf]; omega
    · have hF2 := HF.out
      rw [drop_all (by have := HN.out; omega)] at hF2
      simp only [setL] at hF2
      cases b
      · have HF2 := Lib.hid hF2
        clear hF2
        go_wp2_with (at_builtin; go_must (refine wpList_append_own _ rfl _ _ 28 rfl w1.heap.size 171 i1 (.agg #[.int .i64 0, .int .i64 0, .int .i64 0]) 3 24 Tryz.underlying28 hi hz0 hz1 hz2 rfl (by decide) _ _ _ rfl (hown.alloc _) ⟨_, 0, none⟩ 1 1 (encHold ⟨s, h, N⟩) rfl rfl (newsH _ _ (by simp) s  h  N) (oneHold ⟨s, h, N⟩) (by unfold maxLen; omega) (by omega) (by simp; omega) ?_); intro v2 w2 o2 hgrw2 _; have b2 : Below w1.heap.size w1 w2 := (bal HBR.out _).grown hgrw2 (by simp; omega) (fun q hq => (hown.lt q hq).1); clear hgrw2; have zw2 := b2.size)
        go_ret
        refine ⟨_, rfl, ?_, HB.out.trans (b2.mono (by omega))⟩
        have e := HF2.out
        simp only [Bool.false_eq_true, if_false] at e
        rw [← e, flat_snoc, show (out ++ [(⟨s, h, N⟩ : Hold)]).length = m + 1 by simp [hm]]
        exact ownsRow_baseZ o2 (by omega)
      · have HF2 := Lib.hid hF2
        clear hF2
        go_wp2
        go_ret
        refine ⟨_, rfl, ?_, HB.out.trans (HBR.out.mono (by omega))⟩
        have e := HF2.out
        simp only [if_true, List.append_nil] at e
        rw [← e, ← hm]
        exact ownsRow_baseZ hown (by omega)
end Go.Proofs.YthjaofgdickkaaaGreat

