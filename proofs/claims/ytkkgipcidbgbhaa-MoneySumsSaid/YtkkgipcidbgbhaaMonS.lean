/- money.Sum, money.Add; Tape.Order. -/
import Derived.Test.YtkkgipcidbgbhaaAwake
namespace Go.Proofs.Ytkkgipcidbgbhaa
open Go.RowKit
set_option linter.unusedVariables false
set_option linter.unusedSimpArgs false
def ttB (n : Int) : Bool := inB n (-1000000000000000) 1000000000000000
theorem ttB_iff {n : Int} : ttB n = true ↔ -1000000000000000 ≤ n ∧ n ≤ 1000000000000000 := inB_iff
/-- the sum of a list, from s on -/
def smV : Int → List Int → Int
  | s, [] => s
  | s, x :: L => if ttB x && ttB (s + x) then smV (s + x) L else 0
def smE : Int → List Int → Int
  | s, [] => 0
  | s, x :: L => if ttB x && ttB (s + x) then smE (s + x) L else 2
set_option maxHeartbeats 1000000 in
theorem sum_any (P : Nat → Prop) (v : Value) (L : List Int) (w : World) (hS : Sl 1 encI P w v L) (hl : L.length ≤ 1000000) :
    Calls Try.prog 39 #[v] w fun e w' => e = .returned (.tuple #[.int .i64 (smV 0 L), .int .i64 (smE 0 L)]) ∧ w = w' := by
  obtain ⟨ao, n, c, rfl, hn, hnc, hcm⟩ := hS.shape
  have HS := Lib.hid hS
  have HN := Lib.hid hn
  have hn1 : n ≤ 1000000 := by omega
  obtain ⟨V, hV⟩ : ∃ V, smV 0 L = V := ⟨_, rfl⟩
  obtain ⟨E, hE⟩ : ∃ E, smE 0 L = E := ⟨_, rfl⟩
  rw [hV, hE]
  have HV := Lib.hid hV
  have HE := Lib.hid hE
  clear hS hn hl hV hE
  go_enter Try.func39, Try.ntmps39
  go_wp2
  go_loopw [4, 9] (fun sv iv wr => ∃ (k : Nat) (s : Int), k ≤ n ∧ iv = .int .i64 k ∧ sv = .int .i64 s ∧ ttB s = true ∧ smV s (L.drop k) = V ∧ smE s (L.drop k) = E ∧ wr = w) (fun _ iv _ => n - (intOf iv).toNat)
  case atStart => exact ⟨0, 0, by omega, rfl, rfl, by decide, HV.out, HE.out, by first | exact rfl | exact True.intro⟩
  case round =>
    obtain ⟨k, s, hk, rfl, rfl, hs, h1, h2, rfl⟩ := hrel
    obtain ⟨s0, s1⟩ := ttB_iff.1 hs
    clear hs
    by_cases hlt : k < n
    · obtain ⟨b, off, x, rfl, -, -, hx, hc⟩ := HS.out.int hlt
      rw [drop_cons hx] at h1 h2
      simp only [smV, smE] at h1 h2
      have H1 := Lib.hid h1
      have H2 := Lib.hid h2
      have hlt3 : (k : Int) < n := by omega
      clear hx h1 h2
      cases hx1 : ttB x
      · have hv : 0 = V := by have := H1.out; rw [hx1] at this; simpa using this
        have he : 2 = E := by have := H2.out; rw [hx1] at this; simpa using this
        have HX := Lib.hid (show inB x (-1000000000000000) 1000000000000000 = false from hx1)
        subst hv he
        clear hx1
        go_wp2_with (go_at_call 46; refine (total_any _ _).mono ?_; rw [HX.out]; rintro e w1 ⟨rfl, rfl⟩)
        go_ret2
        exact ⟨rfl, rfl⟩
      · obtain ⟨x0, x1⟩ := ttB_iff.1 hx1
        have HX := Lib.hid (show inB x (-1000000000000000) 1000000000000000 = true from hx1)
        cases hx2 : ttB (s + x)
        · have hv : 0 = V := by have := H1.out; rw [hx1, hx2] at this; simpa using this
          have he : 2 = E := by have := H2.out; rw [hx1, hx2] at this; simpa using this
          have HX2 := Lib.hid (show inB (s + x) (-1000000000000000) 1000000000000000 = false from hx2)
          subst hv he
          clear hx1 hx2
          go_wp2_with (go_at_call 46; refine (total_any _ _).mono ?_; (first | rw [HX2.out] | rw [HX.out]); rintro e w1 ⟨rfl, rfl⟩)
          go_ret2
          exact ⟨rfl, rfl⟩
        · have hv : smV (s + x) ((L.drop (k + 1))) = V := by have := H1.out; rw [hx1, hx2] at this; simpa using this
          have he : smE (s + x) ((L.drop (k + 1))) = E := by have := H2.out; rw [hx1, hx2] at this; simpa using this
          have HX2 := Lib.hid (show inB (s + x) (-1000000000000000) 1000000000000000 = true from hx2)
          have HV2 := Lib.hid hv
          have HE2 := Lib.hid he
          have HT2 := Lib.hid hx2
          clear hx1 hx2 hv he
          go_wp2_with (go_at_call 46; refine (total_any _ _).mono ?_; (first | rw [HX2.out] | rw [HX.out]); rintro e w1 ⟨rfl, rfl⟩)
          go_roundw
          case rel => exact ⟨k + 1, s + x, by omega, by go_num, by go_num, HT2.out, HV2.out, HE2.out, by first | exact rfl | exact True.intro⟩
          case measure => simp [intOf]; omega
    · have hkn : ¬ (k : Int) < n := by omega
      rw [drop_all (by have := HN.out; omega)] at h1 h2
      simp only [smV, smE] at h1 h2
      subst h1 h2
      go_wp2
      go_ret2
      exact ⟨rfl, by first | exact rfl | exact True.intro⟩
/-- the sum of two -/
def adV (a b : Int) : Int := smV 0 [a, b]
def adE (a b : Int) : Int := smE 0 [a, b]
theorem lit2 (a b : Int) (w : World) : Sl 1 encI (fun b => w.heap.size ≤ b) (w.alloc (.cells #[.int .i64 a, .int .i64 b] 3)) (.slice (some ⟨w.heap.size, 0, none⟩) 2 2) [a, b] := litI w [a, b] 2 rfl (by unfold maxLen; omega) _ rfl _ rfl
set_option maxHeartbeats 1000000 in
theorem add_any (a b : Int) (w : World) : Calls Try.prog 40 #[.int .i64 a, .int .i64 b] w fun e w' => e = .returned (.tuple #[.int .i64 (adV a b), .int .i64 (adE a b)]) ∧ Below w.heap.size w w' := by
  have H := Lib.hid (sum_any _ _ [a, b] _ (lit2 a b w) (by simp))
  unfold adV adE
  obtain ⟨V, hV⟩ : ∃ V, smV 0 [a, b] = V := ⟨_, rfl⟩
  obtain ⟨E, hE⟩ : ∃ E, smE 0 [a, b] = E := ⟨_, rfl⟩
  rw [hV, hE] at H ⊢
  clear hV hE
  go_enter Try.func40, Try.ntmps40
  go_wp2_with (go_at_call 39; refine H.out.mono ?_; rintro e w1 ⟨rfl, rfl⟩)
  go_ret2
  exact ⟨rfl, bal brefl _⟩
/-- what Order leaves -/
def Ordered (n sb : Nat) (w : World) (e : Ending) (w' : World) : Prop :=
  ∃ (v : Value) (L : List Int), e = .returned v ∧ L.Perm (idxs n) ∧ w'.ownsRow w.heap.size 3 1 v n (L.map cI) ∧ SrcOk w' sb ∧ w.grownBy w' (some sb)
theorem grown_below0 {w w1 : World} {row : Option Nat} (hb : Below w.heap.size w w1) : w.grownBy w1 row := ⟨hb.os, hb.tape, hb.output, hb.size, fun k hk _ => hb.block k hk⟩
theorem grown_trans_row {w w1 w2 : World} {sb g : Nat} (h : w.grownBy w1 (some sb)) (hg : w1.grownBy w2 (some g)) (hb : w.heap.size ≤ g) : w.grownBy w2 (some sb) :=
  ⟨hg.os.trans h.os, hg.tape.trans h.tape, hg.output.trans h.output, Nat.le_trans h.size hg.size, fun k hk hne => (hg.block k (Nat.lt_of_lt_of_le hk h.size) (by simp; omega)).trans (h.block k hk hne)⟩
theorem srcOk_row {w w' : World} {sb g : Nat} (h : SrcOk w sb) (hg : w.grownBy w' (some g)) (hs : sb < g) : SrcOk w' sb := by
  obtain ⟨ao, m, c, k, h0, h1, h2, h3, h4, h5⟩ := h
  refine ⟨ao, m, c, k, hg.cell h0 (by simp; omega), hg.cell h1 (by simp; omega), ?_, h3, h4, ?_⟩
  · rw [World.frozen?_of_block (hg.block sb (World.block_lt_of_cell? w _ h0) (by simp; omega))]; exact h2
  · rcases h5 with h5 | ⟨b, off, rfl, hb, hz⟩
    · exact .inl h5
    · refine .inr ⟨b, off, rfl, hb, fun i hi => ?_⟩
      obtain ⟨z, hz'⟩ := hz i hi
      exact ⟨z, hg.cell hz' (by simp; omega)⟩
theorem swap_perm {L : List Int} {i k : Nat} {x y : Int} (hx : L[i]? = some x) (hy : L[k]? = some y) : ((L.set i y).set k x).Perm L := by
  obtain ⟨hi, rfl⟩ := List.getElem?_eq_some_iff.1 hx
  obtain ⟨hk, rfl⟩ := List.getElem?_eq_some_iff.1 hy
  exact List.set_set_perm hi hk
set_option maxHeartbeats 2000000 in
theorem torder_any (sb n : Nat) (w : World) (hs : SrcOk w sb) (hn : n ≤ 1000) :
    Calls Try.prog 38 #[.pointer (some ⟨sb, 0, none⟩), .int .i64 n] w (Ordered n sb w) := by
  obtain ⟨i1, hi, hz0, hz1, hz2⟩ := info_parts infoInt
  have hlt := srcOk_lt hs
  have HS := Lib.hid hs
  clear hs
  go_enter Try.func38, Try.ntmps38
  go_wp2
  go_loopw [5, 6] (fun v iv wr => ∃ k : Nat, k ≤ n ∧ iv = .int .i64 k ∧ wr.ownsRow w.heap.size 3 1 v k ((idxs k).map cI) ∧ Below w.heap.size w wr) (fun _ iv _ => n - (intOf iv).toNat)
  case atStart => exact ⟨0, by omega, rfl, World.ownsRow_nil _ _ _ _, brefl⟩
  case round =>
    obtain ⟨k, hk, rfl, hown, hb⟩ := hrel
    have hzb := hb.size
    have HB := Lib.hid hb
    clear hb
    by_cases hkn : k < n
    · have hkz : (k : Int) < n := by omega
      go_wp2_with (at_builtin; go_must (refine wpList_append_own _ rfl _ _ 22 rfl w.heap.size 3 i1 (.int .i64 0) 1 8 Try.underlying22 hi hz0 hz1 hz2 rfl (by decide) _ _ _ rfl (hown.alloc _) ⟨wr.heap.size, 0, none⟩ 1 1 [.int .i64 k] rfl rfl (news1 _ _ _) (one1 _ _) (by unfold maxLen; omega) (by omega) (by simp; omega) ?_); intro v' w10 hown' hgrow _; have HB10 := Lib.hid ((bal HB.out _).grown hgrow (by simp; omega) (fun q hq => (hown.lt q hq).1)); clear hgrow)
      go_roundw
      case rel => exact ⟨k + 1, by omega, by go_num, by rw [idxs_succ, List.map_append]; exact hown', HB10.out⟩
      case measure => simp [intOf]; omega
    · have hkn2 : k = n := by omega
      subst hkn2
      rename World => W0
      have HO := Lib.hid hown
      by_cases h0 : k = 0
      · subst h0
        rcases hown.2 with ⟨rfl, _⟩ | ⟨g, cap, cur, rfl, hbg, hg, hnc, hcm, hcs, htake⟩
        all_goals
          clear hown
          go_wp2
          go_loopw [7] (fun iv wr => iv = .int .i64 (-1) ∧ wr = W0) (fun _ _ => 0)
          case atStart => exact ⟨by go_num, by first | exact rfl | exact True.intro⟩
          case round =>
            obtain ⟨rfl, rfl⟩ := hrel
            go_wp2
            go_ret
            exact ⟨_, idxs 0, rfl, List.Perm.refl _, HO.out, srcOk_below HS.out HB.out hlt, grown_below0 HB.out⟩
      · obtain ⟨g, cp, rfl, hg, hgz⟩ := hown.form (by omega)
        have HR := Lib.hid (show RowI w.heap.size g k cp (idxs k) W0 from ⟨hown, idxs_length _⟩)
        have HS0 := Lib.hid (srcOk_below HS.out HB.out hlt)
        clear hown
        go_wp2
        go_loopw [7] (fun iv wr => ∃ (j : Nat) (L : List Int), j < k ∧ iv = .int .i64 j ∧ L.Perm (idxs k) ∧ RowI w.heap.size g k cp L wr ∧ SrcOk wr sb ∧ w.grownBy wr (some sb)) (fun iv _ => (intOf iv).toNat)
        case atStart => exact ⟨k - 1, idxs k, by omega, by go_num, List.Perm.refl _, HR.out, HS0.out, grown_below0 HB.out⟩
        case round =>
          obtain ⟨j, L, hj, rfl, hp, hr, hsr, hgr⟩ := hrel
          have HP := Lib.hid hp
          have HR3 := Lib.hid hr
          have HG3 := Lib.hid hgr
          clear hp hr hgr
          by_cases hj0 : 0 < j
          · have hjz : (0 : Int) < j := by omega
            go_wp2_with fail
            refine (tn_any sb _ _ hsr (by omega) (by omega)).mono ?_
            rintro e w5 ⟨kv, ⟨k0, k1⟩, rfl, hS5, hG5⟩
            obtain ⟨K, rfl⟩ := Int.eq_ofNat_of_zero_le k0
            have hK : K < k := by omega
            have hr5 : RowI w.heap.size g k cp L w5 := ⟨town_grown HR3.out.1 hG5 (by omega), HR3.out.2⟩
            have HG5 := Lib.hid (grownBy_trans HG3.out hG5)
            obtain ⟨x, hx⟩ : ∃ x, L[j]? = some x := ⟨_, List.getElem?_eq_getElem (by rw [hr5.2]; omega)⟩
            obtain ⟨y, hy⟩ : ∃ y, L[K]? = some y := ⟨_, List.getElem?_eq_getElem (by rw [hr5.2]; omega)⟩
            obtain ⟨cj, fj⟩ := hr5.at_ hx
            obtain ⟨ck, fk⟩ := hr5.at_ hy
            have HSW := Lib.hid (fun q => hr5.swap j K y x q)
            have HPS := Lib.hid ((swap_perm hx hy).trans HP.out)
            have HS5 := Lib.hid hS5
            have hjk : (j : Int) < k := by omega
            have hKk : (K : Int) < k := by omega
            clear hr5 hS5 hG5 hsr k0
            by_cases hjK : j = K
            · subst hjK
              cases hx.symm.trans hy
              clear hx hy
              go_wp2
              go_region
              all_goals go_wp2
              go_roundw
              case rel =>
                have hx := HSW.out 1
                exact ⟨j - 1, _, by omega, by first | rfl | go_num | (congr 1; omega), HPS.out, hx.1, srcOk_row HS5.out hx.2 (by omega), grown_trans_row HG5.out hx.2 hg⟩
              case measure => simp [intOf]; omega
            · have hKj : ¬ K = j := fun h => hjK h.symm
              clear hx hy
              go_wp2
              go_region
              all_goals go_wp2
              go_roundw
              case rel =>
                have hx := HSW.out 1
                exact ⟨j - 1, _, by omega, by first | rfl | go_num | (congr 1; omega), HPS.out, hx.1, srcOk_row HS5.out hx.2 (by omega), grown_trans_row HG5.out hx.2 hg⟩
              case measure => simp [intOf]; omega
          · have hjz : ¬ (0 : Int) < j := by omega
            go_wp2
            go_ret
            exact ⟨_, L, rfl, HP.out, HR3.out.1, hsr, HG3.out⟩
end Go.Proofs.Ytkkgipcidbgbhaa
