/- The contract of money.Parts. -/
import Derived.Test.YtkdbdncboljfhaaMonA
namespace Go.Proofs.Ytkdbdncboljfhaa
open Go.RowKit
set_option linter.unusedVariables false
set_option linter.unusedSimpArgs false
/-- what Parts leaves -/
def PartsMade (E : Int) (L : List Int) (w : World) (e : Ending) (w' : World) : Prop :=
  ∃ v, e = .returned (.tuple #[v, .int .i64 E]) ∧ Sl 1 encI (fun b => w.heap.size ≤ b) w' v L ∧ Below w.heap.size w w'
theorem partsMade_nil {E : Int} {L : List Int} {w w' : World} (hL : L = []) (hb : Below w.heap.size w w') : PartsMade E L w (.returned (.tuple #[.slice none 0 0, .int .i64 E])) w' := by
  subst hL; exact ⟨_, rfl, Sl.nil, hb⟩
theorem flatI (L : List Int) : flatE encI L = L.map cI := by
  induction L with
  | nil => rfl
  | cons x L ih => simp only [flatE, List.flatMap_cons] at ih ⊢; rw [ih]; rfl
def Two (v u : Value) : Prop := ∀ b, v.ownBlock = some b → u.ownBlock = some b → False
theorem two_far {v u : Value} (h : Two v u) : u.ownBlock = none ∨ u.ownBlock ≠ v.ownBlock := by
  cases hu : u.ownBlock with
  | none => exact .inl rfl
  | some b => exact .inr fun e => h b e.symm hu
theorem two_new {v u : Value} {w : World} {B z : Nat} {e : TypeId} {k : Nat} {ys : List Value} {g n c : Nat} (hu : w.ownsRow B e z u k ys) (h : Two v u) (hg : v.ownBlock = some g ∨ g = w.heap.size + 1) :
    (Value.slice (some ⟨g, 0, none⟩) n c).ownBlock = none ∨ (Value.slice (some ⟨g, 0, none⟩) n c).ownBlock ≠ u.ownBlock := by
  refine .inr fun e => ?_
  have e' : u.ownBlock = some g := e.symm
  rcases hg with hg | hg
  · exact h g hg e'
  · have := hu.lt g e'; omega
theorem two_end {w : World} {u : Value} {g n c g2 c' : Nat} (h : (Value.slice (some ⟨g, 0, none⟩) n c).ownBlock = none ∨ (Value.slice (some ⟨g, 0, none⟩) n c).ownBlock ≠ u.ownBlock) (hlt : g < w.heap.size) (hg : u.ownBlock = some g2 ∨ g2 = w.heap.size + 1) :
    Two (Value.slice (some ⟨g, 0, none⟩) n c) (Value.slice (some ⟨g2, 0, none⟩) n c') := by
  intro b e1 e2
  have e1' : g = b := by simpa [Value.ownBlock] using e1
  have e2' : g2 = b := by simpa [Value.ownBlock] using e2
  subst e1'
  subst e2'
  rcases hg with hg | hg
  · rcases h with h | h
    · simp [Value.ownBlock] at h
    · exact h hg.symm
  · omega
theorem _root_.Go.World.ownsRow.cap_le {w : World} {B z : Nat} {e : TypeId} {g n c : Nat} {xs : List Value} (h : w.ownsRow B e z (.slice (some ⟨g, 0, none⟩) n c) n xs) : n ≤ c := by
  rcases h.2 with ⟨h, _⟩ | ⟨g', cap, cur, h, _, _, hc, _⟩
  · cases h
  · cases h; exact hc
theorem cell_last {w : World} {B : Nat} {e : TypeId} {g k c : Nat} {L : List Value} {u : Value} (h : w.ownsRow B e 1 (.slice (some ⟨g, 0, none⟩) (k + 1) c) (k + 1) (L ++ [u])) : w.cell? ⟨g, k, none⟩ = some u := by
  rw [h.cellAt k (by omega)]
  have := h.1
  simp only [List.length_append, List.length_singleton] at this
  rw [List.getElem?_append_right (by omega), show k - L.length = 0 by omega]; rfl
set_option maxHeartbeats 8000000 in
set_option maxRecDepth 100000 in
theorem parts_any (t : Int) (P : Nat → Prop) (v : Value) (W : List Int) (w : World) (hS : Sl 1 encI P w v W) (hl : W.length ≤ 1000000) :
    Calls Try.prog 39 #[.int .i64 t, v] w (PartsMade (partsE t W) (partsL t W) w) := by
  obtain ⟨ao, n, c, rfl, hn, hnc, hcm⟩ := hS.shape
  have HN := Lib.hid hn
  have HS := Lib.hid hS
  have hn1 : n ≤ 1000000 := by omega
  have HWG := Lib.hid (fun U (hU : Below w.heap.size w U) => wgAny_any P _ W U (hS.below hU) hl)
  clear hS hn hl
  cases hT : inB t 0 1000000000000
  · have hE : partsE t W = 2 := by unfold partsE; rw [hT]; rfl
    have hL : partsL t W = [] := by unfold partsL; rw [hE]; rfl
    rw [hE]
    have HT := Lib.hid hT
    have HL := Lib.hid hL
    clear hE hL hT
    go_enter Try.func39, Try.ntmps39
    go_wp2_with (go_at_call 44; refine (valid_any _ _).mono ?_; rw [HT.out]; rintro e w1 ⟨rfl, rfl⟩)
    go_ret2
    exact partsMade_nil HL.out (bal (bal brefl _) _)
  have HT := Lib.hid hT
  obtain ⟨t0, t1⟩ := inB_iff.1 hT
  cases hA : W.any fun w => !wgB w
  · by_cases h200 : 200 < n
    · have hE : partsE t W = 3 := by unfold partsE; rw [hT, hA]; simp [show 200 < W.length by have := HN.out; omega]
      have hL : partsL t W = [] := by unfold partsL; rw [hE]; rfl
      rw [hE]
      have HL := Lib.hid hL
      have HA := Lib.hid hA
      have hz : ((200 : Int) < n) := by omega
      clear hE hL hT hA
      go_enter Try.func39, Try.ntmps39
      go_wp2_with (go_at_call 44; refine (valid_any _ _).mono ?_; rw [HT.out]; rintro e w1 ⟨rfl, rfl⟩)
      go_wp2_with fail
      refine (HWG.out _ (bal (bal brefl _) _)).mono ?_
      rw [HA.out]
      rintro e w1 ⟨rfl, hb1⟩
      have x3 := (hb1.cell (p := ⟨w.heap.size + 1, 0, none⟩) (by simp)).trans ((World.cell?_alloc_at _ _ _ _ (by simp)).trans rfl)
      have HB1 := Lib.hid (bup (bal (bal brefl _) _) hb1)
      clear hb1
      go_wp2
      go_ret2
      exact partsMade_nil HL.out HB1.out
    · have hwg := wg_all hA
      have hST := Lib.hid (sum_take hwg)
      have hE : partsE t W = if sumI W = 0 then 1 else 0 := by unfold partsE; rw [hT, hA]; simp [show ¬ 200 < W.length by have := HN.out; omega]
      have HE := Lib.hid hE
      have HA := Lib.hid hA
      have HW := Lib.hid hwg
      have hz : ¬ ((200 : Int) < n) := by omega
      have hn2 : n ≤ 200 := by omega
      clear hE hT hA hwg
      go_enter Try.func39, Try.ntmps39
      go_wp2_with (go_at_call 44; refine (valid_any _ _).mono ?_; rw [HT.out]; rintro e w1 ⟨rfl, rfl⟩)
      go_wp2_with fail
      refine (HWG.out _ (bal (bal brefl _) _)).mono ?_
      rw [HA.out]
      rintro e w1 ⟨rfl, hb1⟩
      have x3 := (hb1.cell (p := ⟨w.heap.size + 1, 0, none⟩) (by simp)).trans ((World.cell?_alloc_at _ _ _ _ (by simp)).trans rfl)
      have x2 := (hb1.cell (p := ⟨w.heap.size, 0, none⟩) (by simp; omega)).trans ((World.cell?_alloc_past _ _ _ (by simp)).trans ((World.cell?_alloc_at _ _ _ _ rfl).trans rfl))
      have HB1 := Lib.hid (bup (bal (bal brefl _) _) hb1)
      have z1 : w.heap.size + 2 ≤ w1.heap.size := by have := hb1.size; simp at this; omega
      clear hb1
      have z2 : w.heap.size + 1 < w1.heap.size := by omega
      have z3 : w.heap.size < w1.heap.size := by omega
      go_wp2
      go_loopw [28] (fun iv wr => ∃ k : Nat, k ≤ n ∧ iv = .int .i64 k ∧ wr.cell? ⟨w1.heap.size, 0, none⟩ = some (.int .i64 (sumI (W.take k))) ∧ wr.frozen? ⟨w1.heap.size, 0, none⟩ = false ∧ Below w1.heap.size w1 wr ∧ w1.heap.size < wr.heap.size) (fun iv _ => n - (intOf iv).toNat)
      case atStart =>
        refine ⟨0, by omega, rfl, ?_, ?_, ?_, ?_⟩
        · exact (World.cell?_alloc_at _ _ _ _ rfl).trans rfl
        · exact World.frozen?_alloc_at _ _ _ _ rfl
        · exact bal brefl _
        · simp
      case round =>
        obtain ⟨k, hk, rfl, h6, f6, hbr, hzr⟩ := hrel
        have y3 := (hbr.cell (p := ⟨w.heap.size + 1, 0, none⟩) (by simp only; omega)).trans x3
        have y2 := (hbr.cell (p := ⟨w.heap.size, 0, none⟩) (by simp only; omega)).trans x2
        obtain ⟨S, hSk⟩ : ∃ S, sumI (W.take k) = S := ⟨_, rfl⟩
        have sb := hST.out k
        rw [hSk] at sb h6
        have hWn : W.length = n := HN.out
        by_cases hlt : k < n
        · obtain ⟨b, off, x, rfl, -, -, hx, hc⟩ := (HS.out.below (bup HB1.out hbr)).int hlt
          have bx := HW.out x (List.mem_of_getElem? hx)
          have hnext := Lib.hid (show sumI (W.take (k + 1)) = S + x by rw [take_snocZ hx, sumI_append, hSk]; simp [sumI])
          have HBR := Lib.hid hbr
          clear hx hSk hbr
          go_wp2
          go_roundw
          case rel =>
            refine ⟨k + 1, by omega, by go_num, ?_, ?_, ?_, ?_⟩
            · rw [hnext.out]; exact World.cell?_setCell_same _ _ _ h6
            · rw [World.frozen?_setCell]; exact f6
            · exact bset HBR.out (Nat.le_refl _) _
            · simpa [World.setCell] using hzr
          case measure => simp [intOf]; omega
        · have hS0 : S = sumI W := by rw [← hSk, take_all (by omega)]
          by_cases h0 : S = 0
          · have hE1 : partsE t W = 1 := by rw [HE.out, if_pos (by omega)]
            have hL : partsL t W = [] := by unfold partsL; rw [hE1]; rfl
            have HL := Lib.hid hL
            have HBR := Lib.hid hbr
            subst h0
            have HE1 := Lib.hid hE1
            clear hE1 hL hbr hSk hS0
            go_wp2
            go_ret2
            rw [HE1.out]
            exact partsMade_nil HL.out (bup HB1.out HBR.out)
          · have hne : (S == 0) = false := by simpa using h0
            have hsp : 0 < S := by omega
            have hE1 : partsE t W = 0 := by rw [HE.out, if_neg (by omega)]
            have hL : partsL t W = partsR t S W := by unfold partsL; rw [hE1, if_pos rfl, hS0]
            have HE1 := Lib.hid hE1
            have HL := Lib.hid hL
            have HS0 := Lib.hid hS0
            have HBR := Lib.hid hbr
            have hsmall : S ≤ 200000000 := by omega
            clear hE1 hL hbr hSk hS0 hST HE
            obtain ⟨i1, hi, hz0, hz1, hz2⟩ := info_parts infoInt
            have zr := hzr
            have z4 : w.heap.size < wr.heap.size := by omega
            have z5 : w.heap.size + 1 < wr.heap.size := by omega
            have hs0 : (S == 0) = false := hne
            have hs1 : ¬ S = 0 := h0
            have HBS := Lib.hid (fun k => sum_base_take (t := t) (W := W) t0 (by rw [← HS0.out]; exact hsp) (fun x hx => (HW.out x hx).1) k)
            have HTK := Lib.hid (show ∀ k, k < n → ∃ x, W[k]? = some x ∧ (baseP t S W)[k]? = some (t * x / S) from fun k hk => ⟨W[k]'(by have := HN.out; omega), by simp, by simp [baseP, List.getElem?_map, show k < W.length by have := HN.out; omega]⟩)
            rename World => Wo
            go_wp2
            go_loopw [9, 10, 11, 41] (fun lv ov dv iv wq => ∃ (k : Nat), k ≤ n ∧ iv = .int .i64 k ∧ lv = .int .i64 (t - sumI ((baseP t S W).take k)) ∧ wq.ownsRow Wo.heap.size 3 1 ov k (((baseP t S W).take k).map cI) ∧ wq.ownsRow Wo.heap.size 3 1 dv k ((idxs k).map cI) ∧ Two ov dv ∧ Below Wo.heap.size Wo wq) (fun _ _ _ iv _ => n - (intOf iv).toNat)
            case atStart => exact ⟨0, by omega, rfl, by simp [sumI], World.ownsRow_nil _ _ _ _, World.ownsRow_nil _ _ _ _, fun b h => by simp [Value.ownBlock] at h, brefl⟩
            case round =>
              obtain ⟨k2, hk2, rfl, rfl, hro, hrd, htw, hbq⟩ := hrel
              have q2 := (hbq.cell (p := ⟨w.heap.size, 0, none⟩) (by exact z4)).trans y2
              have q6 := (hbq.cell (p := ⟨w1.heap.size, 0, none⟩) (by exact hzr)).trans h6
              have zq := hbq.size
              have zq4 : w.heap.size < wr.heap.size := by omega
              have zq6 : w1.heap.size < wr.heap.size := by omega
              obtain ⟨A0, hA0⟩ : ∃ A0, sumI ((baseP t S W).take k2) = A0 := ⟨_, rfl⟩
              have bA := HBS.out k2
              rw [← HS0.out, hA0] at bA
              have HRO := Lib.hid hro
              have HRD := Lib.hid hrd
              have HTW := Lib.hid htw
              have HBQ := Lib.hid hbq
              have hbq3 := hbq
              clear hro hrd htw hbq
              by_cases hlt : k2 < n
              · clear hbq3
                obtain ⟨b, off, x, rfl, -, -, hx, hc⟩ := (HS.out.below (bup (bup HB1.out HBR.out) HBQ.out)).int hlt
                obtain ⟨x', hx', hbx⟩ := HTK.out k2 hlt
                cases hx.symm.trans hx'
                have bx := HW.out x (List.mem_of_getElem? hx)
                have px := mul_bd t0 t1 bx.1 bx.2
                have bA1 := HBS.out (k2 + 1)
                rw [← HS0.out, take_snocZ hbx, sumI_append, hA0] at bA1
                have eq1 : (t * x).tdiv S = t * x / S := Int.tdiv_eq_ediv_of_nonneg px.1
                have HBX := Lib.hid hbx
                obtain ⟨p, hp⟩ : ∃ p, t * x = p := ⟨_, rfl⟩
                obtain ⟨q, hq⟩ : ∃ q, p / S = q := ⟨_, rfl⟩
                have qb : 0 ≤ q ∧ q ≤ 1000000000000 := by
                  simp only [sumI, hp, hq] at bA1
                  have : 0 ≤ q := by rw [← hq, ← hp]; exact Int.ediv_nonneg px.1 (by omega)
                  omega
                have HNX := Lib.hid (show (baseP t S W).take (k2 + 1) = (baseP t S W).take k2 ++ [q] by rw [take_snocZ hbx, hp, hq])
                rw [hp] at px eq1
                rw [hq] at eq1
                have wp_ : IntKind.i64.wrap p = p := IntWalk.i64_in _ (by omega)
                have wq_ : IntKind.i64.wrap q = q := IntWalk.i64_in _ (by omega)
                clear hx hx' hbx
                go_wp2_with (first
                  | (at_builtin; refine wpList_append_lies _ rfl _ _ 22 rfl Wo.heap.size 3 i1 (.int .i64 0) 1 8 Try.underlying22 hi hz0 hz1 hz2 rfl (by decide) u10 k2 (((baseP t S W).take k2).map cI) rfl (HRO.out.alloc _) ⟨wr.heap.size, 0, none⟩ 1 1 [.int .i64 q] rfl rfl (news1 _ _ _) (one1 _ _) (by omega) (by unfold maxLen; omega) (by omega) (by simp; omega) (wr.heap.size + 1) (by simp) ?_; intro g1 c1 w2 o2 gr2 at2 lt2; have hd2 := (HRD.out.alloc _).kept gr2 (two_far HTW.out); have b2 : Below Wo.heap.size Wo w2 := (HBQ.out.alloc HBQ.out.size _).grown gr2 (by simp; omega) (fun q hq => (HRO.out.lt q hq).1); have f2 := two_new (n := k2 + 1) (c := c1) HRD.out HTW.out (at2.imp id fun e => by simpa using e); have O2 := Lib.hid o2; have D2 := Lib.hid hd2; have B2 := Lib.hid b2; have F2 := Lib.hid f2; clear o2 gr2 at2 hd2 b2 f2)
                  | (at_builtin; refine wpList_append_lies _ rfl _ _ 22 rfl Wo.heap.size 3 i1 (.int .i64 0) 1 8 Try.underlying22 hi hz0 hz1 hz2 rfl (by decide) u11 k2 ((idxs k2).map cI) rfl (D2.out.alloc _) ⟨w2.heap.size, 0, none⟩ 1 1 [.int .i64 k2] rfl rfl (news1 _ _ _) (one1 _ _) (by omega) (by unfold maxLen; omega) (by omega) (by have := B2.out.size; simp; omega) (w2.heap.size + 1) (by simp) ?_; intro g2 c2 w3 o3 gr3 at3 lt3; have hd3 := (O2.out.alloc _).kept gr3 (F2.out); have b3 : Below Wo.heap.size Wo w3 := (B2.out.alloc B2.out.size _).grown gr3 (by have := B2.out.size; simp; omega) (fun q hq => (D2.out.lt q hq).1); have hco := cell_last hd3; have O3 := Lib.hid o3; have D3 := Lib.hid hd3; have B3 := Lib.hid b3; have F3 := Lib.hid (two_end (n := k2 + 1) (c := c1) (c' := c2) F2.out lt2 at3); have ho3 := hd3.frozenAt 0; clear o3 gr3 at3 hd3 b3 ho3))
                clear HRO HRD HTW
                have hA1 : sumI ((baseP t S W).take (k2 + 1)) = A0 + q := by rw [HNX.out, sumI_append, hA0]; simp [sumI]
                have HA1 := Lib.hid hA1
                clear hA1 hA0
                go_roundw
                case rel =>
                  refine ⟨k2 + 1, by omega, by go_num, ?_, ?_, ?_, F3.out, B3.out⟩
                  · rw [HA1.out]; go_num
                  · rw [HNX.out, List.map_append]; exact D3.out
                  · rw [idxs_succ, List.map_append]; exact O3.out
                case measure => simp [intOf]; omega
              · have hkn : k2 = n := by omega
                subst hkn
                obtain ⟨g1, c1, rfl, hg1, hg1z⟩ := HRO.out.form (by omega)
                obtain ⟨g2, c2, rfl, hg2', hg2z⟩ := HRD.out.form (by omega)
                have hgg : g1 ≠ g2 := fun e => HTW.out g1 rfl (by rw [e]; rfl)
                have q3 := (hbq3.cell (p := ⟨w.heap.size + 1, 0, none⟩) (by exact z5)).trans y3
                have HRI := Lib.hid (show RowI Wo.heap.size g2 k2 c2 (idxs k2) wr from ⟨HRD.out, idxs_length _⟩)
                have HRU := Lib.hid (show RowI Wo.heap.size g1 k2 c1 (baseP t S W) wr from ⟨by have h := HRO.out; rw [take_all (by simp [baseP, HN.out])] at h; exact h, by simp [baseP, HN.out]⟩)
                have hcap : k2 ≤ c2 := HRD.out.cap_le
                have HLB := Lib.hid (left_bd (t := t) (W := W) t0 (by rw [← HS0.out]; exact hsp))
                rw [take_all (by simp [baseP, HN.out])] at hA0
                obtain ⟨m, hm⟩ := Int.eq_ofNat_of_zero_le (show 0 ≤ t - A0 by omega)
                have hml : leftP t S W = m := by rw [leftP, hA0]; exact hm
                have hm2 : t - sumI ((baseP t S W).take k2) = m := by rw [take_all (by simp [baseP, HN.out]), hA0]; exact hm
                have hmk : m < k2 := by have h := HLB.out.2; rw [← HS0.out, hml, HN.out] at h; omega
                have HML := Lib.hid hml
                have HSL := Lib.hid ((HS.out.mono (Q := fun b => b < w.heap.size) (fun b _ h => h)).below (bup (bup HB1.out HBR.out) HBQ.out))
                have HSO := Lib.hid (sortStable_any 49 #[.pointer (some ⟨w.heap.size, 0, none⟩), .pointer (some ⟨w.heap.size + 1, 0, none⟩), .pointer (some ⟨w1.heap.size, 0, none⟩)] (cfP t S W) (fun x => 0 ≤ x ∧ x < W.length) Wo.heap.size g2 k2 c2 (idxs k2) wr (enters_of Try.func49 (by kernel_rfl) rfl)
                  (fun W' hW x y hx hy => parts2_any w.heap.size (w.heap.size + 1) w1.heap.size t S (.slice ao k2 c) (fun b => b < w.heap.size) W x y W' ⟨hW.cell (by simpa using q2) (by simp; omega), hW.cell (by simpa using q3) (by simp; omega), hW.cell q6 (by simp; omega), HSL.out.grown hW (fun b hb => by omega)⟩ t0 t1 hsp (by omega) HW.out (by rw [HN.out]; omega) hx.1 hx.2 hy.1 hy.2)
                  (cfP_wk _ _ _) (fun x hx => by have := idxs_mem hx; rw [HN.out]; exact this) HRI.out (by omega))
                have HORD := Lib.hid (show ordP t S W = srt (ltc (cfP t S W)) (idxs k2) by rw [ordP, HN.out])
                have HTK2 := Lib.hid (fun x (h : x ∈ ordP t S W) => ordP_mem h)
                have HBD := Lib.hid (base_bd (t := t) (W := W) t0 (by rw [← HS0.out]; exact hsp) (fun x hx => (HW.out x hx).1))
                have HLEN := Lib.hid (show (ordP t S W).length = k2 by rw [ordP_length, HN.out])
                clear HRO HRD HTW HRI HLB hml hA0 hm
                go_wp2_with (go_at_call 48; refine HSO.out.mono ?_; rintro e w2 ⟨rfl, hr2, hg2⟩)
                have HG2 := Lib.hid hg2
                have HR2 := Lib.hid (HORD.out ▸ hr2 : RowI Wo.heap.size g2 k2 c2 (ordP t S W) w2)
                have HU2 := Lib.hid (show RowI Wo.heap.size g1 k2 c1 (baseP t S W) w2 from ⟨HRU.out.1.kept hg2 (.inr (by simpa [Value.ownBlock] using hgg)), HRU.out.2⟩)
                clear hr2 hg2 q2 q3 q6 HSO
                go_loopw [72] (fun iv wz => ∃ (k : Nat), k ≤ m ∧ iv = .int .i64 k ∧ RowI Wo.heap.size g1 k2 c1 (bump (baseP t S W) ((ordP t S W).take k)) wz ∧ w2.grownBy wz (some g1)) (fun iv _ => m - (intOf iv).toNat)
                case atStart => exact ⟨0, by omega, rfl, HU2.out, grefl _ _⟩
                case round =>
                  obtain ⟨k3, hk3, rfl, hru, hgr⟩ := hrel
                  by_cases hlt3 : k3 < m
                  · obtain ⟨x, hx⟩ : ∃ x, (ordP t S W)[k3]? = some x := ⟨_, List.getElem?_eq_getElem (by have := HLEN.out; omega)⟩
                    have bx := HTK2.out x (List.mem_of_getElem? hx)
                    rw [HN.out] at bx
                    obtain ⟨a, rfl⟩ := Int.eq_ofNat_of_zero_le bx.1
                    have cx := (hgr.cell (HR2.out.at_ hx).1 (by simpa using Ne.symm hgg))
                    obtain ⟨y, hy⟩ : ∃ y, (bump (baseP t S W) ((ordP t S W).take k3))[a]? = some y := ⟨_, List.getElem?_eq_getElem (by rw [hru.2]; omega)⟩
                    obtain ⟨cy, fy⟩ := hru.at_ hy
                    have by_ := bump_bd (baseP t S W) ((ordP t S W).take k3) (B := t) (by rw [HS0.out]; exact HBD.out) y (List.mem_of_getElem? hy)
                    have hlk : ((ordP t S W).take k3).length ≤ k3 := by rw [List.length_take]; omega
                    have hset := hru.set a (y + 1)
                    have hbump : bump (baseP t S W) ((ordP t S W).take (k3 + 1)) = (bump (baseP t S W) ((ordP t S W).take k3)).set a (y + 1) := by
                      rw [take_snocZ hx, bump_append]
                      simp [bump, List.getD_eq_getElem?_getD, hy]
                    have HSET := Lib.hid hset
                    have HGR := Lib.hid hgr
                    have HBM := Lib.hid hbump
                    have y0 : 0 ≤ y := by_.1
                    have y1 : y ≤ 2000000000000 := by omega
                    have ha : (a : Int) < k2 := bx.2
                    have ha2 : a < k2 := by omega
                    have h3 : (k3 : Int) < m := by omega
                    clear hset hgr hbump hru hx hy by_ hlk
                    go_wp2
                    go_roundw
                    case rel => exact ⟨k3 + 1, by omega, by go_num, by rw [HBM.out]; exact HSET.out.1, gtrans HGR.out HSET.out.2⟩
                    case measure => simp [intOf]; omega
                  · have hkm : k3 = m := by omega
                    subst hkm
                    have HRF := Lib.hid (show RowI Wo.heap.size g1 k2 c1 (partsR t S W) wr from by rw [partsR, HML.out]; exact hru)
                    have HGR := Lib.hid hgr
                    clear hru hgr
                    go_wp2
                    go_ret2
                    rw [HE1.out, HL.out]
                    have hz : Wo.heap.size ≤ w2.heap.size := by have h1 := HBQ.out.size; have h2 := HG2.out.size; omega
                    have hb : Below Wo.heap.size Wo _ := (HBQ.out.grown HG2.out (by have := HBQ.out.size; omega) (fun q hq => by cases hq; exact hg2')).grown HGR.out hz (fun q hq => by cases hq; exact hg1)
                    exact ⟨_, rfl, Sl.own encI_len (by rw [flatI]; exact HRF.out.1) HRF.out.2 (fun b h => by omega), bup (bup HB1.out HBR.out) hb⟩
  · have hE : partsE t W = 2 := by unfold partsE; rw [hT, hA]; rfl
    have hL : partsL t W = [] := by unfold partsL; rw [hE]; rfl
    rw [hE]
    have HL := Lib.hid hL
    have HA := Lib.hid hA
    clear hE hL hT hA
    go_enter Try.func39, Try.ntmps39
    go_wp2_with (go_at_call 44; refine (valid_any _ _).mono ?_; rw [HT.out]; rintro e w1 ⟨rfl, rfl⟩)
    go_wp2_with fail
    refine (HWG.out _ (bal (bal brefl _) _)).mono ?_
    rw [HA.out]
    rintro e w1 ⟨rfl, hb1⟩
    go_wp2
    go_ret2
    exact partsMade_nil HL.out (bup (bal (bal brefl _) _) hb1)
end Go.Proofs.Ytkdbdncboljfhaa
