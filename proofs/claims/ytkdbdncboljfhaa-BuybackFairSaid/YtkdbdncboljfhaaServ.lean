/- Rows of rows; auction.Serve, without the bids (out of XAucC). -/
import Derived.Test.YtkdbdncboljfhaaCloneA
import Derived.Test.YtkdbdncboljfhaaRowZ
import Derived.Test.YtkdbdncboljfhaaDlP
import Derived.Test.YtkdbdncboljfhaaMonB
import Derived.Maps.AppendAt
namespace Go.Proofs.Ytkdbdncboljfhaa
open Go.RowKit
set_option linter.unusedVariables false
set_option linter.unusedSimpArgs false
theorem infoSl : (Try.prog.info? 22).map (fun i => (i.zero, i.size, i.bytes)) = some (some (.slice none 0 0), 1, 24) := by kernel_rfl
theorem infoRk : (Try.prog.info? 55).map (fun i => (i.zero, i.size, i.bytes)) = some (some (.agg #[.slice none 0 0]), 1, 24) := by kernel_rfl
def encV (v : Value) : List Value := [v]
theorem encV_len (v : Value) : (encV v).length = 1 := rfl
/-- each value reads as its list -/
def RowsI (P : Nat → Prop) (w : World) (vs : List Value) (GG : List (List Int)) : Prop :=
  vs.length = GG.length ∧ ∀ (k : Nat) (u : Value) (G : List Int), vs[k]? = some u → GG[k]? = some G → Sl 1 encI P w u G
/-- a row of rows of numbers -/
def SlsI (P : Nat → Prop) (w : World) (v : Value) (GG : List (List Int)) : Prop := ∃ vs, Sl 1 encV P w v vs ∧ RowsI P w vs GG
theorem RowsI.below {P : Nat → Prop} {w w' : World} {vs : List Value} {GG : List (List Int)} (h : RowsI P w vs GG) (hb : Below w.heap.size w w') : RowsI P w' vs GG :=
  ⟨h.1, fun k u G hu hG => (h.2 k u G hu hG).below hb⟩
theorem RowsI.nil {P : Nat → Prop} {w : World} : RowsI P w [] [] := ⟨rfl, fun k u G h => by simp at h⟩
theorem RowsI.snoc {P : Nat → Prop} {w : World} {vs : List Value} {GG : List (List Int)} {u : Value} {G : List Int} (h : RowsI P w vs GG) (hu : Sl 1 encI P w u G) : RowsI P w (vs ++ [u]) (GG ++ [G]) := by
  refine ⟨by simp [h.1], fun k x y hx hy => ?_⟩
  rcases Nat.lt_or_ge k vs.length with hk | hk
  · rw [List.getElem?_append_left hk] at hx
    rw [List.getElem?_append_left (by rw [← h.1]; exact hk)] at hy
    exact h.2 k x y hx hy
  · have hlt := (List.getElem?_eq_some_iff.1 hx).1
    simp only [List.length_append, List.length_cons, List.length_nil] at hlt
    obtain rfl : k = vs.length := by omega
    rw [List.getElem?_append_right (Nat.le_refl _), Nat.sub_self] at hx
    rw [h.1, List.getElem?_append_right (Nat.le_refl _), Nat.sub_self] at hy
    simp only [List.getElem?_cons_zero, Option.some.injEq] at hx hy
    subst hx hy
    exact hu
theorem SlsI.below {P : Nat → Prop} {w w' : World} {v : Value} {GG : List (List Int)} (h : SlsI P w v GG) (hb : Below w.heap.size w w') : SlsI P w' v GG := by
  obtain ⟨vs, h1, h2⟩ := h
  exact ⟨vs, h1.below hb, h2.below hb⟩
theorem RowsI.mono {P Q : Nat → Prop} {w : World} {vs : List Value} {GG : List (List Int)} (h : RowsI P w vs GG) (hq : ∀ b, P b → b < w.heap.size → Q b) : RowsI Q w vs GG :=
  ⟨h.1, fun k u G hu hG => (h.2 k u G hu hG).mono hq⟩
theorem SlsI.shape {P : Nat → Prop} {w : World} {v : Value} {GG : List (List Int)} (h : SlsI P w v GG) : ∃ ao n c, v = .slice ao n c ∧ GG.length = n ∧ n ≤ c ∧ c ≤ maxLen := by
  obtain ⟨vs, h1, h2⟩ := h
  obtain ⟨ao, n, c, h3, h4, h5, h6⟩ := h1.shape
  exact ⟨ao, n, c, h3, by rw [← h2.1]; exact h4, h5, h6⟩
/-- the place of a row -/
theorem SlsI.at_ {P : Nat → Prop} {w : World} {ao : Option Addr} {n c k : Nat} {GG : List (List Int)} (h : SlsI P w (.slice ao n c) GG) (hk : k < n) :
    ∃ b off ga gn gc G, ao = some ⟨b, off, none⟩ ∧ P b ∧ b < w.heap.size ∧ GG[k]? = some G ∧ w.cell? ⟨b, off + k, none⟩ = some (.slice ga gn gc) ∧ G.length = gn ∧ Sl 1 encI P w (.slice ga gn gc) G := by
  obtain ⟨vs, h1, h2⟩ := h
  obtain ⟨b, off, u, e1, e2, e3, e4, e5⟩ := h1.at_ hk
  have hG : k < GG.length := by rw [← h2.1, h1.len]; exact hk
  have hS := h2.2 k u GG[k] e4 (List.getElem?_eq_getElem hG)
  obtain ⟨ga, gn, gc, rfl, hgn, -, -⟩ := hS.shape
  exact ⟨b, off, ga, gn, gc, GG[k], e1, e2, e3, List.getElem?_eq_getElem hG, by simpa using e5 0 _ rfl, hgn, hS⟩
theorem oneVs {P : Nat → Prop} {w : World} {vs : List Value} {GG : List (List Int)} (h : RowsI P w vs GG) : ∀ u ∈ flatE encV vs, u.oneCell' = true := by
  intro u hu
  simp only [flatE, List.mem_flatMap, encV, List.mem_singleton] at hu
  obtain ⟨x, hx, rfl⟩ := hu
  obtain ⟨k, hk⟩ := List.mem_iff_getElem?.1 hx
  have hG : k < GG.length := by rw [← h.1]; exact (List.getElem?_eq_some_iff.1 hk).1
  obtain ⟨ga, gn, gc, rfl, -, -, -⟩ := (h.2 k _ GG[k] hk (List.getElem?_eq_getElem hG)).shape
  rfl
/-- the rows stay while the row that holds them grows -/
theorem RowsI.app {B g : Nat} {U U' : World} {ov v' : Value} {us : List Value} {GG : List (List Int)} (h : RowsI (fun b => B ≤ b ∧ some b ≠ ov.ownBlock) U us GG) (hg : U.grownBy U' ov.ownBlock) (hloc : v'.ownBlock = ov.ownBlock ∨ v'.ownBlock = some g) (hgz : U.heap.size ≤ g) :
    RowsI (fun b => B ≤ b ∧ some b ≠ v'.ownBlock) U' us GG := by
  refine ⟨h.1, fun k u G hu hG => ?_⟩
  have h1 : Sl 1 encI (fun b => (B ≤ b ∧ some b ≠ ov.ownBlock) ∧ some b ≠ v'.ownBlock) U u G := (h.2 k u G hu hG).mono fun b hb hlt => ⟨hb, by
    rcases hloc with h2 | h2
    · rw [h2]; exact hb.2
    · rw [h2]; intro e; cases e; omega⟩
  exact (h1.block hg.size fun b hb hlt => hg.block b hlt hb.1.2).mono fun b hb _ => ⟨hb.1.1, hb.2⟩
/-- the ranks are served, one behind the other -/
def srvL : Int → List (List Int) → List (List Int)
  | _, [] => []
  | left, r :: rs => (if left < sumI r then partsL left r else r) :: srvL (left - min left (sumI r)) rs
/-- lots that can be served -/
structure RanksOk (RR : List (List Int)) : Prop where
  n : RR.length ≤ 100
  k : ∀ r ∈ RR, r.length ≤ 100
  b : ∀ r ∈ RR, ∀ x ∈ r, 0 ≤ x ∧ x ≤ 1000000
theorem sumI_bd {r : List Int} (hl : r.length ≤ 100) (hb : ∀ x ∈ r, 0 ≤ x ∧ x ≤ 1000000) : 0 ≤ sumI r ∧ sumI r ≤ 100000000 := by
  refine ⟨sumI_nonneg fun x hx => (hb x hx).1, ?_⟩
  have := sumI_le (L := r) (B := 1000000) fun x hx => (hb x hx).2
  omega
theorem sumI_snoc {L : List Int} {k : Nat} {x : Int} (h : L[k]? = some x) : sumI (L.take (k + 1)) = sumI (L.take k) + x := by
  rw [take_snocZ h, sumI_append]; simp [sumI]
set_option maxHeartbeats 8000000 in
set_option maxRecDepth 100000 in
theorem serve_any (left : Int) (P : Nat → Prop) (v : Value) (RR : List (List Int)) (w : World) (hS : SlsI P w v RR) (hR : RanksOk RR) (h0 : 0 ≤ left) (h1 : left ≤ 1000000) :
    Calls Try.prog 24 #[.int .i64 left, v] w fun e w' => ∃ v', e = .returned v' ∧ SlsI (fun b => w.heap.size ≤ b) w' v' (srvL left RR) ∧ Below w.heap.size w w' := by
  obtain ⟨ao, n, c, rfl, hn, -, -⟩ := hS.shape
  have hn100 : n ≤ 100 := by have := hR.n; omega
  obtain ⟨M, hM⟩ : ∃ M, srvL left RR = M := ⟨_, rfl⟩
  rw [hM]
  have HS := Lib.hid hS
  have HR := Lib.hid hR
  have HN := Lib.hid hn
  have HM := Lib.hid hM
  obtain ⟨i1, hi, hz0, hz1, hz2⟩ := info_parts infoSl
  clear hS hR hn hM
  go_enter Try.func24, Try.ntmps24
  go_wp2
  go_loopw [0, 5, 14] (fun lv ov iv wr => ∃ (k : Nat) (lf : Int) (us : List Value) (acc : List (List Int)), k ≤ n ∧ iv = .int .i64 k ∧ lv = .int .i64 lf ∧ 0 ≤ lf ∧ lf ≤ left ∧ acc ++ srvL lf (RR.drop k) = M ∧ us.length ≤ k ∧ wr.ownsRow w.heap.size 22 1 ov us.length (flatE encV us) ∧ RowsI (fun b => w.heap.size ≤ b ∧ some b ≠ ov.ownBlock) wr us acc ∧ Below w.heap.size w wr) (fun _ _ iv _ => n - (intOf iv).toNat)
  case atStart => exact ⟨0, left, [], [], by omega, rfl, rfl, h0, Int.le_refl _, HM.out, by simp, World.ownsRow_nil _ _ _ _, RowsI.nil, brefl⟩
  case round =>
    obtain ⟨k, lf, us, acc, hk, rfl, rfl, hl0, hl1, hacc, hul, hown, hrow, hbr⟩ := hrel
    have zr := hbr.size
    by_cases hlt : k < n
    · obtain ⟨bb, off, ga, gn, gc, G, rfl, -, hbb, hG, k0, hgn, hSG⟩ := (HS.out.below hbr).at_ hlt
      have hkz : (k : Int) < (n : Int) := by omega
      have hGm := List.mem_of_getElem? hG
      have hgl := HR.out.k G hGm
      have hgb := HR.out.b G hGm
      obtain ⟨hs0, hs1⟩ := sumI_bd hgl hgb
      rw [drop_cons hG] at hacc
      simp only [srvL] at hacc
      obtain ⟨S, hSS⟩ : ∃ S, sumI G = S := ⟨_, rfl⟩
      rw [hSS] at hacc hs0 hs1
      have HACC := Lib.hid hacc
      have HSG := Lib.hid hSG
      have HOWN := Lib.hid hown
      have HROW := Lib.hid hrow
      have HBR := Lib.hid hbr
      have HGB := Lib.hid hgb
      have HGN := Lib.hid hgn
      have HSS := Lib.hid hSS
      have hgn100 : gn ≤ 100 := by omega
      clear hacc hSG hown hrow hbr hgb hGm hG hgl hSS hgn
      have hsl : wr.heap.size < (wr.alloc (.cells #[.slice ga gn gc] 55 (0, 0))).heap.size := by simp
      obtain ⟨W1, hW1⟩ : ∃ W, W = wr.alloc (.cells #[.slice ga gn gc] 55 (0, 0)) := ⟨_, rfl⟩
      have hb1 : Below wr.heap.size wr W1 := by rw [hW1]; exact bal brefl _
      have c0 : W1.cell? ⟨wr.heap.size, 0, none⟩ = some (.slice ga gn gc) := by rw [hW1]; exact World.cell?_alloc_at _ _ _ _ (by simp)
      have zW1 : wr.heap.size < W1.heap.size := World.block_lt_of_cell? _ _ c0
      have HSG1 := Lib.hid (HSG.out.below hb1)
      have HB1 := Lib.hid hb1
      have HW1 := Lib.hid hW1
      clear hW1 hb1 hsl
      go_upto_region 5 with fail
      rw [← HW1.out]
      go_wp2
      go_loopw [8, 21] (fun sv jv wq => ∃ j : Nat, j ≤ gn ∧ jv = .int .i64 j ∧ sv = .int .i64 (sumI (G.take j)) ∧ wq = W1) (fun _ jv _ => gn - (intOf jv).toNat)
      case atStart => exact ⟨0, by omega, rfl, rfl, rfl⟩
      case round =>
        obtain ⟨j, hj, rfl, rfl, hwq⟩ := hrel
        obtain rfl := hwq.symm
        by_cases hjl : j < gn
        · obtain ⟨gb, goff, x, rfl, -, hgbb, hx, g0⟩ := HSG1.out.int hjl
          have hjz : (j : Int) < (gn : Int) := by omega
          have hxb := HGB.out x (List.mem_of_getElem? hx)
          have hsn := sumI_snoc hx
          obtain ⟨hp0, hp1⟩ := sumI_bd (r := G.take j) (by rw [List.length_take]; omega) (fun y hy => HGB.out y (List.mem_of_mem_take hy))
          obtain ⟨s, hs⟩ : ∃ s, sumI (G.take j) = s := ⟨_, rfl⟩
          rw [hs] at hsn hp0 hp1 ⊢
          obtain ⟨hx0, hx1⟩ := hxb
          have HSN := Lib.hid hsn
          have hwr : wrap64 (s + x) = s + x := IntWalk.wrap64_in _ (by omega)
          clear hx hsn hs
          go_wp2
          go_roundw
          case rel => exact ⟨j + 1, by omega, by go_num, by rw [HSN.out], by first | rfl | trivial⟩
          case measure => simp [intOf]; omega
        · obtain rfl : gn = j := by omega
          rw [show G.take gn = G from List.take_of_length_le (by have := HGN.out; omega), HSS.out]
          have KC := Lib.hid (cloneEI_any (fun _ => True) (.slice ga gn gc) G W1 (HSG1.out.mono (fun _ _ _ => trivial)) (by have := HGN.out; omega))
          clear hjl
          go_wp2_with fail
          refine KC.out.mono ?_
          rintro e w2 ⟨cv, rfl, ho2, hb2⟩
          obtain ⟨va, vn, vc, rfl⟩ : ∃ a n c, cv = .slice a n c := by obtain ⟨a, c, h⟩ := own_sl ho2; exact ⟨a, _, c, h⟩
          have hS2 : Sl 1 encI (fun b => w.heap.size ≤ b ∧ some b ≠ u5.ownBlock) w2 (.slice va vn vc) G := Sl.own encI_len ho2 rfl (fun b hb => ⟨by have := HB1.out.size; omega, fun e => by have := (HOWN.out.lt b e.symm).2; have := HB1.out.size; omega⟩)
          have HS2 := Lib.hid hS2
          have HSG2 := Lib.hid (HSG1.out.below hb2)
          have HB2 := Lib.hid (bup HB1.out hb2)
          have c2 := keepB hb2 c0
          have z2 : wr.heap.size < w2.heap.size := by have := hb2.size; omega
          clear ho2 hb2 hS2
          by_cases hlS : lf < S
          · have hpe : partsE lf G = 0 := by
              unfold partsE
              rw [inB_iff.2 ⟨hl0, by omega⟩, if_pos rfl, if_neg (by
                rw [Bool.not_eq_true, List.any_eq_false]
                intro x hx
                obtain ⟨x0, x1⟩ := HGB.out x hx
                unfold wgB
                rw [inB_iff.2 ⟨x0, x1⟩]; simp), if_neg (by have := HGN.out; omega), if_neg (by rw [HSS.out]; omega)]
            have KP := Lib.hid (parts_any lf (fun _ => True) (.slice ga gn gc) G w2 (HSG2.out.mono (fun _ _ _ => trivial)) (by have := HGN.out; omega))
            rw [hpe] at KP
            have hacc := HACC.out
            rw [if_pos hlS, show min lf S = lf by omega] at hacc
            have HACC2 := Lib.hid hacc
            clear hacc hpe
            go_wp2_with fail
            refine KP.out.mono ?_
            rintro e w3 ⟨pv, rfl, hS3, hb3⟩
            obtain ⟨pa, pn, pc, rfl, -, -, -⟩ := hS3.shape
            have HB3 := Lib.hid (bup HB2.out hb3)
            have HROW3 := Lib.hid ((HROW.out.below HB3.out).snoc (u := .slice pa pn pc) (hS3.mono (fun b hb _ => ⟨by have := HB2.out.size; omega, fun e => by have := (HOWN.out.lt b e.symm).2; have := HB2.out.size; omega⟩)))
            have HOW3 := Lib.hid (ownsRow_belowZ HOWN.out HB3.out)
            have z3 : wr.heap.size < w3.heap.size := by have := hb3.size; omega
            have hone : (Value.slice pa pn pc).oneCell' = true := rfl
            clear hS3 hb3
            go_wp2_with (at_builtin; go_must (refine wpList_append_own_at _ rfl _ _ 58 rfl w.heap.size 22 i1 (.slice none 0 0) 1 24 Try.underlying58 hi hz0 hz1 hz2 rfl (by decide) _ _ _ rfl (HOW3.out.alloc _) ⟨_, 0, none⟩ 1 1 (encV (.slice pa pn pc)) rfl rfl (newsL _ _ _) (by intro u hu; simp only [encV, List.mem_singleton] at hu; subst hu; exact hone) (by unfold maxLen; omega) (by omega) (by simp; omega) ?_); intro v' w9 hown' hgrow _ hloc)
            go_roundw
            case rel => exact ⟨k + 1, lf - lf, us ++ [.slice pa pn pc], acc ++ [partsL lf G], by omega, by go_num, by go_num, by omega, by omega, by rw [List.append_assoc]; exact HACC2.out, by simp; omega, by rw [flatE_snoc, List.length_append]; exact hown', (HROW3.out.below (bal brefl _)).app hgrow hloc (Nat.le_refl _), HBR.out.trans ((((HB3.out.mono zr).alloc (by omega) _)).grown hgrow (by simp; omega) (fun q hq => (HOW3.out.lt q hq).1))⟩
            case measure => simp [intOf]; omega
          · have hacc := HACC.out
            rw [if_neg hlS, show min lf S = S by omega] at hacc
            have HACC2 := Lib.hid hacc
            have HROWC := Lib.hid ((HROW.out.below HB2.out).snoc (u := .slice va vn vc) (HS2.out.mono (fun b hb hlt => ⟨hb.1, hb.2⟩)))
            have HOWC := Lib.hid (ownsRow_belowZ HOWN.out HB2.out)
            have hone : (Value.slice va vn vc).oneCell' = true := rfl
            clear hacc
            go_wp2_with (at_builtin; go_must (refine wpList_append_own_at _ rfl _ _ 58 rfl w.heap.size 22 i1 (.slice none 0 0) 1 24 Try.underlying58 hi hz0 hz1 hz2 rfl (by decide) _ _ _ rfl (HOWC.out.alloc _) ⟨_, 0, none⟩ 1 1 (encV (.slice va vn vc)) rfl rfl (newsL _ _ _) (by intro u hu; simp only [encV, List.mem_singleton] at hu; subst hu; exact hone) (by unfold maxLen; omega) (by omega) (by simp; omega) ?_); intro v' w9 hown' hgrow _ hloc)
            go_roundw
            case rel => exact ⟨k + 1, lf - S, us ++ [.slice va vn vc], acc ++ [G], by omega, by go_num, by go_num, by omega, by omega, by rw [List.append_assoc]; exact HACC2.out, by simp; omega, by rw [flatE_snoc, List.length_append]; exact hown', (HROWC.out.below (bal brefl _)).app hgrow hloc (Nat.le_refl _), HBR.out.trans ((((HB2.out.mono zr).alloc (by omega) _)).grown hgrow (by simp; omega) (fun q hq => (HOWC.out.lt q hq).1))⟩
            case measure => simp [intOf]; omega
    · obtain rfl : n = k := by omega
      have hM : acc = M := by
        rw [← hacc, List.drop_of_length_le (by have := HN.out; omega)]; simp [srvL]
      subst hM
      have hfin : SlsI (fun b => w.heap.size ≤ b) wr u5 acc := ⟨us, Sl.own encV_len hown rfl (fun _ h => h), hrow.mono (fun b hb _ => hb.1)⟩
      have HFIN := Lib.hid hfin
      clear hacc hown hrow hfin
      go_wp2
      go_ret
      exact ⟨_, rfl, HFIN.out, hbr⟩
end Go.Proofs.Ytkdbdncboljfhaa
