/- Auction: rows of rows; Serve. Auction: the sale; free, cut, average, price. -/
import Derived.Test.YtenbbmmbpjjjpaaZAucB
import Derived.Test.YtenbbmmbpjjjpaaZMonC
import Derived.Maps.AppendAt
namespace Go.Proofs.Ytenbbmmbpjjjpaa
open Go.RowKit
set_option linter.unusedVariables false
set_option linter.unusedSimpArgs false
theorem infoSl : (Try.prog.info? 22).map (fun i => (i.zero, i.size, i.bytes)) = some (some (.slice none 0 0), 1, 24) := by kernel_rfl
theorem infoRk : (Try.prog.info? 86).map (fun i => (i.zero, i.size, i.bytes)) = some (some (.agg #[.slice none 0 0]), 1, 24) := by kernel_rfl
def encV (v : Value) : List Value := [v]
theorem encV_len (v : Value) : (encV v).length = 1 := rfl
/-- each value reads as its list -/
def RowsI (P : Nat → Prop) (w : World) (vs : List Value) (GG : List (List Int)) : Prop :=
  vs.length = GG.length ∧ ∀ (k : Nat) (u : Value) (G : List Int), vs[k]? = some u → GG[k]? = some G → Sl 1 encI P w u G
/-- a row of rows of numbers -/
def SlsI (P : Nat → Prop) (w : World) (v : Value) (GG : List (List Int)) : Prop := ∃ vs, Sl 1 encV P w v vs ∧ RowsI P w vs GG
theorem RowsI.below {P : Nat → Prop} {w w' : World} {vs : List Value} {GG : List (List Int)} (h : RowsI P w vs GG) (hb : Below w.heap.size w w') : RowsI P w' vs GG :=
  ⟨h.1, fun k u G hu hG => (h.2 k u G hu hG).below hb⟩
theorem RowsI.nil {P : Nat → Prop} {w : World} : RowsI P w [] [] := ⟨rfl, fun k u G h => by simp at h⟩
theorem RowsI.snoc {P : Nat → Prop} {w : World} {vs : List Value} {GG : List (List Int)} {u : Value} {G : List Int} (h : RowsI P w vs GG) (hu : Sl 1 encI P w u G) : RowsI P w (vs ++ [u]) (GG ++ [G]) := by
  refine ⟨by simp [h.1], fun k x y hx hy => ?_⟩
  rcases Nat.lt_or_ge k vs.length with hk | hk
  · rw [List.getElem?_append_left hk] at hx
    rw [List.getElem?_append_left (by rw [← h.1]; exact hk)] at hy
    exact h.2 k x y hx hy
  · have hlt := (List.getElem?_eq_some_iff.1 hx).1
    simp only [List.length_append, List.length_cons, List.length_nil] at hlt
    obtain rfl : k = vs.length := by omega
    rw [List.getElem?_append_right (Nat.le_refl _), Nat.sub_self] at hx
    rw [h.1, List.getElem?_append_right (Nat.le_refl _), Nat.sub_self] at hy
    simp only [List.getElem?_cons_zero, Option.some.injEq] at hx hy
    subst hx hy
    exact hu
theorem SlsI.below {P : Nat → Prop} {w w' : World} {v : Value} {GG : List (List Int)} (h : SlsI P w v GG) (hb : Below w.heap.size w w') : SlsI P w' v GG := by
  obtain ⟨vs, h1, h2⟩ := h
  exact ⟨vs, h1.below hb, h2.below hb⟩
theorem RowsI.mono {P Q : Nat → Prop} {w : World} {vs : List Value} {GG : List (List Int)} (h : RowsI P w vs GG) (hq : ∀ b, P b → b < w.heap.size → Q b) : RowsI Q w vs GG :=
  ⟨h.1, fun k u G hu hG => (h.2 k u G hu hG).mono hq⟩
theorem SlsI.shape {P : Nat → Prop} {w : World} {v : Value} {GG : List (List Int)} (h : SlsI P w v GG) : ∃ ao n c, v = .slice ao n c ∧ GG.length = n ∧ n ≤ c ∧ c ≤ maxLen := by
  obtain ⟨vs, h1, h2⟩ := h
  obtain ⟨ao, n, c, h3, h4, h5, h6⟩ := h1.shape
  exact ⟨ao, n, c, h3, by rw [← h2.1]; exact h4, h5, h6⟩
/-- the place of a row -/
theorem SlsI.at_ {P : Nat → Prop} {w : World} {ao : Option Addr} {n c k : Nat} {GG : List (List Int)} (h : SlsI P w (.slice ao n c) GG) (hk : k < n) :
    ∃ b off ga gn gc G, ao = some ⟨b, off, none⟩ ∧ P b ∧ b < w.heap.size ∧ GG[k]? = some G ∧ w.cell? ⟨b, off + k, none⟩ = some (.slice ga gn gc) ∧ G.length = gn ∧ Sl 1 encI P w (.slice ga gn gc) G := by
  obtain ⟨vs, h1, h2⟩ := h
  obtain ⟨b, off, u, e1, e2, e3, e4, e5⟩ := h1.at_ hk
  have hG : k < GG.length := by rw [← h2.1, h1.len]; exact hk
  have hS := h2.2 k u GG[k] e4 (List.getElem?_eq_getElem hG)
  obtain ⟨ga, gn, gc, rfl, hgn, -, -⟩ := hS.shape
  exact ⟨b, off, ga, gn, gc, GG[k], e1, e2, e3, List.getElem?_eq_getElem hG, by simpa using e5 0 _ rfl, hgn, hS⟩
theorem oneVs {P : Nat → Prop} {w : World} {vs : List Value} {GG : List (List Int)} (h : RowsI P w vs GG) : ∀ u ∈ flatE encV vs, u.oneCell' = true := by
  intro u hu
  simp only [flatE, List.mem_flatMap, encV, List.mem_singleton] at hu
  obtain ⟨x, hx, rfl⟩ := hu
  obtain ⟨k, hk⟩ := List.mem_iff_getElem?.1 hx
  have hG : k < GG.length := by rw [← h.1]; exact (List.getElem?_eq_some_iff.1 hk).1
  obtain ⟨ga, gn, gc, rfl, -, -, -⟩ := (h.2 k _ GG[k] hk (List.getElem?_eq_getElem hG)).shape
  rfl
/-- the rows stay while the row that holds them grows -/
theorem RowsI.app {B g : Nat} {U U' : World} {ov v' : Value} {us : List Value} {GG : List (List Int)} (h : RowsI (fun b => B ≤ b ∧ some b ≠ ov.ownBlock) U us GG) (hg : U.grownBy U' ov.ownBlock) (hloc : v'.ownBlock = ov.ownBlock ∨ v'.ownBlock = some g) (hgz : U.heap.size ≤ g) :
    RowsI (fun b => B ≤ b ∧ some b ≠ v'.ownBlock) U' us GG := by
  refine ⟨h.1, fun k u G hu hG => ?_⟩
  have h1 : Sl 1 encI (fun b => (B ≤ b ∧ some b ≠ ov.ownBlock) ∧ some b ≠ v'.ownBlock) U u G := (h.2 k u G hu hG).mono fun b hb hlt => ⟨hb, by
    rcases hloc with h2 | h2
    · rw [h2]; exact hb.2
    · rw [h2]; intro e; cases e; omega⟩
  exact (h1.block hg.size fun b hb hlt => hg.block b hlt hb.1.2).mono fun b hb _ => ⟨hb.1.1, hb.2⟩
/-- the ranks are served, one behind the other -/
def srvL : Int → List (List Int) → List (List Int)
  | _, [] => []
  | left, r :: rs => (if left < sumI r then partsL left r else r) :: srvL (left - min left (sumI r)) rs
/-- lots that can be served -/
structure RanksOk (RR : List (List Int)) : Prop where
  n : RR.length ≤ 100
  k : ∀ r ∈ RR, r.length ≤ 100
  b : ∀ r ∈ RR, ∀ x ∈ r, 0 ≤ x ∧ x ≤ 1000000
theorem sumI_bd {r : List Int} (hl : r.length ≤ 100) (hb : ∀ x ∈ r, 0 ≤ x ∧ x ≤ 1000000) : 0 ≤ sumI r ∧ sumI r ≤ 100000000 := by
  refine ⟨sumI_nonneg fun x hx => (hb x hx).1, ?_⟩
  have := sumI_le (L := r) (B := 1000000) fun x hx => (hb x hx).2
  omega
theorem sumI_snoc {L : List Int} {k : Nat} {x : Int} (h : L[k]? = some x) : sumI (L.take (k + 1)) = sumI (L.take k) + x := by
  rw [take_snocZ h, sumI_append]; simp [sumI]
set_option maxHeartbeats 8000000 in
set_option maxRecDepth 100000 in
theorem serve_any (left : Int) (P : Nat → Prop) (v : Value) (RR : List (List Int)) (w : World) (hS : SlsI P w v RR) (hR : RanksOk RR) (h0 : 0 ≤ left) (h1 : left ≤ 1000000) :
    Calls Try.prog 54 #[.int .i64 left, v] w fun e w' => ∃ v', e = .returned v' ∧ SlsI (fun b => w.heap.size ≤ b) w' v' (srvL left RR) ∧ Below w.heap.size w w' := by
  obtain ⟨ao, n, c, rfl, hn, -, -⟩ := hS.shape
  have hn100 : n ≤ 100 := by have := hR.n; omega
  obtain ⟨M, hM⟩ : ∃ M, srvL left RR = M := ⟨_, rfl⟩
  rw [hM]
  have HS := Lib.hid hS
  have HR := Lib.hid hR
  have HN := Lib.hid hn
  have HM := Lib.hid hM
  obtain ⟨i1, hi, hz0, hz1, hz2⟩ := info_parts infoSl
  clear hS hR hn hM
  go_enter Try.func54, Try.ntmps54
  go_wp2
  go_loopw [0, 5, 14] (fun lv ov iv wr => ∃ (k : Nat) (lf : Int) (us : List Value) (acc : List (List Int)), k ≤ n ∧ iv = .int .i64 k ∧ lv = .int .i64 lf ∧ 0 ≤ lf ∧ lf ≤ left ∧ acc ++ srvL lf (RR.drop k) = M ∧ us.length ≤ k ∧ wr.ownsRow w.heap.size 22 1 ov us.length (flatE encV us) ∧ RowsI (fun b => w.heap.size ≤ b ∧ some b ≠ ov.ownBlock) wr us acc ∧ Below w.heap.size w wr) (fun _ _ iv _ => n - (intOf iv).toNat)
  case atStart => exact ⟨0, left, [], [], by omega, rfl, rfl, h0, Int.le_refl _, HM.out, by simp, World.ownsRow_nil _ _ _ _, RowsI.nil, brefl⟩
  case round =>
    obtain ⟨k, lf, us, acc, hk, rfl, rfl, hl0, hl1, hacc, hul, hown, hrow, hbr⟩ := hrel
    have zr := hbr.size
    by_cases hlt : k < n
    · obtain ⟨bb, off, ga, gn, gc, G, rfl, -, hbb, hG, k0, hgn, hSG⟩ := (HS.out.below hbr).at_ hlt
      have hkz : (k : Int) < (n : Int) := by omega
      have hGm := List.mem_of_getElem? hG
      have hgl := HR.out.k G hGm
      have hgb := HR.out.b G hGm
      obtain ⟨hs0, hs1⟩ := sumI_bd hgl hgb
      rw [drop_cons hG] at hacc
      simp only [srvL] at hacc
      obtain ⟨S, hSS⟩ : ∃ S, sumI G = S := ⟨_, rfl⟩
      rw [hSS] at hacc hs0 hs1
      have HACC := Lib.hid hacc
      have HSG := Lib.hid hSG
      have HOWN := Lib.hid hown
      have HROW := Lib.hid hrow
      have HBR := Lib.hid hbr
      have HGB := Lib.hid hgb
      have HGN := Lib.hid hgn
      have HSS := Lib.hid hSS
      have hgn100 : gn ≤ 100 := by omega
      clear hacc hSG hown hrow hbr hgb hGm hG hgl hSS hgn
      have hsl : wr.heap.size < (wr.alloc (.cells #[.slice ga gn gc] 86 (0, 0))).heap.size := by simp
      obtain ⟨W1, hW1⟩ : ∃ W, W = wr.alloc (.cells #[.slice ga gn gc] 86 (0, 0)) := ⟨_, rfl⟩
      have hb1 : Below wr.heap.size wr W1 := by rw [hW1]; exact bal brefl _
      have c0 : W1.cell? ⟨wr.heap.size, 0, none⟩ = some (.slice ga gn gc) := by rw [hW1]; exact World.cell?_alloc_at _ _ _ _ (by simp)
      have zW1 : wr.heap.size < W1.heap.size := World.block_lt_of_cell? _ _ c0
      have HSG1 := Lib.hid (HSG.out.below hb1)
      have HB1 := Lib.hid hb1
      have HW1 := Lib.hid hW1
      clear hW1 hb1 hsl
      go_upto_region 5 with fail
      rw [← HW1.out]
      go_wp2
      go_loopw [8, 21] (fun sv jv wq => ∃ j : Nat, j ≤ gn ∧ jv = .int .i64 j ∧ sv = .int .i64 (sumI (G.take j)) ∧ wq = W1) (fun _ jv _ => gn - (intOf jv).toNat)
      case atStart => exact ⟨0, by omega, rfl, rfl, rfl⟩
      case round =>
        obtain ⟨j, hj, rfl, rfl, hwq⟩ := hrel
        obtain rfl := hwq.symm
        by_cases hjl : j < gn
        · obtain ⟨gb, goff, x, rfl, -, hgbb, hx, g0⟩ := HSG1.out.int hjl
          have hjz : (j : Int) < (gn : Int) := by omega
          have hxb := HGB.out x (List.mem_of_getElem? hx)
          have hsn := sumI_snoc hx
          obtain ⟨hp0, hp1⟩ := sumI_bd (r := G.take j) (by rw [List.length_take]; omega) (fun y hy => HGB.out y (List.mem_of_mem_take hy))
          obtain ⟨s, hs⟩ : ∃ s, sumI (G.take j) = s := ⟨_, rfl⟩
          rw [hs] at hsn hp0 hp1 ⊢
          obtain ⟨hx0, hx1⟩ := hxb
          have HSN := Lib.hid hsn
          have hwr : wrap64 (s + x) = s + x := IntWalk.wrap64_in _ (by omega)
          clear hx hsn hs
          go_wp2
          go_roundw
          case rel => exact ⟨j + 1, by omega, by go_num, by rw [HSN.out], by first | rfl | trivial⟩
          case measure => simp [intOf]; omega
        · obtain rfl : gn = j := by omega
          rw [show G.take gn = G from List.take_of_length_le (by have := HGN.out; omega), HSS.out]
          have KC := Lib.hid (cloneEI_any (fun _ => True) (.slice ga gn gc) G W1 (HSG1.out.mono (fun _ _ _ => trivial)) (by have := HGN.out; omega))
          clear hjl
          go_wp2_with fail
          refine KC.out.mono ?_
          rintro e w2 ⟨cv, rfl, ho2, hb2⟩
          obtain ⟨va, vn, vc, rfl⟩ : ∃ a n c, cv = .slice a n c := by obtain ⟨a, c, h⟩ := own_sl ho2; exact ⟨a, _, c, h⟩
          have hS2 : Sl 1 encI (fun b => w.heap.size ≤ b ∧ some b ≠ u5.ownBlock) w2 (.slice va vn vc) G := Sl.own encI_len ho2 rfl (fun b hb => ⟨by have := HB1.out.size; omega, fun e => by have := (HOWN.out.lt b e.symm).2; have := HB1.out.size; omega⟩)
          have HS2 := Lib.hid hS2
          have HSG2 := Lib.hid (HSG1.out.below hb2)
          have HB2 := Lib.hid (bup HB1.out hb2)
          have c2 := keepB hb2 c0
          have z2 : wr.heap.size < w2.heap.size := by have := hb2.size; omega
          clear ho2 hb2 hS2
          by_cases hlS : lf < S
          · have hpe : partsE lf G = 0 := by
              unfold partsE
              rw [inB_iff.2 ⟨hl0, by omega⟩, if_pos rfl, if_neg (by
                rw [Bool.not_eq_true, List.any_eq_false]
                intro x hx
                obtain ⟨x0, x1⟩ := HGB.out x hx
                unfold wgB
                rw [inB_iff.2 ⟨x0, x1⟩]; simp), if_neg (by have := HGN.out; omega), if_neg (by rw [HSS.out]; omega)]
            have KP := Lib.hid (parts_any lf (fun _ => True) (.slice ga gn gc) G w2 (HSG2.out.mono (fun _ _ _ => trivial)) (by have := HGN.out; omega))
            rw [hpe] at KP
            have hacc := HACC.out
            rw [if_pos hlS, show min lf S = lf by omega] at hacc
            have HACC2 := Lib.hid hacc
            clear hacc hpe
            go_wp2_with fail
            refine KP.out.mono ?_
            rintro e w3 ⟨pv, rfl, hS3, hb3⟩
            obtain ⟨pa, pn, pc, rfl, -, -, -⟩ := hS3.shape
            have HB3 := Lib.hid (bup HB2.out hb3)
            have HROW3 := Lib.hid ((HROW.out.below HB3.out).snoc (u := .slice pa pn pc) (hS3.mono (fun b hb _ => ⟨by have := HB2.out.size; omega, fun e => by have := (HOWN.out.lt b e.symm).2; have := HB2.out.size; omega⟩)))
            have HOW3 := Lib.hid (ownsRow_belowZ HOWN.out HB3.out)
            have z3 : wr.heap.size < w3.heap.size := by have := hb3.size; omega
            have hone : (Value.slice pa pn pc).oneCell' = true := rfl
            clear hS3 hb3
            go_wp2_with (at_builtin; go_must (refine wpList_append_own_at _ rfl _ _ 69 rfl w.heap.size 22 i1 (.slice none 0 0) 1 24 Try.underlying69 hi hz0 hz1 hz2 rfl (by decide) _ _ _ rfl (HOW3.out.alloc _) ⟨_, 0, none⟩ 1 1 (encV (.slice pa pn pc)) rfl rfl (newsL _ _ _) (by intro u hu; simp only [encV, List.mem_singleton] at hu; subst hu; exact hone) (by unfold maxLen; omega) (by omega) (by simp; omega) ?_); intro v' w9 hown' hgrow _ hloc)
            go_roundw
            case rel => exact ⟨k + 1, lf - lf, us ++ [.slice pa pn pc], acc ++ [partsL lf G], by omega, by go_num, by go_num, by omega, by omega, by rw [List.append_assoc]; exact HACC2.out, by simp; omega, by rw [flatE_snoc, List.length_append]; exact hown', (HROW3.out.below (bal brefl _)).app hgrow hloc (Nat.le_refl _), HBR.out.trans ((((HB3.out.mono zr).alloc (by omega) _)).grown hgrow (by simp; omega) (fun q hq => (HOW3.out.lt q hq).1))⟩
            case measure => simp [intOf]; omega
          · have hacc := HACC.out
            rw [if_neg hlS, show min lf S = S by omega] at hacc
            have HACC2 := Lib.hid hacc
            have HROWC := Lib.hid ((HROW.out.below HB2.out).snoc (u := .slice va vn vc) (HS2.out.mono (fun b hb hlt => ⟨hb.1, hb.2⟩)))
            have HOWC := Lib.hid (ownsRow_belowZ HOWN.out HB2.out)
            have hone : (Value.slice va vn vc).oneCell' = true := rfl
            clear hacc
            go_wp2_with (at_builtin; go_must (refine wpList_append_own_at _ rfl _ _ 69 rfl w.heap.size 22 i1 (.slice none 0 0) 1 24 Try.underlying69 hi hz0 hz1 hz2 rfl (by decide) _ _ _ rfl (HOWC.out.alloc _) ⟨_, 0, none⟩ 1 1 (encV (.slice va vn vc)) rfl rfl (newsL _ _ _) (by intro u hu; simp only [encV, List.mem_singleton] at hu; subst hu; exact hone) (by unfold maxLen; omega) (by omega) (by simp; omega) ?_); intro v' w9 hown' hgrow _ hloc)
            go_roundw
            case rel => exact ⟨k + 1, lf - S, us ++ [.slice va vn vc], acc ++ [G], by omega, by go_num, by go_num, by omega, by omega, by rw [List.append_assoc]; exact HACC2.out, by simp; omega, by rw [flatE_snoc, List.length_append]; exact hown', (HROWC.out.below (bal brefl _)).app hgrow hloc (Nat.le_refl _), HBR.out.trans ((((HB2.out.mono zr).alloc (by omega) _)).grown hgrow (by simp; omega) (fun q hq => (HOWC.out.lt q hq).1))⟩
            case measure => simp [intOf]; omega
    · obtain rfl : n = k := by omega
      have hM : acc = M := by
        rw [← hacc, List.drop_of_length_le (by have := HN.out; omega)]; simp [srvL]
      subst hM
      have hfin : SlsI (fun b => w.heap.size ≤ b) wr u5 acc := ⟨us, Sl.own encV_len hown rfl (fun _ h => h), hrow.mono (fun b hb _ => hb.1)⟩
      have HFIN := Lib.hid hfin
      clear hacc hown hrow hfin
      go_wp2
      go_ret
      exact ⟨_, rfl, HFIN.out, hbr⟩
end Go.Proofs.Ytenbbmmbpjjjpaa
namespace Go.Proofs.Ytenbbmmbpjjjpaa
open Go.RowKit
set_option linter.unusedVariables false
set_option linter.unusedSimpArgs false
/-- a sale in its box: the bids in order, what each got in lots -/
structure SaleIn (P : Nat → Prop) (w : World) (sb : Nat) (am le sh : Int) (un : Bool) (vS vG : Value) (S : List Bid) (G : List Int) : Prop where
  c0 : w.cell? ⟨sb, 0, none⟩ = some (.int .i64 am)
  c1 : w.cell? ⟨sb, 1, none⟩ = some (.int .i64 le)
  c2 : w.cell? ⟨sb, 2, none⟩ = some (.int .i64 sh)
  c3 : w.cell? ⟨sb, 3, none⟩ = some (.bool un)
  c4 : w.cell? ⟨sb, 4, none⟩ = some vS
  c5 : w.cell? ⟨sb, 5, none⟩ = some vG
  s : Sl 5 encBid P w vS S
  g : Sl 1 encI P w vG G
  ls : S.length ≤ 60
  lg : G.length = S.length
theorem SaleIn.below {P : Nat → Prop} {w w' : World} {sb : Nat} {am le sh : Int} {un : Bool} {vS vG : Value} {S : List Bid} {G : List Int} (h : SaleIn P w sb am le sh un vS vG S G) (hb : Below w.heap.size w w') : SaleIn P w' sb am le sh un vS vG S G :=
  ⟨keepB hb h.c0, keepB hb h.c1, keepB hb h.c2, keepB hb h.c3, keepB hb h.c4, keepB hb h.c5, h.s.below hb, h.g.below hb, h.ls, h.lg⟩
def isF (S : List Bid) (k : Nat) : Bool := match S[k]? with | some x => x.f | none => false
/-- the places of the free ones among the first k -/
def frT (S : List Bid) : Nat → List Int
  | 0 => []
  | k + 1 => if isF S k then frT S k ++ [(k : Int)] else frT S k
theorem frT_len (S : List Bid) : ∀ k, (frT S k).length ≤ k
  | 0 => by simp [frT]
  | k + 1 => by
    have := frT_len S k
    unfold frT
    split
    · simp; omega
    · omega
theorem frT_yes {S : List Bid} {k : Nat} {x : Bid} (h : S[k]? = some x) (hf : x.f = true) : frT S (k + 1) = frT S k ++ [(k : Int)] := by
  rw [frT]; unfold isF; rw [h]; simp [hf]
theorem frT_no {S : List Bid} {k : Nat} {x : Bid} (h : S[k]? = some x) (hf : x.f = false) : frT S (k + 1) = frT S k := by
  rw [frT]; unfold isF; rw [h]; simp [hf]
set_option maxHeartbeats 4000000 in
set_option maxRecDepth 100000 in
theorem free_any (P : Nat → Prop) (sb : Nat) (am le sh : Int) (un : Bool) (vS vG : Value) (S : List Bid) (G : List Int) (w : World) (h : SaleIn P w sb am le sh un vS vG S G) :
    Calls Try.prog 34 #[.pointer (some ⟨sb, 0, none⟩)] w fun e w' => ∃ v, e = .returned v ∧ Sl 1 encI (fun b => w.heap.size ≤ b) w' v (frT S S.length) ∧ Below w.heap.size w w' := by
  obtain ⟨sa, n, sc, rfl, hn, -, -⟩ := h.s.shape
  have hn60 : n ≤ 60 := by have := h.ls; omega
  rw [hn]
  have HS := Lib.hid h.s
  have c4 := h.c4
  have HN := Lib.hid hn
  have hsb : sb < w.heap.size := World.block_lt_of_cell? _ _ c4
  obtain ⟨i1, hi, hz0, hz1, hz2⟩ := info_parts infoInt
  clear h hn
  go_enter Try.func34, Try.ntmps34
  go_wp2
  go_loopw [3, 11] (fun ov iv wr => ∃ k : Nat, k ≤ n ∧ iv = .int .i64 k ∧ wr.ownsRow w.heap.size 3 1 ov (frT S k).length (flatE encI (frT S k)) ∧ Below w.heap.size w wr) (fun _ iv _ => n - (intOf iv).toNat)
  case atStart => exact ⟨0, by omega, rfl, World.ownsRow_nil _ _ _ _, brefl⟩
  case round =>
    obtain ⟨k, hk, rfl, hown, hbr⟩ := hrel
    have zr := hbr.size
    by_cases hlt : k < n
    · obtain ⟨bb, off, bd, num, p, a, f, rfl, -, hbb, hx, k0, k1, k2, k3, k4⟩ := (HS.out.below hbr).bid hlt
      have hkz : (k : Int) < (n : Int) := by omega
      have hfl := frT_len S k
      have HOWN := Lib.hid hown
      have HBR := Lib.hid hbr
      cases f with
      | false =>
        have HK := Lib.hid (frT_no hx rfl)
        clear hx hown hbr
        go_wp2
        go_roundw
        case rel => exact ⟨k + 1, by omega, by go_num, by rw [HK.out]; exact ownsRow_belowZ HOWN.out (bal brefl _), bal HBR.out _⟩
        case measure => simp [intOf]; omega
      | true =>
        have HK := Lib.hid (frT_yes hx rfl)
        have HO2 := Lib.hid (HOWN.out.alloc (.cells #[.int .i64 bd, .int .i64 num, .int .i64 p, .int .i64 a, .bool true] 37))
        clear hx hown hbr
        go_wp2_with (at_builtin; go_must (refine wpList_append_own _ rfl _ _ 22 rfl w.heap.size 3 i1 (.int .i64 0) 1 8 Try.underlying22 hi hz0 hz1 hz2 rfl (by decide) _ _ _ rfl (HO2.out.alloc _) ⟨_, 0, none⟩ 1 1 (encI (k : Int)) rfl rfl (by first | exact newsL _ _ _ | (have q := newsL (wr.alloc (.cells #[.int .i64 bd, .int .i64 num, .int .i64 p, .int .i64 a, .bool true] 37 (0, 0))) (encI (k : Int)) 3; simpa [encI] using q)) (oneEI _) (by unfold maxLen; omega) (by omega) (by simp; omega) ?_); intro v' w9 hown' hgrow _)
        go_roundw
        case rel => exact ⟨k + 1, by omega, by go_num, by rw [HK.out, flatE_snoc, List.length_append]; exact hown', (bal (bal HBR.out _) _).grown hgrow (by simp; omega) (fun q hq => (HO2.out.lt q hq).1)⟩
        case measure => simp [intOf]; omega
    · obtain rfl : n = k := by omega
      have HOWN := Lib.hid (show Sl 1 encI (fun b => w.heap.size ≤ b) wr u3 (frT S n) from Sl.own encI_len hown rfl (fun _ h => h))
      clear hown
      go_wp2
      go_ret
      exact ⟨_, rfl, HOWN.out, hbr⟩
/-- the least price at which a competitive one of the first k got something -/
def cutT (S : List Bid) (G : List Int) : Nat → Int
  | 0 => 0
  | k + 1 => match S[k]?, G[k]? with
    | some b, some g => if b.f = false ∧ 0 < g ∧ (cutT S G k = 0 ∨ b.p < cutT S G k) then b.p else cutT S G k
    | _, _ => cutT S G k
theorem cutT_succ {S : List Bid} {G : List Int} {k : Nat} {b : Bid} {g : Int} (h1 : S[k]? = some b) (h2 : G[k]? = some g) : cutT S G (k + 1) = if b.f = false ∧ 0 < g ∧ (cutT S G k = 0 ∨ b.p < cutT S G k) then b.p else cutT S G k := by
  rw [cutT, h1, h2]
set_option maxHeartbeats 4000000 in
set_option maxRecDepth 100000 in
theorem cut_any (P : Nat → Prop) (sb : Nat) (am le sh : Int) (un : Bool) (vS vG : Value) (S : List Bid) (G : List Int) (w : World) (h : SaleIn P w sb am le sh un vS vG S G) :
    Calls Try.prog 36 #[.pointer (some ⟨sb, 0, none⟩)] w fun e w' => e = .returned (.int .i64 (cutT S G S.length)) ∧ Below w.heap.size w w' := by
  obtain ⟨sa, n, sc, rfl, hn, -, -⟩ := h.s.shape
  obtain ⟨ga, m, gc, rfl, hm, -, -⟩ := h.g.shape
  obtain rfl : m = n := by have := h.lg; omega
  have hn60 : m ≤ 60 := by have := h.ls; omega
  rw [hn]
  have HS := Lib.hid h.s
  have HG := Lib.hid h.g
  have HC := Lib.hid (And.intro h.c4 h.c5)
  have c4 := h.c4
  have hsb : sb < w.heap.size := World.block_lt_of_cell? _ _ c4
  clear h hn hm
  go_enter Try.func36, Try.ntmps36
  go_wp2
  go_loopw [3, 11] (fun ov iv wr => ∃ k : Nat, k ≤ m ∧ iv = .int .i64 k ∧ ov = .int .i64 (cutT S G k) ∧ Below w.heap.size w wr) (fun _ iv _ => m - (intOf iv).toNat)
  case atStart => exact ⟨0, by omega, rfl, rfl, brefl⟩
  case round =>
    obtain ⟨k, hk, rfl, rfl, hbr⟩ := hrel
    have zr := hbr.size
    by_cases hlt : k < m
    · obtain ⟨bb, off, bd, num, p, a, f, rfl, -, hbb, hx, k0, k1, k2, k3, k4⟩ := (HS.out.below hbr).bid hlt
      obtain ⟨gb, goff, g, rfl, -, hgb, hg, g0⟩ := (HG.out.below hbr).int hlt
      have hkz : (k : Int) < (m : Int) := by omega
      have hsn := cutT_succ hx hg
      obtain ⟨o, ho⟩ : ∃ o, cutT S G k = o := ⟨_, rfl⟩
      rw [ho] at hsn ⊢
      have HSN := Lib.hid hsn
      have d4 := keepB hbr HC.out.1
      have d5 := keepB hbr HC.out.2
      have g1 := keepA (o := .cells #[.int .i64 bd, .int .i64 num, .int .i64 p, .int .i64 a, .bool f] 37) g0
      have d6 := keepA (o := .cells #[.int .i64 bd, .int .i64 num, .int .i64 p, .int .i64 a, .bool f] 37) d5
      have HBR := Lib.hid hbr
      have hsr : sb < wr.heap.size := by omega
      have hgn : ¬ gb = wr.heap.size := by omega
      have hsn' : ¬ sb = wr.heap.size := by omega
      clear hx hg ho hsn hbr
      cases f with
      | true =>
        have hv := Lib.hid (show cutT S G (k + 1) = o by rw [HSN.out]; simp)
        go_wp2
        go_roundw
        case rel => exact ⟨k + 1, by omega, by go_num, by rw [hv.out], bal HBR.out _⟩
        case measure => simp [intOf]; omega
      | false =>
        by_cases hg0 : 0 < g
        case neg =>
          have hv := Lib.hid (show cutT S G (k + 1) = o by rw [HSN.out, if_neg (by simp [hg0])])
          have hg1 : g ≤ 0 := by omega
          go_wp2
          go_roundw
          case rel => exact ⟨k + 1, by omega, by go_num, by rw [hv.out], bal HBR.out _⟩
          case measure => simp [intOf]; omega
        by_cases ho0 : o = 0
        · subst ho0
          have hv := Lib.hid (show cutT S G (k + 1) = p by rw [HSN.out, if_pos ⟨rfl, hg0, .inl rfl⟩])
          go_wp2
          go_roundw
          case rel => exact ⟨k + 1, by omega, by go_num, by rw [hv.out], bal HBR.out _⟩
          case measure => simp [intOf]; omega
        · have ho1 : (o == 0) = false := by simpa using ho0
          by_cases hpo : p < o
          · have hv := Lib.hid (show cutT S G (k + 1) = p by rw [HSN.out, if_pos ⟨rfl, hg0, .inr hpo⟩])
            go_wp2
            go_roundw
            case rel => exact ⟨k + 1, by omega, by go_num, by rw [hv.out], bal HBR.out _⟩
            case measure => simp [intOf]; omega
          · have hv := Lib.hid (show cutT S G (k + 1) = o by rw [HSN.out, if_neg (by simp [ho0, hpo])])
            have hpo' : o ≤ p := by omega
            go_wp2
            go_roundw
            case rel => exact ⟨k + 1, by omega, by go_num, by rw [hv.out], bal HBR.out _⟩
            case measure => simp [intOf]; omega
    · obtain rfl : m = k := by omega
      go_wp2
      go_ret
      exact ⟨rfl, hbr⟩
/-- what the competitive ones of the first k pay, and their lots -/
def avP (S : List Bid) (G : List Int) : Nat → Int
  | 0 => 0
  | k + 1 => match S[k]?, G[k]? with
    | some b, some g => if b.f = false then avP S G k + g * b.p else avP S G k
    | _, _ => avP S G k
def avQ (S : List Bid) (G : List Int) : Nat → Int
  | 0 => 0
  | k + 1 => match S[k]?, G[k]? with
    | some b, some g => if b.f = false then avQ S G k + g else avQ S G k
    | _, _ => avQ S G k
/-- what a sale gave lies in bounds -/
structure GotOk (S : List Bid) (G : List Int) : Prop where
  s : ∀ x ∈ S, 0 ≤ x.p ∧ x.p ≤ 200000
  g : ∀ x ∈ G, 0 ≤ x ∧ x ≤ 1000000
theorem avP_succ {S : List Bid} {G : List Int} {k : Nat} {b : Bid} {g : Int} (h1 : S[k]? = some b) (h2 : G[k]? = some g) : avP S G (k + 1) = if b.f = false then avP S G k + g * b.p else avP S G k := by
  rw [avP, h1, h2]
theorem avQ_succ {S : List Bid} {G : List Int} {k : Nat} {b : Bid} {g : Int} (h1 : S[k]? = some b) (h2 : G[k]? = some g) : avQ S G (k + 1) = if b.f = false then avQ S G k + g else avQ S G k := by
  rw [avQ, h1, h2]
theorem av_bd {S : List Bid} {G : List Int} (h : GotOk S G) : ∀ k : Nat, (0 ≤ avP S G k ∧ avP S G k ≤ k * 200000000000) ∧ (0 ≤ avQ S G k ∧ avQ S G k ≤ k * 1000000)
  | 0 => by simp [avP, avQ]
  | k + 1 => by
    have ih := av_bd h k
    cases h1 : S[k]? with
    | none =>
      have e1 : avP S G (k + 1) = avP S G k := by rw [avP, h1]
      have e2 : avQ S G (k + 1) = avQ S G k := by rw [avQ, h1]
      rw [e1, e2]
      omega
    | some b =>
      cases h2 : G[k]? with
      | none =>
        have e1 : avP S G (k + 1) = avP S G k := by rw [avP, h1, h2]
        have e2 : avQ S G (k + 1) = avQ S G k := by rw [avQ, h1, h2]
        rw [e1, e2]
        omega
      | some g =>
        rw [avP_succ h1 h2, avQ_succ h1 h2]
        obtain ⟨p0, p1⟩ := h.s b (List.mem_of_getElem? h1)
        obtain ⟨g0, g1⟩ := h.g g (List.mem_of_getElem? h2)
        obtain ⟨q0, q1⟩ := mul_bd g0 g1 p0 p1
        split <;> omega
set_option maxHeartbeats 4000000 in
set_option maxRecDepth 100000 in
theorem average_any (P : Nat → Prop) (sb : Nat) (am le sh : Int) (un : Bool) (vS vG : Value) (S : List Bid) (G : List Int) (w : World) (h : SaleIn P w sb am le sh un vS vG S G) (hok : GotOk S G) (hq : 0 < avQ S G S.length) :
    Calls Try.prog 58 #[.pointer (some ⟨sb, 0, none⟩)] w fun e w' => e = .returned (.int .i64 ((avP S G S.length + avQ S G S.length - 1) / avQ S G S.length)) ∧ Below w.heap.size w w' := by
  obtain ⟨sa, n, sc, rfl, hn, -, -⟩ := h.s.shape
  obtain ⟨ga, m, gc, rfl, hm, -, -⟩ := h.g.shape
  obtain rfl : m = n := by have := h.lg; omega
  have hn60 : m ≤ 60 := by have := h.ls; omega
  rw [hn] at hq ⊢
  have HS := Lib.hid h.s
  have HG := Lib.hid h.g
  have HC := Lib.hid (And.intro h.c4 h.c5)
  have HOK := Lib.hid hok
  have c4 := h.c4
  have hsb : sb < w.heap.size := World.block_lt_of_cell? _ _ c4
  clear h hn hm hok
  go_enter Try.func58, Try.ntmps58
  go_wp2
  go_loopw [3, 4, 12] (fun pv qv iv wr => ∃ k : Nat, k ≤ m ∧ iv = .int .i64 k ∧ pv = .int .i64 (avP S G k) ∧ qv = .int .i64 (avQ S G k) ∧ Below w.heap.size w wr) (fun _ _ iv _ => m - (intOf iv).toNat)
  case atStart => exact ⟨0, by omega, rfl, rfl, rfl, brefl⟩
  case round =>
    obtain ⟨k, hk, rfl, rfl, rfl, hbr⟩ := hrel
    have zr := hbr.size
    by_cases hlt : k < m
    · obtain ⟨bb, off, bd, num, p, a, f, rfl, -, hbb, hx, k0, k1, k2, k3, k4⟩ := (HS.out.below hbr).bid hlt
      obtain ⟨gb, goff, g, rfl, -, hgb, hg, g0⟩ := (HG.out.below hbr).int hlt
      have hkz : (k : Int) < (m : Int) := by omega
      have hs1 := avP_succ hx hg
      have hs2 := avQ_succ hx hg
      obtain ⟨⟨bp0, bp1⟩, bq0, bq1⟩ := av_bd HOK.out k
      obtain ⟨p0, p1⟩ := HOK.out.s _ (List.mem_of_getElem? hx)
      obtain ⟨gg0, gg1⟩ := HOK.out.g _ (List.mem_of_getElem? hg)
      obtain ⟨x0, x1⟩ := mul_bd gg0 gg1 p0 p1
      simp only at p0 p1 x0 x1 hs1 hs2
      obtain ⟨o, ho⟩ : ∃ o, avP S G k = o := ⟨_, rfl⟩
      obtain ⟨q, hqq⟩ : ∃ o, avQ S G k = o := ⟨_, rfl⟩
      rw [ho] at hs1 bp0 bp1 ⊢
      rw [hqq] at hs2 bq0 bq1 ⊢
      have HS1 := Lib.hid hs1
      have HS2 := Lib.hid hs2
      have d5 := keepB hbr HC.out.2
      have HBR := Lib.hid hbr
      have hsr : sb < wr.heap.size := by omega
      clear hx hg ho hqq hs1 hs2 hbr
      cases f with
      | true =>
        have hv1 := Lib.hid (show avP S G (k + 1) = o by rw [HS1.out]; simp)
        have hv2 := Lib.hid (show avQ S G (k + 1) = q by rw [HS2.out]; simp)
        go_wp2
        go_roundw
        case rel => exact ⟨k + 1, by omega, by go_num, by rw [hv1.out], by rw [hv2.out], bal HBR.out _⟩
        case measure => simp [intOf]; omega
      | false =>
        have hv1 := Lib.hid (show avP S G (k + 1) = o + g * p by rw [HS1.out, if_pos rfl])
        have hv2 := Lib.hid (show avQ S G (k + 1) = q + g by rw [HS2.out, if_pos rfl])
        obtain ⟨W1, hW1⟩ : ∃ W, W = wr.alloc (.cells #[.int .i64 bd, .int .i64 num, .int .i64 p, .int .i64 a, .bool false] 37 (0, 0)) := ⟨_, rfl⟩
        have hb1 : Below wr.heap.size wr W1 := by rw [hW1]; exact bal brefl _
        have ub := up_cell (show W1.cell? ⟨wr.heap.size, 2, none⟩ = some (.int .i64 p) by rw [hW1]; exact World.cell?_alloc_at _ _ _ _ (by simp))
        have ug := up_cell (keepB hb1 g0)
        have u5 := up_cell (keepB hb1 d5)
        have hw1 : wrap64 (g * p) = g * p := IntWalk.wrap64_in _ (by omega)
        have hw2 : wrap64 (o + g * p) = o + g * p := IntWalk.wrap64_in _ (by omega)
        have hw3 : wrap64 (q + g) = q + g := IntWalk.wrap64_in _ (by omega)
        have HB1 := Lib.hid hb1
        have HX := Lib.hid hW1
        go_upto_region 6 with fail
        rw [← HX.out]
        clear hW1 hb1 g0 d5 k0 k1 k2 k3 k4
        (refine wp_region_up (by kernel_rfl) (by kernel_rfl) ?_); (repeat (go_big_quiet_step ((fail)))); (refine wpQuiet_nil ?_); (rintro w2 ⟨⟨_, hb2⟩, rfl⟩)
        go_wp2
        go_roundw
        case rel => exact ⟨k + 1, by omega, by go_num, by rw [hv1.out], by rw [hv2.out], bup HBR.out (bup HB1.out hb2)⟩
        case measure => simp [intOf]; omega
    · obtain rfl : m = k := by omega
      obtain ⟨⟨bp0, bp1⟩, bq0, bq1⟩ := av_bd HOK.out m
      obtain ⟨o, ho⟩ : ∃ o, avP S G m = o := ⟨_, rfl⟩
      obtain ⟨q, hqq⟩ : ∃ o, avQ S G m = o := ⟨_, rfl⟩
      rw [ho] at bp0 bp1 ⊢
      rw [hqq] at hq bq0 bq1 ⊢
      have hw2 : wrap64 (o + q) = o + q := IntWalk.wrap64_in _ (by omega)
      have hw3 : wrap64 (o + q - 1) = o + q - 1 := IntWalk.wrap64_in _ (by omega)
      have hdv : (o + q - 1).tdiv q = (o + q - 1) / q := Int.tdiv_eq_ediv_of_nonneg (by omega)
      have hd0 : 0 ≤ (o + q - 1) / q := Int.ediv_nonneg (by omega) (by omega)
      have hd1 : (o + q - 1) / q ≤ o + q - 1 := Int.ediv_le_self _ (by omega)
      have hw4 : wrap64 ((o + q - 1) / q) = (o + q - 1) / q := IntWalk.wrap64_in _ (by omega)
      have hq0 : ¬ q = 0 := by omega
      have hq1 : (q == 0) = false := by simpa using hq0
      have hqm : ¬ q = -1 := by omega
      have HOO := Lib.hid ho
      have HQQ := Lib.hid hqq
      clear ho hqq
      go_wp2
      go_ret
      exact ⟨by (first | (rw [HOO.out, HQQ.out]; done) | (rw [HOO.out, HQQ.out]; simp [hdv, hw4, hw3, hw2]; done)), hbr⟩
/-- the price of an award -/
def prV (le : Int) (un : Bool) (S : List Bid) (G : List Int) (b : Bid) : Int :=
  if cutT S G S.length = 0 then le else if un then cutT S G S.length else if b.f then (avP S G S.length + avQ S G S.length - 1) / avQ S G S.length else b.p
theorem cut_avQ {S : List Bid} {G : List Int} (h : GotOk S G) : ∀ k : Nat, cutT S G k ≠ 0 → 0 < avQ S G k
  | 0, hc => by simp [cutT] at hc
  | k + 1, hc => by
    have ih := cut_avQ h k
    have hb := (av_bd h k).2.1
    cases h1 : S[k]? with
    | none =>
      have e1 : cutT S G (k + 1) = cutT S G k := by rw [cutT, h1]
      have e2 : avQ S G (k + 1) = avQ S G k := by rw [avQ, h1]
      rw [e2]; rw [e1] at hc; exact ih hc
    | some b =>
      cases h2 : G[k]? with
      | none =>
        have e1 : cutT S G (k + 1) = cutT S G k := by rw [cutT, h1, h2]
        have e2 : avQ S G (k + 1) = avQ S G k := by rw [avQ, h1, h2]
        rw [e2]; rw [e1] at hc; exact ih hc
      | some g =>
        rw [cutT_succ h1 h2] at hc
        rw [avQ_succ h1 h2]
        obtain ⟨g0, g1⟩ := h.g g (List.mem_of_getElem? h2)
        by_cases hf : b.f = false
        · rw [if_pos hf]
          by_cases hg : 0 < g
          · omega
          · rw [if_neg (by simp [hg])] at hc
            have := ih hc
            omega
        · rw [if_neg hf]
          rw [if_neg (by simp [hf])] at hc
          exact ih hc
set_option maxHeartbeats 4000000 in
set_option maxRecDepth 100000 in
theorem price_any (P : Nat → Prop) (sb : Nat) (am le sh : Int) (un : Bool) (vS vG : Value) (S : List Bid) (G : List Int) (bd num p a : Int) (f : Bool) (w : World) (h : SaleIn P w sb am le sh un vS vG S G) (hok : GotOk S G) :
    Calls Try.prog 37 #[.pointer (some ⟨sb, 0, none⟩), .agg #[.int .i64 bd, .int .i64 num, .int .i64 p, .int .i64 a, .bool f]] w fun e w' => e = .returned (.int .i64 (prV le un S G ⟨bd, num, p, a, f⟩)) ∧ Below w.heap.size w w' := by
  have KC := Lib.hid (cut_any P sb am le sh un vS vG S G (w.alloc (.cells #[.int .i64 bd, .int .i64 num, .int .i64 p, .int .i64 a, .bool f] 37)) (h.below (bal brefl _)))
  obtain ⟨c, hc⟩ : ∃ c, cutT S G S.length = c := ⟨_, rfl⟩
  obtain ⟨r, hr⟩ : ∃ r, prV le un S G ⟨bd, num, p, a, f⟩ = r := ⟨_, rfl⟩
  rw [hc] at KC
  rw [hr]
  unfold prV at hr
  rw [hc] at hr
  simp only at hr
  have hsb : sb < w.heap.size := World.block_lt_of_cell? _ _ h.c1
  have KA := fun (hq : c ≠ 0) (U : World) (hU : Below w.heap.size w U) => average_any P sb am le sh un vS vG S G U (h.below hU) hok (cut_avQ hok S.length (by rw [hc]; exact hq))
  have HR := Lib.hid hr
  have HKA := Lib.hid KA
  have d1 := h.c1
  have d3 := h.c3
  have HD := Lib.hid (And.intro d1 d3)
  clear h hok hc KA hr
  by_cases hc0 : c = 0
  · subst hc0
    have hr := HR.out
    rw [if_pos rfl] at hr
    subst hr
    go_enter Try.func37, Try.ntmps37
    go_wp2_with fail
    refine KC.out.mono ?_
    rintro e w1 ⟨rfl, hb1⟩
    have e1 := keepB (bup (bal brefl _) hb1) HD.out.1
    go_wp2
    go_ret
    exact ⟨rfl, bup (bal brefl _) hb1⟩
  · have hc1 : (c == 0) = false := by simpa using hc0
    have hr := HR.out
    rw [if_neg hc0] at hr
    cases un with
    | true =>
      rw [if_pos rfl] at hr
      subst hr
      go_enter Try.func37, Try.ntmps37
      go_wp2_with fail
      refine KC.out.mono ?_
      rintro e w1 ⟨rfl, hb1⟩
      have e3 := keepB (bup (bal brefl _) hb1) HD.out.2
      go_wp2
      go_ret
      exact ⟨rfl, bup (bal brefl _) hb1⟩
    | false =>
      rw [if_neg (by simp)] at hr
      cases f with
      | false =>
        rw [if_neg (by simp)] at hr
        subst hr
        go_enter Try.func37, Try.ntmps37
        go_wp2_with fail
        refine KC.out.mono ?_
        rintro e w1 ⟨rfl, hb1⟩
        have e3 := keepB (bup (bal brefl _) hb1) HD.out.2
        have x2 : w1.cell? ⟨w.heap.size, 2, none⟩ = some (.int .i64 p) := boxed_cell hb1 2 rfl
        have x4 : w1.cell? ⟨w.heap.size, 4, none⟩ = some (.bool false) := boxed_cell hb1 4 rfl
        go_wp2
        go_ret
        exact ⟨rfl, bup (bal brefl _) hb1⟩
      | true =>
        rw [if_pos rfl] at hr
        subst hr
        have KV := Lib.hid (HKA.out hc0)
        go_enter Try.func37, Try.ntmps37
        go_wp2_with fail
        refine KC.out.mono ?_
        rintro e w1 ⟨rfl, hb1⟩
        have HB1 := Lib.hid (bup (bal brefl _) hb1)
        have e3 := keepB HB1.out HD.out.2
        have x4 : w1.cell? ⟨w.heap.size, 4, none⟩ = some (.bool true) := boxed_cell hb1 4 rfl
        clear hb1
        go_wp2_with fail
        refine (KV.out _ HB1.out).mono ?_
        rintro e w2 ⟨rfl, hb2⟩
        go_wp2
        go_ret
        exact ⟨rfl, bup HB1.out hb2⟩
end Go.Proofs.Ytenbbmmbpjjjpaa
