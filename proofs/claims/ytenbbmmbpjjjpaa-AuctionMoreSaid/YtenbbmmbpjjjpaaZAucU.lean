/- Auction: the source's offers and bids. Auction: Given; the chapter's example. Auction: the chapter's example holds. -/
import Derived.Test.YtenbbmmbpjjjpaaZAucI
import Derived.Test.YtenbbmmbpjjjpaaZSrcOdd
namespace Go.Proofs.Ytenbbmmbpjjjpaa
open Go.RowKit
set_option linter.unusedVariables false
set_option linter.unusedSimpArgs false
/-- a valid offer has been drawn -/
def GaveO (sb : Nat) (w : World) (e : Ending) (w' : World) : Prop :=
  ∃ (am le sh : Int) (un : Bool), e = .returned (.agg #[.int .i64 am, .int .i64 le, .int .i64 sh, .bool un]) ∧ OffOk am le sh ∧ SrcOk w' sb ∧ w.grownBy w' (some sb)
theorem grown_new {w a b : World} {row r : Option Nat} (h : w.grownBy a r) (k : a.grownBy b row) (hr : ∀ j, row = some j → w.heap.size ≤ j) : w.grownBy b r :=
  ⟨k.os.trans h.os, k.tape.trans h.tape, k.output.trans h.output, Nat.le_trans h.size k.size, fun i hi hx => (k.block i (Nat.lt_of_lt_of_le hi h.size) (fun e => by have := hr i e.symm; omega)).trans (h.block i hi hx)⟩
set_option maxHeartbeats 4000000 in
set_option maxRecDepth 100000 in
theorem soffer_any (sb : Nat) (w : World) (hs : SrcOk w sb) : Calls Try.prog 11 #[.pointer (some ⟨sb, 0, none⟩)] w (GaveO sb w) := by
  have hlt := srcOk_lt hs
  have HS := Lib.hid hs
  clear hs
  go_enter Try.func11, Try.ntmps11
  go_wp2_with fail
  refine (pick_lit sb [1, 5, 10, 17] _ _ _ _ (srcOk_alloc HS.out _) (by decide) (by decide) rfl rfl (by simp)).mono ?_
  rintro e w1 ⟨x1, hx1, rfl, hS1, hG1⟩
  have z1 := hG1.size
  simp only [World.size_alloc] at z1
  have HB1 := Lib.hid ((hG1.block w.heap.size (by simp) (by simp; omega)).trans (heap_alloc_new w (.cells #[.int .i64 0, .int .i64 0, .int .i64 0, .bool false] 26)))
  have HG1 := Lib.hid (grownBy_trans (World.grownBy_alloc w _ _) hG1)
  have HS1 := Lib.hid hS1
  have hm1 : 1 ≤ x1 ∧ x1 ≤ 17 := by simp only [List.mem_cons, List.not_mem_nil, or_false] at hx1; omega
  have hw1 : wrap64 (1000 * x1) = 1000 * x1 := IntWalk.wrap64_in _ (by omega)
  have hi1 : IntKind.i64.wrap (1000 * x1) = 1000 * x1 := IntWalk.i64_in _ (by omega)
  clear hx1 hS1 hG1
  go_wp2_with fail
  refine (pick_lit sb [1, 98500, 99500, 101000] _ _ _ _ HS1.out (by decide) (by decide) rfl rfl rfl).mono ?_
  rintro e w2 ⟨x2, hx2, rfl, hS2, hG2⟩
  have hm2 : 1 ≤ x2 ∧ x2 ≤ 200000 := by simp only [List.mem_cons, List.not_mem_nil, or_false] at hx2; omega
  have HS2 := Lib.hid hS2
  have HG2 := Lib.hid hG2
  have z2 := hG2.size
  clear hx2 hS2 hG2
  go_wp2_with fail
  refine (pick_lit sb [0, 20, 30, 100] _ _ _ _ HS2.out (by decide) (by decide) rfl rfl rfl).mono ?_
  rintro e w3 ⟨x3, hx3, rfl, hS3, hG3⟩
  have hm3 : 0 ≤ x3 ∧ x3 ≤ 100 := by simp only [List.mem_cons, List.not_mem_nil, or_false] at hx3; omega
  have HS3 := Lib.hid hS3
  have HG3 := Lib.hid hG3
  have z3 := hG3.size
  clear hx3 hS3 hG3
  go_wp2_with fail
  refine (n_any sb 2 _ HS3.out (by decide)).mono ?_
  rintro e w4 ⟨x4, hx4, rfl, hS4, hG4⟩
  have z4 := hG4.size
  have hg14 := Lib.hid (grownBy_trans (grownBy_trans HG2.out HG3.out) hG4)
  have hB4 := (hg14.out.block w.heap.size (by omega) (by simp; omega)).trans HB1.out
  have b0 : w4.cell? ⟨w.heap.size, 0, none⟩ = some (.int .i64 0) := cell_heap hB4 rfl
  have b1 : w4.cell? ⟨w.heap.size, 1, none⟩ = some (.int .i64 0) := cell_heap hB4 rfl
  have b2 : w4.cell? ⟨w.heap.size, 2, none⟩ = some (.int .i64 0) := cell_heap hB4 rfl
  have b3 : w4.cell? ⟨w.heap.size, 3, none⟩ = some (.bool false) := cell_heap hB4 rfl
  have bf : ∀ o, w4.frozen? ⟨w.heap.size, o, none⟩ = false := fun o => frozen_of_row w4 _ _ _ _ hB4
  have zz : w.heap.size < w4.heap.size := by omega
  have HS4 := Lib.hid hS4
  have HG4 := Lib.hid (grownBy_trans HG1.out (show w1.grownBy w4 (some sb) from hg14.out))
  clear hS4 hG4 hB4 hx4
  go_wp2
  refine bodyPost_ret (v := .agg #[.int .i64 (1000 * x1), .int .i64 x2, .int .i64 x3, .bool (x4 == 1)]) (by simp [results, Try.results11, go_sem, *]) rfl ⟨1000 * x1, x2, x3, x4 == 1, rfl, ⟨by omega, by omega, by omega, hm2.1, hm2.2, hm3.1, hm3.2⟩, srcOk_below HS4.out ((((( Below.refl w.heap.size w4).setCell (p := ⟨w.heap.size, 0, none⟩) (Nat.le_refl _) _).setCell (p := ⟨w.heap.size, 1, none⟩) (Nat.le_refl _) _).setCell (p := ⟨w.heap.size, 2, none⟩) (Nat.le_refl _) _).setCell (p := ⟨w.heap.size, 3, none⟩) (Nat.le_refl _) _) hlt, ?_⟩
  have hb := (((( Below.refl w.heap.size w4).setCell (p := ⟨w.heap.size, 0, none⟩) (Nat.le_refl _) (.int .i64 (1000 * x1))).setCell (p := ⟨w.heap.size, 1, none⟩) (Nat.le_refl _) (.int .i64 x2)).setCell (p := ⟨w.heap.size, 2, none⟩) (Nat.le_refl _) (.int .i64 x3)).setCell (p := ⟨w.heap.size, 3, none⟩) (Nat.le_refl _) (.bool (x4 == 1))
  exact ⟨hb.os.trans HG4.out.os, hb.tape.trans HG4.out.tape, hb.output.trans HG4.out.output, Nat.le_trans HG4.out.size hb.size, fun i hi hx => (hb.block i hi).trans (HG4.out.block i hi hx)⟩
/-- bids that the source gives -/
structure BidsOk (most : Int) (L : List Bid) : Prop where
  n : (L.length : Int) ≤ most
  ok : ∀ x ∈ L, BidOk x
  num : ∀ (k : Nat) (x : Bid), L[k]? = some x → x.num = (k : Int) + 1
theorem BidsOk.keys {most : Int} {L : List Bid} (h : BidsOk most L) : KeysB L := by
  unfold KeysB
  rw [List.pairwise_iff_getElem]
  intro i j hi hj hij
  have e1 := h.num i _ (List.getElem?_eq_getElem hi)
  have e2 := h.num j _ (List.getElem?_eq_getElem hj)
  rintro ⟨-, h2⟩
  omega
/-- valid bids have been drawn -/
def GaveB (most : Int) (sb : Nat) (w : World) (e : Ending) (w' : World) : Prop :=
  ∃ v L, e = .returned v ∧ w'.ownsRow w.heap.size 37 5 v L.length (flatE encBid L) ∧ BidsOk most L ∧ SrcOk w' sb ∧ w.grownBy w' (some sb)
theorem newsBid (w : World) (g : Nat) (hg : g = w.heap.size) (x0 x1 x2 x3 : Int) (f : Bool) : ∀ j u, (encBid ⟨x0, x1, x2, x3, f⟩)[j]? = some u → (w.alloc (.cells #[.int .i64 x0, .int .i64 x1, .int .i64 x2, .int .i64 x3, .bool f] 37 (0, 0))).cell? ((⟨g, 0, none⟩ : Addr).add j) = some u := by
  subst hg
  exact newsL w (encBid ⟨x0, x1, x2, x3, f⟩) 37
theorem smW (z : Int) (z0 : 0 ≤ z) (z1 : z ≤ 20) : wrap64 (z + 1) = z + 1 ∧ IntKind.i64.wrap (z + 1) = z + 1 ∧ wrap64 z = z := ⟨IntWalk.wrap64_in _ (by omega), IntWalk.i64_in _ (by omega), IntWalk.wrap64_in _ (by omega)⟩
theorem smM (z : Int) (z0 : 1 ≤ z) (z1 : z ≤ 17) : wrap64 (1000 * z) = 1000 * z ∧ IntKind.i64.wrap (1000 * z) = 1000 * z := ⟨IntWalk.wrap64_in _ (by omega), IntWalk.i64_in _ (by omega)⟩
theorem below_keep {B : Nat} {w w' : World} (h : Below B w w') (row : Option Nat) {a : World} (hB : a.heap.size ≤ B) (hg : a.grownBy w row) : a.grownBy w' row :=
  ⟨h.os.trans hg.os, h.tape.trans hg.tape, h.output.trans hg.output, Nat.le_trans hg.size h.size, fun i hi hx => (h.block i (by omega)).trans (hg.block i hi hx)⟩
set_option maxHeartbeats 8000000 in
set_option maxRecDepth 100000 in
theorem sbids_any (sb : Nat) (most : Int) (w : World) (hs : SrcOk w sb) (hm0 : 0 ≤ most) (hm1 : most ≤ 20) : Calls Try.prog 12 #[.pointer (some ⟨sb, 0, none⟩), .int .i64 most] w (GaveB most sb w) := by
  have hlt := srcOk_lt hs
  have HS := Lib.hid hs
  obtain ⟨i1, hi, hz0, hz1, hz2⟩ := info_parts infoBid
  have hwm : wrap64 (most + 1) = most + 1 := IntWalk.wrap64_in _ (by omega)
  have him : IntKind.i64.wrap (most + 1) = most + 1 := IntWalk.i64_in _ (by omega)
  clear hs
  go_enter Try.func12, Try.ntmps12
  go_wp2_with fail
  refine (n_any sb (most + 1) _ HS.out (by omega)).mono ?_
  rintro e w1 ⟨r0, hr0, rfl, hS1, hG1⟩
  obtain ⟨r0, rfl⟩ : ∃ m : Nat, r0 = (m : Int) := ⟨r0.toNat, by omega⟩
  have HS1 := Lib.hid hS1
  have HG1 := Lib.hid hG1
  have z1 := hG1.size
  have hr1 : (r0 : Int) ≤ most := by omega
  clear hS1 hG1 hr0 hwm him
  go_wp2
  go_loopw [5, 6] (fun ov kv wr => ∃ (r : Nat) (L : List Bid), kv = .int .i64 r ∧ (L.length : Int) + r ≤ most ∧ wr.ownsRow w.heap.size 37 5 ov L.length (flatE encBid L) ∧ (∀ x ∈ L, BidOk x) ∧ (∀ (k : Nat) (x : Bid), L[k]? = some x → x.num = (k : Int) + 1) ∧ SrcOk wr sb ∧ w.grownBy wr (some sb)) (fun _ kv _ => (intOf kv).toNat)
  case atStart => exact ⟨r0, [], rfl, by simp; omega, World.ownsRow_nil _ _ _ _, fun x h => by simp at h, fun k x h => by simp at h, HS1.out, HG1.out⟩
  case round =>
    obtain ⟨r, L, rfl, hlr, hown, hlk, hnu, hso, hgr⟩ := hrel
    have zr := hgr.size
    cases r with
    | zero =>
      have HF := Lib.hid (And.intro hown (And.intro (show BidsOk most L from ⟨by omega, hlk, hnu⟩) (And.intro hso hgr)))
      clear hown hlk hnu hso hgr
      go_wp2
      go_ret
      exact ⟨_, L, rfl, HF.out.1, HF.out.2.1, HF.out.2.2.1, HF.out.2.2.2⟩
    | succ r =>
      have hrz : (0 : Int) < (r : Int) + 1 := by omega
      have hln : (L.length : Int) ≤ 20 := by omega
      obtain ⟨oa, oc, rfl⟩ := own_sl hown
      have hfar : ∀ (U U' : World), U.ownsRow w.heap.size 37 5 (.slice oa L.length oc) L.length (flatE encBid L) → U.grownBy U' (some sb) → U'.ownsRow w.heap.size 37 5 (.slice oa L.length oc) L.length (flatE encBid L) := fun U U' ho hg => by
        refine ho.kept hg ?_
        cases hob : (Value.slice oa L.length oc).ownBlock with
        | none => exact .inl rfl
        | some g => exact .inr fun e => by cases e; have := (ho.lt _ hob).1; omega
      have HFAR := Lib.hid hfar
      have HOW := Lib.hid hown
      have HLK := Lib.hid hlk
      have HNU := Lib.hid hnu
      have HSO := Lib.hid hso
      have HGR := Lib.hid hgr
      have hr20 : (r : Int) ≤ 20 := by omega
      have HWL := Lib.hid (smW (L.length : Int) (Int.natCast_nonneg _) hln)
      have HWR := Lib.hid (smW (r : Int) (Int.natCast_nonneg _) hr20).2.2
      clear hown hlk hnu hso hgr hfar
      go_wp2_with fail
      refine (range_any sb 1 5 _ HSO.out (by decide) (by decide) (by decide)).mono ?_
      rintro e w2 ⟨x1, hm1, rfl, hS2, hG2⟩
      have HS2 := Lib.hid hS2
      have HG2 := Lib.hid (grownBy_trans HGR.out hG2)
      have HO2 := Lib.hid (HFAR.out _ _ HOW.out hG2)
      have z2 := hG2.size
      clear hS2 hG2
      have hwl := HWL.out.1
      have hil := HWL.out.2.1
      go_wp2_with fail
      clear hwl hil
      refine (pick_lit sb [98000, 99000, 99500, 100000, 100500] _ _ _ _ HS2.out (by decide) (by decide) rfl rfl rfl).mono ?_
      rintro e w3 ⟨x2, hx2, rfl, hS3, hG3⟩
      have hm2 : 1 ≤ x2 ∧ x2 ≤ 200000 := by simp only [List.mem_cons, List.not_mem_nil, or_false] at hx2; omega
      have HS3 := Lib.hid hS3
      have HG3 := Lib.hid (grownBy_trans HG2.out hG3)
      have HO3 := Lib.hid (HFAR.out _ _ HO2.out hG3)
      have z3 := hG3.size
      clear hx2 hS3 hG3
      go_wp2_with fail
      refine (pick_lit sb [1, 2, 3, 5, 8] _ _ _ _ HS3.out (by decide) (by decide) rfl rfl rfl).mono ?_
      rintro e w4 ⟨x3, hx3, rfl, hS4, hG4⟩
      have hm3 : 1 ≤ x3 ∧ x3 ≤ 8 := by simp only [List.mem_cons, List.not_mem_nil, or_false] at hx3; omega
      have HW3 := Lib.hid (smM x3 hm3.1 (by omega))
      have HS4 := Lib.hid hS4
      have HG4 := Lib.hid (grownBy_trans HG3.out hG4)
      have HO4 := Lib.hid (HFAR.out _ _ HO3.out hG4)
      have z4 := hG4.size
      clear hx3 hS4 hG4
      have hw3 := HW3.out.1
      have hi3 := HW3.out.2
      go_upto_region 6 with fail
      clear hw3 hi3
      obtain ⟨W4, hW4⟩ : ∃ W, W = w4.alloc (.cells #[.int .i64 x1, .int .i64 ((L.length : Int) + 1), .int .i64 x2, .int .i64 (1000 * x3), .bool false] 37 (0, 0)) := ⟨_, rfl⟩
      rw [← hW4]
      have hbW : Below w4.heap.size w4 W4 := by rw [hW4]; exact bal brefl _
      have hBx : W4.heap[w4.heap.size]? = some (.cells #[.int .i64 x1, .int .i64 ((L.length : Int) + 1), .int .i64 x2, .int .i64 (1000 * x3), .bool false] 37 (0, 0)) := by rw [hW4]; exact heap_alloc_new w4 _
      have zx : w4.heap.size < W4.heap.size := (Array.getElem?_eq_some_iff.1 hBx).1
      have hs4 := srcOk_lt HS4.out
      have HSW := Lib.hid (srcOk_below HS4.out hbW hs4)
      have HGW := Lib.hid (below_keep hbW (some sb) (by omega) HG4.out)
      have HOW4 := Lib.hid (ownsRow_belowZ HO4.out hbW)
      have HBX := Lib.hid hBx
      clear hW4 hbW hBx
      go_wp2_with fail
      refine (n_any sb 4 _ HSW.out (by decide)).mono ?_
      rintro e w5 ⟨x4, hx4, rfl, hS5, hG5⟩
      have hB5 := (hG5.block w4.heap.size zx (by simp; omega)).trans HBX.out
      have HS5' := Lib.hid hS5
      have HG5' := Lib.hid (grownBy_trans HGW.out hG5)
      have HO5' := Lib.hid (HFAR.out _ _ HOW4.out hG5)
      have z5 := hG5.size
      have zx5 : w4.heap.size < w5.heap.size := by omega
      have b0 : w5.cell? ⟨w4.heap.size, 0, none⟩ = some (.int .i64 x1) := cell_heap hB5 rfl
      have b1 : w5.cell? ⟨w4.heap.size, 1, none⟩ = some (.int .i64 ((L.length : Int) + 1)) := cell_heap hB5 rfl
      have b2 : w5.cell? ⟨w4.heap.size, 2, none⟩ = some (.int .i64 x2) := cell_heap hB5 rfl
      have b3 : w5.cell? ⟨w4.heap.size, 3, none⟩ = some (.int .i64 (1000 * x3)) := cell_heap hB5 rfl
      have b4 : w5.cell? ⟨w4.heap.size, 4, none⟩ = some (.bool false) := cell_heap hB5 rfl
      have bf : ∀ o, w5.frozen? ⟨w4.heap.size, o, none⟩ = false := fun o => frozen_of_row w5 _ _ _ _ hB5
      have HBX5 := Lib.hid hB5
      clear hS5 hG5 hB5
      by_cases h3 : x4 = 3
      · subst h3
        go_upto_region 8 with fail
        obtain ⟨W6, hW6⟩ : ∃ W, W = (w5.setCell ⟨w4.heap.size, 4, none⟩ (.bool true)).setCell ⟨w4.heap.size, 2, none⟩ (.int .i64 0) := ⟨_, rfl⟩
        rw [← hW6]
        have hB6 : W6.heap[w4.heap.size]? = some (.cells #[.int .i64 x1, .int .i64 ((L.length : Int) + 1), .int .i64 0, .int .i64 (1000 * x3), .bool true] 37 (0, 0)) := by
          have e1 := heap_setCell_same w5 _ 4 _ _ (.bool true) HBX5.out
          have e2 := heap_setCell_same _ _ 2 _ _ (.int .i64 0) e1
          rw [hW6, e2]; rfl
        have hb6 : Below w4.heap.size w5 W6 := by rw [hW6]; exact ((Below.refl w4.heap.size w5).setCell (p := ⟨w4.heap.size, 4, none⟩) (Nat.le_refl _) _).setCell (p := ⟨w4.heap.size, 2, none⟩) (Nat.le_refl _) _
        have HS5 := Lib.hid (srcOk_below HS5'.out hb6 hs4)
        have HG5 := Lib.hid (below_keep hb6 (some sb) (by omega) HG5'.out)
        have hown5 : W6.ownsRow w.heap.size 37 5 (.slice oa L.length oc) L.length (flatE encBid L) := by
          refine HO5'.out.kept (row := some w4.heap.size) (by rw [hW6]; exact grownBy_trans (grownBy_setCell _ _ _ _) (grownBy_setCell _ _ _ _)) ?_
          cases hob : (Value.slice oa L.length oc).ownBlock with
          | none => exact .inl rfl
          | some g => exact .inr fun e => by cases e; have := (HO4.out.lt _ hob).2; omega
        have HO5 := Lib.hid hown5
        have c0 : W6.cell? ⟨w4.heap.size, 0, none⟩ = some (.int .i64 x1) := cell_heap hB6 rfl
        have c1 : W6.cell? ⟨w4.heap.size, 1, none⟩ = some (.int .i64 ((L.length : Int) + 1)) := cell_heap hB6 rfl
        have c2 : W6.cell? ⟨w4.heap.size, 2, none⟩ = some (.int .i64 0) := cell_heap hB6 rfl
        have c3 : W6.cell? ⟨w4.heap.size, 3, none⟩ = some (.int .i64 (1000 * x3)) := cell_heap hB6 rfl
        have c4 : W6.cell? ⟨w4.heap.size, 4, none⟩ = some (.bool true) := cell_heap hB6 rfl
        have z6 : w.heap.size ≤ W6.heap.size := by have := HG5.out.size; omega
        clear b0 b1 b2 b3 b4 bf hW6 hB6 hb6 hown5
        have q1 : L.length + 1 ≤ maxLen := by unfold maxLen; omega
        have q2 : (L.length + 1) * 40 ≤ 140737488355328 := by omega
        go_wp2_with (at_builtin; go_must (refine wpList_append_own _ rfl _ _ 28 rfl w.heap.size 37 i1 (.agg #[.int .i64 0, .int .i64 0, .int .i64 0, .int .i64 0, .bool false]) 5 40 Try.underlying28 hi hz0 hz1 hz2 rfl (by decide) _ _ _ rfl (HO5.out.alloc _) ⟨_, 0, none⟩ 1 1 (encBid ⟨x1, (L.length : Int) + 1, 0, 1000 * x3, true⟩) rfl rfl (newsBid _ _ (by simp) x1 ((L.length : Int) + 1) 0 (1000 * x3) true) (oneBid _) q1 q2 (Nat.le_trans z6 (by simp)) ?_); intro v' w9 hown' hgrow _)
        go_roundw
        case rel =>
          have hb9 : Below w.heap.size W6 w9 := ((Below.refl _ W6).alloc (by omega) _).grown hgrow (by simp; omega) (fun q hq => (HO5.out.lt q hq).1)
          exact ⟨r, L ++ [⟨x1, (L.length : Int) + 1, 0, 1000 * x3, true⟩], by go_num, by simp; omega, by rw [flatE_snoc, List.length_append]; exact hown', fun x hx => by
            rw [List.mem_append] at hx
            rcases hx with hx | hx
            · exact HLK.out x hx
            · simp only [List.mem_singleton] at hx; subst hx; exact ⟨hm1.1, by simp only; omega, by simp only; omega, by simp only; omega, by simp only; omega, by simp only; omega, by simp only; omega, (fun _ => rfl), (fun h => by cases h)⟩, fun k x hk => by
            rcases Nat.lt_or_ge k L.length with hkl | hkl
            · rw [List.getElem?_append_left hkl] at hk; exact HNU.out k x hk
            · have hlt := (List.getElem?_eq_some_iff.1 hk).1
              simp only [List.length_append, List.length_cons, List.length_nil] at hlt
              obtain rfl : k = L.length := by omega
              rw [List.getElem?_append_right (Nat.le_refl _), Nat.sub_self] at hk
              simp only [List.getElem?_cons_zero, Option.some.injEq] at hk
              subst hk; rfl, srcOk_below HS5.out hb9 (by omega), below_keep hb9 (some sb) (Nat.le_refl _) HG5.out⟩
        case measure => first | (simp [intOf]; done) | (simp [intOf]; omega)
      · have h3' : (x4 == 3) = false := by simpa using h3
        have HS5 := Lib.hid HS5'.out
        have HG5 := Lib.hid HG5'.out
        have HO5 := Lib.hid HO5'.out
        have z6 : w.heap.size ≤ w5.heap.size := by have := HG5.out.size; omega
        have q1 : L.length + 1 ≤ maxLen := by unfold maxLen; omega
        have q2 : (L.length + 1) * 40 ≤ 140737488355328 := by omega
        go_wp2_with (at_builtin; go_must (refine wpList_append_own _ rfl _ _ 28 rfl w.heap.size 37 i1 (.agg #[.int .i64 0, .int .i64 0, .int .i64 0, .int .i64 0, .bool false]) 5 40 Try.underlying28 hi hz0 hz1 hz2 rfl (by decide) _ _ _ rfl (HO5.out.alloc _) ⟨_, 0, none⟩ 1 1 (encBid ⟨x1, (L.length : Int) + 1, x2, 1000 * x3, false⟩) rfl rfl (newsBid _ _ (by simp) x1 ((L.length : Int) + 1) x2 (1000 * x3) false) (oneBid _) q1 q2 (Nat.le_trans z6 (by simp)) ?_); intro v' w9 hown' hgrow _)
        go_roundw
        case rel =>
          have hb9 : Below w.heap.size w5 w9 := ((Below.refl _ w5).alloc (by omega) _).grown hgrow (by simp; omega) (fun q hq => (HO5.out.lt q hq).1)
          exact ⟨r, L ++ [⟨x1, (L.length : Int) + 1, x2, 1000 * x3, false⟩], by go_num, by simp; omega, by rw [flatE_snoc, List.length_append]; exact hown', fun x hx => by
            rw [List.mem_append] at hx
            rcases hx with hx | hx
            · exact HLK.out x hx
            · simp only [List.mem_singleton] at hx; subst hx; exact ⟨hm1.1, by simp only; omega, by simp only; omega, by simp only; omega, by simp only; omega, by simp only; omega, by simp only; omega, (fun h => by cases h), (fun _ => hm2)⟩, fun k x hk => by
            rcases Nat.lt_or_ge k L.length with hkl | hkl
            · rw [List.getElem?_append_left hkl] at hk; exact HNU.out k x hk
            · have hlt := (List.getElem?_eq_some_iff.1 hk).1
              simp only [List.length_append, List.length_cons, List.length_nil] at hlt
              obtain rfl : k = L.length := by omega
              rw [List.getElem?_append_right (Nat.le_refl _), Nat.sub_self] at hk
              simp only [List.getElem?_cons_zero, Option.some.injEq] at hk
              subst hk; rfl, srcOk_below HS5.out hb9 (by omega), below_keep hb9 (some sb) (Nat.le_refl _) HG5.out⟩
        case measure => first | (simp [intOf]; done) | (simp [intOf]; omega)
end Go.Proofs.Ytenbbmmbpjjjpaa
namespace Go.Proofs.Ytenbbmmbpjjjpaa
open Go.RowKit
set_option linter.unusedVariables false
set_option linter.unusedSimpArgs false
/-- what a bid got -/
def gvA : List Awd → Int → Int → Int
  | [], _, _ => 0
  | x :: A, b, n => if x.bd = b ∧ x.num = n then x.a else gvA A b n
set_option maxHeartbeats 4000000 in
set_option maxRecDepth 100000 in
theorem given_any (P : Nat → Prop) (cut sold : Int) (av : Value) (A : List Awd) (b n : Int) (w : World) (hS : Sl 4 encAwd P w av A) (hl : A.length ≤ 1000) :
    Calls Try.prog 14 #[.agg #[.int .i64 cut, .int .i64 sold, av], .int .i64 b, .int .i64 n] w fun e w' => e = .returned (.int .i64 (gvA A b n)) ∧ Below w.heap.size w w' := by
  obtain ⟨aa, m, ac, rfl, hm, -, -⟩ := hS.shape
  have hm1 : m ≤ 1000 := by omega
  obtain ⟨V, hV⟩ : ∃ V, gvA A b n = V := ⟨_, rfl⟩
  rw [hV]
  have HS := Lib.hid hS
  have HM := Lib.hid hm
  have HV := Lib.hid hV
  clear hS hm hl hV
  go_enter Try.func14, Try.ntmps14
  go_wp2
  go_loopw [12] (fun iv wr => ∃ k : Nat, k ≤ m ∧ iv = .int .i64 k ∧ V = gvA (A.drop k) b n ∧ Below w.heap.size w wr) (fun iv _ => m - (intOf iv).toNat)
  case atStart => exact ⟨0, by omega, rfl, by rw [List.drop_zero]; exact HV.out.symm, bal brefl _⟩
  case round =>
    obtain ⟨k, hk, rfl, hv, hbr⟩ := hrel
    have zr := hbr.size
    by_cases hlt : k < m
    · obtain ⟨bb, off, x0, x1, x2, x3, rfl, -, hbb, hx, k0, k1, k2, k3⟩ := (HS.out.below hbr).awd hlt
      have hkz : (k : Int) < (m : Int) := by omega
      rw [drop_cons hx] at hv
      simp only [gvA] at hv
      have HVV := Lib.hid hv
      have HBR := Lib.hid hbr
      clear hx hv hbr
      by_cases h0 : x0 = b
      · subst h0
        by_cases h1 : x1 = n
        · subst h1
          have hf := Lib.hid (show V = x2 by rw [HVV.out, if_pos ⟨rfl, rfl⟩])
          go_wp2
          go_ret
          exact ⟨ret_int hf.out.symm, bal HBR.out _⟩
        · have hf := Lib.hid (show V = gvA (A.drop (k + 1)) x0 n by rw [HVV.out, if_neg (fun h => h1 h.2)])
          have h1' : (x1 == n) = false := by simpa using h1
          go_wp2
          go_roundw
          case rel => exact ⟨k + 1, by omega, by go_num, hf.out, bal HBR.out _⟩
          case measure => simp [intOf]; omega
      · have hf := Lib.hid (show V = gvA (A.drop (k + 1)) b n by rw [HVV.out, if_neg (fun h => h0 h.1)])
        have h0' : (x0 == b) = false := by simpa using h0
        go_wp2
        go_roundw
        case rel => exact ⟨k + 1, by omega, by go_num, hf.out, bal HBR.out _⟩
        case measure => simp [intOf]; omega
    · have hf := Lib.hid (show V = 0 by rw [hv, List.drop_of_length_le (by have := HM.out; omega)]; rfl)
      clear hv
      go_wp2
      go_ret
      exact ⟨ret_int hf.out.symm, hbr⟩
/-- the bids of the example -/
def threeL : List Bid := [⟨1, 1, 99000, 6000, false⟩, ⟨2, 1, 98000, 6000, false⟩, ⟨3, 1, 97000, 3000, false⟩]
set_option maxHeartbeats 4000000 in
set_option maxRecDepth 100000 in
theorem three_any (w : World) : Calls Try.prog 38 #[] w fun e w' => ∃ v, e = .returned v ∧ Sl 5 encBid (fun _ => True) w' v threeL ∧ Below w.heap.size w w' := by
  go_enter Try.func38, Try.ntmps38
  go_wp2
  go_ret
  refine ⟨.slice (some ⟨w.heap.size, 0, none⟩) 3 3, rfl, ⟨_, 3, 3, rfl, rfl, Nat.le_refl _, by unfold maxLen; omega, .inr ⟨w.heap.size, 0, rfl, trivial, by simp, fun k x hk i u hi => ?_⟩⟩, bal brefl _⟩
  have hk3 : k < 3 := by have := (List.getElem?_eq_some_iff.1 hk).1; simpa [threeL] using this
  have hi5 : i < 5 := by have := (List.getElem?_eq_some_iff.1 hi).1; simpa [encBid] using this
  rw [World.cell?_alloc_at _ _ _ _ (by simp)]
  rcases (show k = 0 ∨ k = 1 ∨ k = 2 by omega) with rfl | rfl | rfl <;>
    (simp only [threeL, List.getElem?_cons_zero, List.getElem?_cons_succ, Option.some.injEq] at hk; subst hk; rcases (show i = 0 ∨ i = 1 ∨ i = 2 ∨ i = 3 ∨ i = 4 by omega) with rfl | rfl | rfl | rfl | rfl <;> (simp [encBid] at hi; subst hi; rfl))
theorem threeOk : ∀ x ∈ threeL, BidOk x := by
  intro x hx
  simp only [threeL, List.mem_cons, List.not_mem_nil, or_false] at hx
  rcases hx with rfl | rfl | rfl <;> exact ⟨by decide, by decide, by decide, by decide, by decide, by decide, by decide, by decide, by decide⟩
theorem threeK : KeysB threeL := by unfold KeysB threeL; simp
/-! sorting told without well-founded recursion -/
def insJ {α : Type} (lt : α → α → Bool) (x : α) : List α → List α
  | [] => [x]
  | y :: L => if lt y x then y :: insJ lt x L else x :: y :: L
def srtJ {α : Type} (lt : α → α → Bool) : List α → List α
  | [] => []
  | x :: L => insJ lt x (srtJ lt L)
theorem insJ_eq {α : Type} (lt : α → α → Bool) (x : α) : ∀ L : List α, mrg lt [x] L = insJ lt x L
  | [] => by rw [mrg_nil_r]; rfl
  | y :: L => by rw [mrg_cons, insJ_eq lt x L, mrg_nil_l]; rfl
theorem srtJ_eq {α : Type} (lt : α → α → Bool) : ∀ L : List α, srt lt L = srtJ lt L
  | [] => rfl
  | x :: L => by rw [srt, insJ_eq, srtJ_eq lt L]; rfl
end Go.Proofs.Ytenbbmmbpjjjpaa
namespace Go.Proofs.Ytenbbmmbpjjjpaa
open Go.RowKit
set_option linter.unusedVariables false
set_option linter.unusedSimpArgs false
theorem three_s : srB threeL = threeL := by unfold srB; rw [srtJ_eq]; kernel_rfl
theorem three_c : compL threeL 1 = [[0], [1], [2]] := by unfold compL dsP; rw [srtJ_eq]; kernel_rfl
theorem three_g : hdG 10000 1 0 threeL = [6, 4, 0] := by unfold hdG; rw [three_c]; kernel_rfl
theorem three_cut : hdC 10000 1 0 threeL = 98000 := by unfold hdC; rw [three_s, three_g]; kernel_rfl
theorem three_sum : hdS 10000 1 0 threeL = 10000 := by unfold hdS; rw [three_s, three_g]; kernel_rfl
theorem three_a : hdA 10000 1 0 false threeL = [⟨1, 1, 6000, 99000⟩, ⟨2, 1, 4000, 98000⟩] := by unfold hdA; rw [three_s, three_g]; kernel_rfl
set_option maxHeartbeats 8000000 in
set_option maxRecDepth 100000 in
theorem sane32_any (w : World) : Calls Try.prog 15 #[] w fun e w' => e = .returned (.bool true) ∧ Below w.heap.size w w' := by
  have hpl : (prcT (srB threeL) 1 (srB threeL).length).length ≤ 12 := Nat.le_trans (prcT_len _ _ _) (by rw [three_s]; decide)
  have KH := Lib.hid (fun (U : World) (v : Value) (hS : Sl 5 encBid (fun _ => True) U v threeL) => hold_any (fun _ => True) 10000 1 0 false v threeL U hS threeOk threeK (by decide) ⟨by decide, by decide, by decide, by decide, by decide, by decide, by decide⟩ hpl)
  rw [three_cut, three_sum, three_a] at KH
  have KG := Lib.hid (fun (U : World) (av : Value) (b n : Int) (hS : Sl 4 encAwd (fun _ => True) U av [⟨1, 1, 6000, 99000⟩, ⟨2, 1, 4000, 98000⟩]) => given_any (fun _ => True) 98000 10000 av _ b n U hS (by decide))
  clear hpl
  go_enter Try.func15, Try.ntmps15
  go_wp2_with fail
  refine (three_any _).mono ?_
  rintro e w1 ⟨v1, rfl, hS1, hb1⟩
  have HS1 := Lib.hid hS1
  have HB1 := Lib.hid hb1
  clear hS1 hb1
  go_wp2_with fail
  refine (KH.out _ _ HS1.out).mono ?_
  rintro e w2 ⟨av, rfl, ho2, hb2⟩
  have hA2 : Sl 4 encAwd (fun _ => True) w2 av [⟨1, 1, 6000, 99000⟩, ⟨2, 1, 4000, 98000⟩] := Sl.own encAwd_len ho2 rfl (fun _ _ => trivial)
  obtain ⟨aa, ac, rfl⟩ := own_sl ho2
  have HA2 := Lib.hid hA2
  have HB2 := Lib.hid (bup HB1.out hb2)
  clear ho2 hb2 hA2
  go_wp2_with fail
  refine (KG.out _ _ 1 1 (HA2.out.below (bal brefl _))).mono ?_
  rintro e w3 ⟨rfl, hb3⟩
  have HB3 := Lib.hid (bup (bal brefl _) hb3)
  have c0 : w3.cell? ⟨w2.heap.size, 0, none⟩ = some (.int .i64 98000) := boxed_cell hb3 0 rfl
  have c1 : w3.cell? ⟨w2.heap.size, 1, none⟩ = some (.int .i64 10000) := boxed_cell hb3 1 rfl
  have c2 : w3.cell? ⟨w2.heap.size, 2, none⟩ = some (.slice aa [(⟨1, 1, 6000, 99000⟩ : Awd), ⟨2, 1, 4000, 98000⟩].length ac) := boxed_cell hb3 2 rfl
  clear hb3
  have e1 : gvA [⟨1, 1, 6000, 99000⟩, ⟨2, 1, 4000, 98000⟩] 1 1 = 6000 := by decide
  have e2 : gvA [⟨1, 1, 6000, 99000⟩, ⟨2, 1, 4000, 98000⟩] 2 1 = 4000 := by decide
  have e3 : gvA [⟨1, 1, 6000, 99000⟩, ⟨2, 1, 4000, 98000⟩] 3 1 = 0 := by decide
  simp only [List.length_cons, List.length_nil, Nat.reduceAdd] at c2
  go_wp2_with fail
  refine (KG.out _ _ 2 1 (HA2.out.below HB3.out)).mono ?_
  rintro e w4 ⟨rfl, hb4⟩
  have d0 := keepB hb4 c0
  have d1 := keepB hb4 c1
  have d2 := keepB hb4 c2
  have HB4 := Lib.hid (bup HB3.out hb4)
  clear hb4
  go_wp2_with fail
  refine (KG.out _ _ 3 1 (HA2.out.below HB4.out)).mono ?_
  rintro e w5 ⟨rfl, hb5⟩
  go_wp2
  go_ret
  exact ⟨ret_bool (by first | rfl | simp [e1, e2, e3]), bup HB2.out (bup HB4.out hb5)⟩
end Go.Proofs.Ytenbbmmbpjjjpaa
