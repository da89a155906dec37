/- AuctionMore: the walk. Printed by wip/gen/l32n.py. -/
import Derived.Test.YtenbbmmbpjjjpaaZL32Nd
import Derived.Test.YtenbbmmbpjjjpaaZStN
import Derived.Test.YtenbbmmbpjjjpaaZRegP
import Derived.Test.YtenbbmmbpjjjpaaZSrcBent
namespace Go.Proofs.Ytenbbmmbpjjjpaa
open Go.RowKit
set_option linter.unusedVariables false
set_option linter.unusedSimpArgs false
theorem up_propA {w : World} (x : Up w) : Below w.heap.size w x.1 := x.2
theorem wzM (z : Int) (h : -2000000000 ≤ z ∧ z ≤ 2000000000) : wrap64 z = z ∧ IntKind.i64.wrap z = z := ⟨IntWalk.wrap64_in _ (by omega), IntWalk.i64_in _ (by omega)⟩
set_option maxHeartbeats 16000000 in
set_option maxRecDepth 100000 in
theorem more_walk (a0 : Option Addr) (len0 cap0 : Nat) (t : Int) (t0 : 0 ≤ t) (t1 : t ≤ 255) (w : World) (h1 : len0 ≤ cap0) (h2 : cap0 ≤ maxLen) (hz : len0 = 0 ∨ ∃ b off, a0 = some ⟨b, off, none⟩ ∧ ∀ i, i < len0 → ∃ z : Int, w.cell? ⟨b, off + i, none⟩ = some (.int .i64 z)) :
    Calls Try.prog 6 #[.slice a0 len0 cap0, .int .u8 t] w fun e w' => e = .returned (.bool true) ∧ Below w.heap.size w w' := by
  go_enter Try.func6, Try.ntmps6
  go_wp2_with fail
  refine (new_any a0 len0 cap0 w h1 h2 hz).mono ?_
  rintro e w1 ⟨sb, rfl, hsb, hS1, hB1⟩
  clear hz
  have HS1 := Lib.hid hS1
  have HB1 := Lib.hid hB1
  clear hS1 hB1
  go_wp2_with fail
  refine (soffer_any sb _ HS1.out).mono ?_
  rintro e w2 ⟨am, le, sh, un, rfl, ho, hS2, hG2⟩
  have HS2 := Lib.hid hS2
  have HG2 := Lib.hid hG2
  clear hS2 hG2
  go_wp2_with fail
  refine (sbids_any sb 8 _ HS2.out (by decide) (by decide)).mono ?_
  rintro e w3 ⟨bv, L, rfl, hw3, hL, hS3, hG3⟩
  have HI := Lib.hid (hL.into (by decide) ho)
  have hb3 := Sl.own (P := fun _ => True) encBid_len hw3 rfl (fun _ _ => trivial)
  obtain ⟨ba, n, bc, rfl, hn, -, -⟩ := hb3.shape
  have hn9 : n ≤ 8 := by have := hL.n; omega
  have HB3 := Lib.hid (HB1.out.trans (below_of_grown (grownBy_trans HG2.out hG3) hsb HB1.out.size))
  have HL3 := Lib.hid hb3
  obtain ⟨tn, rfl⟩ : ∃ q : Nat, t = (q : Int) := ⟨t.toNat, by omega⟩
  have HL3 := Lib.hid (Sl.own (P := fun b => w2.heap.size ≤ b) encBid_len hw3 rfl (fun _ h => h))
  have hsl2 := srcOk_lt HS2.out
  have HS3 := Lib.hid hS3
  have HL8 := Lib.hid hL.n
  have hsl3 := srcOk_lt hS3
  have HU := Lib.hid (wzM (tn : Int) (by omega))
  clear hw3 hS3 hG3 hb3 hL t0 t1
  have HO := Lib.hid ho
  have HN := Lib.hid hn
  clear ho hn
  by_cases hn0 : n = 0
  · subst hn0
    go_wp2_with fail
    refine (sane32_any _).mono ?_
    rintro e w9 ⟨rfl, hb9⟩
    go_wp2
    go_ret
    exact ⟨rfl, bup (bal HB3.out _) hb9⟩
  have hnz : ¬ ((n : Int) = 0) := by omega
  have hnz2 : ((n : Int) == 0) = false := by simp; omega
  obtain ⟨k, hk⟩ : ∃ k, tn % n = k := ⟨_, rfl⟩
  have hkn : k < n := by rw [← hk]; exact Nat.mod_lt _ (by omega)
  have hrm : Int.tmod (tn : Int) (n : Int) = (k : Int) := by rw [Int.tmod_eq_emod_of_nonneg (by omega), ← hk, Int.natCast_emod]
  have HWK := Lib.hid (wzM (k : Int) (by omega))
  have hkz : (k : Int) < (n : Int) := by omega
  have hk0 : 0 ≤ (k : Int) := by omega
  clear hk
  obtain ⟨W, hW⟩ : ∃ W, W = w3.alloc (.cells #[.int .i64 am, .int .i64 le, .int .i64 sh, .bool un] 26 (0, 0)) := ⟨_, rfl⟩
  have hbW : Below w3.heap.size w3 W := by rw [hW]; exact bal brefl _
  have o0 : W.cell? ⟨w3.heap.size, 0, none⟩ = some (.int .i64 am) := by rw [hW]; exact World.cell?_alloc_at _ _ _ _ rfl
  have o1 : W.cell? ⟨w3.heap.size, 1, none⟩ = some (.int .i64 le) := by rw [hW]; exact World.cell?_alloc_at _ _ _ _ rfl
  have o2 : W.cell? ⟨w3.heap.size, 2, none⟩ = some (.int .i64 sh) := by rw [hW]; exact World.cell?_alloc_at _ _ _ _ rfl
  have o3 : W.cell? ⟨w3.heap.size, 3, none⟩ = some (.bool un) := by rw [hW]; exact World.cell?_alloc_at _ _ _ _ rfl
  have HLW := Lib.hid (HL3.out.below hbW)
  have HBW := Lib.hid hbW
  have HSW := Lib.hid (srcOk_below HS3.out hbW hsl3)
  have HWW := Lib.hid hW
  have zw : w3.heap.size < W.heap.size := World.block_lt_of_cell? _ _ o0
  clear hW hbW
  obtain ⟨bb, off, x0, x1, x2, x3, x4, rfl, hbb2, hbb, hx, k0, k1, k2, k3, k4⟩ := HLW.out.bid hkn
  go_upto_region 5 with fail
  rw [← HWW.out]
  obtain ⟨hu9, hu8⟩ := HU.out
  obtain ⟨hwk, hik⟩ := HWK.out
  go_upto_region 6 with fail
  clear hu8 hu9 hrm hwk hik
  cases x4 with
  | true =>
    go_wp2_with fail
    refine (sane32_any _).mono ?_
    rintro e w9 ⟨rfl, hb9⟩
    go_wp2
    go_ret
    exact ⟨rfl, bup (HB3.out.trans (HBW.out.mono HB3.out.size)) hb9⟩
  | false =>
    have hbk := HI.out.ok _ (List.mem_of_getElem? hx)
    have hpc := hbk.pc rfl
    simp only at hpc
    have HX := Lib.hid hx
    obtain ⟨pA, pB⟩ := hpc
    have h12 : L.length ≤ 12 := by have := HN.out; omega
    have KH := Lib.hid (fun (U : World) (hU : Below W.heap.size W U) => hold_any _ am le sh un _ L U (HLW.out.below hU) HI.out.ok HI.out.k HI.out.n HI.out.o HI.out.p)
    have KU := Lib.hid (fun (q : Int) (h1 : x2 ≤ q) (h2 : q ≤ 200000) (U : World) (v : Value) (P : Nat → Prop) (hS : Sl 5 encBid P U v (L.set k ⟨x0, x1, q, x3, false⟩)) => have h := HI.out.upd h12 HX.out (q := q) rfl ⟨by omega, h2⟩; hold_any P am le sh un v _ U hS h.ok h.k h.n h.o h.p)
    have KZ := Lib.hid (fun (U : World) (v : Value) (P : Nat → Prop) (hS : Sl 5 encBid P U v (L.take k ++ L.drop (k + 1))) => have h := HI.out.less h12 k; hold_any P am le sh un v _ U hS h.ok h.k h.n h.o h.p)
    have HMP := Lib.hid (fun (q : Int) (h1 : x2 ≤ q) (h2 : q ≤ 200000) => more_price HI.out (HI.out.upd h12 HX.out (q := q) rfl ⟨by omega, h2⟩) (set_perm HX.out ⟨x0, x1, q, x3, false⟩).2 (set_perm HX.out ⟨x0, x1, q, x3, false⟩).1 rfl rfl rfl rfl rfl h1 un)
    have HML := Lib.hid (fun x (hx : x ∈ L.take k ++ L.drop (k + 1)) (hf : x.f = false) => more_less HI.out (HI.out.less h12 k) (set_perm HX.out ⟨x0, x1, 0, x3, false⟩).2 rfl hx hf un)
    have HGB := Lib.hid (fun x (hx : x ∈ L) => (⟨(fair_ok HI.out hx un).n0, Int.le_trans (fair_ok HI.out hx un).asks (HI.out.ok x hx).a1⟩ : 0 ≤ gvA (hdA am le sh un L) x.bd x.num ∧ gvA (hdA am le sh un L) x.bd x.num ≤ 1000000000))
    have hAl : ∀ M : List Bid, M.length ≤ 8 → (hdA am le sh un M).length ≤ 1000 := fun M hM => by have := awT_len le un (srB M) (hdG am le sh (srB M)) (srB M).length; have e := srB_len M; unfold hdA; omega
    have HAL := Lib.hid hAl
    clear hx hbk hAl
    go_upto_region 8 with fail
    obtain ⟨C, hC⟩ : ∃ x, hdC am le sh L = x := ⟨_, rfl⟩
    obtain ⟨T, hT⟩ : ∃ x, hdS am le sh L = x := ⟨_, rfl⟩
    rw [hC, hT] at KH
    have HA1 := Lib.hid (HAL.out L (by have := HN.out; omega))
    clear hC hT
    go_wp2_with fail
    refine (KH.out _ brefl).mono ?_
    rintro e w4 ⟨av, rfl, hw4, hb4⟩
    replace o0 := keepB hb4 o0
    replace o1 := keepB hb4 o1
    replace o2 := keepB hb4 o2
    replace o3 := keepB hb4 o3
    have hA4 : Sl 4 encAwd (fun b => W.heap.size ≤ b) w4 av (hdA am le sh un L) := Sl.own encAwd_len hw4 rfl (fun _ h => h)
    obtain ⟨aa, m, ac, rfl, hm, -, -⟩ := hA4.shape
    have HA4 := Lib.hid hA4
    have HL4 := Lib.hid (HLW.out.below hb4)
    have HB4 := Lib.hid (HBW.out.trans (hb4.mono HBW.out.size))
    have hz4 := hb4.size
    have HS4 := Lib.hid (srcOk_below HSW.out hb4 (by omega))
    clear hw4 hb4 hA4 hm k0 k1 k2 k3 k4
    go_upto_region 9 with fail
    obtain ⟨V, hV⟩ : ∃ V, V = w4.alloc (.cells #[.int .i64 C, .int .i64 T, .slice aa m ac] 32 (0, 0)) := ⟨_, rfl⟩
    rw [← hV]
    have hbV : Below w4.heap.size w4 V := by rw [hV]; exact bal brefl _
    have r0 : V.cell? ⟨w4.heap.size, 0, none⟩ = some (.int .i64 C) := by rw [hV]; exact World.cell?_alloc_at _ _ _ _ rfl
    have r1 : V.cell? ⟨w4.heap.size, 1, none⟩ = some (.int .i64 T) := by rw [hV]; exact World.cell?_alloc_at _ _ _ _ rfl
    have r2 : V.cell? ⟨w4.heap.size, 2, none⟩ = some (.slice aa m ac) := by rw [hV]; exact World.cell?_alloc_at _ _ _ _ rfl
    replace o0 := keepB hbV o0
    replace o1 := keepB hbV o1
    replace o2 := keepB hbV o2
    replace o3 := keepB hbV o3
    have zo : w3.heap.size < V.heap.size := World.block_lt_of_cell? _ _ o0
    have zr : w4.heap.size < V.heap.size := World.block_lt_of_cell? _ _ r0
    have HAV := Lib.hid (HA4.out.below hbV)
    have HLV := Lib.hid (HL4.out.below hbV)
    have HBV := Lib.hid (HB4.out.trans (hbV.mono HB4.out.size))
    have HSV := Lib.hid (srcOk_below HS4.out hbV (by omega))
    clear hV hbV HA4 HL4 HS4
    obtain ⟨i1, hi, hz0, hz1, hz2⟩ := info_parts infoBid
    go_wp2_with (at_builtin; go_must (refine wpList_copy_row encBid_len oneBid rfl _ 28 rfl 37 i1 (.agg #[.int .i64 0, .int .i64 0, .int .i64 0, .int .i64 0, .bool false]) 40 Try.underlying28 hi hz0 hz1 hz2 rfl (by decide) (by decide) _ rfl HLV.out (by omega) ?_); intro v5 w5 ho5 hb5)
    replace o0 := keepB hb5 o0
    replace o1 := keepB hb5 o1
    replace o2 := keepB hb5 o2
    replace o3 := keepB hb5 o3
    replace r0 := keepB hb5 r0
    replace r1 := keepB hb5 r1
    replace r2 := keepB hb5 r2
    have hS5 : Sl 5 encBid (fun b => V.heap.size ≤ b) w5 v5 L := Sl.own encBid_len ho5 rfl (fun _ h => h)
    have hz5 := hb5.size
    rw [HN.out] at ho5
    obtain ⟨g, hgv⟩ : ∃ g, v5.ownBlock = some g := by
      rcases ho5.2 with ⟨rfl, h0⟩ | ⟨g, cap, cur, rfl, -⟩
      · omega
      · exact ⟨g, rfl⟩
    obtain ⟨uc, rfl⟩ : ∃ uc, v5 = .slice (some ⟨g, 0, none⟩) n uc := by
      rcases ho5.2 with ⟨rfl, h0⟩ | ⟨g', cap, cur, rfl, -⟩
      · omega
      · simp only [Value.ownBlock, Option.some.injEq] at hgv; subst hgv; exact ⟨_, rfl⟩
    obtain ⟨hg0, hg1⟩ := ho5.lt g rfl
    have HO5 := Lib.hid ho5
    have HS5 := Lib.hid hS5
    have HAV5 := Lib.hid ((HAV.out.mono (Q := fun b => W.heap.size ≤ b ∧ b < V.heap.size) (fun b hp hlt => ⟨hp, hlt⟩)).below hb5)
    have HLV5 := Lib.hid ((HLV.out.mono (Q := fun b => w2.heap.size ≤ b ∧ b < V.heap.size) (fun b hp hlt => ⟨hp, hlt⟩)).below hb5)
    have HBV5 := Lib.hid (HBV.out.trans (hb5.mono HBV.out.size))
    have HSV5 := Lib.hid (srcOk_below HSV.out hb5 (by omega))
    clear ho5 hS5 hb5 hgv HAV HLV
    have hgs : ¬ g = sb := by have := srcOk_lt HSV.out; omega
    have hsbV : sb < V.heap.size := srcOk_lt HSV.out
    have hpc2 : w5.cell? ⟨g, k * 5 + 2, none⟩ = some (.int .i64 x2) := by
      obtain ⟨b', off', y0, y1, y2, y3, y4, e1, -, -, e2, j0, j1, j2, j3, j4⟩ := HS5.out.bid hkn
      have e3 := HX.out
      rw [e3] at e2
      cases e2
      cases e1
      simpa using j2
    have hfz2 : w5.frozen? ⟨g, k * 5 + 2, none⟩ = false := by
      rcases HO5.out.2 with ⟨h, -⟩ | ⟨g', cap, cur, h, -, hgc, -⟩
      · cases h
      · cases h
        exact frozen_of_row w5 _ _ _ _ hgc
    clear HSV
    go_upto_region 10 with fail
    refine wp_region_any (by kernel_rfl) ?_
    change wpAny _ _ _ _ _ _ _ (World.drew _)
    refine vf_anyP_inv (J := fun listed a' w' => ∃ t48 t49 t50 t51 t52 t53 t54 t55 t56 t57 t58 t59 t60 t61 : Value, a' = { tmps := #[Value.slice a0 len0 cap0, Value.int IntKind.u8 ↑tn, undef, undef, Value.bool false, Value.pointer (some ⟨sb, 0, none⟩), Value.pointer (some ⟨w3.heap.size, 0, none⟩), Value.slice (some ⟨bb, off, none⟩) n bc, Value.int IntKind.i64 ↑k, Value.pointer (some ⟨w4.heap.size, 0, none⟩), Value.int IntKind.i64 0, Value.slice (some ⟨g, 0, none⟩) n uc, undef, undef, undef, undef, undef, undef, undef, Value.slice a0 len0 cap0, Value.pointer (some ⟨sb, 0, none⟩), Value.pointer (some ⟨sb, 0, none⟩), Value.agg #[Value.int IntKind.i64 am, Value.int IntKind.i64 le, Value.int IntKind.i64 sh, Value.bool un], Value.pointer (some ⟨sb, 0, none⟩), Value.slice (some ⟨bb, off, none⟩) n bc, Value.slice (some ⟨bb, off, none⟩) n bc, Value.int IntKind.i64 ↑n, Value.bool false, undef, Value.int IntKind.u8 ↑tn, Value.int IntKind.i64 ↑tn, Value.slice (some ⟨bb, off, none⟩) n bc, Value.int IntKind.i64 ↑n, Value.int IntKind.i64 ↑k, Value.slice (some ⟨bb, off, none⟩) n bc, Value.int IntKind.i64 ↑k, Value.pointer (some ⟨bb, off + k * 5, none⟩), Value.pointer (some ⟨bb, off + k * 5 + 4, none⟩), Value.bool false, undef, Value.tuple #[Value.agg #[Value.int IntKind.i64 C, Value.int IntKind.i64 T, Value.slice aa m ac], Value.int IntKind.i64 0], Value.agg #[Value.int IntKind.i64 am, Value.int IntKind.i64 le, Value.int IntKind.i64 sh, Value.bool un], Value.slice (some ⟨bb, off, none⟩) n bc, Value.tuple #[Value.agg #[Value.int IntKind.i64 C, Value.int IntKind.i64 T, Value.slice aa m ac], Value.int IntKind.i64 0], Value.agg #[Value.int IntKind.i64 C, Value.int IntKind.i64 T, Value.slice aa m ac], Value.int IntKind.i64 0, Value.slice (some ⟨bb, off, none⟩) n bc, Value.slice (some ⟨g, 0, none⟩) n uc, t48, t49, t50, t51, t52, t53, t54, t55, t56, t57, t58, t59, t60, t61, undef, undef, undef, undef, undef, undef, undef, undef, undef, undef, undef, undef, undef, undef, undef, undef, undef, undef, undef, undef, undef, undef, undef, undef, undef, undef, undef, undef, undef, undef, undef, undef, undef, undef, undef, undef, undef, undef, undef, undef, undef, undef, undef, undef, undef, undef, undef, undef, undef, undef, undef, undef, undef, undef, undef, undef, undef, undef, undef, undef, undef, undef, undef, undef, undef, undef, undef, undef, undef, undef, undef, undef, undef, undef, undef, undef, undef, undef, undef, undef, undef, undef, undef], defers := [] } ∧ listed.size = 15 ∧ (listed.getD 0 false = true → t48 = .slice (some ⟨g, 0, none⟩) n uc) ∧ (listed.getD 1 false = true → t49 = .int .i64 (k : Int)) ∧ (listed.getD 2 false = true → t50 = .slice (some ⟨g, 0, none⟩) n uc) ∧ (listed.getD 3 false = true → t51 = .int .i64 (k : Int)) ∧ (listed.getD 4 false = true → t52 = .pointer (some ⟨g, k * 5, none⟩)) ∧ (listed.getD 5 false = true → t53 = .pointer (some ⟨g, k * 5 + 2, none⟩)) ∧ (listed.getD 6 false = true → t54 = .int .i64 x2) ∧ (listed.getD 7 false = true → t55 = .pointer (some ⟨sb, 0, none⟩)) ∧ (listed.getD 12 false = true → t60 = .pointer (some ⟨g, k * 5, none⟩)) ∧ (listed.getD 13 false = true → t61 = .pointer (some ⟨g, k * 5 + 2, none⟩)) ∧ (listed.getD 4 false = true → listed.getD 2 false = true ∧ listed.getD 3 false = true) ∧ (listed.getD 5 false = true → listed.getD 4 false = true) ∧ (listed.getD 6 false = true → listed.getD 5 false = true) ∧ (listed.getD 9 false = true → listed.getD 7 false = true ∧ listed.getD 8 false = true) ∧ (listed.getD 10 false = true → listed.getD 6 false = true ∧ listed.getD 9 false = true) ∧ (listed.getD 11 false = true → listed.getD 10 false = true) ∧ (listed.getD 12 false = true → listed.getD 0 false = true ∧ listed.getD 1 false = true) ∧ (listed.getD 13 false = true → listed.getD 12 false = true) ∧ (listed.getD 14 false = true → listed.getD 11 false = true ∧ listed.getD 13 false = true) ∧ M10 w5 sb V.heap.size g n uc k L ⟨x0, x1, x2, x3, false⟩ (listed.getD 8 false) (listed.getD 9 false) (listed.getD 10 false) (listed.getD 11 false) (listed.getD 14 false) t56 t57 t58 t59 w') ?step ?fin _ _ _ _ ⟨_, _, _, _, _, _, _, _, _, _, _, _, _, _, rfl, rfl, fun h => by simp at h, fun h => by simp at h, fun h => by simp at h, fun h => by simp at h, fun h => by simp at h, fun h => by simp at h, fun h => by simp at h, fun h => by simp at h, fun h => by simp at h, fun h => by simp at h, fun h => by simp at h, fun h => by simp at h, fun h => by simp at h, fun h => by simp at h, fun h => by simp at h, fun h => by simp at h, fun h => by simp at h, fun h => by simp at h, fun h => by simp at h, M10.start HSV5.out⟩ (by decide)
    case step =>
      rintro listed a' w' ⟨t48, t49, t50, t51, t52, t53, t54, t55, t56, t57, t58, t59, t60, t61, rfl, hsz, f0, f1, f2, f3, f4, f5, f6, f7, f12, f13, o4, o5, o6, o9, o10, o11, o12, o13, o14, hvb⟩ i hi K hK
      obtain ⟨hni, o, ho, hdep⟩ := mem_ready.1 hi
      have hin : i < 15 := (Array.getElem?_eq_some_iff.1 ho).1
      have hself := vf_listed_self hni
      have hno := vf_listed_no hni
      rcases (show i = 0 ∨ i = 1 ∨ i = 2 ∨ i = 3 ∨ i = 4 ∨ i = 5 ∨ i = 6 ∨ i = 7 ∨ i = 8 ∨ i = 9 ∨ i = 10 ∨ i = 11 ∨ i = 12 ∨ i = 13 ∨ i = 14 by omega) with rfl | rfl | rfl | rfl | rfl | rfl | rfl | rfl | rfl | rfl | rfl | rfl | rfl | rfl | rfl
      · injection ho with ho
        subst ho
        have g8 : (listed.setIfInBounds 0 true).getD 8 false = listed.getD 8 false := getD_set_ne _ (by decide)
        have g9 : (listed.setIfInBounds 0 true).getD 9 false = listed.getD 9 false := getD_set_ne _ (by decide)
        have g10 : (listed.setIfInBounds 0 true).getD 10 false = listed.getD 10 false := getD_set_ne _ (by decide)
        have g11 : (listed.setIfInBounds 0 true).getD 11 false = listed.getD 11 false := getD_set_ne _ (by decide)
        have g14 : (listed.setIfInBounds 0 true).getD 14 false = listed.getD 14 false := getD_set_ne _ (by decide)
        have HVB := Lib.hid hvb
        clear hi hdep hvb
        refine vf_wpOpP_of rfl rfl ?_
        go_simp
        exact hK _ _ ⟨(.slice (some ⟨g, 0, none⟩) n uc), _, _, _, _, _, _, _, _, _, _, _, _, _, rfl, by simpa using hsz, fun _ => rfl, fun h => by first | exact f1 (vf_listed_ne (by decide) h) | rfl, fun h => by first | exact f2 (vf_listed_ne (by decide) h) | rfl, fun h => by first | exact f3 (vf_listed_ne (by decide) h) | rfl, fun h => by first | exact f4 (vf_listed_ne (by decide) h) | rfl, fun h => by first | exact f5 (vf_listed_ne (by decide) h) | rfl, fun h => by first | exact f6 (vf_listed_ne (by decide) h) | rfl, fun h => by first | exact f7 (vf_listed_ne (by decide) h) | rfl, fun h => by first | exact f12 (vf_listed_ne (by decide) h) | rfl, fun h => by first | exact f13 (vf_listed_ne (by decide) h) | rfl, fun h => by have q := o4 (vf_listed_ne (by decide) h); exact ⟨vf_listed_keep q.1, vf_listed_keep q.2⟩, fun h => vf_listed_keep (o5 (vf_listed_ne (by decide) h)), fun h => vf_listed_keep (o6 (vf_listed_ne (by decide) h)), fun h => by have q := o9 (vf_listed_ne (by decide) h); exact ⟨vf_listed_keep q.1, vf_listed_keep q.2⟩, fun h => by have q := o10 (vf_listed_ne (by decide) h); exact ⟨vf_listed_keep q.1, vf_listed_keep q.2⟩, fun h => vf_listed_keep (o11 (vf_listed_ne (by decide) h)), fun h => by have q := o12 (vf_listed_ne (by decide) h); exact ⟨vf_listed_keep q.1, vf_listed_keep q.2⟩, fun h => vf_listed_keep (o13 (vf_listed_ne (by decide) h)), fun h => by have q := o14 (vf_listed_ne (by decide) h); exact ⟨vf_listed_keep q.1, vf_listed_keep q.2⟩, by rw [g8, g9, g10, g11, g14]; exact HVB.out⟩
      · injection ho with ho
        subst ho
        have g8 : (listed.setIfInBounds 1 true).getD 8 false = listed.getD 8 false := getD_set_ne _ (by decide)
        have g9 : (listed.setIfInBounds 1 true).getD 9 false = listed.getD 9 false := getD_set_ne _ (by decide)
        have g10 : (listed.setIfInBounds 1 true).getD 10 false = listed.getD 10 false := getD_set_ne _ (by decide)
        have g11 : (listed.setIfInBounds 1 true).getD 11 false = listed.getD 11 false := getD_set_ne _ (by decide)
        have g14 : (listed.setIfInBounds 1 true).getD 14 false = listed.getD 14 false := getD_set_ne _ (by decide)
        have HVB := Lib.hid hvb
        clear hi hdep hvb
        refine vf_wpOpP_of rfl rfl ?_
        go_simp
        exact hK _ _ ⟨_, (.int .i64 (k : Int)), _, _, _, _, _, _, _, _, _, _, _, _, rfl, by simpa using hsz, fun h => by first | exact f0 (vf_listed_ne (by decide) h) | rfl, fun _ => rfl, fun h => by first | exact f2 (vf_listed_ne (by decide) h) | rfl, fun h => by first | exact f3 (vf_listed_ne (by decide) h) | rfl, fun h => by first | exact f4 (vf_listed_ne (by decide) h) | rfl, fun h => by first | exact f5 (vf_listed_ne (by decide) h) | rfl, fun h => by first | exact f6 (vf_listed_ne (by decide) h) | rfl, fun h => by first | exact f7 (vf_listed_ne (by decide) h) | rfl, fun h => by first | exact f12 (vf_listed_ne (by decide) h) | rfl, fun h => by first | exact f13 (vf_listed_ne (by decide) h) | rfl, fun h => by have q := o4 (vf_listed_ne (by decide) h); exact ⟨vf_listed_keep q.1, vf_listed_keep q.2⟩, fun h => vf_listed_keep (o5 (vf_listed_ne (by decide) h)), fun h => vf_listed_keep (o6 (vf_listed_ne (by decide) h)), fun h => by have q := o9 (vf_listed_ne (by decide) h); exact ⟨vf_listed_keep q.1, vf_listed_keep q.2⟩, fun h => by have q := o10 (vf_listed_ne (by decide) h); exact ⟨vf_listed_keep q.1, vf_listed_keep q.2⟩, fun h => vf_listed_keep (o11 (vf_listed_ne (by decide) h)), fun h => by have q := o12 (vf_listed_ne (by decide) h); exact ⟨vf_listed_keep q.1, vf_listed_keep q.2⟩, fun h => vf_listed_keep (o13 (vf_listed_ne (by decide) h)), fun h => by have q := o14 (vf_listed_ne (by decide) h); exact ⟨vf_listed_keep q.1, vf_listed_keep q.2⟩, by rw [g8, g9, g10, g11, g14]; exact HVB.out⟩
      · injection ho with ho
        subst ho
        have g8 : (listed.setIfInBounds 2 true).getD 8 false = listed.getD 8 false := getD_set_ne _ (by decide)
        have g9 : (listed.setIfInBounds 2 true).getD 9 false = listed.getD 9 false := getD_set_ne _ (by decide)
        have g10 : (listed.setIfInBounds 2 true).getD 10 false = listed.getD 10 false := getD_set_ne _ (by decide)
        have g11 : (listed.setIfInBounds 2 true).getD 11 false = listed.getD 11 false := getD_set_ne _ (by decide)
        have g14 : (listed.setIfInBounds 2 true).getD 14 false = listed.getD 14 false := getD_set_ne _ (by decide)
        have HVB := Lib.hid hvb
        clear hi hdep hvb
        refine vf_wpOpP_of rfl rfl ?_
        go_simp
        exact hK _ _ ⟨_, _, (.slice (some ⟨g, 0, none⟩) n uc), _, _, _, _, _, _, _, _, _, _, _, rfl, by simpa using hsz, fun h => by first | exact f0 (vf_listed_ne (by decide) h) | rfl, fun h => by first | exact f1 (vf_listed_ne (by decide) h) | rfl, fun _ => rfl, fun h => by first | exact f3 (vf_listed_ne (by decide) h) | rfl, fun h => by first | exact f4 (vf_listed_ne (by decide) h) | rfl, fun h => by first | exact f5 (vf_listed_ne (by decide) h) | rfl, fun h => by first | exact f6 (vf_listed_ne (by decide) h) | rfl, fun h => by first | exact f7 (vf_listed_ne (by decide) h) | rfl, fun h => by first | exact f12 (vf_listed_ne (by decide) h) | rfl, fun h => by first | exact f13 (vf_listed_ne (by decide) h) | rfl, fun h => by have q := o4 (vf_listed_ne (by decide) h); exact ⟨vf_listed_keep q.1, vf_listed_keep q.2⟩, fun h => vf_listed_keep (o5 (vf_listed_ne (by decide) h)), fun h => vf_listed_keep (o6 (vf_listed_ne (by decide) h)), fun h => by have q := o9 (vf_listed_ne (by decide) h); exact ⟨vf_listed_keep q.1, vf_listed_keep q.2⟩, fun h => by have q := o10 (vf_listed_ne (by decide) h); exact ⟨vf_listed_keep q.1, vf_listed_keep q.2⟩, fun h => vf_listed_keep (o11 (vf_listed_ne (by decide) h)), fun h => by have q := o12 (vf_listed_ne (by decide) h); exact ⟨vf_listed_keep q.1, vf_listed_keep q.2⟩, fun h => vf_listed_keep (o13 (vf_listed_ne (by decide) h)), fun h => by have q := o14 (vf_listed_ne (by decide) h); exact ⟨vf_listed_keep q.1, vf_listed_keep q.2⟩, by rw [g8, g9, g10, g11, g14]; exact HVB.out⟩
      · injection ho with ho
        subst ho
        have g8 : (listed.setIfInBounds 3 true).getD 8 false = listed.getD 8 false := getD_set_ne _ (by decide)
        have g9 : (listed.setIfInBounds 3 true).getD 9 false = listed.getD 9 false := getD_set_ne _ (by decide)
        have g10 : (listed.setIfInBounds 3 true).getD 10 false = listed.getD 10 false := getD_set_ne _ (by decide)
        have g11 : (listed.setIfInBounds 3 true).getD 11 false = listed.getD 11 false := getD_set_ne _ (by decide)
        have g14 : (listed.setIfInBounds 3 true).getD 14 false = listed.getD 14 false := getD_set_ne _ (by decide)
        have HVB := Lib.hid hvb
        clear hi hdep hvb
        refine vf_wpOpP_of rfl rfl ?_
        go_simp
        exact hK _ _ ⟨_, _, _, (.int .i64 (k : Int)), _, _, _, _, _, _, _, _, _, _, rfl, by simpa using hsz, fun h => by first | exact f0 (vf_listed_ne (by decide) h) | rfl, fun h => by first | exact f1 (vf_listed_ne (by decide) h) | rfl, fun h => by first | exact f2 (vf_listed_ne (by decide) h) | rfl, fun _ => rfl, fun h => by first | exact f4 (vf_listed_ne (by decide) h) | rfl, fun h => by first | exact f5 (vf_listed_ne (by decide) h) | rfl, fun h => by first | exact f6 (vf_listed_ne (by decide) h) | rfl, fun h => by first | exact f7 (vf_listed_ne (by decide) h) | rfl, fun h => by first | exact f12 (vf_listed_ne (by decide) h) | rfl, fun h => by first | exact f13 (vf_listed_ne (by decide) h) | rfl, fun h => by have q := o4 (vf_listed_ne (by decide) h); exact ⟨vf_listed_keep q.1, vf_listed_keep q.2⟩, fun h => vf_listed_keep (o5 (vf_listed_ne (by decide) h)), fun h => vf_listed_keep (o6 (vf_listed_ne (by decide) h)), fun h => by have q := o9 (vf_listed_ne (by decide) h); exact ⟨vf_listed_keep q.1, vf_listed_keep q.2⟩, fun h => by have q := o10 (vf_listed_ne (by decide) h); exact ⟨vf_listed_keep q.1, vf_listed_keep q.2⟩, fun h => vf_listed_keep (o11 (vf_listed_ne (by decide) h)), fun h => by have q := o12 (vf_listed_ne (by decide) h); exact ⟨vf_listed_keep q.1, vf_listed_keep q.2⟩, fun h => vf_listed_keep (o13 (vf_listed_ne (by decide) h)), fun h => by have q := o14 (vf_listed_ne (by decide) h); exact ⟨vf_listed_keep q.1, vf_listed_keep q.2⟩, by rw [g8, g9, g10, g11, g14]; exact HVB.out⟩
      · injection ho with ho
        subst ho
        have d2 := hdep ⟨2, .data⟩ (by simp) rfl
        have d3 := hdep ⟨3, .data⟩ (by simp) rfl
        have g8 : (listed.setIfInBounds 4 true).getD 8 false = listed.getD 8 false := getD_set_ne _ (by decide)
        have g9 : (listed.setIfInBounds 4 true).getD 9 false = listed.getD 9 false := getD_set_ne _ (by decide)
        have g10 : (listed.setIfInBounds 4 true).getD 10 false = listed.getD 10 false := getD_set_ne _ (by decide)
        have g11 : (listed.setIfInBounds 4 true).getD 11 false = listed.getD 11 false := getD_set_ne _ (by decide)
        have g14 : (listed.setIfInBounds 4 true).getD 14 false = listed.getD 14 false := getD_set_ne _ (by decide)
        obtain rfl := f2 d2
        obtain rfl := f3 d3
        have HVB := Lib.hid hvb
        clear hi hdep hvb
        refine vf_wpOpP_of rfl rfl ?_
        go_simp
        exact hK _ _ ⟨_, _, _, _, (.pointer (some ⟨g, k * 5, none⟩)), _, _, _, _, _, _, _, _, _, rfl, by simpa using hsz, fun h => by first | exact f0 (vf_listed_ne (by decide) h) | rfl, fun h => by first | exact f1 (vf_listed_ne (by decide) h) | rfl, fun h => by first | exact f2 (vf_listed_ne (by decide) h) | rfl, fun h => by first | exact f3 (vf_listed_ne (by decide) h) | rfl, fun _ => rfl, fun h => by first | exact f5 (vf_listed_ne (by decide) h) | rfl, fun h => by first | exact f6 (vf_listed_ne (by decide) h) | rfl, fun h => by first | exact f7 (vf_listed_ne (by decide) h) | rfl, fun h => by first | exact f12 (vf_listed_ne (by decide) h) | rfl, fun h => by first | exact f13 (vf_listed_ne (by decide) h) | rfl, fun _ => ⟨vf_listed_keep d2, vf_listed_keep d3⟩, fun h => vf_listed_keep (o5 (vf_listed_ne (by decide) h)), fun h => vf_listed_keep (o6 (vf_listed_ne (by decide) h)), fun h => by have q := o9 (vf_listed_ne (by decide) h); exact ⟨vf_listed_keep q.1, vf_listed_keep q.2⟩, fun h => by have q := o10 (vf_listed_ne (by decide) h); exact ⟨vf_listed_keep q.1, vf_listed_keep q.2⟩, fun h => vf_listed_keep (o11 (vf_listed_ne (by decide) h)), fun h => by have q := o12 (vf_listed_ne (by decide) h); exact ⟨vf_listed_keep q.1, vf_listed_keep q.2⟩, fun h => vf_listed_keep (o13 (vf_listed_ne (by decide) h)), fun h => by have q := o14 (vf_listed_ne (by decide) h); exact ⟨vf_listed_keep q.1, vf_listed_keep q.2⟩, by rw [g8, g9, g10, g11, g14]; exact HVB.out⟩
      · injection ho with ho
        subst ho
        have d4 := hdep ⟨4, .data⟩ (by simp) rfl
        have g8 : (listed.setIfInBounds 5 true).getD 8 false = listed.getD 8 false := getD_set_ne _ (by decide)
        have g9 : (listed.setIfInBounds 5 true).getD 9 false = listed.getD 9 false := getD_set_ne _ (by decide)
        have g10 : (listed.setIfInBounds 5 true).getD 10 false = listed.getD 10 false := getD_set_ne _ (by decide)
        have g11 : (listed.setIfInBounds 5 true).getD 11 false = listed.getD 11 false := getD_set_ne _ (by decide)
        have g14 : (listed.setIfInBounds 5 true).getD 14 false = listed.getD 14 false := getD_set_ne _ (by decide)
        obtain rfl := f4 d4
        have HVB := Lib.hid hvb
        clear hi hdep hvb
        refine vf_wpOpP_of rfl rfl ?_
        go_simp
        exact hK _ _ ⟨_, _, _, _, _, (.pointer (some ⟨g, k * 5 + 2, none⟩)), _, _, _, _, _, _, _, _, rfl, by simpa using hsz, fun h => by first | exact f0 (vf_listed_ne (by decide) h) | rfl, fun h => by first | exact f1 (vf_listed_ne (by decide) h) | rfl, fun h => by first | exact f2 (vf_listed_ne (by decide) h) | rfl, fun h => by first | exact f3 (vf_listed_ne (by decide) h) | rfl, fun h => by first | exact f4 (vf_listed_ne (by decide) h) | rfl, fun _ => rfl, fun h => by first | exact f6 (vf_listed_ne (by decide) h) | rfl, fun h => by first | exact f7 (vf_listed_ne (by decide) h) | rfl, fun h => by first | exact f12 (vf_listed_ne (by decide) h) | rfl, fun h => by first | exact f13 (vf_listed_ne (by decide) h) | rfl, fun h => by have q := o4 (vf_listed_ne (by decide) h); exact ⟨vf_listed_keep q.1, vf_listed_keep q.2⟩, fun _ => vf_listed_keep d4, fun h => vf_listed_keep (o6 (vf_listed_ne (by decide) h)), fun h => by have q := o9 (vf_listed_ne (by decide) h); exact ⟨vf_listed_keep q.1, vf_listed_keep q.2⟩, fun h => by have q := o10 (vf_listed_ne (by decide) h); exact ⟨vf_listed_keep q.1, vf_listed_keep q.2⟩, fun h => vf_listed_keep (o11 (vf_listed_ne (by decide) h)), fun h => by have q := o12 (vf_listed_ne (by decide) h); exact ⟨vf_listed_keep q.1, vf_listed_keep q.2⟩, fun h => vf_listed_keep (o13 (vf_listed_ne (by decide) h)), fun h => by have q := o14 (vf_listed_ne (by decide) h); exact ⟨vf_listed_keep q.1, vf_listed_keep q.2⟩, by rw [g8, g9, g10, g11, g14]; exact HVB.out⟩
      · injection ho with ho
        subst ho
        have d5 := hdep ⟨5, .data⟩ (by simp) rfl
        have g8 : (listed.setIfInBounds 6 true).getD 8 false = listed.getD 8 false := getD_set_ne _ (by decide)
        have g9 : (listed.setIfInBounds 6 true).getD 9 false = listed.getD 9 false := getD_set_ne _ (by decide)
        have g10 : (listed.setIfInBounds 6 true).getD 10 false = listed.getD 10 false := getD_set_ne _ (by decide)
        have g11 : (listed.setIfInBounds 6 true).getD 11 false = listed.getD 11 false := getD_set_ne _ (by decide)
        have g14 : (listed.setIfInBounds 6 true).getD 14 false = listed.getD 14 false := getD_set_ne _ (by decide)
        obtain rfl := f5 d5
        have n14 : listed.getD 14 false = false := by
          cases h : listed.getD 14 false with
          | false => rfl
          | true => have q := (o10 (o11 (o14 h).1)).1; rw [hno] at q; cases q
        rw [n14] at hvb
        have kg := hvb.keep hgs hg1
        have k6 : w'.cell? ⟨g, k * 5 + 2, none⟩ = some (.int .i64 x2) := by rw [cellOfHeap kg]; exact hpc2
        have HVB := Lib.hid hvb
        clear hi hdep hvb
        refine vf_wpOpP_of rfl rfl ?_
        go_simp
        exact hK _ _ ⟨_, _, _, _, _, _, (.int .i64 x2), _, _, _, _, _, _, _, rfl, by simpa using hsz, fun h => by first | exact f0 (vf_listed_ne (by decide) h) | rfl, fun h => by first | exact f1 (vf_listed_ne (by decide) h) | rfl, fun h => by first | exact f2 (vf_listed_ne (by decide) h) | rfl, fun h => by first | exact f3 (vf_listed_ne (by decide) h) | rfl, fun h => by first | exact f4 (vf_listed_ne (by decide) h) | rfl, fun h => by first | exact f5 (vf_listed_ne (by decide) h) | rfl, fun _ => rfl, fun h => by first | exact f7 (vf_listed_ne (by decide) h) | rfl, fun h => by first | exact f12 (vf_listed_ne (by decide) h) | rfl, fun h => by first | exact f13 (vf_listed_ne (by decide) h) | rfl, fun h => by have q := o4 (vf_listed_ne (by decide) h); exact ⟨vf_listed_keep q.1, vf_listed_keep q.2⟩, fun h => vf_listed_keep (o5 (vf_listed_ne (by decide) h)), fun _ => vf_listed_keep d5, fun h => by have q := o9 (vf_listed_ne (by decide) h); exact ⟨vf_listed_keep q.1, vf_listed_keep q.2⟩, fun h => by have q := o10 (vf_listed_ne (by decide) h); exact ⟨vf_listed_keep q.1, vf_listed_keep q.2⟩, fun h => vf_listed_keep (o11 (vf_listed_ne (by decide) h)), fun h => by have q := o12 (vf_listed_ne (by decide) h); exact ⟨vf_listed_keep q.1, vf_listed_keep q.2⟩, fun h => vf_listed_keep (o13 (vf_listed_ne (by decide) h)), fun h => by have q := o14 (vf_listed_ne (by decide) h); exact ⟨vf_listed_keep q.1, vf_listed_keep q.2⟩, by rw [g8, g9, g10, g11, g14, n14]; exact HVB.out⟩
      · injection ho with ho
        subst ho
        have g8 : (listed.setIfInBounds 7 true).getD 8 false = listed.getD 8 false := getD_set_ne _ (by decide)
        have g9 : (listed.setIfInBounds 7 true).getD 9 false = listed.getD 9 false := getD_set_ne _ (by decide)
        have g10 : (listed.setIfInBounds 7 true).getD 10 false = listed.getD 10 false := getD_set_ne _ (by decide)
        have g11 : (listed.setIfInBounds 7 true).getD 11 false = listed.getD 11 false := getD_set_ne _ (by decide)
        have g14 : (listed.setIfInBounds 7 true).getD 14 false = listed.getD 14 false := getD_set_ne _ (by decide)
        have HVB := Lib.hid hvb
        clear hi hdep hvb
        refine vf_wpOpP_of rfl rfl ?_
        go_simp
        exact hK _ _ ⟨_, _, _, _, _, _, _, (.pointer (some ⟨sb, 0, none⟩)), _, _, _, _, _, _, rfl, by simpa using hsz, fun h => by first | exact f0 (vf_listed_ne (by decide) h) | rfl, fun h => by first | exact f1 (vf_listed_ne (by decide) h) | rfl, fun h => by first | exact f2 (vf_listed_ne (by decide) h) | rfl, fun h => by first | exact f3 (vf_listed_ne (by decide) h) | rfl, fun h => by first | exact f4 (vf_listed_ne (by decide) h) | rfl, fun h => by first | exact f5 (vf_listed_ne (by decide) h) | rfl, fun h => by first | exact f6 (vf_listed_ne (by decide) h) | rfl, fun _ => rfl, fun h => by first | exact f12 (vf_listed_ne (by decide) h) | rfl, fun h => by first | exact f13 (vf_listed_ne (by decide) h) | rfl, fun h => by have q := o4 (vf_listed_ne (by decide) h); exact ⟨vf_listed_keep q.1, vf_listed_keep q.2⟩, fun h => vf_listed_keep (o5 (vf_listed_ne (by decide) h)), fun h => vf_listed_keep (o6 (vf_listed_ne (by decide) h)), fun h => by have q := o9 (vf_listed_ne (by decide) h); exact ⟨vf_listed_keep q.1, vf_listed_keep q.2⟩, fun h => by have q := o10 (vf_listed_ne (by decide) h); exact ⟨vf_listed_keep q.1, vf_listed_keep q.2⟩, fun h => vf_listed_keep (o11 (vf_listed_ne (by decide) h)), fun h => by have q := o12 (vf_listed_ne (by decide) h); exact ⟨vf_listed_keep q.1, vf_listed_keep q.2⟩, fun h => vf_listed_keep (o13 (vf_listed_ne (by decide) h)), fun h => by have q := o14 (vf_listed_ne (by decide) h); exact ⟨vf_listed_keep q.1, vf_listed_keep q.2⟩, by rw [g8, g9, g10, g11, g14]; exact HVB.out⟩
      · injection ho with ho
        subst ho
        have g8 : (listed.setIfInBounds 8 true).getD 8 false = true := hself
        have g9 : (listed.setIfInBounds 8 true).getD 9 false = listed.getD 9 false := getD_set_ne _ (by decide)
        have g10 : (listed.setIfInBounds 8 true).getD 10 false = listed.getD 10 false := getD_set_ne _ (by decide)
        have g11 : (listed.setIfInBounds 8 true).getD 11 false = listed.getD 11 false := getD_set_ne _ (by decide)
        have g14 : (listed.setIfInBounds 8 true).getD 14 false = listed.getD 14 false := getD_set_ne _ (by decide)
        have n9 : listed.getD 9 false = false := by
          cases h : listed.getD 9 false with
          | false => rfl
          | true => have q := (o9 h).2; rw [hno] at q; cases q
        have n14 : listed.getD 14 false = false := by
          cases h : listed.getD 14 false with
          | false => rfl
          | true => have q := (o9 (o10 (o11 (o14 h).1)).2).2; rw [hno] at q; cases q
        rw [n9, n14, hno] at hvb
        have HVB := Lib.hid hvb
        clear hi hdep hvb
        refine vf_wpOpP_of rfl rfl ?_
        go_simp
        exact hK _ _ ⟨_, _, _, _, _, _, _, _, _, _, _, _, _, _, rfl, by simpa using hsz, fun h => by first | exact f0 (vf_listed_ne (by decide) h) | rfl, fun h => by first | exact f1 (vf_listed_ne (by decide) h) | rfl, fun h => by first | exact f2 (vf_listed_ne (by decide) h) | rfl, fun h => by first | exact f3 (vf_listed_ne (by decide) h) | rfl, fun h => by first | exact f4 (vf_listed_ne (by decide) h) | rfl, fun h => by first | exact f5 (vf_listed_ne (by decide) h) | rfl, fun h => by first | exact f6 (vf_listed_ne (by decide) h) | rfl, fun h => by first | exact f7 (vf_listed_ne (by decide) h) | rfl, fun h => by first | exact f12 (vf_listed_ne (by decide) h) | rfl, fun h => by first | exact f13 (vf_listed_ne (by decide) h) | rfl, fun h => by have q := o4 (vf_listed_ne (by decide) h); exact ⟨vf_listed_keep q.1, vf_listed_keep q.2⟩, fun h => vf_listed_keep (o5 (vf_listed_ne (by decide) h)), fun h => vf_listed_keep (o6 (vf_listed_ne (by decide) h)), fun h => by have q := o9 (vf_listed_ne (by decide) h); exact ⟨vf_listed_keep q.1, vf_listed_keep q.2⟩, fun h => by have q := o10 (vf_listed_ne (by decide) h); exact ⟨vf_listed_keep q.1, vf_listed_keep q.2⟩, fun h => vf_listed_keep (o11 (vf_listed_ne (by decide) h)), fun h => by have q := o12 (vf_listed_ne (by decide) h); exact ⟨vf_listed_keep q.1, vf_listed_keep q.2⟩, fun h => vf_listed_keep (o13 (vf_listed_ne (by decide) h)), fun h => by have q := o14 (vf_listed_ne (by decide) h); exact ⟨vf_listed_keep q.1, vf_listed_keep q.2⟩, by rw [g8, g9, g10, g11, g14, n9, n14]; exact HVB.out.built _⟩
      · injection ho with ho
        subst ho
        have d7 := hdep ⟨7, .data⟩ (by simp) rfl
        have d8 := hdep ⟨8, .data⟩ (by simp) rfl
        have g8 : (listed.setIfInBounds 9 true).getD 8 false = listed.getD 8 false := getD_set_ne _ (by decide)
        have g9 : (listed.setIfInBounds 9 true).getD 9 false = true := hself
        have g10 : (listed.setIfInBounds 9 true).getD 10 false = listed.getD 10 false := getD_set_ne _ (by decide)
        have g11 : (listed.setIfInBounds 9 true).getD 11 false = listed.getD 11 false := getD_set_ne _ (by decide)
        have g14 : (listed.setIfInBounds 9 true).getD 14 false = listed.getD 14 false := getD_set_ne _ (by decide)
        obtain rfl := f7 d7
        have n14 : listed.getD 14 false = false := by
          cases h : listed.getD 14 false with
          | false => rfl
          | true => have q := (o10 (o11 (o14 h).1)).2; rw [hno] at q; cases q
        rw [n14, d8, hno] at hvb
        obtain ⟨-, gq, rfl, hgq, e0, e1, e2⟩ := hvb.bld rfl rfl
        have hsq := (hvb.pre rfl).1
        have HVB := Lib.hid hvb
        clear hi hdep hvb
        refine vf_wpOpP_of rfl rfl ?_
        go_simp
        refine (pick_any sb gq [1, 500, 2000] 3 3 _ hsq hgq (by decide) (by decide) rfl (fun i h => by match i, h with | 0, _ => exact e0 | 1, _ => exact e1 | 2, _ => exact e2)).mono ?_
        rintro e w9 ⟨δ, hδ, rfl, hS9, hG9⟩
        exact hK _ _ ⟨_, _, _, _, _, _, _, _, _, _, _, _, _, _, rfl, by simpa using hsz, fun h => by first | exact f0 (vf_listed_ne (by decide) h) | rfl, fun h => by first | exact f1 (vf_listed_ne (by decide) h) | rfl, fun h => by first | exact f2 (vf_listed_ne (by decide) h) | rfl, fun h => by first | exact f3 (vf_listed_ne (by decide) h) | rfl, fun h => by first | exact f4 (vf_listed_ne (by decide) h) | rfl, fun h => by first | exact f5 (vf_listed_ne (by decide) h) | rfl, fun h => by first | exact f6 (vf_listed_ne (by decide) h) | rfl, fun h => by first | exact f7 (vf_listed_ne (by decide) h) | rfl, fun h => by first | exact f12 (vf_listed_ne (by decide) h) | rfl, fun h => by first | exact f13 (vf_listed_ne (by decide) h) | rfl, fun h => by have q := o4 (vf_listed_ne (by decide) h); exact ⟨vf_listed_keep q.1, vf_listed_keep q.2⟩, fun h => vf_listed_keep (o5 (vf_listed_ne (by decide) h)), fun h => vf_listed_keep (o6 (vf_listed_ne (by decide) h)), fun _ => ⟨vf_listed_keep d7, vf_listed_keep d8⟩, fun h => by have q := o10 (vf_listed_ne (by decide) h); exact ⟨vf_listed_keep q.1, vf_listed_keep q.2⟩, fun h => vf_listed_keep (o11 (vf_listed_ne (by decide) h)), fun h => by have q := o12 (vf_listed_ne (by decide) h); exact ⟨vf_listed_keep q.1, vf_listed_keep q.2⟩, fun h => vf_listed_keep (o13 (vf_listed_ne (by decide) h)), fun h => by have q := o14 (vf_listed_ne (by decide) h); exact ⟨vf_listed_keep q.1, vf_listed_keep q.2⟩, by rw [g8, g9, g10, g11, g14, n14, d8]; exact HVB.out.called hδ hS9 hG9⟩
      · injection ho with ho
        subst ho
        have d6 := hdep ⟨6, .data⟩ (by simp) rfl
        have d9 := hdep ⟨9, .data⟩ (by simp) rfl
        have g8 : (listed.setIfInBounds 10 true).getD 8 false = listed.getD 8 false := getD_set_ne _ (by decide)
        have g9 : (listed.setIfInBounds 10 true).getD 9 false = listed.getD 9 false := getD_set_ne _ (by decide)
        have g10 : (listed.setIfInBounds 10 true).getD 10 false = true := hself
        have g11 : (listed.setIfInBounds 10 true).getD 11 false = listed.getD 11 false := getD_set_ne _ (by decide)
        have g14 : (listed.setIfInBounds 10 true).getD 14 false = listed.getD 14 false := getD_set_ne _ (by decide)
        obtain rfl := f6 d6
        rw [d9, hno] at hvb
        obtain ⟨δ, δ0, δ1, rfl⟩ := hvb.cal rfl
        obtain ⟨hw1, hi1⟩ := wzM (x2 + δ) (by omega)
        have HVB := Lib.hid hvb
        clear hi hdep hvb
        refine vf_wpOpP_of rfl rfl ?_
        go_simp
        exact hK _ _ ⟨_, _, _, _, _, _, _, _, _, _, _, _, _, _, rfl, by simpa using hsz, fun h => by first | exact f0 (vf_listed_ne (by decide) h) | rfl, fun h => by first | exact f1 (vf_listed_ne (by decide) h) | rfl, fun h => by first | exact f2 (vf_listed_ne (by decide) h) | rfl, fun h => by first | exact f3 (vf_listed_ne (by decide) h) | rfl, fun h => by first | exact f4 (vf_listed_ne (by decide) h) | rfl, fun h => by first | exact f5 (vf_listed_ne (by decide) h) | rfl, fun h => by first | exact f6 (vf_listed_ne (by decide) h) | rfl, fun h => by first | exact f7 (vf_listed_ne (by decide) h) | rfl, fun h => by first | exact f12 (vf_listed_ne (by decide) h) | rfl, fun h => by first | exact f13 (vf_listed_ne (by decide) h) | rfl, fun h => by have q := o4 (vf_listed_ne (by decide) h); exact ⟨vf_listed_keep q.1, vf_listed_keep q.2⟩, fun h => vf_listed_keep (o5 (vf_listed_ne (by decide) h)), fun h => vf_listed_keep (o6 (vf_listed_ne (by decide) h)), fun h => by have q := o9 (vf_listed_ne (by decide) h); exact ⟨vf_listed_keep q.1, vf_listed_keep q.2⟩, fun _ => ⟨vf_listed_keep d6, vf_listed_keep d9⟩, fun h => vf_listed_keep (o11 (vf_listed_ne (by decide) h)), fun h => by have q := o12 (vf_listed_ne (by decide) h); exact ⟨vf_listed_keep q.1, vf_listed_keep q.2⟩, fun h => vf_listed_keep (o13 (vf_listed_ne (by decide) h)), fun h => by have q := o14 (vf_listed_ne (by decide) h); exact ⟨vf_listed_keep q.1, vf_listed_keep q.2⟩, by rw [g8, g9, g10, g11, g14, d9]; exact HVB.out.added δ0 δ1⟩
      · injection ho with ho
        subst ho
        have d10 := hdep ⟨10, .data⟩ (by simp) rfl
        have g8 : (listed.setIfInBounds 11 true).getD 8 false = listed.getD 8 false := getD_set_ne _ (by decide)
        have g9 : (listed.setIfInBounds 11 true).getD 9 false = listed.getD 9 false := getD_set_ne _ (by decide)
        have g10 : (listed.setIfInBounds 11 true).getD 10 false = listed.getD 10 false := getD_set_ne _ (by decide)
        have g11 : (listed.setIfInBounds 11 true).getD 11 false = true := hself
        have g14 : (listed.setIfInBounds 11 true).getD 14 false = listed.getD 14 false := getD_set_ne _ (by decide)
        rw [d10, hno] at hvb
        obtain ⟨δ, δ0, δ1, rfl⟩ := hvb.add rfl
        obtain ⟨Q, hQ, hQ1, hQ2⟩ : ∃ Q, (if 200000 < x2 + δ then 200000 else x2 + δ) = Q ∧ x2 ≤ Q ∧ Q ≤ 200000 := ⟨_, rfl, by split <;> omega, by split <;> omega⟩
        have HVB := Lib.hid hvb
        clear hi hdep hvb
        refine vf_wpOpP_of rfl rfl ?_
        go_simp
        exact hK _ _ ⟨_, _, _, _, _, _, _, _, _, _, _, _, _, _, rfl, by simpa using hsz, fun h => by first | exact f0 (vf_listed_ne (by decide) h) | rfl, fun h => by first | exact f1 (vf_listed_ne (by decide) h) | rfl, fun h => by first | exact f2 (vf_listed_ne (by decide) h) | rfl, fun h => by first | exact f3 (vf_listed_ne (by decide) h) | rfl, fun h => by first | exact f4 (vf_listed_ne (by decide) h) | rfl, fun h => by first | exact f5 (vf_listed_ne (by decide) h) | rfl, fun h => by first | exact f6 (vf_listed_ne (by decide) h) | rfl, fun h => by first | exact f7 (vf_listed_ne (by decide) h) | rfl, fun h => by first | exact f12 (vf_listed_ne (by decide) h) | rfl, fun h => by first | exact f13 (vf_listed_ne (by decide) h) | rfl, fun h => by have q := o4 (vf_listed_ne (by decide) h); exact ⟨vf_listed_keep q.1, vf_listed_keep q.2⟩, fun h => vf_listed_keep (o5 (vf_listed_ne (by decide) h)), fun h => vf_listed_keep (o6 (vf_listed_ne (by decide) h)), fun h => by have q := o9 (vf_listed_ne (by decide) h); exact ⟨vf_listed_keep q.1, vf_listed_keep q.2⟩, fun h => by have q := o10 (vf_listed_ne (by decide) h); exact ⟨vf_listed_keep q.1, vf_listed_keep q.2⟩, fun _ => vf_listed_keep d10, fun h => by have q := o12 (vf_listed_ne (by decide) h); exact ⟨vf_listed_keep q.1, vf_listed_keep q.2⟩, fun h => vf_listed_keep (o13 (vf_listed_ne (by decide) h)), fun h => by have q := o14 (vf_listed_ne (by decide) h); exact ⟨vf_listed_keep q.1, vf_listed_keep q.2⟩, by rw [g8, g9, g10, g11, g14, d10]; exact HVB.out.mined hQ1 hQ2⟩
      · injection ho with ho
        subst ho
        have d0 := hdep ⟨0, .data⟩ (by simp) rfl
        have d1 := hdep ⟨1, .data⟩ (by simp) rfl
        have g8 : (listed.setIfInBounds 12 true).getD 8 false = listed.getD 8 false := getD_set_ne _ (by decide)
        have g9 : (listed.setIfInBounds 12 true).getD 9 false = listed.getD 9 false := getD_set_ne _ (by decide)
        have g10 : (listed.setIfInBounds 12 true).getD 10 false = listed.getD 10 false := getD_set_ne _ (by decide)
        have g11 : (listed.setIfInBounds 12 true).getD 11 false = listed.getD 11 false := getD_set_ne _ (by decide)
        have g14 : (listed.setIfInBounds 12 true).getD 14 false = listed.getD 14 false := getD_set_ne _ (by decide)
        obtain rfl := f0 d0
        obtain rfl := f1 d1
        have HVB := Lib.hid hvb
        clear hi hdep hvb
        refine vf_wpOpP_of rfl rfl ?_
        go_simp
        exact hK _ _ ⟨_, _, _, _, _, _, _, _, _, _, _, _, (.pointer (some ⟨g, k * 5, none⟩)), _, rfl, by simpa using hsz, fun h => by first | exact f0 (vf_listed_ne (by decide) h) | rfl, fun h => by first | exact f1 (vf_listed_ne (by decide) h) | rfl, fun h => by first | exact f2 (vf_listed_ne (by decide) h) | rfl, fun h => by first | exact f3 (vf_listed_ne (by decide) h) | rfl, fun h => by first | exact f4 (vf_listed_ne (by decide) h) | rfl, fun h => by first | exact f5 (vf_listed_ne (by decide) h) | rfl, fun h => by first | exact f6 (vf_listed_ne (by decide) h) | rfl, fun h => by first | exact f7 (vf_listed_ne (by decide) h) | rfl, fun _ => rfl, fun h => by first | exact f13 (vf_listed_ne (by decide) h) | rfl, fun h => by have q := o4 (vf_listed_ne (by decide) h); exact ⟨vf_listed_keep q.1, vf_listed_keep q.2⟩, fun h => vf_listed_keep (o5 (vf_listed_ne (by decide) h)), fun h => vf_listed_keep (o6 (vf_listed_ne (by decide) h)), fun h => by have q := o9 (vf_listed_ne (by decide) h); exact ⟨vf_listed_keep q.1, vf_listed_keep q.2⟩, fun h => by have q := o10 (vf_listed_ne (by decide) h); exact ⟨vf_listed_keep q.1, vf_listed_keep q.2⟩, fun h => vf_listed_keep (o11 (vf_listed_ne (by decide) h)), fun _ => ⟨vf_listed_keep d0, vf_listed_keep d1⟩, fun h => vf_listed_keep (o13 (vf_listed_ne (by decide) h)), fun h => by have q := o14 (vf_listed_ne (by decide) h); exact ⟨vf_listed_keep q.1, vf_listed_keep q.2⟩, by rw [g8, g9, g10, g11, g14]; exact HVB.out⟩
      · injection ho with ho
        subst ho
        have d12 := hdep ⟨12, .data⟩ (by simp) rfl
        have g8 : (listed.setIfInBounds 13 true).getD 8 false = listed.getD 8 false := getD_set_ne _ (by decide)
        have g9 : (listed.setIfInBounds 13 true).getD 9 false = listed.getD 9 false := getD_set_ne _ (by decide)
        have g10 : (listed.setIfInBounds 13 true).getD 10 false = listed.getD 10 false := getD_set_ne _ (by decide)
        have g11 : (listed.setIfInBounds 13 true).getD 11 false = listed.getD 11 false := getD_set_ne _ (by decide)
        have g14 : (listed.setIfInBounds 13 true).getD 14 false = listed.getD 14 false := getD_set_ne _ (by decide)
        obtain rfl := f12 d12
        have HVB := Lib.hid hvb
        clear hi hdep hvb
        refine vf_wpOpP_of rfl rfl ?_
        go_simp
        exact hK _ _ ⟨_, _, _, _, _, _, _, _, _, _, _, _, _, (.pointer (some ⟨g, k * 5 + 2, none⟩)), rfl, by simpa using hsz, fun h => by first | exact f0 (vf_listed_ne (by decide) h) | rfl, fun h => by first | exact f1 (vf_listed_ne (by decide) h) | rfl, fun h => by first | exact f2 (vf_listed_ne (by decide) h) | rfl, fun h => by first | exact f3 (vf_listed_ne (by decide) h) | rfl, fun h => by first | exact f4 (vf_listed_ne (by decide) h) | rfl, fun h => by first | exact f5 (vf_listed_ne (by decide) h) | rfl, fun h => by first | exact f6 (vf_listed_ne (by decide) h) | rfl, fun h => by first | exact f7 (vf_listed_ne (by decide) h) | rfl, fun h => by first | exact f12 (vf_listed_ne (by decide) h) | rfl, fun _ => rfl, fun h => by have q := o4 (vf_listed_ne (by decide) h); exact ⟨vf_listed_keep q.1, vf_listed_keep q.2⟩, fun h => vf_listed_keep (o5 (vf_listed_ne (by decide) h)), fun h => vf_listed_keep (o6 (vf_listed_ne (by decide) h)), fun h => by have q := o9 (vf_listed_ne (by decide) h); exact ⟨vf_listed_keep q.1, vf_listed_keep q.2⟩, fun h => by have q := o10 (vf_listed_ne (by decide) h); exact ⟨vf_listed_keep q.1, vf_listed_keep q.2⟩, fun h => vf_listed_keep (o11 (vf_listed_ne (by decide) h)), fun h => by have q := o12 (vf_listed_ne (by decide) h); exact ⟨vf_listed_keep q.1, vf_listed_keep q.2⟩, fun _ => vf_listed_keep d12, fun h => by have q := o14 (vf_listed_ne (by decide) h); exact ⟨vf_listed_keep q.1, vf_listed_keep q.2⟩, by rw [g8, g9, g10, g11, g14]; exact HVB.out⟩
      · injection ho with ho
        subst ho
        have d11 := hdep ⟨11, .data⟩ (by simp) rfl
        have d13 := hdep ⟨13, .data⟩ (by simp) rfl
        have g8 : (listed.setIfInBounds 14 true).getD 8 false = listed.getD 8 false := getD_set_ne _ (by decide)
        have g9 : (listed.setIfInBounds 14 true).getD 9 false = listed.getD 9 false := getD_set_ne _ (by decide)
        have g10 : (listed.setIfInBounds 14 true).getD 10 false = listed.getD 10 false := getD_set_ne _ (by decide)
        have g11 : (listed.setIfInBounds 14 true).getD 11 false = listed.getD 11 false := getD_set_ne _ (by decide)
        have g14 : (listed.setIfInBounds 14 true).getD 14 false = true := hself
        obtain rfl := f13 d13
        have d9 := (o10 (o11 d11)).2
        have d10 := o11 d11
        rw [d11, d9, d10, hno] at hvb
        obtain ⟨q, q0, q1, rfl⟩ := hvb.min rfl
        have kg := hvb.keep hgs hg1
        have k14 : w'.cell? ⟨g, k * 5 + 2, none⟩ = some (.int .i64 x2) := by rw [cellOfHeap kg]; exact hpc2
        have kf : w'.frozen? ⟨g, k * 5 + 2, none⟩ = false := by rw [frozenOfHeap kg]; exact hfz2
        have kz : g < w'.heap.size := Nat.lt_of_lt_of_le hg1 (hvb.pre rfl).2.size
        have HVB := Lib.hid hvb
        clear hi hdep hvb
        refine vf_wpOpP_of rfl rfl ?_
        go_simp
        exact hK _ _ ⟨_, _, _, _, _, _, _, _, _, _, _, _, _, _, rfl, by simpa using hsz, fun h => by first | exact f0 (vf_listed_ne (by decide) h) | rfl, fun h => by first | exact f1 (vf_listed_ne (by decide) h) | rfl, fun h => by first | exact f2 (vf_listed_ne (by decide) h) | rfl, fun h => by first | exact f3 (vf_listed_ne (by decide) h) | rfl, fun h => by first | exact f4 (vf_listed_ne (by decide) h) | rfl, fun h => by first | exact f5 (vf_listed_ne (by decide) h) | rfl, fun h => by first | exact f6 (vf_listed_ne (by decide) h) | rfl, fun h => by first | exact f7 (vf_listed_ne (by decide) h) | rfl, fun h => by first | exact f12 (vf_listed_ne (by decide) h) | rfl, fun h => by first | exact f13 (vf_listed_ne (by decide) h) | rfl, fun h => by have q := o4 (vf_listed_ne (by decide) h); exact ⟨vf_listed_keep q.1, vf_listed_keep q.2⟩, fun h => vf_listed_keep (o5 (vf_listed_ne (by decide) h)), fun h => vf_listed_keep (o6 (vf_listed_ne (by decide) h)), fun h => by have q := o9 (vf_listed_ne (by decide) h); exact ⟨vf_listed_keep q.1, vf_listed_keep q.2⟩, fun h => by have q := o10 (vf_listed_ne (by decide) h); exact ⟨vf_listed_keep q.1, vf_listed_keep q.2⟩, fun h => vf_listed_keep (o11 (vf_listed_ne (by decide) h)), fun h => by have q := o12 (vf_listed_ne (by decide) h); exact ⟨vf_listed_keep q.1, vf_listed_keep q.2⟩, fun h => vf_listed_keep (o13 (vf_listed_ne (by decide) h)), fun _ => ⟨vf_listed_keep d11, vf_listed_keep d13⟩, by rw [g8, g9, g10, g11, g14, d11, d9, d10]; exact HVB.out.stored ⟨q0, q1⟩ hgs hg1 hg0 hsbV HO5.out HN.out HS5.out HX.out rfl⟩
    case fin =>
      rintro listed a' w' ⟨t48, t49, t50, t51, t52, t53, t54, t55, t56, t57, t58, t59, t60, t61, rfl, hsz, f0, f1, f2, f3, f4, f5, f6, f7, f12, f13, o4, o5, o6, o9, o10, o11, o12, o13, o14, hvb⟩ hr
      have hfull := vf_ready_full hsz hr (by kernel_rfl)
      obtain rfl := f0 (hfull 0 (by decide))
      obtain rfl := f1 (hfull 1 (by decide))
      obtain rfl := f2 (hfull 2 (by decide))
      obtain rfl := f3 (hfull 3 (by decide))
      obtain rfl := f4 (hfull 4 (by decide))
      obtain rfl := f5 (hfull 5 (by decide))
      obtain rfl := f6 (hfull 6 (by decide))
      obtain rfl := f7 (hfull 7 (by decide))
      obtain rfl := f12 (hfull 12 (by decide))
      obtain rfl := f13 (hfull 13 (by decide))
      rw [hfull 8 (by decide), hfull 9 (by decide), hfull 10 (by decide), hfull 11 (by decide), hfull 14 (by decide)] at hvb
      clear o4 o5 o6 o9 o10 o11 o12 o13 o14 hfull hr hsz
      obtain ⟨q, q0, q1, hs8, hS8, hz8, e1, e2, e3, hfr⟩ := hvb.fin rfl
      replace o0 := (cellOfHeap (hfr _ (by omega) (by omega) (by omega))).trans o0
      replace o1 := (cellOfHeap (hfr _ (by omega) (by omega) (by omega))).trans o1
      replace o2 := (cellOfHeap (hfr _ (by omega) (by omega) (by omega))).trans o2
      replace o3 := (cellOfHeap (hfr _ (by omega) (by omega) (by omega))).trans o3
      replace r0 := (cellOfHeap (hfr _ (by omega) (by omega) (by omega))).trans r0
      replace r1 := (cellOfHeap (hfr _ (by omega) (by omega) (by omega))).trans r1
      replace r2 := (cellOfHeap (hfr _ (by omega) (by omega) (by omega))).trans r2
      have HL8 := Lib.hid (HLV5.out.block hz8 fun b hp hb => hfr b hb (by omega) (by omega))
      have HA8 := Lib.hid (HAV5.out.block hz8 fun b hp hb => hfr b hb (by omega) (by omega))
      have HB8 := Lib.hid (show Below w.heap.size w w' from ⟨e1.trans (HBV5.out.os.trans HB3.out.os), e2.trans (HBV5.out.tape.trans HB3.out.tape), e3.trans (HBV5.out.output.trans HB3.out.output), by have := HBV5.out.size; have := HB3.out.size; omega, fun b hb => (hfr b (by have := HBV5.out.size; have := HB3.out.size; omega) (by omega) (by have := HBV5.out.size; have := HB3.out.size; omega)).trans ((HBV5.out.block b (by have := HB3.out.size; omega)).trans (HB3.out.block b hb))⟩)
      have HU8 := Lib.hid hS8
      clear hvb hs8 hS8 e1 e2 e3 hfr HO5 HS5 HAV5 HLV5 HBV5 HSV5 HBV HB4 hfz2 hpc2
      obtain ⟨w8, hw8⟩ : ∃ u, u = w' := ⟨w', rfl⟩
      subst hw8
      go_upto_region 11 with fail
      have KUq := Lib.hid (KU.out q q0 q1)
      have HMPq := Lib.hid (HMP.out q q0 q1)
      have HA2 := Lib.hid (HAL.out (L.set k ⟨x0, x1, q, x3, false⟩) (by rw [List.length_set]; have := HN.out; omega))
      obtain ⟨C2, hC2⟩ : ∃ x, hdC am le sh (L.set k ⟨x0, x1, q, x3, false⟩) = x := ⟨_, rfl⟩
      obtain ⟨T2, hT2⟩ : ∃ x, hdS am le sh (L.set k ⟨x0, x1, q, x3, false⟩) = x := ⟨_, rfl⟩
      obtain ⟨A2, hA2⟩ : ∃ x, hdA am le sh un (L.set k ⟨x0, x1, q, x3, false⟩) = x := ⟨_, rfl⟩
      rw [hC2, hT2, hA2] at KUq
      rw [hA2] at HMPq HA2
      clear hC2 hT2 hA2 KU HMP
      have zo : w3.heap.size < w8.heap.size := World.block_lt_of_cell? _ _ o0
      go_wp2_with fail
      refine (KUq.out _ _ _ HU8.out).mono ?_
      rintro e w9 ⟨av2, rfl, hw9, hb9⟩
      replace o0 := keepB hb9 o0
      replace o1 := keepB hb9 o1
      replace o2 := keepB hb9 o2
      replace o3 := keepB hb9 o3
      replace r0 := keepB hb9 r0
      replace r1 := keepB hb9 r1
      replace r2 := keepB hb9 r2
      have hA9 : Sl 4 encAwd (fun _ => True) w9 av2 A2 := Sl.own encAwd_len hw9 rfl (fun _ _ => trivial)
      obtain ⟨aa2, m2, ac2, rfl, -, -, -⟩ := hA9.shape
      have HA9 := Lib.hid (HA8.out.below hb9)
      have HU9 := Lib.hid hA9
      have HL9 := Lib.hid (HL8.out.below hb9)
      have HB9 := Lib.hid (HB8.out.trans (hb9.mono HB8.out.size))
      clear hw9 hb9 hA9 zo HA8 HL8 HB8 HU8 KUq
      go_upto_region 12 with fail
      obtain ⟨Y, hY⟩ : ∃ Y, Y = w9.alloc (.cells #[.int .i64 C2, .int .i64 T2, .slice aa2 m2 ac2] 32 (0, 0)) := ⟨_, rfl⟩
      rw [← hY]
      have hbY : Below w9.heap.size w9 Y := by rw [hY]; exact bal brefl _
      have s0 : Y.cell? ⟨w9.heap.size, 0, none⟩ = some (.int .i64 C2) := by rw [hY]; exact World.cell?_alloc_at _ _ _ _ rfl
      have s1 : Y.cell? ⟨w9.heap.size, 1, none⟩ = some (.int .i64 T2) := by rw [hY]; exact World.cell?_alloc_at _ _ _ _ rfl
      have s2 : Y.cell? ⟨w9.heap.size, 2, none⟩ = some (.slice aa2 m2 ac2) := by rw [hY]; exact World.cell?_alloc_at _ _ _ _ rfl
      replace o0 := keepB hbY o0
      replace o1 := keepB hbY o1
      replace o2 := keepB hbY o2
      replace o3 := keepB hbY o3
      replace r0 := keepB hbY r0
      replace r1 := keepB hbY r1
      replace r2 := keepB hbY r2
      have HAY := Lib.hid (HA9.out.below hbY)
      have HUY := Lib.hid (HU9.out.below hbY)
      have HLY := Lib.hid (HL9.out.below hbY)
      have HBY := Lib.hid (HB9.out.trans (hbY.mono HB9.out.size))
      clear hY hbY HA9 HU9 HL9 HB9
      have hsrc : ∀ (j : Nat) (u : Value), (flatE encBid L)[j]? = some u → Y.cell? ⟨bb, off + j, none⟩ = some u := by
        obtain ⟨ao', n', c', q1, q2, q3, q4, q5⟩ := HLY.out
        cases q1
        rcases q5 with q5 | ⟨b', off', q6, -, -, q7⟩
        · omega
        · cases q6
          intro j u hj
          exact flatE_cells encBid_len L off q7 j u hj
      have hbY : bb < Y.heap.size := by
        obtain ⟨ao', n', c', q1, q2, q3, q4, q5⟩ := HLY.out
        cases q1
        rcases q5 with q5 | ⟨b', off', q6, -, q8, q7⟩
        · omega
        · cases q6
          exact q8
      have HSRC := Lib.hid hsrc
      have hnc : n ≤ bc := by
        obtain ⟨ao', n', c', q1, q2, q3, q4, q5⟩ := HLY.out
        cases q1; exact q3
      have hbc : bc ≤ maxLen := by
        obtain ⟨ao', n', c', q1, q2, q3, q4, q5⟩ := HLY.out
        cases q1; exact q4
      clear hsrc
      obtain ⟨oo, hoo, hooL⟩ : ∃ oo, (if bc = k + 1 then some (⟨bb, off, none⟩ : Addr) else some ⟨bb, off + (k + 1) * 5, none⟩) = some ⟨bb, oo, none⟩ ∧ (L.length = k + 1 ∨ oo = off + (k + 1) * 5) := by
        by_cases hbk : bc = k + 1
        · exact ⟨off, by rw [if_pos hbk], .inl (by have := HN.out; omega)⟩
        · exact ⟨off + (k + 1) * 5, by rw [if_neg hbk], .inr rfl⟩
      have HK1 := Lib.hid (wzM ((k : Int) + 1) (by omega))
      have hkn1 : (k : Int) + 1 ≤ (n : Int) := by omega
      have hbc0 : ¬ bc = 0 := by omega
      have hkc : (k : Int) ≤ (bc : Int) := by omega
      refine wp_region_any (by kernel_rfl) ?_
      change wpAny _ _ _ _ _ _ _ (World.drew _)
      refine vf_anyP_inv (J := fun listed a' w' => ∃ t14 t68 t69 t70 t71 t72 t73 t74 t75 t76 : Value, a' = { tmps := #[Value.slice a0 len0 cap0, Value.int IntKind.u8 ↑tn, undef, undef, Value.bool false, Value.pointer (some ⟨sb, 0, none⟩), Value.pointer (some ⟨w3.heap.size, 0, none⟩), Value.slice (some ⟨bb, off, none⟩) n bc, Value.int IntKind.i64 ↑k, Value.pointer (some ⟨w4.heap.size, 0, none⟩), Value.int IntKind.i64 0, Value.slice (some ⟨g, 0, none⟩) n uc, Value.pointer (some ⟨w9.heap.size, 0, none⟩), Value.int IntKind.i64 0, t14, undef, undef, undef, undef, Value.slice a0 len0 cap0, Value.pointer (some ⟨sb, 0, none⟩), Value.pointer (some ⟨sb, 0, none⟩), Value.agg #[Value.int IntKind.i64 am, Value.int IntKind.i64 le, Value.int IntKind.i64 sh, Value.bool un], Value.pointer (some ⟨sb, 0, none⟩), Value.slice (some ⟨bb, off, none⟩) n bc, Value.slice (some ⟨bb, off, none⟩) n bc, Value.int IntKind.i64 ↑n, Value.bool false, undef, Value.int IntKind.u8 ↑tn, Value.int IntKind.i64 ↑tn, Value.slice (some ⟨bb, off, none⟩) n bc, Value.int IntKind.i64 ↑n, Value.int IntKind.i64 ↑k, Value.slice (some ⟨bb, off, none⟩) n bc, Value.int IntKind.i64 ↑k, Value.pointer (some ⟨bb, off + k * 5, none⟩), Value.pointer (some ⟨bb, off + k * 5 + 4, none⟩), Value.bool false, undef, Value.tuple #[Value.agg #[Value.int IntKind.i64 C, Value.int IntKind.i64 T, Value.slice aa m ac], Value.int IntKind.i64 0], Value.agg #[Value.int IntKind.i64 am, Value.int IntKind.i64 le, Value.int IntKind.i64 sh, Value.bool un], Value.slice (some ⟨bb, off, none⟩) n bc, Value.tuple #[Value.agg #[Value.int IntKind.i64 C, Value.int IntKind.i64 T, Value.slice aa m ac], Value.int IntKind.i64 0], Value.agg #[Value.int IntKind.i64 C, Value.int IntKind.i64 T, Value.slice aa m ac], Value.int IntKind.i64 0, Value.slice (some ⟨bb, off, none⟩) n bc, Value.slice (some ⟨g, 0, none⟩) n uc, Value.slice (some ⟨g, 0, none⟩) n uc, Value.int IntKind.i64 ↑k, Value.slice (some ⟨g, 0, none⟩) n uc, Value.int IntKind.i64 ↑k, Value.pointer (some ⟨g, k * 5, none⟩), Value.pointer (some ⟨g, k * 5 + 2, none⟩), Value.int IntKind.i64 x2, Value.pointer (some ⟨sb, 0, none⟩), t56, t57, t58, t59, Value.pointer (some ⟨g, k * 5, none⟩), Value.pointer (some ⟨g, k * 5 + 2, none⟩), Value.tuple #[Value.agg #[Value.int IntKind.i64 C2, Value.int IntKind.i64 T2, Value.slice aa2 m2 ac2], Value.int IntKind.i64 0], Value.agg #[Value.int IntKind.i64 am, Value.int IntKind.i64 le, Value.int IntKind.i64 sh, Value.bool un], Value.slice (some ⟨g, 0, none⟩) n uc, Value.tuple #[Value.agg #[Value.int IntKind.i64 C2, Value.int IntKind.i64 T2, Value.slice aa2 m2 ac2], Value.int IntKind.i64 0], Value.agg #[Value.int IntKind.i64 C2, Value.int IntKind.i64 T2, Value.slice aa2 m2 ac2], Value.int IntKind.i64 0, t68, t69, t70, t71, t72, t73, t74, t75, t76, undef, undef, undef, undef, undef, undef, undef, undef, undef, undef, undef, undef, undef, undef, undef, undef, undef, undef, undef, undef, undef, undef, undef, undef, undef, undef, undef, undef, undef, undef, undef, undef, undef, undef, undef, undef, undef, undef, undef, undef, undef, undef, undef, undef, undef, undef, undef, undef, undef, undef, undef, undef, undef, undef, undef, undef, undef, undef, undef, undef, undef, undef, undef, undef, undef, undef, undef, undef], defers := [] } ∧ listed.size = 10 ∧ (listed.getD 0 false = true → t68 = .slice (some ⟨bb, off, none⟩) n bc) ∧ (listed.getD 1 false = true → t69 = .int .i64 (k : Int)) ∧ (listed.getD 2 false = true → t70 = .slice (some ⟨bb, off, none⟩) k bc) ∧ (listed.getD 4 false = true → t72 = .slice (some ⟨bb, off, none⟩) n bc) ∧ (listed.getD 5 false = true → t73 = .int .i64 (k : Int)) ∧ (listed.getD 6 false = true → t74 = .int .i64 ((k : Int) + 1)) ∧ (listed.getD 7 false = true → t75 = .slice (some ⟨bb, oo, none⟩) (n - (k + 1)) (bc - (k + 1))) ∧ (listed.getD 2 false = true → listed.getD 0 false = true ∧ listed.getD 1 false = true) ∧ (listed.getD 3 false = true → listed.getD 2 false = true) ∧ (listed.getD 6 false = true → listed.getD 5 false = true) ∧ (listed.getD 7 false = true → listed.getD 4 false = true ∧ listed.getD 6 false = true) ∧ (listed.getD 8 false = true → listed.getD 3 false = true ∧ listed.getD 7 false = true) ∧ (listed.getD 9 false = true → listed.getD 8 false = true) ∧ (A12 Y k L (listed.getD 3 false) (listed.getD 8 false) t71 t76 w' ∧ ((listed.getD 9 false) = true → t14 = t76))) ?step ?fin _ _ _ _ ⟨_, _, _, _, _, _, _, _, _, _, rfl, rfl, fun h => by simp at h, fun h => by simp at h, fun h => by simp at h, fun h => by simp at h, fun h => by simp at h, fun h => by simp at h, fun h => by simp at h, fun h => by simp at h, fun h => by simp at h, fun h => by simp at h, fun h => by simp at h, fun h => by simp at h, fun h => by simp at h, ⟨A12.start (bdr brefl), fun h => by cases h⟩⟩ (by decide)
      case step =>
        rintro listed a' w' ⟨t14, t68, t69, t70, t71, t72, t73, t74, t75, t76, rfl, hsz, f0, f1, f2, f4, f5, f6, f7, o2, o3, o6, o7, o8, o9, hvb⟩ i hi K hK
        obtain ⟨hni, o, ho, hdep⟩ := mem_ready.1 hi
        have hin : i < 10 := (Array.getElem?_eq_some_iff.1 ho).1
        have hself := vf_listed_self hni
        have hno := vf_listed_no hni
        rcases (show i = 0 ∨ i = 1 ∨ i = 2 ∨ i = 3 ∨ i = 4 ∨ i = 5 ∨ i = 6 ∨ i = 7 ∨ i = 8 ∨ i = 9 by omega) with rfl | rfl | rfl | rfl | rfl | rfl | rfl | rfl | rfl | rfl
        · injection ho with ho
          subst ho
          have g3 : (listed.setIfInBounds 0 true).getD 3 false = listed.getD 3 false := getD_set_ne _ (by decide)
          have g8 : (listed.setIfInBounds 0 true).getD 8 false = listed.getD 8 false := getD_set_ne _ (by decide)
          have g9 : (listed.setIfInBounds 0 true).getD 9 false = listed.getD 9 false := getD_set_ne _ (by decide)
          have HVB := Lib.hid hvb
          clear hi hdep hvb
          refine vf_wpOpP_of rfl rfl ?_
          go_simp
          exact hK _ _ ⟨_, (.slice (some ⟨bb, off, none⟩) n bc), _, _, _, _, _, _, _, _, rfl, by simpa using hsz, fun _ => rfl, fun h => by first | exact f1 (vf_listed_ne (by decide) h) | rfl, fun h => by first | exact f2 (vf_listed_ne (by decide) h) | rfl, fun h => by first | exact f4 (vf_listed_ne (by decide) h) | rfl, fun h => by first | exact f5 (vf_listed_ne (by decide) h) | rfl, fun h => by first | exact f6 (vf_listed_ne (by decide) h) | rfl, fun h => by first | exact f7 (vf_listed_ne (by decide) h) | rfl, fun h => by have q := o2 (vf_listed_ne (by decide) h); exact ⟨vf_listed_keep q.1, vf_listed_keep q.2⟩, fun h => vf_listed_keep (o3 (vf_listed_ne (by decide) h)), fun h => vf_listed_keep (o6 (vf_listed_ne (by decide) h)), fun h => by have q := o7 (vf_listed_ne (by decide) h); exact ⟨vf_listed_keep q.1, vf_listed_keep q.2⟩, fun h => by have q := o8 (vf_listed_ne (by decide) h); exact ⟨vf_listed_keep q.1, vf_listed_keep q.2⟩, fun h => vf_listed_keep (o9 (vf_listed_ne (by decide) h)), by rw [g3, g8, g9]; exact HVB.out⟩
        · injection ho with ho
          subst ho
          have g3 : (listed.setIfInBounds 1 true).getD 3 false = listed.getD 3 false := getD_set_ne _ (by decide)
          have g8 : (listed.setIfInBounds 1 true).getD 8 false = listed.getD 8 false := getD_set_ne _ (by decide)
          have g9 : (listed.setIfInBounds 1 true).getD 9 false = listed.getD 9 false := getD_set_ne _ (by decide)
          have HVB := Lib.hid hvb
          clear hi hdep hvb
          refine vf_wpOpP_of rfl rfl ?_
          go_simp
          exact hK _ _ ⟨_, _, (.int .i64 (k : Int)), _, _, _, _, _, _, _, rfl, by simpa using hsz, fun h => by first | exact f0 (vf_listed_ne (by decide) h) | rfl, fun _ => rfl, fun h => by first | exact f2 (vf_listed_ne (by decide) h) | rfl, fun h => by first | exact f4 (vf_listed_ne (by decide) h) | rfl, fun h => by first | exact f5 (vf_listed_ne (by decide) h) | rfl, fun h => by first | exact f6 (vf_listed_ne (by decide) h) | rfl, fun h => by first | exact f7 (vf_listed_ne (by decide) h) | rfl, fun h => by have q := o2 (vf_listed_ne (by decide) h); exact ⟨vf_listed_keep q.1, vf_listed_keep q.2⟩, fun h => vf_listed_keep (o3 (vf_listed_ne (by decide) h)), fun h => vf_listed_keep (o6 (vf_listed_ne (by decide) h)), fun h => by have q := o7 (vf_listed_ne (by decide) h); exact ⟨vf_listed_keep q.1, vf_listed_keep q.2⟩, fun h => by have q := o8 (vf_listed_ne (by decide) h); exact ⟨vf_listed_keep q.1, vf_listed_keep q.2⟩, fun h => vf_listed_keep (o9 (vf_listed_ne (by decide) h)), by rw [g3, g8, g9]; exact HVB.out⟩
        · injection ho with ho
          subst ho
          have d0 := hdep ⟨0, .data⟩ (by simp) rfl
          have d1 := hdep ⟨1, .data⟩ (by simp) rfl
          have g3 : (listed.setIfInBounds 2 true).getD 3 false = listed.getD 3 false := getD_set_ne _ (by decide)
          have g8 : (listed.setIfInBounds 2 true).getD 8 false = listed.getD 8 false := getD_set_ne _ (by decide)
          have g9 : (listed.setIfInBounds 2 true).getD 9 false = listed.getD 9 false := getD_set_ne _ (by decide)
          obtain rfl := f0 d0
          obtain rfl := f1 d1
          have HVB := Lib.hid hvb
          clear hi hdep hvb
          refine vf_wpOpP_of rfl rfl ?_
          go_simp
          exact hK _ _ ⟨_, _, _, (.slice (some ⟨bb, off, none⟩) k bc), _, _, _, _, _, _, rfl, by simpa using hsz, fun h => by first | exact f0 (vf_listed_ne (by decide) h) | rfl, fun h => by first | exact f1 (vf_listed_ne (by decide) h) | rfl, fun _ => rfl, fun h => by first | exact f4 (vf_listed_ne (by decide) h) | rfl, fun h => by first | exact f5 (vf_listed_ne (by decide) h) | rfl, fun h => by first | exact f6 (vf_listed_ne (by decide) h) | rfl, fun h => by first | exact f7 (vf_listed_ne (by decide) h) | rfl, fun _ => ⟨vf_listed_keep d0, vf_listed_keep d1⟩, fun h => vf_listed_keep (o3 (vf_listed_ne (by decide) h)), fun h => vf_listed_keep (o6 (vf_listed_ne (by decide) h)), fun h => by have q := o7 (vf_listed_ne (by decide) h); exact ⟨vf_listed_keep q.1, vf_listed_keep q.2⟩, fun h => by have q := o8 (vf_listed_ne (by decide) h); exact ⟨vf_listed_keep q.1, vf_listed_keep q.2⟩, fun h => vf_listed_keep (o9 (vf_listed_ne (by decide) h)), by rw [g3, g8, g9]; exact HVB.out⟩
        · injection ho with ho
          subst ho
          have d2 := hdep ⟨2, .data⟩ (by simp) rfl
          have g3 : (listed.setIfInBounds 3 true).getD 3 false = true := hself
          have g8 : (listed.setIfInBounds 3 true).getD 8 false = listed.getD 8 false := getD_set_ne _ (by decide)
          have g9 : (listed.setIfInBounds 3 true).getD 9 false = listed.getD 9 false := getD_set_ne _ (by decide)
          obtain rfl := f2 d2
          have n8 : listed.getD 8 false = false := by
            cases h : listed.getD 8 false with
            | false => rfl
            | true => have q := (o8 h).1; rw [hno] at q; cases q
          have n9 : listed.getD 9 false = false := by
            cases h : listed.getD 9 false with
            | false => rfl
            | true => have q := (o8 (o9 h)).1; rw [hno] at q; cases q
          rw [n8, n9, hno] at hvb
          obtain ⟨v9, w9, hrun9, hvb9⟩ := hvb.1.first HSRC.out hbY (by have := HN.out; omega) (by have := HN.out; omega) 28
          refine vf_wpOpP_of rfl rfl ?_
          refine wp_append_run (.const (.slice none 0 0)) (.tmp 70) 28 28 rfl _ _ rfl rfl hrun9 ?_
          exact hK _ _ ⟨_, _, _, _, (v9), _, _, _, _, _, rfl, by simpa using hsz, fun h => by first | exact f0 (vf_listed_ne (by decide) h) | rfl, fun h => by first | exact f1 (vf_listed_ne (by decide) h) | rfl, fun h => by first | exact f2 (vf_listed_ne (by decide) h) | rfl, fun h => by first | exact f4 (vf_listed_ne (by decide) h) | rfl, fun h => by first | exact f5 (vf_listed_ne (by decide) h) | rfl, fun h => by first | exact f6 (vf_listed_ne (by decide) h) | rfl, fun h => by first | exact f7 (vf_listed_ne (by decide) h) | rfl, fun h => by have q := o2 (vf_listed_ne (by decide) h); exact ⟨vf_listed_keep q.1, vf_listed_keep q.2⟩, fun _ => vf_listed_keep d2, fun h => vf_listed_keep (o6 (vf_listed_ne (by decide) h)), fun h => by have q := o7 (vf_listed_ne (by decide) h); exact ⟨vf_listed_keep q.1, vf_listed_keep q.2⟩, fun h => by have q := o8 (vf_listed_ne (by decide) h); exact ⟨vf_listed_keep q.1, vf_listed_keep q.2⟩, fun h => vf_listed_keep (o9 (vf_listed_ne (by decide) h)), by rw [g3, g8, g9, n8, n9]; exact ⟨hvb9, hvb.2⟩⟩
        · injection ho with ho
          subst ho
          have g3 : (listed.setIfInBounds 4 true).getD 3 false = listed.getD 3 false := getD_set_ne _ (by decide)
          have g8 : (listed.setIfInBounds 4 true).getD 8 false = listed.getD 8 false := getD_set_ne _ (by decide)
          have g9 : (listed.setIfInBounds 4 true).getD 9 false = listed.getD 9 false := getD_set_ne _ (by decide)
          have HVB := Lib.hid hvb
          clear hi hdep hvb
          refine vf_wpOpP_of rfl rfl ?_
          go_simp
          exact hK _ _ ⟨_, _, _, _, _, (.slice (some ⟨bb, off, none⟩) n bc), _, _, _, _, rfl, by simpa using hsz, fun h => by first | exact f0 (vf_listed_ne (by decide) h) | rfl, fun h => by first | exact f1 (vf_listed_ne (by decide) h) | rfl, fun h => by first | exact f2 (vf_listed_ne (by decide) h) | rfl, fun _ => rfl, fun h => by first | exact f5 (vf_listed_ne (by decide) h) | rfl, fun h => by first | exact f6 (vf_listed_ne (by decide) h) | rfl, fun h => by first | exact f7 (vf_listed_ne (by decide) h) | rfl, fun h => by have q := o2 (vf_listed_ne (by decide) h); exact ⟨vf_listed_keep q.1, vf_listed_keep q.2⟩, fun h => vf_listed_keep (o3 (vf_listed_ne (by decide) h)), fun h => vf_listed_keep (o6 (vf_listed_ne (by decide) h)), fun h => by have q := o7 (vf_listed_ne (by decide) h); exact ⟨vf_listed_keep q.1, vf_listed_keep q.2⟩, fun h => by have q := o8 (vf_listed_ne (by decide) h); exact ⟨vf_listed_keep q.1, vf_listed_keep q.2⟩, fun h => vf_listed_keep (o9 (vf_listed_ne (by decide) h)), by rw [g3, g8, g9]; exact HVB.out⟩
        · injection ho with ho
          subst ho
          have g3 : (listed.setIfInBounds 5 true).getD 3 false = listed.getD 3 false := getD_set_ne _ (by decide)
          have g8 : (listed.setIfInBounds 5 true).getD 8 false = listed.getD 8 false := getD_set_ne _ (by decide)
          have g9 : (listed.setIfInBounds 5 true).getD 9 false = listed.getD 9 false := getD_set_ne _ (by decide)
          have HVB := Lib.hid hvb
          clear hi hdep hvb
          refine vf_wpOpP_of rfl rfl ?_
          go_simp
          exact hK _ _ ⟨_, _, _, _, _, _, (.int .i64 (k : Int)), _, _, _, rfl, by simpa using hsz, fun h => by first | exact f0 (vf_listed_ne (by decide) h) | rfl, fun h => by first | exact f1 (vf_listed_ne (by decide) h) | rfl, fun h => by first | exact f2 (vf_listed_ne (by decide) h) | rfl, fun h => by first | exact f4 (vf_listed_ne (by decide) h) | rfl, fun _ => rfl, fun h => by first | exact f6 (vf_listed_ne (by decide) h) | rfl, fun h => by first | exact f7 (vf_listed_ne (by decide) h) | rfl, fun h => by have q := o2 (vf_listed_ne (by decide) h); exact ⟨vf_listed_keep q.1, vf_listed_keep q.2⟩, fun h => vf_listed_keep (o3 (vf_listed_ne (by decide) h)), fun h => vf_listed_keep (o6 (vf_listed_ne (by decide) h)), fun h => by have q := o7 (vf_listed_ne (by decide) h); exact ⟨vf_listed_keep q.1, vf_listed_keep q.2⟩, fun h => by have q := o8 (vf_listed_ne (by decide) h); exact ⟨vf_listed_keep q.1, vf_listed_keep q.2⟩, fun h => vf_listed_keep (o9 (vf_listed_ne (by decide) h)), by rw [g3, g8, g9]; exact HVB.out⟩
        · injection ho with ho
          subst ho
          have d5 := hdep ⟨5, .data⟩ (by simp) rfl
          have g3 : (listed.setIfInBounds 6 true).getD 3 false = listed.getD 3 false := getD_set_ne _ (by decide)
          have g8 : (listed.setIfInBounds 6 true).getD 8 false = listed.getD 8 false := getD_set_ne _ (by decide)
          have g9 : (listed.setIfInBounds 6 true).getD 9 false = listed.getD 9 false := getD_set_ne _ (by decide)
          obtain rfl := f5 d5
          obtain ⟨hwk1, hik1⟩ := HK1.out
          have HVB := Lib.hid hvb
          clear hi hdep hvb
          refine vf_wpOpP_of rfl rfl ?_
          go_simp
          exact hK _ _ ⟨_, _, _, _, _, _, _, (.int .i64 ((k : Int) + 1)), _, _, rfl, by simpa using hsz, fun h => by first | exact f0 (vf_listed_ne (by decide) h) | rfl, fun h => by first | exact f1 (vf_listed_ne (by decide) h) | rfl, fun h => by first | exact f2 (vf_listed_ne (by decide) h) | rfl, fun h => by first | exact f4 (vf_listed_ne (by decide) h) | rfl, fun h => by first | exact f5 (vf_listed_ne (by decide) h) | rfl, fun _ => rfl, fun h => by first | exact f7 (vf_listed_ne (by decide) h) | rfl, fun h => by have q := o2 (vf_listed_ne (by decide) h); exact ⟨vf_listed_keep q.1, vf_listed_keep q.2⟩, fun h => vf_listed_keep (o3 (vf_listed_ne (by decide) h)), fun _ => vf_listed_keep d5, fun h => by have q := o7 (vf_listed_ne (by decide) h); exact ⟨vf_listed_keep q.1, vf_listed_keep q.2⟩, fun h => by have q := o8 (vf_listed_ne (by decide) h); exact ⟨vf_listed_keep q.1, vf_listed_keep q.2⟩, fun h => vf_listed_keep (o9 (vf_listed_ne (by decide) h)), by rw [g3, g8, g9]; exact HVB.out⟩
        · injection ho with ho
          subst ho
          have d4 := hdep ⟨4, .data⟩ (by simp) rfl
          have d6 := hdep ⟨6, .data⟩ (by simp) rfl
          have g3 : (listed.setIfInBounds 7 true).getD 3 false = listed.getD 3 false := getD_set_ne _ (by decide)
          have g8 : (listed.setIfInBounds 7 true).getD 8 false = listed.getD 8 false := getD_set_ne _ (by decide)
          have g9 : (listed.setIfInBounds 7 true).getD 9 false = listed.getD 9 false := getD_set_ne _ (by decide)
          obtain rfl := f4 d4
          obtain rfl := f6 d6
          have HVB := Lib.hid hvb
          clear hi hdep hvb
          refine vf_wpOpP_of rfl rfl ?_
          go_simp
          exact hK _ _ ⟨_, _, _, _, _, _, _, _, (.slice (some ⟨bb, oo, none⟩) (n - (k + 1)) (bc - (k + 1))), _, rfl, by simpa using hsz, fun h => by first | exact f0 (vf_listed_ne (by decide) h) | rfl, fun h => by first | exact f1 (vf_listed_ne (by decide) h) | rfl, fun h => by first | exact f2 (vf_listed_ne (by decide) h) | rfl, fun h => by first | exact f4 (vf_listed_ne (by decide) h) | rfl, fun h => by first | exact f5 (vf_listed_ne (by decide) h) | rfl, fun h => by first | exact f6 (vf_listed_ne (by decide) h) | rfl, fun _ => rfl, fun h => by have q := o2 (vf_listed_ne (by decide) h); exact ⟨vf_listed_keep q.1, vf_listed_keep q.2⟩, fun h => vf_listed_keep (o3 (vf_listed_ne (by decide) h)), fun h => vf_listed_keep (o6 (vf_listed_ne (by decide) h)), fun _ => ⟨vf_listed_keep d4, vf_listed_keep d6⟩, fun h => by have q := o8 (vf_listed_ne (by decide) h); exact ⟨vf_listed_keep q.1, vf_listed_keep q.2⟩, fun h => vf_listed_keep (o9 (vf_listed_ne (by decide) h)), by rw [g3, g8, g9]; exact HVB.out⟩
        · injection ho with ho
          subst ho
          have d3 := hdep ⟨3, .data⟩ (by simp) rfl
          have d7 := hdep ⟨7, .data⟩ (by simp) rfl
          have g3 : (listed.setIfInBounds 8 true).getD 3 false = listed.getD 3 false := getD_set_ne _ (by decide)
          have g8 : (listed.setIfInBounds 8 true).getD 8 false = true := hself
          have g9 : (listed.setIfInBounds 8 true).getD 9 false = listed.getD 9 false := getD_set_ne _ (by decide)
          obtain rfl := f7 d7
          have n9 : listed.getD 9 false = false := by
            cases h : listed.getD 9 false with
            | false => rfl
            | true => have q := (o9 h); rw [hno] at q; cases q
          rw [n9, d3, hno] at hvb
          obtain ⟨v9, w9, hrun9, hvb9⟩ := hvb.1.second hooL HSRC.out hbY (by have := HN.out; omega) (by have := HN.out; omega) (c := bc - (k + 1)) 28
          rw [HN.out] at hrun9
          refine vf_wpOpP_of rfl rfl ?_
          refine wp_append_run (.tmp 71) (.tmp 75) 28 28 rfl _ _ rfl rfl hrun9 ?_
          exact hK _ _ ⟨_, _, _, _, _, _, _, _, _, (v9), rfl, by simpa using hsz, fun h => by first | exact f0 (vf_listed_ne (by decide) h) | rfl, fun h => by first | exact f1 (vf_listed_ne (by decide) h) | rfl, fun h => by first | exact f2 (vf_listed_ne (by decide) h) | rfl, fun h => by first | exact f4 (vf_listed_ne (by decide) h) | rfl, fun h => by first | exact f5 (vf_listed_ne (by decide) h) | rfl, fun h => by first | exact f6 (vf_listed_ne (by decide) h) | rfl, fun h => by first | exact f7 (vf_listed_ne (by decide) h) | rfl, fun h => by have q := o2 (vf_listed_ne (by decide) h); exact ⟨vf_listed_keep q.1, vf_listed_keep q.2⟩, fun h => vf_listed_keep (o3 (vf_listed_ne (by decide) h)), fun h => vf_listed_keep (o6 (vf_listed_ne (by decide) h)), fun h => by have q := o7 (vf_listed_ne (by decide) h); exact ⟨vf_listed_keep q.1, vf_listed_keep q.2⟩, fun _ => ⟨vf_listed_keep d3, vf_listed_keep d7⟩, fun h => vf_listed_keep (o9 (vf_listed_ne (by decide) h)), by rw [g3, g8, g9, n9, d3]; exact ⟨hvb9, fun h => by cases h⟩⟩
        · injection ho with ho
          subst ho
          have d8 := hdep ⟨8, .data⟩ (by simp) rfl
          have g3 : (listed.setIfInBounds 9 true).getD 3 false = listed.getD 3 false := getD_set_ne _ (by decide)
          have g8 : (listed.setIfInBounds 9 true).getD 8 false = listed.getD 8 false := getD_set_ne _ (by decide)
          have g9 : (listed.setIfInBounds 9 true).getD 9 false = true := hself
          rw [d8, hno] at hvb
          have HVB := Lib.hid hvb
          clear hi hdep hvb
          refine vf_wpOpP_of rfl rfl ?_
          go_simp
          exact hK _ _ ⟨_, _, _, _, _, _, _, _, _, _, rfl, by simpa using hsz, fun h => by first | exact f0 (vf_listed_ne (by decide) h) | rfl, fun h => by first | exact f1 (vf_listed_ne (by decide) h) | rfl, fun h => by first | exact f2 (vf_listed_ne (by decide) h) | rfl, fun h => by first | exact f4 (vf_listed_ne (by decide) h) | rfl, fun h => by first | exact f5 (vf_listed_ne (by decide) h) | rfl, fun h => by first | exact f6 (vf_listed_ne (by decide) h) | rfl, fun h => by first | exact f7 (vf_listed_ne (by decide) h) | rfl, fun h => by have q := o2 (vf_listed_ne (by decide) h); exact ⟨vf_listed_keep q.1, vf_listed_keep q.2⟩, fun h => vf_listed_keep (o3 (vf_listed_ne (by decide) h)), fun h => vf_listed_keep (o6 (vf_listed_ne (by decide) h)), fun h => by have q := o7 (vf_listed_ne (by decide) h); exact ⟨vf_listed_keep q.1, vf_listed_keep q.2⟩, fun h => by have q := o8 (vf_listed_ne (by decide) h); exact ⟨vf_listed_keep q.1, vf_listed_keep q.2⟩, fun _ => vf_listed_keep d8, by rw [g3, g8, g9, d8]; exact ⟨HVB.out.1, fun _ => rfl⟩⟩
      case fin =>
        rintro listed a' w' ⟨t14, t68, t69, t70, t71, t72, t73, t74, t75, t76, rfl, hsz, f0, f1, f2, f4, f5, f6, f7, o2, o3, o6, o7, o8, o9, hvb⟩ hr
        have hfull := vf_ready_full hsz hr (by kernel_rfl)
        obtain rfl := f0 (hfull 0 (by decide))
        obtain rfl := f1 (hfull 1 (by decide))
        obtain rfl := f2 (hfull 2 (by decide))
        obtain rfl := f4 (hfull 4 (by decide))
        obtain rfl := f5 (hfull 5 (by decide))
        obtain rfl := f6 (hfull 6 (by decide))
        obtain rfl := f7 (hfull 7 (by decide))
        rw [hfull 3 (by decide), hfull 8 (by decide), hfull 9 (by decide)] at hvb
        clear o2 o3 o6 o7 o8 o9 hfull hr hsz
        obtain ⟨hb12, ho12⟩ := hvb.1.two rfl
        obtain rfl := hvb.2 rfl
        have hS12 := Sl.own (P := fun _ => True) encBid_len ho12 rfl (fun _ _ => trivial)
        have hZn : (L.take k ++ L.drop (k + 1)).length ≤ 8 := by have := HN.out; simp; omega
        have HZM := Lib.hid (fun x (hx : x ∈ L.take k ++ L.drop (k + 1)) => (by rw [List.mem_append] at hx; rcases hx with h | h; (exact List.mem_of_mem_take h); (exact List.mem_of_mem_drop h) : x ∈ L))
        have HA3 := Lib.hid (HAL.out _ hZn)
        obtain ⟨ZL, hZL⟩ : ∃ x, L.take k ++ L.drop (k + 1) = x := ⟨_, rfl⟩
        rw [hZL] at KZ HML hS12 HZM HA3 hZn
        obtain ⟨za, zn, zc, rfl, hzn, -, -⟩ := hS12.shape
        have HS12 := Lib.hid hS12
        have HZN := Lib.hid hzn
        have hzn8 : zn ≤ 8 := by omega
        replace o0 := keepB hb12 o0
        replace o1 := keepB hb12 o1
        replace o2 := keepB hb12 o2
        replace o3 := keepB hb12 o3
        replace r0 := keepB hb12 r0
        replace r1 := keepB hb12 r1
        replace r2 := keepB hb12 r2
        replace s0 := keepB hb12 s0
        replace s1 := keepB hb12 s1
        replace s2 := keepB hb12 s2
        have HA12 := Lib.hid (HAY.out.below hb12)
        have HU12 := Lib.hid (HUY.out.below hb12)
        have HL12 := Lib.hid (HLY.out.below hb12)
        have HB12 := Lib.hid (HBY.out.trans (hb12.mono HBY.out.size))
        obtain ⟨w12, hw12⟩ : ∃ u, u = w' := ⟨w', rfl⟩
        subst hw12
        clear hvb ho12 hS12 hzn hb12 hZL HAY HUY HLY HBY HSRC hoo hooL HK1
        obtain ⟨C3, hC3⟩ : ∃ x, hdC am le sh ZL = x := ⟨_, rfl⟩
        obtain ⟨T3, hT3⟩ : ∃ x, hdS am le sh ZL = x := ⟨_, rfl⟩
        obtain ⟨A3, hA3⟩ : ∃ x, hdA am le sh un ZL = x := ⟨_, rfl⟩
        obtain ⟨A1, hA1⟩ : ∃ x, hdA am le sh un L = x := ⟨_, rfl⟩
        rw [hC3, hT3, hA3] at KZ
        rw [hA3] at HML HA3
        rw [hA1] at HML HMPq HGB HA12 HA1
        clear hC3 hT3 hA3 hA1
        have zo : w3.heap.size < w12.heap.size := World.block_lt_of_cell? _ _ o0
        go_upto_region 13 with fail
        go_wp2_with fail
        refine (KZ.out _ _ _ HS12.out).mono ?_
        rintro e w13 ⟨av3, rfl, hw13, hb13⟩
        replace r0 := keepB hb13 r0
        replace r1 := keepB hb13 r1
        replace r2 := keepB hb13 r2
        replace s0 := keepB hb13 s0
        replace s1 := keepB hb13 s1
        replace s2 := keepB hb13 s2
        have hA13 : Sl 4 encAwd (fun _ => True) w13 av3 A3 := Sl.own encAwd_len hw13 rfl (fun _ _ => trivial)
        obtain ⟨aa3, m3, ac3, rfl, -, -, -⟩ := hA13.shape
        have HZ13 := Lib.hid hA13
        have HA13 := Lib.hid (HA12.out.below hb13)
        have HU13 := Lib.hid (HU12.out.below hb13)
        have HL13 := Lib.hid (HL12.out.below hb13)
        have HS13 := Lib.hid (HS12.out.below hb13)
        have HB13 := Lib.hid (HB12.out.trans (hb13.mono HB12.out.size))
        clear hw13 hb13 hA13 zo o0 o1 o2 o3 HA12 HU12 HL12 HB12 HS12
        go_upto_region 14 with fail
        obtain ⟨X, hX⟩ : ∃ X, X = w13.alloc (.cells #[.int .i64 C3, .int .i64 T3, .slice aa3 m3 ac3] 32 (0, 0)) := ⟨_, rfl⟩
        rw [← hX]
        have hbX : Below w13.heap.size w13 X := by rw [hX]; exact bal brefl _
        have t0 : X.cell? ⟨w13.heap.size, 0, none⟩ = some (.int .i64 C3) := by rw [hX]; exact World.cell?_alloc_at _ _ _ _ rfl
        have t1 : X.cell? ⟨w13.heap.size, 1, none⟩ = some (.int .i64 T3) := by rw [hX]; exact World.cell?_alloc_at _ _ _ _ rfl
        have t2 : X.cell? ⟨w13.heap.size, 2, none⟩ = some (.slice aa3 m3 ac3) := by rw [hX]; exact World.cell?_alloc_at _ _ _ _ rfl
        replace r0 := keepB hbX r0
        replace r1 := keepB hbX r1
        replace r2 := keepB hbX r2
        replace s0 := keepB hbX s0
        replace s1 := keepB hbX s1
        replace s2 := keepB hbX s2
        have HSX := Lib.hid (HS13.out.below hbX)
        have HBX := Lib.hid (HB13.out.trans (hbX.mono HB13.out.size))
        have KA := Lib.hid (fun (b n : Int) (U : World) (hU : Below X.heap.size X U) => given_any _ C T _ A1 b n U ((HA13.out.below hbX).below hU) HA1.out)
        have KB := Lib.hid (fun (b n : Int) (U : World) (hU : Below X.heap.size X U) => given_any _ C2 T2 _ A2 b n U ((HU13.out.below hbX).below hU) HA2.out)
        have KC := Lib.hid (fun (b n : Int) (U : World) (hU : Below X.heap.size X U) => given_any _ C3 T3 _ A3 b n U ((HZ13.out.below hbX).below hU) HA3.out)
        obtain ⟨b', off', y0, y1, y2, y3, y4, e1, -, hbX2, e2, j0, j1, j2, j3, j4⟩ := (HL13.out.below hbX).bid hkn
        rw [HX.out] at e2
        cases e2
        cases e1
        clear hX hbX HA13 HU13 HZ13 HL13 HB13 HS13 j2 j3 j4
        have zr : w4.heap.size < X.heap.size := World.block_lt_of_cell? _ _ r0
        have zs : w9.heap.size < X.heap.size := World.block_lt_of_cell? _ _ s0
        have zt : w13.heap.size < X.heap.size := World.block_lt_of_cell? _ _ t0
        obtain ⟨VA, hVA⟩ : ∃ x, gvA A1 x0 x1 = x := ⟨_, rfl⟩
        obtain ⟨VB, hVB⟩ : ∃ x, gvA A2 x0 x1 = x := ⟨_, rfl⟩
        have KA0 := Lib.hid (KA.out x0 x1)
        have KB0 := Lib.hid (KB.out x0 x1)
        rw [hVA] at KA0
        rw [hVB] at KB0
        have hmp : VA ≤ VB := by rw [← hVA, ← hVB]; exact HMPq.out
        have hmp2 : ¬ VB < VA := by omega
        clear hVA hVB HMPq
        have ur0 := up_cell r0
        have ur1 := up_cell r1
        have ur2 := up_cell r2
        have us0 := up_cell s0
        have us1 := up_cell s1
        have us2 := up_cell s2
        have uj0 := up_cell j0
        have uj1 := up_cell j1
        go_upto_region 16 with fail
        (refine wp_region_up (by kernel_rfl) (by kernel_rfl) ?_); (repeat (go_big_quiet_step (((go_at_call 14; (first | (with_reducible refine (KA0.out _ (up_propA _)).mono ?_) | (with_reducible refine (KB0.out _ (up_propA _)).mono ?_)); exact fun _ _ hh => ⟨hh.1, ⟨_, bup (up_propA _) hh.2⟩, rfl⟩))))); (refine wpQuiet_nil ?_); (rintro w14 ⟨⟨_, hb14⟩, rfl⟩)
        replace r0 := keepB hb14 r0
        replace r1 := keepB hb14 r1
        replace r2 := keepB hb14 r2
        replace t0 := keepB hb14 t0
        replace t1 := keepB hb14 t1
        replace t2 := keepB hb14 t2
        have HS14 := Lib.hid (HSX.out.below hb14)
        have H14 := Lib.hid hb14
        clear hb14 ur0 ur1 ur2 us0 us1 us2 uj0 uj1 s0 s1 s2 j0 j1 zr zs zt KA0 KB0 hmp HSX
        go_upto_region 18 with fail
        go_wp2
        go_loopw [120] (fun iv wr => ∃ i : Nat, i ≤ zn ∧ iv = .int .i64 i ∧ Below w14.heap.size w14 wr) (fun iv _ => zn - (intOf iv).toNat)
        case atStart => exact ⟨0, by omega, rfl, brefl⟩
        case round =>
          obtain ⟨i, hi, rfl, hbr⟩ := hrel
          have zz := hbr.size
          by_cases hit : i < zn
          · obtain ⟨b5, of5, y0, y1, y2, y3, y4, rfl, -, hbb5, hy, k0, k1, k2, k3, k4⟩ := (HS14.out.below hbr).bid hit
            have hiz : (i : Int) < (zn : Int) := by omega
            have hym := List.mem_of_getElem? hy
            go_upto_region 21 with fail
            obtain ⟨D, hD⟩ : ∃ D, D = wr.alloc (.cells #[.int .i64 y0, .int .i64 y1, .int .i64 y2, .int .i64 y3, .bool y4] 37 (0, 0)) := ⟨_, rfl⟩
            rw [← hD]
            have hbD : Below wr.heap.size wr D := by rw [hD]; exact bal brefl _
            have d0 : D.cell? ⟨wr.heap.size, 0, none⟩ = some (.int .i64 y0) := by rw [hD]; exact World.cell?_alloc_at _ _ _ _ rfl
            have d1 : D.cell? ⟨wr.heap.size, 1, none⟩ = some (.int .i64 y1) := by rw [hD]; exact World.cell?_alloc_at _ _ _ _ rfl
            have d4 : D.cell? ⟨wr.heap.size, 4, none⟩ = some (.bool y4) := by rw [hD]; exact World.cell?_alloc_at _ _ _ _ rfl
            have HBD := Lib.hid (hbr.trans (hbD.mono zz))
            have f0 := up_cell (keepB HBD.out r0)
            have f1 := up_cell (keepB HBD.out r1)
            have f2 := up_cell (keepB HBD.out r2)
            have g0 := up_cell (keepB HBD.out t0)
            have g1 := up_cell (keepB HBD.out t1)
            have g2 := up_cell (keepB HBD.out t2)
            have ud0 := up_cell d0
            have ud1 := up_cell d1
            have ud4 := up_cell d4
            clear hD hbD hbr k0 k1 k2 k3 k4 hy
            cases y4 with
            | true =>
              (refine wp_region_up (by kernel_rfl) (by kernel_rfl) ?_); (repeat (go_big_quiet_step ((fail)))); (refine wpQuiet_nil ?_); (rintro w15 ⟨⟨_, hb15⟩, rfl⟩)
              have HB15 := Lib.hid (HBD.out.trans (hb15.mono HBD.out.size))
              clear hb15
              go_wp2
              go_roundw
              case rel => exact ⟨i + 1, by omega, by go_num, HB15.out⟩
              case measure => simp [intOf]; omega
            | false =>
              have hml := HML.out _ hym rfl
              have hgb := HGB.out _ (HZM.out _ hym)
              simp only at hml hgb
              obtain ⟨VC, hVC⟩ : ∃ x, gvA A3 y0 y1 = x := ⟨_, rfl⟩
              obtain ⟨VD, hVD⟩ : ∃ x, gvA A1 y0 y1 = x := ⟨_, rfl⟩
              rw [hVC, hVD] at hml
              rw [hVD] at hgb
              have KC0 := Lib.hid (fun (U : World) (hU : Below D.heap.size D U) => KC.out y0 y1 U (((H14.out.trans (HBD.out.mono H14.out.size))).trans (hU.mono (Nat.le_trans H14.out.size HBD.out.size))))
              have KD0 := Lib.hid (fun (U : World) (hU : Below D.heap.size D U) => KA.out y0 y1 U (((H14.out.trans (HBD.out.mono H14.out.size))).trans (hU.mono (Nat.le_trans H14.out.size HBD.out.size))))
              rw [hVC] at KC0
              rw [hVD] at KD0
              have hm2 : ¬ VC < VD - 1000 := by omega
              have hwv : wrap64 (VD - 1000) = VD - 1000 := (wzM _ (by omega)).1
              have hiv : IntKind.i64.wrap (VD - 1000) = VD - 1000 := (wzM _ (by omega)).2
              clear hVC hVD hml hgb hym
              (refine wp_region_up (by kernel_rfl) (by kernel_rfl) ?_); (repeat (go_big_quiet_step (((go_at_call 14; (first | (with_reducible refine (KC0.out _ (up_propA _)).mono ?_) | (with_reducible refine (KD0.out _ (up_propA _)).mono ?_)); exact fun _ _ hh => ⟨hh.1, ⟨_, bup (up_propA _) hh.2⟩, rfl⟩))))); (refine wpQuiet_nil ?_); (rintro w15 ⟨⟨_, hb15⟩, rfl⟩)
              have HB15 := Lib.hid (HBD.out.trans (hb15.mono HBD.out.size))
              clear hb15
              go_wp2
              go_roundw
              case rel => exact ⟨i + 1, by omega, by go_num, HB15.out⟩
              case measure => simp [intOf]; omega
          · have HBJ := Lib.hid hbr
            clear hbr
            go_wp2_with fail
            refine (sane32_any _).mono ?_
            rintro e w15 ⟨rfl, hb15⟩
            go_wp2
            go_ret
            exact ⟨rfl, bup ((HBX.out.trans (H14.out.mono HBX.out.size)).trans (HBJ.out.mono (Nat.le_trans HBX.out.size H14.out.size))) hb15⟩
end Go.Proofs.Ytenbbmmbpjjjpaa
