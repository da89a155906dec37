/- Buyback: the source's tenders. -/
import Derived.Test.YtkdbdncboljfhaaBuyA
import Derived.Test.YtkdbdncboljfhaaSrc
namespace Go.Proofs.Ytkdbdncboljfhaa
open Go.RowKit
set_option linter.unusedVariables false
set_option linter.unusedSimpArgs false
/-- tenders that the source gives -/
structure TdrsOk (most : Int) (L : List Tdr) : Prop where
  n : (L.length : Int) ≤ most
  ok : ∀ x ∈ L, TdrOk x
  num : ∀ (k : Nat) (x : Tdr), L[k]? = some x → x.n = (k : Int) + 1
theorem TdrsOk.keys {most : Int} {L : List Tdr} (h : TdrsOk most L) : KeysT L := by
  unfold KeysT
  rw [List.pairwise_iff_getElem]
  intro i j hi hj hij
  have e1 := h.num i _ (List.getElem?_eq_getElem hi)
  have e2 := h.num j _ (List.getElem?_eq_getElem hj)
  rintro ⟨-, h2⟩
  omega
/-- valid tenders have been drawn -/
def GaveT (most : Int) (sb : Nat) (w : World) (e : Ending) (w' : World) : Prop :=
  ∃ v L, e = .returned v ∧ w'.ownsRow w.heap.size 28 4 v L.length (flatE encTdr L) ∧ TdrsOk most L ∧ SrcOk w' sb ∧ w.grownBy w' (some sb)
theorem newsTdr (w : World) (g : Nat) (hg : g = w.heap.size) (x0 x1 x2 x3 : Int) : ∀ j u, (encTdr ⟨x0, x1, x2, x3⟩)[j]? = some u → (w.alloc (.cells #[.int .i64 x0, .int .i64 x1, .int .i64 x2, .int .i64 x3] 28 (0, 0))).cell? ((⟨g, 0, none⟩ : Addr).add j) = some u := by
  subst hg
  exact newsL w (encTdr ⟨x0, x1, x2, x3⟩) 28
theorem smW (z : Int) (z0 : 0 ≤ z) (z1 : z ≤ 20) : wrap64 (z + 1) = z + 1 ∧ IntKind.i64.wrap (z + 1) = z + 1 ∧ wrap64 z = z := ⟨IntWalk.wrap64_in _ (by omega), IntWalk.i64_in _ (by omega), IntWalk.wrap64_in _ (by omega)⟩
theorem smM (z : Int) (z0 : 1 ≤ z) (z1 : z ≤ 17) : wrap64 (1000 * z) = 1000 * z ∧ IntKind.i64.wrap (1000 * z) = 1000 * z := ⟨IntWalk.wrap64_in _ (by omega), IntWalk.i64_in _ (by omega)⟩
theorem below_keep {B : Nat} {w w' : World} (h : Below B w w') (row : Option Nat) {a : World} (hB : a.heap.size ≤ B) (hg : a.grownBy w row) : a.grownBy w' row :=
  ⟨h.os.trans hg.os, h.tape.trans hg.tape, h.output.trans hg.output, Nat.le_trans hg.size h.size, fun i hi hx => (h.block i (by omega)).trans (hg.block i hi hx)⟩
set_option maxHeartbeats 8000000 in
set_option maxRecDepth 100000 in
theorem stenders_any (sb : Nat) (most : Int) (w : World) (hs : SrcOk w sb) (hm0 : 0 ≤ most) (hm1 : most ≤ 20) : Calls Try.prog 6 #[.pointer (some ⟨sb, 0, none⟩), .int .i64 most] w (GaveT most sb w) := by
  have hlt := srcOk_lt hs
  have HS := Lib.hid hs
  obtain ⟨i1, hi, hz0, hz1, hz2⟩ := info_parts infoTdr
  have hwm : wrap64 (most + 1) = most + 1 := IntWalk.wrap64_in _ (by omega)
  have him : IntKind.i64.wrap (most + 1) = most + 1 := IntWalk.i64_in _ (by omega)
  clear hs
  go_enter Try.func6, Try.ntmps6
  go_wp2_with fail
  refine (n_any sb (most + 1) _ HS.out (by omega)).mono ?_
  rintro e w1 ⟨r0, hr0, rfl, hS1, hG1⟩
  obtain ⟨r0, rfl⟩ : ∃ m : Nat, r0 = (m : Int) := ⟨r0.toNat, by omega⟩
  have HS1 := Lib.hid hS1
  have HG1 := Lib.hid hG1
  have z1 := hG1.size
  have hr1 : (r0 : Int) ≤ most := by omega
  clear hS1 hG1 hr0 hwm him
  go_wp2
  go_loopw [5, 6] (fun ov kv wr => ∃ (r : Nat) (L : List Tdr), kv = .int .i64 r ∧ (L.length : Int) + r ≤ most ∧ wr.ownsRow w.heap.size 28 4 ov L.length (flatE encTdr L) ∧ (∀ x ∈ L, TdrOk x) ∧ (∀ (k : Nat) (x : Tdr), L[k]? = some x → x.n = (k : Int) + 1) ∧ SrcOk wr sb ∧ w.grownBy wr (some sb)) (fun _ kv _ => (intOf kv).toNat)
  case atStart => exact ⟨r0, [], rfl, by simp; omega, World.ownsRow_nil _ _ _ _, fun x h => by simp at h, fun k x h => by simp at h, HS1.out, HG1.out⟩
  case round =>
    obtain ⟨r, L, rfl, hlr, hown, hlk, hnu, hso, hgr⟩ := hrel
    have zr := hgr.size
    cases r with
    | zero =>
      have HF := Lib.hid (And.intro hown (And.intro (show TdrsOk most L from ⟨by omega, hlk, hnu⟩) (And.intro hso hgr)))
      clear hown hlk hnu hso hgr
      go_wp2
      go_ret
      exact ⟨_, L, rfl, HF.out.1, HF.out.2.1, HF.out.2.2.1, HF.out.2.2.2⟩
    | succ r =>
      have hrz : (0 : Int) < (r : Int) + 1 := by omega
      have hln : (L.length : Int) ≤ 20 := by omega
      obtain ⟨oa, oc, rfl⟩ := own_sl hown
      have hfar : ∀ (U U' : World), U.ownsRow w.heap.size 28 4 (.slice oa L.length oc) L.length (flatE encTdr L) → U.grownBy U' (some sb) → U'.ownsRow w.heap.size 28 4 (.slice oa L.length oc) L.length (flatE encTdr L) := fun U U' ho hg => by
        refine ho.kept hg ?_
        cases hob : (Value.slice oa L.length oc).ownBlock with
        | none => exact .inl rfl
        | some g => exact .inr fun e => by cases e; have := (ho.lt _ hob).1; omega
      have HFAR := Lib.hid hfar
      have HOW := Lib.hid hown
      have HLK := Lib.hid hlk
      have HNU := Lib.hid hnu
      have HSO := Lib.hid hso
      have HGR := Lib.hid hgr
      have hr20 : (r : Int) ≤ 20 := by omega
      have HWL := Lib.hid (smW (L.length : Int) (Int.natCast_nonneg _) hln)
      have HWR := Lib.hid (smW (r : Int) (Int.natCast_nonneg _) hr20).2.2
      clear hown hlk hnu hso hgr hfar
      go_wp2_with fail
      refine (range_any sb 1 4 _ HSO.out (by decide) (by decide) (by decide)).mono ?_
      rintro e w2 ⟨x1, hm1, rfl, hS2, hG2⟩
      have HS2 := Lib.hid hS2
      have HG2 := Lib.hid (grownBy_trans HGR.out hG2)
      have HO2 := Lib.hid (HFAR.out _ _ HOW.out hG2)
      have z2 := hG2.size
      clear hS2 hG2
      have hwl := HWL.out.1
      have hil := HWL.out.2.1
      go_wp2_with fail
      clear hwl hil
      refine (pick_lit sb [98000, 99000, 100000, 101000] _ _ _ _ HS2.out (by decide) (by decide) rfl rfl rfl).mono ?_
      rintro e w3 ⟨x2, hx2, rfl, hS3, hG3⟩
      have hm2 : 1 ≤ x2 ∧ x2 ≤ 200000 := by simp only [List.mem_cons, List.not_mem_nil, or_false] at hx2; omega
      have HS3 := Lib.hid hS3
      have HG3 := Lib.hid (grownBy_trans HG2.out hG3)
      have HO3 := Lib.hid (HFAR.out _ _ HO2.out hG3)
      have z3 := hG3.size
      clear hx2 hS3 hG3
      go_wp2_with fail
      refine (pick_lit sb [1, 2, 4] _ _ _ _ HS3.out (by decide) (by decide) rfl rfl rfl).mono ?_
      rintro e w4 ⟨x3, hx3, rfl, hS4, hG4⟩
      have hm3 : 1 ≤ x3 ∧ x3 ≤ 4 := by simp only [List.mem_cons, List.not_mem_nil, or_false] at hx3; omega
      have HW3 := Lib.hid (smM x3 hm3.1 (by omega))
      have HS4 := Lib.hid hS4
      have HG4 := Lib.hid (grownBy_trans HG3.out hG4)
      have HO4 := Lib.hid (HFAR.out _ _ HO3.out hG4)
      have z4 := hG4.size
      have hs4 := srcOk_lt hS4
      clear hx3 hS4 hG4
      have hw3 := HW3.out.1
      have hi3 := HW3.out.2
      have z6 : w.heap.size ≤ w4.heap.size := by have := HG4.out.size; omega
      have q1 : L.length + 1 ≤ maxLen := by unfold maxLen; omega
      have q2 : (L.length + 1) * 32 ≤ 140737488355328 := by omega
      go_wp2_with (at_builtin; go_must (refine wpList_append_own _ rfl _ _ 25 rfl w.heap.size 28 i1 (.agg #[.int .i64 0, .int .i64 0, .int .i64 0, .int .i64 0]) 4 32 Try.underlying25 hi hz0 hz1 hz2 rfl (by decide) _ _ _ rfl (HO4.out.alloc _) ⟨_, 0, none⟩ 1 1 (encTdr ⟨x1, (L.length : Int) + 1, x2, 1000 * x3⟩) rfl rfl (newsTdr _ _ (by simp) x1 ((L.length : Int) + 1) x2 (1000 * x3)) (oneTdr _) q1 q2 (Nat.le_trans z6 (by simp)) ?_); intro v' w9 hown' hgrow _)
      clear hw3 hi3
      go_roundw
      case rel =>
        have hb9 : Below w.heap.size w4 w9 := ((Below.refl _ w4).alloc (by omega) _).grown hgrow (by simp; omega) (fun q hq => (HO4.out.lt q hq).1)
        exact ⟨r, L ++ [⟨x1, (L.length : Int) + 1, x2, 1000 * x3⟩], by go_num, by simp; omega, by rw [flatE_snoc, List.length_append]; exact hown', fun x hx => by
          rw [List.mem_append] at hx
          rcases hx with hx | hx
          · exact HLK.out x hx
          · simp only [List.mem_singleton] at hx; subst hx; exact ⟨hm1.1, by simp only; omega, by simp only; omega, by simp only; omega, by simp only; omega, by simp only; omega, by simp only; omega, hm2.1, hm2.2⟩, fun k x hk => by
          rcases Nat.lt_or_ge k L.length with hkl | hkl
          · rw [List.getElem?_append_left hkl] at hk; exact HNU.out k x hk
          · have hlt := (List.getElem?_eq_some_iff.1 hk).1
            simp only [List.length_append, List.length_cons, List.length_nil] at hlt
            obtain rfl : k = L.length := by omega
            rw [List.getElem?_append_right (Nat.le_refl _), Nat.sub_self] at hk
            simp only [List.getElem?_cons_zero, Option.some.injEq] at hk
            subst hk; rfl, srcOk_below HS4.out hb9 (by omega), below_keep hb9 (some sb) (Nat.le_refl _) HG4.out⟩
      case measure => first | (simp [intOf]; done) | (simp [intOf]; omega)
end Go.Proofs.Ytkdbdncboljfhaa
