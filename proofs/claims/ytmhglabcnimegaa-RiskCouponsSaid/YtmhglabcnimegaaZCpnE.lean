/- coupon.Pending. -/
import Derived.Test.YtmhglabcnimegaaZCpnD
namespace Go.Proofs.Ytmhglabcnimegaa
open Go.RowKit
set_option linter.unusedVariables false
set_option linter.unusedSimpArgs false
/-- what Pending leaves -/
def PdW (L : List Due) (E : Int) (w : World) (e : Ending) (w' : World) : Prop := ∃ v, e = .returned (.tuple #[v, .int .i64 E]) ∧ w'.ownsRow w.heap.size 82 5 v L.length (flatE encDue L) ∧ Below w.heap.size w w'
theorem pdW_nil {L : List Due} {E k : Int} {w w' : World} (hL : L = []) (hE : E = k) (hb : Below w.heap.size w w') : PdW L E w (.returned (.tuple #[.slice none 0 0, .int .i64 k])) w' := by
  subst hL hE; exact ⟨_, rfl, World.ownsRow_nil _ _ _ _, hb⟩
theorem at_len {R : Reg} (h : RgOk R) (day : Int) : (rgAt R day).length ≤ 800 := (h.cut day).hl
theorem at_find {R : Reg} (h : RgOk R) (day : Int) : ∀ x ∈ rgAt R day, ∃ s, findS R.secs x.s = some s := fun x hx => by
  have hc := h.cut day
  have := repl_secs R.secs (msTo day R.ms) 0 0 [] hc.ok (by simp) x (by have := hc.hs; simp only at this; rw [this]; exact hx)
  exact Option.isSome_iff_exists.1 this
theorem flatE_cells2 {w : World} {b : Nat} {L : List Due} {T : TypeId} {base n cap : Nat} (h : w.ownsRow base T 5 (.slice (some ⟨b, 0, none⟩) n cap) n (flatE encDue L)) : ∀ j u, (flatE encDue L)[j]? = some u → w.cell? ((⟨b, 0, none⟩ : Addr).add j) = some u := fun j u hj => World.ownsRow.cells h (g := b) rfl j u hj
set_option maxHeartbeats 8000000 in
set_option maxRecDepth 100000 in
theorem pending_any (P : Nat → Prop) (vs vh vm : Value) (R : Reg) (day : Int) (w : World) (hr : RgIn P w vs vh vm R) (hS : R.secs.length ≤ 1000000) (hH : R.hs.length ≤ 1000000) (hM : R.ms.length ≤ 1000000) :
    Calls Try.prog 57 #[.agg #[vs, vh, vm], .int .i64 day] w (PdW (pdL R day) (pdE R day) w) := by
  obtain ⟨a0, n0, c0, rfl, -, -, -⟩ := hr.S.shape
  obtain ⟨a1, n1, c1, rfl, -, -, -⟩ := hr.H.shape
  obtain ⟨a2, n2, c2, rfl, -, -, -⟩ := hr.M.shape
  obtain ⟨E0, hE0⟩ : ∃ E, chkE R = E := ⟨_, rfl⟩
  have KA := Lib.hid (fun U (hU : Below w.heap.size w U) => check_any P _ _ _ R U (hr.below hU) hS hH hM)
  have hrq := fun U (hU : Below w.heap.size w U) => (hr.below hU).mono (Q := fun _ => True) (fun _ _ _ => trivial)
  have KB := Lib.hid (fun U (hU : Below w.heap.size w U) => rat_any (fun _ => True) _ _ _ R day U (hrq U hU) hS hH hM (fun _ _ => trivial))
  rw [hE0] at KA
  have HE0 := Lib.hid hE0
  have HR := Lib.hid hr
  clear hE0 hr hrq
  by_cases h0 : E0 = 0
  case neg =>
    have e1 := Lib.hid (show pdE R day = E0 by unfold pdE; rw [HE0.out, if_neg h0])
    have e2 := Lib.hid (show pdL R day = [] by unfold pdL; rw [e1.out, if_neg h0])
    have g1 : (E0 == 0) = false := by simpa using h0
    go_enter Try.func57, Try.ntmps57
    go_wp2_with fail
    refine (KA.out _ (bal brefl _)).mono ?_
    rintro e w1 ⟨rfl, hb1⟩
    go_wp2
    go_ret2
    exact pdW_nil e2.out e1.out (bup (bal brefl _) hb1)
  subst h0
  have hok := chkE_iff.1 HE0.out
  cases hd : inB day 0 35990
  case false =>
    have e1 := Lib.hid (show pdE R day = 2 by unfold pdE; rw [HE0.out, if_pos rfl, hd]; rfl)
    have e2 := Lib.hid (show pdL R day = [] by unfold pdL; rw [e1.out, if_neg (by omega)])
    go_enter Try.func57, Try.ntmps57
    go_wp2_with fail
    refine (KA.out _ (bal brefl _)).mono ?_
    rintro e w1 ⟨rfl, hb1⟩
    go_wp2_with ((go_at_call 111; refine (amongC_any _ _ _ _).mono ?_; rw [hd]; rintro e w' ⟨rfl, rfl⟩))
    go_ret2
    exact pdW_nil e2.out e1.out (bup (bal brefl _) hb1)
  have e1 := Lib.hid (show pdE R day = 0 by unfold pdE; rw [HE0.out, if_pos rfl, hd]; rfl)
  have e2 := Lib.hid (show pdL R day = (rgAt R day).flatMap (pdF R day) by unfold pdL; rw [e1.out, if_pos rfl])
  have hal := at_len hok day
  have HAF := Lib.hid (at_find hok day)
  obtain ⟨H, hHH⟩ : ∃ H, rgAt R day = H := ⟨_, rfl⟩
  rw [hHH] at KB e2 hal HAF
  obtain ⟨i1, hi, hz0, hz1, hz2⟩ := info_parts infoDue
  clear hHH hok
  rw [e1.out, e2.out]
  go_enter Try.func57, Try.ntmps57
  go_wp2_with fail
  refine (KA.out _ (bal brefl _)).mono ?_
  rintro e w1 ⟨rfl, hb1⟩
  have HB1 := Lib.hid (bup (bal brefl _) hb1)
  have r0 : w1.cell? ⟨w.heap.size, 0, none⟩ = some (.slice a0 n0 c0) := boxed_cell hb1 0 rfl
  have r1 : w1.cell? ⟨w.heap.size, 1, none⟩ = some (.slice a1 n1 c1) := boxed_cell hb1 1 rfl
  have r2 : w1.cell? ⟨w.heap.size, 2, none⟩ = some (.slice a2 n2 c2) := boxed_cell hb1 2 rfl
  clear hb1
  go_wp2_with fail
  refine (amongC_any _ _ _ _).mono ?_
  rw [hd]
  rintro e w' ⟨rfl, rfl⟩
  go_wp2_with fail
  refine (KB.out _ HB1.out).mono ?_
  rintro e w2 ⟨v2, rfl, hS2, hb2⟩
  obtain ⟨ho, hn, hc, rfl, hhn, -, -⟩ := hS2.shape
  have HS2 := Lib.hid hS2
  have HHN := Lib.hid hhn
  have hn8 : hn ≤ 800 := by omega
  have HB2 := Lib.hid (bup HB1.out hb2)
  have HR0 := Lib.hid (keepB hb2 r0)
  have HR1 := Lib.hid (keepB hb2 r1)
  have HR2 := Lib.hid (keepB hb2 r2)
  have hz2' : w.heap.size ≤ w2.heap.size := HB2.out.size
  clear hS2 hhn hb2 r0 r1 r2 hal
  go_wp2
  go_loopw [7, 24] (fun v iv wr => ∃ k : Nat, k ≤ hn ∧ iv = .int .i64 k ∧ wr.ownsRow w2.heap.size 82 5 v ((H.take k).flatMap (pdF R day)).length (flatE encDue ((H.take k).flatMap (pdF R day))) ∧ Below w2.heap.size w2 wr) (fun _ iv _ => hn - (intOf iv).toNat)
  case atStart => exact ⟨0, by omega, rfl, World.ownsRow_nil _ _ _ _, brefl⟩
  case round =>
    obtain ⟨k, hk, rfl, hown, hbr⟩ := hrel
    have HO := Lib.hid hown
    have HBR := Lib.hid hbr
    have HBr := Lib.hid (bup HB2.out hbr)
    have zr := hbr.size
    by_cases hlt : k < hn
    · obtain ⟨b, off, s, h, a, rfl, -, hbl, hx, k0, k1, k2⟩ := (HS2.out.below hbr).hold hlt
      obtain ⟨x, hfx⟩ := HAF.out _ (List.mem_of_getElem? hx)
      simp only at hfx
      obtain ⟨id, un, is, ma, ra, ev, ix⟩ := x
      have hF : pdF R day ⟨s, h, a⟩ = plL ⟨id, un, is, ma, ra, ev, ix⟩ day ⟨s, h, a⟩ := by unfold pdF; simp only; rw [hfx]
      obtain ⟨M, hM⟩ : ∃ M, plL ⟨id, un, is, ma, ra, ev, ix⟩ day ⟨s, h, a⟩ = M := ⟨_, rfl⟩
      have hMl : M.length ≤ 2 := by rw [← hM]; exact plL_len ..
      have hsn : (H.take (k + 1)).flatMap (pdF R day) = (H.take k).flatMap (pdF R day) ++ M := by rw [take_snocZ hx, List.flatMap_append]; simp [hF, hM]
      have hLl := flat_len (pdF R day) (pdF_len R day) (H.take k)
      have htk : (H.take k).length ≤ k := by rw [List.length_take]; omega
      obtain ⟨L, hL⟩ : ∃ L, (H.take k).flatMap (pdF R day) = L := ⟨_, rfl⟩
      rw [hL] at hLl hsn HO
      have HSN := Lib.hid hsn
      have hLl2 : L.length ≤ 1600 := by omega
      have s0 := keepB hbr HR0.out
      have s1 := keepB hbr HR1.out
      have s2 := keepB hbr HR2.out
      have hne : w.heap.size < wr.heap.size := World.block_lt_of_cell? _ _ s0
      have KF := Lib.hid (rfind_yes P _ _ _ R s id un is ma ra ev ix (wr.alloc (.cells #[.int .i64 s, .int .i64 h, .int .i64 a] 93)) (HR.out.below (bal HBr.out _)) hS hfx)
      have KP := Lib.hid (fun U => plain_any id un is ma ra ev ix s h a day U)
      rw [hM] at KP
      clear hown hbr hx hfx hF hM hsn hL hLl htk
      go_wp2_with fail
      refine KF.out.mono ?_
      rintro e w3 ⟨rfl, hb3⟩
      have z3 := hb3.size
      simp only [World.size_alloc] at z3
      have t0 : w3.cell? ⟨wr.heap.size, 0, none⟩ = some (.int .i64 s) := boxed_cell hb3 0 rfl
      have t1 : w3.cell? ⟨wr.heap.size, 1, none⟩ = some (.int .i64 h) := boxed_cell hb3 1 rfl
      have t2 : w3.cell? ⟨wr.heap.size, 2, none⟩ = some (.int .i64 a) := boxed_cell hb3 2 rfl
      have hlt3 : wr.heap.size < w3.heap.size := by omega
      have HB3 := Lib.hid (bal (bup (bal HBR.out _) hb3) (.cells #[.int .i64 id, .int .i64 un, .int .i64 is, .int .i64 ma, .int .i64 ra, .int .i64 ev, .bool ix] 41))
      have HO3 := Lib.hid ((ownsRow_belowZ (HO.out.alloc _) hb3).alloc (.cells #[.int .i64 id, .int .i64 un, .int .i64 is, .int .i64 ma, .int .i64 ra, .int .i64 ev, .bool ix] 41))
      clear hb3 k0 k1 k2 s0 s1 s2
      go_wp2_with fail
      refine (KP.out _).mono ?_
      rintro e w4 ⟨v4, rfl, hown4, hb4⟩
      have z4 := hb4.size
      simp only [World.size_alloc] at z4
      have HB4 := Lib.hid (bup HB3.out hb4)
      have hO4 := ownsRow_belowZ HO3.out hb4
      have hB4z : w2.heap.size ≤ w4.heap.size := HB4.out.size
      have H4 := Lib.hid hown4
      rcases hown4.2 with ⟨rfl, hM0⟩ | ⟨g, cap, cur, rfl, -⟩
      · have hMn : M = [] := List.eq_nil_of_length_eq_zero hM0
        subst hMn
        clear hown4 hb4 hM0
        go_wp2_with (at_builtin; go_must (refine wpList_append_own_none rfl _ _ 78 rfl w2.heap.size 82 i1 5 Try.underlying78 hi _ L.length (flatE encDue L) rfl hO4 rfl ?_))
        go_wp2
        go_roundw
        case rel => exact ⟨k + 1, by omega, by go_num, by rw [HSN.out, List.append_nil]; exact hO4, HB4.out⟩
        case measure => simp [intOf]; omega
      · have hcells := flatE_cells2 H4.out
        clear hown4 hb4
        go_wp2_with (at_builtin; go_must (refine wpList_append_own _ rfl _ _ 78 rfl w2.heap.size 82 i1 (.agg #[.int .i64 0, .int .i64 0, .int .i64 0, .int .i64 0, .int .i64 0]) 5 40 Try.underlying78 hi hz0 hz1 hz2 rfl (by decide) _ L.length (flatE encDue L) rfl hO4 ⟨g, 0, none⟩ M.length cap (flatE encDue M) rfl (flatE_length encDue_len M) hcells (oneE oneDue M) (by unfold maxLen; omega) (by omega) hB4z ?_); intro v5 w5 hown5 hg5 _)
        have HB5 := Lib.hid (HB4.out.grown hg5 hB4z (fun q hq => (hO4.lt q hq).1))
        go_wp2
        go_roundw
        case rel => exact ⟨k + 1, by omega, by go_num, by rw [HSN.out, List.length_append, flatE_append]; exact hown5, HB5.out⟩
        case measure => simp [intOf]; omega
    · have hkn : k = hn := by omega
      subst hkn
      have hta : H.take k = H := take_all (by have := HHN.out; omega)
      rw [hta] at HO
      have HO2 := Lib.hid (ownsRow_baseZ HO.out (b' := w.heap.size) hz2')
      obtain ⟨fo, fc, rfl⟩ := own_slice0' hown
      clear hown hta hbr
      go_wp2
      go_ret2
      exact ⟨_, rfl, HO2.out, HBr.out⟩
end Go.Proofs.Ytmhglabcnimegaa
