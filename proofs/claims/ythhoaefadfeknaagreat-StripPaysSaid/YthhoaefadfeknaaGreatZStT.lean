/- Strips: Pay, in plain lists; its closure; rows as slices of their own block. Strips: Pay. Printed by wip/gen/stt.py. -/
import Derived.Test.YthhoaefadfeknaaGreatZStL
import Derived.Test.YthhoaefadfeknaaGreatZStN
import Derived.Test.YthhoaefadfeknaaGreatZFnStp
namespace Go.Proofs.YthhoaefadfeknaaGreat
open Go.RowKit
set_option linter.unusedVariables false
set_option linter.unusedSimpArgs false
/-- what is stripped of securities that are due is redeemed -/
def payF (R : Reg) (day : Int) : List Sec → Reg → Int × Reg
  | [], RO => (0, RO)
  | s :: S, RO => if day < s.ma ∨ rgHeld R s.id 1000 = 0 then payF R day S RO
    else if rmE RO ⟨0, day, 3, s.id, 1000, 0, rgHeld R s.id 1000⟩ = 0 then payF R day S (rmR RO ⟨0, day, 3, s.id, 1000, 0, rgHeld R s.id 1000⟩)
    else (rmE RO ⟨0, day, 3, s.id, 1000, 0, rgHeld R s.id 1000⟩, ⟨[], [], []⟩)
def laterL (L : List Stp) (day : Int) : List Stp := L.filter fun x => !decide (x.d ≤ day)
def pyE (R : Reg) (L : List Stp) (day : Int) : Int := if vkE R L = 0 then (if inB day 0 36000 then (payF R day R.secs R).1 else 2) else vkE R L
def pyR (R : Reg) (L : List Stp) (day : Int) : Reg := if pyE R L day = 0 then (payF R day R.secs R).2 else ⟨[], [], []⟩
def pyL (R : Reg) (L : List Stp) (day : Int) : List Stp := if pyE R L day = 0 then laterL L day else []
theorem rmR_ok3 {RO : Reg} {day s n : Int} (h : rmE RO ⟨0, day, 3, s, 1000, 0, n⟩ = 0) : chkE (rmR RO ⟨0, day, 3, s, 1000, 0, n⟩) = 0 := chkE_move h ⟨by simp, by simp⟩
theorem stpay1_any (xs xd : Int) (xp : Bool) (xh xa day : Int) (B : Nat) (w : World) (hB : w.cell? ⟨B, 0, none⟩ = some (.int .i64 day)) :
    Calls Tryz.prog 143 #[.agg #[.int .i64 xs, .int .i64 xd, .bool xp, .int .i64 xh, .int .i64 xa], .pointer (some ⟨B, 0, none⟩)] w fun e w' => e = .returned (.bool (decide (xd ≤ day))) ∧ Below w.heap.size w w' := by
  have hbl := World.block_lt_of_cell? w _ hB
  simp only at hbl
  have k0 := keepA (o := .cells #[.int .i64 xs, .int .i64 xd, .bool xp, .int .i64 xh, .int .i64 xa] 88) hB
  have hne : ¬ B = w.heap.size := by omega
  go_enter Tryz.func143, Tryz.ntmps143
  go_wp2
  go_ret
  exact ⟨ret_bool (by first | rfl | simp), bal brefl _⟩
/-- a row of the call's own, as a slice of just its block -/
theorem Sl.ownB {α : Type} {z : Nat} {enc : α → List Value} (hz : ∀ a, (enc a).length = z) {w : World} {base : Nat} {e : TypeId} {v : Value} {n : Nat} {L : List α} (h : w.ownsRow base e z v n (flatE enc L)) (hn : L.length = n) : Sl z enc (fun b => v.ownBlock = some b ∧ base ≤ b) w v L := by
  rcases Nat.eq_zero_or_pos n with h0 | h0
  · rcases h.2 with ⟨rfl, rfl⟩ | ⟨g, cap, cur, rfl, hbg, hg, hnc, hcm, hcs, htake⟩
    · exact ⟨none, 0, 0, rfl, hn, Nat.le_refl _, Nat.zero_le _, .inl rfl⟩
    · exact ⟨_, n, cap, rfl, hn, hnc, hcm, .inl h0⟩
  · obtain ⟨g, cap, rfl, hbg, hg, hnc, hcm, hc, _⟩ := ownZ_shape h h0
    refine ⟨_, n, cap, rfl, hn, hnc, hcm, .inr ⟨g, 0, rfl, ⟨rfl, hbg⟩, hg, fun j a hj i u hi => ?_⟩⟩
    rw [Nat.zero_add]
    exact hc _ u (flatE_get hz L j a hj i u hi)
end Go.Proofs.YthhoaefadfeknaaGreat
namespace Go.Proofs.YthhoaefadfeknaaGreat
open Go.RowKit
set_option linter.unusedVariables false
set_option linter.unusedSimpArgs false
/-- the strips that are paid are struck: a row that is the call's own -/
theorem paydel (w3 U : World) (M L : List Stp) (day : Int) (b0 : Nat) (ao : Option Addr) (cp : Nat) (eg : ∀ args w, (callFunc 143 args).run Tryz.prog w = .ok (.enter 143 args) w) (hM : laterL L day = M)
    (ho : U.ownsRow w3.heap.size 88 5 (.slice ao L.length cp) L.length (flatE encStp L)) (hU : Below w3.heap.size w3 U) (hz : b0 + 1 + 1 < w3.heap.size) (hx : w3.cell? ⟨b0 + 1, 0, none⟩ = some (.int .i64 day)) (hl : L.length ≤ 400) :
    Calls Tryz.prog 142 #[.slice ao L.length cp, .func (.func 143) #[] #[.pointer (some ⟨b0 + 1, 0, none⟩)]] U (AddP w3.heap.size M U) := by
  have hx1 := keepB hU hx
  have hpro : ProStp 143 #[.pointer (some ⟨b0 + 1, 0, none⟩)] (Value.slice ao L.length cp).ownBlock (fun x => decide (x.d ≤ day)) (fun _ => True) U := fun W hW x _ =>
    stpay1_any x.s x.d x.p x.h x.a day (b0 + 1) W ((World.cell?_of_block (a := ⟨b0 + 1, 0, none⟩) (hW.block _ (World.block_lt_of_cell? U _ hx1) (fun hq => by have := (ho.lt _ hq.symm).1; simp only at this; omega))).trans hx1)
  refine (dlfStp_any _ _ _ (fun _ => True) w3.heap.size _ L U eg hpro (fun _ _ => trivial) ho (by omega)).mono ?_
  rintro e w' ⟨v', rfl, ho', hg⟩
  have e1 : (L.filter fun x => !decide (x.d ≤ day)) = M := hM
  rw [e1] at ho'
  exact ⟨v', rfl, ho', FrP.grown ho brefl hU.size hg⟩
theorem vheap3 {w : World} {b : Nat} {T : TypeId} {u0 u1 u2 u3 : Value} (v0 v1 v2 : Value) (h : w.heap[b]? = some (.cells #[u0, u1, u2, u3] T (0, 0))) : (((w.setCell ⟨b, 0, none⟩ v0).setCell ⟨b, 1, none⟩ v1).setCell ⟨b, 2, none⟩ v2).heap[b]? = some (.cells #[v0, v1, v2, u3] T (0, 0)) := by
  have e0 := heap_setCell_same w _ 0 _ _ v0 h
  have e1 := heap_setCell_same _ _ 1 _ _ v1 e0
  have e2 := heap_setCell_same _ _ 2 _ _ v2 e1
  rw [e2]; rfl
set_option maxHeartbeats 16000000 in
set_option maxRecDepth 100000 in
theorem stpay_any (P : Nat → Prop) (vs vh vm vt : Value) (R : Reg) (L : List Stp) (day : Int) (w : World) (hv : VkIn P w vs vh vm vt R L) (hP : ∀ b, w.heap.size + 3 ≤ b → P b) :
    Calls Tryz.prog 72 #[.agg #[vs, vh, vm, vt], .int .i64 day] w (GaveV P (pyR R L day) (pyL R L day) (pyE R L day) w) := by
  obtain ⟨a0, n0, c0, rfl, -, -, -⟩ := hv.rg.S.shape
  obtain ⟨a1, n1, c1, rfl, -, -, -⟩ := hv.rg.H.shape
  obtain ⟨a2, n2, c2, rfl, -, -, -⟩ := hv.rg.M.shape
  obtain ⟨a3, n3, c3, rfl, -, -, -⟩ := hv.st.shape
  have KC := Lib.hid (fun U (hU : Below w.heap.size w U) => vcheck_any P _ _ _ _ R L U (hv.below hU))
  obtain ⟨E1, hE1⟩ : ∃ E, vkE R L = E := ⟨_, rfl⟩
  rw [hE1] at KC
  obtain ⟨E, hE⟩ : ∃ E, pyE R L day = E := ⟨_, rfl⟩
  obtain ⟨RR, hRR⟩ : ∃ E, pyR R L day = E := ⟨_, rfl⟩
  obtain ⟨LL, hLL⟩ : ∃ E, pyL R L day = E := ⟨_, rfl⟩
  rw [hE, hRR, hLL]
  unfold pyR at hRR
  unfold pyL at hLL
  rw [hE] at hRR hLL
  unfold pyE at hE
  rw [hE1] at hE
  have HV := Lib.hid hv
  have HP := Lib.hid hP
  have HE := Lib.hid hE
  have HRR := Lib.hid hRR
  have HLL := Lib.hid hLL
  have HE1 := Lib.hid hE1
  clear hv hP hE hRR hLL hE1
  by_cases h1 : E1 = 0
  case neg =>
    have hE := HE.out
    rw [if_neg h1] at hE
    subst hE
    have hR := HRR.out
    have hL := HLL.out
    rw [if_neg h1] at hR hL
    have HR0 := Lib.hid hR
    have HL0 := Lib.hid hL
    clear hR hL
    have g1 : (E1 != 0) = true := by simpa using h1
    have g2 : (E1 == 0) = false := by simpa using h1
    go_enter Tryz.func72, Tryz.ntmps72
    go_wp2_with fail
    refine (KC.out _ (bal (bal (bal brefl _) _) _)).mono ?_
    rintro e w1 ⟨rfl, hb1⟩
    have r0 : w1.cell? ⟨w.heap.size + 1 + 1, 0, none⟩ = some (.slice none 0 0) := by have q := boxed_cell hb1 0 (v := .slice none 0 0) rfl; simpa using q
    have r1 : w1.cell? ⟨w.heap.size + 1 + 1, 1, none⟩ = some (.slice none 0 0) := by have q := boxed_cell hb1 1 (v := .slice none 0 0) rfl; simpa using q
    have r2 : w1.cell? ⟨w.heap.size + 1 + 1, 2, none⟩ = some (.slice none 0 0) := by have q := boxed_cell hb1 2 (v := .slice none 0 0) rfl; simpa using q
    have r3 : w1.cell? ⟨w.heap.size + 1 + 1, 3, none⟩ = some (.slice none 0 0) := by have q := boxed_cell hb1 3 (v := .slice none 0 0) rfl; simpa using q
    have rf := fun o => frozen_of_row w1 (w.heap.size + 1 + 1) o _ _ (show w1.heap[w.heap.size + 1 + 1]? = some (.cells #[.slice none 0 0, .slice none 0 0, .slice none 0 0, .slice none 0 0] 69 (0, 0)) from (hb1.block _ (by simp)).trans (heap_at (by simp)))
    have HB := Lib.hid (bup (bal (bal (bal brefl _) _) _) hb1)
    have z1 : w.heap.size + 1 + 1 < w1.heap.size := by have := hb1.size; simp at this; omega
    clear hb1
    go_wp2
    refine bodyPost_ret (v := .tuple #[.agg #[.slice none 0 0, .slice none 0 0, .slice none 0 0, .slice none 0 0], .int .i64 E1]) (by simp [results, Tryz.results72, go_sem, *]) rfl (gaveV_nil HR0.out.symm HL0.out.symm rfl ?_)
    exact vset4 HB.out (by omega) _ _ _ _
  subst h1
  have HVK := Lib.hid (vkE_iff.1 HE1.out)
  have hE := HE.out
  rw [if_pos rfl] at hE
  obtain ⟨t, ht⟩ : ∃ t, inB day 0 36000 = t := ⟨_, rfl⟩
  rw [ht] at hE
  have HEA := Lib.hid hE
  have HT := Lib.hid ht
  clear hE HE ht
  cases t with
  | false =>
    have hE := HEA.out
    rw [if_neg (by decide)] at hE
    subst hE
    have hR := HRR.out
    have hL := HLL.out
    rw [if_neg (by decide)] at hR hL
    have HR0 := Lib.hid hR
    have HL0 := Lib.hid hL
    clear hR hL
    have hd : day < 0 ∨ 36000 < day := by
      have q := HT.out
      rw [Bool.eq_false_iff] at q
      by_cases h0 : day < 0
      · exact .inl h0
      · exact .inr (by
          by_cases h : 36000 < day
          · exact h
          · exact absurd (inB_iff.2 ⟨by omega, by omega⟩) q)
    by_cases hd0 : day < 0
    · go_enter Tryz.func72, Tryz.ntmps72
      go_wp2_with fail
      refine (KC.out _ (bal (bal (bal brefl _) _) _)).mono ?_
      rintro e w1 ⟨rfl, hb1⟩
      have b0 : w1.cell? ⟨w.heap.size, 0, none⟩ = some (.slice a0 n0 c0) := (hb1.cell (p := ⟨w.heap.size, 0, none⟩) (by simp; omega)).trans ((World.cell?_alloc_past _ _ _ (by simp; omega)).trans ((World.cell?_alloc_past _ _ _ (by simp)).trans (World.cell?_alloc_at _ _ _ _ rfl)))
      have b1 : w1.cell? ⟨w.heap.size, 1, none⟩ = some (.slice a1 n1 c1) := (hb1.cell (p := ⟨w.heap.size, 1, none⟩) (by simp; omega)).trans ((World.cell?_alloc_past _ _ _ (by simp; omega)).trans ((World.cell?_alloc_past _ _ _ (by simp)).trans (World.cell?_alloc_at _ _ _ _ rfl)))
      have b2 : w1.cell? ⟨w.heap.size, 2, none⟩ = some (.slice a2 n2 c2) := (hb1.cell (p := ⟨w.heap.size, 2, none⟩) (by simp; omega)).trans ((World.cell?_alloc_past _ _ _ (by simp; omega)).trans ((World.cell?_alloc_past _ _ _ (by simp)).trans (World.cell?_alloc_at _ _ _ _ rfl)))
      have b3 : w1.cell? ⟨w.heap.size, 3, none⟩ = some (.slice a3 n3 c3) := (hb1.cell (p := ⟨w.heap.size, 3, none⟩) (by simp; omega)).trans ((World.cell?_alloc_past _ _ _ (by simp; omega)).trans ((World.cell?_alloc_past _ _ _ (by simp)).trans (World.cell?_alloc_at _ _ _ _ rfl)))
      have nx : w1.cell? ⟨w.heap.size + 1, 0, none⟩ = some (.int .i64 day) := (hb1.cell (p := ⟨w.heap.size + 1, 0, none⟩) (by simp)).trans ((World.cell?_alloc_past _ _ _ (by simp)).trans (World.cell?_alloc_at _ _ _ _ (by simp)))
      have r0 : w1.cell? ⟨w.heap.size + 1 + 1, 0, none⟩ = some (.slice none 0 0) := by have q := boxed_cell hb1 0 (v := .slice none 0 0) rfl; simpa using q
      have r1 : w1.cell? ⟨w.heap.size + 1 + 1, 1, none⟩ = some (.slice none 0 0) := by have q := boxed_cell hb1 1 (v := .slice none 0 0) rfl; simpa using q
      have r2 : w1.cell? ⟨w.heap.size + 1 + 1, 2, none⟩ = some (.slice none 0 0) := by have q := boxed_cell hb1 2 (v := .slice none 0 0) rfl; simpa using q
      have r3 : w1.cell? ⟨w.heap.size + 1 + 1, 3, none⟩ = some (.slice none 0 0) := by have q := boxed_cell hb1 3 (v := .slice none 0 0) rfl; simpa using q
      have rf := fun o => frozen_of_row w1 (w.heap.size + 1 + 1) o _ _ (show w1.heap[w.heap.size + 1 + 1]? = some (.cells #[.slice none 0 0, .slice none 0 0, .slice none 0 0, .slice none 0 0] 69 (0, 0)) from (hb1.block _ (by simp)).trans (heap_at (by simp)))
      have HB := Lib.hid (bup (bal (bal (bal brefl _) _) _) hb1)
      have z1 : w.heap.size + 1 + 1 < w1.heap.size := by have := hb1.size; simp at this; omega
      clear hb1
      go_wp2
      refine bodyPost_ret (v := .tuple #[.agg #[.slice none 0 0, .slice none 0 0, .slice none 0 0, .slice none 0 0], .int .i64 2]) (by simp [results, Tryz.results72, go_sem, *]) rfl (gaveV_nil HR0.out.symm HL0.out.symm rfl ?_)
      exact vset4 HB.out (by omega) _ _ _ _
    · have hd1 : 36000 < day := by omega
      clear hd
      go_enter Tryz.func72, Tryz.ntmps72
      go_wp2_with fail
      refine (KC.out _ (bal (bal (bal brefl _) _) _)).mono ?_
      rintro e w1 ⟨rfl, hb1⟩
      have b0 : w1.cell? ⟨w.heap.size, 0, none⟩ = some (.slice a0 n0 c0) := (hb1.cell (p := ⟨w.heap.size, 0, none⟩) (by simp; omega)).trans ((World.cell?_alloc_past _ _ _ (by simp; omega)).trans ((World.cell?_alloc_past _ _ _ (by simp)).trans (World.cell?_alloc_at _ _ _ _ rfl)))
      have b1 : w1.cell? ⟨w.heap.size, 1, none⟩ = some (.slice a1 n1 c1) := (hb1.cell (p := ⟨w.heap.size, 1, none⟩) (by simp; omega)).trans ((World.cell?_alloc_past _ _ _ (by simp; omega)).trans ((World.cell?_alloc_past _ _ _ (by simp)).trans (World.cell?_alloc_at _ _ _ _ rfl)))
      have b2 : w1.cell? ⟨w.heap.size, 2, none⟩ = some (.slice a2 n2 c2) := (hb1.cell (p := ⟨w.heap.size, 2, none⟩) (by simp; omega)).trans ((World.cell?_alloc_past _ _ _ (by simp; omega)).trans ((World.cell?_alloc_past _ _ _ (by simp)).trans (World.cell?_alloc_at _ _ _ _ rfl)))
      have b3 : w1.cell? ⟨w.heap.size, 3, none⟩ = some (.slice a3 n3 c3) := (hb1.cell (p := ⟨w.heap.size, 3, none⟩) (by simp; omega)).trans ((World.cell?_alloc_past _ _ _ (by simp; omega)).trans ((World.cell?_alloc_past _ _ _ (by simp)).trans (World.cell?_alloc_at _ _ _ _ rfl)))
      have nx : w1.cell? ⟨w.heap.size + 1, 0, none⟩ = some (.int .i64 day) := (hb1.cell (p := ⟨w.heap.size + 1, 0, none⟩) (by simp)).trans ((World.cell?_alloc_past _ _ _ (by simp)).trans (World.cell?_alloc_at _ _ _ _ (by simp)))
      have r0 : w1.cell? ⟨w.heap.size + 1 + 1, 0, none⟩ = some (.slice none 0 0) := by have q := boxed_cell hb1 0 (v := .slice none 0 0) rfl; simpa using q
      have r1 : w1.cell? ⟨w.heap.size + 1 + 1, 1, none⟩ = some (.slice none 0 0) := by have q := boxed_cell hb1 1 (v := .slice none 0 0) rfl; simpa using q
      have r2 : w1.cell? ⟨w.heap.size + 1 + 1, 2, none⟩ = some (.slice none 0 0) := by have q := boxed_cell hb1 2 (v := .slice none 0 0) rfl; simpa using q
      have r3 : w1.cell? ⟨w.heap.size + 1 + 1, 3, none⟩ = some (.slice none 0 0) := by have q := boxed_cell hb1 3 (v := .slice none 0 0) rfl; simpa using q
      have rf := fun o => frozen_of_row w1 (w.heap.size + 1 + 1) o _ _ (show w1.heap[w.heap.size + 1 + 1]? = some (.cells #[.slice none 0 0, .slice none 0 0, .slice none 0 0, .slice none 0 0] 69 (0, 0)) from (hb1.block _ (by simp)).trans (heap_at (by simp)))
      have HB := Lib.hid (bup (bal (bal (bal brefl _) _) _) hb1)
      have z1 : w.heap.size + 1 + 1 < w1.heap.size := by have := hb1.size; simp at this; omega
      clear hb1
      go_wp2
      refine bodyPost_ret (v := .tuple #[.agg #[.slice none 0 0, .slice none 0 0, .slice none 0 0, .slice none 0 0], .int .i64 2]) (by simp [results, Tryz.results72, go_sem, *]) rfl (gaveV_nil HR0.out.symm HL0.out.symm rfl ?_)
      exact vset4 HB.out (by omega) _ _ _ _
  | true =>
  obtain ⟨hd0, hd1⟩ := inB_iff.1 HT.out
  have hd0' : ¬ day < 0 := by omega
  have hd1' : ¬ 36000 < day := by omega
  have hE := HEA.out
  rw [if_pos rfl] at hE
  have HEB := Lib.hid hE
  clear hE HEA
  go_enter Tryz.func72, Tryz.ntmps72
  go_wp2_with fail
  refine (KC.out _ (bal (bal (bal brefl _) _) _)).mono ?_
  rintro e w1 ⟨rfl, hb1⟩
  have b0 : w1.cell? ⟨w.heap.size, 0, none⟩ = some (.slice a0 n0 c0) := (hb1.cell (p := ⟨w.heap.size, 0, none⟩) (by simp; omega)).trans ((World.cell?_alloc_past _ _ _ (by simp; omega)).trans ((World.cell?_alloc_past _ _ _ (by simp)).trans (World.cell?_alloc_at _ _ _ _ rfl)))
  have b1 : w1.cell? ⟨w.heap.size, 1, none⟩ = some (.slice a1 n1 c1) := (hb1.cell (p := ⟨w.heap.size, 1, none⟩) (by simp; omega)).trans ((World.cell?_alloc_past _ _ _ (by simp; omega)).trans ((World.cell?_alloc_past _ _ _ (by simp)).trans (World.cell?_alloc_at _ _ _ _ rfl)))
  have b2 : w1.cell? ⟨w.heap.size, 2, none⟩ = some (.slice a2 n2 c2) := (hb1.cell (p := ⟨w.heap.size, 2, none⟩) (by simp; omega)).trans ((World.cell?_alloc_past _ _ _ (by simp; omega)).trans ((World.cell?_alloc_past _ _ _ (by simp)).trans (World.cell?_alloc_at _ _ _ _ rfl)))
  have b3 : w1.cell? ⟨w.heap.size, 3, none⟩ = some (.slice a3 n3 c3) := (hb1.cell (p := ⟨w.heap.size, 3, none⟩) (by simp; omega)).trans ((World.cell?_alloc_past _ _ _ (by simp; omega)).trans ((World.cell?_alloc_past _ _ _ (by simp)).trans (World.cell?_alloc_at _ _ _ _ rfl)))
  have nx : w1.cell? ⟨w.heap.size + 1, 0, none⟩ = some (.int .i64 day) := (hb1.cell (p := ⟨w.heap.size + 1, 0, none⟩) (by simp)).trans ((World.cell?_alloc_past _ _ _ (by simp)).trans (World.cell?_alloc_at _ _ _ _ (by simp)))
  have r0 : w1.cell? ⟨w.heap.size + 1 + 1, 0, none⟩ = some (.slice none 0 0) := by have q := boxed_cell hb1 0 (v := .slice none 0 0) rfl; simpa using q
  have r1 : w1.cell? ⟨w.heap.size + 1 + 1, 1, none⟩ = some (.slice none 0 0) := by have q := boxed_cell hb1 1 (v := .slice none 0 0) rfl; simpa using q
  have r2 : w1.cell? ⟨w.heap.size + 1 + 1, 2, none⟩ = some (.slice none 0 0) := by have q := boxed_cell hb1 2 (v := .slice none 0 0) rfl; simpa using q
  have r3 : w1.cell? ⟨w.heap.size + 1 + 1, 3, none⟩ = some (.slice none 0 0) := by have q := boxed_cell hb1 3 (v := .slice none 0 0) rfl; simpa using q
  have rf := fun o => frozen_of_row w1 (w.heap.size + 1 + 1) o _ _ (show w1.heap[w.heap.size + 1 + 1]? = some (.cells #[.slice none 0 0, .slice none 0 0, .slice none 0 0, .slice none 0 0] 69 (0, 0)) from (hb1.block _ (by simp)).trans (heap_at (by simp)))
  have HB := Lib.hid (bup (bal (bal (bal brefl _) _) _) hb1)
  have z1 : w.heap.size + 1 + 1 < w1.heap.size := by have := hb1.size; simp at this; omega
  clear hb1
  go_upto_region 6 with fail
  obtain ⟨w3, hw3⟩ : ∃ W, W = w1 := ⟨_, rfl⟩
  subst hw3
  have KCP := Lib.hid (fun U (hU : Below w.heap.size w U) => copy_any P _ _ _ R U (HV.out.rg.below hU) HV.out.lS HV.out.lH HV.out.lM)
  have KCL := Lib.hid (fun U (hU : Below w.heap.size w U) => cloneStp_any P _ L U (HV.out.st.below hU) HV.out.lL)
  obtain ⟨M, hM⟩ : ∃ M, laterL L day = M := ⟨_, rfl⟩
  have eg : ∀ args w, (callFunc 143 args).run Tryz.prog w = .ok (.enter 143 args) w := enters_of Tryz.func143 (by kernel_rfl) rfl
  have KDF := Lib.hid (fun (ao : Option Addr) (cp : Nat) (U : World) (ho : U.ownsRow w3.heap.size 88 5 (.slice ao L.length cp) L.length (flatE encStp L)) (hU : Below w3.heap.size w3 U) => paydel w3 U M L day w.heap.size ao cp eg hM ho hU z1 nx HVK.out.ln)
  have HM := Lib.hid hM
  have HBW := Lib.hid HB.out
  clear hM eg
  rw [show decide (day < 0) = false from decide_eq_false (by omega), show decide (36000 < day) = false from decide_eq_false (by omega)]
  rw [show (false || false) = false from rfl]
  go_cut [7] (fun s7 wx => VbPost R M w3 s7 wx)
  case first =>
    refine wp_region_any (by kernel_rfl) ?_
    change wpAny _ _ _ _ _ _ _ (World.drew _)
    refine vf_anyP_inv (J := fun listed a' w' => ∃ t7 t26 t27 t28 t29 t30 t31 t32 t33 t34 : Value, a' = { tmps := #[Value.agg #[Value.slice a0 n0 c0, Value.slice a1 n1 c1, Value.slice a2 n2 c2, Value.slice a3 n3 c3], Value.int IntKind.i64 day, Value.pointer (some ⟨w.heap.size, 0, none⟩), Value.pointer (some ⟨w.heap.size + 1, 0, none⟩), Value.pointer (some ⟨w.heap.size + 1 + 1, 0, none⟩), Value.int IntKind.i64 0, Value.int IntKind.i64 0, t7, undef, undef, undef, undef, undef, Value.agg #[Value.slice a0 n0 c0, Value.slice a1 n1 c1, Value.slice a2 n2 c2, Value.slice a3 n3 c3], Value.int IntKind.i64 0, Value.int IntKind.i64 0, Value.bool false, undef, undef, Value.int IntKind.i64 day, Value.bool false, Value.bool false, Value.int IntKind.i64 day, Value.bool false, Value.bool false, undef, t26, t27, t28, t29, t30, t31, t32, t33, t34, undef, undef, undef, undef, undef, undef, undef, undef, undef, undef, undef, undef, undef, undef, undef, undef, undef, undef, undef, undef, undef, undef, undef, undef, undef, undef, undef, undef, undef, undef, undef, undef, undef, undef, undef, undef, undef, undef, undef], defers := [] } ∧ listed.size = 11 ∧ (listed.getD 0 false = true → t26 = .pointer (some ⟨w.heap.size, 0, none⟩)) ∧ (listed.getD 1 false = true → t27 = .agg #[.slice a0 n0 c0, .slice a1 n1 c1, .slice a2 n2 c2]) ∧ (listed.getD 3 false = true → t29 = .pointer (some ⟨w.heap.size, 3, none⟩)) ∧ (listed.getD 4 false = true → t30 = .slice a3 n3 c3) ∧ (listed.getD 6 false = true → t32 = .func (.func 143) #[] #[.pointer (some ⟨w.heap.size + 1, 0, none⟩)]) ∧ (listed.getD 8 false = true → listed.getD 7 false = true) ∧ (listed.getD 10 false = true → listed.getD 9 false = true ∧ listed.getD 8 false = true ∧ listed.getD 7 false = true) ∧ VbI R L M w3 (listed.getD 2 false) (listed.getD 5 false) (listed.getD 7 false) (listed.getD 8 false) (listed.getD 9 false) (listed.getD 10 false) t28 t31 t33 t34 t7 w') ?step ?fin _ _ _ _ ⟨undef, undef, undef, undef, undef, undef, undef, undef, undef, undef, rfl, rfl, fun h => by simp at h, fun h => by simp at h, fun h => by simp at h, fun h => by simp at h, fun h => by simp at h, fun h => by simp at h, fun h => by simp at h, VbI.start w3 (bdr brefl)⟩ (by decide)
    case step =>
      rintro listed a' w' ⟨t7, t26, t27, t28, t29, t30, t31, t32, t33, t34, rfl, hsz, f0, f1, f3, f4, f6, oB, oS, hvb⟩ i hi K hK
      obtain ⟨hni, o, ho, hdep⟩ := mem_ready.1 hi
      have hin : i < 11 := (Array.getElem?_eq_some_iff.1 ho).1
      have hself := vf_listed_self hni
      have hno := vf_listed_no hni
      rcases (show i = 0 ∨ i = 1 ∨ i = 2 ∨ i = 3 ∨ i = 4 ∨ i = 5 ∨ i = 6 ∨ i = 7 ∨ i = 8 ∨ i = 9 ∨ i = 10 by omega) with rfl | rfl | rfl | rfl | rfl | rfl | rfl | rfl | rfl | rfl | rfl
      · injection ho with ho
        subst ho
        have g2 : (listed.setIfInBounds 0 true).getD 2 false = listed.getD 2 false := getD_set_ne _ (by decide)
        have g5 : (listed.setIfInBounds 0 true).getD 5 false = listed.getD 5 false := getD_set_ne _ (by decide)
        have g7 : (listed.setIfInBounds 0 true).getD 7 false = listed.getD 7 false := getD_set_ne _ (by decide)
        have g8 : (listed.setIfInBounds 0 true).getD 8 false = listed.getD 8 false := getD_set_ne _ (by decide)
        have g9 : (listed.setIfInBounds 0 true).getD 9 false = listed.getD 9 false := getD_set_ne _ (by decide)
        have g10 : (listed.setIfInBounds 0 true).getD 10 false = listed.getD 10 false := getD_set_ne _ (by decide)
        have HVB := Lib.hid hvb
        clear hi hdep hvb
        refine vf_wpOpP_of rfl rfl ?_
        go_simp
        exact hK _ _ ⟨t7, (.pointer (some ⟨w.heap.size, 0, none⟩)), t27, t28, t29, t30, t31, t32, t33, t34, rfl, by simpa using hsz, fun _ => rfl, fun h => f1 (vf_listed_ne (by decide) h), fun h => f3 (vf_listed_ne (by decide) h), fun h => f4 (vf_listed_ne (by decide) h), fun h => f6 (vf_listed_ne (by decide) h), fun h => vf_listed_keep (oB (vf_listed_ne (by decide) h)), fun h => by have k := oS (vf_listed_ne (by decide) h); exact ⟨vf_listed_keep k.1, vf_listed_keep k.2.1, vf_listed_keep k.2.2⟩, by rw [g2, g5, g7, g8, g9, g10]; exact HVB.out⟩
      · injection ho with ho
        subst ho
        have d0 := hdep ⟨0, .data⟩ (by simp) rfl
        have g2 : (listed.setIfInBounds 1 true).getD 2 false = listed.getD 2 false := getD_set_ne _ (by decide)
        have g5 : (listed.setIfInBounds 1 true).getD 5 false = listed.getD 5 false := getD_set_ne _ (by decide)
        have g7 : (listed.setIfInBounds 1 true).getD 7 false = listed.getD 7 false := getD_set_ne _ (by decide)
        have g8 : (listed.setIfInBounds 1 true).getD 8 false = listed.getD 8 false := getD_set_ne _ (by decide)
        have g9 : (listed.setIfInBounds 1 true).getD 9 false = listed.getD 9 false := getD_set_ne _ (by decide)
        have g10 : (listed.setIfInBounds 1 true).getD 10 false = listed.getD 10 false := getD_set_ne _ (by decide)
        obtain rfl := f0 d0
        have lc0 := keepB hvb.bel b0
        have lc1 := keepB hvb.bel b1
        have lc2 := keepB hvb.bel b2
        have HVB := Lib.hid hvb
        clear hi hdep hvb
        refine vf_wpOpP_of rfl rfl ?_
        go_simp
        exact hK _ _ ⟨t7, _, (.agg #[.slice a0 n0 c0, .slice a1 n1 c1, .slice a2 n2 c2]), t28, t29, t30, t31, t32, t33, t34, rfl, by simpa using hsz, fun h => f0 (vf_listed_ne (by decide) h), fun _ => rfl, fun h => f3 (vf_listed_ne (by decide) h), fun h => f4 (vf_listed_ne (by decide) h), fun h => f6 (vf_listed_ne (by decide) h), fun h => vf_listed_keep (oB (vf_listed_ne (by decide) h)), fun h => by have k := oS (vf_listed_ne (by decide) h); exact ⟨vf_listed_keep k.1, vf_listed_keep k.2.1, vf_listed_keep k.2.2⟩, by rw [g2, g5, g7, g8, g9, g10]; exact HVB.out⟩
      · injection ho with ho
        subst ho
        have d1 := hdep ⟨1, .data⟩ (by simp) rfl
        have g2 : (listed.setIfInBounds 2 true).getD 2 false = true := hself
        have g5 : (listed.setIfInBounds 2 true).getD 5 false = listed.getD 5 false := getD_set_ne _ (by decide)
        have g7 : (listed.setIfInBounds 2 true).getD 7 false = listed.getD 7 false := getD_set_ne _ (by decide)
        have g8 : (listed.setIfInBounds 2 true).getD 8 false = listed.getD 8 false := getD_set_ne _ (by decide)
        have g9 : (listed.setIfInBounds 2 true).getD 9 false = listed.getD 9 false := getD_set_ne _ (by decide)
        have g10 : (listed.setIfInBounds 2 true).getD 10 false = listed.getD 10 false := getD_set_ne _ (by decide)
        obtain rfl := f1 d1
        have HVB := Lib.hid hvb
        clear hi hdep hvb
        refine vf_wpOpP_of rfl rfl ?_
        go_simp
        refine (KCP.out w' (bup HBW.out HVB.out.bel)).mono ?_
        rintro e w9 ⟨z0, z1, z2, rfl, ho9, hb9⟩
        obtain ⟨ao0, cp0, rfl⟩ := own_sl ho9.S
        obtain ⟨ao1, cp1, rfl⟩ := own_sl ho9.H
        obtain ⟨ao2, cp2, rfl⟩ := own_sl ho9.M
        exact hK _ _ ⟨t7, t26, _, _, t29, t30, t31, t32, t33, t34, rfl, by simpa using hsz, fun h => f0 (vf_listed_ne (by decide) h), fun h => f1 (vf_listed_ne (by decide) h), fun h => f3 (vf_listed_ne (by decide) h), fun h => f4 (vf_listed_ne (by decide) h), fun h => f6 (vf_listed_ne (by decide) h), fun h => vf_listed_keep (oB (vf_listed_ne (by decide) h)), fun h => by have k := oS (vf_listed_ne (by decide) h); exact ⟨vf_listed_keep k.1, vf_listed_keep k.2.1, vf_listed_keep k.2.2⟩, by rw [g2, g5, g7, g8, g9, g10]; exact HVB.out.copied hb9 ho9⟩
      · injection ho with ho
        subst ho
        have g2 : (listed.setIfInBounds 3 true).getD 2 false = listed.getD 2 false := getD_set_ne _ (by decide)
        have g5 : (listed.setIfInBounds 3 true).getD 5 false = listed.getD 5 false := getD_set_ne _ (by decide)
        have g7 : (listed.setIfInBounds 3 true).getD 7 false = listed.getD 7 false := getD_set_ne _ (by decide)
        have g8 : (listed.setIfInBounds 3 true).getD 8 false = listed.getD 8 false := getD_set_ne _ (by decide)
        have g9 : (listed.setIfInBounds 3 true).getD 9 false = listed.getD 9 false := getD_set_ne _ (by decide)
        have g10 : (listed.setIfInBounds 3 true).getD 10 false = listed.getD 10 false := getD_set_ne _ (by decide)
        have HVB := Lib.hid hvb
        clear hi hdep hvb
        refine vf_wpOpP_of rfl rfl ?_
        go_simp
        exact hK _ _ ⟨t7, t26, t27, t28, (.pointer (some ⟨w.heap.size, 3, none⟩)), t30, t31, t32, t33, t34, rfl, by simpa using hsz, fun h => f0 (vf_listed_ne (by decide) h), fun h => f1 (vf_listed_ne (by decide) h), fun _ => rfl, fun h => f4 (vf_listed_ne (by decide) h), fun h => f6 (vf_listed_ne (by decide) h), fun h => vf_listed_keep (oB (vf_listed_ne (by decide) h)), fun h => by have k := oS (vf_listed_ne (by decide) h); exact ⟨vf_listed_keep k.1, vf_listed_keep k.2.1, vf_listed_keep k.2.2⟩, by rw [g2, g5, g7, g8, g9, g10]; exact HVB.out⟩
      · injection ho with ho
        subst ho
        have d3 := hdep ⟨3, .data⟩ (by simp) rfl
        have g2 : (listed.setIfInBounds 4 true).getD 2 false = listed.getD 2 false := getD_set_ne _ (by decide)
        have g5 : (listed.setIfInBounds 4 true).getD 5 false = listed.getD 5 false := getD_set_ne _ (by decide)
        have g7 : (listed.setIfInBounds 4 true).getD 7 false = listed.getD 7 false := getD_set_ne _ (by decide)
        have g8 : (listed.setIfInBounds 4 true).getD 8 false = listed.getD 8 false := getD_set_ne _ (by decide)
        have g9 : (listed.setIfInBounds 4 true).getD 9 false = listed.getD 9 false := getD_set_ne _ (by decide)
        have g10 : (listed.setIfInBounds 4 true).getD 10 false = listed.getD 10 false := getD_set_ne _ (by decide)
        obtain rfl := f3 d3
        have lc3 := keepB hvb.bel b3
        have HVB := Lib.hid hvb
        clear hi hdep hvb
        refine vf_wpOpP_of rfl rfl ?_
        go_simp
        exact hK _ _ ⟨t7, t26, t27, t28, _, (.slice a3 n3 c3), t31, t32, t33, t34, rfl, by simpa using hsz, fun h => f0 (vf_listed_ne (by decide) h), fun h => f1 (vf_listed_ne (by decide) h), fun h => f3 (vf_listed_ne (by decide) h), fun _ => rfl, fun h => f6 (vf_listed_ne (by decide) h), fun h => vf_listed_keep (oB (vf_listed_ne (by decide) h)), fun h => by have k := oS (vf_listed_ne (by decide) h); exact ⟨vf_listed_keep k.1, vf_listed_keep k.2.1, vf_listed_keep k.2.2⟩, by rw [g2, g5, g7, g8, g9, g10]; exact HVB.out⟩
      · injection ho with ho
        subst ho
        have d4 := hdep ⟨4, .data⟩ (by simp) rfl
        have g2 : (listed.setIfInBounds 5 true).getD 2 false = listed.getD 2 false := getD_set_ne _ (by decide)
        have g5 : (listed.setIfInBounds 5 true).getD 5 false = true := hself
        have g7 : (listed.setIfInBounds 5 true).getD 7 false = listed.getD 7 false := getD_set_ne _ (by decide)
        have g8 : (listed.setIfInBounds 5 true).getD 8 false = listed.getD 8 false := getD_set_ne _ (by decide)
        have g9 : (listed.setIfInBounds 5 true).getD 9 false = listed.getD 9 false := getD_set_ne _ (by decide)
        have g10 : (listed.setIfInBounds 5 true).getD 10 false = listed.getD 10 false := getD_set_ne _ (by decide)
        obtain rfl := f4 d4
        have HVB := Lib.hid hvb
        clear hi hdep hvb
        refine vf_wpOpP_of rfl rfl ?_
        go_simp
        refine (KCL.out w' (bup HBW.out HVB.out.bel)).mono ?_
        rintro e w9 ⟨v9, rfl, ho9, hb9⟩
        obtain ⟨ao9, cp9, rfl⟩ := own_sl ho9
        exact hK _ _ ⟨t7, t26, t27, t28, t29, _, _, t32, t33, t34, rfl, by simpa using hsz, fun h => f0 (vf_listed_ne (by decide) h), fun h => f1 (vf_listed_ne (by decide) h), fun h => f3 (vf_listed_ne (by decide) h), fun h => f4 (vf_listed_ne (by decide) h), fun h => f6 (vf_listed_ne (by decide) h), fun h => vf_listed_keep (oB (vf_listed_ne (by decide) h)), fun h => by have k := oS (vf_listed_ne (by decide) h); exact ⟨vf_listed_keep k.1, vf_listed_keep k.2.1, vf_listed_keep k.2.2⟩, by rw [g2, g5, g7, g8, g9, g10]; exact HVB.out.cloned hb9 ho9⟩
      · injection ho with ho
        subst ho
        have g2 : (listed.setIfInBounds 6 true).getD 2 false = listed.getD 2 false := getD_set_ne _ (by decide)
        have g5 : (listed.setIfInBounds 6 true).getD 5 false = listed.getD 5 false := getD_set_ne _ (by decide)
        have g7 : (listed.setIfInBounds 6 true).getD 7 false = listed.getD 7 false := getD_set_ne _ (by decide)
        have g8 : (listed.setIfInBounds 6 true).getD 8 false = listed.getD 8 false := getD_set_ne _ (by decide)
        have g9 : (listed.setIfInBounds 6 true).getD 9 false = listed.getD 9 false := getD_set_ne _ (by decide)
        have g10 : (listed.setIfInBounds 6 true).getD 10 false = listed.getD 10 false := getD_set_ne _ (by decide)
        have HVB := Lib.hid hvb
        clear hi hdep hvb
        refine vf_wpOpP_of rfl rfl ?_
        go_simp
        exact hK _ _ ⟨t7, t26, t27, t28, t29, t30, t31, (.func (.func 143) #[] #[.pointer (some ⟨w.heap.size + 1, 0, none⟩)]), t33, t34, rfl, by simpa using hsz, fun h => f0 (vf_listed_ne (by decide) h), fun h => f1 (vf_listed_ne (by decide) h), fun h => f3 (vf_listed_ne (by decide) h), fun h => f4 (vf_listed_ne (by decide) h), fun _ => rfl, fun h => vf_listed_keep (oB (vf_listed_ne (by decide) h)), fun h => by have k := oS (vf_listed_ne (by decide) h); exact ⟨vf_listed_keep k.1, vf_listed_keep k.2.1, vf_listed_keep k.2.2⟩, by rw [g2, g5, g7, g8, g9, g10]; exact HVB.out⟩
      · injection ho with ho
        subst ho
        have d5 := hdep ⟨5, .data⟩ (by simp) rfl
        have d6 := hdep ⟨6, .data⟩ (by simp) rfl
        have g2 : (listed.setIfInBounds 7 true).getD 2 false = listed.getD 2 false := getD_set_ne _ (by decide)
        have g5 : (listed.setIfInBounds 7 true).getD 5 false = listed.getD 5 false := getD_set_ne _ (by decide)
        have g7 : (listed.setIfInBounds 7 true).getD 7 false = true := hself
        have g8 : (listed.setIfInBounds 7 true).getD 8 false = listed.getD 8 false := getD_set_ne _ (by decide)
        have g9 : (listed.setIfInBounds 7 true).getD 9 false = listed.getD 9 false := getD_set_ne _ (by decide)
        have g10 : (listed.setIfInBounds 7 true).getD 10 false = listed.getD 10 false := getD_set_ne _ (by decide)
        obtain rfl := f6 d6
        have hB : listed.getD 8 false = false := by
          cases h : listed.getD 8 false with
          | false => rfl
          | true => have := oB h; rw [hno] at this; cases this
        have hS : listed.getD 10 false = false := by
          cases h : listed.getD 10 false with
          | false => rfl
          | true => have := (oS h).2.2; rw [hno] at this; cases this
        obtain ⟨ao, cp, rfl, hrow⟩ := hvb.cln d5 hno
        rw [hno, hB, hS] at hvb
        have HVB := Lib.hid hvb
        clear hi hdep hvb
        refine vf_wpOpP_of rfl rfl ?_
        go_simp
        refine (KDF.out ao cp w' hrow HVB.out.bel).mono ?_
        rintro e w9 ⟨v9, rfl, ho9, hf9⟩
        obtain ⟨ao9, cp9, rfl⟩ := own_sl ho9
        exact hK _ _ ⟨t7, t26, t27, t28, t29, t30, _, _, _, t34, rfl, by simpa using hsz, fun h => f0 (vf_listed_ne (by decide) h), fun h => f1 (vf_listed_ne (by decide) h), fun h => f3 (vf_listed_ne (by decide) h), fun h => f4 (vf_listed_ne (by decide) h), fun h => f6 (vf_listed_ne (by decide) h), fun h => vf_listed_keep (oB (vf_listed_ne (by decide) h)), fun h => by have k := oS (vf_listed_ne (by decide) h); exact ⟨vf_listed_keep k.1, vf_listed_keep k.2.1, vf_listed_keep k.2.2⟩, by rw [g2, g5, g7, g8, g9, g10, hB, hS]; exact HVB.out.made hf9 ho9⟩
      · injection ho with ho
        subst ho
        have d2 := hdep ⟨2, .data⟩ (by simp) rfl
        have d7 := hdep ⟨7, .data⟩ (by simp) rfl
        have g2 : (listed.setIfInBounds 8 true).getD 2 false = listed.getD 2 false := getD_set_ne _ (by decide)
        have g5 : (listed.setIfInBounds 8 true).getD 5 false = listed.getD 5 false := getD_set_ne _ (by decide)
        have g7 : (listed.setIfInBounds 8 true).getD 7 false = listed.getD 7 false := getD_set_ne _ (by decide)
        have g8 : (listed.setIfInBounds 8 true).getD 8 false = true := hself
        have g9 : (listed.setIfInBounds 8 true).getD 9 false = listed.getD 9 false := getD_set_ne _ (by decide)
        have g10 : (listed.setIfInBounds 8 true).getD 10 false = listed.getD 10 false := getD_set_ne _ (by decide)
        rw [d2, d7] at hvb
        obtain ⟨z0, z1, z2, rfl, hreg⟩ := hvb.cpy rfl
        obtain ⟨ao0, cp0, rfl⟩ := own_sl hreg.S
        obtain ⟨ao1, cp1, rfl⟩ := own_sl hreg.H
        obtain ⟨ao2, cp2, rfl⟩ := own_sl hreg.M
        obtain ⟨ao, cp, rfl, hrow⟩ := hvb.row rfl
        have HVB := Lib.hid hvb
        clear hi hdep hvb
        refine vf_wpOpP_of rfl rfl ?_
        go_simp
        exact hK _ _ ⟨t7, t26, t27, _, t29, t30, t31, t32, _, _, rfl, by simpa using hsz, fun h => f0 (vf_listed_ne (by decide) h), fun h => f1 (vf_listed_ne (by decide) h), fun h => f3 (vf_listed_ne (by decide) h), fun h => f4 (vf_listed_ne (by decide) h), fun h => f6 (vf_listed_ne (by decide) h), fun _ => vf_listed_keep d7, fun h => by have k := oS (vf_listed_ne (by decide) h); exact ⟨vf_listed_keep k.1, vf_listed_keep k.2.1, vf_listed_keep k.2.2⟩, by rw [g2, g5, g7, g8, g9, g10, d2, d7]; exact HVB.out.built rfl⟩
      · injection ho with ho
        subst ho
        have g2 : (listed.setIfInBounds 9 true).getD 2 false = listed.getD 2 false := getD_set_ne _ (by decide)
        have g5 : (listed.setIfInBounds 9 true).getD 5 false = listed.getD 5 false := getD_set_ne _ (by decide)
        have g7 : (listed.setIfInBounds 9 true).getD 7 false = listed.getD 7 false := getD_set_ne _ (by decide)
        have g8 : (listed.setIfInBounds 9 true).getD 8 false = listed.getD 8 false := getD_set_ne _ (by decide)
        have g9 : (listed.setIfInBounds 9 true).getD 9 false = true := hself
        have g10 : (listed.setIfInBounds 9 true).getD 10 false = listed.getD 10 false := getD_set_ne _ (by decide)
        have hS : listed.getD 10 false = false := by
          cases h : listed.getD 10 false with
          | false => rfl
          | true => have := (oS h).1; rw [hno] at this; cases this
        have HVB := Lib.hid hvb
        clear hi hdep hvb
        refine vf_wpOpP_of rfl rfl ?_
        go_simp
        exact hK _ _ ⟨_, t26, t27, t28, t29, t30, t31, t32, t33, t34, rfl, by simpa using hsz, fun h => f0 (vf_listed_ne (by decide) h), fun h => f1 (vf_listed_ne (by decide) h), fun h => f3 (vf_listed_ne (by decide) h), fun h => f4 (vf_listed_ne (by decide) h), fun h => f6 (vf_listed_ne (by decide) h), fun h => vf_listed_keep (oB (vf_listed_ne (by decide) h)), fun h => by have k := oS (vf_listed_ne (by decide) h); exact ⟨vf_listed_keep k.1, vf_listed_keep k.2.1, vf_listed_keep k.2.2⟩, by rw [g2, g5, g7, g8, g9, g10]; exact HVB.out.alloc hS⟩
      · injection ho with ho
        subst ho
        have d9 := hdep ⟨9, .data⟩ (by simp) rfl
        have d8 := hdep ⟨8, .data⟩ (by simp) rfl
        have d7 := hdep ⟨7, .chain⟩ (by simp) rfl
        have d2 := hdep ⟨2, .phase⟩ (by simp) rfl
        have d5 := hdep ⟨5, .phase⟩ (by simp) rfl
        have g2 : (listed.setIfInBounds 10 true).getD 2 false = listed.getD 2 false := getD_set_ne _ (by decide)
        have g5 : (listed.setIfInBounds 10 true).getD 5 false = listed.getD 5 false := getD_set_ne _ (by decide)
        have g7 : (listed.setIfInBounds 10 true).getD 7 false = listed.getD 7 false := getD_set_ne _ (by decide)
        have g8 : (listed.setIfInBounds 10 true).getD 8 false = listed.getD 8 false := getD_set_ne _ (by decide)
        have g9 : (listed.setIfInBounds 10 true).getD 9 false = listed.getD 9 false := getD_set_ne _ (by decide)
        have g10 : (listed.setIfInBounds 10 true).getD 10 false = true := hself
        rw [d2, d5, d7, d8, d9, hno] at hvb
        obtain ⟨B, rfl, hB, hc⟩ := hvb.box rfl rfl
        obtain ⟨z0, z1, z2, v, rfl, hreg, hrow⟩ := hvb.bld rfl
        obtain ⟨ao0, cp0, rfl⟩ := own_sl hreg.S
        obtain ⟨ao1, cp1, rfl⟩ := own_sl hreg.H
        obtain ⟨ao2, cp2, rfl⟩ := own_sl hreg.M
        obtain ⟨ao, cp, rfl, hrow2⟩ := hrow
        have k0 : w'.cell? ⟨B, 0, none⟩ = some (.slice none 0 0) := cell_heap hc rfl
        have k1 : w'.cell? ⟨B, 1, none⟩ = some (.slice none 0 0) := cell_heap hc rfl
        have k2 : w'.cell? ⟨B, 2, none⟩ = some (.slice none 0 0) := cell_heap hc rfl
        have k3 : w'.cell? ⟨B, 3, none⟩ = some (.slice none 0 0) := cell_heap hc rfl
        have kf : ∀ o, w'.frozen? ⟨B, o, none⟩ = false := fun o => frozen_of_row w' B o _ _ hc
        have HVB := Lib.hid hvb
        clear hi hdep hvb
        refine vf_wpOpP_of rfl rfl ?_
        go_simp
        exact hK _ _ ⟨_, t26, t27, t28, t29, t30, t31, t32, t33, _, rfl, by simpa using hsz, fun h => f0 (vf_listed_ne (by decide) h), fun h => f1 (vf_listed_ne (by decide) h), fun h => f3 (vf_listed_ne (by decide) h), fun h => f4 (vf_listed_ne (by decide) h), fun h => f6 (vf_listed_ne (by decide) h), fun h => vf_listed_keep (oB (vf_listed_ne (by decide) h)), fun _ => ⟨vf_listed_keep d9, vf_listed_keep d8, vf_listed_keep d7⟩, by rw [g2, g5, g7, g8, g9, g10, d2, d5, d7, d8, d9]; exact HVB.out.stored⟩
    case fin =>
      rintro listed a' w' ⟨t7, t26, t27, t28, t29, t30, t31, t32, t33, t34, rfl, hsz, f0, f1, f3, f4, f6, oB, oS, hvb⟩ hr
      have hfull := vf_ready_full hsz hr (by kernel_rfl)
      rw [hfull 2 (by decide), hfull 5 (by decide), hfull 7 (by decide), hfull 8 (by decide), hfull 9 (by decide), hfull 10 (by decide)] at hvb
      have HF := Lib.hid (show VbPost R M w3 t7 w' from ⟨hvb.bel, hvb.sto rfl⟩)
      clear hvb
      go_wp2
      go_meet
      exact HF.out
  case rest =>
    obtain ⟨hbw, B, z0', z1', z2', v, rfl, hB, hc, hreg, ao, cp, rfl, hrow⟩ := hcut
    obtain ⟨o0, q0, rfl⟩ := own_sl hreg.S
    obtain ⟨o1, q1, rfl⟩ := own_sl hreg.H
    obtain ⟨o2, q2, rfl⟩ := own_sl hreg.M
    have c0' := keepB hbw b0
    have c1' := keepB hbw b1
    have c2' := keepB hbw b2
    have c3' := keepB hbw b3
    have hQR : RgIn (fun b => P b ∧ b ≠ w.heap.size + 1 + 1 ∧ b ≠ B) wc (.slice o0 R.secs.length q0) (.slice o1 R.hs.length q1) (.slice o2 R.ms.length q2) R :=
      ⟨(Sl.ownB encSec_len hreg.S rfl).mono (fun b hb _ => ⟨HP.out b (by have := hb.2; omega), by have := hb.2; omega, fun he => own_ne hreg.S hc (by decide) (by rw [← he]; exact hb.1)⟩),
        (Sl.ownB encHold_len hreg.H rfl).mono (fun b hb _ => ⟨HP.out b (by have := hb.2; omega), by have := hb.2; omega, fun he => own_ne hreg.H hc (by decide) (by rw [← he]; exact hb.1)⟩),
        (Sl.ownB encMv_len hreg.M rfl).mono (fun b hb _ => ⟨HP.out b (by have := hb.2; omega), by have := hb.2; omega, fun he => own_ne hreg.M hc (by decide) (by rw [← he]; exact hb.1)⟩)⟩
    have hsn : R.secs.length = n0 := by
      obtain ⟨_, _, _, he, hl, _⟩ := HV.out.rg.S.shape
      cases he
      exact hl
    have HSN := Lib.hid hsn
    have hn20 : n0 ≤ 20 := by have := HVK.out.rg.ls; omega
    obtain ⟨PF, hPF⟩ : ∃ PF, payF R day R.secs R = PF := ⟨_, rfl⟩
    have hEB := HEB.out
    have hRRR := HRR.out
    rw [hPF] at hEB hRRR
    clear HEB HRR
    have HEB := Lib.hid hEB
    have HRR := Lib.hid hRRR
    have HPF := Lib.hid hPF
    clear hEB hRRR hPF
    have HQR := Lib.hid hQR
    have HROW := Lib.hid hrow
    have HC := Lib.hid hc
    have HBX := Lib.hid hbw
    have CC := Lib.hid (And.intro b0 (And.intro b1 (And.intro b2 b3)))
    have RZ := Lib.hid (And.intro r0 (And.intro r1 (And.intro r2 r3)))
    have RF := Lib.hid rf
    have NX := Lib.hid nx
    have HCK := Lib.hid (chkE_iff.2 HVK.out.rg)
    have hne1 : ¬ (w.heap.size = B) := by omega
    have hne2 : ¬ (B = w.heap.size) := by omega
    have hne3 : ¬ (w.heap.size + 1 = B) := by omega
    have hne4 : ¬ (B = w.heap.size + 1) := by omega
    have hne5 : ¬ (w.heap.size + 1 + 1 = B) := by omega
    have hne6 : ¬ (B = w.heap.size + 1 + 1) := by omega
    clear hsn hQR hrow hc hbw hreg b0 b1 b2 b3 r0 r1 r2 r3 rf nx
    go_wp2_with fail
    go_loopw [39] (fun iv wr => ∃ (k : Nat) (RO : Reg) (g0 : Option Addr) (i0 j0 : Nat) (g1 : Option Addr) (i1 j1 : Nat) (g2 : Option Addr) (i2 j2 : Nat), k ≤ n0 ∧ iv = .int .i64 k ∧ wr.heap[B]? = some (.cells #[.slice g0 i0 j0, .slice g1 i1 j1, .slice g2 i2 j2, .slice ao M.length cp] 69 (0, 0)) ∧ RgIn (fun b => P b ∧ b ≠ w.heap.size + 1 + 1 ∧ b ≠ B) wr (.slice g0 i0 j0) (.slice g1 i1 j1) (.slice g2 i2 j2) RO ∧ chkE RO = 0 ∧ PF = payF R day (R.secs.drop k) RO ∧ wr.ownsRow w3.heap.size 88 5 (.slice ao M.length cp) M.length (flatE encStp M) ∧ Below w3.heap.size w3 wr) (fun iv _ => n0 - (intOf iv).toNat)
    case atStart => exact ⟨0, R, o0, _, q0, o1, _, q1, o2, _, q2, by omega, rfl, HC.out, HQR.out, HCK.out, HPF.out.symm, HROW.out, HBX.out⟩
    case round =>
      obtain ⟨k, RO, g0, i0, j0, g1, i1, j1, g2, i2, j2, hk, rfl, hc, hq, hck, hpay, hrow, hbr⟩ := hrel
      have zr := hbr.size
      have hBl : B < wr.heap.size := (Array.getElem?_eq_some_iff.1 hc).1
      obtain ⟨t0, t1, t2, t3⟩ := CC.out
      have u0 := keepB hbr t0
      have u1 := keepB hbr t1
      have u2 := keepB hbr t2
      have u3 := keepB hbr t3
      have ux := keepB hbr NX.out
      have hbW : Below w.heap.size w wr := bup HBW.out hbr
      have za : w.heap.size < wr.heap.size := by omega
      have zb : w.heap.size + 1 < wr.heap.size := by omega
      have zc : w.heap.size + 1 + 1 < wr.heap.size := by omega
      have ya : ¬ (wr.heap.size = w.heap.size) := by omega
      have yb : ¬ (wr.heap.size = w.heap.size + 1) := by omega
      have yc : ¬ (w.heap.size = wr.heap.size) := by omega
      clear t0 t1 t2 t3
      by_cases hlt : k < n0
      · obtain ⟨b, off, sid, sun, sis, sma, sra, sev, six, rfl, -, hbb, hL, k0, k1, k2, k3, k4, k5, k6⟩ := (HV.out.rg.S.below hbW).sec hlt
        have hpay2 := hpay
        rw [drop_cons hL] at hpay2
        unfold payF at hpay2
        simp only at hpay2
        have kz : (k : Int) < (n0 : Int) := by omega
        have hrg := chkE_iff.1 hck
        have KH := Lib.hid (fun (U : World) (hU : Below wr.heap.size wr U) => rheld_any P _ _ _ R sid 1000 U ((HV.out.rg.below hbW).below hU) HV.out.lS HV.out.lH HV.out.lM)
        obtain ⟨H, hH⟩ : ∃ H, rgHeld R sid 1000 = H := ⟨_, rfl⟩
        rw [hH] at hpay2 KH
        have KR := Lib.hid (fun (U : World) (hU : Below wr.heap.size wr U) => rRedeem_any (fun b => P b ∧ b ≠ w.heap.size + 1 + 1 ∧ b ≠ B) _ _ _ RO day sid 1000 H U (hq.below hU) (by have := hrg.ls; omega) (by have := hrg.hl; omega) (by have := hrg.lm; omega) (fun b hb => by have := hU.size; exact ⟨HP.out b (by omega), by omega, by omega⟩))
        obtain ⟨F, hF⟩ : ∃ F, rmE RO ⟨0, day, 3, sid, 1000, 0, H⟩ = F := ⟨_, rfl⟩
        rw [hF] at hpay2 KR
        have HF := Lib.hid hF
        have HPY := Lib.hid hpay2
        have HC := Lib.hid hc
        have HQ := Lib.hid hq
        have HKK := Lib.hid hck
        have HRW := Lib.hid hrow
        have HBR := Lib.hid hbr
        have HWW := Lib.hid hbW
        clear hpay hpay2 hrg hH hF hL hc hq hck hrow hbr hbW
        go_wp2_with fail
        refine (KH.out _ (bal brefl _)).mono ?_
        rintro e w4 ⟨rfl, hb4⟩
        have s0 := boxed_cell hb4 0 (v := .int .i64 sid) rfl
        have s3 := boxed_cell hb4 3 (v := .int .i64 sma) rfl
        have hb4' : Below wr.heap.size wr w4 := bup (bal brefl _) hb4
        have x4 := keepB hb4' ux
        have hc4 := (hb4'.block B hBl).trans HC.out
        have m0 : w4.cell? ⟨B, 0, none⟩ = some (.slice g0 i0 j0) := cell_heap hc4 rfl
        have m1 : w4.cell? ⟨B, 1, none⟩ = some (.slice g1 i1 j1) := cell_heap hc4 rfl
        have m2 : w4.cell? ⟨B, 2, none⟩ = some (.slice g2 i2 j2) := cell_heap hc4 rfl
        have z4 : wr.heap.size < w4.heap.size := by have := hb4.size; simp at this; omega
        have HB4 := Lib.hid hb4'
        have HC4 := Lib.hid hc4
        clear hb4 hb4' hc4 k0 k1 k2 k3 k4 k5 k6 u0 u1 u2 u3 ux
        by_cases hma : day < sma
        · have hp := HPY.out
          rw [if_pos (.inl hma)] at hp
          have HP2 := Lib.hid hp
          clear hp
          go_wp2_with fail
          go_roundw
          case rel => exact ⟨k + 1, RO, g0, i0, j0, g1, i1, j1, g2, i2, j2, by omega, by go_num, HC4.out, HQ.out.below HB4.out, HKK.out, HP2.out, ownsRow_belowZ HRW.out HB4.out, bup HBR.out HB4.out⟩
          case measure => simp [intOf]; omega
        by_cases hH0 : H = 0
        · have hp := HPY.out
          rw [if_pos (.inr hH0)] at hp
          have HP2 := Lib.hid hp
          clear hp
          go_wp2_with fail
          go_roundw
          case rel => exact ⟨k + 1, RO, g0, i0, j0, g1, i1, j1, g2, i2, j2, by omega, by go_num, HC4.out, HQ.out.below HB4.out, HKK.out, HP2.out, ownsRow_belowZ HRW.out HB4.out, bup HBR.out HB4.out⟩
          case measure => simp [intOf]; omega
        have hp := HPY.out
        rw [if_neg (fun h => h.elim hma hH0)] at hp
        have HP2 := Lib.hid hp
        clear hp
        have gH : (H == 0) = false := by simpa using hH0
        go_wp2_with fail
        refine (KR.out _ HB4.out).mono ?_
        rintro e w5 ⟨v0, v1, v2, rfl, hq5, hb5⟩
        obtain ⟨d0, e0, f0, rfl, -, -, -⟩ := hq5.S.shape
        obtain ⟨d1, e1, f1, rfl, -, -, -⟩ := hq5.H.shape
        obtain ⟨d2, e2, f2, rfl, -, -, -⟩ := hq5.M.shape
        have hc5 := (hb5.block B (by have := HB4.out.size; omega)).trans HC4.out
        have ff := fun o => frozen_of_row w5 B o _ _ hc5
        have bc0 : w5.cell? ⟨B, 0, none⟩ = some (.slice g0 i0 j0) := cell_heap hc5 rfl
        have bc1 : w5.cell? ⟨B, 1, none⟩ = some (.slice g1 i1 j1) := cell_heap hc5 rfl
        have bc2 : w5.cell? ⟨B, 2, none⟩ = some (.slice g2 i2 j2) := cell_heap hc5 rfl
        have bc3 : w5.cell? ⟨B, 3, none⟩ = some (.slice ao M.length cp) := cell_heap hc5 rfl
        have z5 : wr.heap.size < w5.heap.size := Nat.lt_of_lt_of_le z4 hb5.size
        have hnB : ¬ (w5.heap.size = B) := by omega
        have zB5 : B < w5.heap.size := by have := HB4.out.size; have := hb5.size; omega
        have za5 : w.heap.size + 1 + 1 < w5.heap.size := by omega
        have hnB2 : ¬ (B = w5.heap.size) := by omega
        have HB5 := Lib.hid (bup HB4.out hb5)
        have HC5 := Lib.hid hc5
        have HQ5 := Lib.hid hq5
        clear hb5 hc5 hq5
        by_cases hF0 : F = 0
        · subst hF0
          have hp := HP2.out
          rw [if_pos rfl] at hp
          have HP3 := Lib.hid hp
          clear hp
          go_wp2_with fail
          go_roundw
          case rel =>
            exact ⟨k + 1, _, d0, e0, f0, d1, e1, f1, d2, e2, f2, by omega, by go_num, (heap_alloc_old _ _ (Nat.lt_of_lt_of_le zB5 (grownBy_set3 _ _ _ _ _).size)).trans (vheap3 _ _ _ HC5.out), (HQ5.out.set3 (fun b hb => hb.2.2)).below (bal brefl _), rmR_ok3 HF.out, HP3.out, (World.ownsRow.kept (ownsRow_belowZ HRW.out HB5.out) (grownBy_set3 _ B _ _ _) (.inr (own_ne (ownsRow_belowZ HRW.out HB5.out) HC5.out (by decide)))).alloc _, bal (bset3 (bup HBR.out HB5.out) hB _ _ _) _⟩
          case measure => simp [intOf]; omega
        · have hp := HP2.out
          rw [if_neg hF0] at hp
          have hE := HEB.out
          rw [hp] at hE
          simp only at hE
          subst hE
          have hR := HRR.out
          have hL := HLL.out
          rw [if_neg hF0] at hR hL
          have HR0 := Lib.hid hR
          have HL0 := Lib.hid hL
          have gF : (F != 0) = true := by simpa using hF0
          have gF2 : (F == 0) = false := by simpa using hF0
          obtain ⟨y0, y1, y2, y3⟩ := RZ.out
          have e0' : w5.cell? ⟨w.heap.size + 1 + 1, 0, none⟩ = some (.slice none 0 0) := keepB HB5.out (keepB HBR.out y0)
          have e1' : w5.cell? ⟨w.heap.size + 1 + 1, 1, none⟩ = some (.slice none 0 0) := keepB HB5.out (keepB HBR.out y1)
          have e2' : w5.cell? ⟨w.heap.size + 1 + 1, 2, none⟩ = some (.slice none 0 0) := keepB HB5.out (keepB HBR.out y2)
          have e3' : w5.cell? ⟨w.heap.size + 1 + 1, 3, none⟩ = some (.slice none 0 0) := keepB HB5.out (keepB HBR.out y3)
          have ef : ∀ o, w5.frozen? ⟨w.heap.size + 1 + 1, o, none⟩ = false := fun o => (HB5.out.frozen (by simp only; omega)).trans ((HBR.out.frozen (by simp only; omega)).trans (RF.out o))
          have HB6 := Lib.hid (bup HWW.out HB5.out)
          clear hR hL hp y0 y1 y2 y3
          go_wp2
          refine bodyPost_ret (v := .tuple #[.agg #[.slice none 0 0, .slice none 0 0, .slice none 0 0, .slice none 0 0], .int .i64 F]) (by simp [results, Tryz.results72, go_sem, *]) rfl (gaveV_nil HR0.out.symm HL0.out.symm rfl ?_)
          exact bal (vset4 HB6.out (by omega) _ _ _ _) _
      · obtain rfl : k = n0 := by omega
        rw [drop_all (by have := HSN.out; omega)] at hpay
        unfold payF at hpay
        have hE := HEB.out
        rw [hpay] at hE
        simp only at hE
        subst hE
        have hR := HRR.out
        have hL := HLL.out
        rw [if_pos rfl] at hR hL
        rw [hpay] at hR
        simp only at hR
        rw [HM.out] at hL
        subst hR
        subst hL
        obtain ⟨y0, y1, y2, y3⟩ := RZ.out
        have e0' : wr.cell? ⟨w.heap.size + 1 + 1, 0, none⟩ = some (.slice none 0 0) := keepB hbr y0
        have e1' : wr.cell? ⟨w.heap.size + 1 + 1, 1, none⟩ = some (.slice none 0 0) := keepB hbr y1
        have e2' : wr.cell? ⟨w.heap.size + 1 + 1, 2, none⟩ = some (.slice none 0 0) := keepB hbr y2
        have e3' : wr.cell? ⟨w.heap.size + 1 + 1, 3, none⟩ = some (.slice none 0 0) := keepB hbr y3
        have ef : ∀ o, wr.frozen? ⟨w.heap.size + 1 + 1, o, none⟩ = false := fun o => (hbr.frozen (by simp only; omega)).trans (RF.out o)
        have m0 : wr.cell? ⟨B, 0, none⟩ = some (.slice g0 i0 j0) := cell_heap hc rfl
        have m1 : wr.cell? ⟨B, 1, none⟩ = some (.slice g1 i1 j1) := cell_heap hc rfl
        have m2 : wr.cell? ⟨B, 2, none⟩ = some (.slice g2 i2 j2) := cell_heap hc rfl
        have m3 : wr.cell? ⟨B, 3, none⟩ = some (.slice ao M.length cp) := cell_heap hc rfl
        have hs5 : Sl 5 encStp (fun b => P b ∧ b ≠ w.heap.size + 1 + 1) wr (.slice ao M.length cp) M := Sl.own encStp_len hrow rfl (fun b hb => ⟨HP.out b (by omega), by omega⟩)
        have hg := vgrown4 wr (w.heap.size + 1 + 1) (.slice g0 i0 j0) (.slice g1 i1 j1) (.slice g2 i2 j2) (.slice ao M.length cp)
        have hfin : GaveV P RO M 0 w (.returned (.tuple #[.agg #[.slice g0 i0 j0, .slice g1 i1 j1, .slice g2 i2 j2, .slice ao M.length cp], .int .i64 0])) ((((wr.setCell ⟨w.heap.size + 1 + 1, 0, none⟩ (.slice g0 i0 j0)).setCell ⟨w.heap.size + 1 + 1, 1, none⟩ (.slice g1 i1 j1)).setCell ⟨w.heap.size + 1 + 1, 2, none⟩ (.slice g2 i2 j2)).setCell ⟨w.heap.size + 1 + 1, 3, none⟩ (.slice ao M.length cp)) :=
          ⟨_, _, _, _, rfl, (hq.grown hg (fun b hb => hb.2.1)).mono (fun b hb _ => hb.1), (hs5.grown hg (fun b hb => hb.2)).mono (fun b hb _ => hb.1), vset4 hbW (by omega) _ _ _ _⟩
        have HFIN := Lib.hid hfin
        clear hpay hc hq hck hrow hbr hbW hs5 hg hfin y0 y1 y2 y3 u0 u1 u2 u3 ux
        go_wp2
        refine bodyPost_ret (v := .tuple #[.agg #[.slice g0 i0 j0, .slice g1 i1 j1, .slice g2 i2 j2, .slice ao M.length cp], .int .i64 0]) (by simp [results, Tryz.results72, go_sem, *]) rfl ?_
        exact HFIN.out
end Go.Proofs.YthhoaefadfeknaaGreat
