/- register: Held, Outstanding, Debt, At, Find. -/
import Derived.Test.YthjaofgdickkaaaGreatRegI
namespace Go.Proofs.YthjaofgdickkaaaGreat
open Go.RowKit
set_option linter.unusedVariables false
set_option linter.unusedSimpArgs false

/-- a register that is right -/
structure RgOk (R : Reg) : Prop where
  ls : R.secs.length ≤ 20
  lm : R.ms.length ≤ 400
  secs : secsB 0 R.secs = true
  ok : (repl R.secs wantAll R.ms 0 0 []).1 = true
  hs : (repl R.secs wantAll R.ms 0 0 []).2.2.2 = R.hs
theorem chkE_iff {R : Reg} : chkE R = 0 ↔ RgOk R := by
  unfold chkE movesB
  constructor
  · intro h
    by_cases h1 : 20 < R.secs.length ∨ 400 < R.ms.length
    · rw [if_pos h1] at h; omega
    · rw [if_neg h1] at h
      by_cases h2 : secsB 0 R.secs = true
      · rw [if_pos h2] at h
        by_cases h3 : ((repl R.secs wantAll R.ms 0 0 []).1 && eqHs (repl R.secs wantAll R.ms 0 0 []).2.2.2 R.hs) = true
        · rw [Bool.and_eq_true, eqHs_iff] at h3
          exact ⟨by omega, by omega, h2, h3.1, h3.2⟩
        · rw [if_neg h3] at h; omega
      · rw [if_neg h2] at h; omega
  · rintro ⟨h1, h2, h3, h4, h5⟩
    rw [if_neg (by omega), if_pos h3, h4, eqHs_iff.2 h5]; rfl
theorem RgOk.hok {R : Reg} (h : RgOk R) : HsOk R.hs := by
  have := repl_ok R.secs wantAll R.ms 0 0 [] HsOk.nil
  rw [h.hs] at this; exact this
theorem RgOk.hl {R : Reg} (h : RgOk R) : R.hs.length ≤ 800 := by
  have := repl_len R.secs wantAll R.ms 0 0 []
  rw [h.hs] at this
  have := h.lm
  simp only [List.length_nil] at *
  omega
theorem RgOk.sec {R : Reg} (h : RgOk R) : ∀ s ∈ R.secs, secOk s = true := secsB_all h.secs
def rgHeld (R : Reg) (s h : Int) : Int := if chkE R = 0 then heldH R.hs s h else 0
def rgOut (R : Reg) (s : Int) : Int := if chkE R = 0 then outH R.hs s else 0
def rgDebt (R : Reg) : Int := if chkE R = 0 then sumH R.hs else 0
def rgAt (R : Reg) (day : Int) : List Hold := if chkE R = 0 then (repl R.secs (wantDay day) R.ms 0 0 []).2.2.2 else []
set_option maxHeartbeats 1000000 in
theorem rheld_any (P : Nat → Prop) (vs vh vm : Value) (R : Reg) (s h : Int) (w : World) (hr : RgIn P w vs vh vm R) (hS : R.secs.length ≤ 1000000) (hH : R.hs.length ≤ 1000000) (hM : R.ms.length ≤ 1000000) :
    Calls Tryz.prog 147 #[.agg #[vs, vh, vm], .int .i64 s, .int .i64 h] w fun e w' => e = .returned (.int .i64 (rgHeld R s h)) ∧ Below w.heap.size w w' := by
  obtain ⟨a0, n0, c0, rfl, -, -, -⟩ := hr.S.shape
  obtain ⟨a1, n1, c1, rfl, -, -, -⟩ := hr.H.shape
  obtain ⟨a2, n2, c2, rfl, -, -, -⟩ := hr.M.shape
  have HC := Lib.hid (fun W hW => check_any P _ _ _ R W (hr.below (w' := W) hW) hS hH hM)
  have HR := Lib.hid hr
  obtain ⟨E, hE⟩ : ∃ E, chkE R = E := ⟨_, rfl⟩
  obtain ⟨Q, hQ⟩ : ∃ Q, rgHeld R s h = Q := ⟨_, rfl⟩
  have hq := hQ
  unfold rgHeld at hq
  rw [hE] at HC hq
  rw [hQ]
  have HQ := Lib.hid hq
  have HE := Lib.hid hE
  clear hr hQ hE hq
  by_cases h0 : E = 0
  · subst h0
    have hok := chkE_iff.1 HE.out
    have HHELD := Lib.hid (fun cb v W hv hS' => held_any P cb v R.hs s h W hv hS' hok.hok.srt hH)
    have hq2 := HQ.out
    rw [if_pos rfl] at hq2
    rw [hq2] at HHELD
    clear hok hq2
    go_enter Tryz.func147, Tryz.ntmps147
    go_wp2_with fail
    refine (HC.out _ (bal brefl _)).mono ?_
    rintro e w1 ⟨rfl, hb1⟩
    have r1 := boxed_cell hb1 1 rfl
    have HB1 := Lib.hid hb1
    have HR1 := Lib.hid (HR.out.below (bup (bal brefl _) hb1))
    clear hb1
    go_wp2_with fail
    refine (HHELD.out _ (.slice a1 n1 c1) _ ((World.cell?_alloc_at _ _ _ _ rfl).trans rfl) (HR1.out.H.alloc _)).mono ?_
    rintro e w2 ⟨rfl, hb2⟩
    go_wp2
    go_ret
    exact ⟨rfl, bup (bal (bup (bal brefl _) HB1.out) _) hb2⟩
  · have hE1 : (E != 0) = true := by simpa using h0
    have hE2 : (E == 0) = false := by simpa using h0
    have hf : Q = 0 := by rw [← HQ.out, if_neg h0]
    subst hf
    go_enter Tryz.func147, Tryz.ntmps147
    go_wp2_with fail
    refine (HC.out _ (bal brefl _)).mono ?_
    rintro e w1 ⟨rfl, hb1⟩
    go_wp2
    go_ret
    exact ⟨rfl, bup (bal brefl _) hb1⟩
set_option maxHeartbeats 1000000 in
theorem rout_any (P : Nat → Prop) (vs vh vm : Value) (R : Reg) (s : Int) (w : World) (hr : RgIn P w vs vh vm R) (hS : R.secs.length ≤ 1000000) (hH : R.hs.length ≤ 1000000) (hM : R.ms.length ≤ 1000000) :
    Calls Tryz.prog 146 #[.agg #[vs, vh, vm], .int .i64 s] w fun e w' => e = .returned (.int .i64 (rgOut R s)) ∧ Below w.heap.size w w' := by
  obtain ⟨a0, n0, c0, rfl, -, -, -⟩ := hr.S.shape
  obtain ⟨a1, n1, c1, rfl, -, -, -⟩ := hr.H.shape
  obtain ⟨a2, n2, c2, rfl, -, -, -⟩ := hr.M.shape
  have HC := Lib.hid (fun W hW => check_any P _ _ _ R W (hr.below (w' := W) hW) hS hH hM)
  have HR := Lib.hid hr
  obtain ⟨E, hE⟩ : ∃ E, chkE R = E := ⟨_, rfl⟩
  obtain ⟨Q, hQ⟩ : ∃ Q, rgOut R s = Q := ⟨_, rfl⟩
  have hq := hQ
  unfold rgOut at hq
  rw [hE] at HC hq
  rw [hQ]
  have HQ := Lib.hid hq
  have HE := Lib.hid hE
  clear hr hQ hE hq
  by_cases h0 : E = 0
  · subst h0
    have hok := chkE_iff.1 HE.out
    have HHELD := Lib.hid (fun cb v W hv hS' => outst_any P cb v R.hs s W hv hS' hok.hok hH)
    have hq2 := HQ.out
    rw [if_pos rfl] at hq2
    rw [hq2] at HHELD
    clear hok hq2
    go_enter Tryz.func146, Tryz.ntmps146
    go_wp2_with fail
    refine (HC.out _ (bal brefl _)).mono ?_
    rintro e w1 ⟨rfl, hb1⟩
    have r1 := boxed_cell hb1 1 rfl
    have HB1 := Lib.hid hb1
    have HR1 := Lib.hid (HR.out.below (bup (bal brefl _) hb1))
    clear hb1
    go_wp2_with fail
    refine (HHELD.out _ (.slice a1 n1 c1) _ ((World.cell?_alloc_at _ _ _ _ rfl).trans rfl) (HR1.out.H.alloc _)).mono ?_
    rintro e w2 ⟨rfl, hb2⟩
    go_wp2
    go_ret
    exact ⟨rfl, bup (bal (bup (bal brefl _) HB1.out) _) hb2⟩
  · have hE1 : (E != 0) = true := by simpa using h0
    have hE2 : (E == 0) = false := by simpa using h0
    have hf : Q = 0 := by rw [← HQ.out, if_neg h0]
    subst hf
    go_enter Tryz.func146, Tryz.ntmps146
    go_wp2_with fail
    refine (HC.out _ (bal brefl _)).mono ?_
    rintro e w1 ⟨rfl, hb1⟩
    go_wp2
    go_ret
    exact ⟨rfl, bup (bal brefl _) hb1⟩
/-- a list that a function hands back -/
def GaveH (P : Nat → Prop) (L : List Hold) (w : World) (e : Ending) (w' : World) : Prop := ∃ v, e = .returned v ∧ Sl 3 encHold P w' v L ∧ Below w.heap.size w w'
set_option maxHeartbeats 1000000 in
theorem rat_any (P : Nat → Prop) (vs vh vm : Value) (R : Reg) (day : Int) (w : World) (hr : RgIn P w vs vh vm R) (hS : R.secs.length ≤ 1000000) (hH : R.hs.length ≤ 1000000) (hM : R.ms.length ≤ 1000000) (hP : ∀ b, w.heap.size ≤ b → P b) :
    Calls Tryz.prog 130 #[.agg #[vs, vh, vm], .int .i64 day] w (GaveH P (rgAt R day) w) := by
  obtain ⟨a0, n0, c0, rfl, -, -, -⟩ := hr.S.shape
  obtain ⟨a1, n1, c1, rfl, -, -, -⟩ := hr.H.shape
  obtain ⟨a2, n2, c2, rfl, -, -, -⟩ := hr.M.shape
  have HC := Lib.hid (fun W hW => check_any P _ _ _ R W (hr.below (w' := W) hW) hS hH hM)
  have HR := Lib.hid hr
  obtain ⟨E, hE⟩ : ∃ E, chkE R = E := ⟨_, rfl⟩
  obtain ⟨Q, hQ⟩ : ∃ Q, rgAt R day = Q := ⟨_, rfl⟩
  have hq := hQ
  unfold rgAt at hq
  rw [hE] at HC hq
  rw [hQ]
  have HQ := Lib.hid hq
  have HE := Lib.hid hE
  clear hr hQ hE hq
  by_cases h0 : E = 0
  · subst h0
    have hok := chkE_iff.1 HE.out
    have hq2 := HQ.out
    rw [if_pos rfl] at hq2
    obtain ⟨K, hK⟩ : ∃ K, repl R.secs (wantDay day) R.ms 0 0 [] = K := ⟨_, rfl⟩
    rw [hK] at hq2
    have HD := Lib.hid (fun W h1 h2 db hdb => replay_day (.slice a0 n0 c0) (.slice a1 n1 c1) (.slice a2 n2 c2) R.secs R.ms day db W h1 h2 hS (by have := hok.lm; omega) ⟨_, _, _, rfl⟩ hok.sec hdb)
    rw [hK] at HD
    have HQ2 := Lib.hid hq2
    clear hok hq2 hK
    go_enter Tryz.func130, Tryz.ntmps130
    go_wp2_with fail
    refine (HC.out _ (bal (bal brefl _) _)).mono ?_
    rintro e w1 ⟨rfl, hb1⟩
    have r0 : w1.cell? ⟨w.heap.size, 0, none⟩ = some (.slice a0 n0 c0) := keepB hb1 (keepA ((World.cell?_alloc_at _ _ _ _ rfl).trans rfl))
    have r1 : w1.cell? ⟨w.heap.size, 1, none⟩ = some (.slice a1 n1 c1) := keepB hb1 (keepA ((World.cell?_alloc_at _ _ _ _ rfl).trans rfl))
    have r2 : w1.cell? ⟨w.heap.size, 2, none⟩ = some (.slice a2 n2 c2) := keepB hb1 (keepA ((World.cell?_alloc_at _ _ _ _ rfl).trans rfl))
    have d0 : w1.cell? ⟨w.heap.size + 1, 0, none⟩ = some (.int .i64 day) := keepB hb1 ((World.cell?_alloc_at _ _ _ _ (by simp)).trans rfl)
    have HB1 := Lib.hid (bup (bal (bal brefl _) _) hb1)
    have HR1 := Lib.hid (HR.out.below (bup (bal (bal brefl _) _) hb1))
    clear hb1
    go_wp2_with fail
    refine (HD.out _ HR1.out.any.S HR1.out.any.M _ d0).mono ?_
    rintro e w2 ⟨v', rfl, hC, hb2⟩
    have c1' := hC.h1
    have HO := Lib.hid hC.O
    have zz := HB1.out.size
    obtain ⟨av, cv, rfl⟩ := own_slice hC.O
    clear hC
    go_wp2
    go_ret
    refine ⟨_, rfl, ?_, bup HB1.out hb2⟩
    rw [← HQ2.out]
    exact Sl.own encHold_len HO.out rfl (fun b hb => hP b (by omega))
  · have hE1 : (E != 0) = true := by simpa using h0
    have hE2 : (E == 0) = false := by simpa using h0
    have hf : Q = [] := by rw [← HQ.out, if_neg h0]
    subst hf
    go_enter Tryz.func130, Tryz.ntmps130
    go_wp2_with fail
    refine (HC.out _ (bal (bal brefl _) _)).mono ?_
    rintro e w1 ⟨rfl, hb1⟩
    go_wp2
    go_ret
    exact ⟨_, rfl, Sl.nil, bup (bal (bal brefl _) _) hb1⟩
theorem sumH_take {L : List Hold} (h : ∀ x ∈ L, 0 < x.a ∧ x.a ≤ 1000000000000) : ∀ k, 0 ≤ sumH (L.take k) ∧ sumH (L.take k) ≤ 1000000000000 * k := by
  intro k
  induction k with
  | zero => simp [sumH]
  | succ k ih =>
    cases hk : L[k]? with
    | none => rw [List.take_of_length_le (by have := List.getElem?_eq_none_iff.1 hk; omega)]; rw [List.take_of_length_le (by have := List.getElem?_eq_none_iff.1 hk; omega)] at ih; omega
    | some x =>
      rw [take_snocZ hk, sumH_append]
      have := h x (List.mem_of_getElem? hk)
      simp only [sumH]
      omega
end Go.Proofs.YthjaofgdickkaaaGreat
