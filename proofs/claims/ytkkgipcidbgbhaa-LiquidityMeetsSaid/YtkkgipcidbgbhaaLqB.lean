/- liquidity: closures, at, planned, days of plans; slices.Clone at positions. Printed by wip/gen/lqb.py. -/
import Derived.Test.YtkkgipcidbgbhaaLqA
import Derived.Test.YtkkgipcidbgbhaaIntr
import Derived.Test.YtkkgipcidbgbhaaOwn
import Derived.WalkSpells
namespace Go.Proofs.Ytkkgipcidbgbhaa
open Go.RowKit
set_option linter.unusedVariables false
set_option linter.unusedSimpArgs false
theorem onePos (x : Int × Int) : ∀ u ∈ encP x, u.oneCell' = true := by
  intro u hu
  simp only [encP, List.mem_cons, List.mem_nil_iff, or_false] at hu
  rcases hu with rfl | rfl <;> rfl
theorem flatE_cells {α : Type} {z : Nat} {enc : α → List Value} (hz : ∀ a, (enc a).length = z) {w : World} {b : Nat} : ∀ (L : List α) (off : Nat), (∀ (k : Nat) (a : α), L[k]? = some a → ∀ i u, (enc a)[i]? = some u → w.cell? ⟨b, off + k * z + i, none⟩ = some u) → ∀ j u, (flatE enc L)[j]? = some u → w.cell? ⟨b, off + j, none⟩ = some u
  | [], off, h, j, u, hj => by simp [flatE] at hj
  | x :: L, off, h, j, u, hj => by
    have hj' : (enc x ++ flatE enc L)[j]? = some u := by simpa [flatE] using hj
    rcases Nat.lt_or_ge j z with hlt | hge
    · rw [List.getElem?_append_left (by rw [hz]; exact hlt)] at hj'
      have := h 0 x rfl j u hj'
      simpa using this
    · rw [List.getElem?_append_right (by rw [hz]; exact hge), hz] at hj'
      have := flatE_cells hz (w := w) (b := b) L (off + z) (fun k a hk i v hi => by
        have q := h (k + 1) a (by simpa using hk) i v hi
        rw [show off + (k + 1) * z + i = off + z + k * z + i by rw [Nat.add_mul]; omega] at q
        exact q) (j - z) u hj'
      rw [show off + z + (j - z) = off + j by omega] at this
      exact this
/-- what a copy is: a row of its own with the same elements -/
def Copied {α : Type} (z : Nat) (enc : α → List Value) (T : TypeId) (L : List α) (w : World) (e : Ending) (w' : World) : Prop :=
  ∃ v, e = .returned v ∧ w'.ownsRow w.heap.size T z v L.length (flatE enc L) ∧ Below w.heap.size w w'
theorem own_slice0 {w : World} {base : Nat} {e : TypeId} {z : Nat} {v : Value} {n : Nat} {xs : List Value} (h : w.ownsRow base e z v n xs) : ∃ ao c, v = .slice ao n c := by
  rcases h.2 with ⟨rfl, rfl⟩ | ⟨g, cap, cur, rfl, _⟩
  · exact ⟨_, _, rfl⟩
  · exact ⟨_, _, rfl⟩
set_option maxHeartbeats 1000000 in
theorem clonePos_any (P : Nat → Prop) (v : Value) (L : List (Int × Int)) (w : World) (h : Sl 2 encP P w v L) (hlen : L.length ≤ 1000000) :
    Calls Try.prog 63 #[v] w (Copied 2 encP 35 L w) := by
  obtain ⟨ao, n, c, rfl, hn, hnc, hcm, hcase⟩ := h
  have hn1 : n ≤ 1000000 := by omega
  obtain ⟨i1, hi, hz0, hz1, hz2⟩ := info_parts infoPos
  have HN := Lib.hid hn
  have e1 := @Lib.run_eql_slice_nil
  cases ao with
  | none =>
    have h0 : n = 0 := by
      rcases hcase with h | ⟨b, off, h, _⟩
      · exact h
      · cases h
    subst h0
    have hL : L = [] := List.eq_nil_of_length_eq_zero HN.out
    subst hL
    clear hn hcase
    go_enter Try.func63, Try.ntmps63
    go_wp2
    go_ret
    exact ⟨_, rfl, World.ownsRow_nil _ _ _ _, brefl⟩
  | some a =>
    have hsrc : ∀ j u, (flatE encP L)[j]? = some u → (w.alloc (.cells #[] 35)).cell? (a.add j) = some u := by
      rcases hcase with h | ⟨b, off, h, _, hb, hc⟩
      · have hL : L = [] := List.eq_nil_of_length_eq_zero (by omega)
        subst hL
        intro j u hj
        simp [flatE] at hj
      · cases h
        intro j u hj
        rw [add_litZ]
        exact keepA (flatE_cells encP_len L off hc j u hj)
    have hown : (w.alloc (.cells #[] 35)).ownsRow w.heap.size 35 2 (.slice (some ⟨w.heap.size, 0, none⟩) 0 0) 0 [] := World.ownsRow_made w #[] 0 (Nat.le_refl _) (Nat.zero_le _) rfl
    have HS := Lib.hid hsrc
    have hfl : (flatE encP L).length = n * 2 := by rw [flatE_length encP_len, hn]
    have HF := Lib.hid hfl
    obtain ⟨X, hX⟩ : ∃ X, flatE encP L = X := ⟨_, rfl⟩
    have ho : ∀ u ∈ X, u.oneCell' = true := by rw [← hX]; exact oneE onePos L
    rw [hX] at HS HF
    have HX := Lib.hid hX
    have HO := Lib.hid ho
    clear hsrc hn hcase hfl hX ho
    obtain ⟨ab, ao, asp⟩ := a
    go_enter Try.func63, Try.ntmps63
    go_wp2_with (at_builtin; refine wpList_append_own _ rfl _ _ 28 rfl w.heap.size 35 i1 (.agg #[.int .i64 0, .int .i64 0]) 2 16 Try.underlying28 hi hz0 hz1 hz2 rfl (by decide) _ _ _ rfl hown ⟨ab, ao, asp⟩ n c X rfl HF.out HS.out HO.out (by unfold maxLen; omega) (by omega) (by simp) ?_; intro v' w2 hown' hgrow _)
    obtain ⟨av, cv, rfl⟩ := own_slice0 hown'
    go_wp2
    go_ret
    exact ⟨_, rfl, by rw [HX.out, HN.out]; simpa using hown', (bal brefl _).grown hgrow (by simp) (fun q hq => by cases hq; exact Nat.le_refl _)⟩
/-- the place of a day's position -/
def dayI (L : List (Int × Int)) (day : Int) : Int := idxI (fun x => decide (x.1 = day)) L
theorem ap1_any (d a : Int) (w : World) : Calls Try.prog 54 #[.agg #[.int .i64 d, .int .i64 a]] w fun e w' => e = .returned (.bool (!inB a (-1000000000000000) 1000000000000000)) ∧ Below w.heap.size w w' := by
  go_enter Try.func54, Try.ntmps54
  go_wp2_with fail
  refine (ltotal_any _ _ _).mono ?_
  rintro e w1 ⟨rfl, hb⟩
  go_wp2
  go_ret
  exact ⟨rfl, below_box hb⟩
theorem ap2_any (d r p : Int) (w : World) : Calls Try.prog 57 #[.agg #[.int .i64 d, .int .i64 r, .int .i64 p]] w fun e w' => e = .returned (.bool (!amB r p)) ∧ Below w.heap.size w w' := by
  go_enter Try.func57, Try.ntmps57
  go_wp2_with fail
  refine (amounts_any _ _ _ _).mono ?_
  rintro e w1 ⟨rfl, hb⟩
  go_wp2
  go_ret
  exact ⟨rfl, below_box hb⟩
theorem at1_any (cb : Nat) (day d a : Int) (w : World) (hc : w.cell? ⟨cb, 0, none⟩ = some (.int .i64 day)) : Calls Try.prog 87 #[.agg #[.int .i64 d, .int .i64 a], .pointer (some ⟨cb, 0, none⟩)] w fun e w' => e = .returned (.bool (decide (d = day))) ∧ Below w.heap.size w w' := by
  have hne : cb < w.heap.size := World.block_lt_of_cell? w _ hc
  by_cases h : d = day
  · subst h
    go_enter Try.func87, Try.ntmps87
    go_wp2
    go_ret
    exact ⟨by simp, bal brefl _⟩
  · go_enter Try.func87, Try.ntmps87
    go_wp2
    go_ret
    exact ⟨by simp [h], bal brefl _⟩
theorem at_any (P : Nat → Prop) (v : Value) (L : List (Int × Int)) (day : Int) (w : World) (hS : Sl 2 encP P w v L) (hl : L.length ≤ 1000000) :
    Calls Try.prog 64 #[v, .int .i64 day] w fun e w' => e = .returned (.int .i64 (dayI L day)) ∧ Below w.heap.size w w' := by
  have H := Lib.hid (indexP_any 87 #[.pointer (some ⟨w.heap.size, 0, none⟩)] (fun x => decide (x.1 = day)) P v L (w.alloc (.cells #[.int .i64 day] 3)) (enters_of Try.func87 (by kernel_rfl) rfl)
    (fun W hW x _ => by
      obtain ⟨d, a⟩ := x
      exact at1_any w.heap.size day d a W ((hW.cell (by simp)).trans ((World.cell?_alloc_at _ _ _ _ rfl).trans rfl))) (hS.alloc _) hl)
  obtain ⟨ao, n, c, rfl, -, -, -⟩ := hS.shape
  unfold dayI
  obtain ⟨i, hi⟩ : ∃ i, idxI (fun x => decide (x.1 = day)) L = i := ⟨_, rfl⟩
  rw [hi] at H ⊢
  clear hS hi
  go_enter Try.func64, Try.ntmps64
  go_wp2_with (go_at_call 82; refine H.out.mono ?_; rintro e w1 ⟨rfl, hb1⟩)
  go_ret
  exact ⟨rfl, below_box hb1⟩
theorem planned1_any (cb : Nat) (P : Nat → Prop) (v : Value) (L : List (Int × Int)) (d r p : Int) (w : World) (hc : w.cell? ⟨cb, 0, none⟩ = some v) (hS : Sl 2 encP P w v L) (hl : L.length ≤ 1000000) :
    Calls Try.prog 86 #[.agg #[.int .i64 d, .int .i64 r, .int .i64 p], .pointer (some ⟨cb, 0, none⟩)] w fun e w' => e = .returned (.bool (decide (dayI L d < 0))) ∧ Below w.heap.size w w' := by
  have hne : cb < w.heap.size := World.block_lt_of_cell? w _ hc
  have H := Lib.hid (at_any P v L d _ (hS.alloc (.cells #[.int .i64 d, .int .i64 r, .int .i64 p] 53)) hl)
  obtain ⟨ao, n, c, rfl, -, -, -⟩ := hS.shape
  obtain ⟨i, hi⟩ : ∃ i, dayI L d = i := ⟨_, rfl⟩
  rw [hi] at H ⊢
  clear hS hi
  go_enter Try.func86, Try.ntmps86
  go_wp2_with (go_at_call 64; refine H.out.mono ?_; rintro e w1 ⟨rfl, hb1⟩)
  go_ret
  exact ⟨rfl, below_box hb1⟩
theorem planDay_any (d r p : Int) (w : World) : Calls Try.prog 85 #[.agg #[.int .i64 d, .int .i64 r, .int .i64 p]] w fun e w' => e = .returned (.int .i64 d) ∧ Below w.heap.size w w' := by
  go_enter Try.func85, Try.ntmps85
  go_wp2
  go_ret
  exact ⟨rfl, bal brefl _⟩
set_option maxHeartbeats 1000000 in
theorem pln_days (ao : Option Addr) (n c : Nat) (d : Nat → Int) (r p : Nat → Int) (w : World) (hn : n ≤ 1000000) (h : PlanAt w ao n c d r p) :
    Calls Try.prog 84 #[.slice ao n c, .func (.func 85) #[] #[]] w (Days_pos n d w) := by
  obtain ⟨i1, hi, hz0, hz1, hz2⟩ := info_parts infoInt
  have H := Lib.hid h
  clear h
  go_enter Try.func84, Try.ntmps84
  go_wp2
  go_loopw [5, 10] (fun v iv wr => ∃ k : Nat, k ≤ n ∧ iv = .int .i64 k ∧ wr.ownsRow w.heap.size 3 1 v k ((List.range k).map fun j => Value.int .i64 (d j)) ∧ Below w.heap.size w wr) (fun _ iv _ => n - (intOf iv).toNat)
  case atStart => exact ⟨0, by omega, rfl, World.ownsRow_nil _ _ _ _, Below.refl _ _⟩
  case round =>
    obtain ⟨k, hk, rfl, hown, hbr⟩ := hrel
    have zr := hbr.size
    by_cases hlt : k < n
    · obtain ⟨b, off, rfl, hc⟩ := (H.out.below hbr).at_ (by omega)
      have hck := hc k hlt
      obtain ⟨vd, hvd⟩ : ∃ x, d k = x := ⟨_, rfl⟩
      obtain ⟨vr, hvr⟩ : ∃ x, r k = x := ⟨_, rfl⟩
      obtain ⟨vp, hvp⟩ : ∃ x, p k = x := ⟨_, rfl⟩
      rw [hvd, hvr, hvp] at hck
      have HX := Lib.hid hvd
      obtain ⟨k0, k1, k2⟩ := hck
      clear hc hvd hvr hvp
      go_wp2_with fail
      refine (planDay_any _ _ _ _).mono ?_
      rintro e w1 ⟨rfl, hb'⟩
      have hB' : Below w.heap.size w w1 := (hbr.alloc zr _).trans (Below.mono hb' (by simp; omega))
      have hown1 : w1.ownsRow w.heap.size 3 1 _ k _ := ownsRow_below (hown.alloc _) hb'
      have z1 := hb'.size
      simp only [World.size_alloc] at z1
      clear hb' hown
      go_wp2_with (at_builtin; refine wpList_append_own _ rfl _ _ 22 rfl w.heap.size 3 i1 (.int .i64 0) 1 8 Try.underlying22 hi hz0 hz1 hz2 rfl (by decide) _ _ _ rfl (hown1.alloc _) ⟨w1.heap.size, 0, none⟩ 1 1 [.int .i64 vd] rfl rfl (news1 _ _ _) (one1 _ _) (by unfold maxLen; omega) (by omega) (by simp; omega) ?_; intro v' w2 hown' hgrow _)
      have hB2 : Below w.heap.size w w2 := (hB'.alloc hB'.size _).grown hgrow (by simp; omega) (fun q hq => (hown1.lt q hq).1)
      go_wp2
      go_roundw
      case rel => exact ⟨k + 1, by omega, by go_num, by rw [List.range_succ, List.map_append, List.map_cons, List.map_nil, HX.out]; exact hown', hB2⟩
      case measure => simp [intOf]; omega
    · have hkn : k = n := by omega
      subst hkn
      obtain ⟨ao', c', hv, hx⟩ := intAt_own hown
      rw [hv]
      go_wp2
      go_ret
      exact ⟨ao', c', rfl, hx, hbr⟩
/-- the plans are for days of positions, in their order -/
def plB (L : List (Int × Int)) (Q : List (Int × Int × Int)) : Bool := ascB Q.length (pd3 Q) && !(Q.any fun p => decide (dayI L p.1 < 0))
set_option maxHeartbeats 1000000 in
theorem planned_any (P R : Nat → Prop) (v u : Value) (L : List (Int × Int)) (Q : List (Int × Int × Int)) (w : World) (hS : Sl 2 encP P w v L) (hT : Sl 3 encQ R w u Q) (hl : L.length ≤ 1000000) (hq : Q.length ≤ 1000000) :
    Calls Try.prog 62 #[v, u] w fun e w' => e = .returned (.bool (plB L Q)) ∧ Below w.heap.size w w' := by
  obtain ⟨ao, n, c, rfl, hn, -, -⟩ := hS.shape
  obtain ⟨bo, m, d, rfl, hm, -, -⟩ := hT.shape
  have HD := Lib.hid (pln_days bo m d _ _ _ _ (by omega) (hT.alloc (.cells #[.slice ao n c] 28)).plnAt)
  have HA := Lib.hid (fun W (hW : Below (w.alloc (.cells #[.slice ao n c] 28)).heap.size (w.alloc (.cells #[.slice ao n c] 28)) W) =>
    containsQ_any 86 #[.pointer (some ⟨w.heap.size, 0, none⟩)] (fun p => decide (dayI L p.1 < 0)) R (.slice bo m d) Q W (enters_of Try.func86 (by kernel_rfl) rfl)
      (fun U hU x _ => by
        obtain ⟨d, r, p⟩ := x
        have hWU := bup hW hU
        exact planned1_any w.heap.size P _ L d r p U ((hWU.cell (by simp)).trans ((World.cell?_alloc_at _ _ _ _ rfl).trans rfl)) ((hS.alloc _).below hWU) hl) ((hT.alloc _).below hW) hq)
  unfold plB
  rw [hm]
  obtain ⟨q, hq⟩ : ∃ q, (Q.any fun p => decide (dayI L p.1 < 0)) = q := ⟨_, rfl⟩
  obtain ⟨s, hs⟩ : ∃ s, ascB m (pd3 Q) = s := ⟨_, rfl⟩
  rw [hq] at HA ⊢
  rw [hs]
  have HS := Lib.hid hs
  have hm1 : m ≤ 1000000 := by omega
  clear hS hT hl hn hm hs hq
  cases s
  · go_enter Try.func62, Try.ntmps62
    go_wp2_with fail
    refine HD.out.mono ?_
    rintro e w1 ⟨ao', c', rfl, hx, hb1⟩
    have HX := Lib.hid (ascending_any ao' m c' _ _ hm1 hx)
    rw [HS.out] at HX
    have HB := Lib.hid hb1
    have hz : w.heap.size < w1.heap.size := by have := hb1.size; simp at this; omega
    clear hx hb1
    go_wp2_with (go_at_call 59; refine HX.out.mono ?_; rintro e w2 ⟨rfl, rfl⟩)
    go_ret
    exact ⟨rfl, below_box HB.out⟩
  · go_enter Try.func62, Try.ntmps62
    go_wp2_with fail
    refine HD.out.mono ?_
    rintro e w1 ⟨ao', c', rfl, hx, hb1⟩
    have HX := Lib.hid (ascending_any ao' m c' _ _ hm1 hx)
    rw [HS.out] at HX
    have HB := Lib.hid hb1
    have HC := Lib.hid (HA.out w1 hb1)
    have hz : w.heap.size < w1.heap.size := by have := hb1.size; simp at this; omega
    clear hx hb1
    go_wp2_with (first
      | (go_at_call 59; refine HX.out.mono ?_; rintro e w2 ⟨rfl, rfl⟩)
      | (go_at_call 56; refine HC.out.mono ?_; rintro e w2 ⟨rfl, hb2⟩))
    go_ret
    exact ⟨rfl, below_box (bup HB.out hb2)⟩
end Go.Proofs.Ytkkgipcidbgbhaa
