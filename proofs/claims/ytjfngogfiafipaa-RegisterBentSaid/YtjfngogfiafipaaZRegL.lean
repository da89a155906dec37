/- slices.Clone at slices of structs. Printed by wip/gen/clone.py. register: Copy, move. register: move. -/
import Derived.Test.YtjfngogfiafipaaZOwn
import Derived.Test.YtjfngogfiafipaaZRegP
import Derived.WalkSpells
import Derived.Test.YtjfngogfiafipaaZRegJ
namespace Go.Proofs.Ytjfngogfiafipaa
open Go.RowKit
set_option linter.unusedVariables false
set_option linter.unusedSimpArgs false

theorem flatE_cells {α : Type} {z : Nat} {enc : α → List Value} (hz : ∀ a, (enc a).length = z) {w : World} {b : Nat} : ∀ (L : List α) (off : Nat), (∀ (k : Nat) (a : α), L[k]? = some a → ∀ i u, (enc a)[i]? = some u → w.cell? ⟨b, off + k * z + i, none⟩ = some u) → ∀ j u, (flatE enc L)[j]? = some u → w.cell? ⟨b, off + j, none⟩ = some u
  | [], off, h, j, u, hj => by simp [flatE] at hj
  | x :: L, off, h, j, u, hj => by
    have hj' : (enc x ++ flatE enc L)[j]? = some u := by simpa [flatE] using hj
    rcases Nat.lt_or_ge j z with hlt | hge
    · rw [List.getElem?_append_left (by rw [hz]; exact hlt)] at hj'
      have := h 0 x rfl j u hj'
      simpa using this
    · rw [List.getElem?_append_right (by rw [hz]; exact hge), hz] at hj'
      have := flatE_cells hz (w := w) (b := b) L (off + z) (fun k a hk i v hi => by
        have q := h (k + 1) a (by simpa using hk) i v hi
        rw [show off + (k + 1) * z + i = off + z + k * z + i by rw [Nat.add_mul]; omega] at q
        exact q) (j - z) u hj'
      rw [show off + z + (j - z) = off + j by omega] at this
      exact this
/-- what a copy is: a row of its own with the same elements -/
def Copied {α : Type} (z : Nat) (enc : α → List Value) (T : TypeId) (L : List α) (w : World) (e : Ending) (w' : World) : Prop :=
  ∃ v, e = .returned v ∧ w'.ownsRow w.heap.size T z v L.length (flatE enc L) ∧ Below w.heap.size w w'
theorem own_slice0 {w : World} {base : Nat} {e : TypeId} {z : Nat} {v : Value} {n : Nat} {xs : List Value} (h : w.ownsRow base e z v n xs) : ∃ ao c, v = .slice ao n c := by
  rcases h.2 with ⟨rfl, rfl⟩ | ⟨g, cap, cur, rfl, _⟩
  · exact ⟨_, _, rfl⟩
  · exact ⟨_, _, rfl⟩
set_option maxHeartbeats 1000000 in
theorem cloneSec_any (P : Nat → Prop) (v : Value) (L : List Sec) (w : World) (h : Sl 7 encSec P w v L) (hlen : L.length ≤ 1000000) :
    Calls Try.prog 87 #[v] w (Copied 7 encSec 45 L w) := by
  obtain ⟨ao, n, c, rfl, hn, hnc, hcm, hcase⟩ := h
  have hn1 : n ≤ 1000000 := by omega
  obtain ⟨i1, hi, hz0, hz1, hz2⟩ := info_parts infoSec
  have HN := Lib.hid hn
  have e1 := @Lib.run_eql_slice_nil
  cases ao with
  | none =>
    have h0 : n = 0 := by
      rcases hcase with h | ⟨b, off, h, _⟩
      · exact h
      · cases h
    subst h0
    have hL : L = [] := List.eq_nil_of_length_eq_zero HN.out
    subst hL
    clear hn hcase
    go_enter Try.func87, Try.ntmps87
    go_wp2
    go_ret
    exact ⟨_, rfl, World.ownsRow_nil _ _ _ _, brefl⟩
  | some a =>
    have hsrc : ∀ j u, (flatE encSec L)[j]? = some u → (w.alloc (.cells #[] 45)).cell? (a.add j) = some u := by
      rcases hcase with h | ⟨b, off, h, _, hb, hc⟩
      · have hL : L = [] := List.eq_nil_of_length_eq_zero (by omega)
        subst hL
        intro j u hj
        simp [flatE] at hj
      · cases h
        intro j u hj
        rw [add_litZ]
        exact keepA (flatE_cells encSec_len L off hc j u hj)
    have hown : (w.alloc (.cells #[] 45)).ownsRow w.heap.size 45 7 (.slice (some ⟨w.heap.size, 0, none⟩) 0 0) 0 [] := World.ownsRow_made w #[] 0 (Nat.le_refl _) (Nat.zero_le _) rfl
    have HS := Lib.hid hsrc
    have hfl : (flatE encSec L).length = n * 7 := by rw [flatE_length encSec_len, hn]
    have HF := Lib.hid hfl
    obtain ⟨X, hX⟩ : ∃ X, flatE encSec L = X := ⟨_, rfl⟩
    have ho : ∀ u ∈ X, u.oneCell' = true := by rw [← hX]; exact oneE oneSec L
    rw [hX] at HS HF
    have HX := Lib.hid hX
    have HO := Lib.hid ho
    clear hsrc hn hcase hfl hX ho
    obtain ⟨ab, ao, asp⟩ := a
    go_enter Try.func87, Try.ntmps87
    go_wp2_with (at_builtin; refine wpList_append_own _ rfl _ _ 25 rfl w.heap.size 45 i1 (.agg #[.int .i64 0, .int .i64 0, .int .i64 0, .int .i64 0, .int .i64 0, .int .i64 0, .bool false]) 7 56 Try.underlying25 hi hz0 hz1 hz2 rfl (by decide) _ _ _ rfl hown ⟨ab, ao, asp⟩ n c X rfl HF.out HS.out HO.out (by unfold maxLen; omega) (by omega) (by simp) ?_; intro v' w2 hown' hgrow _)
    obtain ⟨av, cv, rfl⟩ := own_slice0 hown'
    go_wp2
    go_ret
    exact ⟨_, rfl, by rw [HX.out, HN.out]; simpa using hown', (bal brefl _).grown hgrow (by simp) (fun q hq => by cases hq; exact Nat.le_refl _)⟩
set_option maxHeartbeats 1000000 in
theorem cloneHold_any (P : Nat → Prop) (v : Value) (L : List Hold) (w : World) (h : Sl 3 encHold P w v L) (hlen : L.length ≤ 1000000) :
    Calls Try.prog 88 #[v] w (Copied 3 encHold 54 L w) := by
  obtain ⟨ao, n, c, rfl, hn, hnc, hcm, hcase⟩ := h
  have hn1 : n ≤ 1000000 := by omega
  obtain ⟨i1, hi, hz0, hz1, hz2⟩ := info_parts infoHold
  have HN := Lib.hid hn
  have e1 := @Lib.run_eql_slice_nil
  cases ao with
  | none =>
    have h0 : n = 0 := by
      rcases hcase with h | ⟨b, off, h, _⟩
      · exact h
      · cases h
    subst h0
    have hL : L = [] := List.eq_nil_of_length_eq_zero HN.out
    subst hL
    clear hn hcase
    go_enter Try.func88, Try.ntmps88
    go_wp2
    go_ret
    exact ⟨_, rfl, World.ownsRow_nil _ _ _ _, brefl⟩
  | some a =>
    have hsrc : ∀ j u, (flatE encHold L)[j]? = some u → (w.alloc (.cells #[] 54)).cell? (a.add j) = some u := by
      rcases hcase with h | ⟨b, off, h, _, hb, hc⟩
      · have hL : L = [] := List.eq_nil_of_length_eq_zero (by omega)
        subst hL
        intro j u hj
        simp [flatE] at hj
      · cases h
        intro j u hj
        rw [add_litZ]
        exact keepA (flatE_cells encHold_len L off hc j u hj)
    have hown : (w.alloc (.cells #[] 54)).ownsRow w.heap.size 54 3 (.slice (some ⟨w.heap.size, 0, none⟩) 0 0) 0 [] := World.ownsRow_made w #[] 0 (Nat.le_refl _) (Nat.zero_le _) rfl
    have HS := Lib.hid hsrc
    have hfl : (flatE encHold L).length = n * 3 := by rw [flatE_length encHold_len, hn]
    have HF := Lib.hid hfl
    obtain ⟨X, hX⟩ : ∃ X, flatE encHold L = X := ⟨_, rfl⟩
    have ho : ∀ u ∈ X, u.oneCell' = true := by rw [← hX]; exact oneE oneHold L
    rw [hX] at HS HF
    have HX := Lib.hid hX
    have HO := Lib.hid ho
    clear hsrc hn hcase hfl hX ho
    obtain ⟨ab, ao, asp⟩ := a
    go_enter Try.func88, Try.ntmps88
    go_wp2_with (at_builtin; refine wpList_append_own _ rfl _ _ 26 rfl w.heap.size 54 i1 (.agg #[.int .i64 0, .int .i64 0, .int .i64 0]) 3 24 Try.underlying26 hi hz0 hz1 hz2 rfl (by decide) _ _ _ rfl hown ⟨ab, ao, asp⟩ n c X rfl HF.out HS.out HO.out (by unfold maxLen; omega) (by omega) (by simp) ?_; intro v' w2 hown' hgrow _)
    obtain ⟨av, cv, rfl⟩ := own_slice0 hown'
    go_wp2
    go_ret
    exact ⟨_, rfl, by rw [HX.out, HN.out]; simpa using hown', (bal brefl _).grown hgrow (by simp) (fun q hq => by cases hq; exact Nat.le_refl _)⟩
set_option maxHeartbeats 1000000 in
theorem cloneMv_any (P : Nat → Prop) (v : Value) (L : List Mv) (w : World) (h : Sl 7 encMv P w v L) (hlen : L.length ≤ 1000000) :
    Calls Try.prog 89 #[v] w (Copied 7 encMv 36 L w) := by
  obtain ⟨ao, n, c, rfl, hn, hnc, hcm, hcase⟩ := h
  have hn1 : n ≤ 1000000 := by omega
  obtain ⟨i1, hi, hz0, hz1, hz2⟩ := info_parts infoMv
  have HN := Lib.hid hn
  have e1 := @Lib.run_eql_slice_nil
  cases ao with
  | none =>
    have h0 : n = 0 := by
      rcases hcase with h | ⟨b, off, h, _⟩
      · exact h
      · cases h
    subst h0
    have hL : L = [] := List.eq_nil_of_length_eq_zero HN.out
    subst hL
    clear hn hcase
    go_enter Try.func89, Try.ntmps89
    go_wp2
    go_ret
    exact ⟨_, rfl, World.ownsRow_nil _ _ _ _, brefl⟩
  | some a =>
    have hsrc : ∀ j u, (flatE encMv L)[j]? = some u → (w.alloc (.cells #[] 36)).cell? (a.add j) = some u := by
      rcases hcase with h | ⟨b, off, h, _, hb, hc⟩
      · have hL : L = [] := List.eq_nil_of_length_eq_zero (by omega)
        subst hL
        intro j u hj
        simp [flatE] at hj
      · cases h
        intro j u hj
        rw [add_litZ]
        exact keepA (flatE_cells encMv_len L off hc j u hj)
    have hown : (w.alloc (.cells #[] 36)).ownsRow w.heap.size 36 7 (.slice (some ⟨w.heap.size, 0, none⟩) 0 0) 0 [] := World.ownsRow_made w #[] 0 (Nat.le_refl _) (Nat.zero_le _) rfl
    have HS := Lib.hid hsrc
    have hfl : (flatE encMv L).length = n * 7 := by rw [flatE_length encMv_len, hn]
    have HF := Lib.hid hfl
    obtain ⟨X, hX⟩ : ∃ X, flatE encMv L = X := ⟨_, rfl⟩
    have ho : ∀ u ∈ X, u.oneCell' = true := by rw [← hX]; exact oneE oneMv L
    rw [hX] at HS HF
    have HX := Lib.hid hX
    have HO := Lib.hid ho
    clear hsrc hn hcase hfl hX ho
    obtain ⟨ab, ao, asp⟩ := a
    go_enter Try.func89, Try.ntmps89
    go_wp2_with (at_builtin; refine wpList_append_own _ rfl _ _ 27 rfl w.heap.size 36 i1 (.agg #[.int .i64 0, .int .i64 0, .int .i64 0, .int .i64 0, .int .i64 0, .int .i64 0, .int .i64 0]) 7 56 Try.underlying27 hi hz0 hz1 hz2 rfl (by decide) _ _ _ rfl hown ⟨ab, ao, asp⟩ n c X rfl HF.out HS.out HO.out (by unfold maxLen; omega) (by omega) (by simp) ?_; intro v' w2 hown' hgrow _)
    obtain ⟨av, cv, rfl⟩ := own_slice0 hown'
    go_wp2
    go_ret
    exact ⟨_, rfl, by rw [HX.out, HN.out]; simpa using hown', (bal brefl _).grown hgrow (by simp) (fun q hq => by cases hq; exact Nat.le_refl _)⟩
end Go.Proofs.Ytjfngogfiafipaa
namespace Go.Proofs.Ytjfngogfiafipaa
open Go.RowKit
set_option linter.unusedVariables false
set_option linter.unusedSimpArgs false

theorem keepF {w w1 : World} (hb : Below w.heap.size w w1) {b o o' : Nat} {v : Value} (hc : w.cell? ⟨b, o', none⟩ = some v) {f : Bool} (h : w.frozen? ⟨b, o, none⟩ = f) : w1.frozen? ⟨b, o, none⟩ = f := (hb.frozen (p := ⟨b, o, none⟩) (by exact World.block_lt_of_cell? w ⟨b, o', none⟩ hc)).trans h
theorem own_kept {w w' : World} {base b : Nat} {T : TypeId} {z : Nat} {v : Value} {n : Nat} {xs : List Value} (h : w.ownsRow base T z v n xs) (hg : w.grownBy w' (some b)) (hb : b < base) : w'.ownsRow base T z v n xs := by
  refine h.kept hg ?_
  cases hv : v.ownBlock with
  | none => exact .inl rfl
  | some k => exact .inr (by have := (h.lt k hv).1; simp; omega)
theorem grownBy_set3 (w : World) (b : Nat) (v0 v1 v2 : Value) : w.grownBy (((w.setCell ⟨b, 0, none⟩ v0).setCell ⟨b, 1, none⟩ v1).setCell ⟨b, 2, none⟩ v2) (some b) := grownBy_transZ (grownBy_transZ (grownBy_setCellZ ..) (grownBy_setCellZ ..)) (grownBy_setCellZ ..)
/-- a register of rows of its own, base ahead -/
structure RgOwn (base : Nat) (w : World) (vs vh vm : Value) (R : Reg) : Prop where
  S : w.ownsRow base 45 7 vs R.secs.length (flatE encSec R.secs)
  H : w.ownsRow base 54 3 vh R.hs.length (flatE encHold R.hs)
  M : w.ownsRow base 36 7 vm R.ms.length (flatE encMv R.ms)
/-- a copy of a register -/
def CopiedR (R : Reg) (w : World) (e : Ending) (w' : World) : Prop :=
  ∃ vs vh vm, e = .returned (.agg #[vs, vh, vm]) ∧ RgOwn w.heap.size w' vs vh vm R ∧ Below w.heap.size w w'
set_option maxHeartbeats 2000000 in
set_option maxRecDepth 100000 in
theorem copy_any (P : Nat → Prop) (vs vh vm : Value) (R : Reg) (w : World) (hr : RgIn P w vs vh vm R) (hS : R.secs.length ≤ 1000000) (hH : R.hs.length ≤ 1000000) (hM : R.ms.length ≤ 1000000) :
    Calls Try.prog 64 #[.agg #[vs, vh, vm]] w (CopiedR R w) := by
  obtain ⟨a0, n0, c0, rfl, -, -, -⟩ := hr.S.shape
  obtain ⟨a1, n1, c1, rfl, -, -, -⟩ := hr.H.shape
  obtain ⟨a2, n2, c2, rfl, -, -, -⟩ := hr.M.shape
  have HR := Lib.hid hr
  clear hr
  obtain ⟨W, hW⟩ : ∃ W, W = ((w.alloc (.cells #[.slice a0 n0 c0, .slice a1 n1 c1, .slice a2 n2 c2] 29)).alloc (.cells #[.slice none 0 0, .slice none 0 0, .slice none 0 0] 29)) := ⟨_, rfl⟩
  have hbW : Below w.heap.size w W := by rw [hW]; exact bal (bal brefl _) _
  have zW : W.heap.size = w.heap.size + 1 + 1 := by rw [hW]; simp
  have r0 : W.cell? ⟨w.heap.size, 0, none⟩ = some (.slice a0 n0 c0) := by rw [hW]; exact keepA ((World.cell?_alloc_at _ _ _ _ rfl).trans rfl)
  have r1 : W.cell? ⟨w.heap.size, 1, none⟩ = some (.slice a1 n1 c1) := by rw [hW]; exact keepA ((World.cell?_alloc_at _ _ _ _ rfl).trans rfl)
  have r2 : W.cell? ⟨w.heap.size, 2, none⟩ = some (.slice a2 n2 c2) := by rw [hW]; exact keepA ((World.cell?_alloc_at _ _ _ _ rfl).trans rfl)
  have q0 : W.cell? ⟨w.heap.size + 1, 0, none⟩ = some (.slice none 0 0) := by rw [hW]; exact (World.cell?_alloc_at _ _ _ _ (by simp)).trans rfl
  have q1 : W.cell? ⟨w.heap.size + 1, 1, none⟩ = some (.slice none 0 0) := by rw [hW]; exact (World.cell?_alloc_at _ _ _ _ (by simp)).trans rfl
  have q2 : W.cell? ⟨w.heap.size + 1, 2, none⟩ = some (.slice none 0 0) := by rw [hW]; exact (World.cell?_alloc_at _ _ _ _ (by simp)).trans rfl
  have f0 : ∀ o, W.frozen? ⟨w.heap.size + 1, o, none⟩ = false := fun o => by rw [hW]; exact World.frozen?_alloc_at _ _ _ _ (by simp)
  have HBW := Lib.hid hbW
  have HRW := Lib.hid (HR.out.below hbW)
  have F0 := Lib.hid f0
  clear hbW f0
  go_enter Try.func64, Try.ntmps64
  go_wp2
  rw [← hW]
  clear hW
  go_region_held3 (fun w' => w'.cell? ⟨w.heap.size, 0, none⟩ = some (.slice a0 n0 c0) ∧ w'.cell? ⟨w.heap.size, 1, none⟩ = some (.slice a1 n1 c1) ∧ w'.cell? ⟨w.heap.size, 2, none⟩ = some (.slice a2 n2 c2)) (first | exact ⟨r0, r1, r2⟩ | exact ⟨keepB hb1 r0, keepB hb1 r1, keepB hb1 r2⟩ | exact ⟨keepB hb2 (keepB hb1 r0), keepB hb2 (keepB hb1 r1), keepB hb2 (keepB hb1 r2)⟩ | exact ⟨keepB hb3 (keepB hb2 (keepB hb1 r0)), keepB hb3 (keepB hb2 (keepB hb1 r1)), keepB hb3 (keepB hb2 (keepB hb1 r2))⟩ | go_keep) (first
    | (go_at_call 87; refine (cloneSec_any P _ R.secs _ (HRW.out.S.drewN 1) hS).mono ?_; rintro e w1 ⟨v1, rfl, ho1, hb1'⟩; have hb1 : Below W.heap.size W w1 := ⟨hb1'.os, hb1'.tape, hb1'.output, hb1'.size, hb1'.block⟩; clear hb1')
    | (go_at_call 88; refine (cloneHold_any P _ R.hs _ (HRW.out.H.below hb1) hH).mono ?_; rintro e w2 ⟨v2, rfl, ho2, hb2⟩)
    | (go_at_call 89; refine (cloneMv_any P _ R.ms _ ((HRW.out.M.below hb1).below hb2) hM).mono ?_; rintro e w3 ⟨v3, rfl, ho3, hb3⟩; obtain ⟨s1, t1, rfl⟩ := own_slice0 ho1; obtain ⟨s2, t2, rfl⟩ := own_slice0 ho2; obtain ⟨s3, t3, rfl⟩ := own_slice0 ho3; have x0 := keepB hb3 (keepB hb2 (keepB hb1 q0)); have x1 := keepB hb3 (keepB hb2 (keepB hb1 q1)); have x2 := keepB hb3 (keepB hb2 (keepB hb1 q2)); have y0 := keepF hb3 (keepB hb2 (keepB hb1 q0)) (keepF hb2 (keepB hb1 q0) (keepF hb1 q0 (F0.out 0))); have y1 := keepF hb3 (keepB hb2 (keepB hb1 q0)) (keepF hb2 (keepB hb1 q0) (keepF hb1 q0 (F0.out 1))); have y2 := keepF hb3 (keepB hb2 (keepB hb1 q0)) (keepF hb2 (keepB hb1 q0) (keepF hb1 q0 (F0.out 2)))))
  go_wp2
  refine bodyPost_ret (v := .agg #[.slice s1 R.secs.length t1, .slice s2 R.hs.length t2, .slice s3 R.ms.length t3]) (by simp [results, Try.results64, go_sem, x0, x1, x2]) rfl ?_
  have z1 := hb1.size
  have z2 := hb2.size
  have z3 := hb3.size
  have y1 := grownBy_set3 w3 (w.heap.size + 1) (.slice s1 R.secs.length t1) (.slice s2 R.hs.length t2) (.slice s3 R.ms.length t3)
  have o1 := own_kept (ownsRow_baseZ (ownsRow_belowZ (ownsRow_belowZ ho1 hb2) hb3) (show w.heap.size + 1 + 1 ≤ _ by exact Nat.le_of_eq zW.symm)) y1 (by omega)
  have o2 := own_kept (ownsRow_baseZ (ownsRow_belowZ ho2 hb3) (show w.heap.size + 1 + 1 ≤ _ by omega)) y1 (by omega)
  have o3 := own_kept (ownsRow_baseZ ho3 (show w.heap.size + 1 + 1 ≤ _ by omega)) y1 (by omega)
  exact ⟨_, _, _, rfl, ⟨ownsRow_baseZ o1 (by omega), ownsRow_baseZ o2 (by omega), ownsRow_baseZ o3 (by omega)⟩, bset3 (bup (bup (bup HBW.out hb1) hb2) hb3) (by omega) _ _ _⟩
end Go.Proofs.Ytjfngogfiafipaa
namespace Go.Proofs.Ytjfngogfiafipaa
open Go.RowKit
set_option linter.unusedVariables false
set_option linter.unusedSimpArgs false

theorem repl_num (secs : List Sec) (want : Mv → Bool) : ∀ (ms : List Mv) (n d : Int) (hs : List Hold), (repl secs want ms n d hs).1 = true → (∀ m ∈ ms, want m = true) → (repl secs want ms n d hs).2.1 = n + ms.length
  | [], n, d, hs, _, _ => by simp [repl]
  | m :: ms, n, d, hs, h, hw => by
    simp only [repl, hw m (List.mem_cons_self ..), if_true] at h ⊢
    split at h
    · rename_i hq
      rw [if_pos hq, repl_num secs want ms _ _ _ h (fun x hx => hw x (List.mem_cons_of_mem _ hx))]
      simp only [List.length_cons]; omega
    · cases h
/-- the day of the last move -/
def rgDay (R : Reg) : Int := (repl R.secs wantAll R.ms 0 0 []).2.2.1
theorem RgOk.made {R : Reg} (h : RgOk R) : repl R.secs wantAll R.ms 0 0 [] = (true, (R.ms.length : Int), rgDay R, R.hs) := by
  have h1 := repl_num R.secs wantAll R.ms 0 0 [] h.ok (fun _ _ => rfl)
  have h2 := h.ok
  have h3 := h.hs
  unfold rgDay
  obtain ⟨q, hq⟩ : ∃ q, repl R.secs wantAll R.ms 0 0 [] = q := ⟨_, rfl⟩
  rw [hq] at h1 h2 h3 ⊢
  obtain ⟨q1, q2, q3, q4⟩ := q
  simp only at h1 h2 h3
  rw [h1, h2, h3, Int.zero_add]
theorem heap_at {w : World} {o : Obj} {k : Nat} (h : k = w.heap.size) : (w.alloc o).heap[k]? = some o := by subst h; exact heap_alloc_new w o
theorem Sl.set {α : Type} {z : Nat} {enc : α → List Value} {P : Nat → Prop} {w : World} {v : Value} {L : List α} (h : Sl z enc P w v L) {b o : Nat} {u : Value} (hp : ∀ k, P k → k ≠ b) : Sl z enc P (w.setCell ⟨b, o, none⟩ u) v L :=
  h.grown (grownBy_setCellZ w b o u) hp
/-- a store into a box ahead of the clerk -/
theorem CkIn.set {cb b o : Nat} {u : Value} {w : World} {secs : List Sec} {hs : List Hold} {num day : Int} {vs v : Value} (h : CkIn cb w secs hs num day vs v) (hb : b < cb) (hS : Sl 7 encSec (· < cb) (w.setCell ⟨b, o, none⟩ u) vs secs) : CkIn cb (w.setCell ⟨b, o, none⟩ u) secs hs num day vs v := by
  have hne : ∀ i, (w.setCell ⟨b, o, none⟩ u).cell? ⟨cb, i, none⟩ = w.cell? ⟨cb, i, none⟩ := fun i => World.cell?_setCell_other _ _ _ _ (by intro q; injection q; omega)
  exact ⟨(hne 0).trans h.h0, (hne 1).trans h.h1, (hne 2).trans h.h2, (hne 3).trans h.h3, (World.frozen?_setCell ..).trans h.f1, (World.frozen?_setCell ..).trans h.f2, (World.frozen?_setCell ..).trans h.f3, hS, own_kept h.O (grownBy_setCellZ ..) (by omega)⟩
/-- the move that is made, numbered -/
def numbered (R : Reg) (m : Mv) : Mv := { m with num := (R.ms.length : Int) + 1 }
/-- the error of a move of a register -/
def rmE (R : Reg) (m : Mv) : Int := if chkE R = 0 then (if R.ms.length = 400 then 3 else mvE R.secs R.hs (rgDay R) (numbered R m)) else chkE R
/-- the register behind a move, or the empty one -/
def rmR (R : Reg) (m : Mv) : Reg := if rmE R m = 0 then ⟨R.secs, mvH R.hs (numbered R m), R.ms ++ [numbered R m]⟩ else ⟨[], [], []⟩
/-- a register that a function hands back, with an error -/
def GaveR (P : Nat → Prop) (R : Reg) (E : Int) (w : World) (e : Ending) (w' : World) : Prop :=
  ∃ vs vh vm, e = .returned (.tuple #[.agg #[vs, vh, vm], .int .i64 E]) ∧ RgIn P w' vs vh vm R ∧ Below w.heap.size w w'
theorem rgIn_nil (P : Nat → Prop) (w : World) : RgIn P w (.slice none 0 0) (.slice none 0 0) (.slice none 0 0) ⟨[], [], []⟩ := ⟨Sl.nil, Sl.nil, Sl.nil⟩
theorem gave_nil {P : Nat → Prop} {R : Reg} {E k : Int} {w w' : World} (hR : R = ⟨[], [], []⟩) (hE : E = k) (hb : Below w.heap.size w w') : GaveR P R E w (.returned (.tuple #[.agg #[.slice none 0 0, .slice none 0 0, .slice none 0 0], .int .i64 k])) w' := by
  subst hR hE; exact ⟨_, _, _, rfl, rgIn_nil _ _, hb⟩
set_option maxHeartbeats 4000000 in
set_option maxRecDepth 100000 in
theorem rmove_bad (P : Nat → Prop) (vs vh vm : Value) (R : Reg) (mn md mk ms mf mt ma : Int) (w : World) (hr : RgIn P w vs vh vm R) (hS : R.secs.length ≤ 1000000) (hH : R.hs.length ≤ 1000000) (hM : R.ms.length ≤ 1000000) (hP : ∀ b, w.heap.size ≤ b → P b) (hx : chkE R ≠ 0) :
    Calls Try.prog 59 #[.agg #[vs, vh, vm], .agg #[.int .i64 mn, .int .i64 md, .int .i64 mk, .int .i64 ms, .int .i64 mf, .int .i64 mt, .int .i64 ma]] w (GaveR P (rmR R ⟨mn, md, mk, ms, mf, mt, ma⟩) (rmE R ⟨mn, md, mk, ms, mf, mt, ma⟩) w) := by
  obtain ⟨a0, n0, c0, rfl, -, -, -⟩ := hr.S.shape
  obtain ⟨a1, n1, c1, rfl, -, -, -⟩ := hr.H.shape
  obtain ⟨a2, n2, c2, rfl, hn2, -, -⟩ := hr.M.shape
  have HC := Lib.hid (fun W hW => check_any P _ _ _ R W (hr.below (w' := W) hW) hS hH hM)
  have HR := Lib.hid hr
  have HN2 := Lib.hid hn2
  obtain ⟨E0, hE0⟩ : ∃ E, chkE R = E := ⟨_, rfl⟩
  obtain ⟨E, hE⟩ : ∃ E, rmE R ⟨mn, md, mk, ms, mf, mt, ma⟩ = E := ⟨_, rfl⟩
  obtain ⟨Q, hQ⟩ : ∃ Q, rmR R ⟨mn, md, mk, ms, mf, mt, ma⟩ = Q := ⟨_, rfl⟩
  have hE2 := hE
  have hQ2 := hQ
  unfold rmE at hE2
  unfold rmR at hQ2
  rw [hE0] at HC hE2
  rw [hE] at hQ2
  rw [hE, hQ]
  have HE := Lib.hid hE2
  have HQ := Lib.hid hQ2
  have HE0 := Lib.hid hE0
  clear hr hE hQ hE2 hQ2 hE0 hn2
  have h0 : E0 ≠ 0 := by rw [← HE0.out]; exact hx
  have g1 : (E0 != 0) = true := by simpa using h0
  have g2 : (E0 == 0) = false := by simpa using h0
  have hf1 : E = E0 := by rw [← HE.out, if_neg h0]
  have hf2 : Q = ⟨[], [], []⟩ := by rw [← HQ.out, if_neg (by rw [hf1]; exact h0)]
  have HF1 := Lib.hid hf1
  have HF2 := Lib.hid hf2
  clear hf1 hf2
  go_enter Try.func59, Try.ntmps59
  go_wp2_with fail
  refine (HC.out _ (bal (bal (bal brefl _) _) _)).mono ?_
  rintro e w1 ⟨rfl, hb1⟩
  obtain ⟨hc, hf⟩ := bcell hb1
  have hz : w.heap.size + 1 + 1 < w1.heap.size := by have := hb1.size; simp at this; omega
  go_wp2
  refine bodyPost_ret (v := .tuple #[.agg #[.slice none 0 0, .slice none 0 0, .slice none 0 0], .int .i64 E0]) (by simp [results, Try.results59, go_sem, hc, hz]) rfl (gave_nil HF2.out HF1.out ?_)
  exact bset3 (bup (bal (bal (bal brefl _) _) _) hb1) (by omega) _ _ _
set_option maxHeartbeats 4000000 in
set_option maxRecDepth 100000 in
theorem rmove_full (P : Nat → Prop) (vs vh vm : Value) (R : Reg) (mn md mk ms mf mt ma : Int) (w : World) (hr : RgIn P w vs vh vm R) (hS : R.secs.length ≤ 1000000) (hH : R.hs.length ≤ 1000000) (hM : R.ms.length ≤ 1000000) (hP : ∀ b, w.heap.size ≤ b → P b) (hx : chkE R = 0) (hy : R.ms.length = 400) :
    Calls Try.prog 59 #[.agg #[vs, vh, vm], .agg #[.int .i64 mn, .int .i64 md, .int .i64 mk, .int .i64 ms, .int .i64 mf, .int .i64 mt, .int .i64 ma]] w (GaveR P (rmR R ⟨mn, md, mk, ms, mf, mt, ma⟩) (rmE R ⟨mn, md, mk, ms, mf, mt, ma⟩) w) := by
  obtain ⟨a0, n0, c0, rfl, -, -, -⟩ := hr.S.shape
  obtain ⟨a1, n1, c1, rfl, -, -, -⟩ := hr.H.shape
  obtain ⟨a2, n2, c2, rfl, hn2, -, -⟩ := hr.M.shape
  have HC := Lib.hid (fun W hW => check_any P _ _ _ R W (hr.below (w' := W) hW) hS hH hM)
  have HR := Lib.hid hr
  have HN2 := Lib.hid hn2
  obtain ⟨E0, hE0⟩ : ∃ E, chkE R = E := ⟨_, rfl⟩
  obtain ⟨E, hE⟩ : ∃ E, rmE R ⟨mn, md, mk, ms, mf, mt, ma⟩ = E := ⟨_, rfl⟩
  obtain ⟨Q, hQ⟩ : ∃ Q, rmR R ⟨mn, md, mk, ms, mf, mt, ma⟩ = Q := ⟨_, rfl⟩
  have hE2 := hE
  have hQ2 := hQ
  unfold rmE at hE2
  unfold rmR at hQ2
  rw [hE0] at HC hE2
  rw [hE] at hQ2
  rw [hE, hQ]
  have HE := Lib.hid hE2
  have HQ := Lib.hid hQ2
  have HE0 := Lib.hid hE0
  clear hr hE hQ hE2 hQ2 hE0 hn2
  have h0 : E0 = 0 := by rw [← HE0.out]; exact hx
  subst h0
  have h4 : n2 = 400 := by rw [← HN2.out]; exact hy
  clear hx hy
  have h4' : ((n2 : Int) == 400) = true := by simp; omega
  have H4 := Lib.hid h4
  clear h4
  have hf1 : E = 3 := by rw [← HE.out, if_pos rfl, if_pos (by rw [HN2.out]; exact H4.out)]
  have hf2 : Q = ⟨[], [], []⟩ := by rw [← HQ.out, if_neg (by rw [hf1]; omega)]
  have HF1 := Lib.hid hf1
  have HF2 := Lib.hid hf2
  clear hf1 hf2
  go_enter Try.func59, Try.ntmps59
  go_wp2_with fail
  refine (HC.out _ (bal (bal (bal brefl _) _) _)).mono ?_
  rintro e w1 ⟨rfl, hb1⟩
  obtain ⟨hc, hf⟩ := bcell hb1
  have hz : w.heap.size + 1 + 1 < w1.heap.size := by have := hb1.size; simp at this; omega
  go_wp2
  refine bodyPost_ret (v := .tuple #[.agg #[.slice none 0 0, .slice none 0 0, .slice none 0 0], .int .i64 3]) (by simp [results, Try.results59, go_sem, hc, hz]) rfl (gave_nil HF2.out HF1.out ?_)
  exact bset3 (bup (bal (bal (bal brefl _) _) _) hb1) (by omega) _ _ _
end Go.Proofs.Ytjfngogfiafipaa
