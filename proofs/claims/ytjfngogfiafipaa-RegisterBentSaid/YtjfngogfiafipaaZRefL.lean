/- the reference's register: Issue, Transfer, Redeem. appends of slices to rows of one's own; parts of a slice. the reference's register: Add. Printed by wip/gen/refl.py. -/
import Derived.Test.YtjfngogfiafipaaZRefI
namespace Go.Proofs.Ytjfngogfiafipaa
open Go.RowKit
set_option linter.unusedVariables false
set_option linter.unusedSimpArgs false
set_option maxHeartbeats 4000000 in
set_option maxRecDepth 100000 in
theorem fIssue_any (P : Nat → Prop) (vs vh vm : Value) (R : Reg) (day s t a : Int) (w : World) (hr : RgIn P w vs vh vm R) (hS : R.secs.length ≤ 1000000) (hH : R.hs.length ≤ 1000000) (hM : R.ms.length ≤ 1000000) (hP : ∀ b, w.heap.size + 2 ≤ b → P b) :
    Calls Try.prog 37 #[.agg #[vs, vh, vm], .int .i64 day, .int .i64 s, .int .i64 t, .int .i64 a] w (GaveR P (rmR R ⟨0, day, 1, s, 0, t, a⟩) (rmE R ⟨0, day, 1, s, 0, t, a⟩) w) := by
  obtain ⟨a0, n0, c0, rfl, -, -, -⟩ := hr.S.shape
  obtain ⟨a1, n1, c1, rfl, -, -, -⟩ := hr.H.shape
  obtain ⟨a2, n2, c2, rfl, -, -, -⟩ := hr.M.shape
  have hb0 : ∀ b, b < w.heap.size ∨ w.heap.size + 2 ≤ b → b ≠ w.heap.size + 1 := fun b h => by omega
  have hr0 := hr.mono (Q := fun b => (P b ∧ b < w.heap.size) ∨ w.heap.size + 2 ≤ b) (fun b h hl => .inl ⟨h, hl⟩)
  have HC := Lib.hid (fun W hW hz => fchange_any (fun b => (P b ∧ b < w.heap.size) ∨ w.heap.size + 2 ≤ b) _ _ _ R ⟨0, day, 1, s, 0, t, a⟩ W (hr0.below (w' := W) hW) hS hH hM hz (by simp [kindOk]))
  clear hr hr0
  obtain ⟨E, hE⟩ : ∃ E, rmE R ⟨0, day, 1, s, 0, t, a⟩ = E := ⟨_, rfl⟩
  obtain ⟨Q, hQ⟩ : ∃ Q, rmR R ⟨0, day, 1, s, 0, t, a⟩ = Q := ⟨_, rfl⟩
  rw [hE, hQ] at HC
  rw [hE, hQ]
  clear hE hQ hS hH hM
  go_enter Try.func37, Try.ntmps37
  go_wp2_with fail
  refine (HC.out _ (bal (bal brefl _) _) (fun b hb => .inr (by simpa using hb))).mono ?_
  rintro e w1 hg
  obtain ⟨b0, m0, d0, b1, m1, d1, b2, m2, d2, rfl, hq, hb1⟩ := hg.shape
  clear hg
  have HB := Lib.hid (bup (bal (bal brefl _) _) hb1)
  have hx := (hb1.block (w.heap.size + 1) (by simp)).trans (heap_at (w := (w.alloc (.cells #[.slice a0 n0 c0, .slice a1 n1 c1, .slice a2 n2 c2] 29 (0, 0)))) (o := (.cells #[.slice none 0 0, .slice none 0 0, .slice none 0 0] 29 (0, 0))) (by simp))
  have x0 := cell_heap (i := 0) hx rfl
  have x1 := cell_heap (i := 1) hx rfl
  have x2 := cell_heap (i := 2) hx rfl
  have xf0 : w1.frozen? ⟨w.heap.size + 1, 0, none⟩ = false := frozen_of_row w1 _ _ _ _ hx
  have xf1 : w1.frozen? ⟨w.heap.size + 1, 1, none⟩ = false := frozen_of_row w1 _ _ _ _ hx
  have xf2 : w1.frozen? ⟨w.heap.size + 1, 2, none⟩ = false := frozen_of_row w1 _ _ _ _ hx
  have HQ := Lib.hid hq
  clear hq hb1 hx
  go_wp2
  refine bodyPost_ret (v := .tuple #[.agg #[.slice b0 m0 d0, .slice b1 m1 d1, .slice b2 m2 d2], .int .i64 E]) (by simp [results, Try.results37, go_sem, x0, x1, x2]) rfl ⟨_, _, _, rfl, ?_, bset3 HB.out (by omega) _ _ _⟩
  exact (HQ.out.set3 (fun k hk => hb0 k (hk.imp (fun h => h.2) id))).mono (fun b h _ => h.elim (fun h => h.1) (hP b))
set_option maxHeartbeats 4000000 in
set_option maxRecDepth 100000 in
theorem fTransfer_any (P : Nat → Prop) (vs vh vm : Value) (R : Reg) (day s f t a : Int) (w : World) (hr : RgIn P w vs vh vm R) (hS : R.secs.length ≤ 1000000) (hH : R.hs.length ≤ 1000000) (hM : R.ms.length ≤ 1000000) (hP : ∀ b, w.heap.size + 2 ≤ b → P b) :
    Calls Try.prog 38 #[.agg #[vs, vh, vm], .int .i64 day, .int .i64 s, .int .i64 f, .int .i64 t, .int .i64 a] w (GaveR P (rmR R ⟨0, day, 2, s, f, t, a⟩) (rmE R ⟨0, day, 2, s, f, t, a⟩) w) := by
  obtain ⟨a0, n0, c0, rfl, -, -, -⟩ := hr.S.shape
  obtain ⟨a1, n1, c1, rfl, -, -, -⟩ := hr.H.shape
  obtain ⟨a2, n2, c2, rfl, -, -, -⟩ := hr.M.shape
  have hb0 : ∀ b, b < w.heap.size ∨ w.heap.size + 2 ≤ b → b ≠ w.heap.size + 1 := fun b h => by omega
  have hr0 := hr.mono (Q := fun b => (P b ∧ b < w.heap.size) ∨ w.heap.size + 2 ≤ b) (fun b h hl => .inl ⟨h, hl⟩)
  have HC := Lib.hid (fun W hW hz => fchange_any (fun b => (P b ∧ b < w.heap.size) ∨ w.heap.size + 2 ≤ b) _ _ _ R ⟨0, day, 2, s, f, t, a⟩ W (hr0.below (w' := W) hW) hS hH hM hz (by simp [kindOk]))
  clear hr hr0
  obtain ⟨E, hE⟩ : ∃ E, rmE R ⟨0, day, 2, s, f, t, a⟩ = E := ⟨_, rfl⟩
  obtain ⟨Q, hQ⟩ : ∃ Q, rmR R ⟨0, day, 2, s, f, t, a⟩ = Q := ⟨_, rfl⟩
  rw [hE, hQ] at HC
  rw [hE, hQ]
  clear hE hQ hS hH hM
  go_enter Try.func38, Try.ntmps38
  go_wp2_with fail
  refine (HC.out _ (bal (bal brefl _) _) (fun b hb => .inr (by simpa using hb))).mono ?_
  rintro e w1 hg
  obtain ⟨b0, m0, d0, b1, m1, d1, b2, m2, d2, rfl, hq, hb1⟩ := hg.shape
  clear hg
  have HB := Lib.hid (bup (bal (bal brefl _) _) hb1)
  have hx := (hb1.block (w.heap.size + 1) (by simp)).trans (heap_at (w := (w.alloc (.cells #[.slice a0 n0 c0, .slice a1 n1 c1, .slice a2 n2 c2] 29 (0, 0)))) (o := (.cells #[.slice none 0 0, .slice none 0 0, .slice none 0 0] 29 (0, 0))) (by simp))
  have x0 := cell_heap (i := 0) hx rfl
  have x1 := cell_heap (i := 1) hx rfl
  have x2 := cell_heap (i := 2) hx rfl
  have xf0 : w1.frozen? ⟨w.heap.size + 1, 0, none⟩ = false := frozen_of_row w1 _ _ _ _ hx
  have xf1 : w1.frozen? ⟨w.heap.size + 1, 1, none⟩ = false := frozen_of_row w1 _ _ _ _ hx
  have xf2 : w1.frozen? ⟨w.heap.size + 1, 2, none⟩ = false := frozen_of_row w1 _ _ _ _ hx
  have HQ := Lib.hid hq
  clear hq hb1 hx
  go_wp2
  refine bodyPost_ret (v := .tuple #[.agg #[.slice b0 m0 d0, .slice b1 m1 d1, .slice b2 m2 d2], .int .i64 E]) (by simp [results, Try.results38, go_sem, x0, x1, x2]) rfl ⟨_, _, _, rfl, ?_, bset3 HB.out (by omega) _ _ _⟩
  exact (HQ.out.set3 (fun k hk => hb0 k (hk.imp (fun h => h.2) id))).mono (fun b h _ => h.elim (fun h => h.1) (hP b))
set_option maxHeartbeats 4000000 in
set_option maxRecDepth 100000 in
theorem fRedeem_any (P : Nat → Prop) (vs vh vm : Value) (R : Reg) (day s f a : Int) (w : World) (hr : RgIn P w vs vh vm R) (hS : R.secs.length ≤ 1000000) (hH : R.hs.length ≤ 1000000) (hM : R.ms.length ≤ 1000000) (hP : ∀ b, w.heap.size + 2 ≤ b → P b) :
    Calls Try.prog 40 #[.agg #[vs, vh, vm], .int .i64 day, .int .i64 s, .int .i64 f, .int .i64 a] w (GaveR P (rmR R ⟨0, day, 3, s, f, 0, a⟩) (rmE R ⟨0, day, 3, s, f, 0, a⟩) w) := by
  obtain ⟨a0, n0, c0, rfl, -, -, -⟩ := hr.S.shape
  obtain ⟨a1, n1, c1, rfl, -, -, -⟩ := hr.H.shape
  obtain ⟨a2, n2, c2, rfl, -, -, -⟩ := hr.M.shape
  have hb0 : ∀ b, b < w.heap.size ∨ w.heap.size + 2 ≤ b → b ≠ w.heap.size + 1 := fun b h => by omega
  have hr0 := hr.mono (Q := fun b => (P b ∧ b < w.heap.size) ∨ w.heap.size + 2 ≤ b) (fun b h hl => .inl ⟨h, hl⟩)
  have HC := Lib.hid (fun W hW hz => fchange_any (fun b => (P b ∧ b < w.heap.size) ∨ w.heap.size + 2 ≤ b) _ _ _ R ⟨0, day, 3, s, f, 0, a⟩ W (hr0.below (w' := W) hW) hS hH hM hz (by simp [kindOk]))
  clear hr hr0
  obtain ⟨E, hE⟩ : ∃ E, rmE R ⟨0, day, 3, s, f, 0, a⟩ = E := ⟨_, rfl⟩
  obtain ⟨Q, hQ⟩ : ∃ Q, rmR R ⟨0, day, 3, s, f, 0, a⟩ = Q := ⟨_, rfl⟩
  rw [hE, hQ] at HC
  rw [hE, hQ]
  clear hE hQ hS hH hM
  go_enter Try.func40, Try.ntmps40
  go_wp2_with fail
  refine (HC.out _ (bal (bal brefl _) _) (fun b hb => .inr (by simpa using hb))).mono ?_
  rintro e w1 hg
  obtain ⟨b0, m0, d0, b1, m1, d1, b2, m2, d2, rfl, hq, hb1⟩ := hg.shape
  clear hg
  have HB := Lib.hid (bup (bal (bal brefl _) _) hb1)
  have hx := (hb1.block (w.heap.size + 1) (by simp)).trans (heap_at (w := (w.alloc (.cells #[.slice a0 n0 c0, .slice a1 n1 c1, .slice a2 n2 c2] 29 (0, 0)))) (o := (.cells #[.slice none 0 0, .slice none 0 0, .slice none 0 0] 29 (0, 0))) (by simp))
  have x0 := cell_heap (i := 0) hx rfl
  have x1 := cell_heap (i := 1) hx rfl
  have x2 := cell_heap (i := 2) hx rfl
  have xf0 : w1.frozen? ⟨w.heap.size + 1, 0, none⟩ = false := frozen_of_row w1 _ _ _ _ hx
  have xf1 : w1.frozen? ⟨w.heap.size + 1, 1, none⟩ = false := frozen_of_row w1 _ _ _ _ hx
  have xf2 : w1.frozen? ⟨w.heap.size + 1, 2, none⟩ = false := frozen_of_row w1 _ _ _ _ hx
  have HQ := Lib.hid hq
  clear hq hb1 hx
  go_wp2
  refine bodyPost_ret (v := .tuple #[.agg #[.slice b0 m0 d0, .slice b1 m1 d1, .slice b2 m2 d2], .int .i64 E]) (by simp [results, Try.results40, go_sem, x0, x1, x2]) rfl ⟨_, _, _, rfl, ?_, bset3 HB.out (by omega) _ _ _⟩
  exact (HQ.out.set3 (fun k hk => hb0 k (hk.imp (fun h => h.2) id))).mono (fun b h _ => h.elim (fun h => h.1) (hP b))
end Go.Proofs.Ytjfngogfiafipaa
namespace Go.Proofs.Ytjfngogfiafipaa
open Go.RowKit
set_option linter.unusedVariables false
set_option linter.unusedSimpArgs false
/-- append(own, s...) -/
theorem run_more {P : Program} {α : Type} {z : Nat} {enc : α → List Value} (hlen : ∀ a, (enc a).length = z) (hone : ∀ a, ∀ u ∈ enc a, u.oneCell' = true) {Q : Nat → Prop} (w : World) (base : Nat) {v : Value} {k : Nat} {xs : List Value} {ao : Option Addr} {n c : Nat} {L : List α} (e : TypeId) (ho : w.ownsRow base e z v k xs) (hS : Sl z enc Q w (.slice ao n c) L)
    (t ty : TypeId) (i : TypeInfo) (zv : Value) (bytes : Nat) (ht : P.underlying t = some (.slice e)) (hi : P.info? e = some i) (hz : i.zero = some zv) (hsize : i.size = z) (hby : i.bytes = bytes) (hzs : zv.cells.size = z) (hsz : 0 < z) (hn : k + n ≤ 1000000) (hbb : bytes ≤ 1000) (hbase : base ≤ w.heap.size) :
    ∃ a' c' w', (Builtin.append_ #[t, t] ty #[v, .slice ao n c]).run P w = .ok (.slice a' (k + n) c') w' ∧ w'.ownsRow base e z (.slice a' (k + n) c') (k + n) (xs ++ flatE enc L) ∧ w.grownBy w' v.ownBlock := by
  obtain ⟨ao', n', c', h1, h2, h3, h4, h5⟩ := hS
  cases h1
  cases ao with
  | none =>
    have h0 : n = 0 := by
      rcases h5 with h | ⟨b, off, h, _⟩
      · exact h
      · cases h
    subst h0
    have hL : L = [] := List.eq_nil_of_length_eq_zero h2
    subst hL
    obtain ⟨a', c', rfl⟩ := own_slice0 ho
    refine ⟨a', c', w, ?_, by simpa [flatE] using ho, ⟨rfl, rfl, rfl, Nat.le_refl _, fun _ _ _ => rfl⟩⟩
    rcases ho.2 with ⟨hv, rfl⟩ | ⟨g, cap, cur, hv, _, _, hnc, _⟩
    · cases hv
      simp [Builtin.append_, run_underlying ht, sizeOf, typeInfo, hi, Builtin.lenOf, Builtin.firstCells]
    · cases hv
      simp [Builtin.append_, run_underlying ht, sizeOf, typeInfo, hi, Builtin.lenOf, Builtin.firstCells, hnc, storeCells]
  | some a =>
    have hsrc : ∀ j u, (flatE enc L)[j]? = some u → w.cell? (a.add j) = some u := by
      rcases h5 with h | ⟨b, off, h, _, hb, hc⟩
      · have hL : L = [] := List.eq_nil_of_length_eq_zero (by omega)
        subst hL
        intro j u hj
        simp [flatE] at hj
      · cases h
        intro j u hj
        rw [add_litZ]
        exact flatE_cells hlen L off hc j u hj
    obtain ⟨v', w', hr, ho', hg, -, -⟩ := run_append_own_at (P := P) w base t ty e i zv z bytes ht hi hz hsize hby hzs hsz v k xs ho a n c (flatE enc L) (by rw [flatE_length hlen, h2]) hsrc (oneE hone L) (by unfold maxLen; omega) (Nat.le_trans (Nat.mul_le_mul hn hbb) (by omega)) hbase
    obtain ⟨a', c', rfl⟩ := own_slice0 ho'
    exact ⟨a', c', w', hr, ho', hg⟩
/-- the first elements of a slice -/
theorem Sl.first {α : Type} {z : Nat} {enc : α → List Value} {P : Nat → Prop} {w : World} {ao : Option Addr} {n c : Nat} {L : List α} (h : Sl z enc P w (.slice ao n c) L) {q : Nat} (hq : q ≤ n) : Sl z enc P w (.slice ao q c) (L.take q) := by
  obtain ⟨ao', n', c', h1, h2, h3, h4, h5⟩ := h
  cases h1
  refine ⟨ao, q, c, rfl, by rw [List.length_take]; omega, by omega, h4, ?_⟩
  rcases h5 with h5 | ⟨b, off, k1, k2, k3, k4⟩
  · exact .inl (by omega)
  · refine .inr ⟨b, off, k1, k2, k3, fun j a hj i u hi => k4 j a ?_ i u hi⟩
    have hjq : j < q := by
      have := (List.getElem?_eq_some_iff.1 hj).1
      rw [List.length_take] at this; omega
    rw [List.getElem?_take_of_lt hjq] at hj
    exact hj
/-- the elements from one on -/
theorem Sl.rest {α : Type} {z : Nat} {enc : α → List Value} {P : Nat → Prop} {w : World} {b off n c : Nat} {L : List α} (h : Sl z enc P w (.slice (some ⟨b, off, none⟩) n c) L) {q : Nat} (hq : q ≤ n) : Sl z enc P w (.slice (some ⟨b, off + q * z, none⟩) (n - q) (c - q)) (L.drop q) := by
  obtain ⟨ao', n', c', h1, h2, h3, h4, h5⟩ := h
  cases h1
  refine ⟨_, n - q, c - q, rfl, by rw [List.length_drop]; omega, by omega, by omega, ?_⟩
  rcases h5 with h5 | ⟨b', off', k1, k2, k3, k4⟩
  · exact .inl (by omega)
  · cases k1
    refine .inr ⟨b, off + q * z, rfl, k2, k3, fun j a hj i u hi => ?_⟩
    rw [List.getElem?_drop] at hj
    have := k4 (q + j) a hj i u hi
    rw [Nat.add_mul] at this
    rw [Nat.add_assoc off]
    exact this
/-- no elements -/
theorem Sl.empty {α : Type} {z : Nat} {enc : α → List Value} {P : Nat → Prop} {w : World} {ao : Option Addr} {n c : Nat} {L : List α} (h : Sl z enc P w (.slice ao n c) L) {q : Nat} (hq : q = n) (d : Nat) (hd : d ≤ maxLen) : Sl z enc P w (.slice ao 0 d) (L.drop q) := by
  have := h.len
  exact ⟨_, 0, d, rfl, by rw [List.length_drop]; omega, by omega, hd, .inl rfl⟩
end Go.Proofs.Ytjfngogfiafipaa
namespace Go.Proofs.Ytjfngogfiafipaa
open Go.RowKit
set_option linter.unusedVariables false
set_option linter.unusedSimpArgs false
/-- the register that Add hands back -/
theorem fadd_fin {P : Nat → Prop} {R : Reg} {L : List Sec} {w w5 W7 : World} {a1 a2 s7 : Option Addr} {n1 c1 n2 c2 t7 n7 : Nat} (hP : ∀ b, w.heap.size ≤ b → P b) (hn : n7 = L.length)
    (h5 : Below w.heap.size w w5) (z5 : w.heap.size + 3 ≤ w5.heap.size) (h7 : Below w5.heap.size w5 W7)
    (hH : Sl 3 encHold (fun b => P b ∧ b < w.heap.size) w (.slice a1 n1 c1) R.hs) (hM : Sl 7 encMv (fun b => P b ∧ b < w.heap.size) w (.slice a2 n2 c2) R.ms)
    (o7 : W7.ownsRow w5.heap.size 45 7 (.slice s7 n7 t7) n7 (flatE encSec L)) :
    GaveR P ⟨L, R.hs, R.ms⟩ 0 w (.returned (.tuple #[.agg #[.slice s7 n7 t7, .slice a1 n1 c1, .slice a2 n2 c2], .int .i64 0]))
      ((((W7.setCell ⟨w.heap.size, 0, none⟩ (.slice s7 n7 t7)).setCell ⟨w.heap.size + 1 + 1, 0, none⟩ (.slice s7 n7 t7)).setCell ⟨w.heap.size + 1 + 1, 1, none⟩ (.slice a1 n1 c1)).setCell ⟨w.heap.size + 1 + 1, 2, none⟩ (.slice a2 n2 c2)) := by
  have b7 : Below w.heap.size w W7 := bup h5 h7
  have z7 := b7.size
  have g1 := grownBy_setCellZ W7 w.heap.size 0 (.slice s7 n7 t7)
  have g2 := grownBy_set3 (W7.setCell ⟨w.heap.size, 0, none⟩ (.slice s7 n7 t7)) (w.heap.size + 1 + 1) (.slice s7 n7 t7) (.slice a1 n1 c1) (.slice a2 n2 c2)
  have r7 := own_kept (own_kept o7 g1 (by omega)) g2 (by omega)
  have rH := ((hH.below b7).grown g1 (fun b hb => by omega)).grown g2 (fun b hb => by omega)
  have rM := ((hM.below b7).grown g1 (fun b hb => by omega)).grown g2 (fun b hb => by omega)
  exact ⟨_, _, _, rfl, ⟨Sl.own encSec_len r7 hn.symm (fun b hb => hP b (by omega)), rH.mono (fun b hb _ => hb.1), rM.mono (fun b hb _ => hb.1)⟩, bset3 (bset b7 (Nat.le_refl _) _) (by omega) _ _ _⟩
/-- append(append(append(nil, s..), x), t..), in whichever order its memory is made -/
theorem run_three {P : Program} {α : Type} {z : Nat} {enc : α → List Value} (hlen : ∀ a, (enc a).length = z) (hone : ∀ a, ∀ u ∈ enc a, u.oneCell' = true) {Q : Nat → Prop} (w : World) {ao bo : Option Addr} {n c m d : Nat} {L M : List α} (hS : Sl z enc Q w (.slice ao n c) L) (hS2 : Sl z enc Q w (.slice bo m d) M) (x : α)
    (t ty e : TypeId) (i : TypeInfo) (zv : Value) (bytes : Nat) (ht : P.underlying t = some (.slice e)) (hi : P.info? e = some i) (hz : i.zero = some zv) (hsize : i.size = z) (hby : i.bytes = bytes) (hzs : zv.cells.size = z) (hsz : 0 < z) (hn : n + m ≤ 10000) (hbb : bytes ≤ 1000) (cs : Array Value) (hcs : cs = (enc x).toArray) :
    (∃ a1 c1 W1 a2 c2 W2 a3 c3 W3, (Builtin.append_ #[t, t] ty #[.slice none 0 0, .slice ao n c]).run P w = .ok (.slice a1 n c1) W1 ∧ (Builtin.append_ #[t, t] ty #[.slice a1 n c1, .slice (some ⟨W1.heap.size, 0, none⟩) 1 1]).run P (W1.alloc (.cells cs e (0, 0))) = .ok (.slice a2 (n + 1) c2) W2 ∧ (Builtin.append_ #[t, t] ty #[.slice a2 (n + 1) c2, .slice bo m d]).run P W2 = .ok (.slice a3 (n + 1 + m) c3) W3 ∧ W3.ownsRow w.heap.size e z (.slice a3 (n + 1 + m) c3) (n + 1 + m) (flatE enc (L ++ x :: M)) ∧ Below w.heap.size w W3 ∧ Below w.heap.size w W2 ∧ Below w.heap.size w W1) ∧
    (∃ a1 c1 W1 a2 c2 W2 a3 c3 W3, (Builtin.append_ #[t, t] ty #[.slice none 0 0, .slice ao n c]).run P (w.alloc (.cells cs e (0, 0))) = .ok (.slice a1 n c1) W1 ∧ (Builtin.append_ #[t, t] ty #[.slice a1 n c1, .slice (some ⟨w.heap.size, 0, none⟩) 1 1]).run P W1 = .ok (.slice a2 (n + 1) c2) W2 ∧ (Builtin.append_ #[t, t] ty #[.slice a2 (n + 1) c2, .slice bo m d]).run P W2 = .ok (.slice a3 (n + 1 + m) c3) W3 ∧ W3.ownsRow w.heap.size e z (.slice a3 (n + 1 + m) c3) (n + 1 + m) (flatE enc (L ++ x :: M)) ∧ Below w.heap.size w W3 ∧ Below w.heap.size w W2 ∧ Below w.heap.size w W1) := by
  have hflat : flatE enc (L ++ x :: M) = flatE enc (L ++ [x]) ++ flatE enc M := by simp [flatE]
  rw [hflat]
  obtain ⟨⟨a1, c1, W1, a2, c2, W2, h1, h2, o2, b2, b1⟩, ⟨a1', c1', W1', a2', c2', W2', h1', h2', o2', b2', b1'⟩⟩ := run_clone_one (P := P) hlen hone w hS x t ty ty e i zv bytes ht hi hz hsize hby hzs hsz (by omega) hbb cs hcs
  refine ⟨?_, ?_⟩
  · obtain ⟨a3, c3, W3, h3, o3, g3⟩ := run_more (P := P) hlen hone W2 w.heap.size e o2 (hS2.below b2) t ty i zv bytes ht hi hz hsize hby hzs hsz (by omega) hbb b2.size
    exact ⟨a1, c1, W1, a2, c2, W2, a3, c3, W3, h1, h2, h3, o3, b2.grown g3 b2.size (fun k hk => (o2.lt k hk).1), b2, b1⟩
  · obtain ⟨a3, c3, W3, h3, o3, g3⟩ := run_more (P := P) hlen hone W2' w.heap.size e o2' (hS2.below b2') t ty i zv bytes ht hi hz hsize hby hzs hsz (by omega) hbb b2'.size
    exact ⟨a1', c1', W1', a2', c2', W2', a3, c3, W3, h1', h2', h3, o3, b2'.grown g3 b2'.size (fun k hk => (o2'.lt k hk).1), b2', b1'⟩
end Go.Proofs.Ytjfngogfiafipaa
