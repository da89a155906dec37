/- The tape of numbers: N, Pick, New; Ints. -/
import Derived.Test.YtkkgipcidbgbhaaSrc
import Derived.Test.YtkkgipcidbgbhaaRow
namespace Go.Proofs.Ytkkgipcidbgbhaa
open Go.RowKit
set_option linter.unusedVariables false
set_option linter.unusedSimpArgs false
theorem town_grown {w w' : World} {base sb : Nat} {e : TypeId} {size : Nat} {v : Value} {n : Nat} {xs : List Value} (h : w.ownsRow base e size v n xs) (hg : w.grownBy w' (some sb)) (hs : sb < base) : w'.ownsRow base e size v n xs := by
  refine ⟨h.1, ?_⟩
  rcases h.2 with hn | ⟨g, cap, cur, rfl, hbg, hgg, rest⟩
  · exact .inl hn
  · exact .inr ⟨g, cap, cur, rfl, hbg, (hg.block g (Array.getElem?_eq_some_iff.1 hgg).1 (by simp; omega)).trans hgg, rest⟩
theorem bgr {w w1 w2 : World} {sb : Nat} (h : Below w.heap.size w w1) (hg : w1.grownBy w2 (some sb)) (hs : w.heap.size ≤ sb) : Below w.heap.size w w2 := h.grown hg h.size (fun k hk => by cases hk; exact hs)
set_option maxHeartbeats 1000000 in
theorem ints_any (P Q : Nat → Prop) (v u : Value) (L M : List Int) (w : World) (hv : Sl 1 encI P w v L) (hu : Sl 1 encI Q w u M) (hl : L.length ≤ 1000000) (hm : M.length ≤ 1000000) :
    Calls Try.prog 50 #[v, u] w fun e w' => e = .returned (.bool (decide (L = M))) ∧ ∃ q, w' = w.drewN q := by
  obtain ⟨ao, n, c, rfl, hn, hnc, hcm⟩ := hv.shape
  obtain ⟨ao2, n2, c2, rfl, hn2, hnc2, hcm2⟩ := hu.shape
  have HV := Lib.hid hv
  have HU := Lib.hid hu
  have HN := Lib.hid hn
  have HN2 := Lib.hid hn2
  have hq : n ≤ 1000000 := by omega
  have hq2 : n2 ≤ 1000000 := by omega
  clear hv hu hl hm
  by_cases hne : n = n2
  · subst hne
    obtain ⟨B, hB⟩ : ∃ B, decide (L = M) = B := ⟨_, rfl⟩
    rw [hB]
    have HB := Lib.hid hB
    clear hn hn2 hB
    go_enter Try.func50, Try.ntmps50
    go_wp2
    go_loopw [13] (fun iv wr => ∃ k q : Nat, k ≤ n ∧ iv = .int .i64 k ∧ (∀ j, j < k → L[j]? = M[j]?) ∧ wr = w.drewN q) (fun iv _ => n - (intOf iv).toNat)
    case atStart => exact ⟨0, 0, by omega, rfl, fun j h => by omega, rfl⟩
    case round =>
      obtain ⟨k, q, hk, rfl, heq, rfl⟩ := hrel
      have HEQ := Lib.hid heq
      clear heq
      by_cases hlt : k < n
      · obtain ⟨b, off, x, rfl, -, -, hx, hc⟩ := HV.out.int hlt
        obtain ⟨b2, off2, y, rfl, -, -, hy, hc2⟩ := HU.out.int hlt
        have HX := Lib.hid hx
        have HY := Lib.hid hy
        have hlt2 : (k : Int) < n := by omega
        clear hx hy
        go_wp2
        go_quiet (fail)
        by_cases hxy : x = y
        · subst hxy
          go_wp2
          go_roundw
          case rel => exact ⟨k + 1, _, by omega, by go_num, fun j hj => by
            rcases (show j < k ∨ j = k by omega) with h | rfl
            · exact HEQ.out j h
            · rw [HX.out, HY.out], rfl⟩
          case measure => simp [intOf]; omega
        · have hb : B = false := by
            rw [← HB.out, decide_eq_false_iff_not]
            rintro rfl
            exact hxy (Option.some.inj (HX.out.symm.trans HY.out))
          subst hb
          go_wp2
          go_ret
          exact ⟨rfl, _, World.drewN_drewN ..⟩
      · have hb : B = true := by
          rw [← HB.out, decide_eq_true_iff]
          refine List.ext_getElem? fun j => ?_
          by_cases hj : j < k
          · exact HEQ.out j hj
          · rw [List.getElem?_eq_none (by have := HN.out; omega), List.getElem?_eq_none (by have := HN2.out; omega)]
        subst hb
        go_wp2
        go_ret
        exact ⟨rfl, _, rfl⟩
  · have hb : decide (L = M) = false := by
      rw [decide_eq_false_iff_not]; rintro rfl; exact hne (hn.symm.trans hn2)
    rw [hb]
    have h3 : ((n : Int) == n2) = false := by simp; omega
    clear hb hn hn2
    go_enter Try.func50, Try.ntmps50
    go_wp2
    go_ret
    exact ⟨rfl, 0, rfl⟩
theorem tn_end (sb m c k : Nat) (ao : Option Addr) (n : Int) (w : World) (h0 : w.cell? ⟨sb, 0, none⟩ = some (.slice ao m c)) (h1 : w.cell? ⟨sb, 1, none⟩ = some (.int .i64 k)) (hk : (m : Int) ≤ k) :
    Calls Try.prog 33 #[.pointer (some ⟨sb, 0, none⟩), .int .i64 n] w fun e w' => e = .returned (.int .i64 0) ∧ ∃ nq, w' = w.drewN nq := by
  have hd : decide ((m : Int) ≤ (k : Int)) = true := by simp; omega
  go_enter Try.func33, Try.ntmps33
  go_wp2
  go_quiet (fail)
  go_wp2
  go_ret
  exact ⟨rfl, _, rfl⟩
set_option maxHeartbeats 400000 in
theorem tn_mid (sb m c k b off : Nat) (n z : Int) (w : World) (h0 : w.cell? ⟨sb, 0, none⟩ = some (.slice (some ⟨b, off, none⟩) m c)) (h1 : w.cell? ⟨sb, 1, none⟩ = some (.int .i64 k)) (h2 : w.frozen? ⟨sb, 1, none⟩ = false)
    (hk : (k : Int) < m) (hm : m ≤ 900) (hn : 1 ≤ n) (hn2 : n ≤ 4000000000000000000) (hb : ¬ b = sb) (hz : w.cell? ⟨b, off + k, none⟩ = some (.int .i64 z)) (S : Hid (SrcOk (w.setCell ⟨sb, 1, none⟩ (.int .i64 (k + 1))) sb)) :
    Calls Try.prog 33 #[.pointer (some ⟨sb, 0, none⟩), .int .i64 n] w (Drew (fun v => 0 ≤ v ∧ v < n) sb w) := by
  have hd : decide (m ≤ k) = false := by simp; omega
  have t1 : - n < z.tmod n := by have := Int.lt_tmod_of_pos z (show 0 < n by omega); omega
  have t2 : z.tmod n < n := Int.tmod_lt_of_pos _ (by omega)
  obtain ⟨r, hr⟩ : ∃ r, z.tmod n = r := ⟨_, rfl⟩
  rw [hr] at t1 t2
  have wr_ : IntKind.i64.wrap r = r := IntWalk.i64_in _ (by omega)
  by_cases hr0 : r < 0
  all_goals
    go_enter Try.func33, Try.ntmps33
    go_wp2
    go_quiet (fail)
    go_wp2
    go_quiet (fail)
    go_wp2
    go_ret
    exact drew_mk (by omega) S.out (by have g := grownBy_setCell w sb 1 (.int .i64 ((k : Int) + 1)); exact ⟨g.os, g.tape, g.output, g.size, g.block⟩)
/-- N gives a number from 0 to n - 1 -/
theorem tn_any (sb : Nat) (n : Int) (w : World) (hs : SrcOk w sb) (hn : 1 ≤ n) (hn2 : n ≤ 4000000000000000000) :
    Calls Try.prog 33 #[.pointer (some ⟨sb, 0, none⟩), .int .i64 n] w (Drew (fun v => 0 ≤ v ∧ v < n) sb w) := by
  obtain ⟨ao, m, c, k, h0, h1, h2, h3, h4, h5⟩ := id hs
  by_cases hk : m ≤ k
  · refine (tn_end sb m c k ao n w h0 h1 (by omega)).mono ?_
    rintro e w' ⟨rfl, nq, rfl⟩
    exact drew_mk ⟨by omega, by omega⟩ hs (grownBy_drewN _ _ _)
  · rcases h5 with h5 | ⟨b, off, rfl, hb, hz⟩
    · omega
    · obtain ⟨z, hz0⟩ := hz k (by omega)
      refine tn_mid sb m c k b off n z w h0 h1 h2 (by omega) h3 hn hn2 (by omega) hz0 ?_
      refine Lib.hid ⟨some ⟨b, off, none⟩, m, c, k + 1, ?_, ?_, ?_, h3, by omega, .inr ⟨b, off, rfl, hb, fun i hi => ?_⟩⟩
      · exact (World.cell?_setCell_other w _ _ _ (by simp)).trans h0
      · exact World.cell?_setCell_same w _ _ h1
      · rw [World.frozen?_setCell]; exact h2
      · obtain ⟨z', hz'⟩ := hz i hi
        exact ⟨z', (World.cell?_setCell_other w _ _ _ (by simp)).trans hz'⟩
set_option maxHeartbeats 400000 in
theorem tpick_any (sb g : Nat) (L : List Int) (m c : Nat) (w : World) (hs : SrcOk w sb) (hgs : ¬ g = sb) (hm : 0 < m) (hm2 : m ≤ 1000) (hL : L.length = m) (hc : ∀ i, (h : i < L.length) → w.cell? ⟨g, i, none⟩ = some (.int .i64 L[i])) :
    Calls Try.prog 32 #[.pointer (some ⟨sb, 0, none⟩), .slice (some ⟨g, 0, none⟩) m c] w (Drew (fun v => v ∈ L) sb w) := by
  have HC := Lib.hid hc
  have HL := Lib.hid hL
  clear hc hL
  go_enter Try.func32, Try.ntmps32
  go_wp2_with fail
  refine (tn_any sb _ _ hs (by omega) (by omega)).mono ?_
  rintro e w' ⟨v, ⟨v0, v1⟩, rfl, hS, hG⟩
  obtain ⟨k, rfl⟩ := Int.eq_ofNat_of_zero_le v0
  have hkm : k < m := by omega
  obtain ⟨x, hx, hxm⟩ : ∃ x, w'.cell? ⟨g, k, none⟩ = some (.int .i64 x) ∧ x ∈ L := ⟨L[k]'(by rw [HL.out]; exact hkm), hG.cell (HC.out k (by rw [HL.out]; exact hkm)) (by simp [hgs]), List.getElem_mem _⟩
  have HX := Lib.hid hxm
  clear hxm v1 v0
  go_wp2
  go_ret
  exact drew_mk HX.out hS hG
/-- Pick at a literal list -/
theorem tpick_lit (sb : Nat) (L : List Int) (C : Array Value) (g m : Nat) (w : World) (hs : SrcOk w sb) (hm : 0 < m) (hm2 : m ≤ 1000) (hL : L.length = m) (hC : C = (L.map (Value.int .i64)).toArray) (hg : g = w.heap.size) :
    Calls Try.prog 32 #[.pointer (some ⟨sb, 0, none⟩), .slice (some ⟨g, 0, none⟩) m m] (w.alloc (.cells C 3)) (Drew (fun v => v ∈ L) sb w) := by
  have hlt := srcOk_lt hs
  subst hC
  subst hg
  refine (tpick_any sb w.heap.size L m m _ (srcOk_alloc hs _) (by omega) hm hm2 hL ?_).mono fun e w' h => drew_back h
  intro i hi
  rw [World.cell?_alloc_at _ _ _ _ rfl]
  simp [hi]
/-- what New leaves -/
theorem tnewed_mk {ao : Option Addr} {m c : Nat} {w : World} (hm : m ≤ 900) (hz : m = 0 ∨ ∃ b off, ao = some ⟨b, off, none⟩ ∧ ∀ i, i < m → ∃ z : Int, w.cell? ⟨b, off + i, none⟩ = some (.int .i64 z)) :
    Newed w (.returned (.pointer (some ⟨w.heap.size, 0, none⟩))) (w.alloc (.cells #[.slice ao m c, .int .i64 0] 96)) := by
  refine ⟨w.heap.size, rfl, Nat.le_refl _, ⟨ao, m, c, 0, ?_, ?_, ?_, hm, Nat.zero_le _, ?_⟩, (Below.refl _ _).alloc (Nat.le_refl _) _⟩
  · rw [World.cell?_alloc_at _ _ _ _ rfl]; rfl
  · rw [World.cell?_alloc_at _ _ _ _ rfl]; rfl
  · exact World.frozen?_alloc_at _ _ _ _ rfl
  · rcases hz with hz | ⟨b, off, rfl, hz⟩
    · exact .inl hz
    · by_cases h0 : m = 0
      · exact .inl h0
      · obtain ⟨z0, hz0⟩ := hz 0 (by omega)
        have hb := World.block_lt_of_cell? w _ hz0
        refine .inr ⟨b, off, rfl, hb, fun i hi => ?_⟩
        obtain ⟨z, hz'⟩ := hz i hi
        exact ⟨z, (World.cell?_alloc_past _ _ _ hb).trans hz'⟩
theorem tnew_any (ao : Option Addr) (m c : Nat) (w : World) (hm : m ≤ c) (hc : c ≤ maxLen) (hz : m = 0 ∨ ∃ b off, ao = some ⟨b, off, none⟩ ∧ ∀ i, i < m → ∃ z : Int, w.cell? ⟨b, off + i, none⟩ = some (.int .i64 z)) :
    Calls Try.prog 31 #[.slice ao m c] w (Newed w) := by
  unfold maxLen at hc
  have HZ := Lib.hid hz
  clear hz
  go_enter Try.func31, Try.ntmps31
  go_wp2
  · go_ret
    refine tnewed_mk (by omega) ?_
    rcases HZ.out with h | ⟨b, off, h, hz⟩
    · omega
    · exact .inr ⟨b, off, h, fun i hi => hz i (by omega)⟩
  · go_ret
    exact tnewed_mk (by omega) HZ.out
end Go.Proofs.Ytkkgipcidbgbhaa
