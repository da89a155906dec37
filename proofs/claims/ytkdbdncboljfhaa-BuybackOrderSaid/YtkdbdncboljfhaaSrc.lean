/- Contracts of the source of numbers: N, Pick, Range, New. -/
import Derived.Test.YtkdbdncboljfhaaNum
import Derived.Lib.Hide
import Derived.Deep.QuietTactic
import Derived.BigQuiet
namespace Go.Proofs.Ytkdbdncboljfhaa
open Go.RowKit
set_option linter.unusedVariables false

/-- the source at block sb: its list has at most 900 numbers, of which k are given out -/
def SrcOk (w : World) (sb : Nat) : Prop :=
  ∃ (ao : Option Addr) (m c k : Nat), w.cell? ⟨sb, 0, none⟩ = some (.slice ao m c) ∧ w.cell? ⟨sb, 1, none⟩ = some (.int .i64 k) ∧ w.frozen? ⟨sb, 1, none⟩ = false ∧ m ≤ 900 ∧ k ≤ m ∧
    (m = 0 ∨ ∃ b off, ao = some ⟨b, off, none⟩ ∧ b < sb ∧ ∀ i, i < m → ∃ z : Int, w.cell? ⟨b, off + i, none⟩ = some (.int .i64 z))

/-- what a draw leaves: a number with P, and the source -/
def Drew (P : Int → Prop) (sb : Nat) (w : World) (e : Ending) (w' : World) : Prop :=
  ∃ v : Int, P v ∧ e = .returned (.int .i64 v) ∧ SrcOk w' sb ∧ w.grownBy w' (some sb)

theorem grownBy_drewN (w : World) (n : Nat) (row : Option Nat) : w.grownBy (w.drewN n) row := ⟨rfl, rfl, rfl, Nat.le_refl _, fun _ _ _ => rfl⟩
theorem srcOk_drewN {w : World} {sb : Nat} (h : SrcOk w sb) (n : Nat) : SrcOk (w.drewN n) sb := h

theorem n_end (sb m c k : Nat) (ao : Option Addr) (n : Int) (w : World) (h0 : w.cell? ⟨sb, 0, none⟩ = some (.slice ao m c)) (h1 : w.cell? ⟨sb, 1, none⟩ = some (.int .i64 k)) (hk : (m : Int) ≤ k) :
    Calls Try.prog 13 #[.pointer (some ⟨sb, 0, none⟩), .int .i64 n] w fun e w' => e = .returned (.int .i64 0) ∧ ∃ nq, w' = w.drewN nq := by
  have hd : decide ((m : Int) ≤ (k : Int)) = true := by simp; omega
  go_enter Try.func13, Try.ntmps13
  go_wp2
  go_quiet (fail)
  go_wp2
  go_ret
  exact ⟨rfl, _, rfl⟩
theorem n_low (sb m c k : Nat) (ao : Option Addr) (n : Int) (w : World) (h0 : w.cell? ⟨sb, 0, none⟩ = some (.slice ao m c)) (h1 : w.cell? ⟨sb, 1, none⟩ = some (.int .i64 k)) (hk : (k : Int) < m) (hn : n < 1) :
    Calls Try.prog 13 #[.pointer (some ⟨sb, 0, none⟩), .int .i64 n] w fun e w' => e = .returned (.int .i64 0) ∧ ∃ nq, w' = w.drewN nq := by
  have hd : decide (m ≤ k) = false := by simp; omega
  go_enter Try.func13, Try.ntmps13
  go_wp2
  go_quiet (fail)
  go_wp2
  go_ret
  exact ⟨rfl, _, rfl⟩
theorem grownBy_setCell (w : World) (b o : Nat) (v : Value) : w.grownBy (w.setCell ⟨b, o, none⟩ v) (some b) :=
  ⟨rfl, rfl, rfl, by simp [World.setCell], fun k _ hne => Below.heap_setCell _ _ _ _ (fun h => hne (by rw [h]))⟩
theorem drew_mk {P : Int → Prop} {sb : Nat} {w w' : World} {v : Int} (hv : P v) (hs : SrcOk w' sb) (hg : w.grownBy w' (some sb)) : Drew P sb w (.returned (.int .i64 v)) w' := ⟨v, hv, rfl, hs, hg⟩
set_option maxHeartbeats 400000 in
theorem n_mid (sb m c k b off : Nat) (n z : Int) (w : World) (h0 : w.cell? ⟨sb, 0, none⟩ = some (.slice (some ⟨b, off, none⟩) m c)) (h1 : w.cell? ⟨sb, 1, none⟩ = some (.int .i64 k)) (h2 : w.frozen? ⟨sb, 1, none⟩ = false)
    (hk : (k : Int) < m) (hm : m ≤ 900) (hn : 1 ≤ n) (hn2 : n ≤ 4000000000000000000) (hb : ¬ b = sb) (hz : w.cell? ⟨b, off + k, none⟩ = some (.int .i64 z)) (S : Hid (SrcOk (w.setCell ⟨sb, 1, none⟩ (.int .i64 (k + 1))) sb)) :
    Calls Try.prog 13 #[.pointer (some ⟨sb, 0, none⟩), .int .i64 n] w (Drew (fun v => 0 ≤ v ∧ v < n) sb w) := by
  have hd : decide (m ≤ k) = false := by simp; omega
  have t1 : - n < z.tmod n := by have := Int.lt_tmod_of_pos z (show 0 < n by omega); omega
  have t2 : z.tmod n < n := Int.tmod_lt_of_pos _ (by omega)
  go_enter Try.func13, Try.ntmps13
  go_wp2
  go_quiet (fail)
  go_wp2
  go_quiet (fail)
  go_wp2
  go_ret
  exact drew_mk ⟨Int.emod_nonneg _ (by omega), Int.emod_lt_of_pos _ (by omega)⟩ S.out (by have g := grownBy_setCell w sb 1 (.int .i64 ((k : Int) + 1)); exact ⟨g.os, g.tape, g.output, g.size, g.block⟩)

/-- N gives a number from 0 to n - 1, or 0 -/
theorem n_any (sb : Nat) (n : Int) (w : World) (hs : SrcOk w sb) (hn2 : n ≤ 4000000000000000000) :
    Calls Try.prog 13 #[.pointer (some ⟨sb, 0, none⟩), .int .i64 n] w (Drew (fun v => 0 ≤ v ∧ (v < n ∨ v = 0)) sb w) := by
  obtain ⟨ao, m, c, k, h0, h1, h2, h3, h4, h5⟩ := id hs
  by_cases hk : m ≤ k
  · refine (n_end sb m c k ao n w h0 h1 (by omega)).mono ?_
    rintro e w' ⟨rfl, nq, rfl⟩
    exact drew_mk ⟨by omega, .inr rfl⟩ hs (grownBy_drewN _ _ _)
  · by_cases hn : n < 1
    · refine (n_low sb m c k ao n w h0 h1 (by omega) hn).mono ?_
      rintro e w' ⟨rfl, nq, rfl⟩
      exact drew_mk ⟨by omega, .inr rfl⟩ hs (grownBy_drewN _ _ _)
    · rcases h5 with h5 | ⟨b, off, rfl, hb, hz⟩
      · omega
      · obtain ⟨z, hz0⟩ := hz k (by omega)
        refine (n_mid sb m c k b off n z w h0 h1 h2 (by omega) h3 (by omega) hn2 (by omega) hz0 ?_).mono ?_
        · refine ⟨some ⟨b, off, none⟩, m, c, k + 1, ?_, ?_, ?_, h3, by omega, .inr ⟨b, off, rfl, hb, fun i hi => ?_⟩⟩
          · exact (World.cell?_setCell_other w _ _ _ (by simp)).trans h0
          · exact World.cell?_setCell_same w _ _ h1
          · rw [World.frozen?_setCell]; exact h2
          · obtain ⟨z', hz'⟩ := hz i hi
            exact ⟨z', (World.cell?_setCell_other w _ _ _ (by simp)).trans hz'⟩
        · rintro e w' ⟨v, ⟨v0, v1⟩, he, hS, hG⟩
          exact ⟨v, ⟨v0, .inl v1⟩, he, hS, hG⟩

theorem below_of_grown {B sb : Nat} {w w' : World} (hg : w.grownBy w' (some sb)) (h1 : B ≤ sb) (h2 : B ≤ w.heap.size) : Below B w w' := (Below.refl _ _).grown hg h2 (fun k hk => by cases hk; exact h1)
theorem drew_weaken {P P' : Int → Prop} {sb : Nat} {w w' : World} {e : Ending} (h : Drew P sb w e w') (hp : ∀ v, P v → P' v) : Drew P' sb w e w' := by
  obtain ⟨v, hv, r⟩ := h
  exact ⟨v, hp v hv, r⟩

set_option maxHeartbeats 400000 in
theorem pick_any (sb g : Nat) (L : List Int) (m c : Nat) (w : World) (hs : SrcOk w sb) (hgs : ¬ g = sb) (hm : 0 < m) (hm2 : m ≤ 1000) (hL : L.length = m) (hc : ∀ i, (h : i < L.length) → w.cell? ⟨g, i, none⟩ = some (.int .i64 L[i])) :
    Calls Try.prog 8 #[.pointer (some ⟨sb, 0, none⟩), .slice (some ⟨g, 0, none⟩) m c] w (Drew (fun v => v ∈ L) sb w) := by
  have HC := Lib.hid hc
  have HL := Lib.hid hL
  clear hc hL
  go_enter Try.func8, Try.ntmps8
  go_wp2_with fail
  refine (n_any sb _ _ hs (by omega)).mono ?_
  rintro e w' ⟨v, ⟨v0, v1⟩, rfl, hS, hG⟩
  obtain ⟨k, rfl⟩ := Int.eq_ofNat_of_zero_le v0
  have hkm : k < m := by omega
  obtain ⟨x, hx, hxm⟩ : ∃ x, w'.cell? ⟨g, k, none⟩ = some (.int .i64 x) ∧ x ∈ L := ⟨L[k]'(by rw [HL.out]; exact hkm), hG.cell (HC.out k (by rw [HL.out]; exact hkm)) (by simp [hgs]), List.getElem_mem _⟩
  have HX := Lib.hid hxm
  clear hxm v1 v0
  go_wp2
  go_ret
  exact drew_mk HX.out hS hG
theorem grownBy_trans {a b c : World} {row : Option Nat} (h : a.grownBy b row) (k : b.grownBy c row) : a.grownBy c row :=
  ⟨k.os.trans h.os, k.tape.trans h.tape, k.output.trans h.output, Nat.le_trans h.size k.size, fun i hi hne => (k.block i (Nat.lt_of_lt_of_le hi h.size) hne).trans (h.block i hi hne)⟩
theorem srcOk_grown {w w' : World} {sb : Nat} (h : SrcOk w sb) (hg : w.grownBy w' none) : SrcOk w' sb := by
  obtain ⟨ao, m, c, k, h0, h1, h2, h3, h4, h5⟩ := h
  refine ⟨ao, m, c, k, hg.cell h0 (by simp), hg.cell h1 (by simp), ?_, h3, h4, ?_⟩
  · rw [World.frozen?_of_block (hg.block sb (World.block_lt_of_cell? w _ h0) (by simp))]; exact h2
  · rcases h5 with h5 | ⟨b, off, rfl, hb, hz⟩
    · exact .inl h5
    · refine .inr ⟨b, off, rfl, hb, fun i hi => ?_⟩
      obtain ⟨z, hz'⟩ := hz i hi
      exact ⟨z, hg.cell hz' (by simp)⟩
theorem srcOk_alloc {w : World} {sb : Nat} (h : SrcOk w sb) (o : Obj) : SrcOk (w.alloc o) sb := srcOk_grown h (World.grownBy_alloc w o none)
theorem srcOk_below {B : Nat} {w w' : World} {sb : Nat} (h : SrcOk w sb) (hb : Below B w w') (hB : sb < B) : SrcOk w' sb := by
  obtain ⟨ao, m, c, k, h0, h1, h2, h3, h4, h5⟩ := h
  refine ⟨ao, m, c, k, (hb.cell (by exact hB)).trans h0, (hb.cell (by exact hB)).trans h1, (hb.frozen (by exact hB)).trans h2, h3, h4, ?_⟩
  rcases h5 with h5 | ⟨b, off, rfl, hlt, hz⟩
  · exact .inl h5
  · refine .inr ⟨b, off, rfl, hlt, fun i hi => ?_⟩
    obtain ⟨z, hz'⟩ := hz i hi
    exact ⟨z, (hb.cell (Nat.lt_trans hlt hB)).trans hz'⟩
theorem srcOk_lt {w : World} {sb : Nat} (h : SrcOk w sb) : sb < w.heap.size := by
  obtain ⟨ao, m, c, k, h0, _⟩ := h
  exact World.block_lt_of_cell? w _ h0
/-- the cells of a new box, behind a step of the source -/
theorem box_cell {w w3 : World} {C : Array Value} {T : TypeId} {sb : Nat} (hG : (w.alloc (.cells C T)).grownBy w3 (some sb)) (hs : sb < w.heap.size) (i : Nat) {v : Value} (hv : C[i]? = some v) : w3.cell? ⟨w.heap.size, i, none⟩ = some v :=
  hG.cell (by rw [World.cell?_alloc_at _ _ _ _ rfl]; exact hv) (by simp; omega)
theorem box_frozen {w w3 : World} {C : Array Value} {T : TypeId} {sb : Nat} (hG : (w.alloc (.cells C T)).grownBy w3 (some sb)) (hs : sb < w.heap.size) (o : Nat) : w3.frozen? ⟨w.heap.size, o, none⟩ = false :=
  (World.frozen?_of_block (hG.block w.heap.size (by simp) (by simp; omega))).trans (World.frozen?_alloc_at _ _ _ _ rfl)
theorem drew_back {P : Int → Prop} {sb : Nat} {w : World} {o : Obj} {e : Ending} {w' : World} (h : Drew P sb (w.alloc o) e w') : Drew P sb w e w' := by
  obtain ⟨v, hv, he, hS, hG⟩ := h
  exact ⟨v, hv, he, hS, grownBy_trans (World.grownBy_alloc w o _) hG⟩

/-- Pick at a literal list -/
theorem pick_lit (sb : Nat) (L : List Int) (C : Array Value) (g m : Nat) (w : World) (hs : SrcOk w sb) (hm : 0 < m) (hm2 : m ≤ 1000) (hL : L.length = m) (hC : C = (L.map (Value.int .i64)).toArray) (hg : g = w.heap.size) :
    Calls Try.prog 8 #[.pointer (some ⟨sb, 0, none⟩), .slice (some ⟨g, 0, none⟩) m m] (w.alloc (.cells C 3)) (Drew (fun v => v ∈ L) sb w) := by
  have hlt := srcOk_lt hs
  subst hC
  subst hg
  refine (pick_any sb w.heap.size L m m _ (srcOk_alloc hs _) (by omega) hm hm2 hL ?_).mono fun e w' h => drew_back h
  intro i hi
  rw [World.cell?_alloc_at _ _ _ _ rfl]
  simp [hi]

/-- Range gives a number from lo to hi -/
theorem range_any (sb : Nat) (lo hi : Int) (w : World) (hs : SrcOk w sb) (h1 : lo ≤ hi) (h2 : -1000000000000000000 ≤ lo) (h3 : hi ≤ 1000000000000000000) :
    Calls Try.prog 7 #[.pointer (some ⟨sb, 0, none⟩), .int .i64 lo, .int .i64 hi] w (Drew (fun v => lo ≤ v ∧ v ≤ hi) sb w) := by
  go_enter Try.func7, Try.ntmps7
  go_wp2_with fail
  refine (n_any sb _ _ hs (by omega)).mono ?_
  rintro e w' ⟨v, ⟨v0, v1⟩, rfl, hS, hG⟩
  go_wp2
  go_ret
  exact drew_mk ⟨by omega, by omega⟩ hS hG

/-- what New leaves -/
def Newed (w : World) (e : Ending) (w' : World) : Prop := ∃ sb, e = .returned (.pointer (some ⟨sb, 0, none⟩)) ∧ w.heap.size ≤ sb ∧ SrcOk w' sb ∧ Below w.heap.size w w'
theorem newed_mk {ao : Option Addr} {m c : Nat} {w : World} (hm : m ≤ 900) (hz : m = 0 ∨ ∃ b off, ao = some ⟨b, off, none⟩ ∧ ∀ i, i < m → ∃ z : Int, w.cell? ⟨b, off + i, none⟩ = some (.int .i64 z)) :
    Newed w (.returned (.pointer (some ⟨w.heap.size, 0, none⟩))) (w.alloc (.cells #[.slice ao m c, .int .i64 0] 43)) := by
  refine ⟨w.heap.size, rfl, Nat.le_refl _, ⟨ao, m, c, 0, ?_, ?_, ?_, hm, Nat.zero_le _, ?_⟩, (Below.refl _ _).alloc (Nat.le_refl _) _⟩
  · rw [World.cell?_alloc_at _ _ _ _ rfl]; rfl
  · rw [World.cell?_alloc_at _ _ _ _ rfl]; rfl
  · exact World.frozen?_alloc_at _ _ _ _ rfl
  · rcases hz with hz | ⟨b, off, rfl, hz⟩
    · exact .inl hz
    · by_cases h0 : m = 0
      · exact .inl h0
      · obtain ⟨z0, hz0⟩ := hz 0 (by omega)
        have hb := World.block_lt_of_cell? w _ hz0
        refine .inr ⟨b, off, rfl, hb, fun i hi => ?_⟩
        obtain ⟨z, hz'⟩ := hz i hi
        exact ⟨z, (World.cell?_alloc_past _ _ _ hb).trans hz'⟩
/-- New makes a source of the first 900 numbers -/
theorem new_any (ao : Option Addr) (m c : Nat) (w : World) (hm : m ≤ c) (hc : c ≤ maxLen) (hz : m = 0 ∨ ∃ b off, ao = some ⟨b, off, none⟩ ∧ ∀ i, i < m → ∃ z : Int, w.cell? ⟨b, off + i, none⟩ = some (.int .i64 z)) :
    Calls Try.prog 5 #[.slice ao m c] w (Newed w) := by
  unfold maxLen at hc
  have HZ := Lib.hid hz
  clear hz
  go_enter Try.func5, Try.ntmps5
  go_wp2
  · go_ret
    refine newed_mk (by omega) ?_
    rcases HZ.out with h | ⟨b, off, h, hz⟩
    · omega
    · exact .inr ⟨b, off, h, fun i hi => hz i (by omega)⟩
  · go_ret
    exact newed_mk (by omega) HZ.out

/-- the argument of a law, a slice of integers, as New takes it -/
theorem isRow_new {k : Option Addr} {len cap : Nat} {zs : List Int} {w : World}
    (h : (k = none ∧ len = 0 ∧ cap = 0 ∧ zs = []) ∨ ∃ x, k = some x ∧ len ≤ cap ∧ cap ≤ maxLen ∧ zs.length = cap ∧ (∀ i, i < zs.length → w.cell? (x.add i) = some (.int .i64 (zs.getD i 0))) ∧ ∀ n ∈ zs, (Lit.int .i64 n).wf = true) :
    len ≤ cap ∧ cap ≤ maxLen ∧ (len = 0 ∨ ∃ b off, k = some ⟨b, off, none⟩ ∧ ∀ i, i < len → ∃ z : Int, w.cell? ⟨b, off + i, none⟩ = some (.int .i64 z)) := by
  rcases h with ⟨rfl, rfl, rfl, rfl⟩ | ⟨x, rfl, hl, hm, hz, hcell, _⟩
  · exact ⟨Nat.le_refl _, Nat.zero_le _, .inl rfl⟩
  · refine ⟨hl, hm, ?_⟩
    by_cases h0 : len = 0
    · exact .inl h0
    · obtain ⟨b, off, spot⟩ := x
      have hc := hcell 0 (by omega)
      have hspot : spot = none := by simpa [Addr.add] using World.cell?_spot hc
      subst hspot
      refine .inr ⟨b, off, rfl, fun i hi => ⟨zs.getD i 0, ?_⟩⟩
      have := hcell i (by omega)
      by_cases hi0 : i = 0
      · subst hi0; simpa [Addr.add] using this
      · simpa [Addr.add, hi0] using this
end Go.Proofs.Ytkdbdncboljfhaa
