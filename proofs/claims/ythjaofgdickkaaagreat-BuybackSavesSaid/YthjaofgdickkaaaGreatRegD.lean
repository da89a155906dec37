/- The register's clerk: add. -/
import Derived.Test.YthjaofgdickkaaaGreatRegC
namespace Go.Proofs.YthjaofgdickkaaaGreat
open Go.RowKit
set_option linter.unusedVariables false
set_option linter.unusedSimpArgs false

theorem flatE_set (L1 L2 : List Hold) (s h a y : Int) (p : Nat) (hp : L1.length = p) : (flatE encHold (L1 ++ ⟨s, h, a⟩ :: L2)).set (p * 3 + 2) (.int .i64 y) = flatE encHold (L1 ++ ⟨s, h, y⟩ :: L2) := by
  have hl : (flatE encHold L1).length = p * 3 := by rw [flatE_length encHold_len, hp]
  have e : ∀ b, flatE encHold (L1 ++ ⟨s, h, b⟩ :: L2) = flatE encHold L1 ++ (.int .i64 s :: .int .i64 h :: .int .i64 b :: flatE encHold L2) := fun b => by simp [flatE, encHold]
  rw [e, e, List.set_append_right _ _ (by omega), hl, Nat.add_sub_cancel_left]
  rfl
/-- a block that is no row of holdings -/
def NoRow (w : World) (k : Nat) : Prop := ∀ cur, w.heap[k]? ≠ some (.cells cur 171 (0, 0))
/-- what add leaves: the holdings L' in the clerk at cb, all that lies below as it was, and all that is no row of holdings -/
def AddedV (cb : Nat) (v' : Value) (L' : List Hold) (w w' : World) : Prop :=
  w'.cell? ⟨cb, 1, none⟩ = some v' ∧ w'.ownsRow (cb + 1) 171 3 v' L'.length (flatE encHold L') ∧ (∀ o, o ≠ 1 → w'.cell? ⟨cb, o, none⟩ = w.cell? ⟨cb, o, none⟩) ∧ (∀ o, w'.frozen? ⟨cb, o, none⟩ = w.frozen? ⟨cb, o, none⟩) ∧ Below cb w w' ∧ (∀ k, k < w.heap.size → k ≠ cb → NoRow w k → w'.heap[k]? = w.heap[k]?)
def Added (cb : Nat) (L' : List Hold) (w w' : World) : Prop := ∃ v', AddedV cb v' L' w w'
theorem grownBy_setCellZ (w : World) (b o : Nat) (v : Value) : w.grownBy (w.setCell ⟨b, o, none⟩ v) (some b) :=
  ⟨rfl, rfl, rfl, by simp [World.setCell], fun k _ hne => Below.heap_setCell _ _ _ _ (fun h => hne (by rw [h]))⟩
/-- the row that may turn lies above the clerk, and is a row of holdings -/
def RowOf (cb : Nat) (w : World) (row : Option Nat) : Prop := ∀ k, row = some k → cb < k ∧ ∃ cur, w.heap[k]? = some (.cells cur 171 (0, 0))
theorem rowOf_own {cb n : Nat} {w : World} {v : Value} {xs : List Value} (h : w.ownsRow (cb + 1) 171 3 v n xs) : RowOf cb w v.ownBlock := by
  intro k hk
  rcases h.2 with ⟨rfl, -⟩ | ⟨g, cap, cur, rfl, hbg, hg, -⟩
  · simp [Value.ownBlock] at hk
  · simp only [Value.ownBlock, Option.some.injEq] at hk
    subst hk
    exact ⟨by omega, cur, hg⟩
theorem added_frame {cb : Nat} {w w1 w2 : World} {row : Option Nat} (hb1 : Below w.heap.size w w1) (hr : RowOf cb w row) (h2 : w1.grownBy w2 row) : ∀ k, k < w.heap.size → NoRow w k → w2.heap[k]? = w.heap[k]? := by
  intro k hk hn
  refine (h2.block k (Nat.lt_of_lt_of_le hk hb1.size) (fun q => ?_)).trans (hb1.block k hk)
  obtain ⟨_, cur, hc⟩ := hr k q.symm
  exact hn cur hc
theorem added_mk0 {cb n : Nat} {w w1 w2 : World} {row : Option Nat} {L' : List Hold} {v' : Value} (hb1 : Below w.heap.size w w1) (hcb : cb < w.heap.size) (hr : RowOf cb w row) (h2 : w1.grownBy w2 row) (hv : w.cell? ⟨cb, 1, none⟩ = some v') (hown : w2.ownsRow (cb + 1) 171 3 v' n (flatE encHold L')) (hn : L'.length = n) : Added cb L' w w2 := by
  have hne : ∀ k, k ≤ cb → some k ≠ row := fun k hk q => by have := (hr k q.symm).1; omega
  have hblk : w2.heap[cb]? = w.heap[cb]? := (h2.block cb (Nat.lt_of_lt_of_le hcb hb1.size) (hne cb (Nat.le_refl _))).trans (hb1.block cb hcb)
  subst hn
  refine ⟨v', (World.cell?_of_block (a := ⟨cb, 1, none⟩) hblk).trans hv, hown, fun o _ => World.cell?_of_block (a := ⟨cb, o, none⟩) hblk, fun o => World.frozen?_of_block (a := ⟨cb, o, none⟩) hblk, ?_, fun k hk _ hn => added_frame hb1 hr h2 k hk hn⟩
  exact ⟨h2.os.trans hb1.os, h2.tape.trans hb1.tape, h2.output.trans hb1.output, Nat.le_trans hb1.size h2.size, fun k hk => (h2.block k (Nat.lt_of_lt_of_le (Nat.lt_trans hk hcb) hb1.size) (hne k (by omega))).trans (hb1.block k (Nat.lt_trans hk hcb))⟩
theorem added_mk {cb n : Nat} {w w1 w2 : World} {row : Option Nat} {L' : List Hold} {v v' : Value} (hb1 : Below w.heap.size w w1) (hcb : cb < w.heap.size) (hr : RowOf cb w row) (h2 : w1.grownBy w2 row) (hv : w.cell? ⟨cb, 1, none⟩ = some v) (hown : w2.ownsRow (cb + 1) 171 3 v' n (flatE encHold L')) (hn : L'.length = n) : AddedV cb v' L' w (w2.setCell ⟨cb, 1, none⟩ v') := by
  have hne : ∀ k, k ≤ cb → some k ≠ row := fun k hk q => by have := (hr k q.symm).1; omega
  have hblk : w2.heap[cb]? = w.heap[cb]? := (h2.block cb (Nat.lt_of_lt_of_le hcb hb1.size) (hne cb (Nat.le_refl _))).trans (hb1.block cb hcb)
  subst hn
  have hv2 := (World.cell?_of_block (a := ⟨cb, 1, none⟩) hblk).trans hv
  refine ⟨World.cell?_setCell_same w2 _ _ hv2, World.ownsRow.kept hown (grownBy_setCellZ w2 cb 1 v') ?_, fun o ho => ?_, fun o => ?_, ?_, fun k hk hkc hn => ?_⟩
  · cases hb : v'.ownBlock with
    | none => exact .inl rfl
    | some k => exact .inr (by have := (hown.lt k hb).1; simp; omega)
  · rw [World.cell?_setCell_other w2 _ _ _ (by intro q; injection q; omega)]
    exact World.cell?_of_block (a := ⟨cb, o, none⟩) hblk
  · rw [World.frozen?_setCell]
    exact World.frozen?_of_block (a := ⟨cb, o, none⟩) hblk
  · have h3 : Below cb w w2 := ⟨h2.os.trans hb1.os, h2.tape.trans hb1.tape, h2.output.trans hb1.output, Nat.le_trans hb1.size h2.size, fun k hk => (h2.block k (Nat.lt_of_lt_of_le (Nat.lt_trans hk hcb) hb1.size) (hne k (by omega))).trans (hb1.block k (Nat.lt_trans hk hcb))⟩
    exact h3.setCell (Nat.le_refl _) _
  · rw [Below.heap_setCell _ _ _ _ (by simp only; omega)]
    exact added_frame hb1 hr h2 k hk hn
theorem AddedV.stored {cb g n cap j : Nat} {w W : World} {L' L'' : List Hold} {u : Value} (h : AddedV cb (.slice (some ⟨g, 0, none⟩) n cap) L' w W) (hn : L'.length = n) (hn' : L''.length = n) (hg : cb < g) (hs : (flatE encHold L').set j u = flatE encHold L'') : AddedV cb (.slice (some ⟨g, 0, none⟩) n cap) L'' w (W.setCell ⟨g, j, none⟩ u) := by
  obtain ⟨h1, h2, h3, h4, h5, h6⟩ := h
  rw [hn] at h2
  have q := World.ownsRow.stored h2 j u
  rw [hs] at q
  refine ⟨?_, by rw [hn']; exact q.1, fun o ho => ?_, fun o => ?_, h5.setCell (by simp only; omega) _, fun k hk hkc hno => ?_⟩
  · rw [World.cell?_setCell_other W _ _ _ (by intro q; injection q; omega)]; exact h1
  · rw [World.cell?_setCell_other W _ _ _ (by intro q; injection q; omega)]; exact h3 o ho
  · rw [World.frozen?_setCell]; exact h4 o
  · have hk6 := h6 k hk hkc hno
    rw [Below.heap_setCell _ _ _ _ (?_)]
    · exact hk6
    · simp only
      rintro rfl
      obtain ⟨_, cur, hc⟩ := rowOf_own h2 k rfl
      rw [hk6] at hc
      exact hno cur hc
theorem own_slice {w : World} {base : Nat} {e : TypeId} {z : Nat} {v : Value} {n : Nat} {xs : List Value} (h : w.ownsRow base e z v n xs) : ∃ ao c, v = .slice ao n c := by
  rcases h.2 with ⟨rfl, rfl⟩ | ⟨g, cap, cur, rfl, _⟩
  · exact ⟨_, _, rfl⟩
  · exact ⟨_, _, rfl⟩
theorem add_zero (cb : Nat) (s n : Int) (w : World) :
    Calls Tryz.prog 321 #[.pointer (some ⟨cb, 0, none⟩), .int .i64 s, .int .i64 0, .int .i64 n] w fun e w' => e = .returned (.tuple #[]) ∧ w = w' := by
  go_enter Tryz.func321, Tryz.ntmps321
  go_wp2
  refine bodyPost_ret (results_none rfl _ _ _) rfl ?_
  exact ⟨rfl, rfl⟩
set_option maxHeartbeats 1000000 in
theorem add_there (cb : Nat) (v : Value) (L1 L2 : List Hold) (s h a n : Int) (w : World) (hv : w.cell? ⟨cb, 1, none⟩ = some v) (hf : w.frozen? ⟨cb, 1, none⟩ = false) (hown : w.ownsRow (cb + 1) 171 3 v (L1 ++ ⟨s, h, a⟩ :: L2).length (flatE encHold (L1 ++ ⟨s, h, a⟩ :: L2)))
    (hp : posH (L1 ++ ⟨s, h, a⟩ :: L2) s h = L1.length) (hs : srtH (L1 ++ ⟨s, h, a⟩ :: L2)) (hlen : (L1 ++ ⟨s, h, a⟩ :: L2).length ≤ 100000) (hh : h ≠ 0) (ha0 : 0 ≤ a) (ha1 : a ≤ 1000000000000) (hn0 : -1000000000000 ≤ n) (hn1 : n ≤ 1000000000000) :
    Calls Tryz.prog 321 #[.pointer (some ⟨cb, 0, none⟩), .int .i64 s, .int .i64 h, .int .i64 n] w fun e w' => e = .returned (.tuple #[]) ∧ Added cb (if a + n = 0 then L1 ++ L2 else L1 ++ ⟨s, h, a + n⟩ :: L2) w w' := by
  have hi : isH (L1 ++ ⟨s, h, a⟩ :: L2) s h = true := by unfold isH; rw [hp]; simp [eqK]
  have H := place_any (fun _ => True) cb v _ s h w hv (Sl.own encHold_len hown rfl (fun _ _ => trivial)) hs (by omega)
  rw [hi, hp] at H
  obtain ⟨p, hpe⟩ : ∃ p, L1.length = p := ⟨_, rfl⟩
  rw [hpe] at H
  obtain ⟨N, hN⟩ : ∃ N, (L1 ++ ⟨s, h, a⟩ :: L2).length = N := ⟨_, rfl⟩
  rw [hN] at hown hlen
  have hNp : L2.length + p + 1 = N := by rw [← hN, ← hpe]; simp; omega
  obtain ⟨g, cap, rest, rfl, hbg, hg, hnc, hcm, hxl, hrl⟩ := own_whole hown (by omega)
  unfold maxLen at hcm
  have hgc : ¬ g = cb := by omega
  have hcg : ¬ cb = g := by omega
  have hh' : (h == 0) = false := by simpa using hh
  have hcell : w.cell? ⟨g, p * 3 + 2, none⟩ = some (.int .i64 a) := by
    refine cell_whole hg ?_
    have hl : (flatE encHold L1).length = p * 3 := by rw [flatE_length encHold_len, hpe]
    have e : flatE encHold (L1 ++ ⟨s, h, a⟩ :: L2) = flatE encHold L1 ++ (.int .i64 s :: .int .i64 h :: .int .i64 a :: flatE encHold L2) := by simp [flatE, encHold]
    rw [e, List.append_assoc, List.getElem?_append_right (by omega), hl, Nat.add_sub_cancel_left]
    rfl
  have hfz : w.frozen? ⟨g, p * 3 + 2, none⟩ = false := frozen_of_row w g _ _ _ hg
  have HH := Lib.hid H
  have HO := Lib.hid hown
  have HL := Lib.hid hpe
  have hpN : p < N := by omega
  clear H hp hs hi hg hxl hrl hN hpe hown
  by_cases hz : a + n = 0
  · rw [if_pos hz]
    have HZ := Lib.hid hz
    have hz2 : (a + n == 0) = true := by simpa using hz
    clear hz
    go_enter Tryz.func321, Tryz.ntmps321
    go_wp2_with fail
    refine HH.out.mono ?_
    rintro e w1 ⟨rfl, hb1⟩
    have c1 := keepB hb1 hv
    have c2 := keepB hb1 hcell
    have f1 : w1.frozen? ⟨cb, 1, none⟩ = false := (hb1.frozen (p := ⟨cb, 1, none⟩) (World.block_lt_of_cell? w _ hv)).trans hf
    have f2 : w1.frozen? ⟨g, p * 3 + 2, none⟩ = false := (hb1.frozen (p := ⟨g, p * 3 + 2, none⟩) (World.block_lt_of_cell? w _ hcell)).trans hfz
    have HO1 := Lib.hid (ownsRow_belowZ HO.out hb1)
    have hst := World.ownsRow.stored HO1.out (p * 3 + 2) (.int .i64 (a + n))
    rw [flatE_set L1 L2 s h a (a + n) p HL.out] at hst
    obtain ⟨hst1, hst2⟩ := hst
    have HS1 := Lib.hid hst1
    have HS2 := Lib.hid hst2
    have HH1 := Lib.hid hb1
    clear hst1 hst2
    go_wp2_with fail
    refine (delH_any (cb + 1) _ N p L1 L2 ⟨s, h, a + n⟩ _ HS1.out (by omega) HL.out hNp).mono ?_
    rintro e w2 ⟨v', rfl, hown2, hgr2⟩
    obtain ⟨ao', c', rfl⟩ := own_slice hown2
    have c3 : w2.cell? ⟨cb, 1, none⟩ = some _ := hgr2.cell ((World.cell?_setCell_other _ _ _ _ (by simp [hgc])).trans c1) (by simp [Value.ownBlock]; omega)
    have f3 : w2.frozen? ⟨cb, 1, none⟩ = false := by
      rw [World.frozen?_of_block (a := ⟨cb, 1, none⟩) (hgr2.block cb (by simpa [World.setCell] using World.block_lt_of_cell? w1 _ c1) (by simp [Value.ownBlock]; omega)), World.frozen?_setCell]
      exact f1
    go_wp2
    go_end0
    exact ⟨rfl, _, added_mk HH1.out (World.block_lt_of_cell? w _ hv) (rowOf_own HO.out) (grownBy_transZ HS2.out hgr2) hv hown2 (by have := HL.out; simp; omega)⟩
  · rw [if_neg hz]
    have hz2 : (a + n == 0) = false := by simpa using hz
    clear hz
    go_enter Tryz.func321, Tryz.ntmps321
    go_wp2_with fail
    refine HH.out.mono ?_
    rintro e w1 ⟨rfl, hb1⟩
    have c1 := keepB hb1 hv
    have c2 := keepB hb1 hcell
    have f1 : w1.frozen? ⟨cb, 1, none⟩ = false := (hb1.frozen (p := ⟨cb, 1, none⟩) (World.block_lt_of_cell? w _ hv)).trans hf
    have f2 : w1.frozen? ⟨g, p * 3 + 2, none⟩ = false := (hb1.frozen (p := ⟨g, p * 3 + 2, none⟩) (World.block_lt_of_cell? w _ hcell)).trans hfz
    have hst := World.ownsRow.stored (ownsRow_belowZ HO.out hb1) (p * 3 + 2) (.int .i64 (a + n))
    rw [flatE_set L1 L2 s h a (a + n) p HL.out] at hst
    obtain ⟨hst1, hst2⟩ := hst
    have HS1 := Lib.hid hst1
    have HS2 := Lib.hid hst2
    have HH1 := Lib.hid hb1
    clear hst1 hst2
    go_wp2
    go_end0
    exact ⟨rfl, added_mk0 HH1.out (World.block_lt_of_cell? w _ hv) (rowOf_own HO.out) HS2.out hv HS1.out (by have := HL.out; simp; omega)⟩
set_option maxHeartbeats 1000000 in
theorem add_new (cb : Nat) (v : Value) (L : List Hold) (s h n : Int) (w : World) (hv : w.cell? ⟨cb, 1, none⟩ = some v) (hf : w.frozen? ⟨cb, 1, none⟩ = false) (hown : w.ownsRow (cb + 1) 171 3 v L.length (flatE encHold L))
    (hi : isH L s h = false) (hs : srtH L) (hlen : L.length ≤ 100000) (hh : h ≠ 0) (hn0 : -1000000000000 ≤ n) (hn1 : n ≤ 1000000000000) (hnz : n ≠ 0) :
    Calls Tryz.prog 321 #[.pointer (some ⟨cb, 0, none⟩), .int .i64 s, .int .i64 h, .int .i64 n] w fun e w' => e = .returned (.tuple #[]) ∧ Added cb (L.take (posH L s h) ++ ⟨s, h, n⟩ :: L.drop (posH L s h)) w w' := by
  have H := place_any (fun _ => True) cb v _ s h w hv (Sl.own encHold_len hown rfl (fun _ _ => trivial)) hs (by omega)
  have hple := posH_le L s h
  rw [hi] at H
  obtain ⟨p, hpe⟩ : ∃ p, posH L s h = p := ⟨_, rfl⟩
  rw [hpe] at H hple
  rw [hpe]
  obtain ⟨N, hN⟩ : ∃ N, L.length = N := ⟨_, rfl⟩
  rw [hN] at hown hlen hple
  have hh' : (h == 0) = false := by simpa using hh
  have hcb := World.block_lt_of_cell? w _ hv
  simp only at hcb
  have hvb : ∀ k, v.ownBlock = some k → cb + 1 ≤ k ∧ k < w.heap.size := hown.lt
  have hz2 : (n == 0) = false := by simpa using hnz
  have HH := Lib.hid H
  have HO := Lib.hid hown
  have HN := Lib.hid hN
  have HVB := Lib.hid hvb
  have HV := Lib.hid hv
  clear H hs hi hN hpe hown hnz hvb
  go_enter Tryz.func321, Tryz.ntmps321
  go_wp2_with fail
  refine HH.out.mono ?_
  rintro e w1 ⟨rfl, hb1⟩
  have zb := hb1.size
  have c1 := keepB hb1 HV.out
  have f1 : w1.frozen? ⟨cb, 1, none⟩ = false := (hb1.frozen (p := ⟨cb, 1, none⟩) hcb).trans hf
  have HO1 := Lib.hid ((ownsRow_belowZ HO.out hb1).alloc (.cells #[.int .i64 s, .int .i64 h, .int .i64 0] 171))
  have HH1 := Lib.hid hb1
  clear hb1
  go_wp2_with fail
  refine (insH_any (cb + 1) v N p w1.heap.size L ⟨s, h, 0⟩ _ HO1.out (by omega) hple HN.out (by simp; omega) (heap_alloc_new _ _) (fun hq => by have := (HVB.out _ hq).2; omega)).mono ?_
  rintro e w2 ⟨v', rfl, hown2, hgr2⟩
  obtain ⟨g, cap, rest, rfl, hbg, hg, hnc, hcm, hxl, hrl⟩ := own_whole hown2 (by omega)
  unfold maxLen at hcm
  have hgr0 : v.ownBlock ≠ some cb := fun hq => by have := (HVB.out _ hq).1; omega
  have hblk : w2.heap[cb]? = w1.heap[cb]? := (hgr2.block cb (by simp; omega) (fun q => hgr0 q.symm)).trans (heap_alloc_old w1 _ (by omega))
  have c3 : w2.cell? ⟨cb, 1, none⟩ = some v := (World.cell?_of_block (a := ⟨cb, 1, none⟩) hblk).trans c1
  have f3 : w2.frozen? ⟨cb, 1, none⟩ = false := (World.frozen?_of_block (a := ⟨cb, 1, none⟩) hblk).trans f1
  have hlt : (L.take p).length = p := by have := HN.out; simp; omega
  have hcell : w2.cell? ⟨g, p * 3 + 2, none⟩ = some (.int .i64 0) := by
    refine cell_whole hg ?_
    have hl : (flatE encHold (L.take p)).length = p * 3 := by rw [flatE_length encHold_len, hlt]
    have e : flatE encHold (L.take p ++ ⟨s, h, 0⟩ :: L.drop p) = flatE encHold (L.take p) ++ (.int .i64 s :: .int .i64 h :: .int .i64 0 :: flatE encHold (L.drop p)) := by simp [flatE, encHold]
    rw [e, List.append_assoc, List.getElem?_append_right (by omega), hl, Nat.add_sub_cancel_left]
    rfl
  have hfz : w2.frozen? ⟨g, p * 3 + 2, none⟩ = false := frozen_of_row w2 g _ _ _ hg
  have hgc : ¬ g = cb := by omega
  have hcg : ¬ cb = g := by omega
  have hA : AddedV cb (.slice (some ⟨g, 0, none⟩) (N + 1) cap) (L.take p ++ ⟨s, h, 0⟩ :: L.drop p) w (w2.setCell ⟨cb, 1, none⟩ (.slice (some ⟨g, 0, none⟩) (N + 1) cap)) := by
    have hln : (L.take p ++ ⟨s, h, 0⟩ :: L.drop p).length = N + 1 := by have := HN.out; simp; omega
    have hb2 : Below w.heap.size w (w1.alloc (.cells #[.int .i64 s, .int .i64 h, .int .i64 0] 171)) := bal HH1.out _
    exact added_mk hb2 hcb (rowOf_own HO.out) hgr2 HV.out hown2 hln
  have HA := Lib.hid (hA.stored (j := p * 3 + 2) (u := .int .i64 n) (L'' := L.take p ++ ⟨s, h, n⟩ :: L.drop p) (by have := HN.out; simp; omega) (by have := HN.out; simp; omega) (by omega) (flatE_set _ _ _ _ _ _ p hlt))
  clear hA hown2 hgr2 hg hxl hrl hblk hlt
  go_wp2
  go_end0
  exact ⟨rfl, _, HA.out⟩
/-- add, whole -/
theorem add_any (cb : Nat) (v : Value) (L : List Hold) (s h n : Int) (w : World) (hv : w.cell? ⟨cb, 1, none⟩ = some v) (hf : w.frozen? ⟨cb, 1, none⟩ = false) (hown : w.ownsRow (cb + 1) 171 3 v L.length (flatE encHold L))
    (hs : srtH L) (hlen : L.length ≤ 100000) (ha : ∀ x ∈ L, 0 ≤ x.a ∧ x.a ≤ 1000000000000) (hn0 : -1000000000000 ≤ n) (hn1 : n ≤ 1000000000000) (hnz : n ≠ 0) :
    Calls Tryz.prog 321 #[.pointer (some ⟨cb, 0, none⟩), .int .i64 s, .int .i64 h, .int .i64 n] w fun e w' => e = .returned (.tuple #[]) ∧ Added cb (addZ L s h n) w w' := by
  by_cases hh : h = 0
  · subst hh
    refine (add_zero cb s n w).mono ?_
    rintro e w' ⟨rfl, rfl⟩
    exact ⟨rfl, v, hv, by simpa [addZ] using hown, fun _ _ => rfl, fun _ => rfl, Below.refl _ _, fun _ _ _ _ => rfl⟩
  · have e1 : addZ L s h n = addH L s h n := if_neg hh
    rw [e1]
    cases hi : isH L s h
    · have hx : ∀ x, L[posH L s h]? = some x → eqK x s h = false := fun x hx => by
        unfold isH at hi
        rw [hx] at hi
        exact hi
      rw [addH_new n hx, if_neg hnz]
      exact add_new cb v L s h n w hv hf hown hi hs hlen hh hn0 hn1 hnz
    · obtain ⟨a, hL, -⟩ := (held_at hs).1 hi
      rw [addH_there n hL]
      have hp := (List.getElem?_eq_some_iff.1 hL).1
      obtain ⟨p, hpe⟩ : ∃ p, posH L s h = p := ⟨_, rfl⟩
      rw [hpe] at hL hp
      rw [hpe]
      have hsplit : L = L.take p ++ ⟨s, h, a⟩ :: L.drop (p + 1) := by
        rw [← drop_cons hL, List.take_append_drop]
      obtain ⟨a0, a1⟩ := ha _ (List.mem_of_getElem? hL)
      have hlt : (L.take p).length = p := by simp; omega
      obtain ⟨L1, hL1⟩ : ∃ L1, L.take p = L1 := ⟨_, rfl⟩
      obtain ⟨L2, hL2⟩ : ∃ L2, L.drop (p + 1) = L2 := ⟨_, rfl⟩
      rw [hL1, hL2] at hsplit
      rw [hL1] at hlt
      rw [hL1, hL2]
      subst hsplit
      exact add_there cb v L1 L2 s h a n w hv hf hown (by rw [hpe, hlt]) hs hlen hh a0 a1 hn0 hn1
end Go.Proofs.YthjaofgdickkaaaGreat
