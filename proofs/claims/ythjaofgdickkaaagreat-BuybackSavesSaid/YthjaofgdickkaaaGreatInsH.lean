/- slices.Insert (one element) and slices.Delete (one element) at rows that the call owns. Printed by wip/gen/ins.py. -/
import Derived.Test.YthjaofgdickkaaaGreatOwn
import Derived.Test.YthjaofgdickkaaaGreatTypes
import Derived.BigQuiet
namespace Go.Proofs.YthjaofgdickkaaaGreat
open Go.RowKit
set_option linter.unusedVariables false
set_option linter.unusedSimpArgs false

theorem overH_any (vb g i lb cb : Nat) (C cur : Array Value) (w : World) (hne : vb ≠ g) (hv : w.heap[vb]? = some (.cells C 171 (0, 0))) (hg : w.heap[g]? = some (.cells cur 171 (0, 0))) (hk : cur.size ≠ 0) :
    (callFunc 358 #[.slice (some ⟨vb, 0, none⟩) 1 1, .slice (some ⟨g, i, none⟩) lb cb]).run Tryz.prog w = .ok (.value (.bool false)) w := by
  have hz : ∀ w, (Go.sizeOf 171).run Tryz.prog w = .ok 3 w := fun w => by kernel_rfl
  rw [run_callFunc_extern Tryz.func358 (by kernel_rfl) (by kernel_rfl) (by kernel_rfl) (e := Extern.SlicesOverlaps.overlaps #[28, 28] #[4]) (by kernel_rfl),
    Lib.run_overlaps_apart w 28 4 171 Tryz.underlying28 3 hz ⟨vb, 0, none⟩ ⟨g, i, none⟩ 1 1 lb cb hne 171 171 C.size cur.size (by simp [World.shape?, hv]) (by simp [World.shape?, hg]) hk (by simp [World.frozen?, hv]) (by simp [World.frozen?, hv])]
  rfl
/-- the list with an element put in -/
theorem insH_end (base : Nat) (v : Value) (n vb : Nat) (L : List Hold) (x : Hold) (w : World) (hown : w.ownsRow base 171 3 v n (flatE encHold L)) (hn : n ≤ 1000000) (hl : L.length = n) (hbase : base ≤ w.heap.size)
    (hv : w.heap[vb]? = some (.cells (encHold x).toArray 171 (0, 0))) :
    Calls Tryz.prog 340 #[v, .int .i64 n, .slice (some ⟨vb, 0, none⟩) 1 1] w fun e w' => ∃ v', e = .returned v' ∧ w'.ownsRow base 171 3 v' (n + 1) (flatE encHold (L ++ [x])) ∧ w.grownBy w' v.ownBlock := by
  obtain ⟨i1, hi, hz0, hz1, hz2⟩ := info_parts infoHold
  have hnews : ∀ j u, (encHold x)[j]? = some u → w.cell? ((⟨vb, 0, none⟩ : Addr).add j) = some u := fun j u hj => by rw [add_litZ, Nat.zero_add]; exact cell_whole hv hj
  have HN := Lib.hid hnews
  have HV := Lib.hid hv
  have HL := Lib.hid hl
  clear hnews hv hl
  rcases Nat.eq_zero_or_pos n with h0 | h0
  · subst h0
    have hL : L = [] := List.eq_nil_of_length_eq_zero HL.out
    subst hL
    rcases hown.2 with ⟨rfl, -⟩ | ⟨g, cap, cur, rfl, hbg, hg, hnc, hcm, hcs, htake⟩
    · go_enter Tryz.func340, Tryz.ntmps340
      go_wp2_with (at_builtin; refine wpList_append_own _ rfl _ _ 28 rfl base 171 i1 (.agg #[.int .i64 0, .int .i64 0, .int .i64 0]) 3 24 Tryz.underlying28 hi hz0 hz1 hz2 rfl (by decide) _ _ _ rfl hown ⟨vb, 0, none⟩ 1 1 (encHold x) rfl rfl HN.out (oneHold x) (by unfold maxLen; omega) (by omega) hbase ?_; intro v' w2 hown' hgrow _)
      go_wp2
      go_ret
      exact ⟨v', rfl, by simpa [flatE] using hown', hgrow⟩
    · have HG := Lib.hid hg
      clear hg htake hcs
      by_cases hc0 : cap = 0
      · subst hc0
        go_enter Tryz.func340, Tryz.ntmps340
        go_wp2_with (at_builtin; refine wpList_append_own _ rfl _ _ 28 rfl base 171 i1 (.agg #[.int .i64 0, .int .i64 0, .int .i64 0]) 3 24 Tryz.underlying28 hi hz0 hz1 hz2 rfl (by decide) _ _ _ rfl hown ⟨vb, 0, none⟩ 1 1 (encHold x) rfl rfl HN.out (oneHold x) (by unfold maxLen; omega) (by omega) hbase ?_; intro v' w2 hown' hgrow _)
        go_wp2
        go_ret
        exact ⟨v', rfl, by simpa [flatE] using hown', hgrow⟩
      · go_enter Tryz.func340, Tryz.ntmps340
        go_wp2_with (at_builtin; refine wpList_append_own _ rfl _ _ 28 rfl base 171 i1 (.agg #[.int .i64 0, .int .i64 0, .int .i64 0]) 3 24 Tryz.underlying28 hi hz0 hz1 hz2 rfl (by decide) _ _ _ rfl hown ⟨vb, 0, none⟩ 1 1 (encHold x) rfl rfl HN.out (oneHold x) (by unfold maxLen; omega) (by omega) hbase ?_; intro v' w2 hown' hgrow _)
        go_wp2
        go_ret
        exact ⟨v', rfl, by simpa [flatE] using hown', hgrow⟩
  · obtain ⟨g, cap, rest, rfl, hbg, hg, hnc, hcm, hxl, hrl⟩ := own_whole hown h0
    unfold maxLen at hcm
    have HG := Lib.hid hg
    clear hg hxl hrl
    by_cases hc0 : cap = n
    · subst hc0
      go_enter Tryz.func340, Tryz.ntmps340
      go_wp2_with (at_builtin; refine wpList_append_own _ rfl _ _ 28 rfl base 171 i1 (.agg #[.int .i64 0, .int .i64 0, .int .i64 0]) 3 24 Tryz.underlying28 hi hz0 hz1 hz2 rfl (by decide) _ _ _ rfl hown ⟨vb, 0, none⟩ 1 1 (encHold x) rfl rfl HN.out (oneHold x) (by unfold maxLen; omega) (by omega) hbase ?_; intro v' w2 hown' hgrow _)
      go_wp2
      go_ret
      exact ⟨v', rfl, by rw [flatE_snoc]; exact hown', hgrow⟩
    · go_enter Tryz.func340, Tryz.ntmps340
      go_wp2_with (at_builtin; refine wpList_append_own _ rfl _ _ 28 rfl base 171 i1 (.agg #[.int .i64 0, .int .i64 0, .int .i64 0]) 3 24 Tryz.underlying28 hi hz0 hz1 hz2 rfl (by decide) _ _ _ rfl hown ⟨vb, 0, none⟩ 1 1 (encHold x) rfl rfl HN.out (oneHold x) (by unfold maxLen; omega) (by omega) hbase ?_; intro v' w2 hown' hgrow _)
      go_wp2
      go_ret
      exact ⟨v', rfl, by rw [flatE_snoc]; exact hown', hgrow⟩
set_option maxHeartbeats 4000000 in
set_option maxRecDepth 100000 in
theorem insH_shift (base g cap n i vb : Nat) (L1 L2 : List Hold) (x : Hold) (rest : List Value) (w : World) (hi : i < n) (hn : n ≤ 1000000) (hl : L1.length = i) (hl2 : L2.length = n - i) (hroom : n + 1 ≤ cap) (hcm : cap ≤ maxLen) (hvb : vb ≠ g) (hbg : base ≤ g)
    (hg : w.heap[g]? = some (.cells (flatE encHold L1 ++ flatE encHold L2 ++ rest).toArray 171 (0, 0))) (hrl : (flatE encHold L1 ++ flatE encHold L2 ++ rest).length = cap * 3)
    (hv : w.heap[vb]? = some (.cells (encHold x).toArray 171 (0, 0))) :
    Calls Tryz.prog 340 #[.slice (some ⟨g, 0, none⟩) n cap, .int .i64 i, .slice (some ⟨vb, 0, none⟩) 1 1] w fun e w' => ∃ v', e = .returned v' ∧ w'.ownsRow base 171 3 v' (n + 1) (flatE encHold (L1 ++ x :: L2)) ∧ w.grownBy w' (some g) := by
  have hcm' := hcm
  unfold maxLen at hcm
  have hsz : (Tryz.prog.info? 171).map (·.size) = some 3 := by kernel_rfl
  obtain ⟨X1, hX1⟩ : ∃ X, flatE encHold L1 = X := ⟨_, rfl⟩
  obtain ⟨X2, hX2⟩ : ∃ X, flatE encHold L2 = X := ⟨_, rfl⟩
  have l1 : X1.length = i * 3 := by rw [← hX1, flatE_length encHold_len, hl]
  have l2 : X2.length = (n - i) * 3 := by rw [← hX2, flatE_length encHold_len, hl2]
  have hfl : flatE encHold (L1 ++ x :: L2) = X1 ++ (encHold x ++ X2) := by rw [← hX1, ← hX2]; simp [flatE]
  have o2 : ∀ u ∈ X2, u.oneCell' = true := by rw [← hX2]; exact oneE oneHold L2
  rw [hX1, hX2] at hg hrl
  rw [hfl]
  obtain ⟨cur, hcur⟩ : ∃ c, X1 ++ X2 ++ rest = c := ⟨_, rfl⟩
  rw [hcur] at hg hrl
  have gd : w.drew.heap[g]? = some (.cells cur.toArray 171 (0, 0)) := hg
  obtain ⟨W1, hW1⟩ : ∃ W1, W1 = w.drew.setRow g ((cur.toArray.toList.take ((i + 1) * 3) ++ X2 ++ cur.toArray.toList.drop ((i + 1) * 3 + X2.length)).toArray) := ⟨_, rfl⟩
  have hcp1 : ∀ ty dc sc, (Builtin.copy_ #[28, 28] ty #[.slice (some ⟨g, (i + 1) * 3, none⟩) (n - i) dc, .slice (some ⟨g, i * 3, none⟩) (n + 1 - i) sc]).run Tryz.prog w.drew = .ok (goInt (n - i : Nat)) W1 := fun ty dc sc => by
    rw [hW1]
    refine run_copy_rowZ w.drew _ _ ty 171 g ((i + 1) * 3) (n - i) dc ⟨g, i * 3, none⟩ (n + 1 - i) sc cur.toArray 171 X2 3 (n - i) Tryz.underlying28 hsz gd (by simp only [Nat.min_def]; split <;> omega) l2 (fun j u hj => ?_) (by simp only [List.size_toArray]; omega) o2
    rw [add_litZ]
    refine cell_whole gd ?_
    have hj2 : j < X2.length := (List.getElem?_eq_some_iff.1 hj).1
    rw [← hcur, List.append_assoc, List.getElem?_append_right (by omega), l1, Nat.add_sub_cancel_left, List.getElem?_append_left hj2]
    exact hj
  have hg1 : W1.heap[g]? = some (.cells (cur.take ((i + 1) * 3) ++ X2 ++ cur.drop ((i + 1) * 3 + X2.length)).toArray 171 (0, 0)) := by rw [hW1]; simpa using heap_setRow gd
  have gr1 : w.grownBy W1 (some g) := by
    have q := grownBy_setRow w.drew g ((cur.toArray.toList.take ((i + 1) * 3) ++ X2 ++ cur.toArray.toList.drop ((i + 1) * 3 + X2.length)).toArray)
    rw [hW1]; exact ⟨q.os, q.tape, q.output, q.size, q.block⟩
  have hv1 : W1.heap[vb]? = some (.cells (encHold x).toArray 171 (0, 0)) := (gr1.block vb (Array.getElem?_eq_some_iff.1 hv).1 (by simpa using hvb)).trans hv
  obtain ⟨cur1, hcur1⟩ : ∃ c, cur.take ((i + 1) * 3) ++ X2 ++ cur.drop ((i + 1) * 3 + X2.length) = c := ⟨_, rfl⟩
  rw [hcur1] at hg1
  have lc1 : cur1.length = cap * 3 := by rw [← hcur1]; simp only [List.length_append, List.length_take, List.length_drop]; omega
  have hcp2 : ∀ ty dc, (Builtin.copy_ #[28, 28] ty #[.slice (some ⟨g, i * 3, none⟩) (n + 1 - i) dc, .slice (some ⟨vb, 0, none⟩) 1 1]).run Tryz.prog W1 = .ok (goInt (1 : Nat)) (W1.setRow g (cur1.toArray.toList.take (i * 3) ++ encHold x ++ cur1.toArray.toList.drop (i * 3 + (encHold x).length)).toArray) := fun ty dc =>
    run_copy_rowZ W1 _ _ ty 171 g (i * 3) (n + 1 - i) dc ⟨vb, 0, none⟩ 1 1 cur1.toArray 171 (encHold x) 3 1 Tryz.underlying28 hsz hg1 (by simp only [Nat.min_def]; split <;> omega) rfl (fun j u hj => by rw [add_litZ, Nat.zero_add]; exact cell_whole hv1 hj) (by simp only [List.size_toArray, encHold_len]; omega) (oneHold x)
  have hfin : (W1.setRow g (cur1.toArray.toList.take (i * 3) ++ encHold x ++ cur1.toArray.toList.drop (i * 3 + (encHold x).length)).toArray).ownsRow base 171 3 (.slice (some ⟨g, 0, none⟩) (n + 1) cap) (n + 1) (X1 ++ (encHold x ++ X2)) := by
    have q := heap_setRow (cs := (cur1.toArray.toList.take (i * 3) ++ encHold x ++ cur1.toArray.toList.drop (i * 3 + (encHold x).length)).toArray) hg1
    have sr := shift_rows X1 X2 rest (encHold x) (i * 3) 3 l1 rfl (by have := congrArg List.length hcur; simp only [List.length_append] at this ⊢; omega)
    rw [hcur, ← Nat.succ_mul] at sr
    simp only [Nat.succ_eq_add_one] at sr
    rw [hcur1] at sr
    have q2 : cur1.toArray.toList.take (i * 3) ++ encHold x ++ cur1.toArray.toList.drop (i * 3 + (encHold x).length) = X1 ++ (encHold x ++ X2) ++ cur.drop ((i + 1) * 3 + X2.length) := sr
    rw [q2] at q ⊢
    exact own_mk hbg q (by omega) hcm' (by simp only [List.length_append, encHold_len]; omega) (by simp only [List.length_append, List.length_drop, encHold_len]; omega)
  have hgr : w.grownBy (W1.setRow g (cur1.toArray.toList.take (i * 3) ++ encHold x ++ cur1.toArray.toList.drop (i * 3 + (encHold x).length)).toArray) (some g) := grownBy_transZ gr1 (grownBy_setRow _ _ _)
  obtain ⟨W2, hW2⟩ : ∃ W2, W2 = W1.setRow g (cur1.toArray.toList.take (i * 3) ++ encHold x ++ cur1.toArray.toList.drop (i * 3 + (encHold x).length)).toArray := ⟨_, rfl⟩
  rw [← hW2] at hcp2 hfin hgr
  have hov : ∀ lb cb, (callFunc 358 #[.slice (some ⟨vb, 0, none⟩) 1 1, .slice (some ⟨g, (i + 1) * 3, none⟩) lb cb]).run Tryz.prog w = .ok (.value (.bool false)) w := fun lb cb => overH_any vb g _ lb cb _ _ w hvb hv hg (by simp only [List.size_toArray]; omega)
  have hb2 : ¬ (cap = i + 1) := by omega
  have hb4 : ¬ (cap = i) := by omega
  have htn : ((i : Int) + 1).toNat = i + 1 := by omega
  have hw1 : IntKind.i64.wrap ((i : Int) + 1) = (i : Int) + 1 := by rw [IntKind.wrap_i64]; omega
  have hbi : (0 : Int) ≤ (i : Int) + 1 := by omega
  have hb3 : (i : Int) ≤ (n : Int) + 1 := by omega
  have hin : i ≤ n := by omega
  have HC1 := Lib.hid hcp1
  have HC2 := Lib.hid hcp2
  have HF := Lib.hid hfin
  have HGR := Lib.hid hgr
  clear hcp1 hcp2 hfin hgr hW2 hW1 hcur1 lc1 hv1 gr1 hg1 gd hcur o2 hfl l1 l2 hX1 hX2 hrl hg hv hl hl2 hsz
  go_enter Tryz.func340, Tryz.ntmps340
  go_wp2_with (simp only [hov])
  go_region_law (refine step_copy_runZ rfl (.tmp 73) (.tmp 76) 28 28 rfl (.slice (some ⟨g, (i + 1) * 3, none⟩) (n - i) (cap - (i + 1))) (.slice (some ⟨g, i * 3, none⟩) (n + 1 - i) (cap - i)) (by simp [Act.eval, Act.put]) (by simp [Act.eval, Act.put]) (HC1.out 3 (cap - (i + 1)) (cap - i)) ?_)
  go_wp2_with (refine wpList_copy_runZ _ rfl (.tmp 80) (.tmp 81) 28 28 rfl (.slice (some ⟨g, i * 3, none⟩) (n + 1 - i) (cap - i)) (.slice (some ⟨vb, 0, none⟩) 1 1) rfl rfl (HC2.out 3 (cap - i)) ?_)
  go_ret
  exact ⟨_, rfl, HF.out, HGR.out⟩
set_option maxHeartbeats 4000000 in
set_option maxRecDepth 100000 in
theorem insH_grow (base g n i vb : Nat) (L1 L2 : List Hold) (x : Hold) (w : World) (hi : i < n) (hn : n ≤ 1000000) (hl : L1.length = i) (hl2 : L2.length = n - i) (hvb : vb ≠ g) (hbase : base ≤ w.heap.size)
    (hg : w.heap[g]? = some (.cells (flatE encHold L1 ++ flatE encHold L2).toArray 171 (0, 0)))
    (hv : w.heap[vb]? = some (.cells (encHold x).toArray 171 (0, 0))) :
    Calls Tryz.prog 340 #[.slice (some ⟨g, 0, none⟩) n n, .int .i64 i, .slice (some ⟨vb, 0, none⟩) 1 1] w fun e w' => ∃ v', e = .returned v' ∧ w'.ownsRow base 171 3 v' (n + 1) (flatE encHold (L1 ++ x :: L2)) ∧ w.grownBy w' (some g) := by
  have hsz : (Tryz.prog.info? 171).map (·.size) = some 3 := by kernel_rfl
  obtain ⟨i1, hi1, hz0, hz1, hz2⟩ := info_parts infoHold
  have hkint : ∃ k, Tryz.prog.underlying 3 = some (.int k) := ⟨_, Tryz.underlying3⟩
  obtain ⟨kn, hkn⟩ := hkint
  obtain ⟨X1, hX1⟩ : ∃ X, flatE encHold L1 = X := ⟨_, rfl⟩
  obtain ⟨X2, hX2⟩ : ∃ X, flatE encHold L2 = X := ⟨_, rfl⟩
  have l1 : X1.length = i * 3 := by rw [← hX1, flatE_length encHold_len, hl]
  have l2 : X2.length = (n - i) * 3 := by rw [← hX2, flatE_length encHold_len, hl2]
  have hfl : flatE encHold (L1 ++ x :: L2) = X1 ++ (encHold x ++ X2) := by rw [← hX1, ← hX2]; simp [flatE]
  have o2 : ∀ u ∈ X2, u.oneCell' = true := by rw [← hX2]; exact oneE oneHold L2
  rw [hX1, hX2] at hg
  rw [hfl]
  have hgN : g < w.heap.size := (Array.getElem?_eq_some_iff.1 hg).1
  have hvN : vb < w.heap.size := (Array.getElem?_eq_some_iff.1 hv).1
  have hik : i + (n + 1 - i) = n + 1 := by omega
  have hkk : (n : Int) + 1 - (i : Int) = ((n + 1 - i : Nat) : Int) := by omega
  have hold : (Builtin.firstCells i1.size i (.slice (some ⟨g, 0, none⟩) i n)).run Tryz.prog w.drew = .ok X1.toArray w.drew := by
    rw [hz1]
    exact run_firstCells_some w.drew 3 i ⟨g, 0, none⟩ i n X1 l1 (fun j u hj => by
      rw [add_litZ, Nat.zero_add]
      have hj2 : j < X1.length := (List.getElem?_eq_some_iff.1 hj).1
      exact cell_whole (w := w) hg (by rw [List.getElem?_append_left hj2]; exact hj))
  obtain ⟨G, hG⟩ : ∃ G, G = grownCap w (n + 1) n 171 := ⟨_, rfl⟩
  have hGn : n + 1 ≤ G := by rw [hG]; exact grownCap_ge w _ _ _
  have hGm : G ≤ maxLen := by rw [hG]; exact grownCap_le_maxLen w (n + 1) n 171 (by unfold maxLen; omega)
  have hG63 := hGm
  unfold maxLen at hG63
  obtain ⟨Z, hZ⟩ : ∃ Z : Value, Z = .agg #[.int .i64 0, .int .i64 0, .int .i64 0] := ⟨_, rfl⟩
  have hzc : Z.cells.size = 3 := by rw [hZ]; rfl
  obtain ⟨W0, hW0⟩ : ∃ W0, W0 = w.drew.alloc (.cells (X1.toArray ++ Builtin.zeroCells Z.cells (n + 1 - i) ++ Builtin.zeroCells Z.cells (G - (n + 1))) 171) := ⟨_, rfl⟩
  have hrz : ∀ ty, (Builtin.append_ #[28, 3] ty #[.slice (some ⟨g, 0, none⟩) i n, .int .i64 ((n : Int) + 1 - (i : Int))]).run Tryz.prog w = .ok (.slice (some ⟨w.heap.size, 0, none⟩) (n + 1) G) W0 := fun ty => by
    have q := Lib.run_append_grow_zeros w 28 3 ty 171 i1 Z .i64 kn Tryz.underlying28 hkn hi1 (by rw [hz0, hZ]) (some ⟨g, 0, none⟩) i n X1 hold (n + 1 - i) (by omega) (by omega) (by omega) (by omega) (by rw [hz2]; omega) (by rw [hz2, hik]; exact growslice_fits (by omega) (by omega))
    rw [hik, ← hG] at q
    rw [hkk, hW0]
    exact q
  obtain ⟨R0, hR0⟩ : ∃ R0 : List Value, R0 = (Builtin.zeroCells Z.cells (n + 1 - i)).toList ++ (Builtin.zeroCells Z.cells (G - (n + 1))).toList := ⟨_, rfl⟩
  have lR0 : R0.length = (G - i) * 3 := by rw [hR0, List.length_append, Array.length_toList, Array.length_toList, size_zeroCells, size_zeroCells, hzc, ← Nat.add_mul]; congr 1; omega
  have g0 : W0.heap[w.heap.size]? = some (.cells (X1 ++ R0).toArray 171 (0, 0)) := by
    rw [hW0, hR0]
    have q := heap_alloc_new w.drew (.cells (X1.toArray ++ Builtin.zeroCells Z.cells (n + 1 - i) ++ Builtin.zeroCells Z.cells (G - (n + 1))) 171)
    refine Eq.trans q ?_
    congr 2
    apply Array.toList_inj.1
    simp
  have gr0 : w.grownBy W0 (some g) := by
    rw [hW0]
    have q := World.grownBy_alloc w.drew (.cells (X1.toArray ++ Builtin.zeroCells Z.cells (n + 1 - i) ++ Builtin.zeroCells Z.cells (G - (n + 1))) 171) (some g)
    exact ⟨q.os, q.tape, q.output, q.size, q.block⟩
  have og0 : W0.heap[g]? = some (.cells (X1 ++ X2).toArray 171 (0, 0)) := by
    rw [hW0]
    exact (heap_alloc_old w.drew _ hgN).trans hg
  have ov0 : W0.heap[vb]? = some (.cells (encHold x).toArray 171 (0, 0)) := (gr0.block vb hvN (by simpa using hvb)).trans hv
  -- the first copy
  obtain ⟨W1, hW1⟩ : ∃ W1, W1 = W0.setRow w.heap.size ((X1 ++ R0).toArray.toList.take (i * 3) ++ encHold x ++ (X1 ++ R0).toArray.toList.drop (i * 3 + (encHold x).length)).toArray := ⟨_, rfl⟩
  have hcp1 : ∀ ty dc, (Builtin.copy_ #[28, 28] ty #[.slice (some ⟨w.heap.size, i * 3, none⟩) (n + 1 - i) dc, .slice (some ⟨vb, 0, none⟩) 1 1]).run Tryz.prog W0 = .ok (goInt (1 : Nat)) W1 := fun ty dc => by
    rw [hW1]
    exact run_copy_rowZ W0 _ _ ty 171 w.heap.size (i * 3) (n + 1 - i) dc ⟨vb, 0, none⟩ 1 1 (X1 ++ R0).toArray 171 (encHold x) 3 1 Tryz.underlying28 hsz g0 (by simp only [Nat.min_def]; split <;> omega) rfl (fun j u hj => by rw [add_litZ, Nat.zero_add]; exact cell_whole ov0 hj) (by simp only [List.size_toArray, encHold_len, List.length_append]; omega) (oneHold x)
  have e1 : (X1 ++ R0).toArray.toList.take (i * 3) ++ encHold x ++ (X1 ++ R0).toArray.toList.drop (i * 3 + (encHold x).length) = X1 ++ encHold x ++ R0.drop (encHold x).length := by
    rw [List.toList_toArray, ← l1, List.take_left, List.drop_append]
    simp
  have g1 : W1.heap[w.heap.size]? = some (.cells (X1 ++ encHold x ++ R0.drop (encHold x).length).toArray 171 (0, 0)) := by rw [hW1, ← e1]; exact heap_setRow g0
  have gr1 : W0.grownBy W1 (some w.heap.size) := by rw [hW1]; exact grownBy_setRow _ _ _
  have og1 : W1.heap[g]? = some (.cells (X1 ++ X2).toArray 171 (0, 0)) := (gr1.block g (Nat.lt_of_lt_of_le hgN gr0.size) (by simp; omega)).trans og0
  -- the second copy
  obtain ⟨W2, hW2⟩ : ∃ W2, W2 = W1.drew.setRow w.heap.size ((X1 ++ encHold x ++ R0.drop (encHold x).length).toArray.toList.take ((i + 1) * 3) ++ X2 ++ (X1 ++ encHold x ++ R0.drop (encHold x).length).toArray.toList.drop ((i + 1) * 3 + X2.length)).toArray := ⟨_, rfl⟩
  have hcp2 : ∀ ty dc sc, (Builtin.copy_ #[28, 28] ty #[.slice (some ⟨w.heap.size, (i + 1) * 3, none⟩) (n - i) dc, .slice (some ⟨g, i * 3, none⟩) (n - i) sc]).run Tryz.prog W1.drew = .ok (goInt (n - i : Nat)) W2 := fun ty dc sc => by
    rw [hW2]
    refine run_copy_rowZ W1.drew _ _ ty 171 w.heap.size ((i + 1) * 3) (n - i) dc ⟨g, i * 3, none⟩ (n - i) sc (X1 ++ encHold x ++ R0.drop (encHold x).length).toArray 171 X2 3 (n - i) Tryz.underlying28 hsz g1 (by simp only [Nat.min_def]; split <;> omega) l2 (fun j u hj => ?_) (by simp only [List.size_toArray, encHold_len, List.length_append, List.length_drop]; omega) o2
    rw [add_litZ]
    exact cell_whole (w := W1) og1 (by rw [← l1, List.getElem?_append_right (by omega), Nat.add_sub_cancel_left]; exact hj)
  have e2 : (X1 ++ encHold x ++ R0.drop (encHold x).length).toArray.toList.take ((i + 1) * 3) ++ X2 ++ (X1 ++ encHold x ++ R0.drop (encHold x).length).toArray.toList.drop ((i + 1) * 3 + X2.length) = X1 ++ (encHold x ++ X2) ++ (X1 ++ encHold x ++ R0.drop (encHold x).length).drop ((i + 1) * 3 + X2.length) := by
    have el : (X1 ++ encHold x).length = (i + 1) * 3 := by simp only [List.length_append, encHold_len]; omega
    rw [List.toList_toArray, ← el, List.take_left]
    simp
  have g2 : W2.heap[w.heap.size]? = some (.cells (X1 ++ (encHold x ++ X2) ++ (X1 ++ encHold x ++ R0.drop (encHold x).length).drop ((i + 1) * 3 + X2.length)).toArray 171 (0, 0)) := by rw [hW2, ← e2]; exact heap_setRow (w := W1.drew) g1
  have gr2 : W1.grownBy W2 (some w.heap.size) := by
    rw [hW2]
    have q := grownBy_setRow W1.drew w.heap.size ((X1 ++ encHold x ++ R0.drop (encHold x).length).toArray.toList.take ((i + 1) * 3) ++ X2 ++ (X1 ++ encHold x ++ R0.drop (encHold x).length).toArray.toList.drop ((i + 1) * 3 + X2.length)).toArray
    exact ⟨q.os, q.tape, q.output, q.size, q.block⟩
  have hF : W2.ownsRow base 171 3 (.slice (some ⟨w.heap.size, 0, none⟩) (n + 1) G) (n + 1) (X1 ++ (encHold x ++ X2)) := own_mk hbase g2 hGn hGm (by simp only [List.length_append, encHold_len]; omega) (by simp only [List.length_append, List.length_drop, encHold_len]; omega)
  have hGR : w.grownBy W2 (some g) := by
    have q := grownBy_transZ gr1 gr2
    exact ⟨q.os.trans gr0.os, q.tape.trans gr0.tape, q.output.trans gr0.output, Nat.le_trans gr0.size q.size, fun k hk hne => (q.block k (Nat.lt_of_lt_of_le hk gr0.size) (by simp; omega)).trans (gr0.block k hk hne)⟩
  have hGi : ¬ (G = i) := by omega
  have hGim : ¬ (G = i + 1) := by omega
  have hci : ¬ (n = i) := by omega
  have htn : ((i : Int) + 1).toNat = i + 1 := by omega
  have hw1 : IntKind.i64.wrap ((i : Int) + 1) = (i : Int) + 1 := by rw [IntKind.wrap_i64]; omega
  have hbi : (0 : Int) ≤ (i : Int) + 1 := by omega
  have hin : i ≤ n := by omega
  have hin1 : (i : Int) ≤ n := by omega
  have hz3 : (n : Int) < (n : Int) + 1 := by omega
  have HZ := Lib.hid hrz
  have HC1 := Lib.hid hcp1
  have HC2 := Lib.hid hcp2
  have HF := Lib.hid hF
  have HGR := Lib.hid hGR
  clear hrz hcp1 hcp2 hF hGR hW2 hW1 hW0 e1 e2 g1 g2 gr0 gr1 gr2 og0 og1 ov0 g0 lR0 hR0 hzc hZ hG hGm hold hkk hik o2 hfl l1 l2 hX1 hX2 hg hv hl hl2 hsz hz0 hz1 hz2 hi1 hkn
  go_enter Tryz.func340, Tryz.ntmps340
  go_wp2_with (first
    | (at_builtin; refine Lib.wpList_append_run _ rfl (.tmp 34) (.tmp 39) 28 3 rfl (.slice (some ⟨g, 0, none⟩) i n) (.int .i64 ((n : Int) + 1 - (i : Int))) rfl rfl (.slice (some ⟨w.heap.size, 0, none⟩) (n + 1) G) W0 (HZ.out 28) ?_)
    | (refine wpList_copy_runZ _ rfl (.tmp 43) (.tmp 44) 28 28 rfl (.slice (some ⟨w.heap.size, i * 3, none⟩) (n + 1 - i) (G - i)) (.slice (some ⟨vb, 0, none⟩) 1 1) rfl rfl (HC1.out 3 (G - i)) ?_))
  go_region_law (refine step_copy_runZ rfl (.tmp 50) (.tmp 53) 28 28 rfl (.slice (some ⟨w.heap.size, (i + 1) * 3, none⟩) (n - i) (G - (i + 1))) (.slice (some ⟨g, i * 3, none⟩) (n - i) (n - i)) (by simp [Act.eval, Act.put]) (by simp [Act.eval, Act.put]) (HC2.out 3 (G - (i + 1)) (n - i)) ?_)
  go_wp2
  go_ret
  exact ⟨_, rfl, HF.out, HGR.out⟩
/-- an element is put in -/
theorem insH_any (base : Nat) (v : Value) (n i vb : Nat) (L : List Hold) (x : Hold) (w : World) (hown : w.ownsRow base 171 3 v n (flatE encHold L)) (hn : n ≤ 1000000) (hi : i ≤ n) (hl : L.length = n) (hbase : base ≤ w.heap.size)
    (hv : w.heap[vb]? = some (.cells (encHold x).toArray 171 (0, 0))) (hvb : v.ownBlock ≠ some vb) :
    Calls Tryz.prog 340 #[v, .int .i64 i, .slice (some ⟨vb, 0, none⟩) 1 1] w fun e w' => ∃ v', e = .returned v' ∧ w'.ownsRow base 171 3 v' (n + 1) (flatE encHold (L.take i ++ x :: L.drop i)) ∧ w.grownBy w' v.ownBlock := by
  by_cases hin : i = n
  · subst hin
    rw [List.take_of_length_le (by omega), List.drop_of_length_le (by omega)]
    exact insH_end base v i vb L x w hown hn hl hbase hv
  · obtain ⟨g, cap, rest, rfl, hbg, hg, hnc, hcm, hxl, hrl⟩ := own_whole hown (by omega)
    have hs : flatE encHold (L.take i) ++ flatE encHold (L.drop i) = flatE encHold L := by rw [← flatE_append, List.take_append_drop]
    have hne : vb ≠ g := fun h => hvb (by simp [Value.ownBlock, h])
    by_cases hr : n + 1 ≤ cap
    · exact insH_shift base g cap n i vb (L.take i) (L.drop i) x rest w (by omega) hn (by simp; omega) (by simp; omega) hr hcm hne hbg (by rw [hs]; exact hg) (by rw [hs]; exact hrl) hv
    · have hcn : cap = n := by omega
      subst hcn
      have hrest : rest = [] := by
        apply List.eq_nil_of_length_eq_zero
        simp only [List.length_append] at hrl
        omega
      subst hrest
      rw [List.append_nil] at hg
      exact insH_grow base g cap i vb (L.take i) (L.drop i) x w (by omega) hn (by simp; omega) (by simp; omega) hne hbase (by rw [hs]; exact hg) hv
set_option maxHeartbeats 4000000 in
set_option maxRecDepth 100000 in
theorem delH_any (base : Nat) (v : Value) (n i : Nat) (L1 L2 : List Hold) (y : Hold) (w : World) (hown : w.ownsRow base 171 3 v n (flatE encHold (L1 ++ y :: L2))) (hn : n ≤ 1000000) (hl : L1.length = i) (hl2 : L2.length + i + 1 = n) :
    Calls Tryz.prog 341 #[v, .int .i64 i, .int .i64 ((i : Int) + 1)] w fun e w' => ∃ v', e = .returned v' ∧ w'.ownsRow base 171 3 v' (n - 1) (flatE encHold (L1 ++ L2)) ∧ w.grownBy w' v.ownBlock := by
  obtain ⟨g, cap, rest, rfl, hbg, hg, hnc, hcm, hxl, hrl⟩ := own_whole hown (by omega)
  have hcm' := hcm
  unfold maxLen at hcm
  obtain ⟨i1, hi1, hz0, hz1, hz2⟩ := info_parts infoHold
  obtain ⟨X1, hX1⟩ : ∃ X, flatE encHold L1 = X := ⟨_, rfl⟩
  obtain ⟨X2, hX2⟩ : ∃ X, flatE encHold L2 = X := ⟨_, rfl⟩
  have l1 : X1.length = i * 3 := by rw [← hX1, flatE_length encHold_len, hl]
  have l2 : X2.length = (n - (i + 1)) * 3 := by rw [← hX2, flatE_length encHold_len]; congr 1; omega
  have hfl : flatE encHold (L1 ++ y :: L2) = X1 ++ (encHold y ++ X2) := by rw [← hX1, ← hX2]; simp [flatE]
  have hfl2 : flatE encHold (L1 ++ L2) = X1 ++ X2 := by rw [← hX1, ← hX2]; simp [flatE]
  have o2 : ∀ u ∈ X2, u.oneCell' = true := by rw [← hX2]; exact oneE oneHold L2
  have lE : (encHold y).length = 3 := rfl
  obtain ⟨Y, hY⟩ : ∃ Y, encHold y = Y := ⟨_, rfl⟩
  rw [hfl] at hg hrl
  rw [hfl2]
  rw [hY] at hg hrl lE
  have hown' := hown
  rw [hfl, hY] at hown'
  obtain ⟨cur, hcur⟩ : ∃ c, X1 ++ (Y ++ X2) ++ rest = c := ⟨_, rfl⟩
  rw [hcur] at hg hrl
  have gd : w.drew.heap[g]? = some (.cells cur.toArray 171 (0, 0)) := hg
  obtain ⟨W1, hW1⟩ : ∃ W1, W1 = w.drew.setRow g ((cur.toArray.toList.take (i * i1.size) ++ X2 ++ cur.toArray.toList.drop (i * i1.size + X2.length)).toArray) := ⟨_, rfl⟩
  have hap : ∀ ty a dc, (X2.length ≠ 0 → a = ⟨g, (i + 1) * 3, none⟩) → (Builtin.append_ #[28, 28] ty #[.slice (some ⟨g, 0, none⟩) i cap, .slice (some a) (n - (i + 1)) dc]).run Tryz.prog w.drew = .ok (.slice (some ⟨g, 0, none⟩) (i + (n - (i + 1))) cap) W1 := fun ty a dc ha => by
    rw [hW1]
    refine run_append_room w.drew 28 ty 171 i1 Tryz.underlying28 hi1 g i cap cur.toArray gd a (n - (i + 1)) dc X2 (by rw [hz1]; exact l2) (fun j u hj => ?_) o2 (by omega) (by rw [hz1]; simp only [List.size_toArray]; omega)
    have hj2 : j < X2.length := (List.getElem?_eq_some_iff.1 hj).1
    rw [ha (by omega), add_litZ]
    refine cell_whole gd ?_
    rw [← hcur, List.append_assoc, List.getElem?_append_right (by omega), l1, List.append_assoc, List.getElem?_append_right (by omega), lE, List.getElem?_append_left (by omega), show (i + 1) * 3 + j - i * 3 - 3 = j by omega]
    exact hj
  have e1 : cur.toArray.toList.take (i * i1.size) ++ X2 ++ cur.toArray.toList.drop (i * i1.size + X2.length) = (X1 ++ X2) ++ cur.drop (i * 3 + X2.length) := by
    rw [hz1, List.toList_toArray, ← l1, ← hcur, List.append_assoc X1, List.take_left]
  obtain ⟨D, hD⟩ : ∃ D, cur.drop (i * 3 + X2.length) = D := ⟨_, rfl⟩
  have lD : D.length + i * 3 + X2.length = cap * 3 := by rw [← hD, List.length_drop]; omega
  rw [hD] at e1
  have g1 : W1.heap[g]? = some (.cells ((X1 ++ X2) ++ D).toArray 171 (0, 0)) := by rw [hW1, ← e1]; exact heap_setRow gd
  have gr1 : w.grownBy W1 (some g) := by
    have q := grownBy_setRow w.drew g ((cur.toArray.toList.take (i * i1.size) ++ X2 ++ cur.toArray.toList.drop (i * i1.size + X2.length)).toArray)
    rw [hW1]; exact ⟨q.os, q.tape, q.output, q.size, q.block⟩
  obtain ⟨Z, hZ⟩ : ∃ Z : Value, Z = .agg #[.int .i64 0, .int .i64 0, .int .i64 0] := ⟨_, rfl⟩
  have hzl : (Builtin.zeroCells Z.cells 1).toList.length = 3 := by rw [Array.length_toList, size_zeroCells, hZ]; rfl
  have hzo : ∀ u ∈ (Builtin.zeroCells Z.cells 1).toList, u.oneCell' = true := by
    rw [hZ]
    intro u hu
    have : (Builtin.zeroCells (Value.agg #[.int .i64 0, .int .i64 0, .int .i64 0]).cells 1).toList = [.int .i64 0, .int .i64 0, .int .i64 0] := by simp [Builtin.zeroCells, Value.cells, List.range_succ]
    rw [this] at hu
    simp only [List.mem_cons, List.not_mem_nil, or_false] at hu
    rcases hu with rfl | rfl | rfl <;> rfl
  obtain ⟨W2, hW2⟩ : ∃ W2, W2 = W1.setRow g (((X1 ++ X2) ++ D).toArray.toList.take ((n - 1) * 3) ++ (Builtin.zeroCells Z.cells 1).toList ++ ((X1 ++ X2) ++ D).toArray.toList.drop ((n - 1) * 3 + (Builtin.zeroCells Z.cells 1).toList.length)).toArray := ⟨_, rfl⟩
  have hcl : ∀ ty dc, (Builtin.clear_ #[28] ty #[.slice (some ⟨g, (n - 1) * 3, none⟩) 1 dc]).run Tryz.prog W1 = .ok (.tuple #[]) W2 := fun ty dc => by
    rw [hW2]
    exact run_clear_rowZ W1 28 171 ty i1 Z g ((n - 1) * 3) 1 dc _ 171 Tryz.underlying28 hi1 (by rw [hz0, hZ]) g1 (by rw [hzl]; simp only [List.size_toArray, List.length_append]; omega) hzo
  have e2 : ((X1 ++ X2) ++ D).toArray.toList.take ((n - 1) * 3) ++ (Builtin.zeroCells Z.cells 1).toList ++ ((X1 ++ X2) ++ D).toArray.toList.drop ((n - 1) * 3 + (Builtin.zeroCells Z.cells 1).toList.length) = (X1 ++ X2) ++ ((Builtin.zeroCells Z.cells 1).toList ++ D.drop (Builtin.zeroCells Z.cells 1).toList.length) := by
    have el : (X1 ++ X2).length = (n - 1) * 3 := by simp only [List.length_append]; omega
    rw [List.toList_toArray, ← el, List.take_left, List.drop_append]
    simp
  have g2 : W2.heap[g]? = some (.cells ((X1 ++ X2) ++ ((Builtin.zeroCells Z.cells 1).toList ++ D.drop (Builtin.zeroCells Z.cells 1).toList.length)).toArray 171 (0, 0)) := by rw [hW2, ← e2]; exact heap_setRow g1
  have hF : W2.ownsRow base 171 3 (.slice (some ⟨g, 0, none⟩) (n - 1) cap) (n - 1) (X1 ++ X2) := own_mk hbg g2 (by omega) hcm' (by simp only [List.length_append]; omega) (by simp only [List.length_append, List.length_drop]; omega)
  have hGR : w.grownBy W2 (some g) := by rw [hW2]; exact grownBy_transZ gr1 (grownBy_setRow _ _ _)
  have hin : i + (n - (i + 1)) = n - 1 := by omega
  rw [hin] at hap
  have hX2l : X2.length ≠ 0 → i + 1 < n := by omega
  have HA := Lib.hid hap
  have HC := Lib.hid hcl
  have HF := Lib.hid hF
  have HGR := Lib.hid hGR
  have H2 := Lib.hid l2
  have hil : i < n := by omega
  clear hap hcl hF hGR hW2 hW1 e1 e2 g1 g2 gr1 hD lD hzl hzo hZ hin gd hcur hown hown' hY lE o2 hfl hfl2 l1 l2 hX1 hX2 hg hrl hl hl2 hxl hz0 hz1 hz2 hi1
  have htn : ((i : Int) + 1).toNat = i + 1 := by omega
  have hbi : (0 : Int) ≤ (i : Int) + 1 := by omega
  have hcn : ¬ (cap = n - 1) := by omega
  have hn1 : i + 1 ≤ n := by omega
  have hn2 : (i : Int) + 1 ≤ n := by omega
  have hni : ¬ (n = i) := by omega
  have hnn : n - (n - 1) = 1 := by omega
  have hz0 : ¬ (n - 1 = cap) := by omega
  have hii : i < n := by omega
  have hic : i ≤ cap := by omega
  have hcast : ((n : Int) - 1) = ((n - 1 : Nat) : Int) := by omega
  by_cases hcap : cap = i + 1
  · have hif : (cap = i + 1) = True := eq_true hcap
    have HCAP := Lib.hid hcap
    clear hcap
    go_enter Tryz.func341, Tryz.ntmps341
    go_wp2
    go_region_law (refine step_append_runZ rfl (.tmp 22) (.tmp 25) 28 28 rfl (.slice (some ⟨g, 0, none⟩) i cap) (.slice (some ⟨g, 0, none⟩) (n - (i + 1)) (cap - (i + 1))) (by simp [Act.eval, Act.put]) (by simp [Act.eval, Act.put]) (HA.out 28 ⟨g, 0, none⟩ (cap - (i + 1)) (fun h => absurd (hX2l h) (by have := HCAP.out; clear hif; omega))) ?_)
    go_wp2_with (refine wpList_clear_runZ _ rfl (.tmp 31) 28 rfl (.slice (some ⟨g, (n - 1) * 3, none⟩) 1 (cap - (n - 1))) rfl (HC.out 0 (cap - (n - 1))) ?_)
    go_ret
    exact ⟨_, rfl, HF.out, HGR.out⟩
  · go_enter Tryz.func341, Tryz.ntmps341
    go_wp2
    go_region_law (refine step_append_runZ rfl (.tmp 22) (.tmp 25) 28 28 rfl (.slice (some ⟨g, 0, none⟩) i cap) (.slice (some ⟨g, (i + 1) * 3, none⟩) (n - (i + 1)) (cap - (i + 1))) (by simp [Act.eval, Act.put]) (by simp [Act.eval, Act.put]) (HA.out 28 ⟨g, (i + 1) * 3, none⟩ (cap - (i + 1)) (fun _ => rfl)) ?_)
    go_wp2_with (refine wpList_clear_runZ _ rfl (.tmp 31) 28 rfl (.slice (some ⟨g, (n - 1) * 3, none⟩) 1 (cap - (n - 1))) rfl (HC.out 0 (cap - (n - 1))) ?_)
    go_ret
    exact ⟨_, rfl, HF.out, HGR.out⟩
end Go.Proofs.YthjaofgdickkaaaGreat
