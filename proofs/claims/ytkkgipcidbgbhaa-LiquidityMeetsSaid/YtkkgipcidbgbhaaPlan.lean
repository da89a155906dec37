/- Plans: lists of triples as slices; liquidity.check. Printed by wip/gen/plan.py. -/
import Derived.Test.YtkkgipcidbgbhaaPos
namespace Go.Proofs.Ytkkgipcidbgbhaa
open Go.RowKit
set_option linter.unusedVariables false

/-- a slice of structs that lies in w, its fields by families -/
def PlanAt (w : World) (ao : Option Addr) (n c : Nat) (pd : Nat → Int) (pr : Nat → Int) (pp : Nat → Int) : Prop :=
  n ≤ c ∧ c ≤ maxLen ∧ (n = 0 ∨ ∃ b off, ao = some ⟨b, off, none⟩ ∧ ∀ j, j < n → w.cell? ⟨b, off + j * 3, none⟩ = some (.int .i64 (pd j)) ∧ w.cell? ⟨b, off + j * 3 + 1, none⟩ = some (.int .i64 (pr j)) ∧ w.cell? ⟨b, off + j * 3 + 2, none⟩ = some (.int .i64 (pp j)))
theorem PlanAt.at_ {w : World} {ao : Option Addr} {n c : Nat} {pd : Nat → Int} {pr : Nat → Int} {pp : Nat → Int} (h : PlanAt w ao n c pd pr pp) (hn : n ≠ 0) : ∃ b off, ao = some ⟨b, off, none⟩ ∧ ∀ j, j < n → w.cell? ⟨b, off + j * 3, none⟩ = some (.int .i64 (pd j)) ∧ w.cell? ⟨b, off + j * 3 + 1, none⟩ = some (.int .i64 (pr j)) ∧ w.cell? ⟨b, off + j * 3 + 2, none⟩ = some (.int .i64 (pp j)) := by
  rcases h.2.2 with h | h
  · exact absurd h hn
  · exact h
theorem PlanAt.below {w w' : World} {ao : Option Addr} {n c : Nat} {pd : Nat → Int} {pr : Nat → Int} {pp : Nat → Int} (h : PlanAt w ao n c pd pr pp) (hb : Below w.heap.size w w') : PlanAt w' ao n c pd pr pp := by
  obtain ⟨h1, h2, h3⟩ := h
  refine ⟨h1, h2, ?_⟩
  rcases h3 with h3 | ⟨b, off, k1, k2⟩
  · exact .inl h3
  · refine .inr ⟨b, off, k1, fun j hj => ?_⟩
    have q := k2 j hj
    have hlt := World.block_lt_of_cell? w _ q.1
    exact ⟨(hb.cell (by exact hlt)).trans q.1, (hb.cell (by exact hlt)).trans q.2.1, (hb.cell (by exact hlt)).trans q.2.2⟩
theorem PlanAt.alloc {w : World} {ao : Option Addr} {n c : Nat} {pd : Nat → Int} {pr : Nat → Int} {pp : Nat → Int} (h : PlanAt w ao n c pd pr pp) (o : Obj) : PlanAt (w.alloc o) ao n c pd pr pp := h.below ((Below.refl _ _).alloc (Nat.le_refl _) _)
/-- the cells of a list of triples -/
def flat3 : List (Int × Int × Int) → List Value
  | [] => []
  | p :: L => .int .i64 p.1 :: .int .i64 p.2.1 :: .int .i64 p.2.2 :: flat3 L
theorem flat3_append (L M : List (Int × Int × Int)) : flat3 (L ++ M) = flat3 L ++ flat3 M := by
  induction L with
  | nil => rfl
  | cons p L ih => simp [flat3, ih]
theorem flat3_length (L : List (Int × Int × Int)) : (flat3 L).length = L.length * 3 := by
  induction L with
  | nil => rfl
  | cons p L ih => simp only [flat3, List.length_cons, ih]; omega
theorem flat3_get (L : List (Int × Int × Int)) : ∀ j, j < L.length → (flat3 L)[j * 3]? = some (.int .i64 (L.getD j (0, 0, 0)).1) ∧ (flat3 L)[j * 3 + 1]? = some (.int .i64 (L.getD j (0, 0, 0)).2.1) ∧ (flat3 L)[j * 3 + 2]? = some (.int .i64 (L.getD j (0, 0, 0)).2.2) := by
  induction L with
  | nil => intro j hj; simp at hj
  | cons p L ih =>
    intro j hj
    cases j with
    | zero => exact ⟨rfl, rfl, rfl⟩
    | succ j =>
      obtain ⟨h1, h2, h3⟩ := ih j (by simpa using hj)
      rw [show (j + 1) * 3 = j * 3 + 1 + 1 + 1 by omega, show j * 3 + 1 + 1 + 1 + 1 = j * 3 + 1 + 1 + 1 + 1 by rfl]
      refine ⟨?_, ?_, ?_⟩
      · simpa [flat3] using h1
      · have : (flat3 (p :: L))[j * 3 + 1 + 1 + 1 + 1]? = (flat3 L)[j * 3 + 1]? := by simp [flat3]
        rw [this, h2]; rfl
      · have : (flat3 (p :: L))[j * 3 + 1 + 1 + 1 + 2]? = (flat3 L)[j * 3 + 2]? := by
          rw [show j * 3 + 1 + 1 + 1 + 2 = j * 3 + 2 + 1 + 1 + 1 by omega]; simp [flat3]
        rw [this, h3]; rfl
/-- a row that is owned, of elements of any size -/
theorem own_shape_n {w : World} {base : Nat} {e : TypeId} {size : Nat} {v : Value} {n : Nat} {xs : List Value} (h : w.ownsRow base e size v n xs) (hn : 0 < n) :
    ∃ g cap, v = .slice (some ⟨g, 0, none⟩) n cap ∧ base ≤ g ∧ g < w.heap.size ∧ n ≤ cap ∧ cap ≤ maxLen ∧ (∀ j u, xs[j]? = some u → w.cell? ⟨g, j, none⟩ = some u) ∧ ∀ o, w.frozen? ⟨g, o, none⟩ = false := by
  have hc := fun g hg => World.ownsRow.cells h (g := g) hg
  rcases h.2 with ⟨rfl, rfl⟩ | ⟨g, cap, cur, rfl, hbg, hg, hnc, hcm, hcs, htake⟩
  · omega
  · refine ⟨g, cap, rfl, hbg, (Array.getElem?_eq_some_iff.1 hg).1, hnc, hcm, fun j u hj => ?_, fun o => ?_⟩
    · have := hc g rfl j u hj
      by_cases h0 : j = 0
      · subst h0; simpa [Addr.add] using this
      · simpa [Addr.add, h0] using this
    · unfold World.frozen?
      simp only [hg]
      simp
/-- the families of a list of triples -/
def pd3 (L : List (Int × Int × Int)) (j : Nat) : Int := (L.getD j (0, 0, 0)).1
def pr3 (L : List (Int × Int × Int)) (j : Nat) : Int := (L.getD j (0, 0, 0)).2.1
def pp3 (L : List (Int × Int × Int)) (j : Nat) : Int := (L.getD j (0, 0, 0)).2.2
theorem planAt_own {w : World} {base : Nat} {e : TypeId} {v : Value} {L : List (Int × Int × Int)} (h : w.ownsRow base e 3 v L.length (flat3 L)) : ∃ ao c, v = .slice ao L.length c ∧ PlanAt w ao L.length c (pd3 L) (pr3 L) (pp3 L) := by
  rcases Nat.eq_zero_or_pos L.length with h0 | h0
  · rcases h.2 with ⟨hv, hn⟩ | ⟨g, cap, cur, hv, hbg, hg, hnc, hcm, hcs, htake⟩
    · exact ⟨none, 0, by rw [hv, hn], by omega, Nat.zero_le _, .inl hn⟩
    · exact ⟨_, cap, hv, hnc, hcm, .inl h0⟩
  · obtain ⟨g, cap, hv, hg, hg2, hc1, hc2, hcell, _⟩ := own_shape_n h h0
    refine ⟨_, cap, hv, hc1, hc2, .inr ⟨g, 0, rfl, fun j hj => ?_⟩⟩
    obtain ⟨q1, q2, q3⟩ := flat3_get L j hj
    rw [Nat.zero_add]
    exact ⟨hcell _ _ q1, hcell _ _ q2, hcell _ _ q3⟩
theorem news3 (w : World) (a b c : Value) (t : TypeId) : ∀ j u, [a, b, c][j]? = some u → (w.alloc (.cells #[a, b, c] t)).cell? ((⟨w.heap.size, 0, none⟩ : Addr).add j) = some u := by
  intro j u hj
  match j, hj with
  | 0, hj => simp only [List.getElem?_cons_zero, Option.some.injEq] at hj; subst hj; simp [Addr.add]
  | 1, hj => simp only [List.getElem?_cons_succ, List.getElem?_cons_zero, Option.some.injEq] at hj; subst hj; simp [Addr.add]
  | 2, hj => simp only [List.getElem?_cons_succ, List.getElem?_cons_zero, Option.some.injEq] at hj; subst hj; simp [Addr.add]
theorem one3 (a b c : Int) : ∀ u ∈ [Value.int .i64 a, .int .i64 b, .int .i64 c], u.oneCell' = true := by
  intro u hu
  simp only [List.mem_cons, List.not_mem_nil, or_false] at hu
  rcases hu with rfl | rfl | rfl <;> rfl
theorem infoPlan : (Try.prog.info? 53).map (fun i => (i.zero, i.size, i.bytes)) = some (some (.agg #[.int .i64 0, .int .i64 0, .int .i64 0]), 3, 24) := by kernel_rfl

/-- the error of a band and positions -/
def lcE (lo hi lot mr mp : Int) (n : Nat) (d a : Nat → Int) : Int :=
  if bandB lo hi lot mr mp then (if anyB (fun j => !inB (a j) (-1000000000000000) 1000000000000000) n then 2 else if ascB n d then (if 1000 < n then 3 else 0) else 8) else 73
set_option maxHeartbeats 1000000 in
theorem lcheck_any (lo hi lot mr mp : Int) (ao : Option Addr) (n c : Nat) (d a : Nat → Int) (w : World) (hn : n ≤ 1000000) (h : PosAt w ao n c d a) :
    Calls Try.prog 51 #[.agg #[.int .i64 lo, .int .i64 hi, .int .i64 lot, .int .i64 mr, .int .i64 mp], .slice ao n c] w fun e w' => e = .returned (.int .i64 (lcE lo hi lot mr mp n d a)) ∧ Below w.heap.size w w' := by
  have H := Lib.hid (h.alloc (.cells #[.int .i64 lo, .int .i64 hi, .int .i64 lot, .int .i64 mr, .int .i64 mp] 26))
  clear h
  cases hB : bandB lo hi lot mr mp
  · have hf := Lib.hid (show lcE lo hi lot mr mp n d a = 73 by simp [lcE, hB])
    have HE := Lib.hid (bandE_of hB)
    clear hB
    go_enter Try.func51, Try.ntmps51
    go_wp2_with fail
    refine (liqcheck_any lo hi lot mr mp _).mono ?_
    rw [HE.out, if_neg (by simp)]
    rintro e w1 ⟨rfl, hb⟩
    have hB1 := below_box hb
    go_wp2
    go_ret
    exact ⟨ret_int hf.out.symm, hB1⟩
  have HE := Lib.hid (bandE_of hB)
  have HB := Lib.hid hB
  obtain ⟨p, hp⟩ : ∃ p, anyB (fun j => !inB (a j) (-1000000000000000) 1000000000000000) n = p := ⟨_, rfl⟩
  obtain ⟨q, hq⟩ : ∃ q, ascB n d = q := ⟨_, rfl⟩
  have hf := Lib.hid (show lcE lo hi lot mr mp n d a = if p then 2 else if q then (if 1000 < n then 3 else 0) else 8 by simp only [lcE, hB, hp, hq, if_true])
  have HP := Lib.hid hp
  have HQ := Lib.hid hq
  clear hB hp hq
  cases p
  · cases q
    · go_enter Try.func51, Try.ntmps51
      go_wp2_with fail
      refine (liqcheck_any lo hi lot mr mp _).mono ?_
      rw [HE.out]; rw [if_pos trivial]
      rintro e w1 ⟨rfl, hb⟩
      have hB1 := below_box hb
      have H1 := Lib.hid (H.out.below hb)
      clear hb
      go_wp2_with fail
      refine (posBad_any ao n c d a _ hn H1.out).mono ?_
      rw [HP.out]
      rintro e w2 ⟨rfl, hb2⟩
      have hB2 := hB1.trans (hb2.mono hB1.size)
      have H2 := Lib.hid (H1.out.below hb2)
      clear hb2
      go_wp2_with fail
      refine (pos_days ao n c d a _ hn H2.out).mono ?_
      rintro e w3 ⟨ao', c', rfl, hI, hb3⟩
      have hB3 := hB2.trans (hb3.mono hB2.size)
      clear hb3
      go_wp2_with fail
      refine (ascending_any ao' n c' d _ hn hI).mono ?_
      rw [HQ.out]
      rintro e w4 ⟨rfl, rfl⟩
      go_wp2
      go_ret
      exact ⟨ret_int (by rw [hf.out]; rfl), hB3⟩
    · by_cases hn2 : 1000 < n
      all_goals
        have hf2 := Lib.hid (hf.out.trans (show _ = (if 1000 < n then (3 : Int) else 0) from rfl))
        go_enter Try.func51, Try.ntmps51
        go_wp2_with fail
        refine (liqcheck_any lo hi lot mr mp _).mono ?_
        rw [HE.out]; rw [if_pos trivial]
        rintro e w1 ⟨rfl, hb⟩
        have hB1 := below_box hb
        have H1 := Lib.hid (H.out.below hb)
        clear hb
        go_wp2_with fail
        refine (posBad_any ao n c d a _ hn H1.out).mono ?_
        rw [HP.out]
        rintro e w2 ⟨rfl, hb2⟩
        have hB2 := hB1.trans (hb2.mono hB1.size)
        have H2 := Lib.hid (H1.out.below hb2)
        clear hb2
        go_wp2_with fail
        refine (pos_days ao n c d a _ hn H2.out).mono ?_
        rintro e w3 ⟨ao', c', rfl, hI, hb3⟩
        have hB3 := hB2.trans (hb3.mono hB2.size)
        clear hb3
        go_wp2_with fail
        refine (ascending_any ao' n c' d _ hn hI).mono ?_
        rw [HQ.out]
        rintro e w4 ⟨rfl, rfl⟩
        go_wp2
        go_ret
        refine ⟨ret_int ?_, hB3⟩
        rw [hf2.out]
        first | rw [if_pos hn2] | rw [if_neg hn2]
  · go_enter Try.func51, Try.ntmps51
    go_wp2_with fail
    refine (liqcheck_any lo hi lot mr mp _).mono ?_
    rw [HE.out]; rw [if_pos trivial]
    rintro e w1 ⟨rfl, hb⟩
    have hB1 := below_box hb
    have H1 := Lib.hid (H.out.below hb)
    clear hb
    go_wp2_with fail
    refine (posBad_any ao n c d a _ hn H1.out).mono ?_
    rw [HP.out]
    rintro e w2 ⟨rfl, hb2⟩
    have hB2 := hB1.trans (hb2.mono hB1.size)
    clear hb2
    go_wp2
    go_ret
    exact ⟨ret_int (by rw [hf.out]; rfl), hB2⟩
end Go.Proofs.Ytkkgipcidbgbhaa
