/- The contract of Src.Positions. -/
import Derived.Test.YtkkgipcidbgbhaaPlan
import Derived.Test.YtkkgipcidbgbhaaBand
namespace Go.Proofs.Ytkkgipcidbgbhaa
open Go.RowKit
set_option linter.unusedVariables false

/-- the cells of a list of pairs -/
def flat2 : List (Int × Int) → List Value
  | [] => []
  | p :: L => .int .i64 p.1 :: .int .i64 p.2 :: flat2 L
theorem flat2_append (L M : List (Int × Int)) : flat2 (L ++ M) = flat2 L ++ flat2 M := by
  induction L with
  | nil => rfl
  | cons p L ih => simp [flat2, ih]
theorem flat2_length (L : List (Int × Int)) : (flat2 L).length = L.length * 2 := by
  induction L with
  | nil => rfl
  | cons p L ih => simp only [flat2, List.length_cons, ih]; omega
theorem flat2_get (L : List (Int × Int)) : ∀ j, j < L.length → (flat2 L)[j * 2]? = some (.int .i64 (L.getD j (0, 0)).1) ∧ (flat2 L)[j * 2 + 1]? = some (.int .i64 (L.getD j (0, 0)).2) := by
  induction L with
  | nil => intro j hj; simp at hj
  | cons p L ih =>
    intro j hj
    cases j with
    | zero => exact ⟨rfl, rfl⟩
    | succ j =>
      obtain ⟨h1, h2⟩ := ih j (by simpa using hj)
      rw [show (j + 1) * 2 = j * 2 + 1 + 1 by omega]
      refine ⟨?_, ?_⟩
      · simpa [flat2] using h1
      · have : (flat2 (p :: L))[j * 2 + 1 + 1 + 1]? = (flat2 L)[j * 2 + 1]? := by simp [flat2]
        rw [this, h2]; rfl
/-- the families of a list of pairs -/
def pd2 (L : List (Int × Int)) (j : Nat) : Int := (L.getD j (0, 0)).1
def pa2 (L : List (Int × Int)) (j : Nat) : Int := (L.getD j (0, 0)).2
theorem posAt_own {w : World} {base : Nat} {e : TypeId} {v : Value} {L : List (Int × Int)} (h : w.ownsRow base e 2 v L.length (flat2 L)) : ∃ ao c, v = .slice ao L.length c ∧ PosAt w ao L.length c (pd2 L) (pa2 L) ∧ ∀ b off, ao = some ⟨b, off, none⟩ → base ≤ b := by
  rcases Nat.eq_zero_or_pos L.length with h0 | h0
  · rcases h.2 with ⟨hv, hn⟩ | ⟨g, cap, cur, hv, hbg, hg, hnc, hcm, hcs, htake⟩
    · exact ⟨none, 0, by rw [hv, hn], by rw [hn]; exact ⟨Nat.le_refl _, Nat.zero_le _, .inl rfl⟩, by rintro b off ⟨⟩⟩
    · exact ⟨_, cap, hv, ⟨hnc, hcm, .inl h0⟩, by rintro b off ⟨⟩; exact hbg⟩
  · obtain ⟨g, cap, hv, hg, hg2, hc1, hc2, hcell, _⟩ := own_shape_n h h0
    refine ⟨_, cap, hv, ⟨hc1, hc2, .inr ⟨g, 0, rfl, fun j hj => ?_⟩⟩, by rintro b off ⟨⟩; exact hg⟩
    obtain ⟨q1, q2⟩ := flat2_get L j hj
    rw [Nat.zero_add]
    exact ⟨hcell _ _ q1, hcell _ _ q2⟩
theorem news2 (w : World) (a b : Value) (t : TypeId) : ∀ j u, [a, b][j]? = some u → (w.alloc (.cells #[a, b] t)).cell? ((⟨w.heap.size, 0, none⟩ : Addr).add j) = some u := by
  intro j u hj
  match j, hj with
  | 0, hj => simp only [List.getElem?_cons_zero, Option.some.injEq] at hj; subst hj; simp [Addr.add]
  | 1, hj => simp only [List.getElem?_cons_succ, List.getElem?_cons_zero, Option.some.injEq] at hj; subst hj; simp [Addr.add]
theorem one2 (a b : Int) : ∀ u ∈ [Value.int .i64 a, .int .i64 b], u.oneCell' = true := by
  intro u hu
  simp only [List.mem_cons, List.not_mem_nil, or_false] at hu
  rcases hu with rfl | rfl <;> rfl
theorem infoPos : (Try.prog.info? 35).map (fun i => (i.zero, i.size, i.bytes)) = some (some (.agg #[.int .i64 0, .int .i64 0]), 2, 16) := by kernel_rfl

/-- positions up to a day -/
def PosUp (L : List (Int × Int)) (dy : Int) : Prop :=
  (∀ j, j < L.length → 1 ≤ pd2 L j ∧ pd2 L j ≤ dy ∧ -300 ≤ pa2 L j ∧ pa2 L j ≤ 300 ∧ (0 < j → pd2 L (j - 1) < pd2 L j)) ∧ 0 ≤ dy ∧ dy ≤ 3 * (L.length : Int)
theorem posUp_nil : PosUp [] 0 := ⟨fun j hj => by simp at hj, by omega, by simp⟩
theorem posUp_put {L : List (Int × Int)} {dy r a : Int} (h : PosUp L dy) (h1 : 1 ≤ r) (h2 : r ≤ 3) (h3 : -300 ≤ a) (h4 : a ≤ 300) : PosUp (L ++ [(dy + r, a)]) (dy + r) := by
  obtain ⟨hl, h0, hd⟩ := h
  have g1 : ∀ j, j < L.length → pd2 (L ++ [(dy + r, a)]) j = pd2 L j ∧ pa2 (L ++ [(dy + r, a)]) j = pa2 L j := fun j hj => by
    unfold pd2 pa2
    simp only [List.getD_eq_getElem?_getD, List.getElem?_append_left hj, and_self]
  have g2 : pd2 (L ++ [(dy + r, a)]) L.length = dy + r ∧ pa2 (L ++ [(dy + r, a)]) L.length = a := by simp [pd2, pa2]
  refine ⟨fun j hj => ?_, by omega, by simp; omega⟩
  have hj' : j < L.length + 1 := by simpa using hj
  rcases Nat.lt_or_ge j L.length with h | h
  · obtain ⟨e1, e2⟩ := g1 j h
    rw [e1, e2]
    obtain ⟨q1, q2, q3, q4, q5⟩ := hl j h
    refine ⟨q1, by omega, q3, q4, fun hp => ?_⟩
    rw [(g1 (j - 1) (by omega)).1]
    exact q5 hp
  · have : j = L.length := by omega
    subst this
    rw [g2.1, g2.2]
    refine ⟨by omega, by omega, h3, h4, fun hp => ?_⟩
    rw [(g1 (L.length - 1) (by omega)).1]
    have := hl (L.length - 1) (by omega)
    omega
theorem posUp_asc {L : List (Int × Int)} {dy : Int} (h : PosUp L dy) (hl : L.length ≤ 1000) : ascB L.length (pd2 L) = true :=
  ascB_yes fun i hi => by
    obtain ⟨q1, q2, q3, q4, q5⟩ := h.1 i hi
    exact ⟨inB_iff.2 (by have := h.2.2; omega), q5⟩
/-- what Positions leaves -/
def Posed (most sb : Nat) (w : World) (e : Ending) (w' : World) : Prop :=
  ∃ (L : List (Int × Int)) (dy : Int) (ao : Option Addr) (c : Nat), e = .returned (.slice ao L.length c) ∧ L.length ≤ most ∧ PosUp L dy ∧ PosAt w' ao L.length c (pd2 L) (pa2 L) ∧ (∀ b off, ao = some ⟨b, off, none⟩ → w.heap.size ≤ b) ∧ SrcOk w' sb ∧ w.grownBy w' (some sb)

theorem grown_below {w w1 w2 : World} {row : Option Nat} (h : w.grownBy w1 row) (hb : Below w.heap.size w1 w2) : w.grownBy w2 row :=
  ⟨hb.os.trans h.os, hb.tape.trans h.tape, hb.output.trans h.output, Nat.le_trans h.size hb.size, fun k hk hne => (hb.block k hk).trans (h.block k hk hne)⟩
theorem ownsRow_grown {w w' : World} {base sb : Nat} {e : TypeId} {size : Nat} {v : Value} {n : Nat} {xs : List Value} (h : w.ownsRow base e size v n xs) (hg : w.grownBy w' (some sb)) (hs : sb < base) : w'.ownsRow base e size v n xs := by
  refine ⟨h.1, ?_⟩
  rcases h.2 with hn | ⟨g, cap, cur, rfl, hbg, hgg, rest⟩
  · exact .inl hn
  · exact .inr ⟨g, cap, cur, rfl, hbg, (hg.block g (Array.getElem?_eq_some_iff.1 hgg).1 (by simp; omega)).trans hgg, rest⟩

set_option maxHeartbeats 1000000 in
theorem positions_any (sb most : Nat) (w : World) (hs : SrcOk w sb) (hm : most ≤ 1000) :
    Calls Try.prog 11 #[.pointer (some ⟨sb, 0, none⟩), .int .i64 most] w (Posed most sb w) := by
  have hlt := srcOk_lt hs
  obtain ⟨i1, hi', iz0, iz1, iz2⟩ := info_parts infoPos
  go_enter Try.func11, Try.ntmps11
  go_wp2_with fail
  refine (n_any sb _ _ hs (by omega)).mono ?_
  rintro e w1 ⟨n0, ⟨n1, n2⟩, rfl, hS1, hG1⟩
  have n3 : n0 ≤ most := by omega
  clear n2
  go_wp2
  go_loopw [5, 6, 7] (fun v dv kv wr => ∃ (L : List (Int × Int)) (k : Nat) (dy : Int), kv = .int .i64 k ∧ dv = .int .i64 dy ∧ L.length + k ≤ most ∧ PosUp L dy ∧ wr.ownsRow w.heap.size 35 2 v L.length (flat2 L) ∧ SrcOk wr sb ∧ w.grownBy wr (some sb)) (fun _ _ kv _ => (intOf kv).toNat)
  case atStart =>
    obtain ⟨k, rfl⟩ := Int.eq_ofNat_of_zero_le n1
    exact ⟨[], k, 0, rfl, rfl, by show 0 + k ≤ most; omega, posUp_nil, World.ownsRow_nil _ _ _ _, hS1, hG1⟩
  case round =>
    obtain ⟨L, k, dy, rfl, rfl, hk, hU, hown, hSr, hGr⟩ := hrel
    have d0 := hU.2.1
    have d1 := hU.2.2
    have HU := Lib.hid hU
    clear hU
    by_cases hk0 : 0 < k
    · obtain ⟨m, rfl⟩ : ∃ m, k = m + 1 := ⟨k - 1, by omega⟩
      clear hk0
      go_wp2_with fail
      refine (range_any sb _ _ _ hSr (by omega) (by omega) (by omega)).mono ?_
      rintro e w2 ⟨r, ⟨r0, r1⟩, rfl, hS2, hG2⟩
      have hown2 := ownsRow_grown hown hG2 hlt
      have g2 := grownBy_trans hGr hG2
      clear hown hSr hGr hG2
      go_wp2_with fail
      refine (range_any sb _ _ _ hS2 (by omega) (by omega) (by omega)).mono ?_
      rintro e w3 ⟨a, ⟨a0, a1⟩, rfl, hS3, hG3⟩
      have hown3 := ownsRow_grown hown2 hG3 hlt
      have g3 := grownBy_trans g2 hG3
      have z3 := g3.size
      clear hown2 hS2 g2 hG3
      go_wp2_with (at_builtin; go_loud (refine wpList_append_own _ rfl _ _ 28 rfl w.heap.size 35 i1 (.agg #[.int .i64 0, .int .i64 0]) 2 16 Try.underlying28 hi' iz0 iz1 iz2 rfl (by decide) _ _ _ rfl (hown3.alloc _) ⟨w3.heap.size, 0, none⟩ 1 1 [.int .i64 (dy + r), .int .i64 a] rfl rfl (news2 _ _ _ _) (one2 _ _) (by unfold maxLen; omega) (by omega) (by simp; omega) ?_); intro v' w4 hown' hgrow _)
      have hB4 : Below w.heap.size w3 w4 := ((Below.refl _ _).alloc z3 _).grown hgrow (by simp; omega) (fun q hq => (hown3.lt q hq).1)
      go_wp2
      go_roundw
      case rel => exact ⟨L ++ [(dy + r, a)], m, dy + r, by go_num, by go_num, by simp; omega, posUp_put HU.out r0 r1 a0 a1, by rw [flat2_append, List.length_append]; exact hown', srcOk_below hS3 hB4 hlt, grown_below g3 hB4⟩
      case measure => simp [intOf]
    · obtain ⟨ao, c, hv, hP, hao⟩ := posAt_own hown
      rw [hv]
      go_wp2
      go_ret
      exact ⟨L, dy, ao, c, rfl, by omega, HU.out, hP, hao, hSr, hGr⟩
theorem PosAt.grown {w w' : World} {ao : Option Addr} {n c sb : Nat} {d a : Nat → Int} (h : PosAt w ao n c d a) (hg : w.grownBy w' (some sb)) (hne : ∀ b off, ao = some ⟨b, off, none⟩ → b ≠ sb) : PosAt w' ao n c d a := by
  obtain ⟨h1, h2, h3⟩ := h
  refine ⟨h1, h2, ?_⟩
  rcases h3 with h3 | ⟨b, off, k1, k2⟩
  · exact .inl h3
  · refine .inr ⟨b, off, k1, fun j hj => ?_⟩
    have q := k2 j hj
    have hb := hne b off k1
    exact ⟨hg.cell q.1 (by simpa using hb), hg.cell q.2 (by simpa using hb)⟩
end Go.Proofs.Ytkkgipcidbgbhaa
