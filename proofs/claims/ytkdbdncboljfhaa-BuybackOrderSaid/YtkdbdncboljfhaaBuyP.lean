/- Buyback: Hold, plain. -/
import Derived.Test.YtkdbdncboljfhaaBuyS
import Derived.Test.YtkdbdncboljfhaaConc
import Derived.Test.YtkdbdncboljfhaaSrtW
import Derived.Test.YtkdbdncboljfhaaMonC
namespace Go.Proofs.Ytkdbdncboljfhaa
open Go.RowKit
set_option linter.unusedVariables false
set_option linter.unusedSimpArgs false
/-- a number more in the last row -/
def addLast (R : List (List Int)) (v : Int) : List (List Int) := match R.getLast? with
  | some r => R.dropLast ++ [r ++ [v]]
  | none => R
theorem addLast_snoc (R : List (List Int)) (r : List Int) (v : Int) : addLast (R ++ [r]) v = R ++ [r ++ [v]] := by simp [addLast]
/-- a new rank begins with the element k -/
def newB (P : List Tdr) (k : Nat) : Bool := match P[k]?, P[k - 1]? with
  | some x, some y => k == 0 || !(y.p == x.p)
  | _, _ => true
/-- the ranks of the first k tenders -/
def rkT (P : List Tdr) : Nat → List (List Int)
  | 0 => []
  | k + 1 => match P[k]? with
    | some x => if newB P k then rkT P k ++ [[x.a / 1000]] else addLast (rkT P k) (x.a / 1000)
    | none => rkT P k
theorem rkT_new {P : List Tdr} {k : Nat} {x : Tdr} (h : P[k]? = some x) (hn : newB P k = true) : rkT P (k + 1) = rkT P k ++ [[x.a / 1000]] := by rw [rkT, h]; simp only; rw [if_pos hn]
theorem rkT_old {P : List Tdr} {k : Nat} {x : Tdr} (h : P[k]? = some x) (hn : newB P k = false) : rkT P (k + 1) = addLast (rkT P k) (x.a / 1000) := by rw [rkT, h]; simp only; rw [if_neg (by rw [hn]; decide)]
theorem newB_zero (P : List Tdr) : newB P 0 = true := by
  unfold newB
  cases P[0]? <;> simp
theorem rkT_ne {P : List Tdr} : ∀ {k : Nat}, 0 < k → k ≤ P.length → rkT P k ≠ []
  | 0, h, _ => by omega
  | k + 1, _, hk => by
    obtain ⟨x, hx⟩ : ∃ x, P[k]? = some x := ⟨_, List.getElem?_eq_getElem (by omega)⟩
    cases hn : newB P k with
    | true => rw [rkT_new hx hn]; simp
    | false =>
      rw [rkT_old hx hn]
      have h0 : 0 < k := by
        rcases Nat.eq_zero_or_pos k with h | h
        · subst h; rw [newB_zero] at hn; cases hn
        · exact h
      have := rkT_ne (P := P) h0 (by omega)
      obtain ⟨R, r, e⟩ : ∃ R r, rkT P k = R ++ [r] := ⟨_, _, (List.dropLast_concat_getLast this).symm⟩
      rw [e, addLast_snoc]; simp
/-- what the ranks are -/
structure RkS (P : List Tdr) (k : Nat) (R : List (List Int)) : Prop where
  n : R.length ≤ k
  l : ∀ r ∈ R, r.length ≤ k
  ne : ∀ r ∈ R, r ≠ []
  f : R.flatten = (P.take k).map fun x => x.a / 1000
theorem rkT_ok {P : List Tdr} : ∀ k, k ≤ P.length → RkS P k (rkT P k)
  | 0, _ => ⟨by simp [rkT], fun r h => by simp [rkT] at h, fun r h => by simp [rkT] at h, by simp [rkT]⟩
  | k + 1, hk => by
    obtain ⟨i1, i2, i3, i4⟩ := rkT_ok (P := P) k (by omega)
    obtain ⟨x, hx⟩ : ∃ x, P[k]? = some x := ⟨_, List.getElem?_eq_getElem (by omega)⟩
    cases hn : newB P k with
    | true =>
      rw [rkT_new hx hn]
      refine ⟨by simp; omega, fun r h => ?_, fun r h => ?_, by rw [List.flatten_append, i4, take_snocZ hx]; simp⟩
      · rw [List.mem_append] at h
        rcases h with h | h
        · have := i2 r h; omega
        · simp only [List.mem_singleton] at h; subst h; simp
      · rw [List.mem_append] at h
        rcases h with h | h
        · exact i3 r h
        · simp only [List.mem_singleton] at h; subst h; simp
    | false =>
      rw [rkT_old hx hn]
      have h0 : 0 < k := by
        rcases Nat.eq_zero_or_pos k with h | h
        · subst h; rw [newB_zero] at hn; cases hn
        · exact h
      have hne := rkT_ne h0 (show k ≤ P.length by omega)
      obtain ⟨R, r, e⟩ : ∃ R r, rkT P k = R ++ [r] := ⟨_, _, (List.dropLast_concat_getLast hne).symm⟩
      rw [e] at i1 i2 i3 i4
      rw [e, addLast_snoc]
      refine ⟨by simp at i1 ⊢; omega, fun q h => ?_, fun q h => ?_, ?_⟩
      · rw [List.mem_append] at h
        rcases h with h | h
        · have := i2 q (by simp [h]); omega
        · simp only [List.mem_singleton] at h; subst h
          have := i2 r (by simp)
          simp; omega
      · rw [List.mem_append] at h
        rcases h with h | h
        · exact i3 q (by simp [h])
        · simp only [List.mem_singleton] at h; subst h; simp
      · rw [take_snocZ hx, List.map_append, ← i4]; simp
theorem rkT_ranks {P : List Tdr} (hP : ∀ x ∈ P, 1000 ≤ x.a ∧ x.a ≤ 1000000000) (hl : P.length ≤ 60) : RanksOk (rkT P P.length) := by
  obtain ⟨i1, i2, i3, i4⟩ := rkT_ok (P := P) P.length (Nat.le_refl _)
  refine ⟨by omega, fun r h => by have := i2 r h; omega, fun r h x hx => ?_⟩
  have : x ∈ (rkT P P.length).flatten := List.mem_flatten.2 ⟨r, h, hx⟩
  rw [i4, List.take_length] at this
  obtain ⟨y, hy, rfl⟩ := List.mem_map.1 this
  have := hP y hy
  omega
/-! what is served -/
theorem parts_okB {left : Int} {r : List Int} (h0 : 0 ≤ left) (h1 : left ≤ 1000000) (hl : r.length ≤ 100) (hb : ∀ x ∈ r, 0 ≤ x ∧ x ≤ 1000000) (hlt : left < sumI r) : PartsFair left r (partsL left r) := by
  have hpe : partsE left r = 0 := by
    unfold partsE
    rw [inB_iff.2 ⟨h0, by omega⟩, if_pos rfl, if_neg (by
      rw [Bool.not_eq_true, List.any_eq_false]
      intro x hx
      obtain ⟨x0, x1⟩ := hb x hx
      unfold wgB
      rw [inB_iff.2 ⟨x0, x1⟩]; simp), if_neg (by omega), if_neg (by omega)]
  unfold partsL
  rw [if_pos hpe]
  exact parts_fair h0 (by omega) fun w hw => (hb w hw).1
theorem parts_leB {t : Int} {W p : List Int} (h : PartsFair t W p) (h0 : 0 ≤ t) (hlt : t < sumI W) (hw : ∀ w ∈ W, 0 ≤ w) {k : Nat} {v : Int} (hv : W[k]? = some v) : ∃ x, p[k]? = some x ∧ 0 ≤ x ∧ x ≤ v := by
  obtain ⟨x, hx, h1, h2, h3, h4⟩ := h.get k v hv
  have hv0 := hw v (List.mem_of_getElem? hv)
  have hx0 := h.nonneg h0 (by omega) hw x (List.mem_of_getElem? hx)
  refine ⟨x, hx, hx0, ?_⟩
  rcases Int.lt_or_eq_of_le hv0 with hv1 | hv1
  · have hm : t * v < v * sumI W := by rw [Int.mul_comm t]; exact Int.mul_lt_mul_of_pos_left hlt hv1
    have : t * v / sumI W < v := by rw [Int.ediv_lt_iff_lt_mul (by omega)]; exact hm
    omega
  · have := h4 hv1.symm; omega
def svd (t : Int) (r : List Int) : List Int := if t < sumI r then partsL t r else r
structure SvdOk (t : Int) (r p : List Int) : Prop where
  len : p.length = r.length
  le : ∀ (j : Nat) (v : Int), r[j]? = some v → ∃ x, p[j]? = some x ∧ 0 ≤ x ∧ x ≤ v
  sum : sumI p = min t (sumI r)
theorem svd_okB {t : Int} {r : List Int} (h0 : 0 ≤ t) (h1 : t ≤ 1000000) (hl : r.length ≤ 100) (hb : ∀ x ∈ r, 0 ≤ x ∧ x ≤ 1000000) : SvdOk t r (svd t r) := by
  unfold svd
  by_cases h : t < sumI r
  · rw [if_pos h]
    have hf := parts_okB h0 h1 hl hb h
    exact ⟨hf.len, fun j v hv => parts_leB hf h0 h (fun w hw => (hb w hw).1) hv, by rw [hf.sum]; omega⟩
  · rw [if_neg h]
    exact ⟨rfl, fun j v hv => ⟨v, hv, (hb v (List.mem_of_getElem? hv)).1, Int.le_refl _⟩, by omega⟩
/-- lists of the same length, each element between 0 and the other's -/
inductive Under : List Int → List Int → Prop
  | nil : Under [] []
  | cons {x v : Int} {p r : List Int} (h0 : 0 ≤ x) (h1 : x ≤ v) (h : Under p r) : Under (x :: p) (v :: r)
theorem Under.app {p r q s : List Int} (h : Under p r) (k : Under q s) : Under (p ++ q) (r ++ s) := by
  induction h with
  | nil => exact k
  | cons h0 h1 _ ih => exact .cons h0 h1 ih
theorem Under.of : ∀ {p r : List Int}, p.length = r.length → (∀ (j : Nat) (v : Int), r[j]? = some v → ∃ x, p[j]? = some x ∧ 0 ≤ x ∧ x ≤ v) → Under p r
  | [], [], _, _ => .nil
  | [], _ :: _, h, _ => by simp at h
  | _ :: _, [], h, _ => by simp at h
  | x :: p, v :: r, hl, h => by
    obtain ⟨y, hy, y0, y1⟩ := h 0 v rfl
    simp only [List.getElem?_cons_zero, Option.some.injEq] at hy
    subst hy
    exact .cons y0 y1 (Under.of (by simpa using hl) fun j u hu => by
      obtain ⟨z, hz, z0, z1⟩ := h (j + 1) u (by simpa using hu)
      exact ⟨z, by simpa using hz, z0, z1⟩)
theorem Under.len {p r : List Int} (h : Under p r) : p.length = r.length := by
  induction h with
  | nil => rfl
  | cons _ _ _ ih => simp [ih]
theorem Under.get {p r : List Int} (h : Under p r) : ∀ {k : Nat} {v : Int}, r[k]? = some v → ∃ x, p[k]? = some x ∧ 0 ≤ x ∧ x ≤ v := by
  induction h with
  | nil => intro k v h; simp at h
  | cons h0 h1 _ ih =>
    intro k v hv
    cases k with
    | zero => simp only [List.getElem?_cons_zero, Option.some.injEq] at hv; subst hv; exact ⟨_, rfl, h0, h1⟩
    | succ k => exact ih (by simpa using hv)
theorem srv_flat : ∀ (RR : List (List Int)) (left : Int), RanksOk RR → 0 ≤ left → left ≤ 1000000 → Under (srvL left RR).flatten RR.flatten ∧ sumI (srvL left RR).flatten = min left (sumI RR.flatten)
  | [], left, _, h0, _ => ⟨.nil, by simp [srvL, sumI]; omega⟩
  | r :: RR, left, hR, h0, h1 => by
    have hb := hR.b r (by simp)
    have hk := hR.k r (by simp)
    have o := svd_okB h0 h1 hk hb
    have s0 : 0 ≤ sumI r := sumI_nonneg fun x hx => (hb x hx).1
    have s1 : 0 ≤ sumI RR.flatten := sumI_nonneg fun x hx => by
      obtain ⟨g, hg, hx⟩ := List.mem_flatten.1 hx
      exact (hR.b g (by simp [hg]) x hx).1
    obtain ⟨u, s⟩ := srv_flat RR (left - min left (sumI r)) ⟨by have := hR.n; simp at this; omega, fun q hq => hR.k q (by simp [hq]), fun q hq => hR.b q (by simp [hq])⟩ (by omega) (by omega)
    refine ⟨?_, ?_⟩
    · simp only [srvL, List.flatten_cons]
      exact (Under.of o.len o.le).app u
    · simp only [srvL, List.flatten_cons, sumI_append]
      rw [s]
      have : sumI (if left < sumI r then partsL left r else r) = min left (sumI r) := o.sum
      rw [this]; omega
theorem srv_rows : ∀ (RR : List (List Int)) (left : Int), RanksOk RR → 0 ≤ left → left ≤ 1000000 → (srvL left RR).length = RR.length ∧ ∀ p ∈ srvL left RR, ∃ r ∈ RR, p.length = r.length
  | [], left, _, _, _ => ⟨rfl, fun p h => by simp [srvL] at h⟩
  | r :: RR, left, hR, h0, h1 => by
    have hb := hR.b r (by simp)
    have hk := hR.k r (by simp)
    have o := svd_okB h0 h1 hk hb
    have s0 : 0 ≤ sumI r := sumI_nonneg fun x hx => (hb x hx).1
    obtain ⟨u, s⟩ := srv_rows RR (left - min left (sumI r)) ⟨by have := hR.n; simp at this; omega, fun q hq => hR.k q (by simp [hq]), fun q hq => hR.b q (by simp [hq])⟩ (by omega) (by omega)
    refine ⟨by simp [srvL, u], fun p hp => ?_⟩
    simp only [srvL, List.mem_cons] at hp
    rcases hp with rfl | hp
    · exact ⟨r, by simp, o.len⟩
    · obtain ⟨q, hq, e⟩ := s p hp
      exact ⟨q, by simp [hq], e⟩
/-! the awards -/
def wdT (P : List Tdr) (F : List Int) : Nat → List Awd
  | 0 => []
  | k + 1 => match P[k]?, F[k]? with
    | some x, some g => if g = 0 then wdT P F k else wdT P F k ++ [⟨x.h, x.n, g * 1000, x.p⟩]
    | _, _ => wdT P F k
def ctT (P : List Tdr) (F : List Int) : Nat → Int
  | 0 => 0
  | k + 1 => match P[k]?, F[k]? with
    | some x, some g => if g = 0 then ctT P F k else x.p
    | _, _ => ctT P F k
def slT (F : List Int) : Nat → Int
  | 0 => 0
  | k + 1 => match F[k]? with
    | some g => if g = 0 then slT F k else slT F k + g * 1000
    | none => slT F k
theorem wdT_zero {P : List Tdr} {F : List Int} {k : Nat} (h : F[k]? = some 0) : wdT P F (k + 1) = wdT P F k ∧ ctT P F (k + 1) = ctT P F k ∧ slT F (k + 1) = slT F k := by
  cases hx : P[k]? with
  | none => rw [wdT, ctT, slT, h, hx]; simp
  | some x => rw [wdT, ctT, slT, h, hx]; simp
theorem wdT_more {P : List Tdr} {F : List Int} {k : Nat} {x : Tdr} {g : Int} (hx : P[k]? = some x) (h : F[k]? = some g) (h0 : g ≠ 0) : wdT P F (k + 1) = wdT P F k ++ [⟨x.h, x.n, g * 1000, x.p⟩] ∧ ctT P F (k + 1) = x.p ∧ slT F (k + 1) = slT F k + g * 1000 := by
  rw [wdT, ctT, slT, h, hx]; simp [h0]
theorem wdT_len (P : List Tdr) (F : List Int) : ∀ k, (wdT P F k).length ≤ k
  | 0 => by simp [wdT]
  | k + 1 => by
    have ih := wdT_len P F k
    rw [wdT]
    split
    · split
      · omega
      · simp; omega
    · omega
theorem slT_bd {F : List Int} (h : ∀ x ∈ F, 0 ≤ x ∧ x ≤ 1000000) : ∀ k : Nat, 0 ≤ slT F k ∧ slT F k ≤ k * 1000000000
  | 0 => by simp [slT]
  | k + 1 => by
    have ih := slT_bd h k
    cases hg : F[k]? with
    | none => rw [slT, hg]; simp only; omega
    | some g =>
      have := h g (List.mem_of_getElem? hg)
      rw [slT, hg]; simp only
      split <;> omega
/-- what Hold does -/
def bkP (L : List Tdr) (most : Int) : List Tdr := srt (ltz cmpQ) ((srT L).filter fun x => !decide (most < x.p))
def bkF (L : List Tdr) (n most : Int) : List Int := (srvL (n / 1000) (rkT (bkP L most) (bkP L most).length)).flatten
def bkC (L : List Tdr) (n most : Int) : Int := ctT (bkP L most) (bkF L n most) (bkP L most).length
def bkS (L : List Tdr) (n most : Int) : Int := slT (bkF L n most) (bkP L most).length
def bkA (L : List Tdr) (n most : Int) : List Awd := srt (ltz cmpW) (wdT (bkP L most) (bkF L n most) (bkP L most).length)
end Go.Proofs.Ytkdbdncboljfhaa
