/- The register in plain lists: holdings in order, moves, what is right. No program in sight. -/
import Derived.Test.YthjaofgdickkaaaGreatTypes
import Derived.Test.YthjaofgdickkaaaGreatSec
namespace Go.Proofs.YthjaofgdickkaaaGreat
open Go.RowKit
set_option linter.unusedVariables false

/-- a holding stands ahead of a key -/
def ltK (x : Hold) (s h : Int) : Bool := decide (x.s < s ∨ (x.s = s ∧ x.h < h))
def eqK (x : Hold) (s h : Int) : Bool := decide (x.s = s ∧ x.h = h)
/-- where a key stands in holdings in order -/
def posH : List Hold → Int → Int → Nat
  | [], _, _ => 0
  | x :: L, s, h => if ltK x s h then posH L s h + 1 else 0
/-- what a holder has -/
def heldH : List Hold → Int → Int → Int
  | [], _, _ => 0
  | x :: L, s, h => if eqK x s h then x.a else heldH L s h
/-- what all have of a security -/
def outH : List Hold → Int → Int
  | [], _ => 0
  | x :: L, s => (if x.s = s then x.a else 0) + outH L s
def sumH : List Hold → Int
  | [] => 0
  | x :: L => x.a + sumH L
/-- holdings in order -/
def srtH (L : List Hold) : Prop := L.Pairwise fun x y => x.s < y.s ∨ (x.s = y.s ∧ x.h < y.h)
/-- what a holder has is raised by n -/
def addH : List Hold → Int → Int → Int → List Hold
  | [], s, h, n => if n = 0 then [] else [⟨s, h, n⟩]
  | x :: L, s, h, n =>
    if ltK x s h then x :: addH L s h n
    else if eqK x s h then (if x.a + n = 0 then L else ⟨s, h, x.a + n⟩ :: L)
    else if n = 0 then x :: L else ⟨s, h, n⟩ :: x :: L

theorem ltK_iff {x : Hold} {s h : Int} : ltK x s h = true ↔ x.s < s ∨ (x.s = s ∧ x.h < h) := by simp [ltK]
theorem eqK_iff {x : Hold} {s h : Int} : eqK x s h = true ↔ x.s = s ∧ x.h = h := by simp [eqK]
theorem ltK_not {x : Hold} {s h : Int} : ltK x s h = false ↔ ¬ (x.s < s ∨ (x.s = s ∧ x.h < h)) := by simp [ltK]
theorem eqK_not {x : Hold} {s h : Int} : eqK x s h = false ↔ ¬ (x.s = s ∧ x.h = h) := by simp [eqK]

theorem posH_le : ∀ (L : List Hold) (s h : Int), posH L s h ≤ L.length
  | [], _, _ => Nat.le_refl _
  | x :: L, s, h => by
    have := posH_le L s h
    simp only [posH, List.length_cons]; split <;> omega
/-- ahead of the place all stand ahead -/
theorem posH_lt : ∀ {L : List Hold} {s h : Int} {j : Nat} {x : Hold}, j < posH L s h → L[j]? = some x → ltK x s h = true
  | [], _, _, j, x, hj, hx => by simp [posH] at hj
  | y :: L, s, h, j, x, hj, hx => by
    simp only [posH] at hj
    split at hj
    · rename_i hy
      cases j with
      | zero => simp only [List.getElem?_cons_zero, Option.some.injEq] at hx; subst hx; exact hy
      | succ j => exact posH_lt (L := L) (j := j) (by omega) (by simpa using hx)
    · omega
theorem srtH_tail {x : Hold} {L : List Hold} (h : srtH (x :: L)) : srtH L := (List.pairwise_cons.1 h).2
theorem srtH_head {x : Hold} {L : List Hold} (h : srtH (x :: L)) : ∀ y ∈ L, x.s < y.s ∨ (x.s = y.s ∧ x.h < y.h) := (List.pairwise_cons.1 h).1
/-- from the place on none stands ahead -/
theorem posH_ge : ∀ {L : List Hold} {s h : Int} {j : Nat} {x : Hold}, srtH L → posH L s h ≤ j → L[j]? = some x → ltK x s h = false
  | [], _, _, j, x, _, hj, hx => by simp at hx
  | y :: L, s, h, j, x, hs, hj, hx => by
    simp only [posH] at hj
    split at hj
    · cases j with
      | zero => omega
      | succ j => exact posH_ge (L := L) (j := j) (srtH_tail hs) (by omega) (by simpa using hx)
    · rename_i hy
      cases j with
      | zero => simp only [List.getElem?_cons_zero, Option.some.injEq] at hx; subst hx; simpa using hy
      | succ j =>
        have hm : x ∈ L := List.mem_of_getElem? (by simpa using hx)
        have := srtH_head hs x hm
        rw [Bool.not_eq_true, ltK_not] at hy
        rw [ltK_not]; omega
theorem heldH_pos : ∀ {L : List Hold} {s h : Int}, srtH L → heldH L s h = (match L[posH L s h]? with | some x => if eqK x s h then x.a else 0 | none => 0)
  | [], _, _, _ => rfl
  | y :: L, s, h, hs => by
    have ih := heldH_pos (s := s) (h := h) (srtH_tail hs)
    simp only [heldH, posH]
    cases hl : ltK y s h
    · simp only [Bool.false_eq_true, if_false, List.getElem?_cons_zero]
      cases he : eqK y s h
      · simp only [Bool.false_eq_true, if_false]
        rw [ih]
        cases hq : L[posH L s h]? with
        | none => rfl
        | some x =>
          have hm := List.mem_of_getElem? hq
          have := srtH_head hs x hm
          rw [ltK_not] at hl
          rw [eqK_not] at he
          have : eqK x s h = false := by rw [eqK_not]; omega
          simp [this]
      · simp
    · have he : eqK y s h = false := by rw [ltK_iff] at hl; rw [eqK_not]; omega
      simp only [he, Bool.false_eq_true, if_false, if_true, List.getElem?_cons_succ]
      exact ih
/-- the place when the key is there -/
theorem addH_there : ∀ {L : List Hold} {s h a : Int} (n : Int), L[posH L s h]? = some ⟨s, h, a⟩ →
    addH L s h n = if a + n = 0 then L.take (posH L s h) ++ L.drop (posH L s h + 1) else L.take (posH L s h) ++ ⟨s, h, a + n⟩ :: L.drop (posH L s h + 1)
  | [], _, _, _, _, h => by simp at h
  | y :: L, s, h, a, n, hx => by
    simp only [posH] at hx ⊢
    simp only [addH]
    cases hl : ltK y s h
    · simp only [hl, Bool.false_eq_true, if_false, List.getElem?_cons_zero, Option.some.injEq] at hx ⊢
      subst hx
      simp [eqK]
    · simp only [hl, if_true, List.getElem?_cons_succ] at hx ⊢
      rw [addH_there n hx]
      split <;> simp
theorem addH_new : ∀ {L : List Hold} {s h : Int} (n : Int), (∀ x, L[posH L s h]? = some x → eqK x s h = false) →
    addH L s h n = if n = 0 then L else L.take (posH L s h) ++ ⟨s, h, n⟩ :: L.drop (posH L s h)
  | [], _, _, n, _ => by simp [addH, posH]
  | y :: L, s, h, n, hx => by
    simp only [posH] at hx ⊢
    simp only [addH]
    cases hl : ltK y s h
    · simp only [hl, Bool.false_eq_true, if_false, List.getElem?_cons_zero] at hx ⊢
      rw [hx y rfl]
      simp
    · simp only [hl, if_true, List.getElem?_cons_succ] at hx ⊢
      rw [addH_new n hx]
      split <;> simp
theorem addH_mem : ∀ {L : List Hold} {s h n : Int} {x : Hold}, x ∈ addH L s h n → (x.s = s ∧ x.h = h) ∨ x ∈ L
  | [], s, h, n, x, hx => by
    simp only [addH] at hx
    split at hx
    · simp at hx
    · simp only [List.mem_singleton] at hx; subst hx; exact .inl ⟨rfl, rfl⟩
  | y :: L, s, h, n, x, hx => by
    simp only [addH] at hx
    split at hx
    · rcases List.mem_cons.1 hx with hx | hx
      · exact .inr (by rw [hx]; exact List.mem_cons_self ..)
      · rcases addH_mem hx with h1 | h1
        · exact .inl h1
        · exact .inr (List.mem_cons_of_mem _ h1)
    · split at hx
      · split at hx
        · exact .inr (List.mem_cons_of_mem _ hx)
        · rcases List.mem_cons.1 hx with hx | hx
          · subst hx; exact .inl ⟨rfl, rfl⟩
          · exact .inr (List.mem_cons_of_mem _ hx)
      · split at hx
        · exact .inr hx
        · rcases List.mem_cons.1 hx with hx | hx
          · subst hx; exact .inl ⟨rfl, rfl⟩
          · exact .inr hx
theorem addH_srt : ∀ {L : List Hold} {s h : Int} (n : Int), srtH L → srtH (addH L s h n)
  | [], s, h, n, _ => by
    simp only [addH]; split
    · exact List.Pairwise.nil
    · exact List.pairwise_singleton _ _
  | y :: L, s, h, n, hs => by
    have ht := srtH_tail hs
    have hh := srtH_head hs
    simp only [addH]
    cases hl : ltK y s h
    · simp only [Bool.false_eq_true, if_false]
      rw [ltK_not] at hl
      cases he : eqK y s h
      · simp only [Bool.false_eq_true, if_false]
        rw [eqK_not] at he
        split
        · exact hs
        · refine List.pairwise_cons.2 ⟨fun x hx => ?_, hs⟩
          rcases List.mem_cons.1 hx with hx | hx
          · subst hx; simp only; omega
          · have := hh x hx; simp only; omega
      · simp only [if_true]
        rw [eqK_iff] at he
        split
        · exact ht
        · refine List.pairwise_cons.2 ⟨fun x hx => ?_, ht⟩
          have := hh x hx; simp only; omega
    · simp only [if_true]
      rw [ltK_iff] at hl
      refine List.pairwise_cons.2 ⟨fun x hx => ?_, addH_srt n ht⟩
      rcases addH_mem hx with ⟨h1, h2⟩ | h1
      · rw [h1, h2]; omega
      · exact hh x h1
theorem addH_out : ∀ (L : List Hold) (s h n s' : Int), outH (addH L s h n) s' = outH L s' + if s = s' then n else 0
  | [], s, h, n, s' => by
    simp only [addH]; split
    · rename_i h0; subst h0; simp [outH]
    · simp [outH]
  | y :: L, s, h, n, s' => by
    simp only [addH]
    split
    · simp only [outH, addH_out L s h n s']; omega
    · split
      · rename_i he
        obtain ⟨e1, e2⟩ := eqK_iff.1 he
        split
        · simp only [outH, e1]; split <;> omega
        · simp only [outH, e1]; split <;> omega
      · split
        · rename_i h0; subst h0; simp
        · simp only [outH]; split <;> omega
theorem addH_sum : ∀ (L : List Hold) (s h n : Int), sumH (addH L s h n) = sumH L + n
  | [], s, h, n => by
    simp only [addH]; split
    · rename_i h0; subst h0; simp [sumH]
    · simp [sumH]
  | y :: L, s, h, n => by
    simp only [addH]
    split
    · simp only [sumH, addH_sum L s h n]; omega
    · split
      · split
        · simp only [sumH]; omega
        · simp only [sumH]; omega
      · split
        · rename_i h0; subst h0; simp
        · simp only [sumH]; omega
theorem heldH_out {L : List Hold} {s h : Int} (hm : ∀ y ∈ L, ¬ (y.s = s ∧ y.h = h)) : heldH L s h = 0 := by
  induction L with
  | nil => rfl
  | cons y L ih =>
    simp only [heldH]
    rw [eqK_not.2 (hm y (List.mem_cons_self ..))]
    exact ih fun z hz => hm z (List.mem_cons_of_mem _ hz)
theorem addH_held : ∀ {L : List Hold} {s h : Int} (n s' h' : Int), srtH L → heldH (addH L s h n) s' h' = heldH L s' h' + if s = s' ∧ h = h' then n else 0
  | [], s, h, n, s', h', _ => by
    simp only [addH]; split
    · rename_i h0; subst h0; simp [heldH]
    · by_cases hc : s = s' ∧ h = h' <;> simp [heldH, eqK, hc]
  | y :: L, s, h, n, s', h', hs => by
    have ih := addH_held (L := L) (s := s) (h := h) n s' h' (srtH_tail hs)
    have hh := srtH_head hs
    simp only [addH]
    cases hl : ltK y s h
    · simp only [Bool.false_eq_true, if_false]
      rw [ltK_not] at hl
      cases he : eqK y s h
      · simp only [Bool.false_eq_true, if_false]
        rw [eqK_not] at he
        split
        · rename_i h0; subst h0; simp
        · by_cases hc : s = s' ∧ h = h'
          · obtain ⟨rfl, rfl⟩ := hc
            have h0 : heldH (y :: L) s h = 0 := heldH_out fun x hx => by
              rcases List.mem_cons.1 hx with hx | hx
              · subst hx; exact he
              · have := hh x hx; omega
            rw [h0]
            simp [heldH, eqK]
          · have : eqK ⟨s, h, n⟩ s' h' = false := by rw [eqK_not]; exact hc
            simp [heldH, this, hc]
      · simp only [if_true]
        obtain ⟨e1, e2⟩ := eqK_iff.1 he
        split
        · rename_i h0
          by_cases hc : s = s' ∧ h = h'
          · obtain ⟨rfl, rfl⟩ := hc
            simp only [heldH, he, if_true, and_self]
            rw [heldH_out fun x hx => by have := hh x hx; omega]
            omega
          · have : eqK y s' h' = false := by rw [eqK_not]; omega
            simp [heldH, this, hc]
        · by_cases hc : s = s' ∧ h = h'
          · obtain ⟨rfl, rfl⟩ := hc
            simp [heldH, eqK, e1, e2]
          · have h1 : eqK y s' h' = false := by rw [eqK_not]; omega
            have h2 : eqK ⟨s, h, y.a + n⟩ s' h' = false := by rw [eqK_not]; exact hc
            simp [heldH, h1, h2, hc]
    · simp only [if_true, heldH]
      rw [ltK_iff] at hl
      cases hy : eqK y s' h'
      · simp only [Bool.false_eq_true, if_false]; exact ih
      · rw [eqK_iff] at hy
        simp only [if_true]
        rw [if_neg (by omega)]; omega
theorem addH_len : ∀ (L : List Hold) (s h n : Int), (addH L s h n).length ≤ L.length + 1
  | [], s, h, n => by simp only [addH]; split <;> simp
  | y :: L, s, h, n => by
    have := addH_len L s h n
    simp only [addH]
    repeat' split
    all_goals simp only [List.length_cons]
    all_goals omega
theorem addH_pos : ∀ {L : List Hold} {s h : Int} (n : Int), srtH L → (∀ x ∈ L, 0 < x.a) → 0 ≤ heldH L s h + n → ∀ x ∈ addH L s h n, 0 < x.a
  | [], s, h, n, _, _, h0, x, hx => by
    simp only [heldH] at h0
    simp only [addH] at hx
    split at hx
    · simp at hx
    · simp only [List.mem_singleton] at hx; subst hx; simp only; omega
  | y :: L, s, h, n, hs, hp, h0, x, hx => by
    have hh := srtH_head hs
    simp only [addH] at hx
    simp only [heldH] at h0
    cases hl : ltK y s h
    · rw [ltK_not] at hl
      simp only [ltK_not.2 hl, Bool.false_eq_true, if_false] at hx
      cases he : eqK y s h
      · simp only [he, Bool.false_eq_true, if_false] at hx h0
        rw [eqK_not] at he
        rw [heldH_out fun z hz => by have := hh z hz; omega] at h0
        split at hx
        · exact hp x hx
        · rcases List.mem_cons.1 hx with hx | hx
          · subst hx; simp only; omega
          · exact hp x hx
      · simp only [he, if_true] at hx h0
        split at hx
        · exact hp x (List.mem_cons_of_mem _ hx)
        · rcases List.mem_cons.1 hx with hx | hx
          · subst hx; simp only; omega
          · exact hp x (List.mem_cons_of_mem _ hx)
    · simp only [hl, if_true] at hx
      rw [ltK_iff] at hl
      have he : eqK y s h = false := by rw [eqK_not]; omega
      simp only [he, Bool.false_eq_true, if_false] at h0
      rcases List.mem_cons.1 hx with hx | hx
      · subst hx; exact hp _ (List.mem_cons_self ..)
      · exact addH_pos n (srtH_tail hs) (fun z hz => hp z (List.mem_cons_of_mem _ hz)) h0 x hx
theorem heldH_nonneg {L : List Hold} (hp : ∀ x ∈ L, 0 < x.a) (s h : Int) : 0 ≤ heldH L s h := by
  induction L with
  | nil => exact Int.le_refl _
  | cons y L ih =>
    simp only [heldH]
    split
    · have := hp y (List.mem_cons_self ..); omega
    · exact ih fun z hz => hp z (List.mem_cons_of_mem _ hz)
theorem outH_nonneg {L : List Hold} (hp : ∀ x ∈ L, 0 < x.a) (s : Int) : 0 ≤ outH L s := by
  induction L with
  | nil => exact Int.le_refl _
  | cons y L ih =>
    have := ih fun z hz => hp z (List.mem_cons_of_mem _ hz)
    have := hp y (List.mem_cons_self ..)
    simp only [outH]; split <;> omega
theorem outH_append (L M : List Hold) (s : Int) : outH (L ++ M) s = outH L s + outH M s := by
  induction L with
  | nil => simp [outH]
  | cons y L ih => simp only [List.cons_append, outH, ih]; omega
theorem sumH_append (L M : List Hold) : sumH (L ++ M) = sumH L + sumH M := by
  induction L with
  | nil => simp [sumH]
  | cons y L ih => simp only [List.cons_append, sumH, ih]; omega
theorem mem_le_out {L : List Hold} (hp : ∀ x ∈ L, 0 < x.a) {x : Hold} (hx : x ∈ L) : x.a ≤ outH L x.s := by
  induction L with
  | nil => simp at hx
  | cons y L ih =>
    have hp' : ∀ z ∈ L, 0 < z.a := fun z hz => hp z (List.mem_cons_of_mem _ hz)
    have h0 := hp y (List.mem_cons_self ..)
    simp only [outH]
    rcases List.mem_cons.1 hx with hx | hx
    · subst hx; have := outH_nonneg hp' x.s; simp; omega
    · have := ih hp' hx; split <;> omega
theorem held_le_out {L : List Hold} (hp : ∀ x ∈ L, 0 < x.a) (s h : Int) : heldH L s h ≤ outH L s := by
  induction L with
  | nil => exact Int.le_refl _
  | cons y L ih =>
    have hp' : ∀ z ∈ L, 0 < z.a := fun z hz => hp z (List.mem_cons_of_mem _ hz)
    have h0 := hp y (List.mem_cons_self ..)
    have := ih hp'
    have := outH_nonneg hp' s
    simp only [heldH, outH]
    split
    · rename_i he
      rw [if_pos (eqK_iff.1 he).1]; omega
    · split <;> omega

/-- the holdings of a right register -/
structure HsOk (L : List Hold) : Prop where
  srt : srtH L
  pos : ∀ x ∈ L, 0 < x.a
  out : ∀ s, outH L s ≤ 1000000000000
theorem HsOk.nil : HsOk [] := ⟨List.Pairwise.nil, by simp, fun s => by simp [outH]⟩
theorem HsOk.le {L : List Hold} (h : HsOk L) {x : Hold} (hx : x ∈ L) : x.a ≤ 1000000000000 := Int.le_trans (mem_le_out h.pos hx) (h.out _)

/-- adding to a holder that is 0 does nothing -/
def addZ (L : List Hold) (s h n : Int) : List Hold := if h = 0 then L else addH L s h n
def secOk (s : Sec) : Bool := secB s.id s.un s.is s.ma s.ra s.ev
def findS : List Sec → Int → Option Sec
  | [], _ => none
  | s :: L, id => if s.id = id then some s else findS L id
theorem findS_mem : ∀ {L : List Sec} {id : Int} {s : Sec}, findS L id = some s → s ∈ L ∧ s.id = id
  | [], _, _, h => by simp [findS] at h
  | x :: L, id, s, h => by
    simp only [findS] at h
    split at h
    · cases h; exact ⟨List.mem_cons_self .., by assumption⟩
    · have := findS_mem h; exact ⟨List.mem_cons_of_mem _ this.1, this.2⟩
/-- holders that are not right -/
def strangeB (m : Mv) : Bool :=
  if m.kind = 1 then (m.f != 0 || !inB m.t 1 1000) else if m.kind = 2 then (!inB m.f 1 1000 || !inB m.t 1 1000 || m.f == m.t) else (!inB m.f 1 1000 || m.t != 0)
/-- the error of a move of a security -/
def mvE1 (s : Sec) (hs : List Hold) (day : Int) (m : Mv) : Int :=
  if inB m.day (max day s.is) (if m.kind = 3 then 36000 else s.ma) then
    if 0 < m.a ∧ m.a ≤ 1000000000000 ∧ m.a % s.un = 0 then
      if strangeB m then 6
      else if m.f ≠ 0 ∧ heldH hs m.s m.f < m.a then 77
      else if m.f = 0 ∧ 1000000000000 < outH hs m.s + m.a then 2
      else 0
    else 79
  else 8
def mvE (secs : List Sec) (hs : List Hold) (day : Int) (m : Mv) : Int :=
  match findS secs m.s with
  | none => 76
  | some s => mvE1 s hs day m
def mvH (hs : List Hold) (m : Mv) : List Hold := addZ (addZ hs m.s m.f (-m.a)) m.s m.t m.a
end Go.Proofs.YthjaofgdickkaaaGreat
