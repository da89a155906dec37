/- Strips in plain lists: strips in order. No program in sight. Printed by wip/gen/stp.py. Strips: kind, holder, unit, sum. cmp.Or at any numbers; the comparison of strips; searching strips. slices.Insert (one element) and slices.Delete (one element) at rows that the call owns. Printed by wip/gen/ins.py. Strips: searching, held, add. Strips: add. -/
import Derived.Test.YthhoaefadfeknaaGreatZRegP
import Derived.Test.YthhoaefadfeknaaGreatZRegE
import Derived.BigQuiet
import Derived.Test.YthhoaefadfeknaaGreatZFnStp
import Derived.Test.YthhoaefadfeknaaGreatZSortR
namespace Go.Proofs.YthhoaefadfeknaaGreat
open Go.RowKit
set_option linter.unusedVariables false

/-- the number of a kind -/
def kd (p : Bool) : Int := if p then 1 else 0
theorem kd_inj {p q : Bool} (h : kd p = kd q) : p = q := by cases p <;> cases q <;> simp_all [kd]
/-- a strip stands ahead of a key -/
def ltS (x : Stp) (s d : Int) (p : Bool) (h : Int) : Bool := decide (x.s < s ∨ (x.s = s ∧ (x.d < d ∨ (x.d = d ∧ (kd x.p < kd p ∨ (kd x.p = kd p ∧ x.h < h))))))
def eqS (x : Stp) (s d : Int) (p : Bool) (h : Int) : Bool := decide (x.s = s ∧ x.d = d ∧ kd x.p = kd p ∧ x.h = h)
/-- where a key stands in strips in order -/
def posP : List Stp → Int → Int → Bool → Int → Nat
  | [], _, _, _, _ => 0
  | x :: L, s, d, p, h => if ltS x s d p h then posP L s d p h + 1 else 0
/-- what a holder has -/
def heldP : List Stp → Int → Int → Bool → Int → Int
  | [], _, _, _, _ => 0
  | x :: L, s, d, p, h => if eqS x s d p h then x.a else heldP L s d p h
/-- the strips of a security, a day and a kind -/
def sumP : List Stp → Int → Int → Bool → Int
  | [], _, _, _ => 0
  | x :: L, s, d, p => (if x.s = s ∧ x.d = d ∧ x.p = p then x.a else 0) + sumP L s d p
/-- strips in order -/
def srtP (L : List Stp) : Prop := L.Pairwise fun x y => x.s < y.s ∨ (x.s = y.s ∧ (x.d < y.d ∨ (x.d = y.d ∧ (kd x.p < kd y.p ∨ (kd x.p = kd y.p ∧ x.h < y.h)))))
/-- what a holder has is raised by n -/
def addP : List Stp → Int → Int → Bool → Int → Int → List Stp
  | [], s, d, p, h, n => if n = 0 then [] else [⟨s, d, p, h, n⟩]
  | x :: L, s, d, p, h, n =>
    if ltS x s d p h then x :: addP L s d p h n
    else if eqS x s d p h then (if x.a + n = 0 then L else ⟨s, d, p, h, x.a + n⟩ :: L)
    else if n = 0 then x :: L else ⟨s, d, p, h, n⟩ :: x :: L

theorem ltS_iff {x : Stp} {s d : Int} {p : Bool} {h : Int} : ltS x s d p h = true ↔ x.s < s ∨ (x.s = s ∧ (x.d < d ∨ (x.d = d ∧ (kd x.p < kd p ∨ (kd x.p = kd p ∧ x.h < h))))) := by simp [ltS]
theorem eqS_iff {x : Stp} {s d : Int} {p : Bool} {h : Int} : eqS x s d p h = true ↔ x.s = s ∧ x.d = d ∧ kd x.p = kd p ∧ x.h = h := by simp [eqS]
theorem ltS_not {x : Stp} {s d : Int} {p : Bool} {h : Int} : ltS x s d p h = false ↔ ¬ (x.s < s ∨ (x.s = s ∧ (x.d < d ∨ (x.d = d ∧ (kd x.p < kd p ∨ (kd x.p = kd p ∧ x.h < h)))))) := by simp only [ltS, decide_eq_false_iff_not]
theorem eqS_not {x : Stp} {s d : Int} {p : Bool} {h : Int} : eqS x s d p h = false ↔ ¬ (x.s = s ∧ x.d = d ∧ kd x.p = kd p ∧ x.h = h) := by simp only [eqS, decide_eq_false_iff_not]

theorem posP_le : ∀ (L : List Stp) (s d : Int) (p : Bool) (h : Int), posP L s d p h ≤ L.length
  | [], _, _, _, _ => Nat.le_refl _
  | x :: L, s, d, p, h => by
    have := posP_le L s d p h
    simp only [posP, List.length_cons]; split <;> omega
/-- ahead of the place all stand ahead -/
theorem posP_lt : ∀ {L : List Stp} {s d : Int} {p : Bool} {h : Int} {j : Nat} {x : Stp}, j < posP L s d p h → L[j]? = some x → ltS x s d p h = true
  | [], _, _, _, _, j, x, hj, hx => by simp [posP] at hj
  | y :: L, s, d, p, h, j, x, hj, hx => by
    simp only [posP] at hj
    split at hj
    · rename_i hy
      cases j with
      | zero => simp only [List.getElem?_cons_zero, Option.some.injEq] at hx; subst hx; exact hy
      | succ j => exact posP_lt (L := L) (j := j) (by omega) (by simpa using hx)
    · omega
theorem srtP_tail {x : Stp} {L : List Stp} (h : srtP (x :: L)) : srtP L := (List.pairwise_cons.1 h).2
theorem srtP_head {x : Stp} {L : List Stp} (h : srtP (x :: L)) : ∀ y ∈ L, x.s < y.s ∨ (x.s = y.s ∧ (x.d < y.d ∨ (x.d = y.d ∧ (kd x.p < kd y.p ∨ (kd x.p = kd y.p ∧ x.h < y.h))))) := (List.pairwise_cons.1 h).1
/-- from the place on none stands ahead -/
theorem posP_ge : ∀ {L : List Stp} {s d : Int} {p : Bool} {h : Int} {j : Nat} {x : Stp}, srtP L → posP L s d p h ≤ j → L[j]? = some x → ltS x s d p h = false
  | [], _, _, _, _, j, x, _, hj, hx => by simp at hx
  | y :: L, s, d, p, h, j, x, hs, hj, hx => by
    simp only [posP] at hj
    split at hj
    · cases j with
      | zero => omega
      | succ j => exact posP_ge (L := L) (j := j) (srtP_tail hs) (by omega) (by simpa using hx)
    · rename_i hy
      cases j with
      | zero => simp only [List.getElem?_cons_zero, Option.some.injEq] at hx; subst hx; simpa using hy
      | succ j =>
        have hm : x ∈ L := List.mem_of_getElem? (by simpa using hx)
        have := srtP_head hs x hm
        rw [Bool.not_eq_true, ltS_not] at hy
        rw [ltS_not]; omega
theorem heldP_pos : ∀ {L : List Stp} {s d : Int} {p : Bool} {h : Int}, srtP L → heldP L s d p h = (match L[posP L s d p h]? with | some x => if eqS x s d p h then x.a else 0 | none => 0)
  | [], _, _, _, _, _ => rfl
  | y :: L, s, d, p, h, hs => by
    have ih := heldP_pos (s := s) (d := d) (p := p) (h := h) (srtP_tail hs)
    simp only [heldP, posP]
    cases hl : ltS y s d p h
    · simp only [Bool.false_eq_true, if_false, List.getElem?_cons_zero]
      cases he : eqS y s d p h
      · simp only [Bool.false_eq_true, if_false]
        rw [ih]
        cases hq : L[posP L s d p h]? with
        | none => rfl
        | some x =>
          have hm := List.mem_of_getElem? hq
          have := srtP_head hs x hm
          rw [ltS_not] at hl
          rw [eqS_not] at he
          have : eqS x s d p h = false := by rw [eqS_not]; omega
          simp [this]
      · simp
    · have he : eqS y s d p h = false := by rw [ltS_iff] at hl; rw [eqS_not]; omega
      simp only [he, Bool.false_eq_true, if_false, if_true, List.getElem?_cons_succ]
      exact ih
/-- the place when the key is there -/
theorem addP_there : ∀ {L : List Stp} {s d : Int} {p : Bool} {h a : Int} (n : Int), L[posP L s d p h]? = some ⟨s, d, p, h, a⟩ →
    addP L s d p h n = if a + n = 0 then L.take (posP L s d p h) ++ L.drop (posP L s d p h + 1) else L.take (posP L s d p h) ++ ⟨s, d, p, h, a + n⟩ :: L.drop (posP L s d p h + 1)
  | [], _, _, _, _, _, _, h => by simp at h
  | y :: L, s, d, p, h, a, n, hx => by
    simp only [posP] at hx ⊢
    simp only [addP]
    cases hl : ltS y s d p h
    · simp only [hl, Bool.false_eq_true, if_false, List.getElem?_cons_zero, Option.some.injEq] at hx ⊢
      subst hx
      simp [eqS]
    · simp only [hl, if_true, List.getElem?_cons_succ] at hx ⊢
      rw [addP_there n hx]
      split <;> simp
theorem addP_new : ∀ {L : List Stp} {s d : Int} {p : Bool} {h : Int} (n : Int), (∀ x, L[posP L s d p h]? = some x → eqS x s d p h = false) →
    addP L s d p h n = if n = 0 then L else L.take (posP L s d p h) ++ ⟨s, d, p, h, n⟩ :: L.drop (posP L s d p h)
  | [], _, _, _, _, n, _ => by simp [addP, posP]
  | y :: L, s, d, p, h, n, hx => by
    simp only [posP] at hx ⊢
    simp only [addP]
    cases hl : ltS y s d p h
    · simp only [hl, Bool.false_eq_true, if_false, List.getElem?_cons_zero] at hx ⊢
      rw [hx y rfl]
      simp
    · simp only [hl, if_true, List.getElem?_cons_succ] at hx ⊢
      rw [addP_new n hx]
      split <;> simp
theorem addP_mem : ∀ {L : List Stp} {s d : Int} {p : Bool} {h n : Int} {x : Stp}, x ∈ addP L s d p h n → (x.s = s ∧ x.d = d ∧ kd x.p = kd p ∧ x.h = h) ∨ x ∈ L
  | [], s, d, p, h, n, x, hx => by
    simp only [addP] at hx
    split at hx
    · simp at hx
    · simp only [List.mem_singleton] at hx; subst hx; exact .inl ⟨rfl, rfl, rfl, rfl⟩
  | y :: L, s, d, p, h, n, x, hx => by
    simp only [addP] at hx
    split at hx
    · rcases List.mem_cons.1 hx with hx | hx
      · exact .inr (by rw [hx]; exact List.mem_cons_self ..)
      · rcases addP_mem hx with h1 | h1
        · exact .inl h1
        · exact .inr (List.mem_cons_of_mem _ h1)
    · split at hx
      · split at hx
        · exact .inr (List.mem_cons_of_mem _ hx)
        · rcases List.mem_cons.1 hx with hx | hx
          · subst hx; exact .inl ⟨rfl, rfl, rfl, rfl⟩
          · exact .inr (List.mem_cons_of_mem _ hx)
      · split at hx
        · exact .inr hx
        · rcases List.mem_cons.1 hx with hx | hx
          · subst hx; exact .inl ⟨rfl, rfl, rfl, rfl⟩
          · exact .inr hx
theorem addP_srt : ∀ {L : List Stp} {s d : Int} {p : Bool} {h : Int} (n : Int), srtP L → srtP (addP L s d p h n)
  | [], s, d, p, h, n, _ => by
    simp only [addP]; split
    · exact List.Pairwise.nil
    · exact List.pairwise_singleton _ _
  | y :: L, s, d, p, h, n, hs => by
    have ht := srtP_tail hs
    have hh := srtP_head hs
    simp only [addP]
    cases hl : ltS y s d p h
    · simp only [Bool.false_eq_true, if_false]
      rw [ltS_not] at hl
      cases he : eqS y s d p h
      · simp only [Bool.false_eq_true, if_false]
        rw [eqS_not] at he
        split
        · exact hs
        · refine List.pairwise_cons.2 ⟨fun x hx => ?_, hs⟩
          rcases List.mem_cons.1 hx with hx | hx
          · subst hx; simp only; omega
          · have := hh x hx; simp only; omega
      · simp only [if_true]
        rw [eqS_iff] at he
        split
        · exact ht
        · refine List.pairwise_cons.2 ⟨fun x hx => ?_, ht⟩
          have := hh x hx; simp only; omega
    · simp only [if_true]
      rw [ltS_iff] at hl
      refine List.pairwise_cons.2 ⟨fun x hx => ?_, addP_srt n ht⟩
      rcases addP_mem hx with ⟨h1, h2, h3, h4⟩ | h1
      · rw [h1, h2, h3, h4]; omega
      · exact hh x h1
theorem heldP_out {L : List Stp} {s d : Int} {p : Bool} {h : Int} (hm : ∀ y ∈ L, ¬ (y.s = s ∧ y.d = d ∧ kd y.p = kd p ∧ y.h = h)) : heldP L s d p h = 0 := by
  induction L with
  | nil => rfl
  | cons y L ih =>
    simp only [heldP]
    rw [eqS_not.2 (hm y (List.mem_cons_self ..))]
    exact ih fun z hz => hm z (List.mem_cons_of_mem _ hz)
theorem addP_held : ∀ {L : List Stp} {s d : Int} {p : Bool} {h : Int} (n s' d' : Int) (p' : Bool) (h' : Int), srtP L → heldP (addP L s d p h n) s' d' p' h' = heldP L s' d' p' h' + if s = s' ∧ d = d' ∧ kd p = kd p' ∧ h = h' then n else 0
  | [], s, d, p, h, n, s', d', p', h', _ => by
    simp only [addP]; split
    · rename_i h0; subst h0; simp [heldP]
    · by_cases hc : s = s' ∧ d = d' ∧ kd p = kd p' ∧ h = h' <;> simp [heldP, eqS, hc]
  | y :: L, s, d, p, h, n, s', d', p', h', hs => by
    have ih := addP_held (L := L) (s := s) (d := d) (p := p) (h := h) n s' d' p' h' (srtP_tail hs)
    have hh := srtP_head hs
    simp only [addP]
    cases hl : ltS y s d p h
    · simp only [Bool.false_eq_true, if_false]
      rw [ltS_not] at hl
      cases he : eqS y s d p h
      · simp only [Bool.false_eq_true, if_false]
        rw [eqS_not] at he
        split
        · rename_i h0; subst h0; simp
        · by_cases hc : s = s' ∧ d = d' ∧ kd p = kd p' ∧ h = h'
          · obtain ⟨rfl, rfl, hk, rfl⟩ := hc; obtain rfl := kd_inj hk
            have h0 : heldP (y :: L) s d p h = 0 := heldP_out fun x hx => by
              rcases List.mem_cons.1 hx with hx | hx
              · subst hx; exact he
              · have := hh x hx; omega
            rw [h0]
            simp [heldP, eqS]
          · have : eqS ⟨s, d, p, h, n⟩ s' d' p' h' = false := by rw [eqS_not]; exact hc
            simp [heldP, this, hc]
      · simp only [if_true]
        obtain ⟨e1, e2, e3, e4⟩ := eqS_iff.1 he
        split
        · rename_i h0
          by_cases hc : s = s' ∧ d = d' ∧ kd p = kd p' ∧ h = h'
          · obtain ⟨rfl, rfl, hk, rfl⟩ := hc; obtain rfl := kd_inj hk
            simp only [heldP, he, if_true, and_self]
            rw [heldP_out fun x hx => by have := hh x hx; omega]
            omega
          · have : eqS y s' d' p' h' = false := by rw [eqS_not]; omega
            simp [heldP, this, hc]
        · by_cases hc : s = s' ∧ d = d' ∧ kd p = kd p' ∧ h = h'
          · obtain ⟨rfl, rfl, hk, rfl⟩ := hc; obtain rfl := kd_inj hk
            simp [heldP, eqS, e1, e2, e3, e4]
          · have h1 : eqS y s' d' p' h' = false := by rw [eqS_not]; omega
            have h2 : eqS ⟨s, d, p, h, y.a + n⟩ s' d' p' h' = false := by rw [eqS_not]; exact hc
            simp [heldP, h1, h2, hc]
    · simp only [if_true, heldP]
      rw [ltS_iff] at hl
      cases hy : eqS y s' d' p' h'
      · simp only [Bool.false_eq_true, if_false]; exact ih
      · rw [eqS_iff] at hy
        simp only [if_true]
        rw [if_neg (by omega)]; omega
theorem addP_len : ∀ (L : List Stp) (s d : Int) (p : Bool) (h n : Int), (addP L s d p h n).length ≤ L.length + 1
  | [], s, d, p, h, n => by simp only [addP]; split <;> simp
  | y :: L, s, d, p, h, n => by
    have := addP_len L s d p h n
    simp only [addP]
    repeat' split
    all_goals simp only [List.length_cons]
    all_goals omega
theorem addP_pos : ∀ {L : List Stp} {s d : Int} {p : Bool} {h : Int} (n : Int), srtP L → (∀ x ∈ L, 0 < x.a) → 0 ≤ heldP L s d p h + n → ∀ x ∈ addP L s d p h n, 0 < x.a
  | [], s, d, p, h, n, _, _, h0, x, hx => by
    simp only [heldP] at h0
    simp only [addP] at hx
    split at hx
    · simp at hx
    · simp only [List.mem_singleton] at hx; subst hx; simp only; omega
  | y :: L, s, d, p, h, n, hs, hp, h0, x, hx => by
    have hh := srtP_head hs
    simp only [addP] at hx
    simp only [heldP] at h0
    cases hl : ltS y s d p h
    · rw [ltS_not] at hl
      simp only [ltS_not.2 hl, Bool.false_eq_true, if_false] at hx
      cases he : eqS y s d p h
      · simp only [he, Bool.false_eq_true, if_false] at hx h0
        rw [eqS_not] at he
        rw [heldP_out fun z hz => by have := hh z hz; omega] at h0
        split at hx
        · exact hp x hx
        · rcases List.mem_cons.1 hx with hx | hx
          · subst hx; simp only; omega
          · exact hp x hx
      · simp only [he, if_true] at hx h0
        split at hx
        · exact hp x (List.mem_cons_of_mem _ hx)
        · rcases List.mem_cons.1 hx with hx | hx
          · subst hx; simp only; omega
          · exact hp x (List.mem_cons_of_mem _ hx)
    · simp only [hl, if_true] at hx
      rw [ltS_iff] at hl
      have he : eqS y s d p h = false := by rw [eqS_not]; omega
      simp only [he, Bool.false_eq_true, if_false] at h0
      rcases List.mem_cons.1 hx with hx | hx
      · subst hx; exact hp _ (List.mem_cons_self ..)
      · exact addP_pos n (srtP_tail hs) (fun z hz => hp z (List.mem_cons_of_mem _ hz)) h0 x hx
theorem sumP_append (L M : List Stp) (s d : Int) (p : Bool) : sumP (L ++ M) s d p = sumP L s d p + sumP M s d p := by
  induction L with
  | nil => simp [sumP]
  | cons x L ih => simp only [List.cons_append, sumP, ih]; omega
end Go.Proofs.YthhoaefadfeknaaGreat
namespace Go.Proofs.YthhoaefadfeknaaGreat
open Go.RowKit
set_option linter.unusedVariables false
set_option linter.unusedSimpArgs false

theorem stkind_any (s d : Int) (p : Bool) (h a : Int) (w : World) : Calls Tryz.prog 169 #[.agg #[.int .i64 s, .int .i64 d, .bool p, .int .i64 h, .int .i64 a]] w fun e w' => e = .returned (.int .i64 (kd p)) ∧ Below w.heap.size w w' := by
  cases p
  all_goals
    go_enter Tryz.func169, Tryz.ntmps169
    go_wp2
    go_ret
    exact ⟨rfl, bal brefl _⟩
/-- who may hold strips -/
def holdP (n : Int) : Bool := decide (1 ≤ n ∧ n ≤ 1000 ∧ n ≠ 1000)
theorem stholder_any (n : Int) (w : World) : Calls Tryz.prog 103 #[.int .i64 n] w fun e w' => e = .returned (.bool (holdP n)) ∧ w = w' := by
  obtain ⟨b, hb⟩ : ∃ b, holdP n = b := ⟨_, rfl⟩
  have hb' := hb
  unfold holdP at hb'
  rw [hb]
  by_cases h1 : 1 ≤ n
  · by_cases h2 : n ≤ 1000
    · by_cases h3 : n = 1000
      · obtain rfl : b = false := by rw [← hb']; simp; omega
        clear hb hb'
        subst h3
        go_enter Tryz.func103, Tryz.ntmps103
        go_wp2
        go_ret
        exact ⟨rfl, rfl⟩
      · obtain rfl : b = true := by rw [← hb']; simp; omega
        clear hb hb'
        have e1 : decide (1 ≤ n) = true := by simpa using h1
        have e2 : decide (n ≤ 1000) = true := by simpa using h2
        have e3 : (n != 1000) = true := by simpa using h3
        go_enter Tryz.func103, Tryz.ntmps103
        go_wp2
        go_ret
        exact ⟨rfl, rfl⟩
    · obtain rfl : b = false := by rw [← hb']; simp; omega
      clear hb hb'
      have e1 : decide (1 ≤ n) = true := by simpa using h1
      have e2 : decide (n ≤ 1000) = false := by simpa using h2
      go_enter Tryz.func103, Tryz.ntmps103
      go_wp2
      go_ret
      exact ⟨rfl, rfl⟩
  · obtain rfl : b = false := by rw [← hb']; simp; omega
    clear hb hb'
    have e1 : decide (1 ≤ n) = false := by simpa using h1
    go_enter Tryz.func103, Tryz.ntmps103
    go_wp2
    go_ret
    exact ⟨rfl, rfl⟩
theorem sumP_take {L : List Stp} (hp : ∀ x ∈ L, 0 < x.a ∧ x.a ≤ 1000000000000) (s d : Int) (p : Bool) : ∀ k, 0 ≤ sumP (L.take k) s d p ∧ sumP (L.take k) s d p ≤ 1000000000000 * k := by
  intro k
  induction k with
  | zero => simp [sumP]
  | succ k ih =>
    cases hk : L[k]? with
    | none => rw [List.take_of_length_le (by have := List.getElem?_eq_none_iff.1 hk; omega)]; rw [List.take_of_length_le (by have := List.getElem?_eq_none_iff.1 hk; omega)] at ih; omega
    | some x =>
      rw [take_snocZ hk, sumP_append]
      have := hp x (List.mem_of_getElem? hk)
      simp only [sumP]
      split <;> omega
set_option maxHeartbeats 1000000 in
theorem stsum_any (P : Nat → Prop) (v : Value) (L : List Stp) (s d : Int) (p : Bool) (w : World) (hS : Sl 5 encStp P w v L) (hok : ∀ x ∈ L, 0 < x.a ∧ x.a ≤ 1000000000000) (hlen : L.length ≤ 100000) :
    Calls Tryz.prog 113 #[v, .int .i64 s, .int .i64 d, .bool p] w fun e w' => e = .returned (.int .i64 (sumP L s d p)) ∧ Below w.heap.size w w' := by
  obtain ⟨ao, n, c, rfl, hn, hnc, hcm⟩ := hS.shape
  have hn1 : n ≤ 100000 := by omega
  have HS := Lib.hid hS
  have HN := Lib.hid hn
  have HK := Lib.hid hok
  clear hS hn hlen hok
  go_enter Tryz.func113, Tryz.ntmps113
  go_wp2
  go_loopw [9, 14] (fun sv iv wr => ∃ k : Nat, k ≤ n ∧ iv = .int .i64 k ∧ sv = .int .i64 (sumP (L.take k) s d p) ∧ Below w.heap.size w wr) (fun _ iv _ => n - (intOf iv).toNat)
  case atStart => exact ⟨0, by omega, rfl, rfl, brefl⟩
  case round =>
    obtain ⟨k, hk, rfl, rfl, hbr⟩ := hrel
    have zr := hbr.size
    obtain ⟨sb0, sb1⟩ := sumP_take HK.out s d p k
    by_cases hlt : k < n
    · obtain ⟨b, off, vs, vd, vp, vh, va, rfl, -, hb', hL, k0, k1, k2, k3, k4⟩ := (HS.out.below hbr).stp hlt
      obtain ⟨tb0, tb1⟩ := sumP_take HK.out s d p (k + 1)
      rw [take_snocZ hL, sumP_append] at tb0 tb1
      have HT := Lib.hid (take_snocZ hL)
      obtain ⟨S, hSs⟩ : ∃ S, sumP (L.take k) s d p = S := ⟨_, rfl⟩
      rw [hSs] at sb0 sb1 tb0 tb1
      have HSS := Lib.hid hSs
      rw [hSs]
      simp only [sumP, Int.add_zero] at tb0 tb1
      clear hL hSs
      by_cases hq : vs = s ∧ vd = d ∧ vp = p
      · rw [if_pos hq] at tb0 tb1
        have HR := Lib.hid (show sumP (L.take (k + 1)) s d p = S + va by rw [HT.out, sumP_append, HSS.out]; simp [sumP, hq])
        obtain ⟨rfl, rfl, rfl⟩ := hq
        go_wp2
        go_roundw
        case rel => exact ⟨k + 1, by omega, by go_num, by rw [HR.out], bal hbr _⟩
        case measure => simp [intOf]; omega
      · have HR := Lib.hid (show sumP (L.take (k + 1)) s d p = S by rw [HT.out, sumP_append, HSS.out]; simp [sumP, hq])
        clear tb0 tb1
        by_cases h1 : vs = s
        · subst h1
          by_cases h2 : vd = d
          · subst h2
            have h3 : (vp == p) = false := by simp at hq ⊢; exact hq
            go_wp2
            go_roundw
            case rel => exact ⟨k + 1, by omega, by go_num, by rw [HR.out], bal hbr _⟩
            case measure => simp [intOf]; omega
          · have h3 : (vd == d) = false := by simpa using h2
            go_wp2
            go_roundw
            case rel => exact ⟨k + 1, by omega, by go_num, by rw [HR.out], bal hbr _⟩
            case measure => simp [intOf]; omega
        · have h3 : (vs == s) = false := by simpa using h1
          go_wp2
          go_roundw
          case rel => exact ⟨k + 1, by omega, by go_num, by rw [HR.out], bal hbr _⟩
          case measure => simp [intOf]; omega
    · have hfin := Lib.hid (show sumP (L.take k) s d p = sumP L s d p by rw [take_all (by have := HN.out; omega)])
      rw [hfin.out]
      go_wp2
      go_ret
      exact ⟨rfl, hbr⟩
end Go.Proofs.YthhoaefadfeknaaGreat
namespace Go.Proofs.YthhoaefadfeknaaGreat
open Go.RowKit
set_option linter.unusedVariables false
set_option linter.unusedSimpArgs false
/-- the first that is not 0 -/
def orL : List Int → Int
  | [] => 0
  | a :: L => if a = 0 then orL L else a
theorem or_any (P : Nat → Prop) (v : Value) (L : List Int) (w : World) (hS : Sl 1 encI P w v L) (hlen : L.length ≤ 1000000) :
    Calls Tryz.prog 135 #[v] w fun e w' => e = .returned (.int .i64 (orL L)) ∧ w = w' := by
  obtain ⟨ao, n, c, rfl, hn, hnc, hcm⟩ := hS.shape
  have hn1 : n ≤ 1000000 := by omega
  obtain ⟨r, hr⟩ : ∃ r, orL L = r := ⟨_, rfl⟩
  rw [hr]
  have HS := Lib.hid hS
  have HN := Lib.hid hn
  have HR := Lib.hid hr
  clear hS hn hlen hr
  go_enter Tryz.func135, Tryz.ntmps135
  go_wp2
  go_loopw [8] (fun iv wr => ∃ k : Nat, k ≤ n ∧ iv = .int .i64 k ∧ r = orL (L.drop k) ∧ wr = w) (fun iv _ => n - (intOf iv).toNat)
  case atStart => exact ⟨0, by omega, rfl, by rw [List.drop_zero]; exact HR.out.symm, rfl⟩
  case round =>
    obtain ⟨k, hk, rfl, hrk, rfl⟩ := hrel
    by_cases hlt : k < n
    · obtain ⟨b, off, a, rfl, -, hb', hL, k0⟩ := HS.out.int hlt
      rw [drop_cons hL] at hrk
      simp only [orL] at hrk
      have HRK := Lib.hid hrk
      have hkn : (k : Int) < n := by omega
      clear hL hrk
      by_cases e1 : a = 0
      · have hrel2 := Lib.hid (show r = orL (L.drop (k + 1)) by rw [HRK.out, if_pos e1])
        subst e1
        go_wp2
        go_roundw
        case rel => exact ⟨k + 1, by omega, by go_num, hrel2.out, by first | rfl | trivial⟩
        case measure => simp [intOf]; omega
      · have hf := Lib.hid (show r = a by rw [HRK.out, if_neg e1])
        have h' : (a == 0) = false := by simpa using e1
        have h2 : (a != 0) = true := by simpa using e1
        go_wp2
        go_ret
        exact ⟨ret_int hf.out.symm, rfl⟩
    · have hf := Lib.hid (show r = 0 by rw [hrk, drop_all (by have := HN.out; omega)]; rfl)
      clear hrk
      go_wp2
      go_ret
      exact ⟨ret_int hf.out.symm, rfl⟩
/-- the comparison of two strips -/
def cmpS (x y : Stp) : Int := orL [cmpI x.s y.s, cmpI x.d y.d, cmpI (kd x.p) (kd y.p), cmpI x.h y.h]
theorem cmpS_cases (x y : Stp) : (cmpS x y = -1 ∧ ltS x y.s y.d y.p y.h = true) ∨ (cmpS x y = 0 ∧ eqS x y.s y.d y.p y.h = true) ∨ (cmpS x y = 1 ∧ ltS x y.s y.d y.p y.h = false ∧ eqS x y.s y.d y.p y.h = false) := by
  simp only [ltS_iff, eqS_iff, ltS_not, eqS_not]
  unfold cmpS
  simp only [orL, cmpI]
  repeat' split
  all_goals omega
theorem cmpS_lt (x y : Stp) : decide (cmpS x y < 0) = ltS x y.s y.d y.p y.h := by
  rcases cmpS_cases x y with ⟨h1, h2⟩ | ⟨h1, h2⟩ | ⟨h1, h2, h3⟩
  · rw [h1, h2]; rfl
  · rw [h1]
    have : ltS x y.s y.d y.p y.h = false := by rw [ltS_not]; rw [eqS_iff] at h2; omega
    rw [this]; rfl
  · rw [h1, h2]; rfl
theorem cmpS_eq (x y : Stp) : (cmpS x y == 0) = eqS x y.s y.d y.p y.h := by
  rcases cmpS_cases x y with ⟨h1, h2⟩ | ⟨h1, h2⟩ | ⟨h1, h2, h3⟩
  · rw [h1]
    have : eqS x y.s y.d y.p y.h = false := by rw [eqS_not]; rw [ltS_iff] at h2; omega
    rw [this]; rfl
  · rw [h1, h2]; rfl
  · rw [h1, h3]; rfl
theorem cmpS_ge (x y : Stp) : decide (0 ≤ cmpS x y) = !ltS x y.s y.d y.p y.h := by
  rw [← cmpS_lt, Bool.eq_iff_iff]; simp
/-- a new slice of numbers -/
theorem sl4 (a b c d : Int) (T : TypeId) (w : World) : Sl 1 encI (fun _ => True) (w.alloc (.cells #[.int .i64 a, .int .i64 b, .int .i64 c, .int .i64 d] T)) (.slice (some ⟨w.heap.size, 0, none⟩) 4 4) [a, b, c, d] := by
  refine ⟨_, 4, 4, rfl, rfl, Nat.le_refl _, by unfold maxLen; omega, .inr ⟨w.heap.size, 0, rfl, trivial, by simp, fun j x hj i u hi => ?_⟩⟩
  have hj4 : j < 4 := by have := (List.getElem?_eq_some_iff.1 hj).1; simpa using this
  have hi1 : i < 1 := by have := (List.getElem?_eq_some_iff.1 hi).1; simpa [encI] using this
  obtain rfl : i = 0 := by omega
  rw [World.cell?_alloc_at _ _ _ _ rfl]
  simp only [encI, List.getElem?_cons_zero, Option.some.injEq] at hi
  subst hi
  rcases (show j = 0 ∨ j = 1 ∨ j = 2 ∨ j = 3 by omega) with rfl | rfl | rfl | rfl
  all_goals (simp at hj; subst hj; rfl)
set_option maxHeartbeats 4000000 in
set_option maxRecDepth 100000 in
theorem stcompare_any (s d : Int) (p : Bool) (h a s' d' : Int) (p' : Bool) (h' a' : Int) (w : World) :
    Calls Tryz.prog 105 #[.agg #[.int .i64 s, .int .i64 d, .bool p, .int .i64 h, .int .i64 a], .agg #[.int .i64 s', .int .i64 d', .bool p', .int .i64 h', .int .i64 a']] w fun e w' => e = .returned (.int .i64 (cmpS ⟨s, d, p, h, a⟩ ⟨s', d', p', h', a'⟩)) ∧ Below w.heap.size w w' := by
  obtain ⟨x1, hx1⟩ : ∃ x, cmpI s s' = x := ⟨_, rfl⟩
  obtain ⟨x2, hx2⟩ : ∃ x, cmpI d d' = x := ⟨_, rfl⟩
  obtain ⟨k1, hk1⟩ : ∃ x, kd p = x := ⟨_, rfl⟩
  obtain ⟨k2, hk2⟩ : ∃ x, kd p' = x := ⟨_, rfl⟩
  obtain ⟨x3, hx3⟩ : ∃ x, cmpI k1 k2 = x := ⟨_, rfl⟩
  obtain ⟨x4, hx4⟩ : ∃ x, cmpI h h' = x := ⟨_, rfl⟩
  have e := Lib.hid (show cmpS ⟨s, d, p, h, a⟩ ⟨s', d', p', h', a'⟩ = orL [x1, x2, x3, x4] by unfold cmpS; simp only [hx1, hx2, hk1, hk2, hx3, hx4])
  have HX1 := Lib.hid hx1
  have HX2 := Lib.hid hx2
  have HX3 := Lib.hid hx3
  have HX4 := Lib.hid hx4
  have HK1 := Lib.hid hk1
  have HK2 := Lib.hid hk2
  clear hx1 hx2 hx3 hx4 hk1 hk2
  go_enter Tryz.func105, Tryz.ntmps105
  go_wp2
  go_region_held3 (fun w' => w'.cell? ⟨w.heap.size, 0, none⟩ = some (.int .i64 s) ∧ w'.cell? ⟨w.heap.size, 1, none⟩ = some (.int .i64 d) ∧ w'.cell? ⟨w.heap.size, 2, none⟩ = some (.bool p) ∧ w'.cell? ⟨w.heap.size, 3, none⟩ = some (.int .i64 h) ∧ w'.cell? ⟨w.heap.size, 4, none⟩ = some (.int .i64 a) ∧ w'.cell? ⟨w.heap.size + 1, 0, none⟩ = some (.int .i64 s') ∧ w'.cell? ⟨w.heap.size + 1, 1, none⟩ = some (.int .i64 d') ∧ w'.cell? ⟨w.heap.size + 1, 2, none⟩ = some (.bool p') ∧ w'.cell? ⟨w.heap.size + 1, 3, none⟩ = some (.int .i64 h') ∧ w'.cell? ⟨w.heap.size + 1, 4, none⟩ = some (.int .i64 a')) (first | (refine ⟨keepB hb1 ?_, keepB hb1 ?_, keepB hb1 ?_, keepB hb1 ?_, keepB hb1 ?_, keepB hb1 ?_, keepB hb1 ?_, keepB hb1 ?_, keepB hb1 ?_, keepB hb1 ?_⟩ <;> first | assumption | (simp; done) | (simp [*]; done)) | go_keep) (first | (go_at_call 136; refine (compare_any _ _ _).mono ?_; (first | rw [HX1.out] | rw [HX2.out] | rw [HX3.out] | rw [HX4.out]); rintro e w' ⟨rfl, rfl⟩) | (go_at_call 169; refine (stkind_any _ _ _ _ _ _).mono ?_; (first | rw [HK1.out] | rw [HK2.out]); rintro e w1 ⟨rfl, hb1⟩) | (go_at_call 135; refine (or_any (fun _ => True) _ [x1, x2, x3, x4] _ (sl4 _ _ _ _ _ _) (by simp)).mono ?_; rintro e w' ⟨rfl, rfl⟩))
  go_wp2
  go_ret
  exact ⟨ret_int e.out.symm, bal (bup (bup (bdr (bal (bal brefl _) _)) (by assumption)) (by assumption)) _⟩
end Go.Proofs.YthhoaefadfeknaaGreat
namespace Go.Proofs.YthhoaefadfeknaaGreat
open Go.RowKit
set_option linter.unusedVariables false
set_option linter.unusedSimpArgs false

theorem overP_any (vb g i lb cb : Nat) (C cur : Array Value) (w : World) (hne : vb ≠ g) (hv : w.heap[vb]? = some (.cells C 88 (0, 0))) (hg : w.heap[g]? = some (.cells cur 88 (0, 0))) (hk : cur.size ≠ 0) :
    (callFunc 201 #[.slice (some ⟨vb, 0, none⟩) 1 1, .slice (some ⟨g, i, none⟩) lb cb]).run Tryz.prog w = .ok (.value (.bool false)) w := by
  have hz : ∀ w, (Go.sizeOf 88).run Tryz.prog w = .ok 5 w := fun w => by kernel_rfl
  rw [run_callFunc_extern Tryz.func201 (by kernel_rfl) (by kernel_rfl) (by kernel_rfl) (e := Extern.SlicesOverlaps.overlaps #[67, 67] #[4]) (by kernel_rfl),
    Lib.run_overlaps_apart w 67 4 88 Tryz.underlying67 5 hz ⟨vb, 0, none⟩ ⟨g, i, none⟩ 1 1 lb cb hne 88 88 C.size cur.size (by simp [World.shape?, hv]) (by simp [World.shape?, hg]) hk (by simp [World.frozen?, hv]) (by simp [World.frozen?, hv])]
  rfl
/-- the list with an element put in -/
theorem insP_end (base : Nat) (v : Value) (n vb : Nat) (L : List Stp) (x : Stp) (w : World) (hown : w.ownsRow base 88 5 v n (flatE encStp L)) (hn : n ≤ 1000000) (hl : L.length = n) (hbase : base ≤ w.heap.size)
    (hv : w.heap[vb]? = some (.cells (encStp x).toArray 88 (0, 0))) :
    Calls Tryz.prog 178 #[v, .int .i64 n, .slice (some ⟨vb, 0, none⟩) 1 1] w fun e w' => ∃ v', e = .returned v' ∧ w'.ownsRow base 88 5 v' (n + 1) (flatE encStp (L ++ [x])) ∧ w.grownBy w' v.ownBlock := by
  obtain ⟨i1, hi, hz0, hz1, hz2⟩ := info_parts infoStp
  have hnews : ∀ j u, (encStp x)[j]? = some u → w.cell? ((⟨vb, 0, none⟩ : Addr).add j) = some u := fun j u hj => by rw [add_litZ, Nat.zero_add]; exact cell_whole hv hj
  have HN := Lib.hid hnews
  have HV := Lib.hid hv
  have HL := Lib.hid hl
  clear hnews hv hl
  rcases Nat.eq_zero_or_pos n with h0 | h0
  · subst h0
    have hL : L = [] := List.eq_nil_of_length_eq_zero HL.out
    subst hL
    rcases hown.2 with ⟨rfl, -⟩ | ⟨g, cap, cur, rfl, hbg, hg, hnc, hcm, hcs, htake⟩
    · go_enter Tryz.func178, Tryz.ntmps178
      go_wp2_with (at_builtin; refine wpList_append_own _ rfl _ _ 67 rfl base 88 i1 (.agg #[.int .i64 0, .int .i64 0, .bool false, .int .i64 0, .int .i64 0]) 5 40 Tryz.underlying67 hi hz0 hz1 hz2 rfl (by decide) _ _ _ rfl hown ⟨vb, 0, none⟩ 1 1 (encStp x) rfl rfl HN.out (oneStp x) (by unfold maxLen; omega) (by omega) hbase ?_; intro v' w2 hown' hgrow _)
      go_wp2
      go_ret
      exact ⟨v', rfl, by simpa [flatE] using hown', hgrow⟩
    · have HG := Lib.hid hg
      clear hg htake hcs
      by_cases hc0 : cap = 0
      · subst hc0
        go_enter Tryz.func178, Tryz.ntmps178
        go_wp2_with (at_builtin; refine wpList_append_own _ rfl _ _ 67 rfl base 88 i1 (.agg #[.int .i64 0, .int .i64 0, .bool false, .int .i64 0, .int .i64 0]) 5 40 Tryz.underlying67 hi hz0 hz1 hz2 rfl (by decide) _ _ _ rfl hown ⟨vb, 0, none⟩ 1 1 (encStp x) rfl rfl HN.out (oneStp x) (by unfold maxLen; omega) (by omega) hbase ?_; intro v' w2 hown' hgrow _)
        go_wp2
        go_ret
        exact ⟨v', rfl, by simpa [flatE] using hown', hgrow⟩
      · go_enter Tryz.func178, Tryz.ntmps178
        go_wp2_with (at_builtin; refine wpList_append_own _ rfl _ _ 67 rfl base 88 i1 (.agg #[.int .i64 0, .int .i64 0, .bool false, .int .i64 0, .int .i64 0]) 5 40 Tryz.underlying67 hi hz0 hz1 hz2 rfl (by decide) _ _ _ rfl hown ⟨vb, 0, none⟩ 1 1 (encStp x) rfl rfl HN.out (oneStp x) (by unfold maxLen; omega) (by omega) hbase ?_; intro v' w2 hown' hgrow _)
        go_wp2
        go_ret
        exact ⟨v', rfl, by simpa [flatE] using hown', hgrow⟩
  · obtain ⟨g, cap, rest, rfl, hbg, hg, hnc, hcm, hxl, hrl⟩ := own_whole hown h0
    unfold maxLen at hcm
    have HG := Lib.hid hg
    clear hg hxl hrl
    by_cases hc0 : cap = n
    · subst hc0
      go_enter Tryz.func178, Tryz.ntmps178
      go_wp2_with (at_builtin; refine wpList_append_own _ rfl _ _ 67 rfl base 88 i1 (.agg #[.int .i64 0, .int .i64 0, .bool false, .int .i64 0, .int .i64 0]) 5 40 Tryz.underlying67 hi hz0 hz1 hz2 rfl (by decide) _ _ _ rfl hown ⟨vb, 0, none⟩ 1 1 (encStp x) rfl rfl HN.out (oneStp x) (by unfold maxLen; omega) (by omega) hbase ?_; intro v' w2 hown' hgrow _)
      go_wp2
      go_ret
      exact ⟨v', rfl, by rw [flatE_snoc]; exact hown', hgrow⟩
    · go_enter Tryz.func178, Tryz.ntmps178
      go_wp2_with (at_builtin; refine wpList_append_own _ rfl _ _ 67 rfl base 88 i1 (.agg #[.int .i64 0, .int .i64 0, .bool false, .int .i64 0, .int .i64 0]) 5 40 Tryz.underlying67 hi hz0 hz1 hz2 rfl (by decide) _ _ _ rfl hown ⟨vb, 0, none⟩ 1 1 (encStp x) rfl rfl HN.out (oneStp x) (by unfold maxLen; omega) (by omega) hbase ?_; intro v' w2 hown' hgrow _)
      go_wp2
      go_ret
      exact ⟨v', rfl, by rw [flatE_snoc]; exact hown', hgrow⟩
set_option maxHeartbeats 4000000 in
set_option maxRecDepth 100000 in
theorem insP_shift (base g cap n i vb : Nat) (L1 L2 : List Stp) (x : Stp) (rest : List Value) (w : World) (hi : i < n) (hn : n ≤ 1000000) (hl : L1.length = i) (hl2 : L2.length = n - i) (hroom : n + 1 ≤ cap) (hcm : cap ≤ maxLen) (hvb : vb ≠ g) (hbg : base ≤ g)
    (hg : w.heap[g]? = some (.cells (flatE encStp L1 ++ flatE encStp L2 ++ rest).toArray 88 (0, 0))) (hrl : (flatE encStp L1 ++ flatE encStp L2 ++ rest).length = cap * 5)
    (hv : w.heap[vb]? = some (.cells (encStp x).toArray 88 (0, 0))) :
    Calls Tryz.prog 178 #[.slice (some ⟨g, 0, none⟩) n cap, .int .i64 i, .slice (some ⟨vb, 0, none⟩) 1 1] w fun e w' => ∃ v', e = .returned v' ∧ w'.ownsRow base 88 5 v' (n + 1) (flatE encStp (L1 ++ x :: L2)) ∧ w.grownBy w' (some g) := by
  have hcm' := hcm
  unfold maxLen at hcm
  have hsz : (Tryz.prog.info? 88).map (·.size) = some 5 := by kernel_rfl
  obtain ⟨X1, hX1⟩ : ∃ X, flatE encStp L1 = X := ⟨_, rfl⟩
  obtain ⟨X2, hX2⟩ : ∃ X, flatE encStp L2 = X := ⟨_, rfl⟩
  have l1 : X1.length = i * 5 := by rw [← hX1, flatE_length encStp_len, hl]
  have l2 : X2.length = (n - i) * 5 := by rw [← hX2, flatE_length encStp_len, hl2]
  have hfl : flatE encStp (L1 ++ x :: L2) = X1 ++ (encStp x ++ X2) := by rw [← hX1, ← hX2]; simp [flatE]
  have o2 : ∀ u ∈ X2, u.oneCell' = true := by rw [← hX2]; exact oneE oneStp L2
  rw [hX1, hX2] at hg hrl
  rw [hfl]
  obtain ⟨cur, hcur⟩ : ∃ c, X1 ++ X2 ++ rest = c := ⟨_, rfl⟩
  rw [hcur] at hg hrl
  have gd : w.drew.heap[g]? = some (.cells cur.toArray 88 (0, 0)) := hg
  obtain ⟨W1, hW1⟩ : ∃ W1, W1 = w.drew.setRow g ((cur.toArray.toList.take ((i + 1) * 5) ++ X2 ++ cur.toArray.toList.drop ((i + 1) * 5 + X2.length)).toArray) := ⟨_, rfl⟩
  have hcp1 : ∀ ty dc sc, (Builtin.copy_ #[67, 67] ty #[.slice (some ⟨g, (i + 1) * 5, none⟩) (n - i) dc, .slice (some ⟨g, i * 5, none⟩) (n + 1 - i) sc]).run Tryz.prog w.drew = .ok (goInt (n - i : Nat)) W1 := fun ty dc sc => by
    rw [hW1]
    refine run_copy_rowZ w.drew _ _ ty 88 g ((i + 1) * 5) (n - i) dc ⟨g, i * 5, none⟩ (n + 1 - i) sc cur.toArray 88 X2 5 (n - i) Tryz.underlying67 hsz gd (by simp only [Nat.min_def]; split <;> omega) l2 (fun j u hj => ?_) (by simp only [List.size_toArray]; omega) o2
    rw [add_litZ]
    refine cell_whole gd ?_
    have hj2 : j < X2.length := (List.getElem?_eq_some_iff.1 hj).1
    rw [← hcur, List.append_assoc, List.getElem?_append_right (by omega), l1, Nat.add_sub_cancel_left, List.getElem?_append_left hj2]
    exact hj
  have hg1 : W1.heap[g]? = some (.cells (cur.take ((i + 1) * 5) ++ X2 ++ cur.drop ((i + 1) * 5 + X2.length)).toArray 88 (0, 0)) := by rw [hW1]; simpa using heap_setRow gd
  have gr1 : w.grownBy W1 (some g) := by
    have q := grownBy_setRow w.drew g ((cur.toArray.toList.take ((i + 1) * 5) ++ X2 ++ cur.toArray.toList.drop ((i + 1) * 5 + X2.length)).toArray)
    rw [hW1]; exact ⟨q.os, q.tape, q.output, q.size, q.block⟩
  have hv1 : W1.heap[vb]? = some (.cells (encStp x).toArray 88 (0, 0)) := (gr1.block vb (Array.getElem?_eq_some_iff.1 hv).1 (by simpa using hvb)).trans hv
  obtain ⟨cur1, hcur1⟩ : ∃ c, cur.take ((i + 1) * 5) ++ X2 ++ cur.drop ((i + 1) * 5 + X2.length) = c := ⟨_, rfl⟩
  rw [hcur1] at hg1
  have lc1 : cur1.length = cap * 5 := by rw [← hcur1]; simp only [List.length_append, List.length_take, List.length_drop]; omega
  have hcp2 : ∀ ty dc, (Builtin.copy_ #[67, 67] ty #[.slice (some ⟨g, i * 5, none⟩) (n + 1 - i) dc, .slice (some ⟨vb, 0, none⟩) 1 1]).run Tryz.prog W1 = .ok (goInt (1 : Nat)) (W1.setRow g (cur1.toArray.toList.take (i * 5) ++ encStp x ++ cur1.toArray.toList.drop (i * 5 + (encStp x).length)).toArray) := fun ty dc =>
    run_copy_rowZ W1 _ _ ty 88 g (i * 5) (n + 1 - i) dc ⟨vb, 0, none⟩ 1 1 cur1.toArray 88 (encStp x) 5 1 Tryz.underlying67 hsz hg1 (by simp only [Nat.min_def]; split <;> omega) rfl (fun j u hj => by rw [add_litZ, Nat.zero_add]; exact cell_whole hv1 hj) (by simp only [List.size_toArray, encStp_len]; omega) (oneStp x)
  have hfin : (W1.setRow g (cur1.toArray.toList.take (i * 5) ++ encStp x ++ cur1.toArray.toList.drop (i * 5 + (encStp x).length)).toArray).ownsRow base 88 5 (.slice (some ⟨g, 0, none⟩) (n + 1) cap) (n + 1) (X1 ++ (encStp x ++ X2)) := by
    have q := heap_setRow (cs := (cur1.toArray.toList.take (i * 5) ++ encStp x ++ cur1.toArray.toList.drop (i * 5 + (encStp x).length)).toArray) hg1
    have sr := shift_rows X1 X2 rest (encStp x) (i * 5) 5 l1 rfl (by have := congrArg List.length hcur; simp only [List.length_append] at this ⊢; omega)
    rw [hcur, ← Nat.succ_mul] at sr
    simp only [Nat.succ_eq_add_one] at sr
    rw [hcur1] at sr
    have q2 : cur1.toArray.toList.take (i * 5) ++ encStp x ++ cur1.toArray.toList.drop (i * 5 + (encStp x).length) = X1 ++ (encStp x ++ X2) ++ cur.drop ((i + 1) * 5 + X2.length) := sr
    rw [q2] at q ⊢
    exact own_mk hbg q (by omega) hcm' (by simp only [List.length_append, encStp_len]; omega) (by simp only [List.length_append, List.length_drop, encStp_len]; omega)
  have hgr : w.grownBy (W1.setRow g (cur1.toArray.toList.take (i * 5) ++ encStp x ++ cur1.toArray.toList.drop (i * 5 + (encStp x).length)).toArray) (some g) := grownBy_transZ gr1 (grownBy_setRow _ _ _)
  obtain ⟨W2, hW2⟩ : ∃ W2, W2 = W1.setRow g (cur1.toArray.toList.take (i * 5) ++ encStp x ++ cur1.toArray.toList.drop (i * 5 + (encStp x).length)).toArray := ⟨_, rfl⟩
  rw [← hW2] at hcp2 hfin hgr
  have hov : ∀ lb cb, (callFunc 201 #[.slice (some ⟨vb, 0, none⟩) 1 1, .slice (some ⟨g, (i + 1) * 5, none⟩) lb cb]).run Tryz.prog w = .ok (.value (.bool false)) w := fun lb cb => overP_any vb g _ lb cb _ _ w hvb hv hg (by simp only [List.size_toArray]; omega)
  have hb2 : ¬ (cap = i + 1) := by omega
  have hb4 : ¬ (cap = i) := by omega
  have htn : ((i : Int) + 1).toNat = i + 1 := by omega
  have hw1 : IntKind.i64.wrap ((i : Int) + 1) = (i : Int) + 1 := by rw [IntKind.wrap_i64]; omega
  have hbi : (0 : Int) ≤ (i : Int) + 1 := by omega
  have hb3 : (i : Int) ≤ (n : Int) + 1 := by omega
  have hin : i ≤ n := by omega
  have HC1 := Lib.hid hcp1
  have HC2 := Lib.hid hcp2
  have HF := Lib.hid hfin
  have HGR := Lib.hid hgr
  clear hcp1 hcp2 hfin hgr hW2 hW1 hcur1 lc1 hv1 gr1 hg1 gd hcur o2 hfl l1 l2 hX1 hX2 hrl hg hv hl hl2 hsz
  go_enter Tryz.func178, Tryz.ntmps178
  go_wp2_with (simp only [hov])
  go_region_law (refine step_copy_runZ rfl (.tmp 73) (.tmp 76) 67 67 rfl (.slice (some ⟨g, (i + 1) * 5, none⟩) (n - i) (cap - (i + 1))) (.slice (some ⟨g, i * 5, none⟩) (n + 1 - i) (cap - i)) (by simp [Act.eval, Act.put]) (by simp [Act.eval, Act.put]) (HC1.out 3 (cap - (i + 1)) (cap - i)) ?_)
  go_wp2_with (refine wpList_copy_runZ _ rfl (.tmp 80) (.tmp 81) 67 67 rfl (.slice (some ⟨g, i * 5, none⟩) (n + 1 - i) (cap - i)) (.slice (some ⟨vb, 0, none⟩) 1 1) rfl rfl (HC2.out 3 (cap - i)) ?_)
  go_ret
  exact ⟨_, rfl, HF.out, HGR.out⟩
set_option maxHeartbeats 4000000 in
set_option maxRecDepth 100000 in
theorem insP_grow (base g n i vb : Nat) (L1 L2 : List Stp) (x : Stp) (w : World) (hi : i < n) (hn : n ≤ 1000000) (hl : L1.length = i) (hl2 : L2.length = n - i) (hvb : vb ≠ g) (hbase : base ≤ w.heap.size)
    (hg : w.heap[g]? = some (.cells (flatE encStp L1 ++ flatE encStp L2).toArray 88 (0, 0)))
    (hv : w.heap[vb]? = some (.cells (encStp x).toArray 88 (0, 0))) :
    Calls Tryz.prog 178 #[.slice (some ⟨g, 0, none⟩) n n, .int .i64 i, .slice (some ⟨vb, 0, none⟩) 1 1] w fun e w' => ∃ v', e = .returned v' ∧ w'.ownsRow base 88 5 v' (n + 1) (flatE encStp (L1 ++ x :: L2)) ∧ w.grownBy w' (some g) := by
  have hsz : (Tryz.prog.info? 88).map (·.size) = some 5 := by kernel_rfl
  obtain ⟨i1, hi1, hz0, hz1, hz2⟩ := info_parts infoStp
  have hkint : ∃ k, Tryz.prog.underlying 3 = some (.int k) := ⟨_, Tryz.underlying3⟩
  obtain ⟨kn, hkn⟩ := hkint
  obtain ⟨X1, hX1⟩ : ∃ X, flatE encStp L1 = X := ⟨_, rfl⟩
  obtain ⟨X2, hX2⟩ : ∃ X, flatE encStp L2 = X := ⟨_, rfl⟩
  have l1 : X1.length = i * 5 := by rw [← hX1, flatE_length encStp_len, hl]
  have l2 : X2.length = (n - i) * 5 := by rw [← hX2, flatE_length encStp_len, hl2]
  have hfl : flatE encStp (L1 ++ x :: L2) = X1 ++ (encStp x ++ X2) := by rw [← hX1, ← hX2]; simp [flatE]
  have o2 : ∀ u ∈ X2, u.oneCell' = true := by rw [← hX2]; exact oneE oneStp L2
  rw [hX1, hX2] at hg
  rw [hfl]
  have hgN : g < w.heap.size := (Array.getElem?_eq_some_iff.1 hg).1
  have hvN : vb < w.heap.size := (Array.getElem?_eq_some_iff.1 hv).1
  have hik : i + (n + 1 - i) = n + 1 := by omega
  have hkk : (n : Int) + 1 - (i : Int) = ((n + 1 - i : Nat) : Int) := by omega
  have hold : (Builtin.firstCells i1.size i (.slice (some ⟨g, 0, none⟩) i n)).run Tryz.prog w.drew = .ok X1.toArray w.drew := by
    rw [hz1]
    exact run_firstCells_some w.drew 5 i ⟨g, 0, none⟩ i n X1 l1 (fun j u hj => by
      rw [add_litZ, Nat.zero_add]
      have hj2 : j < X1.length := (List.getElem?_eq_some_iff.1 hj).1
      exact cell_whole (w := w) hg (by rw [List.getElem?_append_left hj2]; exact hj))
  obtain ⟨G, hG⟩ : ∃ G, G = grownCap w (n + 1) n 88 := ⟨_, rfl⟩
  have hGn : n + 1 ≤ G := by rw [hG]; exact grownCap_ge w _ _ _
  have hGm : G ≤ maxLen := by rw [hG]; exact grownCap_le_maxLen w (n + 1) n 88 (by unfold maxLen; omega)
  have hG63 := hGm
  unfold maxLen at hG63
  obtain ⟨Z, hZ⟩ : ∃ Z : Value, Z = .agg #[.int .i64 0, .int .i64 0, .bool false, .int .i64 0, .int .i64 0] := ⟨_, rfl⟩
  have hzc : Z.cells.size = 5 := by rw [hZ]; rfl
  obtain ⟨W0, hW0⟩ : ∃ W0, W0 = w.drew.alloc (.cells (X1.toArray ++ Builtin.zeroCells Z.cells (n + 1 - i) ++ Builtin.zeroCells Z.cells (G - (n + 1))) 88) := ⟨_, rfl⟩
  have hrz : ∀ ty, (Builtin.append_ #[67, 3] ty #[.slice (some ⟨g, 0, none⟩) i n, .int .i64 ((n : Int) + 1 - (i : Int))]).run Tryz.prog w = .ok (.slice (some ⟨w.heap.size, 0, none⟩) (n + 1) G) W0 := fun ty => by
    have q := Lib.run_append_grow_zeros w 67 3 ty 88 i1 Z .i64 kn Tryz.underlying67 hkn hi1 (by rw [hz0, hZ]) (some ⟨g, 0, none⟩) i n X1 hold (n + 1 - i) (by omega) (by omega) (by omega) (by omega) (by rw [hz2]; omega) (by rw [hz2, hik]; exact growslice_fits (by omega) (by omega))
    rw [hik, ← hG] at q
    rw [hkk, hW0]
    exact q
  obtain ⟨R0, hR0⟩ : ∃ R0 : List Value, R0 = (Builtin.zeroCells Z.cells (n + 1 - i)).toList ++ (Builtin.zeroCells Z.cells (G - (n + 1))).toList := ⟨_, rfl⟩
  have lR0 : R0.length = (G - i) * 5 := by rw [hR0, List.length_append, Array.length_toList, Array.length_toList, size_zeroCells, size_zeroCells, hzc, ← Nat.add_mul]; congr 1; omega
  have g0 : W0.heap[w.heap.size]? = some (.cells (X1 ++ R0).toArray 88 (0, 0)) := by
    rw [hW0, hR0]
    have q := heap_alloc_new w.drew (.cells (X1.toArray ++ Builtin.zeroCells Z.cells (n + 1 - i) ++ Builtin.zeroCells Z.cells (G - (n + 1))) 88)
    refine Eq.trans q ?_
    congr 2
    apply Array.toList_inj.1
    simp
  have gr0 : w.grownBy W0 (some g) := by
    rw [hW0]
    have q := World.grownBy_alloc w.drew (.cells (X1.toArray ++ Builtin.zeroCells Z.cells (n + 1 - i) ++ Builtin.zeroCells Z.cells (G - (n + 1))) 88) (some g)
    exact ⟨q.os, q.tape, q.output, q.size, q.block⟩
  have og0 : W0.heap[g]? = some (.cells (X1 ++ X2).toArray 88 (0, 0)) := by
    rw [hW0]
    exact (heap_alloc_old w.drew _ hgN).trans hg
  have ov0 : W0.heap[vb]? = some (.cells (encStp x).toArray 88 (0, 0)) := (gr0.block vb hvN (by simpa using hvb)).trans hv
  -- the first copy
  obtain ⟨W1, hW1⟩ : ∃ W1, W1 = W0.setRow w.heap.size ((X1 ++ R0).toArray.toList.take (i * 5) ++ encStp x ++ (X1 ++ R0).toArray.toList.drop (i * 5 + (encStp x).length)).toArray := ⟨_, rfl⟩
  have hcp1 : ∀ ty dc, (Builtin.copy_ #[67, 67] ty #[.slice (some ⟨w.heap.size, i * 5, none⟩) (n + 1 - i) dc, .slice (some ⟨vb, 0, none⟩) 1 1]).run Tryz.prog W0 = .ok (goInt (1 : Nat)) W1 := fun ty dc => by
    rw [hW1]
    exact run_copy_rowZ W0 _ _ ty 88 w.heap.size (i * 5) (n + 1 - i) dc ⟨vb, 0, none⟩ 1 1 (X1 ++ R0).toArray 88 (encStp x) 5 1 Tryz.underlying67 hsz g0 (by simp only [Nat.min_def]; split <;> omega) rfl (fun j u hj => by rw [add_litZ, Nat.zero_add]; exact cell_whole ov0 hj) (by simp only [List.size_toArray, encStp_len, List.length_append]; omega) (oneStp x)
  have e1 : (X1 ++ R0).toArray.toList.take (i * 5) ++ encStp x ++ (X1 ++ R0).toArray.toList.drop (i * 5 + (encStp x).length) = X1 ++ encStp x ++ R0.drop (encStp x).length := by
    rw [List.toList_toArray, ← l1, List.take_left, List.drop_append]
    simp
  have g1 : W1.heap[w.heap.size]? = some (.cells (X1 ++ encStp x ++ R0.drop (encStp x).length).toArray 88 (0, 0)) := by rw [hW1, ← e1]; exact heap_setRow g0
  have gr1 : W0.grownBy W1 (some w.heap.size) := by rw [hW1]; exact grownBy_setRow _ _ _
  have og1 : W1.heap[g]? = some (.cells (X1 ++ X2).toArray 88 (0, 0)) := (gr1.block g (Nat.lt_of_lt_of_le hgN gr0.size) (by simp; omega)).trans og0
  -- the second copy
  obtain ⟨W2, hW2⟩ : ∃ W2, W2 = W1.drew.setRow w.heap.size ((X1 ++ encStp x ++ R0.drop (encStp x).length).toArray.toList.take ((i + 1) * 5) ++ X2 ++ (X1 ++ encStp x ++ R0.drop (encStp x).length).toArray.toList.drop ((i + 1) * 5 + X2.length)).toArray := ⟨_, rfl⟩
  have hcp2 : ∀ ty dc sc, (Builtin.copy_ #[67, 67] ty #[.slice (some ⟨w.heap.size, (i + 1) * 5, none⟩) (n - i) dc, .slice (some ⟨g, i * 5, none⟩) (n - i) sc]).run Tryz.prog W1.drew = .ok (goInt (n - i : Nat)) W2 := fun ty dc sc => by
    rw [hW2]
    refine run_copy_rowZ W1.drew _ _ ty 88 w.heap.size ((i + 1) * 5) (n - i) dc ⟨g, i * 5, none⟩ (n - i) sc (X1 ++ encStp x ++ R0.drop (encStp x).length).toArray 88 X2 5 (n - i) Tryz.underlying67 hsz g1 (by simp only [Nat.min_def]; split <;> omega) l2 (fun j u hj => ?_) (by simp only [List.size_toArray, encStp_len, List.length_append, List.length_drop]; omega) o2
    rw [add_litZ]
    exact cell_whole (w := W1) og1 (by rw [← l1, List.getElem?_append_right (by omega), Nat.add_sub_cancel_left]; exact hj)
  have e2 : (X1 ++ encStp x ++ R0.drop (encStp x).length).toArray.toList.take ((i + 1) * 5) ++ X2 ++ (X1 ++ encStp x ++ R0.drop (encStp x).length).toArray.toList.drop ((i + 1) * 5 + X2.length) = X1 ++ (encStp x ++ X2) ++ (X1 ++ encStp x ++ R0.drop (encStp x).length).drop ((i + 1) * 5 + X2.length) := by
    have el : (X1 ++ encStp x).length = (i + 1) * 5 := by simp only [List.length_append, encStp_len]; omega
    rw [List.toList_toArray, ← el, List.take_left]
    simp
  have g2 : W2.heap[w.heap.size]? = some (.cells (X1 ++ (encStp x ++ X2) ++ (X1 ++ encStp x ++ R0.drop (encStp x).length).drop ((i + 1) * 5 + X2.length)).toArray 88 (0, 0)) := by rw [hW2, ← e2]; exact heap_setRow (w := W1.drew) g1
  have gr2 : W1.grownBy W2 (some w.heap.size) := by
    rw [hW2]
    have q := grownBy_setRow W1.drew w.heap.size ((X1 ++ encStp x ++ R0.drop (encStp x).length).toArray.toList.take ((i + 1) * 5) ++ X2 ++ (X1 ++ encStp x ++ R0.drop (encStp x).length).toArray.toList.drop ((i + 1) * 5 + X2.length)).toArray
    exact ⟨q.os, q.tape, q.output, q.size, q.block⟩
  have hF : W2.ownsRow base 88 5 (.slice (some ⟨w.heap.size, 0, none⟩) (n + 1) G) (n + 1) (X1 ++ (encStp x ++ X2)) := own_mk hbase g2 hGn hGm (by simp only [List.length_append, encStp_len]; omega) (by simp only [List.length_append, List.length_drop, encStp_len]; omega)
  have hGR : w.grownBy W2 (some g) := by
    have q := grownBy_transZ gr1 gr2
    exact ⟨q.os.trans gr0.os, q.tape.trans gr0.tape, q.output.trans gr0.output, Nat.le_trans gr0.size q.size, fun k hk hne => (q.block k (Nat.lt_of_lt_of_le hk gr0.size) (by simp; omega)).trans (gr0.block k hk hne)⟩
  have hGi : ¬ (G = i) := by omega
  have hGim : ¬ (G = i + 1) := by omega
  have hci : ¬ (n = i) := by omega
  have htn : ((i : Int) + 1).toNat = i + 1 := by omega
  have hw1 : IntKind.i64.wrap ((i : Int) + 1) = (i : Int) + 1 := by rw [IntKind.wrap_i64]; omega
  have hbi : (0 : Int) ≤ (i : Int) + 1 := by omega
  have hin : i ≤ n := by omega
  have hin1 : (i : Int) ≤ n := by omega
  have hz3 : (n : Int) < (n : Int) + 1 := by omega
  have HZ := Lib.hid hrz
  have HC1 := Lib.hid hcp1
  have HC2 := Lib.hid hcp2
  have HF := Lib.hid hF
  have HGR := Lib.hid hGR
  clear hrz hcp1 hcp2 hF hGR hW2 hW1 hW0 e1 e2 g1 g2 gr0 gr1 gr2 og0 og1 ov0 g0 lR0 hR0 hzc hZ hG hGm hold hkk hik o2 hfl l1 l2 hX1 hX2 hg hv hl hl2 hsz hz0 hz1 hz2 hi1 hkn
  go_enter Tryz.func178, Tryz.ntmps178
  go_wp2_with (first
    | (at_builtin; refine Lib.wpList_append_run _ rfl (.tmp 34) (.tmp 39) 67 3 rfl (.slice (some ⟨g, 0, none⟩) i n) (.int .i64 ((n : Int) + 1 - (i : Int))) rfl rfl (.slice (some ⟨w.heap.size, 0, none⟩) (n + 1) G) W0 (HZ.out 67) ?_)
    | (refine wpList_copy_runZ _ rfl (.tmp 43) (.tmp 44) 67 67 rfl (.slice (some ⟨w.heap.size, i * 5, none⟩) (n + 1 - i) (G - i)) (.slice (some ⟨vb, 0, none⟩) 1 1) rfl rfl (HC1.out 3 (G - i)) ?_))
  go_region_law (refine step_copy_runZ rfl (.tmp 50) (.tmp 53) 67 67 rfl (.slice (some ⟨w.heap.size, (i + 1) * 5, none⟩) (n - i) (G - (i + 1))) (.slice (some ⟨g, i * 5, none⟩) (n - i) (n - i)) (by simp [Act.eval, Act.put]) (by simp [Act.eval, Act.put]) (HC2.out 3 (G - (i + 1)) (n - i)) ?_)
  go_wp2
  go_ret
  exact ⟨_, rfl, HF.out, HGR.out⟩
/-- an element is put in -/
theorem insP_any (base : Nat) (v : Value) (n i vb : Nat) (L : List Stp) (x : Stp) (w : World) (hown : w.ownsRow base 88 5 v n (flatE encStp L)) (hn : n ≤ 1000000) (hi : i ≤ n) (hl : L.length = n) (hbase : base ≤ w.heap.size)
    (hv : w.heap[vb]? = some (.cells (encStp x).toArray 88 (0, 0))) (hvb : v.ownBlock ≠ some vb) :
    Calls Tryz.prog 178 #[v, .int .i64 i, .slice (some ⟨vb, 0, none⟩) 1 1] w fun e w' => ∃ v', e = .returned v' ∧ w'.ownsRow base 88 5 v' (n + 1) (flatE encStp (L.take i ++ x :: L.drop i)) ∧ w.grownBy w' v.ownBlock := by
  by_cases hin : i = n
  · subst hin
    rw [List.take_of_length_le (by omega), List.drop_of_length_le (by omega)]
    exact insP_end base v i vb L x w hown hn hl hbase hv
  · obtain ⟨g, cap, rest, rfl, hbg, hg, hnc, hcm, hxl, hrl⟩ := own_whole hown (by omega)
    have hs : flatE encStp (L.take i) ++ flatE encStp (L.drop i) = flatE encStp L := by rw [← flatE_append, List.take_append_drop]
    have hne : vb ≠ g := fun h => hvb (by simp [Value.ownBlock, h])
    by_cases hr : n + 1 ≤ cap
    · exact insP_shift base g cap n i vb (L.take i) (L.drop i) x rest w (by omega) hn (by simp; omega) (by simp; omega) hr hcm hne hbg (by rw [hs]; exact hg) (by rw [hs]; exact hrl) hv
    · have hcn : cap = n := by omega
      subst hcn
      have hrest : rest = [] := by
        apply List.eq_nil_of_length_eq_zero
        simp only [List.length_append] at hrl
        omega
      subst hrest
      rw [List.append_nil] at hg
      exact insP_grow base g cap i vb (L.take i) (L.drop i) x w (by omega) hn (by simp; omega) (by simp; omega) hne hbase (by rw [hs]; exact hg) hv
set_option maxHeartbeats 4000000 in
set_option maxRecDepth 100000 in
theorem delP_any (base : Nat) (v : Value) (n i : Nat) (L1 L2 : List Stp) (y : Stp) (w : World) (hown : w.ownsRow base 88 5 v n (flatE encStp (L1 ++ y :: L2))) (hn : n ≤ 1000000) (hl : L1.length = i) (hl2 : L2.length + i + 1 = n) :
    Calls Tryz.prog 179 #[v, .int .i64 i, .int .i64 ((i : Int) + 1)] w fun e w' => ∃ v', e = .returned v' ∧ w'.ownsRow base 88 5 v' (n - 1) (flatE encStp (L1 ++ L2)) ∧ w.grownBy w' v.ownBlock := by
  obtain ⟨g, cap, rest, rfl, hbg, hg, hnc, hcm, hxl, hrl⟩ := own_whole hown (by omega)
  have hcm' := hcm
  unfold maxLen at hcm
  obtain ⟨i1, hi1, hz0, hz1, hz2⟩ := info_parts infoStp
  obtain ⟨X1, hX1⟩ : ∃ X, flatE encStp L1 = X := ⟨_, rfl⟩
  obtain ⟨X2, hX2⟩ : ∃ X, flatE encStp L2 = X := ⟨_, rfl⟩
  have l1 : X1.length = i * 5 := by rw [← hX1, flatE_length encStp_len, hl]
  have l2 : X2.length = (n - (i + 1)) * 5 := by rw [← hX2, flatE_length encStp_len]; congr 1; omega
  have hfl : flatE encStp (L1 ++ y :: L2) = X1 ++ (encStp y ++ X2) := by rw [← hX1, ← hX2]; simp [flatE]
  have hfl2 : flatE encStp (L1 ++ L2) = X1 ++ X2 := by rw [← hX1, ← hX2]; simp [flatE]
  have o2 : ∀ u ∈ X2, u.oneCell' = true := by rw [← hX2]; exact oneE oneStp L2
  have lE : (encStp y).length = 5 := rfl
  obtain ⟨Y, hY⟩ : ∃ Y, encStp y = Y := ⟨_, rfl⟩
  rw [hfl] at hg hrl
  rw [hfl2]
  rw [hY] at hg hrl lE
  have hown' := hown
  rw [hfl, hY] at hown'
  obtain ⟨cur, hcur⟩ : ∃ c, X1 ++ (Y ++ X2) ++ rest = c := ⟨_, rfl⟩
  rw [hcur] at hg hrl
  have gd : w.drew.heap[g]? = some (.cells cur.toArray 88 (0, 0)) := hg
  obtain ⟨W1, hW1⟩ : ∃ W1, W1 = w.drew.setRow g ((cur.toArray.toList.take (i * i1.size) ++ X2 ++ cur.toArray.toList.drop (i * i1.size + X2.length)).toArray) := ⟨_, rfl⟩
  have hap : ∀ ty a dc, (X2.length ≠ 0 → a = ⟨g, (i + 1) * 5, none⟩) → (Builtin.append_ #[67, 67] ty #[.slice (some ⟨g, 0, none⟩) i cap, .slice (some a) (n - (i + 1)) dc]).run Tryz.prog w.drew = .ok (.slice (some ⟨g, 0, none⟩) (i + (n - (i + 1))) cap) W1 := fun ty a dc ha => by
    rw [hW1]
    refine run_append_room w.drew 67 ty 88 i1 Tryz.underlying67 hi1 g i cap cur.toArray gd a (n - (i + 1)) dc X2 (by rw [hz1]; exact l2) (fun j u hj => ?_) o2 (by omega) (by rw [hz1]; simp only [List.size_toArray]; omega)
    have hj2 : j < X2.length := (List.getElem?_eq_some_iff.1 hj).1
    rw [ha (by omega), add_litZ]
    refine cell_whole gd ?_
    rw [← hcur, List.append_assoc, List.getElem?_append_right (by omega), l1, List.append_assoc, List.getElem?_append_right (by omega), lE, List.getElem?_append_left (by omega), show (i + 1) * 5 + j - i * 5 - 5 = j by omega]
    exact hj
  have e1 : cur.toArray.toList.take (i * i1.size) ++ X2 ++ cur.toArray.toList.drop (i * i1.size + X2.length) = (X1 ++ X2) ++ cur.drop (i * 5 + X2.length) := by
    rw [hz1, List.toList_toArray, ← l1, ← hcur, List.append_assoc X1, List.take_left]
  obtain ⟨D, hD⟩ : ∃ D, cur.drop (i * 5 + X2.length) = D := ⟨_, rfl⟩
  have lD : D.length + i * 5 + X2.length = cap * 5 := by rw [← hD, List.length_drop]; omega
  rw [hD] at e1
  have g1 : W1.heap[g]? = some (.cells ((X1 ++ X2) ++ D).toArray 88 (0, 0)) := by rw [hW1, ← e1]; exact heap_setRow gd
  have gr1 : w.grownBy W1 (some g) := by
    have q := grownBy_setRow w.drew g ((cur.toArray.toList.take (i * i1.size) ++ X2 ++ cur.toArray.toList.drop (i * i1.size + X2.length)).toArray)
    rw [hW1]; exact ⟨q.os, q.tape, q.output, q.size, q.block⟩
  obtain ⟨Z, hZ⟩ : ∃ Z : Value, Z = .agg #[.int .i64 0, .int .i64 0, .bool false, .int .i64 0, .int .i64 0] := ⟨_, rfl⟩
  have hzl : (Builtin.zeroCells Z.cells 1).toList.length = 5 := by rw [Array.length_toList, size_zeroCells, hZ]; rfl
  have hzo : ∀ u ∈ (Builtin.zeroCells Z.cells 1).toList, u.oneCell' = true := by
    rw [hZ]
    intro u hu
    have : (Builtin.zeroCells (Value.agg #[.int .i64 0, .int .i64 0, .bool false, .int .i64 0, .int .i64 0]).cells 1).toList = [.int .i64 0, .int .i64 0, .bool false, .int .i64 0, .int .i64 0] := by simp [Builtin.zeroCells, Value.cells, List.range_succ]
    rw [this] at hu
    simp only [List.mem_cons, List.not_mem_nil, or_false] at hu
    rcases hu with rfl | rfl | rfl | rfl | rfl <;> rfl
  obtain ⟨W2, hW2⟩ : ∃ W2, W2 = W1.setRow g (((X1 ++ X2) ++ D).toArray.toList.take ((n - 1) * 5) ++ (Builtin.zeroCells Z.cells 1).toList ++ ((X1 ++ X2) ++ D).toArray.toList.drop ((n - 1) * 5 + (Builtin.zeroCells Z.cells 1).toList.length)).toArray := ⟨_, rfl⟩
  have hcl : ∀ ty dc, (Builtin.clear_ #[67] ty #[.slice (some ⟨g, (n - 1) * 5, none⟩) 1 dc]).run Tryz.prog W1 = .ok (.tuple #[]) W2 := fun ty dc => by
    rw [hW2]
    exact run_clear_rowZ W1 67 88 ty i1 Z g ((n - 1) * 5) 1 dc _ 88 Tryz.underlying67 hi1 (by rw [hz0, hZ]) g1 (by rw [hzl]; simp only [List.size_toArray, List.length_append]; omega) hzo
  have e2 : ((X1 ++ X2) ++ D).toArray.toList.take ((n - 1) * 5) ++ (Builtin.zeroCells Z.cells 1).toList ++ ((X1 ++ X2) ++ D).toArray.toList.drop ((n - 1) * 5 + (Builtin.zeroCells Z.cells 1).toList.length) = (X1 ++ X2) ++ ((Builtin.zeroCells Z.cells 1).toList ++ D.drop (Builtin.zeroCells Z.cells 1).toList.length) := by
    have el : (X1 ++ X2).length = (n - 1) * 5 := by simp only [List.length_append]; omega
    rw [List.toList_toArray, ← el, List.take_left, List.drop_append]
    simp
  have g2 : W2.heap[g]? = some (.cells ((X1 ++ X2) ++ ((Builtin.zeroCells Z.cells 1).toList ++ D.drop (Builtin.zeroCells Z.cells 1).toList.length)).toArray 88 (0, 0)) := by rw [hW2, ← e2]; exact heap_setRow g1
  have hF : W2.ownsRow base 88 5 (.slice (some ⟨g, 0, none⟩) (n - 1) cap) (n - 1) (X1 ++ X2) := own_mk hbg g2 (by omega) hcm' (by simp only [List.length_append]; omega) (by simp only [List.length_append, List.length_drop]; omega)
  have hGR : w.grownBy W2 (some g) := by rw [hW2]; exact grownBy_transZ gr1 (grownBy_setRow _ _ _)
  have hin : i + (n - (i + 1)) = n - 1 := by omega
  rw [hin] at hap
  have hX2l : X2.length ≠ 0 → i + 1 < n := by omega
  have HA := Lib.hid hap
  have HC := Lib.hid hcl
  have HF := Lib.hid hF
  have HGR := Lib.hid hGR
  have H2 := Lib.hid l2
  have hil : i < n := by omega
  clear hap hcl hF hGR hW2 hW1 e1 e2 g1 g2 gr1 hD lD hzl hzo hZ hin gd hcur hown hown' hY lE o2 hfl hfl2 l1 l2 hX1 hX2 hg hrl hl hl2 hxl hz0 hz1 hz2 hi1
  have htn : ((i : Int) + 1).toNat = i + 1 := by omega
  have hbi : (0 : Int) ≤ (i : Int) + 1 := by omega
  have hcn : ¬ (cap = n - 1) := by omega
  have hn1 : i + 1 ≤ n := by omega
  have hn2 : (i : Int) + 1 ≤ n := by omega
  have hni : ¬ (n = i) := by omega
  have hnn : n - (n - 1) = 1 := by omega
  have hz0 : ¬ (n - 1 = cap) := by omega
  have hii : i < n := by omega
  have hic : i ≤ cap := by omega
  have hcast : ((n : Int) - 1) = ((n - 1 : Nat) : Int) := by omega
  by_cases hcap : cap = i + 1
  · have hif : (cap = i + 1) = True := eq_true hcap
    have HCAP := Lib.hid hcap
    clear hcap
    go_enter Tryz.func179, Tryz.ntmps179
    go_wp2
    go_region_law (refine step_append_runZ rfl (.tmp 22) (.tmp 25) 67 67 rfl (.slice (some ⟨g, 0, none⟩) i cap) (.slice (some ⟨g, 0, none⟩) (n - (i + 1)) (cap - (i + 1))) (by simp [Act.eval, Act.put]) (by simp [Act.eval, Act.put]) (HA.out 67 ⟨g, 0, none⟩ (cap - (i + 1)) (fun h => absurd (hX2l h) (by have := HCAP.out; clear hif; omega))) ?_)
    go_wp2_with (refine wpList_clear_runZ _ rfl (.tmp 31) 67 rfl (.slice (some ⟨g, (n - 1) * 5, none⟩) 1 (cap - (n - 1))) rfl (HC.out 0 (cap - (n - 1))) ?_)
    go_ret
    exact ⟨_, rfl, HF.out, HGR.out⟩
  · go_enter Tryz.func179, Tryz.ntmps179
    go_wp2
    go_region_law (refine step_append_runZ rfl (.tmp 22) (.tmp 25) 67 67 rfl (.slice (some ⟨g, 0, none⟩) i cap) (.slice (some ⟨g, (i + 1) * 5, none⟩) (n - (i + 1)) (cap - (i + 1))) (by simp [Act.eval, Act.put]) (by simp [Act.eval, Act.put]) (HA.out 67 ⟨g, (i + 1) * 5, none⟩ (cap - (i + 1)) (fun _ => rfl)) ?_)
    go_wp2_with (refine wpList_clear_runZ _ rfl (.tmp 31) 67 rfl (.slice (some ⟨g, (n - 1) * 5, none⟩) 1 (cap - (n - 1))) rfl (HC.out 0 (cap - (n - 1))) ?_)
    go_ret
    exact ⟨_, rfl, HF.out, HGR.out⟩
end Go.Proofs.YthhoaefadfeknaaGreat
namespace Go.Proofs.YthhoaefadfeknaaGreat
open Go.RowKit
set_option linter.unusedVariables false
set_option linter.unusedSimpArgs false
/-- a key is there -/
def isP (L : List Stp) (s d : Int) (p : Bool) (h : Int) : Bool := match L[posP L s d p h]? with | some x => eqS x s d p h | none => false
theorem lt_posP {L : List Stp} {s d : Int} {p : Bool} {h : Int} (hs : srtP L) {m : Nat} {x : Stp} (hx : L[m]? = some x) : ltS x s d p h = decide (m < posP L s d p h) := by
  by_cases hm : m < posP L s d p h
  · rw [posP_lt hm hx]; simp [hm]
  · rw [posP_ge hs (by omega) hx]; simp [hm]
set_option maxHeartbeats 4000000 in
set_option maxRecDepth 100000 in
theorem bsP_any (P : Nat → Prop) (v : Value) (L : List Stp) (s d : Int) (p : Bool) (h a : Int) (w : World) (hS : Sl 5 encStp P w v L) (hsrt : srtP L) (hlen : L.length ≤ 1000000) :
    Calls Tryz.prog 177 #[v, .agg #[.int .i64 s, .int .i64 d, .bool p, .int .i64 h, .int .i64 a], .func (.func 105) #[] #[]] w fun e w' => e = .returned (.tuple #[.int .i64 (posP L s d p h), .bool (isP L s d p h)]) ∧ Below w.heap.size w w' := by
  obtain ⟨ao, n, c, rfl, hn, hnc, hcm⟩ := hS.shape
  have hn1 : n ≤ 1000000 := by omega
  have hple := posP_le L s d p h
  rw [hn] at hple
  have HLT := Lib.hid (fun (m : Nat) (x : Stp) (hx : L[m]? = some x) => lt_posP (s := s) (d := d) (p := p) (h := h) hsrt hx)
  obtain ⟨pp, hp⟩ : ∃ pp, posP L s d p h = pp := ⟨_, rfl⟩
  obtain ⟨b, hb⟩ : ∃ b, isP L s d p h = b := ⟨_, rfl⟩
  rw [hp] at HLT hple
  rw [hp, hb]
  have HS := Lib.hid hS
  have HN := Lib.hid hn
  have HP := Lib.hid hp
  have HB := Lib.hid hb
  clear hS hn hp hb hlen
  go_enter Tryz.func177, Tryz.ntmps177
  go_wp2
  go_loopw [9, 10] (fun iv jv wr => ∃ i j : Nat, i ≤ pp ∧ pp ≤ j ∧ j ≤ n ∧ iv = .int .i64 i ∧ jv = .int .i64 j ∧ Below w.heap.size w wr ∧ w.heap.size < wr.heap.size ∧ wr.cell? ⟨w.heap.size, 0, none⟩ = some (.int .i64 s) ∧ wr.cell? ⟨w.heap.size, 1, none⟩ = some (.int .i64 d) ∧ wr.cell? ⟨w.heap.size, 2, none⟩ = some (.bool p) ∧ wr.cell? ⟨w.heap.size, 3, none⟩ = some (.int .i64 h) ∧ wr.cell? ⟨w.heap.size, 4, none⟩ = some (.int .i64 a)) (fun iv jv _ => (intOf jv).toNat - (intOf iv).toNat)
  case atStart => exact ⟨0, n, by omega, hple, by omega, rfl, rfl, bal brefl _, by simp, by simp, by simp, by simp, by simp, by simp⟩
  case round =>
    obtain ⟨i, j, hip, hpj, hjn, rfl, rfl, hbr, hlt, b0, b1, b2, b3, b4⟩ := hrel
    by_cases hij : i < j
    · obtain ⟨b', off, xs, xd, xp, xh, xa, rfl, -, hb', hL, k0, k1, k2, k3, k4⟩ := (HS.out.below hbr).stp (k := (i + j) / 2) (by omega)
      have hm := HLT.out _ _ hL
      obtain ⟨q, hq⟩ : ∃ q, cmpS ⟨xs, xd, xp, xh, xa⟩ ⟨s, d, p, h, a⟩ = q := ⟨_, rfl⟩
      have hq' : decide (q < 0) = decide ((i + j) / 2 < pp) := by rw [← hm, ← hq]; exact cmpS_lt ⟨xs, xd, xp, xh, xa⟩ ⟨s, d, p, h, a⟩
      rw [decide_eq_decide] at hq'
      have HQ := Lib.hid hq
      have zr := hbr.size
      clear hL hm hq
      have m0 : (0 : Int) ≤ ((i : Int) + j) / 2 := by omega
      have m1 : ((i : Int) + j) / 2 < n := by omega
      have e0 : (((i : Int) + j) / 2).toNat = (i + j) / 2 := by omega
      by_cases hlt' : q < 0
      all_goals
        have hx := hq'
        clear hq'
        go_wp2
        go_region_held3 (fun w' => w'.cell? ⟨b', off + (i + j) / 2 * 5, none⟩ = some (.int .i64 xs) ∧ w'.cell? ⟨b', off + (i + j) / 2 * 5 + 1, none⟩ = some (.int .i64 xd) ∧ w'.cell? ⟨b', off + (i + j) / 2 * 5 + 2, none⟩ = some (.bool xp) ∧ w'.cell? ⟨b', off + (i + j) / 2 * 5 + 3, none⟩ = some (.int .i64 xh) ∧ w'.cell? ⟨b', off + (i + j) / 2 * 5 + 4, none⟩ = some (.int .i64 xa) ∧ w'.cell? ⟨w.heap.size, 0, none⟩ = some (.int .i64 s) ∧ w'.cell? ⟨w.heap.size, 1, none⟩ = some (.int .i64 d) ∧ w'.cell? ⟨w.heap.size, 2, none⟩ = some (.bool p) ∧ w'.cell? ⟨w.heap.size, 3, none⟩ = some (.int .i64 h) ∧ w'.cell? ⟨w.heap.size, 4, none⟩ = some (.int .i64 a)) (first | (refine ⟨keepB hb1 ?_, keepB hb1 ?_, keepB hb1 ?_, keepB hb1 ?_, keepB hb1 ?_, keepB hb1 ?_, keepB hb1 ?_, keepB hb1 ?_, keepB hb1 ?_, keepB hb1 ?_⟩ <;> first | assumption | (simp; done) | (simp [*]; done)) | go_keep) (first | (go_at_call 105; refine (stcompare_any _ _ _ _ _ _ _ _ _ _ _).mono ?_; rw [HQ.out]; rintro e w1 ⟨rfl, hb1⟩))
        go_wp2
        go_roundw
        case rel => first
          | exact ⟨(i + j) / 2 + 1, j, by omega, by omega, by omega, by go_num, rfl, bup hbr (bup (bdr brefl) hb1), by have := hb1.size; simp at this; omega, by simp [*], by simp [*], by simp [*], by simp [*], by simp [*]⟩
          | exact ⟨i, (i + j) / 2, by omega, by omega, by omega, rfl, by go_num, bup hbr (bup (bdr brefl) hb1), by have := hb1.size; simp at this; omega, by simp [*], by simp [*], by simp [*], by simp [*], by simp [*]⟩
        case measure => simp [intOf]; omega
    · obtain rfl : i = j := by omega
      obtain rfl : i = pp := by omega
      by_cases hpn : i < n
      · obtain ⟨b', off, xs, xd, xp, xh, xa, rfl, -, hb', hL, k0, k1, k2, k3, k4⟩ := (HS.out.below hbr).stp (k := i) (by omega)
        obtain ⟨q, hq⟩ : ∃ q, cmpS ⟨xs, xd, xp, xh, xa⟩ ⟨s, d, p, h, a⟩ = q := ⟨_, rfl⟩
        have he : (q == 0) = b := by
          rw [← hq, ← HB.out]; unfold isP; rw [HP.out, hL]; exact cmpS_eq ⟨xs, xd, xp, xh, xa⟩ ⟨s, d, p, h, a⟩
        have HQ := Lib.hid hq
        have HE := Lib.hid he
        have zr := hbr.size
        have hpn1 : (i : Int) < n := by omega
        have hd : decide (i < n) = true := by simp; omega
        clear hL hq he
        go_wp2
        go_region_held3 (fun w' => w'.cell? ⟨b', off + i * 5, none⟩ = some (.int .i64 xs) ∧ w'.cell? ⟨b', off + i * 5 + 1, none⟩ = some (.int .i64 xd) ∧ w'.cell? ⟨b', off + i * 5 + 2, none⟩ = some (.bool xp) ∧ w'.cell? ⟨b', off + i * 5 + 3, none⟩ = some (.int .i64 xh) ∧ w'.cell? ⟨b', off + i * 5 + 4, none⟩ = some (.int .i64 xa) ∧ w'.cell? ⟨w.heap.size, 0, none⟩ = some (.int .i64 s) ∧ w'.cell? ⟨w.heap.size, 1, none⟩ = some (.int .i64 d) ∧ w'.cell? ⟨w.heap.size, 2, none⟩ = some (.bool p) ∧ w'.cell? ⟨w.heap.size, 3, none⟩ = some (.int .i64 h) ∧ w'.cell? ⟨w.heap.size, 4, none⟩ = some (.int .i64 a)) (first | (refine ⟨keepB hb1 ?_, keepB hb1 ?_, keepB hb1 ?_, keepB hb1 ?_, keepB hb1 ?_, keepB hb1 ?_, keepB hb1 ?_, keepB hb1 ?_, keepB hb1 ?_, keepB hb1 ?_⟩ <;> first | assumption | (simp; done) | (simp [*]; done)) | go_keep) (first | (go_at_call 105; refine (stcompare_any _ _ _ _ _ _ _ _ _ _ _).mono ?_; rw [HQ.out]; rintro e w1 ⟨rfl, hb1⟩))
        go_wp2
        go_ret2
        exact ⟨ret_tib ⟨rfl, HE.out⟩, bup hbr (bup (bdr brefl) hb1)⟩
      · have hd : decide (i < n) = false := by simpa using hpn
        have hpn1 : ¬ (i : Int) < n := by omega
        have he : b = false := by
          rw [← HB.out]; unfold isP; rw [HP.out, List.getElem?_eq_none (by have := HN.out; omega)]
        subst he
        go_wp2
        go_quiet (fail)
        go_wp2
        go_ret2
        exact ⟨rfl, below_drewZ hbr _⟩
theorem heldP_is {L : List Stp} {s d : Int} {p : Bool} {h : Int} (hs : srtP L) : heldP L s d p h = (match L[posP L s d p h]? with | some x => if isP L s d p h then x.a else 0 | none => 0) := by
  rw [heldP_pos hs]
  unfold isP
  cases L[posP L s d p h]? <;> rfl
set_option maxHeartbeats 1000000 in
theorem stheld_any (P : Nat → Prop) (v : Value) (L : List Stp) (s d : Int) (p : Bool) (h a : Int) (w : World) (hS : Sl 5 encStp P w v L) (hsrt : srtP L) (hlen : L.length ≤ 1000000) :
    Calls Tryz.prog 121 #[v, .agg #[.int .i64 s, .int .i64 d, .bool p, .int .i64 h, .int .i64 a]] w fun e w' => e = .returned (.int .i64 (heldP L s d p h)) ∧ Below w.heap.size w w' := by
  have H := bsP_any P v L s d p h a (w.alloc (.cells #[.int .i64 s, .int .i64 d, .bool p, .int .i64 h, .int .i64 a] 88)) (hS.alloc _) hsrt hlen
  obtain ⟨ao, n, c, rfl, hn, hnc, hcm⟩ := hS.shape
  rw [heldP_is hsrt]
  obtain ⟨q, hq⟩ : ∃ q, posP L s d p h = q := ⟨_, rfl⟩
  cases hi : isP L s d p h
  · rw [hi] at H
    have e0 : (match L[posP L s d p h]? with | some x => if false = true then x.a else 0 | none => 0) = 0 := by split <;> rfl
    rw [e0]
    rw [hq] at H
    have HH := Lib.hid H
    clear H hS hsrt hlen e0 hq hi
    go_enter Tryz.func121, Tryz.ntmps121
    go_wp2_with fail
    refine HH.out.mono ?_
    rintro e w1 ⟨rfl, hb1⟩
    go_wp2
    go_ret
    exact ⟨rfl, bup (bal brefl _) hb1⟩
  · rw [hi] at H
    have hql : q < n := by
      unfold isP at hi
      rw [hq] at hi
      rcases Nat.lt_or_ge q L.length with h1 | h1
      · omega
      · rw [List.getElem?_eq_none h1] at hi; simp at hi
    rw [hq] at H ⊢
    obtain ⟨b, off, xs, xd, xp, xh, xa, rfl, -, hb', hL, k0, k1, k2, k3, k4⟩ := hS.stp hql
    rw [hL]
    simp only [if_true]
    have HH := Lib.hid H
    have qz : (q : Int) < (n : Int) := by omega
    clear H hS hsrt hlen hq hi hL
    go_enter Tryz.func121, Tryz.ntmps121
    go_wp2_with fail
    refine HH.out.mono ?_
    rintro e w1 ⟨rfl, hb1⟩
    have HB := Lib.hid (bup (bal brefl _) hb1)
    have k4' := keepB HB.out k4
    go_wp2
    go_ret
    exact ⟨rfl, HB.out⟩
end Go.Proofs.YthhoaefadfeknaaGreat
namespace Go.Proofs.YthhoaefadfeknaaGreat
open Go.RowKit
set_option linter.unusedVariables false
set_option linter.unusedSimpArgs false
theorem flatP_set (L1 L2 : List Stp) (s d : Int) (p : Bool) (h a y : Int) (q : Nat) (hq : L1.length = q) : (flatE encStp (L1 ++ ⟨s, d, p, h, a⟩ :: L2)).set (q * 5 + 4) (.int .i64 y) = flatE encStp (L1 ++ ⟨s, d, p, h, y⟩ :: L2) := by
  have hl : (flatE encStp L1).length = q * 5 := by rw [flatE_length encStp_len, hq]
  have e : ∀ b, flatE encStp (L1 ++ ⟨s, d, p, h, b⟩ :: L2) = flatE encStp L1 ++ (.int .i64 s :: .int .i64 d :: .bool p :: .int .i64 h :: .int .i64 b :: flatE encStp L2) := fun b => by simp [flatE, encStp]
  rw [e, e, List.set_append_right _ _ (by omega), hl, Nat.add_sub_cancel_left]
  rfl
theorem flatP_at (L1 L2 : List Stp) (s d : Int) (p : Bool) (h a : Int) (q : Nat) (hq : L1.length = q) {w : World} {g : Nat} {T : TypeId} {rest : List Value} (hg : w.heap[g]? = some (.cells (flatE encStp (L1 ++ ⟨s, d, p, h, a⟩ :: L2) ++ rest).toArray T (0, 0))) : w.cell? ⟨g, q * 5 + 4, none⟩ = some (.int .i64 a) := by
  refine cell_whole hg ?_
  have hl : (flatE encStp L1).length = q * 5 := by rw [flatE_length encStp_len, hq]
  have e : flatE encStp (L1 ++ ⟨s, d, p, h, a⟩ :: L2) = flatE encStp L1 ++ (.int .i64 s :: .int .i64 d :: .bool p :: .int .i64 h :: .int .i64 a :: flatE encStp L2) := by simp [flatE, encStp]
  rw [e, List.append_assoc, List.getElem?_append_right (by omega), hl, Nat.add_sub_cancel_left]
  rfl
/-- a block that is no row of strips -/
def NoRowP (w : World) (k : Nat) : Prop := ∀ cur, w.heap[k]? ≠ some (.cells cur 88 (0, 0))
/-- all that lies below base stays, and all that is no row of strips -/
def FrP (base : Nat) (w w' : World) : Prop := Below base w w' ∧ ∀ k, k < w.heap.size → NoRowP w k → w'.heap[k]? = w.heap[k]?
/-- what add leaves -/
def AddP (base : Nat) (M : List Stp) (w : World) (e : Ending) (w' : World) : Prop := ∃ v', e = .returned v' ∧ w'.ownsRow base 88 5 v' M.length (flatE encStp M) ∧ FrP base w w'
theorem FrP.trans {base : Nat} {a b c : World} (h : FrP base a b) (k : FrP base b c) : FrP base a c :=
  ⟨h.1.trans k.1, fun i hi hn => (k.2 i (Nat.lt_of_lt_of_le hi h.1.size) (fun cur hc => hn cur ((h.2 i hi hn).symm.trans hc))).trans (h.2 i hi hn)⟩
theorem FrP.below {base : Nat} {a b : World} (h : Below a.heap.size a b) (hb : base ≤ a.heap.size) : FrP base a b := ⟨h.mono hb, fun k hk _ => h.block k hk⟩
theorem FrP.grown {base n : Nat} {w a b : World} {v : Value} {xs : List Value} (ho : w.ownsRow base 88 5 v n xs) (hwa : Below w.heap.size w a) (hb : base ≤ w.heap.size) (h : a.grownBy b v.ownBlock) : FrP base w b := by
  have hne : ∀ k, k < w.heap.size → (k < base ∨ NoRowP w k) → some k ≠ v.ownBlock := by
    intro k hk hn hq
    rcases ho.2 with ⟨rfl, -⟩ | ⟨g, cap, cur, rfl, hbg, hg, -⟩
    · simp [Value.ownBlock] at hq
    · simp only [Value.ownBlock, Option.some.injEq] at hq
      subst hq
      rcases hn with hn | hn
      · omega
      · exact hn cur hg
  refine ⟨⟨h.os.trans hwa.os, h.tape.trans hwa.tape, h.output.trans hwa.output, Nat.le_trans hwa.size h.size, fun k hk => ?_⟩, fun k hk hn => ?_⟩
  · exact (h.block k (by have := hwa.size; omega) (hne k (by omega) (.inl hk))).trans (hwa.block k (by omega))
  · exact (h.block k (by have := hwa.size; omega) (hne k hk (.inr hn))).trans (hwa.block k hk)
/-- a store to a row of strips that lies from base on -/
theorem FrP.set {base n : Nat} {w w2 : World} {g cap o : Nat} {xs : List Value} {u : Value} (h : FrP base w w2) (ho : w2.ownsRow base 88 5 (.slice (some ⟨g, 0, none⟩) n cap) n xs) : FrP base w (w2.setCell ⟨g, o, none⟩ u) := by
  have hb := (ho.lt g rfl).1
  refine ⟨h.1.setCell hb _, fun k hk hn => ?_⟩
  have hkg : k ≠ g := by
    intro he
    rcases ho.2 with ⟨h1, -⟩ | ⟨g', cap', cur, h1, hbg, hg, -⟩
    · cases h1
    · cases h1
      have h2 := h.2 k hk hn
      rw [he, hg] at h2
      rw [he] at hn
      exact hn cur h2.symm
  rw [Below.heap_setCell _ _ _ _ (by simp only; omega)]
  exact h.2 k hk hn
set_option maxHeartbeats 2000000 in
theorem stadd_there (base : Nat) (v : Value) (L1 L2 : List Stp) (s d : Int) (p : Bool) (u x0 a n : Int) (w : World) (hown : w.ownsRow base 88 5 v (L1 ++ ⟨s, d, p, u, a⟩ :: L2).length (flatE encStp (L1 ++ ⟨s, d, p, u, a⟩ :: L2))) (hbase : base ≤ w.heap.size)
    (hp : posP (L1 ++ ⟨s, d, p, u, a⟩ :: L2) s d p u = L1.length) (hs : srtP (L1 ++ ⟨s, d, p, u, a⟩ :: L2)) (hlen : (L1 ++ ⟨s, d, p, u, a⟩ :: L2).length ≤ 100000) (ha0 : -2000000000000 ≤ a) (ha1 : a ≤ 2000000000000) (hn0 : -1000000000000 ≤ n) (hn1 : n ≤ 1000000000000) :
    Calls Tryz.prog 118 #[v, .agg #[.int .i64 s, .int .i64 d, .bool p, .int .i64 u, .int .i64 x0], .int .i64 n] w (AddP base (if a + n = 0 then L1 ++ L2 else L1 ++ ⟨s, d, p, u, a + n⟩ :: L2) w) := by
  have hi : isP (L1 ++ ⟨s, d, p, u, a⟩ :: L2) s d p u = true := by unfold isP; rw [hp]; simp [eqS]
  have H := bsP_any (fun _ => True) v _ s d p u x0 (w.alloc (.cells #[.int .i64 s, .int .i64 d, .bool p, .int .i64 u, .int .i64 x0] 88)) ((Sl.own encStp_len hown rfl (fun _ _ => trivial)).alloc _) hs (by omega)
  rw [hi, hp] at H
  obtain ⟨q, hpe⟩ : ∃ q, L1.length = q := ⟨_, rfl⟩
  rw [hpe] at H
  obtain ⟨N, hN⟩ : ∃ N, (L1 ++ ⟨s, d, p, u, a⟩ :: L2).length = N := ⟨_, rfl⟩
  rw [hN] at hown hlen
  have hNp : L2.length + q + 1 = N := by rw [← hN, ← hpe]; simp; omega
  obtain ⟨g, cap, rest, rfl, hbg, hg, hnc, hcm, hxl, hrl⟩ := own_whole hown (by omega)
  unfold maxLen at hcm
  obtain ⟨R, hR⟩ : ∃ R, (if a + n = 0 then L1 ++ L2 else L1 ++ ⟨s, d, p, u, a + n⟩ :: L2) = R := ⟨_, rfl⟩
  rw [hR]
  have HRR := Lib.hid hR
  have hcell := flatP_at L1 L2 s d p u a q hpe hg
  have hfz : w.frozen? ⟨g, q * 5 + 4, none⟩ = false := frozen_of_row w g _ _ _ hg
  have hgl := World.block_lt_of_cell? w _ hcell
  have HH := Lib.hid H
  have HO := Lib.hid hown
  have HL := Lib.hid hpe
  have hqN : q < N := by omega
  have hqz : (q : Int) < (N : Int) := by omega
  clear H hp hs hi hg hxl hrl hN hpe hown hR
  go_enter Tryz.func118, Tryz.ntmps118
  go_wp2_with fail
  refine HH.out.mono ?_
  rintro e w1 ⟨rfl, hb1⟩
  have HB := Lib.hid (bup (bal brefl _) hb1)
  have c2 := keepB HB.out hcell
  have f2 : w1.frozen? ⟨g, q * 5 + 4, none⟩ = false := (HB.out.frozen (p := ⟨g, q * 5 + 4, none⟩) hgl).trans hfz
  have hst := World.ownsRow.stored (ownsRow_belowZ HO.out HB.out) (q * 5 + 4) (.int .i64 (a + n))
  rw [flatP_set L1 L2 s d p u a (a + n) q HL.out] at hst
  obtain ⟨hst1, hst2⟩ := hst
  have HS1 := Lib.hid hst1
  have HS2 := Lib.hid (FrP.grown (v := .slice (some ⟨g, 0, none⟩) N cap) HO.out HB.out hbase hst2)
  have HS3 := Lib.hid hst2
  clear hst1 hst2 hb1
  by_cases hz : a + n = 0
  · have hr := HRR.out
    rw [if_pos hz] at hr
    subst hr
    have hz2 : (a + n == 0) = true := by simpa using hz
    clear hz
    go_wp2_with fail
    refine (delP_any base _ N q L1 L2 ⟨s, d, p, u, a + n⟩ _ HS1.out (by omega) HL.out hNp).mono ?_
    rintro e w2 ⟨v', rfl, hown2, hgr2⟩
    obtain ⟨ao', c', rfl⟩ := own_sl hown2
    go_wp2
    go_ret
    exact ⟨_, rfl, by rw [show (L1 ++ L2).length = N - 1 by have := HL.out; simp; omega]; exact hown2, FrP.grown (v := .slice (some ⟨g, 0, none⟩) N cap) HO.out HB.out hbase (ztrans HS3.out hgr2)⟩
  · have hr := HRR.out
    rw [if_neg hz] at hr
    subst hr
    have hz2 : (a + n == 0) = false := by simpa using hz
    clear hz
    go_wp2
    go_ret
    exact ⟨_, rfl, by rw [show (L1 ++ ⟨s, d, p, u, a + n⟩ :: L2).length = N by have := HL.out; simp; omega]; exact HS1.out, HS2.out⟩
set_option maxHeartbeats 4000000 in
set_option maxRecDepth 100000 in
theorem stadd_new (base : Nat) (v : Value) (L : List Stp) (s d : Int) (p : Bool) (u x0 n : Int) (w : World) (hown : w.ownsRow base 88 5 v L.length (flatE encStp L)) (hbase : base ≤ w.heap.size)
    (hi : isP L s d p u = false) (hs : srtP L) (hlen : L.length ≤ 100000) (hn0 : -1000000000000 ≤ n) (hn1 : n ≤ 1000000000000) (hnz : n ≠ 0) :
    Calls Tryz.prog 118 #[v, .agg #[.int .i64 s, .int .i64 d, .bool p, .int .i64 u, .int .i64 x0], .int .i64 n] w (AddP base (L.take (posP L s d p u) ++ ⟨s, d, p, u, n⟩ :: L.drop (posP L s d p u)) w) := by
  have H := bsP_any (fun _ => True) v L s d p u x0 (w.alloc (.cells #[.int .i64 s, .int .i64 d, .bool p, .int .i64 u, .int .i64 x0] 88)) ((Sl.own encStp_len hown rfl (fun _ _ => trivial)).alloc _) hs (by omega)
  have hple := posP_le L s d p u
  rw [hi] at H
  obtain ⟨q, hpe⟩ : ∃ q, posP L s d p u = q := ⟨_, rfl⟩
  rw [hpe] at H hple
  rw [hpe]
  obtain ⟨N, hN⟩ : ∃ N, L.length = N := ⟨_, rfl⟩
  rw [hN] at hown hlen hple
  have hvb : ∀ k, v.ownBlock = some k → base ≤ k ∧ k < w.heap.size := hown.lt
  have hz2 : (n == 0) = false := by simpa using hnz
  have HH := Lib.hid H
  have HO := Lib.hid hown
  have HN := Lib.hid hN
  have HVB := Lib.hid hvb
  have hqz : (q : Int) < (N : Int) + 1 := by omega
  clear H hs hi hN hpe hown hnz hvb
  go_enter Tryz.func118, Tryz.ntmps118
  go_wp2_with fail
  refine HH.out.mono ?_
  rintro e w1 ⟨rfl, hb1⟩
  have HB := Lib.hid (bup (bal brefl _) hb1)
  have xb := (hb1.block w.heap.size (by simp)).trans (heap_alloc_new w _)
  have XB := Lib.hid xb
  have x0c : w1.cell? ⟨w.heap.size, 0, none⟩ = some (.int .i64 s) := boxed_cell hb1 0 rfl
  have x1c : w1.cell? ⟨w.heap.size, 1, none⟩ = some (.int .i64 d) := boxed_cell hb1 1 rfl
  have x2c : w1.cell? ⟨w.heap.size, 2, none⟩ = some (.bool p) := boxed_cell hb1 2 rfl
  have x3c : w1.cell? ⟨w.heap.size, 3, none⟩ = some (.int .i64 u) := boxed_cell hb1 3 rfl
  have x4c : w1.cell? ⟨w.heap.size, 4, none⟩ = some (.int .i64 x0) := boxed_cell hb1 4 rfl
  have xf : w1.frozen? ⟨w.heap.size, 4, none⟩ = false := frozen_of_row w1 _ _ _ _ xb
  have z1 : w.heap.size < w1.heap.size := by have := hb1.size; simp at this; omega
  have hW : Below w.heap.size w ((w1.setCell ⟨w.heap.size, 4, none⟩ (.int .i64 0)).alloc (.cells #[.int .i64 s, .int .i64 d, .bool p, .int .i64 u, .int .i64 0] 88)) := bal (bset HB.out (Nat.le_refl _) _) _
  have HWW := Lib.hid hW
  have zs : (w1.setCell ⟨w.heap.size, 4, none⟩ (.int .i64 0)).heap.size = w1.heap.size := by simp [World.setCell]
  have HZS := Lib.hid zs
  have hvn := heap_alloc_new (w1.setCell ⟨w.heap.size, 4, none⟩ (.int .i64 0)) (.cells #[.int .i64 s, .int .i64 d, .bool p, .int .i64 u, .int .i64 0] 88 (0, 0))
  rw [zs] at hvn
  have HVN := Lib.hid hvn
  clear hb1 xb hW zs hvn
  go_wp2_with fail
  refine (insP_any base v N q w1.heap.size L ⟨s, d, p, u, 0⟩ _ (ownsRow_belowZ HO.out HWW.out) (by omega) hple HN.out (by have := HWW.out.size; omega) HVN.out (fun hq => by have := (HVB.out _ hq).2; omega)).mono ?_
  rintro e w2 ⟨v', rfl, hown2, hgr2⟩
  obtain ⟨g, cap, rest, rfl, hbg, hg, hnc, hcm, hxl, hrl⟩ := own_whole hown2 (by omega)
  unfold maxLen at hcm
  have hlt : (L.take q).length = q := by have := HN.out; simp; omega
  have hcell := flatP_at (L.take q) (L.drop q) s d p u 0 q hlt hg
  have hfz : w2.frozen? ⟨g, q * 5 + 4, none⟩ = false := frozen_of_row w2 g _ _ _ hg
  have hst := World.ownsRow.stored hown2 (q * 5 + 4) (.int .i64 n)
  rw [flatP_set (L.take q) (L.drop q) s d p u 0 n q hlt] at hst
  have HS1 := Lib.hid hst.1
  have hvg := FrP.set (o := q * 5 + 4) (u := .int .i64 n) (FrP.grown HO.out HWW.out hbase hgr2) hown2
  have HG := Lib.hid hvg
  have hqN : q < N + 1 := by omega
  have HIN := Lib.hid hcell
  clear hst hvg hgr2 hown2 hg hxl hrl hlt x0c x1c x2c x3c x4c xf
  go_wp2
  go_ret
  exact ⟨_, rfl, by rw [show (L.take q ++ ⟨s, d, p, u, n⟩ :: L.drop q).length = N + 1 by have := HN.out; simp; omega]; exact HS1.out, HG.out⟩
/-- add, whole -/
theorem stadd_any (base : Nat) (v : Value) (L : List Stp) (s d : Int) (p : Bool) (u x0 n : Int) (w : World) (hown : w.ownsRow base 88 5 v L.length (flatE encStp L)) (hbase : base ≤ w.heap.size)
    (hs : srtP L) (hlen : L.length ≤ 100000) (ha : ∀ x ∈ L, -2000000000000 ≤ x.a ∧ x.a ≤ 2000000000000) (hn0 : -1000000000000 ≤ n) (hn1 : n ≤ 1000000000000) (hnz : n ≠ 0) :
    Calls Tryz.prog 118 #[v, .agg #[.int .i64 s, .int .i64 d, .bool p, .int .i64 u, .int .i64 x0], .int .i64 n] w (AddP base (addP L s d p u n) w) := by
  cases hi : isP L s d p u
  · have hx : ∀ x, L[posP L s d p u]? = some x → eqS x s d p u = false := fun x hx => by
      unfold isP at hi
      rw [hx] at hi
      exact hi
    rw [addP_new n hx, if_neg hnz]
    exact stadd_new base v L s d p u x0 n w hown hbase hi hs hlen hn0 hn1 hnz
  · obtain ⟨x, hx, he⟩ : ∃ x, L[posP L s d p u]? = some x ∧ eqS x s d p u = true := by
      unfold isP at hi
      split at hi
      · rename_i x hx; exact ⟨x, hx, hi⟩
      · simp at hi
    obtain ⟨xs, xd, xp, xh, a⟩ := x
    obtain ⟨e1, e2, e3, e4⟩ := eqS_iff.1 he
    simp only at e1 e2 e3 e4
    obtain rfl := kd_inj e3
    subst e1 e2 e4
    rw [addP_there n hx]
    have hp := (List.getElem?_eq_some_iff.1 hx).1
    obtain ⟨q, hpe⟩ : ∃ q, posP L xs xd xp xh = q := ⟨_, rfl⟩
    rw [hpe] at hx hp
    rw [hpe]
    have hsplit : L = L.take q ++ ⟨xs, xd, xp, xh, a⟩ :: L.drop (q + 1) := by
      rw [← drop_cons hx, List.take_append_drop]
    obtain ⟨a0, a1⟩ := ha _ (List.mem_of_getElem? hx)
    have hlt : (L.take q).length = q := by simp; omega
    obtain ⟨L1, hL1⟩ : ∃ L1, L.take q = L1 := ⟨_, rfl⟩
    obtain ⟨L2, hL2⟩ : ∃ L2, L.drop (q + 1) = L2 := ⟨_, rfl⟩
    rw [hL1, hL2] at hsplit
    rw [hL1] at hlt
    rw [hL1, hL2]
    subst hsplit
    exact stadd_there base v L1 L2 xs xd xp xh x0 a n w hown hbase (by rw [hpe, hlt]) hs hlen a0 a1 hn0 hn1
end Go.Proofs.YthhoaefadfeknaaGreat
