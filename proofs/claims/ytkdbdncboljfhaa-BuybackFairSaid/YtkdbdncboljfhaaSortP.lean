/- Stable sorting of lists, in plain: merging, sorting by insertion, what a merge of parts is. -/
import Derived.Test.YtkdbdncboljfhaaNum
namespace Go.Proofs.Ytkdbdncboljfhaa
open Go.RowKit
set_option linter.unusedVariables false
section
variable {α : Type} {lt : α → α → Bool}
/-- 'x lies ahead of y' orders weakly -/
structure Wk (lt : α → α → Bool) : Prop where
  asym : ∀ x y, lt x y = true → lt y x = false
  tr : ∀ x y z, lt x y = false → lt y z = false → lt x z = false
theorem Wk.irr (h : Wk lt) (x : α) : lt x x = false := by
  cases e : lt x x
  · rfl
  · have := h.asym x x e; rw [e] at this; exact this
theorem Wk.lt_le (h : Wk lt) {x y z : α} (a : lt x y = true) (b : lt z y = false) : lt x z = true := by
  cases e : lt x z
  · have := h.tr x z y e b; rw [a] at this; exact this.symm
  · rfl
theorem Wk.le_lt (h : Wk lt) {x y z : α} (a : lt y x = false) (b : lt y z = true) : lt x z = true := by
  cases e : lt x z
  · have := h.tr y x z a e; rw [b] at this; exact this.symm
  · rfl
theorem Wk.lt_lt (h : Wk lt) {x y z : α} (a : lt x y = true) (b : lt y z = true) : lt x z = true := h.lt_le a (h.asym _ _ b)
/-- two lists merged: of equals the first list's come first -/
def mrg (lt : α → α → Bool) : List α → List α → List α
  | [], ys => ys
  | x :: xs, [] => x :: xs
  | x :: xs, y :: ys => if lt y x then y :: mrg lt (x :: xs) ys else x :: mrg lt xs (y :: ys)
termination_by xs ys => xs.length + ys.length
theorem mrg_nil_l (ys : List α) : mrg lt [] ys = ys := by rw [mrg]
theorem mrg_nil_r (xs : List α) : mrg lt xs [] = xs := by cases xs <;> rw [mrg]
theorem mrg_cons (x y : α) (xs ys : List α) : mrg lt (x :: xs) (y :: ys) = if lt y x then y :: mrg lt (x :: xs) ys else x :: mrg lt xs (y :: ys) := by rw [mrg]
theorem mrg_length : ∀ (A B : List α), (mrg lt A B).length = A.length + B.length
  | [], B => by rw [mrg_nil_l]; simp
  | x :: A, [] => by rw [mrg_nil_r]; simp
  | x :: A, y :: B => by
    rw [mrg_cons]
    split
    · have := mrg_length (x :: A) B; simp only [List.length_cons] at this ⊢; omega
    · have := mrg_length A (y :: B); simp only [List.length_cons] at this ⊢; omega
termination_by A B => A.length + B.length
theorem mrg_mem : ∀ (A B : List α) (z : α), z ∈ mrg lt A B ↔ z ∈ A ∨ z ∈ B
  | [], B, z => by rw [mrg_nil_l]; simp
  | x :: A, [], z => by rw [mrg_nil_r]; simp
  | x :: A, y :: B, z => by
    rw [mrg_cons]
    split
    · have := mrg_mem (x :: A) B z; simp only [List.mem_cons] at this ⊢; rw [this]
      constructor
      · rintro (h | (h | h) | h) <;> simp [h]
      · rintro ((h | h) | h | h) <;> simp [h]
    · have := mrg_mem A (y :: B) z; simp only [List.mem_cons] at this ⊢; rw [this]
      constructor
      · rintro (h | h | h | h) <;> simp [h]
      · rintro ((h | h) | h | h) <;> simp [h]
termination_by A B => A.length + B.length
theorem mrg_perm : ∀ (A B : List α), (mrg lt A B).Perm (A ++ B)
  | [], B => by rw [mrg_nil_l]; exact .refl _
  | x :: A, [] => by rw [mrg_nil_r]; simp
  | x :: A, y :: B => by
    rw [mrg_cons]
    split
    · exact ((mrg_perm (x :: A) B).cons y).trans (List.perm_middle.symm)
    · exact (mrg_perm A (y :: B)).cons x
termination_by A B => A.length + B.length
/-- merging part by part -/
theorem mrg_append : ∀ (A1 B1 : List α) {A2 B2 : List α}, (∀ x ∈ A1, ∀ y ∈ B2, lt y x = false) → (∀ x ∈ A2, ∀ y ∈ B1, lt y x = true) → mrg lt (A1 ++ A2) (B1 ++ B2) = mrg lt A1 B1 ++ mrg lt A2 B2
  | [], [], A2, B2, _, _ => by rw [mrg_nil_l]; rfl
  | [], y :: B1, A2, B2, h1, h2 => by
    rw [mrg_nil_l]
    cases A2 with
    | nil => rw [List.nil_append, mrg_nil_l, mrg_nil_l]
    | cons x A2 =>
      rw [List.nil_append, List.cons_append, mrg_cons, h2 x (List.mem_cons_self ..) y (List.mem_cons_self ..), if_pos rfl]
      have ih := mrg_append [] B1 (A2 := x :: A2) (B2 := B2) (by simp) (fun a ha b hb => h2 a ha b (List.mem_cons_of_mem _ hb))
      rw [List.nil_append, mrg_nil_l] at ih
      rw [ih]; rfl
  | x :: A1, [], A2, B2, h1, h2 => by
    rw [mrg_nil_r]
    cases B2 with
    | nil => rw [List.append_nil, mrg_nil_r, mrg_nil_r]
    | cons y B2 =>
      rw [List.nil_append, List.cons_append, mrg_cons, h1 x (List.mem_cons_self ..) y (List.mem_cons_self ..), if_neg (by simp)]
      have ih := mrg_append A1 [] (A2 := A2) (B2 := y :: B2) (fun a ha b hb => h1 a (List.mem_cons_of_mem _ ha) b hb) (by simp)
      rw [List.nil_append, mrg_nil_r] at ih
      rw [ih]; rfl
  | x :: A1, y :: B1, A2, B2, h1, h2 => by
    rw [List.cons_append, List.cons_append, mrg_cons, mrg_cons]
    split
    · have ih := mrg_append (x :: A1) B1 (A2 := A2) (B2 := B2) h1 (fun a ha b hb => h2 a ha b (List.mem_cons_of_mem _ hb))
      rw [List.cons_append] at ih
      rw [ih]; rfl
    · have ih := mrg_append A1 (y :: B1) (A2 := A2) (B2 := B2) (fun a ha b hb => h1 a (List.mem_cons_of_mem _ ha) b hb) h2
      rw [List.cons_append] at ih
      rw [ih]; rfl
termination_by A1 B1 => A1.length + B1.length
theorem mrg_assoc (H : Wk lt) : ∀ (A B C : List α), mrg lt (mrg lt A B) C = mrg lt A (mrg lt B C)
  | [], B, C => by rw [mrg_nil_l, mrg_nil_l]
  | a :: A, [], C => by rw [mrg_nil_r, mrg_nil_l]
  | a :: A, b :: B, [] => by rw [mrg_nil_r, mrg_nil_r]
  | a :: A, b :: B, c :: C => by
    have i1 := mrg_assoc H (a :: A) (b :: B) C
    have i2 := mrg_assoc H (a :: A) B (c :: C)
    have i3 := mrg_assoc H A (b :: B) (c :: C)
    rw [mrg_cons a b, mrg_cons b c]
    cases hba : lt b a
    · rw [if_neg (by simp), mrg_cons a c]
      cases hca : lt c a
      · rw [if_neg (by simp)]
        cases hcb : lt c b
        · rw [if_neg (by simp), mrg_cons a b, hba, if_neg (by simp)]
          rw [i3, mrg_cons b c, hcb, if_neg (by simp)]
        · rw [if_pos rfl, mrg_cons a c, hca, if_neg (by simp)]
          rw [i3, mrg_cons b c, hcb, if_pos rfl]
      · rw [if_pos rfl]
        have hcb : lt c b = true := H.lt_le hca hba
        rw [hcb, if_pos rfl, mrg_cons a c, hca, if_pos rfl]
        rw [← i1, mrg_cons a b, hba, if_neg (by simp)]
    · rw [if_pos rfl, mrg_cons b c]
      cases hcb : lt c b
      · rw [if_neg (by simp), if_neg (by simp), mrg_cons a b, hba, if_pos rfl, i2]
      · rw [if_pos rfl, if_pos rfl, mrg_cons a c, H.lt_lt hcb hba, if_pos rfl]
        rw [← i1, mrg_cons a b, hba, if_pos rfl]
termination_by A B C => A.length + B.length + C.length
/-- a list sorted, equals in their order -/
def srt (lt : α → α → Bool) : List α → List α
  | [] => []
  | x :: L => mrg lt [x] (srt lt L)
theorem srt_length : ∀ L : List α, (srt lt L).length = L.length
  | [] => rfl
  | x :: L => by rw [srt, mrg_length, srt_length L]; simp; omega
theorem srt_perm : ∀ L : List α, (srt lt L).Perm L
  | [] => .refl _
  | x :: L => by rw [srt]; exact (mrg_perm _ _).trans ((srt_perm L).cons x)
theorem srt_mem (L : List α) (z : α) : z ∈ srt lt L ↔ z ∈ L := (srt_perm L).mem_iff
theorem srt_append (H : Wk lt) : ∀ A B : List α, srt lt (A ++ B) = mrg lt (srt lt A) (srt lt B)
  | [], B => by rw [srt, mrg_nil_l]; rfl
  | x :: A, B => by rw [List.cons_append, srt, srt, srt_append H A B, mrg_assoc H]
theorem srt_one (x : α) : srt lt [x] = [x] := by rw [srt, srt, mrg_nil_r]
/-- ascending -/
def Asc (lt : α → α → Bool) (L : List α) : Prop := L.Pairwise fun x y => lt y x = false
theorem mrg_asc (H : Wk lt) : ∀ {A B : List α}, Asc lt A → Asc lt B → Asc lt (mrg lt A B)
  | [], B, _, hB => by rw [mrg_nil_l]; exact hB
  | x :: A, [], hA, _ => by rw [mrg_nil_r]; exact hA
  | x :: A, y :: B, hA, hB => by
    have hA' := List.pairwise_cons.1 hA
    have hB' := List.pairwise_cons.1 hB
    rw [mrg_cons]
    cases e : lt y x
    · rw [if_neg (by simp)]
      refine List.pairwise_cons.2 ⟨fun z hz => ?_, mrg_asc H hA'.2 hB⟩
      rcases (mrg_mem _ _ _).1 hz with hz | hz
      · exact hA'.1 z hz
      · rcases List.mem_cons.1 hz with rfl | hz
        · exact e
        · exact H.tr _ _ _ (hB'.1 z hz) e
    · rw [if_pos rfl]
      refine List.pairwise_cons.2 ⟨fun z hz => ?_, mrg_asc H hA hB'.2⟩
      rcases (mrg_mem _ _ _).1 hz with hz | hz
      · rcases List.mem_cons.1 hz with rfl | hz
        · exact H.asym _ _ e
        · exact H.tr _ _ _ (hA'.1 z hz) (H.asym _ _ e)
      · exact hB'.1 z hz
termination_by A B => A.length + B.length
theorem srt_asc (H : Wk lt) : ∀ L : List α, Asc lt (srt lt L)
  | [] => List.Pairwise.nil
  | x :: L => by rw [srt]; exact mrg_asc H (List.pairwise_singleton _ _) (srt_asc H L)
/-- equals keep their order: what is ahead in the sorted list is less, or equal and ahead in the list -/
def Ahd (lt : α → α → Bool) (R : α → α → Prop) (x y : α) : Prop := lt x y = true ∨ (lt y x = false ∧ R x y)
theorem mrg_ahd (H : Wk lt) {R : α → α → Prop} : ∀ {A B : List α}, A.Pairwise (Ahd lt R) → B.Pairwise (Ahd lt R) → (∀ x ∈ A, ∀ y ∈ B, R x y) → (mrg lt A B).Pairwise (Ahd lt R)
  | [], B, _, hB, _ => by rw [mrg_nil_l]; exact hB
  | x :: A, [], hA, _, _ => by rw [mrg_nil_r]; exact hA
  | x :: A, y :: B, hA, hB, hR => by
    have hA' := List.pairwise_cons.1 hA
    have hB' := List.pairwise_cons.1 hB
    have le_of : ∀ {u v : α}, Ahd lt R u v → lt v u = false := fun h => h.elim (fun h => H.asym _ _ h) (fun h => h.1)
    rw [mrg_cons]
    cases e : lt y x
    · rw [if_neg (by simp)]
      refine List.pairwise_cons.2 ⟨fun z hz => ?_, mrg_ahd H hA'.2 hB (fun a ha b hb => hR a (List.mem_cons_of_mem _ ha) b hb)⟩
      rcases (mrg_mem _ _ _).1 hz with hz | hz
      · exact hA'.1 z hz
      · refine .inr ⟨?_, hR x (List.mem_cons_self ..) z hz⟩
        rcases List.mem_cons.1 hz with rfl | hz
        · exact e
        · exact H.tr _ _ _ (le_of (hB'.1 z hz)) e
    · rw [if_pos rfl]
      refine List.pairwise_cons.2 ⟨fun z hz => ?_, mrg_ahd H hA hB'.2 (fun a ha b hb => hR a ha b (List.mem_cons_of_mem _ hb))⟩
      rcases (mrg_mem _ _ _).1 hz with hz | hz
      · rcases List.mem_cons.1 hz with rfl | hz
        · exact .inl e
        · exact .inl (H.lt_le e (le_of (hA'.1 z hz)))
      · exact hB'.1 z hz
termination_by A B => A.length + B.length
theorem srt_ahd (H : Wk lt) {R : α → α → Prop} : ∀ {L : List α}, L.Pairwise R → (srt lt L).Pairwise (Ahd lt R)
  | [], _ => List.Pairwise.nil
  | x :: L, h => by
    have h' := List.pairwise_cons.1 h
    rw [srt]
    exact mrg_ahd H (List.pairwise_singleton _ _) (srt_ahd H h'.2) (fun a ha b hb => by
      rw [List.mem_singleton.1 ha]; exact h'.1 b ((srt_mem _ _).1 hb))
theorem asc_append {A B : List α} : Asc lt (A ++ B) ↔ Asc lt A ∧ Asc lt B ∧ ∀ x ∈ A, ∀ y ∈ B, lt y x = false := List.pairwise_append
/-- one element put into an ascending list: from behind -/
theorem mrg_put {S1 S2 : List α} {x : α} (H : Wk lt) (hS : Asc lt (S1 ++ S2)) (h2 : ∀ y ∈ S2, lt x y = true) (h1 : S1 = [] ∨ ∃ S y, S1 = S ++ [y] ∧ lt x y = false) : mrg lt (S1 ++ S2) [x] = S1 ++ x :: S2 := by
  have hx : ∀ y ∈ S1, lt x y = false := by
    rcases h1 with rfl | ⟨S, y, rfl, hy⟩
    · simp
    · intro z hz
      rcases List.mem_append.1 hz with hz | hz
      · have := (asc_append.1 (asc_append.1 hS).1).2.2 z hz y (by simp)
        exact H.tr _ _ _ hy this
      · rw [List.mem_singleton.1 hz]; exact hy
  have e1 := mrg_append (lt := lt) S1 [] (A2 := S2) (B2 := [x]) (fun a ha b hb => by rw [List.mem_singleton.1 hb]; exact hx a ha) (by simp)
  have e2 := mrg_append (lt := lt) [] [x] (A2 := S2) (B2 := ([] : List α)) (by simp) (fun a ha b hb => by rw [List.mem_singleton.1 hb]; exact h2 a ha)
  rw [List.nil_append, mrg_nil_r] at e1
  rw [List.nil_append, List.append_nil, mrg_nil_l, mrg_nil_r] at e2
  rw [e1, e2]; rfl
/-- one element put into an ascending list: from the front -/
theorem mrg_put_front {S1 S2 : List α} {x : α} (h1 : ∀ y ∈ S1, lt y x = true) (h2 : ∀ y ∈ S2, lt y x = false) : mrg lt [x] (S1 ++ S2) = S1 ++ x :: S2 := by
  have e1 := mrg_append (lt := lt) [] S1 (A2 := [x]) (B2 := S2) (by simp) (fun a ha b hb => by rw [List.mem_singleton.1 ha]; exact h1 b hb)
  have e2 := mrg_append (lt := lt) [x] [] (A2 := ([] : List α)) (B2 := S2) (fun a ha b hb => by rw [List.mem_singleton.1 ha]; exact h2 b hb) (by simp)
  rw [List.nil_append, mrg_nil_l] at e1
  rw [List.nil_append, List.append_nil, mrg_nil_l, mrg_nil_r] at e2
  rw [e1, e2]; rfl
end
end Go.Proofs.Ytkdbdncboljfhaa
