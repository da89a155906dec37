/- Transfers there and back, in plain lists. -/
import Derived.Test.YtjfngogfiafipaaZL33Base
namespace Go.Proofs.Ytjfngogfiafipaa
open Go.RowKit
set_option linter.unusedVariables false
set_option linter.unusedSimpArgs false
theorem mvE_vals (secs : List Sec) (hs : List Hold) (d : Int) (m : Mv) : mvE secs hs d m ≠ 78 ∧ mvE secs hs d m ≠ 3 := by
  unfold mvE mvE1
  constructor <;> (repeat' split) <;> omega
theorem mvH_both {hs : List Hold} {m : Mv} (hf : m.f ≠ 0) (ht : m.t ≠ 0) : mvH hs m = addH (addH hs m.s m.f (-m.a)) m.s m.t m.a := by
  unfold mvH addZ
  rw [if_neg ht, if_neg hf]
theorem rmE_vals {R : Reg} {m : Mv} (h : RgOk R) (hl : R.ms.length ≠ 400) : rmE R m ≠ 78 ∧ rmE R m ≠ 3 := by
  unfold rmE
  rw [if_pos (chkE_iff.2 h), if_neg hl]
  exact mvE_vals _ _ _ _
/-- a transfer there and back -/
structure There (R : Reg) (day id a b n : Int) : Prop where
  back : rmE (rmR R ⟨0, day, 2, id, a, b, n⟩) ⟨0, day, 2, id, b, a, n⟩ = 0
  same : (rmR (rmR R ⟨0, day, 2, id, a, b, n⟩) ⟨0, day, 2, id, b, a, n⟩).hs = R.hs
  froms : rgHeld (rmR R ⟨0, day, 2, id, a, b, n⟩) id a = rgHeld R id a - n
  tos : rgHeld (rmR R ⟨0, day, 2, id, a, b, n⟩) id b = rgHeld R id b + n
  debt : rgDebt (rmR R ⟨0, day, 2, id, a, b, n⟩) = rgDebt R
  ok : RgOk (rmR R ⟨0, day, 2, id, a, b, n⟩)
  bd : 0 ≤ rgHeld R id a ∧ rgHeld R id a ≤ 1000000000000 ∧ 0 ≤ rgHeld R id b ∧ rgHeld R id b ≤ 1000000000000
  ok2 : RgOk (rmR (rmR R ⟨0, day, 2, id, a, b, n⟩) ⟨0, day, 2, id, b, a, n⟩)
theorem held_le_max {L : List Hold} (h : HsOk L) (s x : Int) : 0 ≤ heldH L s x ∧ heldH L s x ≤ 1000000000000 := ⟨heldH_nonneg h.pos s x, heldH_le h s x⟩
theorem there_back {R : Reg} {day id a b n : Int} (h : RgOk R) (hl : R.ms.length ≤ 100) (ha : 1 ≤ a ∧ a ≤ 4) (hb : 1 ≤ b ∧ b ≤ 4) (hE : rmE R ⟨0, day, 2, id, a, b, n⟩ = 0) : There R day id a b n := by
  obtain ⟨-, -, hm⟩ := rmE_zero hE
  obtain ⟨hX, hdX⟩ := RgOk.move hE (by simp)
  have hr := rmR_ok hE
  have hA : rgHeld R id a = heldH R.hs id a := by unfold rgHeld; rw [if_pos (chkE_iff.2 h)]
  have hB : rgHeld R id b = heldH R.hs id b := by unfold rgHeld; rw [if_pos (chkE_iff.2 h)]
  have hD : rgDebt R = sumH R.hs := by unfold rgDebt; rw [if_pos (chkE_iff.2 h)]
  have hXA : ∀ x, rgHeld (rmR R ⟨0, day, 2, id, a, b, n⟩) id x = heldH (rmR R ⟨0, day, 2, id, a, b, n⟩).hs id x := fun x => by unfold rgHeld; rw [if_pos (chkE_iff.2 hX)]
  have hXD : rgDebt (rmR R ⟨0, day, 2, id, a, b, n⟩) = sumH (rmR R ⟨0, day, 2, id, a, b, n⟩).hs := by unfold rgDebt; rw [if_pos (chkE_iff.2 hX)]
  have hab : a ≠ b := by
    have := hm.st
    simp only [numbered, strangeB] at this
    intro e
    subst e
    simp at this
  have hH : (rmR R ⟨0, day, 2, id, a, b, n⟩).hs = addH (addH R.hs id a (-n)) id b n := by
    rw [hr]
    exact mvH_both (m := numbered R ⟨0, day, 2, id, a, b, n⟩) (by show a ≠ 0; omega) (by show b ≠ 0; omega)
  have hso := h.hok
  have s1 := addH_srt (s := id) (h := a) (-n) hso.srt
  have s2 := addH_srt (s := id) (h := b) n s1
  have held2 : ∀ s x, heldH (addH (addH R.hs id a (-n)) id b n) s x = heldH R.hs s x + (if id = s ∧ a = x then -n else 0) + (if id = s ∧ b = x then n else 0) := fun s x => by
    rw [addH_held n s x s1, addH_held (-n) s x hso.srt]
  have hsecs : (rmR R ⟨0, day, 2, id, a, b, n⟩).secs = R.secs := by rw [hr]
  have hms : (rmR R ⟨0, day, 2, id, a, b, n⟩).ms.length = R.ms.length + 1 := by rw [hr]; simp
  have hback : rmE (rmR R ⟨0, day, 2, id, a, b, n⟩) ⟨0, day, 2, id, b, a, n⟩ = 0 := by
    unfold rmE
    rw [if_pos (chkE_iff.2 hX), if_neg (by omega)]
    refine mvOk_iff.2 ⟨hm.a0, hm.a1, ?_, ?_, ?_, ?_⟩
    · have := hm.st
      simp only [numbered, strangeB] at this ⊢
      simp only [Int.reduceEq, if_false, if_true, Bool.or_eq_false_iff, Bool.not_eq_false'] at this ⊢
      refine ⟨⟨this.1.2, this.1.1⟩, ?_⟩
      simp; omega
    · intro _
      simp only [numbered]
      rw [hH, held2, if_neg (by omega), if_pos ⟨rfl, rfl⟩]
      have := (held_le_max hso id b).1
      omega
    · intro h0
      simp only [numbered] at h0
      omega
    · obtain ⟨s, f1, f2, f3, f4⟩ := hm.fi
      refine ⟨s, by rw [hsecs]; exact f1, f2, ?_, f4⟩
      rw [hdX]
      simp only [numbered] at f3 ⊢
      omega
  obtain ⟨hY, -⟩ := RgOk.move hback (by simp)
  have hr2 := rmR_ok hback
  refine ⟨hback, ?_, ?_, ?_, ?_, hX, ⟨?_, ?_, ?_, ?_⟩, hY⟩
  · refine HsOk.ext hY.hok hso fun s x => ?_
    have hH2 : (rmR (rmR R ⟨0, day, 2, id, a, b, n⟩) ⟨0, day, 2, id, b, a, n⟩).hs = addH (addH (rmR R ⟨0, day, 2, id, a, b, n⟩).hs id b (-n)) id a n := by
      rw [hr2]
      exact mvH_both (m := numbered (rmR R ⟨0, day, 2, id, a, b, n⟩) ⟨0, day, 2, id, b, a, n⟩) (by show b ≠ 0; omega) (by show a ≠ 0; omega)
    rw [hH2, hH, addH_held n s x (addH_srt _ s2), addH_held (-n) s x s2, held2]
    by_cases q1 : id = s ∧ a = x <;> by_cases q2 : id = s ∧ b = x <;> simp only [q1, q2, and_self, if_true, if_false] <;> omega
  · rw [hXA, hH, held2, hA, if_pos ⟨rfl, rfl⟩, if_neg (by omega)]; omega
  · rw [hXA, hH, held2, hB, if_neg (by omega), if_pos ⟨rfl, rfl⟩]; omega
  · rw [hXD, hH, addH_sum, addH_sum, hD]; omega
  · rw [hA]; exact (held_le_max hso id a).1
  · rw [hA]; exact (held_le_max hso id a).2
  · rw [hB]; exact (held_le_max hso id b).1
  · rw [hB]; exact (held_le_max hso id b).2
end Go.Proofs.Ytjfngogfiafipaa
