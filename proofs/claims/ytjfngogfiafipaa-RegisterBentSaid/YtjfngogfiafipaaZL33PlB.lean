/- What a move does to what is held, in plain lists. -/
import Derived.Test.YtjfngogfiafipaaZL33Plain
import Derived.Test.YtjfngogfiafipaaZRefM
namespace Go.Proofs.Ytjfngogfiafipaa
open Go.RowKit
set_option linter.unusedVariables false
set_option linter.unusedSimpArgs false
theorem up_prop {w : World} (x : Up w) : Below w.heap.size w x.1 := x.2
theorem strange_ft {m : Mv} (hk : 1 ≤ m.kind ∧ m.kind ≤ 3) (h : strangeB m = false) : m.f ≠ m.t := by
  unfold strangeB at h
  by_cases h1 : m.kind = 1
  · rw [if_pos h1, Bool.or_eq_false_iff] at h
    have a1 : m.f = 0 := by simpa using h.1
    have a2 := inB_iff.1 (by simpa using h.2 : inB m.t 1 1000 = true)
    omega
  · rw [if_neg h1] at h
    by_cases h2 : m.kind = 2
    · rw [if_pos h2, Bool.or_eq_false_iff] at h
      simpa using h.2
    · rw [if_neg h2, Bool.or_eq_false_iff] at h
      have a1 : m.t = 0 := by simpa using h.2
      have a2 := inB_iff.1 (by simpa using h.1 : inB m.f 1 1000 = true)
      omega
theorem moved_held {R : Reg} {m : Mv} (hE : rmE R m = 0) (hk : 1 ≤ m.kind ∧ m.kind ≤ 3) (i h : Int) (hh : 1 ≤ h) :
    rgHeld (rmR R m) i h = rgHeld R i h + (if m.s = i ∧ m.f = h then -m.a else 0) + (if m.s = i ∧ m.t = h then m.a else 0) := by
  obtain ⟨hok, -, hm⟩ := rmE_zero hE
  have hX := (RgOk.move hE hk).1
  have hr := rmR_ok hE
  unfold rgHeld
  rw [if_pos (chkE_iff.2 hok), if_pos (chkE_iff.2 hX), hr]
  have a0 := hm.a0
  have hso := hsOk_sub hok.hok (s := (numbered R m).s) (f := (numbered R m).f) (a := (numbered R m).a) (by omega) hm.he
  simp only [mvH]
  rw [addZ_held hso.srt _ _ _ _ _ (by omega), addZ_held hok.hok.srt _ _ _ _ _ (by omega)]
  rfl
theorem held_bd {R : Reg} (h : RgOk R) (i x : Int) : 0 ≤ rgHeld R i x ∧ rgHeld R i x ≤ 1000000000000 := by
  unfold rgHeld
  rw [if_pos (chkE_iff.2 h)]
  exact held_le_max h.hok i x
end Go.Proofs.Ytjfngogfiafipaa
