/- A register's moves in plain lists: what is made by them. No program in sight. -/
import Derived.Test.YthjaofgdickkaaaGreatRegP
namespace Go.Proofs.YthjaofgdickkaaaGreat
open Go.RowKit
set_option linter.unusedVariables false
set_option linter.unusedSimpArgs false

theorem hsOk_sub {hs : List Hold} (h : HsOk hs) {s f a : Int} (ha : 0 ≤ a) (hh : f ≠ 0 → a ≤ heldH hs s f) : HsOk (addZ hs s f (-a)) := by
  unfold addZ
  split
  · exact h
  · rename_i hf
    have hle := hh hf
    refine ⟨addH_srt _ h.srt, addH_pos _ h.srt h.pos (by omega), fun s' => ?_⟩
    rw [addH_out]
    have := h.out s'
    split <;> omega
theorem hsOk_add {hs : List Hold} (h : HsOk hs) {s f a : Int} (ha : 0 ≤ a) (hh : outH hs s + a ≤ 1000000000000) : HsOk (addZ hs s f a) := by
  unfold addZ
  split
  · exact h
  · refine ⟨addH_srt _ h.srt, addH_pos _ h.srt h.pos (by have := heldH_nonneg h.pos s f; omega), fun s' => ?_⟩
    rw [addH_out]
    have := h.out s'
    split
    · rename_i e; subst e; omega
    · omega
theorem addZ_len (L : List Hold) (s f n : Int) : (addZ L s f n).length ≤ L.length + 1 := by
  unfold addZ
  split
  · omega
  · exact addH_len ..
theorem addZ_out (L : List Hold) (s h n s' : Int) : outH (addZ L s h n) s' = outH L s' + if s = s' ∧ h ≠ 0 then n else 0 := by
  unfold addZ
  split
  · rename_i h0; simp [h0]
  · rename_i h0; rw [addH_out]; simp [h0]
theorem addZ_held {L : List Hold} (hs : srtH L) (s h n s' h' : Int) (h0 : h' ≠ 0) : heldH (addZ L s h n) s' h' = heldH L s' h' + if s = s' ∧ h = h' then n else 0 := by
  unfold addZ
  split
  · rename_i hz
    rw [if_neg (by omega)]; omega
  · exact addH_held n s' h' hs
/-- what a move that is possible fulfils -/
structure MvOk (secs : List Sec) (hs : List Hold) (day : Int) (m : Mv) : Prop where
  a0 : 0 < m.a
  a1 : m.a ≤ 1000000000000
  st : strangeB m = false
  he : m.f ≠ 0 → m.a ≤ heldH hs m.s m.f
  ou : m.f = 0 → outH hs m.s + m.a ≤ 1000000000000
  fi : ∃ s, findS secs m.s = some s ∧ m.a % s.un = 0 ∧ max day s.is ≤ m.day ∧ m.day ≤ (if m.kind = 3 then 36000 else s.ma)
theorem mvOk_iff {secs : List Sec} {hs : List Hold} {day : Int} {m : Mv} : mvE secs hs day m = 0 ↔ MvOk secs hs day m := by
  unfold mvE
  cases hf : findS secs m.s with
  | none =>
    simp only
    exact ⟨fun h => by omega, fun h => by obtain ⟨s, h1, _⟩ := h.fi; rw [hf] at h1; cases h1⟩
  | some s =>
    simp only
    unfold mvE1
    constructor
    · intro h
      by_cases hd : inB m.day (max day s.is) (if m.kind = 3 then 36000 else s.ma) = true
      · rw [if_pos hd] at h
        by_cases hu : 0 < m.a ∧ m.a ≤ 1000000000000 ∧ m.a % s.un = 0
        · rw [if_pos hu] at h
          by_cases hst : strangeB m = true
          · rw [if_pos hst] at h; omega
          · rw [if_neg hst] at h
            by_cases h1 : m.f ≠ 0 ∧ heldH hs m.s m.f < m.a
            · rw [if_pos h1] at h; omega
            · rw [if_neg h1] at h
              by_cases h2 : m.f = 0 ∧ 1000000000000 < outH hs m.s + m.a
              · rw [if_pos h2] at h; omega
              · exact ⟨hu.1, hu.2.1, by simpa using hst, fun q => by have := fun r => h1 ⟨q, r⟩; omega, fun q => by have := fun r => h2 ⟨q, r⟩; omega, s, hf, hu.2.2, (inB_iff.1 hd).1, (inB_iff.1 hd).2⟩
        · rw [if_neg hu] at h; omega
      · rw [if_neg hd] at h; omega
    · rintro ⟨a0, a1, st, he, ou, s', h1, h2, h3, h4⟩
      rw [hf] at h1
      cases h1
      rw [if_pos (inB_iff.2 ⟨h3, h4⟩), if_pos ⟨a0, a1, h2⟩, st, if_neg (by simp), if_neg (fun q => by have := he q.1; omega), if_neg (fun q => by have := ou q.1; omega)]
theorem mvH_ok {secs : List Sec} {hs : List Hold} {day : Int} {m : Mv} (h : HsOk hs) (hm : MvOk secs hs day m) : HsOk (mvH hs m) := by
  have a0 := hm.a0
  refine hsOk_add (hsOk_sub h (by omega) hm.he) (by omega) ?_
  rw [addZ_out]
  by_cases hf : m.f = 0
  · simp [hf]; exact hm.ou hf
  · have := h.out m.s
    simp [hf]; omega
theorem mvH_len (hs : List Hold) (m : Mv) : (mvH hs m).length ≤ hs.length + 2 := by
  unfold mvH
  have h1 := addZ_len hs m.s m.f (-m.a)
  have h2 := addZ_len (addZ hs m.s m.f (-m.a)) m.s m.t m.a
  omega
/-- a move of a list of moves is right -/
def stepB (secs : List Sec) (n d : Int) (hs : List Hold) (m : Mv) : Bool := decide (m.num = n + 1) && (inB m.kind 1 3 && decide (mvE secs hs d m = 0))
/-- the moves, one after the other, as long as they are wanted -/
def repl (secs : List Sec) (want : Mv → Bool) : List Mv → Int → Int → List Hold → Bool × Int × Int × List Hold
  | [], n, d, hs => (true, n, d, hs)
  | m :: ms, n, d, hs => if want m then (if stepB secs n d hs m then repl secs want ms (n + 1) m.day (mvH hs m) else (false, n, d, hs)) else (true, n, d, hs)
theorem stepB_iff {secs : List Sec} {n d : Int} {hs : List Hold} {m : Mv} : stepB secs n d hs m = true ↔ m.num = n + 1 ∧ (1 ≤ m.kind ∧ m.kind ≤ 3) ∧ MvOk secs hs d m := by
  unfold stepB
  rw [Bool.and_eq_true, Bool.and_eq_true, decide_eq_true_eq, decide_eq_true_eq, inB_iff, mvOk_iff]
theorem repl_ok (secs : List Sec) (want : Mv → Bool) : ∀ (ms : List Mv) (n d : Int) (hs : List Hold), HsOk hs → HsOk (repl secs want ms n d hs).2.2.2
  | [], n, d, hs, h => h
  | m :: ms, n, d, hs, h => by
    simp only [repl]
    split
    · split
      · rename_i hq
        exact repl_ok secs want ms _ _ _ (mvH_ok h (stepB_iff.1 hq).2.2)
      · exact h
    · exact h
theorem repl_len (secs : List Sec) (want : Mv → Bool) : ∀ (ms : List Mv) (n d : Int) (hs : List Hold), (repl secs want ms n d hs).2.2.2.length ≤ hs.length + 2 * ms.length
  | [], n, d, hs => by simp [repl]
  | m :: ms, n, d, hs => by
    simp only [repl]
    have h1 := mvH_len hs m
    split
    · split
      · have := repl_len secs want ms (n + 1) m.day (mvH hs m)
        simp only [List.length_cons]; omega
      · simp only [List.length_cons]; omega
    · simp only [List.length_cons]; omega
/-- the securities are valid and ascend, behind an ID -/
def secsB : Int → List Sec → Bool
  | _, [] => true
  | p, s :: L => secOk s && (decide (p < s.id) && secsB s.id L)
theorem secsB_all : ∀ {p : Int} {L : List Sec}, secsB p L = true → ∀ s ∈ L, secOk s = true
  | p, [], _, s, hs => by simp at hs
  | p, x :: L, h, s, hs => by
    simp only [secsB, Bool.and_eq_true] at h
    rcases List.mem_cons.1 hs with rfl | hs
    · exact h.1
    · exact secsB_all h.2.2 s hs
theorem secOk_un {s : Sec} (h : secOk s = true) : 1 ≤ s.un ∧ s.un ≤ 1000000000 := by
  have := secB_iff.1 h
  exact ⟨this.un0, this.un1⟩
structure Reg where
  secs : List Sec
  hs : List Hold
  ms : List Mv
def wantAll (m : Mv) : Bool := true
def wantDay (day : Int) (m : Mv) : Bool := decide (m.day ≤ day)
/-- two lists of holdings are one -/
def eqHs : List Hold → List Hold → Bool
  | [], [] => true
  | x :: L, y :: M => decide (x.s = y.s ∧ x.h = y.h ∧ x.a = y.a) && eqHs L M
  | _, _ => false
theorem eqHs_iff : ∀ {L M : List Hold}, eqHs L M = true ↔ L = M
  | [], [] => by simp [eqHs]
  | [], _ :: _ => by simp [eqHs]
  | _ :: _, [] => by simp [eqHs]
  | ⟨s, h, a⟩ :: L, ⟨s', h', a'⟩ :: M => by
    simp only [eqHs, Bool.and_eq_true, decide_eq_true_eq, List.cons.injEq, Hold.mk.injEq]
    rw [eqHs_iff]
/-- the holdings are those that the moves make -/
def movesB (R : Reg) : Bool := (repl R.secs wantAll R.ms 0 0 []).1 && eqHs (repl R.secs wantAll R.ms 0 0 []).2.2.2 R.hs
/-- what is wrong with a register -/
def chkE (R : Reg) : Int := if 20 < R.secs.length ∨ 400 < R.ms.length then 3 else if secsB 0 R.secs then (if movesB R then 0 else 78) else 78
end Go.Proofs.YthjaofgdickkaaaGreat
