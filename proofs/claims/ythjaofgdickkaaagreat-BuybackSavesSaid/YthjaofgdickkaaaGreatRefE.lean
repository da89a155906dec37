/- the reference's register: move. -/
import Derived.Test.YthjaofgdickkaaaGreatRefD
import Derived.Test.YthjaofgdickkaaaGreatUp
namespace Go.Proofs.YthjaofgdickkaaaGreat
open Go.RowKit
set_option linter.unusedVariables false
set_option linter.unusedSimpArgs false
/-- holdings and an error that come back -/
def MovedL (E : Int) (H : List Hold) (w : World) (e : Ending) (w' : World) : Prop :=
  ∃ v', e = .returned (.tuple #[v', .int .i64 E]) ∧ (E ≠ 0 → v' = .slice none 0 0) ∧ (E = 0 → w'.ownsRow w.heap.size 171 3 v' H.length (flatE encHold H)) ∧ Below w.heap.size w w'
theorem moved_err {E k : Int} {H : List Hold} {w w' : World} (he : E = k) (hk : k ≠ 0) (hb : Below w.heap.size w w') : MovedL E H w (.returned (.tuple #[.slice none 0 0, .int .i64 k])) w' := by
  subst he; exact ⟨_, rfl, fun _ => rfl, fun h => absurd h hk, hb⟩
theorem moved_ok {E : Int} {H G : List Hold} {w w' : World} {v' : Value} {base : Nat} (he : E = 0) (hH : H = G) (ho : w'.ownsRow base 171 3 v' G.length (flatE encHold G)) (hbs : w.heap.size ≤ base) (hb : Below w.heap.size w w') : MovedL E H w (.returned (.tuple #[v', .int .i64 0])) w' := by
  subst he hH; exact ⟨_, rfl, fun h => absurd rfl h, fun _ => ownsRow_baseZ ho hbs, hb⟩
theorem mvE1_8 {S : Sec} {hs : List Hold} {day : Int} {m : Mv} (h : m.day < day ∨ m.day < S.is ∨ (if m.kind = 3 then 36000 else S.ma) < m.day) : mvE1 S hs day m = 8 := by
  unfold mvE1
  rw [if_neg]
  simp only [inB, decide_eq_true_eq]
  omega
theorem mvE1_in {S : Sec} {hs : List Hold} {day : Int} {m : Mv} (h1 : ¬ m.day < day) (h2 : ¬ m.day < S.is) (h3 : ¬ (if m.kind = 3 then 36000 else S.ma) < m.day) :
    mvE1 S hs day m = if 0 < m.a ∧ m.a ≤ 1000000000000 ∧ m.a % S.un = 0 then (if strangeB m then 6 else if m.f ≠ 0 ∧ heldH hs m.s m.f < m.a then 77 else if m.f = 0 ∧ 1000000000000 < outH hs m.s + m.a then 2 else 0) else 79 := by
  unfold mvE1
  rw [if_pos]
  simp only [inB, decide_eq_true_eq]
  omega
theorem heldH_mem : ∀ {L : List Hold} {s h : Int}, heldH L s h = 0 ∨ ∃ x ∈ L, heldH L s h = x.a
  | [], _, _ => .inl rfl
  | x :: L, s, h => by
    simp only [heldH]
    split
    · exact .inr ⟨x, List.mem_cons_self .., rfl⟩
    · rcases heldH_mem (L := L) (s := s) (h := h) with e | ⟨y, hy, e⟩
      · exact .inl e
      · exact .inr ⟨y, List.mem_cons_of_mem _ hy, e⟩
theorem heldH_le {L : List Hold} (hok : HsOk L) (s h : Int) : heldH L s h ≤ 1000000000000 := by
  rcases heldH_mem (L := L) (s := s) (h := h) with e | ⟨y, hy, e⟩
  · omega
  · rw [e]; exact hok.le hy
end Go.Proofs.YthjaofgdickkaaaGreat
