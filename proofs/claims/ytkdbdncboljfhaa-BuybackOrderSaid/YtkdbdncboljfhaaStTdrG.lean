/- slices.SortStableFunc at a row that is owned, nil or not. Printed by wip/gen/sortz2.py. -/
import Derived.Test.YtkdbdncboljfhaaStTdrF
namespace Go.Proofs.Ytkdbdncboljfhaa
open Go.RowKit
set_option linter.unusedVariables false
set_option linter.unusedSimpArgs false
set_option maxRecDepth 100000 in
theorem insTdr_nil (fv : Value) (w : World) :
    Calls Try.prog 42 #[.slice none 0 0, .int .i64 0, .int .i64 0, fv] w fun e w' => e = .returned (.tuple #[]) ∧ w' = w := by
  go_enter Try.func42, Try.ntmps42
  go_wp2
  go_loopw [8] (fun iv wr => iv = .int .i64 1 ∧ wr = w) (fun iv _ => 0)
  case atStart => exact ⟨rfl, rfl⟩
  case round =>
    obtain ⟨rfl, hw⟩ := hrel
    go_wp2
    go_end0
    first | exact ⟨rfl, hw⟩ | exact ⟨rfl, rfl⟩
set_option maxRecDepth 100000 in
theorem stableTdr_nil (fv : Value) (w : World) :
    Calls Try.prog 35 #[.slice none 0 0, .int .i64 0, fv] w fun e w' => e = .returned (.tuple #[]) ∧ w' = w := by
  go_enter Try.func35, Try.ntmps35
  go_wp2
  go_loopw [7, 8] (fun av bv wr => av = .int .i64 0 ∧ bv = .int .i64 20 ∧ wr = w) (fun av _ _ => 0)
  case atStart => exact ⟨rfl, rfl, rfl⟩
  case round =>
    obtain ⟨rfl, rfl, hw⟩ := hrel
    go_wp2_with (go_at_call 42; refine (insTdr_nil _ _).mono ?_; rintro e w2 ⟨rfl, hw2⟩)
    go_loopw [6, 7, 8, 9] (fun kv _ _ _ wr => kv = .int .i64 20 ∧ wr = w) (fun kv _ _ _ _ => 0)
    case atStart => exact ⟨rfl, by first | exact hw2 | trivial | rfl | (rw [hw2]; first | rfl | exact hw)⟩
    case round =>
      obtain ⟨rfl, hw3⟩ := hrel
      go_wp2
      go_end0
      first | exact ⟨rfl, hw3⟩ | exact ⟨rfl, rfl⟩
theorem sortStableTdr_nil (fv : Value) (w : World) :
    Calls Try.prog 20 #[.slice none 0 0, fv] w fun e w' => e = .returned (.tuple #[]) ∧ w' = w := by
  go_enter Try.func20, Try.ntmps20
  go_wp2_with (go_at_call 35; refine (stableTdr_nil _ _).mono ?_; rintro e w2 ⟨rfl, hw2⟩)
  go_end0
  first | exact ⟨rfl, hw2⟩ | exact ⟨rfl, rfl⟩
/-- any row of one's own is sorted in place -/
theorem sortTdr_own (F : Nat) (cb : Array Value) (cf : Tdr → Tdr → Int) (Q : Tdr → Prop) (base : Nat) (v : Value) (L : List Tdr) (w : World)
    (eg : ∀ args w, (callFunc F args).run Try.prog w = .ok (.enter F args) w) (hcmp : ∀ W, Below base w W → ∀ x y, Q x → Q y → Calls Try.prog F (#[vTdr x, vTdr y] ++ cb) W fun e w' => e = .returned (.int .i64 (cf x y)) ∧ Below W.heap.size W w')
    (hW : Wk (ltz cf)) (hQ : ∀ x ∈ L, Q x) (hb : base ≤ w.heap.size) (hown : w.ownsRow base 28 4 v L.length (flatE encTdr L)) (hn : L.length ≤ 1000000000) :
    Calls Try.prog 20 #[v, .func (.func F) #[] cb] w fun e w' => e = .returned (.tuple #[]) ∧ w'.ownsRow base 28 4 v L.length (flatE encTdr (srt (ltz cf) L)) ∧ Below base w w' := by
  rcases hown.2 with ⟨rfl, h0⟩ | ⟨g, cap, cur, rfl, hbg, hg, -⟩
  · have hL : L = [] := List.eq_nil_of_length_eq_zero h0
    subst hL
    refine (sortStableTdr_nil _ w).mono ?_
    rintro e w' ⟨rfl, rfl⟩
    exact ⟨rfl, hown, Below.refl _ _⟩
  · have hgl : g < w.heap.size := (Array.getElem?_eq_some_iff.1 hg).1
    refine (sortStableTdr_any F cb cf Q base g L.length cap L w eg (fun W hg' x y hx hy => hcmp W ((Below.refl _ _).grown hg' hb (fun q hq => by cases hq; exact hbg)) x y hx hy) hW hQ ⟨hown, rfl⟩ hn).mono ?_
    rintro e w' ⟨rfl, hr, hg'⟩
    refine ⟨rfl, ?_, (Below.refl _ _).grown hg' hb (fun q hq => by cases hq; exact hbg)⟩
    exact hr.1
end Go.Proofs.Ytkdbdncboljfhaa
