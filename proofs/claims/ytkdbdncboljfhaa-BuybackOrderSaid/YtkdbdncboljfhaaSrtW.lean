/- slices.SortFunc at awards, at most twelve of them: the insertion sort alone (out of XSrtF). -/
import Derived.Test.YtkdbdncboljfhaaStAwdA
import Derived.Test.YtkdbdncboljfhaaRowZ
namespace Go.Proofs.Ytkdbdncboljfhaa
open Go.RowKit
set_option linter.unusedVariables false
set_option linter.unusedSimpArgs false
set_option maxRecDepth 100000 in
theorem len64_any (n : Nat) (h : n ≤ 12) (w : World) : Calls Try.prog 59 #[.int .u64 (n : Int)] w fun e w' => (∃ z : Int, e = .returned (.int .i64 z)) ∧ w' = w := by
  have h12 : n = 0 ∨ n = 1 ∨ n = 2 ∨ n = 3 ∨ n = 4 ∨ n = 5 ∨ n = 6 ∨ n = 7 ∨ n = 8 ∨ n = 9 ∨ n = 10 ∨ n = 11 ∨ n = 12 := by omega
  rcases h12 with rfl | rfl | rfl | rfl | rfl | rfl | rfl | rfl | rfl | rfl | rfl | rfl | rfl
  all_goals
    go_enter Try.func59, Try.ntmps59
    go_wp2
    go_ret
    exact ⟨⟨_, rfl⟩, rfl⟩
theorem len_any (n : Nat) (h : n ≤ 12) (w : World) : Calls Try.prog 41 #[.int .u64 (n : Int)] w fun e w' => (∃ z : Int, e = .returned (.int .i64 z)) ∧ w' = w := by
  have K := Lib.hid (fun U => len64_any n h U)
  go_enter Try.func41, Try.ntmps41
  go_wp2_with fail
  refine (K.out _).mono ?_
  rintro e w1 ⟨⟨z, rfl⟩, rfl⟩
  go_wp2
  go_ret
  exact ⟨⟨_, rfl⟩, rfl⟩
theorem insW_nil (fv : Value) (w : World) : Calls Try.prog 50 #[.slice none 0 0, .int .i64 0, .int .i64 0, fv] w fun e w' => e = .returned (.tuple #[]) ∧ w' = w := by
  go_enter Try.func50, Try.ntmps50
  go_wp2
  refine wp_loop_rounds 1 ?_
  rw [rounds_succ]
  go_wp2
  go_end0
  exact ⟨rfl, rfl⟩
theorem pdqW_nil (fv : Value) (z : Int) (w : World) : Calls Try.prog 40 #[.slice none 0 0, .int .i64 0, .int .i64 0, .int .i64 z, fv] w fun e w' => e = .returned (.tuple #[]) ∧ w' = w := by
  go_enter Try.func40, Try.ntmps40
  go_wp2
  refine wp_loop_rounds 1 ?_
  rw [rounds_succ]
  go_wp2_with fail
  refine (insW_nil _ _).mono ?_
  rintro e w1 ⟨rfl, rfl⟩
  go_wp2
  refine bodyPost_ret (results_none rfl _ _ _) rfl ?_
  exact ⟨rfl, rfl⟩
theorem pdqW_any (F : Nat) (cb : Array Value) (cf : Awd → Awd → Int) (Q : Awd → Prop) (base g n cap : Nat) (L : List Awd) (z : Int) (w : World)
    (eg : ∀ args w, (callFunc F args).run Try.prog w = .ok (.enter F args) w) (hcmp : CmpAwd F cb g cf Q w) (hW : Wk (ltz cf)) (hQ : ∀ x ∈ L, Q x)
    (hrow : RowAwd base g n cap L w) (hn : n ≤ 12) :
    Calls Try.prog 40 #[.slice (some ⟨g, 0, none⟩) n cap, .int .i64 0, .int .i64 n, .int .i64 z, .func (.func F) #[] cb] w fun e w' => e = .returned (.tuple #[]) ∧ RowAwd base g n cap (srt (ltz cf) L) w' ∧ w.grownBy w' (some g) := by
  have K := insAwd_any F cb cf Q base g n cap 0 n [] L [] w eg hcmp hW hQ (by simpa using hrow) rfl (by have := hrow.2; omega) (by omega)
  simp only [List.nil_append, List.append_nil] at K
  have HK := Lib.hid K
  have hnz : (n : Int) ≤ 12 := by omega
  clear K hcmp hrow hQ hW eg
  go_enter Try.func40, Try.ntmps40
  go_wp2
  refine wp_loop_rounds 1 ?_
  rw [rounds_succ]
  go_wp2_with fail
  refine HK.out.mono ?_
  rintro e w1 ⟨rfl, hr, hg⟩
  have HR := Lib.hid (And.intro hr hg)
  clear hr hg
  go_wp2
  refine bodyPost_ret (results_none rfl _ _ _) rfl ?_
  exact ⟨rfl, HR.out.1, HR.out.2⟩
/-- any row of one's own of at most twelve numbers is sorted in place -/
theorem sortW_own (F : Nat) (cb : Array Value) (cf : Awd → Awd → Int) (Q : Awd → Prop) (base : Nat) (v : Value) (L : List Awd) (w : World)
    (eg : ∀ args w, (callFunc F args).run Try.prog w = .ok (.enter F args) w) (hcmp : ∀ W x y, Q x → Q y → Calls Try.prog F (#[vAwd x, vAwd y] ++ cb) W fun e w' => e = .returned (.int .i64 (cf x y)) ∧ Below W.heap.size W w') (hW : Wk (ltz cf)) (hQ : ∀ x ∈ L, Q x)
    (hown : w.ownsRow base 61 4 v L.length (flatE encAwd L)) (hn : L.length ≤ 12) :
    Calls Try.prog 25 #[v, .func (.func F) #[] cb] w fun e w' => e = .returned (.tuple #[]) ∧ w'.ownsRow base 61 4 v L.length (flatE encAwd (srt (ltz cf) L)) ∧ w.grownBy w' v.ownBlock := by
  have KL := Lib.hid (fun U => len_any L.length hn U)
  rcases hown.2 with ⟨rfl, h0⟩ | ⟨g, cap, cur, rfl, hbg, hg, -⟩
  · have hL : L = [] := List.eq_nil_of_length_eq_zero h0
    subst hL
    go_enter Try.func25, Try.ntmps25
    go_wp2_with fail
    refine (len_any 0 (by omega) _).mono ?_
    rintro e w1 ⟨⟨z, rfl⟩, rfl⟩
    go_wp2_with fail
    refine (pdqW_nil _ _ _).mono ?_
    rintro e w2 ⟨rfl, rfl⟩
    go_wp2
    go_end0
    exact ⟨rfl, hown, ⟨rfl, rfl, rfl, Nat.le_refl _, fun _ _ _ => rfl⟩⟩
  · obtain ⟨n, hnn⟩ : ∃ n, L.length = n := ⟨_, rfl⟩
    have KP := Lib.hid (fun z => pdqW_any F cb cf Q base g n cap L z w eg (fun W _ x y hx hy => hcmp W x y hx hy) hW hQ ⟨by rw [← hnn]; exact hown, hnn⟩ (by omega))
    rw [hnn] at KL hn ⊢
    have HN := Lib.hid hnn
    clear hcmp hown hg hQ hW eg hnn
    go_enter Try.func25, Try.ntmps25
    go_wp2_with fail
    refine (KL.out _).mono ?_
    rintro e w1 ⟨⟨z, rfl⟩, rfl⟩
    go_wp2_with fail
    refine (KP.out z).mono ?_
    rintro e w2 ⟨rfl, hr, hg2⟩
    have HR := Lib.hid (And.intro hr hg2)
    clear hr hg2
    go_wp2
    go_end0
    exact ⟨rfl, HR.out.1.1, HR.out.2⟩
end Go.Proofs.Ytkdbdncboljfhaa
