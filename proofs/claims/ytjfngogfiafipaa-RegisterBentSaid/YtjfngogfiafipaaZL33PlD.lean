/- The holdings of a day are those that the moves until then have made, in plain lists. -/
import Derived.Test.YtjfngogfiafipaaZL33PlC
namespace Go.Proofs.Ytjfngogfiafipaa
open Go.RowKit
set_option linter.unusedVariables false
set_option linter.unusedSimpArgs false
theorem repl_ge {secs : List Sec} : ∀ {ms : List Mv} {n d : Int} {hs : List Hold}, (repl secs wantAll ms n d hs).1 = true → ∀ m ∈ ms, d ≤ m.day
  | [], _, _, _, _, m, hm => by simp at hm
  | x :: ms, n, d, hs, h, m, hm => by
    obtain ⟨h1, h2, -⟩ := repl_true h
    obtain ⟨s, -, -, f3, -⟩ := (stepB_iff.1 h1).2.2.fi
    rcases List.mem_cons.1 hm with rfl | hm
    · omega
    · have := repl_ge h2 m hm
      omega
/-- the moves until a day -/
def msTo (k : Int) (ms : List Mv) : List Mv := ms.filter (fun m => decide (m.day ≤ k))
theorem msTo_none {k : Int} : ∀ {ms : List Mv}, (∀ m ∈ ms, k < m.day) → msTo k ms = []
  | [], _ => rfl
  | m :: ms, h => by
    unfold msTo
    rw [List.filter_cons_of_neg (by have := h m (List.mem_cons_self ..); simp; omega)]
    exact msTo_none (fun x hx => h x (List.mem_cons_of_mem _ hx))
theorem repl_cut {secs : List Sec} (k : Int) : ∀ {ms : List Mv} {n d : Int} {hs : List Hold}, (repl secs wantAll ms n d hs).1 = true → repl secs (wantDay k) ms n d hs = repl secs wantAll (msTo k ms) n d hs ∧ (repl secs wantAll (msTo k ms) n d hs).1 = true
  | [], _, _, _, _ => ⟨rfl, rfl⟩
  | m :: ms, n, d, hs, h => by
    obtain ⟨h1, h2, h3⟩ := repl_true h
    by_cases hd : m.day ≤ k
    · have e1 : msTo k (m :: ms) = m :: msTo k ms := by unfold msTo; rw [List.filter_cons_of_pos (by simpa using hd)]
      have ih := repl_cut k h2
      have hw : wantDay k m = true := decide_eq_true hd
      rw [e1]
      simp only [repl]
      rw [if_pos hw, if_pos (show wantAll m = true from rfl), if_pos h1, if_pos h1]
      exact ih
    · have e1 : msTo k (m :: ms) = [] := by
        refine msTo_none fun x hx => ?_
        rcases List.mem_cons.1 hx with rfl | hx
        · omega
        · have := repl_ge h2 x hx; omega
      have hw : ¬ wantDay k m = true := by unfold wantDay; simpa using hd
      rw [e1]
      simp only [repl]
      rw [if_neg hw]
      constructor <;> first | rfl | trivial
theorem RgOk.cut {R : Reg} (h : RgOk R) (k : Int) : RgOk ⟨R.secs, rgAt R k, msTo k R.ms⟩ := by
  have hc := repl_cut (secs := R.secs) k (n := 0) (d := 0) (hs := []) h.ok
  have hl : (msTo k R.ms).length ≤ R.ms.length := List.length_filter_le _ _
  have h1 := h.lm
  refine ⟨h.ls, by simp only; omega, h.secs, hc.2, ?_⟩
  simp only
  unfold rgAt
  rw [if_pos (chkE_iff.2 h), hc.1]
theorem msTo_all {k : Int} : ∀ {ms : List Mv}, (∀ m ∈ ms, m.day ≤ k) → msTo k ms = ms
  | [], _ => rfl
  | m :: ms, h => by
    unfold msTo
    rw [List.filter_cons_of_pos (by simpa using h m (List.mem_cons_self ..))]
    exact congrArg (m :: ·) (msTo_all (fun x hx => h x (List.mem_cons_of_mem _ hx)))
theorem RgOk.last {R : Reg} (h : RgOk R) : rgAt R 36000 = R.hs := by
  have hd := repl_days h.sec h.ok
  unfold rgAt
  rw [if_pos (chkE_iff.2 h), (repl_cut (secs := R.secs) 36000 (n := 0) (d := 0) (hs := []) h.ok).1, msTo_all (fun m hm => (hd m hm).2)]
  exact h.hs
theorem msTo_snoc {k : Int} (L : List Mv) (m : Mv) : msTo k (L ++ [m]) = if m.day ≤ k then msTo k L ++ [m] else msTo k L := by
  unfold msTo
  rw [List.filter_append]
  by_cases h : m.day ≤ k
  · rw [if_pos h, List.filter_cons_of_pos (by simpa using h)]; rfl
  · rw [if_neg h, List.filter_cons_of_neg (by simpa using h)]; simp
theorem newsMv (w : World) (g : Nat) (hg : g = w.heap.size) (x0 x1 x2 x3 x4 x5 x6 : Int) : ∀ j u, (encMv ⟨x0, x1, x2, x3, x4, x5, x6⟩)[j]? = some u → (w.alloc (.cells #[.int .i64 x0, .int .i64 x1, .int .i64 x2, .int .i64 x3, .int .i64 x4, .int .i64 x5, .int .i64 x6] 36 (0, 0))).cell? ((⟨g, 0, none⟩ : Addr).add j) = some u := by
  subst hg
  intro j u hj
  rw [add_litZ, Nat.zero_add]
  exact cell_whole (heap_alloc_new w _) hj
theorem msTo_len (k : Int) (L : List Mv) : (msTo k L).length ≤ L.length := List.length_filter_le _ _
end Go.Proofs.Ytjfngogfiafipaa
