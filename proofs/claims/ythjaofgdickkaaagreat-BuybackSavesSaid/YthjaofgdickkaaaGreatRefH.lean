/- the reference's register: change. -/
import Derived.Test.YthjaofgdickkaaaGreatRefF
namespace Go.Proofs.YthjaofgdickkaaaGreat
open Go.RowKit
set_option linter.unusedVariables false
set_option linter.unusedSimpArgs false
/-- the day of the last move, or one of its own -/
def dayOr : List Mv → Int → Int
  | [], d => d
  | m :: ms, _ => dayOr ms m.day
theorem repl_day (secs : List Sec) : ∀ (ms : List Mv) (n d : Int) (hs : List Hold), (repl secs wantAll ms n d hs).1 = true → (repl secs wantAll ms n d hs).2.2.1 = dayOr ms d
  | [], n, d, hs, _ => rfl
  | m :: ms, n, d, hs, h => by
    simp only [repl, wantAll, if_true] at h ⊢
    split at h
    · rename_i hq
      rw [if_pos hq]
      exact repl_day secs ms _ _ _ h
    · cases h
theorem dayOr_last : ∀ {ms : List Mv} {d : Int} {k : Nat} {m : Mv}, ms.length = k + 1 → ms[k]? = some m → dayOr ms d = m.day
  | [], d, k, m, h, _ => by simp at h
  | [x], d, k, m, h, h2 => by
    simp only [List.length_cons, List.length_nil] at h
    obtain rfl : k = 0 := by omega
    simp only [List.getElem?_cons_zero, Option.some.injEq] at h2
    subst h2; rfl
  | x :: y :: ms, d, k, m, h, h2 => by
    simp only [List.length_cons] at h
    obtain ⟨j, rfl⟩ : ∃ j, k = j + 1 := ⟨k - 1, by omega⟩
    rw [List.getElem?_cons_succ] at h2
    exact dayOr_last (ms := y :: ms) (d := x.day) (by simp only [List.length_cons]; omega) h2
theorem RgOk.day {R : Reg} (h : RgOk R) : rgDay R = dayOr R.ms 0 := repl_day R.secs R.ms 0 0 [] h.ok
/-- append(nil, s...) is a copy of its own -/
theorem run_clone_row {P : Program} {α : Type} {z : Nat} {enc : α → List Value} (hlen : ∀ a, (enc a).length = z) (hone : ∀ a, ∀ u ∈ enc a, u.oneCell' = true) {Q : Nat → Prop} (w : World) {ao : Option Addr} {n c : Nat} {L : List α} (hS : Sl z enc Q w (.slice ao n c) L)
    (t ty e : TypeId) (i : TypeInfo) (zv : Value) (bytes : Nat) (ht : P.underlying t = some (.slice e)) (hi : P.info? e = some i) (hz : i.zero = some zv) (hsize : i.size = z) (hby : i.bytes = bytes) (hzs : zv.cells.size = z) (hsz : 0 < z) (hn : n ≤ 1000000) (hbb : bytes ≤ 1000) :
    ∃ a' c' w', (Builtin.append_ #[t, t] ty #[.slice none 0 0, .slice ao n c]).run P w = .ok (.slice a' n c') w' ∧ w'.ownsRow w.heap.size e z (.slice a' n c') n (flatE enc L) ∧ w.grownBy w' none := by
  obtain ⟨ao', n', c', h1, h2, h3, h4, h5⟩ := hS
  cases h1
  cases ao with
  | none =>
    have h0 : n = 0 := by
      rcases h5 with h | ⟨b, off, h, _⟩
      · exact h
      · cases h
    subst h0
    have hL : L = [] := List.eq_nil_of_length_eq_zero h2
    subst hL
    exact ⟨none, 0, w, by simp [Builtin.append_, run_underlying ht, sizeOf, typeInfo, hi, Builtin.lenOf, Builtin.firstCells], World.ownsRow_nil _ _ _ _, ⟨rfl, rfl, rfl, Nat.le_refl _, fun _ _ _ => rfl⟩⟩
  | some a =>
    have hsrc : ∀ j u, (flatE enc L)[j]? = some u → w.cell? (a.add j) = some u := by
      rcases h5 with h | ⟨b, off, h, _, hb, hc⟩
      · have hL : L = [] := List.eq_nil_of_length_eq_zero (by omega)
        subst hL
        intro j u hj
        simp [flatE] at hj
      · cases h
        intro j u hj
        rw [add_litZ]
        exact flatE_cells hlen L off hc j u hj
    obtain ⟨v', w', hr, ho, hg, -, -⟩ := run_append_own_at (P := P) w w.heap.size t ty e i zv z bytes ht hi hz hsize hby hzs hsz (.slice none 0 0) 0 [] (World.ownsRow_nil _ _ _ _) a n c (flatE enc L) (by rw [flatE_length hlen, h2]) hsrc (oneE hone L) (by unfold maxLen; omega) (by rw [Nat.zero_add]; exact Nat.le_trans (Nat.mul_le_mul hn hbb) (by omega)) (Nat.le_refl _)
    rw [Nat.zero_add, List.nil_append] at ho
    obtain ⟨a', c', rfl⟩ := own_slice0 ho
    exact ⟨a', c', w', hr, ho, hg⟩
/-- append(append(nil, s...), x) in whichever order its memory is made -/
theorem run_clone_one {P : Program} {α : Type} {z : Nat} {enc : α → List Value} (hlen : ∀ a, (enc a).length = z) (hone : ∀ a, ∀ u ∈ enc a, u.oneCell' = true) {Q : Nat → Prop} (w : World) {ao : Option Addr} {n c : Nat} {L : List α} (hS : Sl z enc Q w (.slice ao n c) L) (x : α)
    (t ty ty2 e : TypeId) (i : TypeInfo) (zv : Value) (bytes : Nat) (ht : P.underlying t = some (.slice e)) (hi : P.info? e = some i) (hz : i.zero = some zv) (hsize : i.size = z) (hby : i.bytes = bytes) (hzs : zv.cells.size = z) (hsz : 0 < z) (hn : n ≤ 100000) (hbb : bytes ≤ 1000) (cs : Array Value) (hcs : cs = (enc x).toArray) :
    (∃ a1 c1 W1 a2 c2 W2, (Builtin.append_ #[t, t] ty #[.slice none 0 0, .slice ao n c]).run P w = .ok (.slice a1 n c1) W1 ∧ (Builtin.append_ #[t, t] ty2 #[.slice a1 n c1, .slice (some ⟨W1.heap.size, 0, none⟩) 1 1]).run P (W1.alloc (.cells cs e (0, 0))) = .ok (.slice a2 (n + 1) c2) W2 ∧ W2.ownsRow w.heap.size e z (.slice a2 (n + 1) c2) (n + 1) (flatE enc (L ++ [x])) ∧ Below w.heap.size w W2 ∧ Below w.heap.size w W1) ∧
    (∃ a1 c1 W1 a2 c2 W2, (Builtin.append_ #[t, t] ty #[.slice none 0 0, .slice ao n c]).run P (w.alloc (.cells cs e (0, 0))) = .ok (.slice a1 n c1) W1 ∧ (Builtin.append_ #[t, t] ty2 #[.slice a1 n c1, .slice (some ⟨w.heap.size, 0, none⟩) 1 1]).run P W1 = .ok (.slice a2 (n + 1) c2) W2 ∧ W2.ownsRow w.heap.size e z (.slice a2 (n + 1) c2) (n + 1) (flatE enc (L ++ [x])) ∧ Below w.heap.size w W2 ∧ Below w.heap.size w W1) := by
  have hflat : flatE enc (L ++ [x]) = flatE enc L ++ enc x := by simp [flatE]
  rw [hflat]
  have hmax : n + 1 ≤ maxLen := by unfold maxLen; omega
  have hbt : (n + 1) * bytes ≤ 140737488355328 := Nat.le_trans (Nat.mul_le_mul (show n + 1 ≤ 100001 by omega) hbb) (by omega)
  subst hcs
  refine ⟨?_, ?_⟩
  · obtain ⟨a1, c1, W1, hr1, ho1, hg1⟩ := run_clone_row hlen hone w hS t ty e i zv bytes ht hi hz hsize hby hzs hsz (by omega) hbb
    have z1 := hg1.size
    have hB1 : Below w.heap.size w W1 := ⟨hg1.os, hg1.tape, hg1.output, hg1.size, fun k hk => hg1.block k hk (by simp)⟩
    have ho1' : (W1.alloc (.cells (enc x).toArray e (0, 0))).ownsRow w.heap.size e z (.slice a1 n c1) n (flatE enc L) := ho1.alloc _
    have hnew : ∀ j u, (enc x)[j]? = some u → (W1.alloc (.cells (enc x).toArray e (0, 0))).cell? ((⟨W1.heap.size, 0, none⟩ : Addr).add j) = some u := by
      intro j u hj
      rw [add_litZ, Nat.zero_add]
      exact cell_whole (heap_alloc_new W1 _) hj
    obtain ⟨v2, W2, hr2, ho2, hg2, -, -⟩ := run_append_own_at (P := P) (W1.alloc (.cells (enc x).toArray e (0, 0))) w.heap.size t ty2 e i zv z bytes ht hi hz hsize hby hzs hsz _ _ _ ho1' ⟨W1.heap.size, 0, none⟩ 1 1 (enc x) (by rw [hlen]; omega) hnew (hone x) hmax hbt (by simp; omega)
    obtain ⟨a2, c2, rfl⟩ := own_slice0 ho2
    refine ⟨a1, c1, W1, a2, c2, W2, hr1, hr2, ho2, (hB1.alloc z1 _).grown hg2 (by simp; omega) (fun k hk => (ho1.lt k hk).1), hB1⟩
  · have hS' := hS.alloc (.cells (enc x).toArray e (0, 0))
    obtain ⟨a1, c1, W1, hr1, ho1, hg1⟩ := run_clone_row hlen hone (w.alloc (.cells (enc x).toArray e (0, 0))) hS' t ty e i zv bytes ht hi hz hsize hby hzs hsz (by omega) hbb
    have z1 := hg1.size
    rw [World.size_alloc] at z1
    have hB1 : Below w.heap.size w W1 := (bal brefl _).trans ⟨hg1.os, hg1.tape, hg1.output, hg1.size, fun k hk => hg1.block k (by rw [World.size_alloc]; omega) (by simp)⟩
    have hnew : ∀ j u, (enc x)[j]? = some u → W1.cell? ((⟨w.heap.size, 0, none⟩ : Addr).add j) = some u := by
      intro j u hj
      rw [add_litZ, Nat.zero_add]
      refine (World.cell?_of_block (a := ⟨w.heap.size, j, none⟩) (hg1.block _ (by simp) (by simp))).trans ?_
      exact cell_whole (heap_alloc_new w _) hj
    obtain ⟨v2, W2, hr2, ho2, hg2, -, -⟩ := run_append_own_at (P := P) W1 w.heap.size t ty2 e i zv z bytes ht hi hz hsize hby hzs hsz _ _ _ (ownsRow_baseZ ho1 (by simp)) ⟨w.heap.size, 0, none⟩ 1 1 (enc x) (by rw [hlen]; omega) hnew (hone x) hmax hbt (by omega)
    obtain ⟨a2, c2, rfl⟩ := own_slice0 ho2
    refine ⟨a1, c1, W1, a2, c2, W2, hr1, hr2, ho2, hB1.grown hg2 (by omega) (fun k hk => by have := (ho1.lt k hk).1; rw [World.size_alloc] at this; omega), hB1⟩
end Go.Proofs.YthjaofgdickkaaaGreat
