/- the reference's register: change. Right registers stay right; holdings are told by what is held. No program in sight. -/
import Derived.Test.YtjfngogfiafipaaZRefF
namespace Go.Proofs.Ytjfngogfiafipaa
open Go.RowKit
set_option linter.unusedVariables false
set_option linter.unusedSimpArgs false
/-- the day of the last move, or one of its own -/
def dayOr : List Mv → Int → Int
  | [], d => d
  | m :: ms, _ => dayOr ms m.day
theorem repl_day (secs : List Sec) : ∀ (ms : List Mv) (n d : Int) (hs : List Hold), (repl secs wantAll ms n d hs).1 = true → (repl secs wantAll ms n d hs).2.2.1 = dayOr ms d
  | [], n, d, hs, _ => rfl
  | m :: ms, n, d, hs, h => by
    simp only [repl, wantAll, if_true] at h ⊢
    split at h
    · rename_i hq
      rw [if_pos hq]
      exact repl_day secs ms _ _ _ h
    · cases h
theorem dayOr_last : ∀ {ms : List Mv} {d : Int} {k : Nat} {m : Mv}, ms.length = k + 1 → ms[k]? = some m → dayOr ms d = m.day
  | [], d, k, m, h, _ => by simp at h
  | [x], d, k, m, h, h2 => by
    simp only [List.length_cons, List.length_nil] at h
    obtain rfl : k = 0 := by omega
    simp only [List.getElem?_cons_zero, Option.some.injEq] at h2
    subst h2; rfl
  | x :: y :: ms, d, k, m, h, h2 => by
    simp only [List.length_cons] at h
    obtain ⟨j, rfl⟩ : ∃ j, k = j + 1 := ⟨k - 1, by omega⟩
    rw [List.getElem?_cons_succ] at h2
    exact dayOr_last (ms := y :: ms) (d := x.day) (by simp only [List.length_cons]; omega) h2
theorem RgOk.day {R : Reg} (h : RgOk R) : rgDay R = dayOr R.ms 0 := repl_day R.secs R.ms 0 0 [] h.ok
/-- append(nil, s...) is a copy of its own -/
theorem run_clone_row {P : Program} {α : Type} {z : Nat} {enc : α → List Value} (hlen : ∀ a, (enc a).length = z) (hone : ∀ a, ∀ u ∈ enc a, u.oneCell' = true) {Q : Nat → Prop} (w : World) {ao : Option Addr} {n c : Nat} {L : List α} (hS : Sl z enc Q w (.slice ao n c) L)
    (t ty e : TypeId) (i : TypeInfo) (zv : Value) (bytes : Nat) (ht : P.underlying t = some (.slice e)) (hi : P.info? e = some i) (hz : i.zero = some zv) (hsize : i.size = z) (hby : i.bytes = bytes) (hzs : zv.cells.size = z) (hsz : 0 < z) (hn : n ≤ 1000000) (hbb : bytes ≤ 1000) :
    ∃ a' c' w', (Builtin.append_ #[t, t] ty #[.slice none 0 0, .slice ao n c]).run P w = .ok (.slice a' n c') w' ∧ w'.ownsRow w.heap.size e z (.slice a' n c') n (flatE enc L) ∧ w.grownBy w' none := by
  obtain ⟨ao', n', c', h1, h2, h3, h4, h5⟩ := hS
  cases h1
  cases ao with
  | none =>
    have h0 : n = 0 := by
      rcases h5 with h | ⟨b, off, h, _⟩
      · exact h
      · cases h
    subst h0
    have hL : L = [] := List.eq_nil_of_length_eq_zero h2
    subst hL
    exact ⟨none, 0, w, by simp [Builtin.append_, run_underlying ht, sizeOf, typeInfo, hi, Builtin.lenOf, Builtin.firstCells], World.ownsRow_nil _ _ _ _, ⟨rfl, rfl, rfl, Nat.le_refl _, fun _ _ _ => rfl⟩⟩
  | some a =>
    have hsrc : ∀ j u, (flatE enc L)[j]? = some u → w.cell? (a.add j) = some u := by
      rcases h5 with h | ⟨b, off, h, _, hb, hc⟩
      · have hL : L = [] := List.eq_nil_of_length_eq_zero (by omega)
        subst hL
        intro j u hj
        simp [flatE] at hj
      · cases h
        intro j u hj
        rw [add_litZ]
        exact flatE_cells hlen L off hc j u hj
    obtain ⟨v', w', hr, ho, hg, -, -⟩ := run_append_own_at (P := P) w w.heap.size t ty e i zv z bytes ht hi hz hsize hby hzs hsz (.slice none 0 0) 0 [] (World.ownsRow_nil _ _ _ _) a n c (flatE enc L) (by rw [flatE_length hlen, h2]) hsrc (oneE hone L) (by unfold maxLen; omega) (by rw [Nat.zero_add]; exact Nat.le_trans (Nat.mul_le_mul hn hbb) (by omega)) (Nat.le_refl _)
    rw [Nat.zero_add, List.nil_append] at ho
    obtain ⟨a', c', rfl⟩ := own_slice0 ho
    exact ⟨a', c', w', hr, ho, hg⟩
/-- append(append(nil, s...), x) in whichever order its memory is made -/
theorem run_clone_one {P : Program} {α : Type} {z : Nat} {enc : α → List Value} (hlen : ∀ a, (enc a).length = z) (hone : ∀ a, ∀ u ∈ enc a, u.oneCell' = true) {Q : Nat → Prop} (w : World) {ao : Option Addr} {n c : Nat} {L : List α} (hS : Sl z enc Q w (.slice ao n c) L) (x : α)
    (t ty ty2 e : TypeId) (i : TypeInfo) (zv : Value) (bytes : Nat) (ht : P.underlying t = some (.slice e)) (hi : P.info? e = some i) (hz : i.zero = some zv) (hsize : i.size = z) (hby : i.bytes = bytes) (hzs : zv.cells.size = z) (hsz : 0 < z) (hn : n ≤ 100000) (hbb : bytes ≤ 1000) (cs : Array Value) (hcs : cs = (enc x).toArray) :
    (∃ a1 c1 W1 a2 c2 W2, (Builtin.append_ #[t, t] ty #[.slice none 0 0, .slice ao n c]).run P w = .ok (.slice a1 n c1) W1 ∧ (Builtin.append_ #[t, t] ty2 #[.slice a1 n c1, .slice (some ⟨W1.heap.size, 0, none⟩) 1 1]).run P (W1.alloc (.cells cs e (0, 0))) = .ok (.slice a2 (n + 1) c2) W2 ∧ W2.ownsRow w.heap.size e z (.slice a2 (n + 1) c2) (n + 1) (flatE enc (L ++ [x])) ∧ Below w.heap.size w W2 ∧ Below w.heap.size w W1) ∧
    (∃ a1 c1 W1 a2 c2 W2, (Builtin.append_ #[t, t] ty #[.slice none 0 0, .slice ao n c]).run P (w.alloc (.cells cs e (0, 0))) = .ok (.slice a1 n c1) W1 ∧ (Builtin.append_ #[t, t] ty2 #[.slice a1 n c1, .slice (some ⟨w.heap.size, 0, none⟩) 1 1]).run P W1 = .ok (.slice a2 (n + 1) c2) W2 ∧ W2.ownsRow w.heap.size e z (.slice a2 (n + 1) c2) (n + 1) (flatE enc (L ++ [x])) ∧ Below w.heap.size w W2 ∧ Below w.heap.size w W1) := by
  have hflat : flatE enc (L ++ [x]) = flatE enc L ++ enc x := by simp [flatE]
  rw [hflat]
  have hmax : n + 1 ≤ maxLen := by unfold maxLen; omega
  have hbt : (n + 1) * bytes ≤ 140737488355328 := Nat.le_trans (Nat.mul_le_mul (show n + 1 ≤ 100001 by omega) hbb) (by omega)
  subst hcs
  refine ⟨?_, ?_⟩
  · obtain ⟨a1, c1, W1, hr1, ho1, hg1⟩ := run_clone_row hlen hone w hS t ty e i zv bytes ht hi hz hsize hby hzs hsz (by omega) hbb
    have z1 := hg1.size
    have hB1 : Below w.heap.size w W1 := ⟨hg1.os, hg1.tape, hg1.output, hg1.size, fun k hk => hg1.block k hk (by simp)⟩
    have ho1' : (W1.alloc (.cells (enc x).toArray e (0, 0))).ownsRow w.heap.size e z (.slice a1 n c1) n (flatE enc L) := ho1.alloc _
    have hnew : ∀ j u, (enc x)[j]? = some u → (W1.alloc (.cells (enc x).toArray e (0, 0))).cell? ((⟨W1.heap.size, 0, none⟩ : Addr).add j) = some u := by
      intro j u hj
      rw [add_litZ, Nat.zero_add]
      exact cell_whole (heap_alloc_new W1 _) hj
    obtain ⟨v2, W2, hr2, ho2, hg2, -, -⟩ := run_append_own_at (P := P) (W1.alloc (.cells (enc x).toArray e (0, 0))) w.heap.size t ty2 e i zv z bytes ht hi hz hsize hby hzs hsz _ _ _ ho1' ⟨W1.heap.size, 0, none⟩ 1 1 (enc x) (by rw [hlen]; omega) hnew (hone x) hmax hbt (by simp; omega)
    obtain ⟨a2, c2, rfl⟩ := own_slice0 ho2
    refine ⟨a1, c1, W1, a2, c2, W2, hr1, hr2, ho2, (hB1.alloc z1 _).grown hg2 (by simp; omega) (fun k hk => (ho1.lt k hk).1), hB1⟩
  · have hS' := hS.alloc (.cells (enc x).toArray e (0, 0))
    obtain ⟨a1, c1, W1, hr1, ho1, hg1⟩ := run_clone_row hlen hone (w.alloc (.cells (enc x).toArray e (0, 0))) hS' t ty e i zv bytes ht hi hz hsize hby hzs hsz (by omega) hbb
    have z1 := hg1.size
    rw [World.size_alloc] at z1
    have hB1 : Below w.heap.size w W1 := (bal brefl _).trans ⟨hg1.os, hg1.tape, hg1.output, hg1.size, fun k hk => hg1.block k (by rw [World.size_alloc]; omega) (by simp)⟩
    have hnew : ∀ j u, (enc x)[j]? = some u → W1.cell? ((⟨w.heap.size, 0, none⟩ : Addr).add j) = some u := by
      intro j u hj
      rw [add_litZ, Nat.zero_add]
      refine (World.cell?_of_block (a := ⟨w.heap.size, j, none⟩) (hg1.block _ (by simp) (by simp))).trans ?_
      exact cell_whole (heap_alloc_new w _) hj
    obtain ⟨v2, W2, hr2, ho2, hg2, -, -⟩ := run_append_own_at (P := P) W1 w.heap.size t ty2 e i zv z bytes ht hi hz hsize hby hzs hsz _ _ _ (ownsRow_baseZ ho1 (by simp)) ⟨w.heap.size, 0, none⟩ 1 1 (enc x) (by rw [hlen]; omega) hnew (hone x) hmax hbt (by omega)
    obtain ⟨a2, c2, rfl⟩ := own_slice0 ho2
    refine ⟨a1, c1, W1, a2, c2, W2, hr1, hr2, ho2, hB1.grown hg2 (by omega) (fun k hk => by have := (ho1.lt k hk).1; rw [World.size_alloc] at this; omega), hB1⟩
end Go.Proofs.Ytjfngogfiafipaa
namespace Go.Proofs.Ytjfngogfiafipaa
open Go.RowKit
set_option linter.unusedVariables false
set_option linter.unusedSimpArgs false
theorem repl_snoc {secs : List Sec} {m : Mv} : ∀ {ms : List Mv} {n d : Int} {hs : List Hold} {N D : Int} {H : List Hold}, repl secs wantAll ms n d hs = (true, N, D, H) → stepB secs N D H m = true → repl secs wantAll (ms ++ [m]) n d hs = (true, N + 1, m.day, mvH H m)
  | [], n, d, hs, N, D, H, h, hs1 => by
    simp only [repl, Prod.mk.injEq, true_and] at h
    obtain ⟨rfl, rfl, rfl⟩ := h
    simp only [List.nil_append, repl, wantAll, if_true]
    rw [if_pos hs1]
  | x :: ms, n, d, hs, N, D, H, h, hs1 => by
    simp only [List.cons_append, repl, wantAll, if_true] at h ⊢
    split at h
    · rename_i hq
      rw [if_pos hq]
      exact repl_snoc h hs1
    · simp at h
theorem rmE_zero {R : Reg} {m : Mv} (h : rmE R m = 0) : RgOk R ∧ R.ms.length ≠ 400 ∧ MvOk R.secs R.hs (rgDay R) (numbered R m) := by
  unfold rmE at h
  by_cases h0 : chkE R = 0
  · rw [if_pos h0] at h
    by_cases h1 : R.ms.length = 400
    · rw [if_pos h1] at h; omega
    · rw [if_neg h1] at h
      exact ⟨chkE_iff.1 h0, h1, mvOk_iff.1 h⟩
  · rw [if_neg h0] at h; exact absurd h h0
theorem rmR_ok {R : Reg} {m : Mv} (h : rmE R m = 0) : rmR R m = ⟨R.secs, mvH R.hs (numbered R m), R.ms ++ [numbered R m]⟩ := by unfold rmR; rw [if_pos h]
theorem RgOk.move {R : Reg} {m : Mv} (hE : rmE R m = 0) (hk : 1 ≤ m.kind ∧ m.kind ≤ 3) : RgOk (rmR R m) ∧ rgDay (rmR R m) = m.day := by
  obtain ⟨h, hl, hm⟩ := rmE_zero hE
  rw [rmR_ok hE]
  have h1 := repl_snoc h.made (stepB_iff.2 ⟨rfl, hk, hm⟩ : stepB R.secs (R.ms.length : Int) (rgDay R) R.hs (numbered R m) = true)
  have hlm := h.lm
  refine ⟨⟨h.ls, ?_, h.secs, ?_, ?_⟩, ?_⟩
  · simp only [List.length_append, List.length_cons, List.length_nil]; omega
  · simp only; rw [h1]
  · simp only; rw [h1]
  · unfold rgDay; simp only; rw [h1]; rfl
theorem chkE_move {R : Reg} {m : Mv} (hE : rmE R m = 0) (hk : 1 ≤ m.kind ∧ m.kind ≤ 3) : chkE (rmR R m) = 0 := chkE_iff.2 (RgOk.move hE hk).1
theorem secsB_ins : ∀ {L : List Sec} {p : Int} {x : Sec}, secsB p L = true → p < x.id → secOk x = true → isS L x.id = false → secsB p (L.take (posS L x.id) ++ x :: L.drop (posS L x.id)) = true
  | [], p, x, _, hp, hx, _ => by simp [secsB, hp, hx, posS]
  | y :: L, p, x, h, hp, hx, hi => by
    simp only [secsB, Bool.and_eq_true, decide_eq_true_eq] at h
    by_cases h1 : y.id < x.id
    · have hi2 : isS L x.id = false := by
        unfold isS at hi ⊢
        simp only [posS] at hi
        rw [if_pos h1] at hi
        simpa using hi
      have ih := secsB_ins h.2.2 h1 hx hi2
      simp only [posS]
      rw [if_pos h1]
      simp only [List.take_succ_cons, List.drop_succ_cons, List.cons_append, secsB, Bool.and_eq_true, decide_eq_true_eq]
      exact ⟨h.1, h.2.1, ih⟩
    · have h2 : y.id ≠ x.id := by
        intro e
        unfold isS at hi
        simp only [posS] at hi
        rw [if_neg h1] at hi
        simp [e] at hi
      simp only [posS]
      rw [if_neg h1]
      simp only [List.take_zero, List.drop_zero, List.nil_append, secsB, Bool.and_eq_true, decide_eq_true_eq]
      exact ⟨hx, hp, h.1, by omega, h.2.2⟩
theorem raE_zero {R : Reg} {x : Sec} (h : raE R x = 0) : RgOk R ∧ secOk x = true ∧ isS R.secs x.id = false ∧ R.secs.length ≠ 20 := by
  unfold raE at h
  by_cases h0 : chkE R = 0
  · rw [if_pos h0] at h
    by_cases h1 : secOk x = true ∧ isS R.secs x.id = false
    · rw [if_pos h1] at h
      by_cases h2 : R.secs.length = 20
      · rw [if_pos h2] at h; omega
      · exact ⟨chkE_iff.1 h0, h1.1, h1.2, h2⟩
    · rw [if_neg h1] at h; omega
  · rw [if_neg h0] at h; exact absurd h h0
theorem raR_ok {R : Reg} {x : Sec} (h : raE R x = 0) : raR R x = ⟨R.secs.take (posS R.secs x.id) ++ x :: R.secs.drop (posS R.secs x.id), R.hs, R.ms⟩ := by unfold raR; rw [if_pos h]
theorem RgOk.add {R : Reg} {x : Sec} (hE : raE R x = 0) (hm : R.ms = []) : RgOk (raR R x) ∧ (raR R x).ms = [] := by
  obtain ⟨h, hx, hi, hl⟩ := raE_zero hE
  rw [raR_ok hE]
  have h1 := h.ls
  have h2 := h.hs
  rw [hm] at h2
  have hp := posS_le R.secs x.id
  refine ⟨⟨?_, h.lm, secsB_ins h.secs (by have := secOk_id hx; omega) hx hi, ?_, ?_⟩, hm⟩
  · simp only [List.length_append, List.length_cons, List.length_take, List.length_drop]; omega
  · simp only; rw [hm]; rfl
  · simp only; rw [hm]; exact h2
theorem RgOk.nil : RgOk ⟨[], [], []⟩ := ⟨by simp, by simp, rfl, rfl, rfl⟩
theorem heldH_cons (x : Hold) (L : List Hold) (s h : Int) : heldH (x :: L) s h = if x.s = s ∧ x.h = h then x.a else heldH L s h := by
  simp only [heldH, eqK]
  by_cases hq : x.s = s ∧ x.h = h
  · simp [hq]
  · simp [hq]
/-- holdings are told by what is held -/
theorem hs_ext : ∀ {L M : List Hold}, srtH L → srtH M → (∀ x ∈ L, 0 < x.a) → (∀ x ∈ M, 0 < x.a) → (∀ s h, heldH L s h = heldH M s h) → L = M
  | [], [], _, _, _, _, _ => rfl
  | [], y :: M, _, _, _, hp, he => by
    have := he y.s y.h
    have h1 := hp y (List.mem_cons_self ..)
    simp [heldH, eqK] at this; omega
  | x :: L, [], _, _, hp, _, he => by
    have := he x.s x.h
    have h1 := hp x (List.mem_cons_self ..)
    simp [heldH, eqK] at this; omega
  | x :: L, y :: M, hs, ht, hp, hq, he => by
    have px := hp x (List.mem_cons_self ..)
    have py := hq y (List.mem_cons_self ..)
    have sx := srtH_head hs
    have sy := srtH_head ht
    have ex := he x.s x.h
    have ey := he y.s y.h
    have nL : ∀ s h, (s < x.s ∨ (s = x.s ∧ h ≤ x.h)) → heldH L s h = 0 := fun s h hk => heldH_out (fun z hz e => by have := sx z hz; omega)
    have nM : ∀ s h, (s < y.s ∨ (s = y.s ∧ h ≤ y.h)) → heldH M s h = 0 := fun s h hk => heldH_out (fun z hz e => by have := sy z hz; omega)
    rw [heldH_cons, heldH_cons] at ex ey
    by_cases hk : x.s = y.s ∧ x.h = y.h
    · rw [if_pos ⟨rfl, rfl⟩, if_pos ⟨hk.1.symm, hk.2.symm⟩] at ex
      have hxy : x = y := by
        obtain ⟨a, b, c⟩ := x
        obtain ⟨a', b', c'⟩ := y
        simp only at hk ex
        rw [hk.1, hk.2, ex]
      subst hxy
      refine congrArg (x :: ·) (hs_ext (srtH_tail hs) (srtH_tail ht) (fun z hz => hp z (List.mem_cons_of_mem _ hz)) (fun z hz => hq z (List.mem_cons_of_mem _ hz)) fun s h => ?_)
      by_cases hq : x.s = s ∧ x.h = h
      · rw [nL s h (by omega), nM s h (by omega)]
      · have := he s h
        rw [heldH_cons, heldH_cons, if_neg hq, if_neg hq] at this
        exact this
    · exfalso
      by_cases hlt : x.s < y.s ∨ (x.s = y.s ∧ x.h < y.h)
      · rw [if_pos ⟨rfl, rfl⟩, if_neg (by omega), nM _ _ (by omega)] at ex
        omega
      · rw [if_neg (by omega), if_pos ⟨rfl, rfl⟩, nL _ _ (by omega)] at ey
        omega
theorem HsOk.ext {L M : List Hold} (hL : HsOk L) (hM : HsOk M) (h : ∀ s h, heldH L s h = heldH M s h) : L = M := hs_ext hL.srt hM.srt hL.pos hM.pos h
end Go.Proofs.Ytjfngogfiafipaa
