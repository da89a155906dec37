/- A changed amount is found, in plain lists. A field of an element of a slice is stored to. -/
import Derived.Test.YtpoidaenkjjdfaaZRefN
namespace Go.Proofs.Ytpoidaenkjjdfaa
open Go.RowKit
set_option linter.unusedVariables false
set_option linter.unusedSimpArgs false
/-- what a move adds to what is held -/
def mvD (m : Mv) (s h : Int) : Int := (if m.s = s ∧ m.f = h then -m.a else 0) + (if m.s = s ∧ m.t = h then m.a else 0)
def dOf : List Mv → Int → Int → Int
  | [], _, _ => 0
  | m :: ms, s, h => mvD m s h + dOf ms s h
theorem repl_held (secs : List Sec) (s h : Int) (h0 : h ≠ 0) : ∀ (ms : List Mv) (n d : Int) (hs : List Hold), HsOk hs → (repl secs wantAll ms n d hs).1 = true → heldH (repl secs wantAll ms n d hs).2.2.2 s h = heldH hs s h + dOf ms s h
  | [], n, d, hs, _, _ => by simp [repl, dOf]
  | m :: ms, n, d, hs, hk, hr => by
    obtain ⟨h1, h2, h3⟩ := repl_true hr
    have hm := (stepB_iff.1 h1).2.2
    have a0 := hm.a0
    have hso := hsOk_sub hk (s := m.s) (f := m.f) (a := m.a) (by omega) hm.he
    rw [h3, repl_held secs s h h0 ms _ _ _ (mvH_ok hk hm) h2]
    simp only [mvH, dOf, mvD]
    rw [addZ_held hso.srt _ _ _ _ _ h0, addZ_held hk.srt _ _ _ _ _ h0]
    omega
theorem repl_strange (secs : List Sec) : ∀ (ms : List Mv) (n d : Int) (hs : List Hold), (repl secs wantAll ms n d hs).1 = true → ∀ m ∈ ms, strangeB m = false
  | [], n, d, hs, _, m, hm => by simp at hm
  | x :: ms, n, d, hs, h, m, hm => by
    obtain ⟨h1, h2, h3⟩ := repl_true h
    rcases List.mem_cons.1 hm with rfl | hm
    · exact (stepB_iff.1 h1).2.2.st
    · exact repl_strange secs ms _ _ _ h2 m hm
theorem RgOk.held {R : Reg} (h : RgOk R) (s x : Int) (h0 : x ≠ 0) : heldH R.hs s x = dOf R.ms s x := by
  have := repl_held R.secs s x h0 R.ms 0 0 [] HsOk.nil h.ok
  rw [h.hs] at this
  simpa [heldH] using this
theorem dOf_set : ∀ {ms : List Mv} {i : Nat} {m : Mv} (m' : Mv) (s h : Int), ms[i]? = some m → dOf (ms.set i m') s h = dOf ms s h + mvD m' s h - mvD m s h
  | [], i, m, m', s, h, hi => by simp at hi
  | x :: ms, 0, m, m', s, h, hi => by
    simp only [List.getElem?_cons_zero, Option.some.injEq] at hi
    subst hi
    simp only [List.set_cons_zero, dOf]; omega
  | x :: ms, i + 1, m, m', s, h, hi => by
    rw [List.getElem?_cons_succ] at hi
    have := dOf_set m' s h hi
    simp only [List.set_cons_succ, dOf]; omega
/-- a move's amount that is changed is found -/
theorem bent_move {R : Reg} (h : RgOk R) {i : Nat} {m : Mv} (hi : R.ms[i]? = some m) (c : Int) (hc : c ≠ 0) : chkE ⟨R.secs, R.hs, R.ms.set i { m with a := m.a + c }⟩ = 78 := by
  unfold chkE
  simp only [List.length_set]
  have h1 := h.ls
  have h2 := h.lm
  rw [if_neg (by omega), if_pos h.secs, if_neg]
  intro hb
  have hok : RgOk ⟨R.secs, R.hs, R.ms.set i { m with a := m.a + c }⟩ := by
    unfold movesB at hb
    rw [Bool.and_eq_true, eqHs_iff] at hb
    exact ⟨h1, by simp only [List.length_set]; exact h2, h.secs, hb.1, hb.2⟩
  obtain ⟨-, hk, -⟩ := h.amt m (List.mem_of_getElem? hi)
  have hst : strangeB m = false := by
    -- every move of a right register is no strange one
    have := repl_strange R.secs R.ms 0 0 [] h.ok m (List.mem_of_getElem? hi)
    exact this
  obtain ⟨x, hx, hd⟩ : ∃ x, x ≠ 0 ∧ mvD { m with a := m.a + c } m.s x ≠ mvD m m.s x := by
    rcases strange_parts hk hst with ⟨-, f1, t1⟩ | ⟨-, f1, t1⟩ | ⟨-, f1, t1⟩
    · exact ⟨m.t, t1, by simp only [mvD]; rw [if_neg (by omega), if_pos (by simp), if_neg (by omega), if_pos (by simp)]; omega⟩
    · have hft := strange_ft hk hst
      exact ⟨m.t, t1, by simp only [mvD]; rw [if_neg (by omega), if_pos (by simp), if_neg (by omega), if_pos (by simp)]; omega⟩
    · exact ⟨m.f, f1, by simp only [mvD]; rw [if_pos (by simp), if_neg (by omega), if_pos (by simp), if_neg (by omega)]; omega⟩
  have e1 := h.held m.s x hx
  have e2 := hok.held m.s x hx
  simp only at e2
  rw [dOf_set _ _ _ hi] at e2
  omega
theorem bent_hold {R : Reg} (h : RgOk R) {L : List Hold} (hL : L ≠ R.hs) : chkE ⟨R.secs, L, R.ms⟩ = 78 := by
  unfold chkE
  have h1 := h.ls
  have h2 := h.lm
  rw [if_neg (by simp only; omega), if_pos h.secs, if_neg]
  intro hb
  unfold movesB at hb
  rw [Bool.and_eq_true, eqHs_iff] at hb
  have := h.hs
  simp only at hb
  rw [this] at hb
  exact hL hb.2.symm
theorem set_ne {α : Type} : ∀ {L : List α} {i : Nat} {a b : α}, L[i]? = some a → b ≠ a → L.set i b ≠ L
  | [], i, a, b, hi, _ => by simp at hi
  | x :: L, 0, a, b, hi, hb => by
    simp only [List.getElem?_cons_zero, Option.some.injEq] at hi
    subst hi
    simp only [List.set_cons_zero, ne_eq, List.cons.injEq, and_true]
    exact hb
  | x :: L, i + 1, a, b, hi, hb => by
    rw [List.getElem?_cons_succ] at hi
    have := set_ne hi hb
    simp only [List.set_cons_succ, ne_eq, List.cons.injEq, true_and]
    exact this
end Go.Proofs.Ytpoidaenkjjdfaa
namespace Go.Proofs.Ytpoidaenkjjdfaa
open Go.RowKit
set_option linter.unusedVariables false
set_option linter.unusedSimpArgs false
theorem lit_ne {g a b : Nat} (h : a ≠ b) : (⟨g, a, none⟩ : Addr) ≠ ⟨g, b, none⟩ := by
  intro e; injection e; omega
theorem off_ne {j q z i d : Nat} (hj : j ≠ q) (hi : i < z) (hd : d < z) : q * z + d ≠ j * z + i := by
  rcases Nat.lt_or_gt_of_ne hj with h | h
  · have := Nat.mul_le_mul_right z (show j + 1 ≤ q by omega)
    rw [Nat.succ_mul] at this
    omega
  · have := Nat.mul_le_mul_right z (show q + 1 ≤ j by omega)
    rw [Nat.succ_mul] at this
    omega
theorem Sl.setElem {α : Type} {z : Nat} {enc : α → List Value} (hz : ∀ a, (enc a).length = z) {P : Nat → Prop} {w : World} {g n c : Nat} {L : List α} (h : Sl z enc P w (.slice (some ⟨g, 0, none⟩) n c) L) {q d : Nat} {a a' : α} {v : Value} (hq : L[q]? = some a) (hd : d < z) (hv : (enc a')[d]? = some v) (hs : ∀ i, i ≠ d → (enc a')[i]? = (enc a)[i]?) :
    Sl z enc P (w.setCell ⟨g, q * z + d, none⟩ v) (.slice (some ⟨g, 0, none⟩) n c) (L.set q a') := by
  obtain ⟨ao', n', c', h1, h2, h3, h4, h5⟩ := h
  cases h1
  have hql := (List.getElem?_eq_some_iff.1 hq).1
  refine ⟨_, n, c, rfl, by rw [List.length_set]; exact h2, h3, h4, ?_⟩
  rcases h5 with h5 | ⟨b, off, k1, k2, k3, k4⟩
  · omega
  · cases k1
    refine .inr ⟨g, 0, rfl, k2, by simpa [World.setCell] using k3, fun j x hj i u hi => ?_⟩
    have hil : i < z := by have := (List.getElem?_eq_some_iff.1 hi).1; rw [hz] at this; exact this
    rw [Nat.zero_add]
    by_cases hjq : j = q
    · subst hjq
      rw [List.getElem?_set_self hql] at hj
      cases hj
      by_cases hid : i = d
      · subst hid
        rw [hv] at hi
        cases hi
        have hdl : i < (enc a).length := by rw [hz]; exact hd
        have := k4 j a hq i _ (List.getElem?_eq_getElem hdl)
        rw [Nat.zero_add] at this
        exact World.cell?_setCell_same _ _ _ this
      · rw [World.cell?_setCell_other _ _ _ _ (lit_ne (by omega))]
        rw [hs i hid] at hi
        have := k4 j a hq i u hi
        rw [Nat.zero_add] at this
        exact this
    · rw [List.getElem?_set_ne (fun e => hjq e.symm)] at hj
      rw [World.cell?_setCell_other _ _ _ _ (lit_ne (off_ne hjq hil hd))]
      have := k4 j x hj i u hi
      rw [Nat.zero_add] at this
      exact this
end Go.Proofs.Ytpoidaenkjjdfaa
