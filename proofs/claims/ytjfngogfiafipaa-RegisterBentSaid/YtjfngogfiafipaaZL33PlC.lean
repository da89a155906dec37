/- What is outstanding is what was issued less what was redeemed, in plain lists. -/
import Derived.Test.YtjfngogfiafipaaZL33PlB
namespace Go.Proofs.Ytjfngogfiafipaa
open Go.RowKit
set_option linter.unusedVariables false
set_option linter.unusedSimpArgs false
/-- what a move adds to what is outstanding -/
def mvN (m : Mv) (id : Int) : Int := if m.s = id then (if m.kind = 1 then m.a else if m.kind = 3 then -m.a else 0) else 0
/-- issued less redeemed -/
def nOf : List Mv → Int → Int
  | [], _ => 0
  | m :: ms, id => mvN m id + nOf ms id
theorem nOf_append (L M : List Mv) (id : Int) : nOf (L ++ M) id = nOf L id + nOf M id := by
  induction L with
  | nil => simp [nOf]
  | cons m L ih => simp only [List.cons_append, nOf, ih]; omega
theorem mvN_le {m : Mv} (h : 0 < m.a ∧ m.a ≤ 1000000000000) (id : Int) : -1000000000000 ≤ mvN m id ∧ mvN m id ≤ 1000000000000 := by
  unfold mvN
  split
  · split
    · omega
    · split <;> omega
  · omega
theorem nOf_bd {L : List Mv} (h : ∀ m ∈ L, 0 < m.a ∧ m.a ≤ 1000000000000) (id : Int) : ∀ k : Nat, -(1000000000000 * (k : Int)) ≤ nOf (L.take k) id ∧ nOf (L.take k) id ≤ 1000000000000 * k := by
  induction L with
  | nil => intro k; simp [nOf]; omega
  | cons m L ih =>
    intro k
    cases k with
    | zero => simp [nOf]
    | succ k =>
      have h1 := mvN_le (h m (List.mem_cons_self ..)) id
      have h2 := ih (fun x hx => h x (List.mem_cons_of_mem _ hx)) k
      simp only [List.take_succ_cons, nOf]
      omega
theorem strange_parts {m : Mv} (hk : 1 ≤ m.kind ∧ m.kind ≤ 3) (h : strangeB m = false) : (m.kind = 1 ∧ m.f = 0 ∧ m.t ≠ 0) ∨ (m.kind = 2 ∧ m.f ≠ 0 ∧ m.t ≠ 0) ∨ (m.kind = 3 ∧ m.f ≠ 0 ∧ m.t = 0) := by
  unfold strangeB at h
  by_cases h1 : m.kind = 1
  · rw [if_pos h1, Bool.or_eq_false_iff] at h
    have a1 : m.f = 0 := by simpa using h.1
    have a2 := inB_iff.1 (by simpa using h.2 : inB m.t 1 1000 = true)
    omega
  · rw [if_neg h1] at h
    by_cases h2 : m.kind = 2
    · rw [if_pos h2, Bool.or_eq_false_iff, Bool.or_eq_false_iff] at h
      have a1 := inB_iff.1 (by simpa using h.1.1 : inB m.f 1 1000 = true)
      have a2 := inB_iff.1 (by simpa using h.1.2 : inB m.t 1 1000 = true)
      omega
    · rw [if_neg h2, Bool.or_eq_false_iff] at h
      have a1 : m.t = 0 := by simpa using h.2
      have a2 := inB_iff.1 (by simpa using h.1 : inB m.f 1 1000 = true)
      omega
theorem mvH_out {hs : List Hold} {m : Mv} (hk : 1 ≤ m.kind ∧ m.kind ≤ 3) (h : strangeB m = false) (id : Int) : outH (mvH hs m) id = outH hs id + mvN m id := by
  unfold mvH mvN
  rw [addZ_out, addZ_out]
  rcases strange_parts hk h with ⟨k1, f1, t1⟩ | ⟨k1, f1, t1⟩ | ⟨k1, f1, t1⟩ <;> by_cases hs : m.s = id <;> simp [k1, f1, t1, hs] <;> omega
theorem repl_true {secs : List Sec} {m : Mv} {ms : List Mv} {n d : Int} {hs : List Hold} (h : (repl secs wantAll (m :: ms) n d hs).1 = true) : stepB secs n d hs m = true ∧ (repl secs wantAll ms (n + 1) m.day (mvH hs m)).1 = true ∧ repl secs wantAll (m :: ms) n d hs = repl secs wantAll ms (n + 1) m.day (mvH hs m) := by
  have e : repl secs wantAll (m :: ms) n d hs = if stepB secs n d hs m then repl secs wantAll ms (n + 1) m.day (mvH hs m) else (false, n, d, hs) := by simp only [repl, wantAll, if_true]
  rw [e] at h ⊢
  by_cases hq : stepB secs n d hs m = true
  · rw [if_pos hq] at h ⊢; exact ⟨hq, h, rfl⟩
  · rw [if_neg hq] at h; cases h
theorem repl_out (secs : List Sec) (id : Int) : ∀ (ms : List Mv) (n d : Int) (hs : List Hold), (repl secs wantAll ms n d hs).1 = true → outH (repl secs wantAll ms n d hs).2.2.2 id = outH hs id + nOf ms id
  | [], n, d, hs, _ => by simp [repl, nOf]
  | m :: ms, n, d, hs, h => by
    obtain ⟨h1, h2, h3⟩ := repl_true h
    rw [h3, repl_out secs id ms _ _ _ h2, mvH_out (stepB_iff.1 h1).2.1 (stepB_iff.1 h1).2.2.st]
    simp only [nOf]; omega
theorem repl_amt (secs : List Sec) : ∀ (ms : List Mv) (n d : Int) (hs : List Hold), (repl secs wantAll ms n d hs).1 = true → ∀ m ∈ ms, (0 < m.a ∧ m.a ≤ 1000000000000) ∧ (1 ≤ m.kind ∧ m.kind ≤ 3) ∧ ∃ s, findS secs m.s = some s ∧ m.a % s.un = 0
  | [], n, d, hs, _, m, hm => by simp at hm
  | x :: ms, n, d, hs, h, m, hm => by
    obtain ⟨h1, h2, h3⟩ := repl_true h
    rcases List.mem_cons.1 hm with rfl | hm
    · obtain ⟨s, f1, f2, -, -⟩ := (stepB_iff.1 h1).2.2.fi
      exact ⟨⟨(stepB_iff.1 h1).2.2.a0, (stepB_iff.1 h1).2.2.a1⟩, (stepB_iff.1 h1).2.1, s, f1, f2⟩
    · exact repl_amt secs ms _ _ _ h2 m hm
theorem addZ_mem {L : List Hold} {s h n : Int} {x : Hold} (hx : x ∈ addZ L s h n) : x.s = s ∨ x ∈ L := by
  unfold addZ at hx
  split at hx
  · exact .inr hx
  · rcases addH_mem hx with h | h
    · exact .inl h.1
    · exact .inr h
theorem repl_secs (secs : List Sec) : ∀ (ms : List Mv) (n d : Int) (hs : List Hold), (repl secs wantAll ms n d hs).1 = true → (∀ x ∈ hs, (findS secs x.s).isSome = true) → ∀ x ∈ (repl secs wantAll ms n d hs).2.2.2, (findS secs x.s).isSome = true
  | [], n, d, hs, _, hh => by simpa [repl] using hh
  | m :: ms, n, d, hs, h, hh => by
    obtain ⟨h1, h2, h3⟩ := repl_true h
    rw [h3]
    refine repl_secs secs ms _ _ _ h2 fun x hx => ?_
    obtain ⟨s, f1, -⟩ := (stepB_iff.1 h1).2.2.fi
    rcases addZ_mem hx with e | hx
    · rw [e, f1]; rfl
    · rcases addZ_mem hx with e | hx
      · rw [e, f1]; rfl
      · exact hh x hx
theorem RgOk.out {R : Reg} (h : RgOk R) (id : Int) : outH R.hs id = nOf R.ms id := by
  have := repl_out R.secs id R.ms 0 0 [] h.ok
  rw [h.hs] at this
  simpa [outH] using this
theorem RgOk.amt {R : Reg} (h : RgOk R) : ∀ m ∈ R.ms, (0 < m.a ∧ m.a ≤ 1000000000000) ∧ (1 ≤ m.kind ∧ m.kind ≤ 3) ∧ ∃ s, findS R.secs m.s = some s ∧ m.a % s.un = 0 := repl_amt R.secs R.ms 0 0 [] h.ok
theorem findS_self : ∀ {p : Int} {L : List Sec} {k : Nat} {x : Sec}, secsB p L = true → L[k]? = some x → findS L x.id = some x
  | _, [], k, x, _, hx => by simp at hx
  | p, y :: L, k, x, h, hx => by
    simp only [secsB, Bool.and_eq_true, decide_eq_true_eq] at h
    cases k with
    | zero =>
      simp only [List.getElem?_cons_zero, Option.some.injEq] at hx
      subst hx
      simp [findS]
    | succ k =>
      simp only [List.getElem?_cons_succ] at hx
      have h1 := secsB_gt h.2.2 x (List.mem_of_getElem? hx)
      simp only [findS]
      rw [if_neg (by omega)]
      exact findS_self h.2.2 hx
theorem nOf_unit {L : List Mv} {id un : Int} (h : ∀ m ∈ L, m.s = id → m.a % un = 0) : nOf L id % un = 0 := by
  apply Int.emod_eq_zero_of_dvd
  induction L with
  | nil => exact ⟨0, by simp [nOf]⟩
  | cons m L ih =>
    have h1 := ih (fun x hx => h x (List.mem_cons_of_mem _ hx))
    simp only [nOf]
    refine Int.dvd_add ?_ h1
    unfold mvN
    split
    · rename_i e
      have h2 : un ∣ m.a := Int.dvd_of_emod_eq_zero (h m (List.mem_cons_self ..) e)
      split
      · exact h2
      · split
        · exact Int.dvd_neg.2 h2
        · exact ⟨0, by simp⟩
    · exact ⟨0, by simp⟩
theorem RgOk.unit {R : Reg} (h : RgOk R) {k : Nat} {x : Sec} (hx : R.secs[k]? = some x) : nOf R.ms x.id % x.un = 0 := by
  have hf := findS_self h.secs hx
  refine nOf_unit fun m hm e => ?_
  obtain ⟨-, -, s, f1, f2⟩ := h.amt m hm
  rw [e, hf] at f1
  cases f1
  exact f2
/-- the sum over the securities -/
def debtS : List Sec → List Hold → Int
  | [], _ => 0
  | x :: L, hs => outH hs x.id + debtS L hs
theorem debtS_append (L M : List Sec) (hs : List Hold) : debtS (L ++ M) hs = debtS L hs + debtS M hs := by
  induction L with
  | nil => simp [debtS]
  | cons x L ih => simp only [List.cons_append, debtS, ih]; omega
theorem debtS_nil : ∀ L : List Sec, debtS L [] = 0
  | [] => rfl
  | x :: L => by simp [debtS, outH, debtS_nil L]
theorem debtS_one : ∀ {p : Int} {L : List Sec} (h : Hold) (hs : List Hold), secsB p L = true → debtS L (h :: hs) = (if (findS L h.s).isSome then h.a else 0) + debtS L hs
  | _, [], h, hs, _ => by simp [debtS, findS]
  | p, x :: L, h, hs, hb => by
    simp only [secsB, Bool.and_eq_true, decide_eq_true_eq] at hb
    have ih := debtS_one h hs hb.2.2
    by_cases e : x.id = h.s
    · have hn : findS L h.s = none := findS_none hb.2.2 (by omega)
      have e1 : findS (x :: L) h.s = some x := by simp [findS, e]
      simp only [hn, Option.isSome_none, Bool.false_eq_true, if_false] at ih
      simp only [debtS, outH, e1, Option.isSome_some, if_true]
      rw [if_pos e.symm]
      omega
    · have e1 : findS (x :: L) h.s = findS L h.s := by simp [findS, e]
      simp only [debtS, outH, e1]
      rw [if_neg (fun q => e q.symm)]
      omega
theorem debtS_sum {p : Int} {L : List Sec} (hb : secsB p L = true) : ∀ {hs : List Hold}, (∀ x ∈ hs, (findS L x.s).isSome = true) → debtS L hs = sumH hs
  | [], _ => by rw [debtS_nil]; rfl
  | h :: hs, hh => by
    rw [debtS_one h hs hb, hh h (List.mem_cons_self ..), if_pos rfl, debtS_sum hb (fun x hx => hh x (List.mem_cons_of_mem _ hx))]
    rfl
theorem RgOk.debt {R : Reg} (h : RgOk R) : rgDebt R = debtS R.secs R.hs := by
  unfold rgDebt
  rw [if_pos (chkE_iff.2 h)]
  refine (debtS_sum h.secs ?_).symm
  have := repl_secs R.secs R.ms 0 0 [] h.ok (by simp)
  rw [h.hs] at this
  exact this
theorem debtS_bd {L : List Sec} {hs : List Hold} (h : HsOk hs) : ∀ k : Nat, 0 ≤ debtS (L.take k) hs ∧ debtS (L.take k) hs ≤ 1000000000000 * (k : Int) := by
  induction L with
  | nil => intro k; simp [debtS]; omega
  | cons x L ih =>
    intro k
    cases k with
    | zero => simp [debtS]
    | succ k =>
      have h1 := h.out x.id
      have h2 := outH_nonneg h.pos x.id
      have h3 := ih k
      simp only [List.take_succ_cons, debtS]
      omega
end Go.Proofs.Ytjfngogfiafipaa
