/- Buyback: the laws, plainly. -/
import Derived.Test.YtkdbdncboljfhaaBuyV
namespace Go.Proofs.Ytkdbdncboljfhaa
open Go.RowKit
set_option linter.unusedVariables false
set_option linter.unusedSimpArgs false
/-! the order -/
theorem strict_eq {α : Type} {R : α → α → Prop} (has : ∀ x y, R x y → ¬ R y x) : ∀ {A B : List α}, A.Pairwise R → B.Pairwise R → A.Perm B → A = B
  | [], B, _, _, h => by rw [List.nil_perm] at h; exact h.symm
  | a :: A, [], _, _, h => by have := h.length_eq; simp at this
  | a :: A, b :: B, hA, hB, h => by
    rw [List.pairwise_cons] at hA hB
    have e : a = b := by
      refine Classical.byContradiction fun hne => ?_
      have h1 : a ∈ b :: B := h.mem_iff.1 (by simp)
      have h2 : b ∈ a :: A := h.mem_iff.2 (by simp)
      have h3 : a ∈ B := by rcases List.mem_cons.1 h1 with h | h; (exact absurd h hne); (exact h)
      have h4 : b ∈ A := by rcases List.mem_cons.1 h2 with h | h; (exact absurd h.symm hne); (exact h)
      exact has _ _ (hA.1 b h4) (hB.1 a h3)
    subst e
    rw [strict_eq has hA.2 hB.2 ((List.perm_cons a).1 h)]
theorem srT_strict {L : List Tdr} (h : KeysT L) : (srT L).Pairwise (fun x y => cmpT x y < 0) := by
  have h1 := srt_asc cmpT_wk L
  have h2 := keysT_srT h
  refine (List.Pairwise.and h1 h2).imp fun {x y} hxy => ?_
  obtain ⟨q1, q2⟩ := hxy
  have q3 : ¬ cmpT y x < 0 := by simpa [ltz] using q1
  rw [cmpT_neg] at q3 ⊢
  omega
theorem srT_perm {A B : List Tdr} (hA : KeysT A) (p : A.Perm B) : srT A = srT B := by
  have hB : KeysT B := keysT_perm p.symm hA
  refine strict_eq (R := fun x y => cmpT x y < 0) (fun x y h1 h2 => ?_) (srT_strict hA) (srT_strict hB) (((srt_perm A).trans p).trans (srt_perm B).symm)
  rw [cmpT_neg] at h1 h2
  omega
theorem bk_perm {A B : List Tdr} (hA : KeysT A) (p : A.Perm B) (n most : Int) : bkC A n most = bkC B n most ∧ bkS A n most = bkS B n most ∧ bkA A n most = bkA B n most := by
  unfold bkC bkS bkA bkF bkP
  rw [srT_perm hA p]
  exact ⟨rfl, rfl, rfl⟩
/-- the bids backwards, turned -/
def otL (L : List Tdr) (t : Nat) : List Tdr := L.reverse.drop (t % L.length) ++ L.reverse.take (t % L.length)
theorem otL_perm (L : List Tdr) (t : Nat) : (otL L t).Perm L := by
  unfold otL
  refine List.perm_append_comm.trans ?_
  rw [List.take_append_drop]
  exact List.reverse_perm L
theorem otL_at {L : List Tdr} {t k : Nat} (hk : k < L.length) : (otL L t)[k]? = L[L.length - 1 - (k + t) % L.length]? := by
  have hr : t % L.length < L.length := Nat.mod_lt _ (by omega)
  have e : (k + t) % L.length = (k + t % L.length) % L.length := by rw [Nat.add_mod_mod]
  rw [e]
  obtain ⟨r, hr2⟩ : ∃ r, t % L.length = r := ⟨_, rfl⟩
  unfold otL
  rw [hr2] at hr ⊢
  have hm : (k + r) % L.length = if k + r < L.length then k + r else k + r - L.length := by
    split
    · exact Nat.mod_eq_of_lt ‹_›
    · rw [Nat.mod_eq_sub_mod (by omega), Nat.mod_eq_of_lt (by omega)]
  rw [hm]
  have hlen : (L.reverse.drop r).length = L.length - r := by rw [List.length_drop, List.length_reverse]
  by_cases h : k + r < L.length
  · rw [if_pos h, List.getElem?_append_left (by omega), List.getElem?_drop, List.getElem?_reverse (by omega)]
    congr 1; omega
  · rw [if_neg h, List.getElem?_append_right (by omega), hlen, List.getElem?_take_of_lt (by omega), List.getElem?_reverse (by omega)]
    congr 1; omega
theorem otL_len (L : List Tdr) (t : Nat) : (otL L t).length = L.length := (otL_perm L t).length_eq
/-! what an award says -/
theorem gvA_none : ∀ {A : List Awd} {b n : Int}, (∀ x ∈ A, ¬ (x.bd = b ∧ x.num = n)) → gvA A b n = 0
  | [], _, _, _ => rfl
  | x :: A, b, n, h => by rw [gvA, if_neg (h x (by simp))]; exact gvA_none fun y hy => h y (by simp [hy])
theorem gvA_skip : ∀ {A B : List Awd} {b n : Int}, (∀ x ∈ A, ¬ (x.bd = b ∧ x.num = n)) → gvA (A ++ B) b n = gvA B b n
  | [], _, _, _, _ => rfl
  | x :: A, B, b, n, h => by rw [List.cons_append, gvA, if_neg (h x (by simp))]; exact gvA_skip fun y hy => h y (by simp [hy])
theorem gvA_last : ∀ {A : List Awd} {x : Awd} {b n : Int}, ¬ (x.bd = b ∧ x.num = n) → gvA (A ++ [x]) b n = gvA A b n
  | [], x, b, n, h => by simp only [List.nil_append, gvA]; rw [if_neg h]
  | y :: A, x, b, n, h => by
    rw [List.cons_append, gvA, gvA]
    split
    · rfl
    · exact gvA_last h
theorem gvA_mem : ∀ {A : List Awd} {x : Awd}, A.Pairwise (fun y z => ¬ (y.bd = z.bd ∧ y.num = z.num)) → x ∈ A → gvA A x.bd x.num = x.a
  | [], x, _, h => by simp at h
  | y :: A, x, hp, h => by
    rw [List.pairwise_cons] at hp
    rw [gvA]
    by_cases e : y.bd = x.bd ∧ y.num = x.num
    · rw [if_pos e]
      rcases List.mem_cons.1 h with h | h
      · rw [h]
      · exact absurd e (hp.1 x h)
    · rw [if_neg e]
      rcases List.mem_cons.1 h with h | h
      · exact absurd ⟨by rw [h], by rw [h]⟩ e
      · exact gvA_mem hp.2 h
theorem wdT_mem {P : List Tdr} {F : List Int} : ∀ (k : Nat) (a : Awd), a ∈ wdT P F k → ∃ (i : Nat) (x : Tdr) (g : Int), i < k ∧ P[i]? = some x ∧ F[i]? = some g ∧ g ≠ 0 ∧ a = ⟨x.h, x.n, g * 1000, x.p⟩
  | 0, a, h => by simp [wdT] at h
  | k + 1, a, h => by
    have ih := wdT_mem (P := P) (F := F) k a
    have back : a ∈ wdT P F k → ∃ (i : Nat) (x : Tdr) (g : Int), i < k + 1 ∧ P[i]? = some x ∧ F[i]? = some g ∧ g ≠ 0 ∧ a = ⟨x.h, x.n, g * 1000, x.p⟩ := fun h => by
      obtain ⟨i, x, g, h1, h2⟩ := ih h
      exact ⟨i, x, g, by omega, h2⟩
    cases h1 : P[k]? with
    | none => rw [wdT, h1] at h; exact back h
    | some x =>
      cases h2 : F[k]? with
      | none => rw [wdT, h1, h2] at h; exact back h
      | some g =>
        by_cases h0 : g = 0
        · rw [wdT, h1, h2] at h; simp only at h; rw [if_pos h0] at h; exact back h
        · rw [(wdT_more h1 h2 h0).1, List.mem_append] at h
          rcases h with h | h
          · exact back h
          · simp only [List.mem_singleton] at h
            exact ⟨k, x, g, by omega, h1, h2, h0, h⟩
theorem wdT_has {P : List Tdr} {F : List Int} : ∀ (k i : Nat) (x : Tdr) (g : Int), i < k → P[i]? = some x → F[i]? = some g → g ≠ 0 → (⟨x.h, x.n, g * 1000, x.p⟩ : Awd) ∈ wdT P F k
  | 0, _, _, _, h, _, _, _ => by omega
  | k + 1, i, x, g, hi, hx, hg, h0 => by
    rcases Nat.lt_or_ge i k with hik | hik
    · have ih := wdT_has k i x g hik hx hg h0
      rw [wdT]
      split
      · split
        · exact ih
        · rw [List.mem_append]; exact .inl ih
      · exact ih
    · have e : i = k := by omega
      subst e
      rw [(wdT_more hx hg h0).1]; simp
theorem keysT_idx {S : List Tdr} (h : KeysT S) {i j : Nat} {b c : Tdr} (hi : S[i]? = some b) (hj : S[j]? = some c) (e1 : b.h = c.h) (e2 : b.n = c.n) : i = j := by
  unfold KeysT at h
  rw [List.pairwise_iff_getElem] at h
  obtain ⟨h1, rfl⟩ := List.getElem?_eq_some_iff.1 hi
  obtain ⟨h2, rfl⟩ := List.getElem?_eq_some_iff.1 hj
  rcases Nat.lt_trichotomy i j with g | g | g
  · exact absurd ⟨e1, e2⟩ (h i j h1 h2 g)
  · exact g
  · exact absurd ⟨e1.symm, e2.symm⟩ (h j i h2 h1 g)
theorem wdT_keys {P : List Tdr} {F : List Int} (hK : KeysT P) : ∀ k, (wdT P F k).Pairwise (fun y z => ¬ (y.bd = z.bd ∧ y.num = z.num))
  | 0 => by simp [wdT]
  | k + 1 => by
    have ih := wdT_keys (F := F) hK k
    rw [wdT]
    split
    · rename_i x g hx hg
      split
      · exact ih
      · rw [List.pairwise_append]
        refine ⟨ih, by simp, fun y hy z hz => ?_⟩
        simp only [List.mem_singleton] at hz
        subst hz
        obtain ⟨i, x', g', hi, h1, h2, h3, rfl⟩ := wdT_mem k y hy
        rintro ⟨e1, e2⟩
        have := keysT_idx hK h1 hx e1 e2
        omega
    · exact ih
/-! the input of a buyback -/
structure BkIn (L : List Tdr) (n most : Int) : Prop where
  ok : ∀ x ∈ L, TdrOk x
  k : KeysT L
  l : L.length ≤ 12
  n0 : 1000 ≤ n
  n1 : n ≤ 1000000000
  nm : n % 1000 = 0
  m0 : 1 ≤ most
  m1 : most ≤ 200000
theorem BkIn.mem {L : List Tdr} {n most : Int} (h : BkIn L n most) (x : Tdr) : x ∈ bkP L most ↔ x ∈ L ∧ x.p ≤ most := by
  unfold bkP srT
  rw [srt_mem, List.mem_filter, srt_mem]
  simp
theorem BkIn.kP {L : List Tdr} {n most : Int} (h : BkIn L n most) : KeysT (bkP L most) := by
  unfold bkP
  exact keysT_perm (srt_perm _) (List.Pairwise.sublist List.filter_sublist (keysT_srT h.k))
theorem BkIn.okP {L : List Tdr} {n most : Int} (h : BkIn L n most) : ∀ x ∈ bkP L most, TdrOk x := fun x hx => h.ok x ((h.mem x).1 hx).1
theorem BkIn.lP {L : List Tdr} {n most : Int} (h : BkIn L n most) : (bkP L most).length ≤ 12 := by
  unfold bkP; rw [srt_length]
  refine Nat.le_trans (List.length_filter_le _ _) ?_
  unfold srT; rw [srt_length]; exact h.l
theorem BkIn.rk {L : List Tdr} {n most : Int} (h : BkIn L n most) : RanksOk (rkT (bkP L most) (bkP L most).length) :=
  rkT_ranks (fun x hx => ⟨(h.okP x hx).a0, (h.okP x hx).a1⟩) (by have := h.lP; omega)
theorem BkIn.flat {L : List Tdr} {n most : Int} (h : BkIn L n most) : Under (bkF L n most) ((bkP L most).map fun x => x.a / 1000) ∧ sumI (bkF L n most) = min (n / 1000) (sumI ((bkP L most).map fun x => x.a / 1000)) := by
  have hn0 := h.n0
  have hn1 := h.n1
  have hf := (rkT_ok (P := bkP L most) (bkP L most).length (Nat.le_refl _)).f
  rw [List.take_length] at hf
  have := srv_flat (rkT (bkP L most) (bkP L most).length) (n / 1000) h.rk (by omega) (by omega)
  rw [hf] at this
  exact this
/-- what a tender sold -/
theorem BkIn.got {L : List Tdr} {n most : Int} (h : BkIn L n most) {i : Nat} {x : Tdr} (hx : (bkP L most)[i]? = some x) : ∃ g, (bkF L n most)[i]? = some g ∧ 0 ≤ g ∧ g ≤ x.a / 1000 ∧ gvA (bkA L n most) x.h x.n = g * 1000 := by
  obtain ⟨g, hg, g0, g1⟩ := h.flat.1.get (k := i) (v := x.a / 1000) (by rw [List.getElem?_map, hx]; rfl)
  refine ⟨g, hg, g0, g1, ?_⟩
  have hil := (List.getElem?_eq_some_iff.1 hx).1
  have hK : (bkA L n most).Pairwise (fun y z => ¬ (y.bd = z.bd ∧ y.num = z.num)) := by
    unfold bkA
    exact (List.Perm.pairwise_iff (fun {x y} h e => h ⟨e.1.symm, e.2.symm⟩) (srt_perm _)).2 (wdT_keys h.kP _)
  by_cases h0 : g = 0
  · subst h0
    rw [gvA_none]; rfl
    intro y hy
    unfold bkA at hy
    obtain ⟨j, z, g', hj, h1, h2, h3, rfl⟩ := wdT_mem _ y ((srt_mem _ _).1 hy)
    rintro ⟨e1, e2⟩
    have := keysT_idx h.kP h1 hx e1 e2
    subst this
    rw [hg] at h2; cases h2
    exact h3 rfl
  · have hm : (⟨x.h, x.n, g * 1000, x.p⟩ : Awd) ∈ bkA L n most := by
      unfold bkA
      exact (srt_mem _ _).2 (wdT_has _ i x g hil hx hg h0)
    exact gvA_mem hK hm
theorem BkIn.none {L : List Tdr} {n most : Int} (h : BkIn L n most) {x : Tdr} (hx : x ∈ L) (hp : most < x.p) : gvA (bkA L n most) x.h x.n = 0 := by
  refine gvA_none fun y hy => ?_
  unfold bkA at hy
  obtain ⟨j, z, g', hj, h1, h2, h3, rfl⟩ := wdT_mem _ y ((srt_mem _ _).1 hy)
  rintro ⟨e1, e2⟩
  obtain ⟨hz, hzp⟩ := (h.mem z).1 (List.mem_of_getElem? h1)
  obtain ⟨a, ha⟩ := List.mem_iff_getElem?.1 hz
  obtain ⟨b, hb⟩ := List.mem_iff_getElem?.1 hx
  have := keysT_idx h.k ha hb e1 e2
  subst this
  rw [ha] at hb; cases hb
  omega
/-! groups of one price -/
def addG (R : List (List Tdr)) (x : Tdr) : List (List Tdr) := match R.getLast? with
  | some r => R.dropLast ++ [r ++ [x]]
  | none => R
def gkT (P : List Tdr) : Nat → List (List Tdr)
  | 0 => []
  | k + 1 => match P[k]? with
    | some x => if newB P k then gkT P k ++ [[x]] else addG (gkT P k) x
    | none => gkT P k
structure GkS (P : List Tdr) (k : Nat) (G : List (List Tdr)) : Prop where
  f : G.flatten = P.take k
  r : rkT P k = G.map fun g => g.map fun x => x.a / 1000
  c : ∀ g ∈ G, ∀ x ∈ g, ∀ y ∈ g, x.p = y.p
  ne : ∀ g ∈ G, g ≠ []
theorem gkT_ok {P : List Tdr} : ∀ k, k ≤ P.length → GkS P k (gkT P k)
  | 0, _ => ⟨by simp [gkT], by simp [gkT, rkT], fun g h => by simp [gkT] at h, fun g h => by simp [gkT] at h⟩
  | k + 1, hk => by
    obtain ⟨i1, i2, i3, i4⟩ := gkT_ok (P := P) k (by omega)
    obtain ⟨x, hx⟩ : ∃ x, P[k]? = some x := ⟨_, List.getElem?_eq_getElem (by omega)⟩
    cases hn : newB P k with
    | true =>
      have e : gkT P (k + 1) = gkT P k ++ [[x]] := by rw [gkT, hx]; simp only; rw [if_pos hn]
      rw [e]
      refine ⟨by rw [List.flatten_append, i1, take_snocZ hx]; simp, by rw [rkT_new hx hn, i2]; simp, fun g h => ?_, fun g h => ?_⟩
      · rw [List.mem_append] at h
        rcases h with h | h
        · exact i3 g h
        · simp only [List.mem_singleton] at h; subst h; simp
      · rw [List.mem_append] at h
        rcases h with h | h
        · exact i4 g h
        · simp only [List.mem_singleton] at h; subst h; simp
    | false =>
      have h0 : 0 < k := by
        rcases Nat.eq_zero_or_pos k with h | h
        · subst h; rw [newB_zero] at hn; cases hn
        · exact h
      obtain ⟨j, rfl⟩ : ∃ j, k = j + 1 := ⟨k - 1, by omega⟩
      obtain ⟨y, hy⟩ : ∃ y, P[j]? = some y := ⟨_, List.getElem?_eq_getElem (by omega)⟩
      have hyx : y.p = x.p := by
        unfold newB at hn
        rw [hx, Nat.add_sub_cancel, hy] at hn
        simp only at hn
        simpa using hn
      have hne : gkT P (j + 1) ≠ [] := by
        intro e
        rw [e] at i1
        have := congrArg List.length i1
        rw [List.length_take] at this
        simp at this; omega
      obtain ⟨R, r, e⟩ : ∃ R r, gkT P (j + 1) = R ++ [r] := ⟨_, _, (List.dropLast_concat_getLast hne).symm⟩
      have e2 : gkT P (j + 1 + 1) = R ++ [r ++ [x]] := by
        rw [gkT, hx]; simp only; rw [if_neg (by rw [hn]; decide), e]; simp [addG]
      rw [e] at i1 i2 i3 i4
      have hr : r ≠ [] := i4 r (by simp)
      -- the last one of r is y
      have hlast : y ∈ r := by
        have h1 : (R ++ [r]).flatten.getLast? = some y := by
          rw [i1, take_snocZ hy]; simp
        rw [List.flatten_append] at h1
        simp only [List.flatten_cons, List.flatten_nil, List.append_nil] at h1
        rw [List.getLast?_append] at h1
        cases hl : r.getLast? with
        | none => exact absurd (List.getLast?_eq_none_iff.1 hl) hr
        | some z =>
          rw [hl] at h1
          simp at h1
          subst h1
          exact List.mem_of_getLast? hl
      rw [e2]
      refine ⟨by rw [take_snocZ hx, ← i1]; simp, by rw [rkT_old hx hn, i2]; simp [addLast], fun g h => ?_, fun g h => ?_⟩
      · rw [List.mem_append] at h
        rcases h with h | h
        · exact i3 g (by simp [h])
        · simp only [List.mem_singleton] at h
          subst h
          have hc := i3 r (by simp)
          intro a ha b hb
          rw [List.mem_append, List.mem_singleton] at ha hb
          rcases ha with ha | rfl <;> rcases hb with hb | rfl
          · exact hc a ha b hb
          · rw [← hyx]; exact hc a ha y hlast
          · rw [← hyx]; exact hc y hlast b hb
          · rfl
      · rw [List.mem_append] at h
        rcases h with h | h
        · exact i4 g (by simp [h])
        · simp only [List.mem_singleton] at h; subst h; simp
theorem sum_zeroU {p r : List Int} (h : Under p r) (hs : sumI p ≤ 0) : ∀ x ∈ p, x = 0 := by
  induction h with
  | nil => intro x hx; simp at hx
  | @cons x v p r h0 h1 hu ih =>
    have hn : 0 ≤ sumI p := sumI_nonneg fun y hy => by
      obtain ⟨i, hi⟩ := List.mem_iff_getElem?.1 hy
      have hil : i < r.length := by rw [← hu.len]; exact (List.getElem?_eq_some_iff.1 hi).1
      obtain ⟨z, hz, z0, -⟩ := hu.get (List.getElem?_eq_getElem hil)
      rw [hi] at hz; cases hz; exact z0
    simp only [sumI] at hs
    intro y hy
    rcases List.mem_cons.1 hy with rfl | hy
    · omega
    · exact ih (by omega) y hy
/-- an earlier one of another price is served in full if a later one gets something -/
theorem srv_first : ∀ (G : List (List Tdr)) (left : Int), RanksOk (G.map fun g => g.map fun x => x.a / 1000) → 0 ≤ left → left ≤ 1000000 → (∀ g ∈ G, ∀ x ∈ g, ∀ y ∈ g, x.p = y.p) →
    ∀ (i j : Nat) (x y : Tdr) (a b : Int), i < j → G.flatten[i]? = some x → G.flatten[j]? = some y → (srvL left (G.map fun g => g.map fun x => x.a / 1000)).flatten[i]? = some a → (srvL left (G.map fun g => g.map fun x => x.a / 1000)).flatten[j]? = some b → x.p ≠ y.p → b ≠ 0 → a = x.a / 1000
  | [], _, _, _, _, _, i, j, x, y, a, b, _, hx, _, _, _, _, _ => by simp at hx
  | g :: G, left, hR, h0, h1, hc, i, j, x, y, a, b, hij, hx, hy, ha, hb, hp, hb0 => by
    simp only [List.map_cons] at hR ha hb
    have hb' := hR.b _ (List.mem_cons_self ..)
    have hk' := hR.k _ (List.mem_cons_self ..)
    have o := svd_okB h0 h1 hk' hb'
    have s0 : 0 ≤ sumI (g.map fun x => x.a / 1000) := sumI_nonneg fun x hx => (hb' x hx).1
    have hR2 : RanksOk (G.map fun g => g.map fun x => x.a / 1000) := ⟨by have := hR.n; simp at this ⊢; omega, fun q hq => hR.k q (List.mem_cons_of_mem _ hq), fun q hq => hR.b q (List.mem_cons_of_mem _ hq)⟩
    obtain ⟨S, hS⟩ : ∃ S, svd left (g.map fun x => x.a / 1000) = S := ⟨_, rfl⟩
    have hSl : S.length = g.length := by rw [← hS, o.len, List.length_map]
    have e : (srvL left ((g.map fun x => x.a / 1000) :: G.map fun g => g.map fun x => x.a / 1000)).flatten = S ++ (srvL (left - min left (sumI (g.map fun x => x.a / 1000))) (G.map fun g => g.map fun x => x.a / 1000)).flatten := by
      rw [srvL, List.flatten_cons, ← hS]; rfl
    rw [e] at ha hb
    rw [List.flatten_cons] at hx hy
    rcases Nat.lt_or_ge j g.length with hj | hj
    · rw [List.getElem?_append_left (by omega)] at hx hy
      exact absurd (hc g (List.mem_cons_self ..) x (List.mem_of_getElem? hx) y (List.mem_of_getElem? hy)) hp
    · rw [List.getElem?_append_right hj] at hy
      rw [List.getElem?_append_right (by omega), hSl] at hb
      rcases Nat.lt_or_ge i g.length with hi | hi
      · rw [List.getElem?_append_left hi] at hx
        rw [List.getElem?_append_left (by omega)] at ha
        have hfull : sumI (g.map fun x => x.a / 1000) ≤ left := by
          rcases Int.lt_or_le left (sumI (g.map fun x => x.a / 1000)) with h | h
          · exfalso
            obtain ⟨u, s⟩ := srv_flat (G.map fun g => g.map fun x => x.a / 1000) (left - min left (sumI (g.map fun x => x.a / 1000))) hR2 (by omega) (by omega)
            have := sum_zeroU u (by rw [s]; omega) b (List.mem_of_getElem? hb)
            exact hb0 this
          · exact h
        rw [← hS] at ha
        unfold svd at ha
        rw [if_neg (by omega), List.getElem?_map, hx] at ha
        simpa using ha.symm
      · rw [List.getElem?_append_right hi] at hx
        rw [List.getElem?_append_right (by omega), hSl] at ha
        exact srv_first G _ hR2 (by omega) (by omega) (fun q hq => hc q (List.mem_cons_of_mem _ hq)) (i - g.length) (j - g.length) x y a b (by omega) hx hy ha hb hp hb0
theorem BkIn.first {L : List Tdr} {n most : Int} (h : BkIn L n most) {i j : Nat} {x y : Tdr} {a b : Int} (hij : i < j) (hx : (bkP L most)[i]? = some x) (hy : (bkP L most)[j]? = some y) (ha : (bkF L n most)[i]? = some a) (hb : (bkF L n most)[j]? = some b) (hp : x.p ≠ y.p) (hb0 : b ≠ 0) : a = x.a / 1000 := by
  obtain ⟨g1, g2, g3, g4⟩ := gkT_ok (P := bkP L most) (bkP L most).length (Nat.le_refl _)
  rw [List.take_length] at g1
  have hr := h.rk
  have hn0 := h.n0
  have hn1 := h.n1
  unfold bkF at ha hb
  rw [g2] at hr ha hb
  rw [← g1] at hx hy
  exact srv_first _ (n / 1000) hr (by omega) (by omega) g3 i j x y a b hij hx hy ha hb hp hb0
/-- the tenders lie by their prices -/
theorem BkIn.asc {L : List Tdr} {n most : Int} (h : BkIn L n most) {i j : Nat} {x y : Tdr} (hij : i < j) (hx : (bkP L most)[i]? = some x) (hy : (bkP L most)[j]? = some y) : x.p ≤ y.p := by
  have ha := srt_asc cmpQ_wk ((srT L).filter fun x => !decide (most < x.p))
  have : (bkP L most).Pairwise fun x y => ltz cmpQ y x = false := ha
  rw [List.pairwise_iff_getElem] at this
  obtain ⟨h1, rfl⟩ := List.getElem?_eq_some_iff.1 hx
  obtain ⟨h2, rfl⟩ := List.getElem?_eq_some_iff.1 hy
  have q := this i j h1 h2 hij
  unfold ltz cmpQ at q
  rw [decide_eq_false_iff_not, cmpI_neg] at q
  omega
theorem ctT_last {P : List Tdr} {F : List Int} : ∀ (k : Nat), ctT P F k = 0 ∨ ∃ (m : Nat) (x : Tdr) (g : Int), m < k ∧ P[m]? = some x ∧ F[m]? = some g ∧ g ≠ 0 ∧ ctT P F k = x.p ∧ ∀ (j : Nat) (b : Int), m < j → j < k → F[j]? = some b → (P[j]?).isSome → b = 0
  | 0 => .inl rfl
  | k + 1 => by
    have ih := ctT_last (P := P) (F := F) k
    have keep : ctT P F (k + 1) = ctT P F k → (∀ b, F[k]? = some b → (P[k]?).isSome → b = 0) → ctT P F (k + 1) = 0 ∨ ∃ (m : Nat) (x : Tdr) (g : Int), m < k + 1 ∧ P[m]? = some x ∧ F[m]? = some g ∧ g ≠ 0 ∧ ctT P F (k + 1) = x.p ∧ ∀ (j : Nat) (b : Int), m < j → j < k + 1 → F[j]? = some b → (P[j]?).isSome → b = 0 := fun e hz => by
      rw [e]
      rcases ih with ih | ⟨m, x, g, h1, h2, h3, h4, h5, h6⟩
      · exact .inl ih
      · refine .inr ⟨m, x, g, by omega, h2, h3, h4, h5, fun j b hmj hj hb hs => ?_⟩
        rcases Nat.lt_or_ge j k with hjk | hjk
        · exact h6 j b hmj hjk hb hs
        · obtain rfl : j = k := by omega
          exact hz b hb hs
    cases hx : P[k]? with
    | none => exact keep (by rw [ctT, hx]) fun b _ hs => by simp [hx] at hs
    | some x =>
      cases hg : F[k]? with
      | none => exact keep (by rw [ctT, hx, hg]) fun b hb _ => by rw [hg] at hb; cases hb
      | some g =>
        by_cases h0 : g = 0
        · exact keep (by rw [ctT, hx, hg]; simp [h0]) fun b hb _ => by rw [hg] at hb; cases hb; exact h0
        · exact .inr ⟨k, x, g, by omega, hx, hg, h0, (wdT_more hx hg h0).2.1, fun j b hmj hj hb => by omega⟩
/-- what the law BuybackFair says of a tender -/
structure BfOk (C most k : Int) (x : Tdr) : Prop where
  asks : k ≤ x.a
  n0 : 0 ≤ k
  high : most < x.p → k = 0
  dn : x.p ≤ most → 0 < C → x.p < C → k = x.a
  up : x.p ≤ most → 0 < C → C < x.p → k = 0
theorem bfair_ok {L : List Tdr} {n most : Int} (h : BkIn L n most) {x : Tdr} (hx : x ∈ L) : BfOk (bkC L n most) most (gvA (bkA L n most) x.h x.n) x := by
  have hxo := h.ok x hx
  have ham := hxo.am
  have ha0 := hxo.a0
  by_cases hp : x.p ≤ most
  · obtain ⟨i, hi⟩ := List.mem_iff_getElem?.1 ((h.mem x).2 ⟨hx, hp⟩)
    obtain ⟨g, hg, g0, g1, e⟩ := h.got hi
    have hil := (List.getElem?_eq_some_iff.1 hi).1
    rw [e]
    refine ⟨by omega, by omega, fun q => by omega, fun _ hC hlt => ?_, fun _ hC hlt => ?_⟩
    · rcases ctT_last (P := bkP L most) (F := bkF L n most) (bkP L most).length with hz | ⟨m, y, b, h1, h2, h3, h4, h5, h6⟩
      · exact absurd hC (by unfold bkC; omega)
      · have eC : bkC L n most = y.p := h5
        rw [eC] at hlt
        have him : i < m := by
          rcases Nat.lt_trichotomy i m with q | q | q
          · exact q
          · subst q; rw [hi] at h2; cases h2; omega
          · have := h.asc q h2 hi; omega
        have := h.first him hi h2 hg h3 (by omega) h4
        omega
    · rcases ctT_last (P := bkP L most) (F := bkF L n most) (bkP L most).length with hz | ⟨m, y, b, h1, h2, h3, h4, h5, h6⟩
      · exact absurd hC (by unfold bkC; omega)
      · have eC : bkC L n most = y.p := h5
        rw [eC] at hlt
        have him : m < i := by
          rcases Nat.lt_trichotomy i m with q | q | q
          · have := h.asc q hi h2; omega
          · subst q; rw [hi] at h2; cases h2; omega
          · exact q
        have := h6 i g him hil hg (by rw [hi]; rfl)
        omega
  · rw [h.none hx (by omega)]
    exact ⟨by omega, by omega, fun _ => rfl, fun q => absurd q hp, fun _ _ _ => rfl⟩
/-! sums over tenders -/
def acT (f : Tdr → Int) (L : List Tdr) : Nat → Int
  | 0 => 0
  | k + 1 => match L[k]? with
    | some b => acT f L k + f b
    | none => acT f L k
theorem acT_succ {f : Tdr → Int} {L : List Tdr} {k : Nat} {b : Tdr} (h : L[k]? = some b) : acT f L (k + 1) = acT f L k + f b := by rw [acT, h]
theorem acT_take (f : Tdr → Int) (L : List Tdr) : ∀ k, acT f L k = sumI ((L.take k).map f)
  | 0 => by simp [acT, sumI]
  | k + 1 => by
    have ih := acT_take f L k
    cases h : L[k]? with
    | none =>
      have hl : L.length ≤ k := by simpa using h
      rw [acT, h]; simp only
      rw [ih, List.take_of_length_le hl, List.take_of_length_le (show L.length ≤ k + 1 by omega)]
    | some b => rw [acT_succ h, ih, take_snocZ h, List.map_append, sumI_append]; simp [sumI]
theorem acT_bd {f : Tdr → Int} {L : List Tdr} {M : Int} (hM : 0 ≤ M) (h : ∀ x ∈ L, 0 ≤ f x ∧ f x ≤ M) : ∀ k : Nat, 0 ≤ acT f L k ∧ acT f L k ≤ k * M
  | 0 => by simp [acT]
  | k + 1 => by
    have ih := acT_bd hM h k
    have e : ((k + 1 : Nat) : Int) * M = k * M + M := by rw [show ((k + 1 : Nat) : Int) = (k : Int) + 1 by omega, Int.add_mul, Int.one_mul]
    cases hb : L[k]? with
    | none => rw [acT, hb]; simp only; omega
    | some b => rw [acT_succ hb]; have := h b (List.mem_of_getElem? hb); omega
theorem acT_all (f : Tdr → Int) (L : List Tdr) : acT f L L.length = sumI (L.map f) := by rw [acT_take, List.take_length]
theorem sumI_mulc (c : Int) : ∀ L : List Int, sumI (L.map fun x => x * c) = sumI L * c
  | [] => by simp [sumI]
  | x :: L => by simp only [List.map_cons, sumI, sumI_mulc c L, Int.add_mul]
theorem acT_perm (f : Tdr → Int) {A B : List Tdr} (p : A.Perm B) : sumI (A.map f) = sumI (B.map f) := sumI_perm (p.map f)
theorem sum_filter (f : Tdr → Int) (q : Tdr → Bool) : ∀ {L : List Tdr}, (∀ x ∈ L, q x = false → f x = 0) → sumI (L.map f) = sumI ((L.filter q).map f)
  | [], _ => rfl
  | x :: L, h => by
    have ih := sum_filter f q (L := L) fun y hy => h y (by simp [hy])
    simp only [List.map_cons, sumI]
    cases hq : q x with
    | true => rw [List.filter_cons_of_pos hq]; simp only [List.map_cons, sumI]; rw [ih]
    | false => rw [List.filter_cons_of_neg (by rw [hq]; decide), h x (by simp) hq, ih]; omega
theorem BkIn.sumP {L : List Tdr} {n most : Int} (h : BkIn L n most) (f : Tdr → Int) (hz : ∀ x ∈ L, most < x.p → f x = 0) : sumI (L.map f) = sumI ((bkP L most).map f) := by
  have e1 : sumI (L.map f) = sumI ((srT L).map f) := acT_perm f (srt_perm L).symm
  have e2 := sum_filter f (fun x => !decide (most < x.p)) (L := srT L) fun x hx hq => hz x ((srt_mem _ _).1 hx) (by simpa using hq)
  have e3 : sumI ((bkP L most).map f) = sumI (((srT L).filter fun x => !decide (most < x.p)).map f) := acT_perm f (srt_perm _)
  rw [e1, e2, e3]
theorem slT_sum (F : List Int) : ∀ k, slT F k = sumI (F.take k) * 1000
  | 0 => by simp [slT, sumI]
  | k + 1 => by
    have ih := slT_sum F k
    cases h : F[k]? with
    | none =>
      have hl : F.length ≤ k := by simpa using h
      rw [slT, h]; simp only
      rw [ih, List.take_of_length_le hl, List.take_of_length_le (show F.length ≤ k + 1 by omega)]
    | some g =>
      rw [slT, h, sumI_snoc h, Int.add_mul]; simp only
      split
      · rename_i h0; rw [h0, ih]; omega
      · rw [ih]
theorem BkIn.sold {L : List Tdr} {n most : Int} (h : BkIn L n most) : bkS L n most = sumI (bkF L n most) * 1000 := by
  unfold bkS
  have hl : (bkF L n most).length = (bkP L most).length := by rw [h.flat.1.len, List.length_map]
  rw [slT_sum, ← hl, List.take_length]
theorem BkIn.given {L : List Tdr} {n most : Int} (h : BkIn L n most) : acT (fun x => gvA (bkA L n most) x.h x.n) L L.length = bkS L n most := by
  rw [acT_all, h.sumP _ fun x hx hp => h.none hx hp, h.sold, ← sumI_mulc]
  congr 1
  refine List.ext_getElem? fun i => ?_
  rw [List.getElem?_map, List.getElem?_map]
  cases hx : (bkP L most)[i]? with
  | none =>
    have hl : (bkF L n most).length = (bkP L most).length := by rw [h.flat.1.len, List.length_map]
    have : (bkP L most).length ≤ i := by simpa using hx
    rw [List.getElem?_eq_none (by omega)]; rfl
  | some x =>
    obtain ⟨g, hg, -, -, e⟩ := h.got hx
    rw [hg]
    simp only [Option.map_some, e]
def gdT (most : Int) (x : Tdr) : Int := if x.p ≤ most then x.a else 0
theorem BkIn.min {L : List Tdr} {n most : Int} (h : BkIn L n most) : bkS L n most = min n (acT (gdT most) L L.length) := by
  have e : acT (gdT most) L L.length = sumI ((bkP L most).map fun x => x.a / 1000) * 1000 := by
    rw [acT_all, h.sumP _ fun x hx hp => by unfold gdT; rw [if_neg (by omega)], ← sumI_mulc, List.map_map]
    congr 1
    refine List.map_congr_left fun x hx => ?_
    have h1 := (h.mem x).1 hx
    have h2 := (h.ok x h1.1).am
    simp only [Function.comp, gdT]
    rw [if_pos h1.2]; omega
  rw [h.sold, h.flat.2, e]
  have := h.nm
  have := h.n0
  have hs : 0 ≤ sumI ((bkP L most).map fun x => x.a / 1000) := sumI_nonneg fun y hy => by
    obtain ⟨x, hx, rfl⟩ := List.mem_map.1 hy
    have := (h.okP x hx).a0
    omega
  omega
theorem gdT_bd {most : Int} {x : Tdr} (h : TdrOk x) : 0 ≤ gdT most x ∧ gdT most x ≤ 1000000000 := by
  have := h.a0; have := h.a1
  unfold gdT; split <;> omega
theorem TdrsOk.into {q : Int} {L : List Tdr} (h : TdrsOk q L) (hq : q ≤ 12) {n most : Int} (n0 : 1000 ≤ n) (n1 : n ≤ 1000000000) (nm : n % 1000 = 0) (m0 : 1 ≤ most) (m1 : most ≤ 200000) : BkIn L n most :=
  ⟨h.ok, h.keys, by have := h.n; omega, n0, n1, nm, m0, m1⟩
theorem BkIn.hold {L : List Tdr} {n most : Int} (h : BkIn L n most) (P : Nat → Prop) (v : Value) (w : World) (hS : Sl 4 encTdr P w v L) :
    Calls Try.prog 9 #[v, .int .i64 n, .int .i64 most] w fun e w' => ∃ av, e = .returned (.tuple #[.agg #[.int .i64 (bkC L n most), .int .i64 (bkS L n most), av], .int .i64 0]) ∧ w'.ownsRow w.heap.size 61 4 av (bkA L n most).length (flatE encAwd (bkA L n most)) ∧ Below w.heap.size w w' :=
  bhold_any P v L n most w hS h.ok h.k h.l h.n0 h.n1 h.nm h.m0 h.m1
theorem bkA_len (L : List Tdr) (n most : Int) : (bkA L n most).length ≤ L.length := by
  unfold bkA
  rw [srt_length]
  refine Nat.le_trans (wdT_len _ _ _) ?_
  unfold bkP srT; rw [srt_length]
  exact Nat.le_trans (List.length_filter_le _ _) (by rw [srt_length]; exact Nat.le_refl _)
theorem BkIn.perm {A B : List Tdr} {n most : Int} (h : BkIn A n most) (p : B.Perm A) : BkIn B n most :=
  ⟨fun x hx => h.ok x (p.mem_iff.1 hx), keysT_perm p h.k, by rw [p.length_eq]; exact h.l, h.n0, h.n1, h.nm, h.m0, h.m1⟩
end Go.Proofs.Ytkdbdncboljfhaa
