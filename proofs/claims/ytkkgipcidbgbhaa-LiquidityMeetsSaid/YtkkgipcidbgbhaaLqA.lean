/- Rows of positions and of plans; slices.IndexFunc, ContainsFunc at them (printed by gen/lqa.py). -/
import Derived.Test.YtkkgipcidbgbhaaMake
import Derived.Test.YtkkgipcidbgbhaaSrcPos
import Derived.Test.YtkkgipcidbgbhaaIxI
namespace Go.Proofs.Ytkkgipcidbgbhaa
open Go.RowKit
set_option linter.unusedVariables false
set_option linter.unusedSimpArgs false
def encP (x : Int × Int) : List Value := [.int .i64 x.1, .int .i64 x.2]
def encQ (x : Int × Int × Int) : List Value := [.int .i64 x.1, .int .i64 x.2.1, .int .i64 x.2.2]
theorem encP_len (x : Int × Int) : (encP x).length = 2 := rfl
theorem encQ_len (x : Int × Int × Int) : (encQ x).length = 3 := rfl
def valP (x : Int × Int) : Value := .agg #[.int .i64 x.1, .int .i64 x.2]
def valQ (x : Int × Int × Int) : Value := .agg #[.int .i64 x.1, .int .i64 x.2.1, .int .i64 x.2.2]
theorem Sl.pos {P : Nat → Prop} {w : World} {ao : Option Addr} {n c k : Nat} {L : List (Int × Int)} (h : Sl 2 encP P w (.slice ao n c) L) (hk : k < n) :
    ∃ b off d a, ao = some ⟨b, off, none⟩ ∧ P b ∧ b < w.heap.size ∧ L[k]? = some (d, a) ∧ w.cell? ⟨b, off + k * 2, none⟩ = some (.int .i64 d) ∧ w.cell? ⟨b, off + k * 2 + 1, none⟩ = some (.int .i64 a) := by
  obtain ⟨b, off, ⟨d, a⟩, h1, h2, h3, h4, h5⟩ := h.at_ hk
  exact ⟨b, off, d, a, h1, h2, h3, h4, h5 0 _ rfl, h5 1 _ rfl⟩
theorem Sl.pln {P : Nat → Prop} {w : World} {ao : Option Addr} {n c k : Nat} {L : List (Int × Int × Int)} (h : Sl 3 encQ P w (.slice ao n c) L) (hk : k < n) :
    ∃ b off d r p, ao = some ⟨b, off, none⟩ ∧ P b ∧ b < w.heap.size ∧ L[k]? = some (d, r, p) ∧ w.cell? ⟨b, off + k * 3, none⟩ = some (.int .i64 d) ∧ w.cell? ⟨b, off + k * 3 + 1, none⟩ = some (.int .i64 r) ∧ w.cell? ⟨b, off + k * 3 + 2, none⟩ = some (.int .i64 p) := by
  obtain ⟨b, off, ⟨d, r, p⟩, h1, h2, h3, h4, h5⟩ := h.at_ hk
  exact ⟨b, off, d, r, p, h1, h2, h3, h4, h5 0 _ rfl, h5 1 _ rfl, h5 2 _ rfl⟩
theorem pd2_get {L : List (Int × Int)} {k : Nat} {x : Int × Int} (h : L[k]? = some x) : pd2 L k = x.1 ∧ pa2 L k = x.2 := by
  unfold pd2 pa2; simp [List.getD_eq_getElem?_getD, h]
theorem pd3_get {L : List (Int × Int × Int)} {k : Nat} {x : Int × Int × Int} (h : L[k]? = some x) : pd3 L k = x.1 ∧ pr3 L k = x.2.1 ∧ pp3 L k = x.2.2 := by
  unfold pd3 pr3 pp3; simp [List.getD_eq_getElem?_getD, h]
theorem Sl.posAt {P : Nat → Prop} {w : World} {ao : Option Addr} {n c : Nat} {L : List (Int × Int)} (h : Sl 2 encP P w (.slice ao n c) L) : PosAt w ao n c (pd2 L) (pa2 L) := by
  obtain ⟨ao', n', c', he, hl, h1, h2, h3⟩ := id h
  cases he
  refine ⟨h1, h2, ?_⟩
  by_cases h0 : n = 0
  · exact .inl h0
  · obtain ⟨b, off, d, a, e1, -, -, -, -, -⟩ := h.pos (k := 0) (by omega)
    refine .inr ⟨b, off, e1, fun j hj => ?_⟩
    obtain ⟨b', off', d, a, e2, -, -, e3, e4, e5⟩ := h.pos hj
    cases e1.symm.trans e2
    obtain ⟨g1, g2⟩ := pd2_get e3
    rw [g1, g2]
    exact ⟨e4, e5⟩
theorem Sl.plnAt {P : Nat → Prop} {w : World} {ao : Option Addr} {n c : Nat} {L : List (Int × Int × Int)} (h : Sl 3 encQ P w (.slice ao n c) L) : PlanAt w ao n c (pd3 L) (pr3 L) (pp3 L) := by
  obtain ⟨ao', n', c', he, hl, h1, h2, h3⟩ := id h
  cases he
  refine ⟨h1, h2, ?_⟩
  by_cases h0 : n = 0
  · exact .inl h0
  · obtain ⟨b, off, d, r, p, e1, -⟩ := h.pln (k := 0) (by omega)
    refine .inr ⟨b, off, e1, fun j hj => ?_⟩
    obtain ⟨b', off', d, r, p, e2, -, -, e3, e4, e5, e6⟩ := h.pln hj
    cases e1.symm.trans e2
    obtain ⟨g1, g2, g3⟩ := pd3_get e3
    rw [g1, g2, g3]
    exact ⟨e4, e5, e6⟩
theorem flatP (L : List (Int × Int)) : flatE encP L = flat2 L := by
  induction L with
  | nil => rfl
  | cons x L ih => obtain ⟨a, b⟩ := x; simp only [flatE, List.flatMap_cons] at ih ⊢; rw [ih]; rfl
theorem flatQ (L : List (Int × Int × Int)) : flatE encQ L = flat3 L := by
  induction L with
  | nil => rfl
  | cons x L ih => obtain ⟨a, b, c⟩ := x; simp only [flatE, List.flatMap_cons] at ih ⊢; rw [ih]; rfl
theorem PosAt.sl {P : Nat → Prop} {w : World} {ao : Option Addr} {c : Nat} {L : List (Int × Int)} (h : PosAt w ao L.length c (pd2 L) (pa2 L)) (hp : ∀ b off, ao = some ⟨b, off, none⟩ → P b) : Sl 2 encP P w (.slice ao L.length c) L := by
  obtain ⟨h1, h2, h3⟩ := id h
  by_cases h0 : L.length = 0
  · exact ⟨_, _, _, rfl, rfl, h1, h2, .inl h0⟩
  · obtain ⟨b, off, e, hc⟩ := h.at_ h0
    refine ⟨_, _, _, rfl, rfl, h1, h2, .inr ⟨b, off, e, hp b off e, World.block_lt_of_cell? w _ (hc 0 (by omega)).1, fun j a hj i u hi => ?_⟩⟩
    have hjl : j < L.length := (List.getElem?_eq_some_iff.1 hj).1
    obtain ⟨c0, c1⟩ := hc j hjl
    obtain ⟨g1, g2⟩ := pd2_get hj
    rw [g1] at c0
    rw [g2] at c1
    match i, hi with
    | 0, hi => simp only [encP, List.getElem?_cons_zero, Option.some.injEq] at hi; subst hi; exact c0
    | 1, hi => simp only [encP, List.getElem?_cons_succ, List.getElem?_cons_zero, Option.some.injEq] at hi; subst hi; exact c1
set_option maxHeartbeats 1000000 in
theorem indexP_any (F : Nat) (cb : Array Value) (p : Int × Int → Bool) (P : Nat → Prop) (v : Value) (L : List (Int × Int)) (w : World) (eg : ∀ args w, (callFunc F args).run Try.prog w = .ok (.enter F args) w)
    (hF : Tells F cb valP p L w) (hS : Sl 2 encP P w v L) (hl : L.length ≤ 1000000) :
    Calls Try.prog 82 #[v, .func (.func F) #[] cb] w fun e w' => e = .returned (.int .i64 (idxI p L)) ∧ Below w.heap.size w w' := by
  obtain ⟨ao, n, c, rfl, hn, hnc, hcm⟩ := hS.shape
  have HS := Lib.hid hS
  have HN := Lib.hid hn
  have HF := Lib.hid hF
  have hn1 : n ≤ 1000000 := by omega
  clear hS hF hn
  go_enter Try.func82, Try.ntmps82
  go_wp2
  go_loopw [8] (fun iv wr => ∃ k : Nat, k ≤ n ∧ iv = .int .i64 k ∧ (∀ y ∈ L.take k, p y = false) ∧ Below w.heap.size w wr) (fun iv _ => n - (intOf iv).toNat)
  case atStart => exact ⟨0, by omega, rfl, by simp, brefl⟩
  case round =>
    obtain ⟨k, hk, rfl, hall, hbr⟩ := hrel
    have HA := Lib.hid hall
    have HBR := Lib.hid hbr
    by_cases hlt : k < n
    · obtain ⟨b, off, d, a, rfl, -, -, hx, k0, k1⟩ := (HS.out.below hbr).pos hlt
      have hcl := fun W (hW : Below wr.heap.size wr W) => HF.out W (bup hbr hW) (d, a) (List.mem_of_getElem? hx)
      have HX := Lib.hid hx
      obtain ⟨b0, hb0⟩ : ∃ b0, p (d, a) = b0 := ⟨_, rfl⟩
      rw [hb0] at hcl
      have HB0 := Lib.hid hb0
      clear hall hbr hx hb0
      cases b0
      · have hstep := Lib.hid (take_false HX.out HB0.out HA.out)
        go_wp2_with ((go_at_fn F; refine (hcl _ brefl).mono ?_; rintro e w1 ⟨rfl, hb1⟩))
        go_roundw
        case rel => exact ⟨k + 1, by omega, by go_num, hstep.out, bup HBR.out hb1⟩
        case measure => simp [intOf]; omega
      · have hfin := Lib.hid (idxI_some HX.out HB0.out HA.out)
        go_wp2_with ((go_at_fn F; refine (hcl _ brefl).mono ?_; rintro e w1 ⟨rfl, hb1⟩))
        go_ret
        exact ⟨ret_int hfin.out.symm, bup HBR.out hb1⟩
    · have hfin := Lib.hid (idxI_none (p := p) (L := L) (fun y hy => HA.out y (by rw [take_all (by have := HN.out; omega)]; exact hy)))
      clear hall hbr
      go_wp2
      go_ret
      exact ⟨ret_int hfin.out.symm, HBR.out⟩
theorem containsP_any (F : Nat) (cb : Array Value) (p : Int × Int → Bool) (P : Nat → Prop) (v : Value) (L : List (Int × Int)) (w : World) (eg : ∀ args w, (callFunc F args).run Try.prog w = .ok (.enter F args) w)
    (hF : Tells F cb valP p L w) (hS : Sl 2 encP P w v L) (hl : L.length ≤ 1000000) :
    Calls Try.prog 53 #[v, .func (.func F) #[] cb] w fun e w' => e = .returned (.bool (L.any p)) ∧ Below w.heap.size w w' := by
  have HC := Lib.hid (indexP_any F cb p P v L w eg hF hS hl)
  have hf := idxI_any p L
  obtain ⟨i, hi⟩ : ∃ i, idxI p L = i := ⟨_, rfl⟩
  rw [hi] at HC hf
  rw [← hf]
  clear hf hi hF hS
  go_enter Try.func53, Try.ntmps53
  go_wp2_with (go_at_call 82; refine HC.out.mono ?_; rintro e w1 ⟨rfl, hb1⟩)
  go_ret
  exact ⟨rfl, hb1⟩
set_option maxHeartbeats 1000000 in
theorem indexQ_any (F : Nat) (cb : Array Value) (p : Int × Int × Int → Bool) (P : Nat → Prop) (v : Value) (L : List (Int × Int × Int)) (w : World) (eg : ∀ args w, (callFunc F args).run Try.prog w = .ok (.enter F args) w)
    (hF : Tells F cb valQ p L w) (hS : Sl 3 encQ P w v L) (hl : L.length ≤ 1000000) :
    Calls Try.prog 65 #[v, .func (.func F) #[] cb] w fun e w' => e = .returned (.int .i64 (idxI p L)) ∧ Below w.heap.size w w' := by
  obtain ⟨ao, n, c, rfl, hn, hnc, hcm⟩ := hS.shape
  have HS := Lib.hid hS
  have HN := Lib.hid hn
  have HF := Lib.hid hF
  have hn1 : n ≤ 1000000 := by omega
  clear hS hF hn
  go_enter Try.func65, Try.ntmps65
  go_wp2
  go_loopw [8] (fun iv wr => ∃ k : Nat, k ≤ n ∧ iv = .int .i64 k ∧ (∀ y ∈ L.take k, p y = false) ∧ Below w.heap.size w wr) (fun iv _ => n - (intOf iv).toNat)
  case atStart => exact ⟨0, by omega, rfl, by simp, brefl⟩
  case round =>
    obtain ⟨k, hk, rfl, hall, hbr⟩ := hrel
    have HA := Lib.hid hall
    have HBR := Lib.hid hbr
    by_cases hlt : k < n
    · obtain ⟨b, off, d, r, pl, rfl, -, -, hx, k0, k1, k2⟩ := (HS.out.below hbr).pln hlt
      have hcl := fun W (hW : Below wr.heap.size wr W) => HF.out W (bup hbr hW) (d, r, pl) (List.mem_of_getElem? hx)
      have HX := Lib.hid hx
      obtain ⟨b0, hb0⟩ : ∃ b0, p (d, r, pl) = b0 := ⟨_, rfl⟩
      rw [hb0] at hcl
      have HB0 := Lib.hid hb0
      clear hall hbr hx hb0
      cases b0
      · have hstep := Lib.hid (take_false HX.out HB0.out HA.out)
        go_wp2_with ((go_at_fn F; refine (hcl _ brefl).mono ?_; rintro e w1 ⟨rfl, hb1⟩))
        go_roundw
        case rel => exact ⟨k + 1, by omega, by go_num, hstep.out, bup HBR.out hb1⟩
        case measure => simp [intOf]; omega
      · have hfin := Lib.hid (idxI_some HX.out HB0.out HA.out)
        go_wp2_with ((go_at_fn F; refine (hcl _ brefl).mono ?_; rintro e w1 ⟨rfl, hb1⟩))
        go_ret
        exact ⟨ret_int hfin.out.symm, bup HBR.out hb1⟩
    · have hfin := Lib.hid (idxI_none (p := p) (L := L) (fun y hy => HA.out y (by rw [take_all (by have := HN.out; omega)]; exact hy)))
      clear hall hbr
      go_wp2
      go_ret
      exact ⟨ret_int hfin.out.symm, HBR.out⟩
theorem containsQ_any (F : Nat) (cb : Array Value) (p : Int × Int × Int → Bool) (P : Nat → Prop) (v : Value) (L : List (Int × Int × Int)) (w : World) (eg : ∀ args w, (callFunc F args).run Try.prog w = .ok (.enter F args) w)
    (hF : Tells F cb valQ p L w) (hS : Sl 3 encQ P w v L) (hl : L.length ≤ 1000000) :
    Calls Try.prog 56 #[v, .func (.func F) #[] cb] w fun e w' => e = .returned (.bool (L.any p)) ∧ Below w.heap.size w w' := by
  have HC := Lib.hid (indexQ_any F cb p P v L w eg hF hS hl)
  have hf := idxI_any p L
  obtain ⟨i, hi⟩ : ∃ i, idxI p L = i := ⟨_, rfl⟩
  rw [hi] at HC hf
  rw [← hf]
  clear hf hi hF hS
  go_enter Try.func56, Try.ntmps56
  go_wp2_with (go_at_call 65; refine HC.out.mono ?_; rintro e w1 ⟨rfl, hb1⟩)
  go_ret
  exact ⟨rfl, hb1⟩
end Go.Proofs.Ytkkgipcidbgbhaa
