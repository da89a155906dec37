/- slices.IndexFunc, ContainsFunc at []int, for any closure that tells a plain test. -/
import Derived.Test.YtkdbdncboljfhaaRow
import Derived.Shelf.Abstract
namespace Go.Proofs.Ytkdbdncboljfhaa
open Go.RowKit
set_option linter.unusedVariables false
set_option linter.unusedSimpArgs false
/-- the place of the first element with p, or -1 -/
def idxI {α : Type} (p : α → Bool) : List α → Int
  | [] => -1
  | x :: L => if p x then 0 else if idxI p L < 0 then -1 else idxI p L + 1
theorem idxI_none {α : Type} {p : α → Bool} : ∀ {L : List α}, (∀ y ∈ L, p y = false) → idxI p L = -1
  | [], _ => rfl
  | x :: L, h => by
    rw [idxI, h x (List.mem_cons_self ..), if_neg (by simp), idxI_none (fun y hy => h y (List.mem_cons_of_mem _ hy))]; rfl
theorem idxI_some {α : Type} {p : α → Bool} : ∀ {L : List α} {k : Nat} {x : α}, L[k]? = some x → p x = true → (∀ y ∈ L.take k, p y = false) → idxI p L = k
  | [], k, x, h, _, _ => by simp at h
  | z :: L, 0, x, h, hp, _ => by
    simp only [List.getElem?_cons_zero, Option.some.injEq] at h
    subst h
    rw [idxI, hp]; rfl
  | z :: L, k + 1, x, h, hp, hk => by
    simp only [List.getElem?_cons_succ] at h
    have ih := idxI_some h hp (fun y hy => hk y (by simp [hy]))
    rw [idxI, hk z (by simp), if_neg (by simp), ih, if_neg (by omega)]; rfl
theorem idxI_any {α : Type} (p : α → Bool) (L : List α) : decide (0 ≤ idxI p L) = L.any p := by
  induction L with
  | nil => rfl
  | cons x L ih =>
    rw [idxI, List.any_cons]
    cases hp : p x
    · rw [if_neg (by simp), Bool.false_or, ← ih]
      by_cases h : idxI p L < 0
      · rw [if_pos h]; simp; omega
      · rw [if_neg h]; simp; omega
    · rw [if_pos rfl]; simp
theorem take_false {α : Type} {p : α → Bool} {L : List α} {k : Nat} {x : α} (h : L[k]? = some x) (hp : p x = false) (hk : ∀ y ∈ L.take k, p y = false) : ∀ y ∈ L.take (k + 1), p y = false := by
  rw [take_snocZ h]
  intro y hy
  rcases List.mem_append.1 hy with hy | hy
  · exact hk y hy
  · rw [List.mem_singleton.1 hy]; exact hp
/-- the closure F, bound to cb, tells p of the elements of L -/
def Tells {α : Type} (F : Nat) (cb : Array Value) (val : α → Value) (p : α → Bool) (L : List α) (w : World) : Prop :=
  ∀ W, Below w.heap.size w W → ∀ x ∈ L, Calls Try.prog F (#[val x] ++ cb) W fun e w' => e = .returned (.bool (p x)) ∧ Below W.heap.size W w'
set_option maxHeartbeats 1000000 in
theorem indexI_any (F : Nat) (cb : Array Value) (p : Int → Bool) (P : Nat → Prop) (v : Value) (L : List Int) (w : World) (eg : ∀ args w, (callFunc F args).run Try.prog w = .ok (.enter F args) w)
    (hF : Tells F cb (Value.int .i64) p L w) (hS : Sl 1 encI P w v L) (hl : L.length ≤ 1000000) :
    Calls Try.prog 61 #[v, .func (.func F) #[] cb] w fun e w' => e = .returned (.int .i64 (idxI p L)) ∧ Below w.heap.size w w' := by
  obtain ⟨ao, n, c, rfl, hn, hnc, hcm⟩ := hS.shape
  have HS := Lib.hid hS
  have HN := Lib.hid hn
  have HF := Lib.hid hF
  have hn1 : n ≤ 1000000 := by omega
  clear hS hF hn
  go_enter Try.func61, Try.ntmps61
  go_wp2
  go_loopw [8] (fun iv wr => ∃ k : Nat, k ≤ n ∧ iv = .int .i64 k ∧ (∀ y ∈ L.take k, p y = false) ∧ Below w.heap.size w wr) (fun iv _ => n - (intOf iv).toNat)
  case atStart => exact ⟨0, by omega, rfl, by simp, brefl⟩
  case round =>
    obtain ⟨k, hk, rfl, hall, hbr⟩ := hrel
    have HA := Lib.hid hall
    have HBR := Lib.hid hbr
    by_cases hlt : k < n
    · obtain ⟨b, off, x, rfl, -, -, hx, hc⟩ := (HS.out.below hbr).int hlt
      have hcl := fun W (hW : Below wr.heap.size wr W) => HF.out W (bup hbr hW) x (List.mem_of_getElem? hx)
      have HX := Lib.hid hx
      obtain ⟨b0, hb0⟩ : ∃ b0, p x = b0 := ⟨_, rfl⟩
      rw [hb0] at hcl
      have HB0 := Lib.hid hb0
      clear hall hbr hx hb0
      cases b0
      · have hstep := Lib.hid (take_false HX.out HB0.out HA.out)
        go_wp2_with ((go_at_fn F; refine (hcl _ brefl).mono ?_; rintro e w1 ⟨rfl, hb1⟩))
        go_roundw
        case rel => exact ⟨k + 1, by omega, by go_num, hstep.out, bup HBR.out hb1⟩
        case measure => simp [intOf]; omega
      · have hfin := Lib.hid (idxI_some HX.out HB0.out HA.out)
        go_wp2_with ((go_at_fn F; refine (hcl _ brefl).mono ?_; rintro e w1 ⟨rfl, hb1⟩))
        go_ret
        exact ⟨ret_int hfin.out.symm, bup HBR.out hb1⟩
    · have hfin := Lib.hid (idxI_none (p := p) (L := L) (fun y hy => HA.out y (by rw [take_all (by have := HN.out; omega)]; exact hy)))
      clear hall hbr
      go_wp2
      go_ret
      exact ⟨ret_int hfin.out.symm, HBR.out⟩
theorem containsI_any (F : Nat) (cb : Array Value) (p : Int → Bool) (P : Nat → Prop) (v : Value) (L : List Int) (w : World) (eg : ∀ args w, (callFunc F args).run Try.prog w = .ok (.enter F args) w)
    (hF : Tells F cb (Value.int .i64) p L w) (hS : Sl 1 encI P w v L) (hl : L.length ≤ 1000000) :
    Calls Try.prog 45 #[v, .func (.func F) #[] cb] w fun e w' => e = .returned (.bool (L.any p)) ∧ Below w.heap.size w w' := by
  have HC := Lib.hid (indexI_any F cb p P v L w eg hF hS hl)
  have hf := idxI_any p L
  obtain ⟨i, hi⟩ : ∃ i, idxI p L = i := ⟨_, rfl⟩
  rw [hi] at HC hf
  rw [← hf]
  clear hf hi hF hS
  go_enter Try.func45, Try.ntmps45
  go_wp2_with (go_at_call 61; refine HC.out.mono ?_; rintro e w1 ⟨rfl, hb1⟩)
  go_ret
  exact ⟨rfl, hb1⟩
end Go.Proofs.Ytkdbdncboljfhaa
