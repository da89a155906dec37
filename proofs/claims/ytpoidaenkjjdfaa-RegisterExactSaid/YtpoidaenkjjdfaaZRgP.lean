/- `range f` where f is a method value with a bound receiver: no round leaves the loop. treasury/risk's debt.each: the contract of the iterator. calendar.Year; plain sums over holdings. treasury/risk's among, rate, Path. -/
import Derived.RangeFuncNested
import Derived.RangeFuncBound
import Derived.RangeFuncCalls
import Derived.RangeFuncLeaves
import Derived.Shelf.Abstract
import Derived.Shelf.RegionOpen
import Derived.Test.YtpoidaenkjjdfaaZRegP
import Derived.Test.YtpoidaenkjjdfaaZRefN
import Derived.WalkKit
import Derived.OwnWalkIn
import Derived.TacticsInMore
import Derived.LoopNIn
import Derived.LoopIn
namespace Go.Proofs.Ytpoidaenkjjdfaa
open Go.RowKit
set_option linter.unusedVariables false

/-- what a round keeps: all below N, and all at or above M -/
structure Stay (N M : Nat) (W W' : World) : Prop where
  low : Below N W W'
  high : ∀ k, M ≤ k → k < W.heap.size → W'.heap[k]? = W.heap[k]?
theorem Stay.refl {N M : Nat} {W : World} : Stay N M W W := ⟨Below.refl _ _, fun _ _ _ => rfl⟩
theorem Stay.trans {N M : Nat} {A B C : World} (h : Stay N M A B) (k : Stay N M B C) : Stay N M A C :=
  ⟨h.low.trans k.low, fun j hj hl => (k.high j hj (Nat.lt_of_lt_of_le hl h.low.size)).trans (h.high j hj hl)⟩
theorem Stay.mono {N M M' : Nat} {A B : World} (h : Stay N M A B) (hm : M ≤ M') : Stay N M' A B := ⟨h.low, fun k hk hl => h.high k (Nat.le_trans hm hk) hl⟩
theorem below_put {N l : Nat} {W : World} {o : Obj} (h : N ≤ l) : Below N W (W.putObj l o) := ⟨rfl, rfl, rfl, by simp, fun k hk => World.putObj_heap_other (by omega)⟩
theorem stay_put {N M l : Nat} {W : World} {o : Obj} (h : N ≤ l) (h' : l < M) : Stay N M W (W.putObj l o) := ⟨below_put h, fun k hk _ => World.putObj_heap_other (by omega)⟩

theorem stay_drew {N M : Nat} {W : World} : Stay N M W W.drew := ⟨bdr (Below.refl _ _), fun _ _ _ => rfl⟩
theorem stay_set {N M b : Nat} {W : World} (h : N ≤ b) (h' : b < M) (v : Value) : Stay N M W (W.setCell ⟨b, 0, none⟩ v) :=
  ⟨(Below.refl _ _).setCell (p := ⟨b, 0, none⟩) h v, fun k hk _ => Below.heap_setCell _ _ _ _ (by simp; omega)⟩
theorem boxed_drew {W : World} {B : Nat} {t : TypeId} {v : Value} (h : Boxed W B t v) : Boxed W.drew B t v := h

/-- the contract of an iterator with bound arguments bd: all of xs come, if each round lets it go on -/
def EachC {α : Type} (F : Fence) (n : Nat) (P : Program) (g : Nat) (bd : Array Value) (encs : α → Array Value) (xs : List α) (N : Nat) (w : World) : Prop :=
  ∀ (l : Nat) (J : Nat → World → Prop) (W : World), Below w.heap.size w W → (∀ k A B, J k A → Below A.heap.size A B → J k B) →
    (∀ k x W1, xs[k]? = some x → J k W1 → YieldAt F (n - 1) P l (encs x) W1 fun e W' => e = .returned (.bool true) ∧ J (k + 1) W' ∧ Stay N W.heap.size W1 W') →
    J 0 W →
    CallsIn F n P g (bd ++ #[.func (.yield l) #[] #[]]) W fun e W' => (∃ v, e = .returned v) ∧ J xs.length W'

/-- how a round is left -/
def endPost (N M : Nat) (I : Nat → World → Prop) (k : Nat) (W : World) : Exit → Act → World → Prop
  | .normal, _, W' => Stay N M W W' ∧ I k W'
  | _, _, _ => False

variable {F : Fence} {n : Nat} {P : Program} {w : World}
theorem wpIn_rangeB {α : Type} {g : Operand} {ps : Array Tmp} {assign body : Code} {Q : Exit → Act → World → Prop} {a : Act}
    (hro : F.round = none) (h1 : 1 ≤ n) {gf : Nat} {bd : Array Value} (hg : a.eval g = .func (.func gf) bd #[]) (hFg : F.fn gf) (eg : ∀ args w, (callFunc gf args).run P w = .ok (.enter gf args) w)
    {encs : α → Array Value} {xs : List α} {N : Nat} (hN : N ≤ w.heap.size) (hseq : EachC F (n - 1) P gf bd encs xs N w) (hps : ∀ x, (encs x).size = ps.size)
    (I : Nat → World → Prop) (hI : ∀ k A B, I k A → Below w.heap.size A B → I k B) (h0 : I 0 w)
    (Ax : α → Act → World → Prop) (hAx : ∀ x a' A B, Ax x a' A → (∀ j, w.heap.size + 2 ≤ j → j < A.heap.size → B.heap[j]? = A.heap[j]?) → A.heap.size ≤ B.heap.size → Ax x a' B)
    (hassign : ∀ (l k : Nat) (x : α) (W : World) (K : Act → World → Prop), w.heap.size + 2 ≤ W.heap.size → (∀ a' W', Below W.heap.size W W' → Ax x a' W' → K a' W') →
      assign.wpIn (F.inRound l) (n - 1 - 1) P (Exit.then K (fun _ _ _ => False)) { tmps := (ps.zip (encs x)).foldl (fun t (p, v) => t.setIfInBounds p v) a.tmps, defers := [] } W)
    (hbody : ∀ (l k : Nat) (x : α) (a' : Act) (W : World), w.heap.size + 2 ≤ W.heap.size → xs[k]? = some x → I k W → Ax x a' W → body.wpIn (F.inRound l) (n - 1 - 1) P (endPost N w.heap.size I (k + 1) W) a' W)
    (hdone : ∀ (D : Nat) (W : World), w.heap.size ≤ D → I xs.length W → W.heap[D]? = some (.deferred (some [])) → Q .normal { a with defers := { target := .collected D, args := #[] } :: a.defers } W) :
    (Code.rangeFunc g ps assign body).wpIn F n P Q a w := by
  refine wpIn_rangeFunc ?_
  intro fn hfn
  rw [hro]
  obtain ⟨rec, hrec⟩ : ∃ rec : LoopState → Option Code → Loop, rec = fun st pe => { state := st, pending := pe, fn, tmps := a.tmps, params := ps, assign, body, defers := w.heap.size } := ⟨_, rfl⟩
  obtain ⟨W1, hW1⟩ : ∃ W1, (w.alloc (.deferred (some []))).alloc (.loop (rec .ready none)) = W1 := ⟨_, rfl⟩
  have hs1 : W1.heap.size = w.heap.size + 2 := by rw [← hW1]; simp
  have hL1 : W1.heap[w.heap.size + 1]? = some (.loop (rec .ready none)) := by
    rw [← hW1]; have := World.alloc_heap_new (w.alloc (.deferred (some []))) (.loop (rec .ready none)); rwa [World.size_alloc] at this
  have hK1 : W1.heap[w.heap.size]? = some (.deferred (some [])) := by
    rw [← hW1]; exact (Below.heap_alloc _ _ _ (by simp)).trans (World.alloc_heap_new w _)
  have hB1 : Below w.heap.size w W1 := by rw [← hW1]; exact bal (bal brefl _) _
  have hI1 : I 0 W1 := hI _ _ _ h0 hB1
  refine ⟨w.heap.size + 1, [{ target := .collected w.heap.size, args := #[] }], W1, { target := .fn (.func gf) #[], args := bd ++ #[.func (.yield (w.heap.size + 1)) #[] #[]] }, W1, gf,
    bd ++ #[.func (.yield (w.heap.size + 1)) #[] #[]], W1, ?_, ?_, ?_, ?_, fun _ => h1, ?_⟩
  · rw [← hW1, hrec]; exact run_enterLoop_outer _ _ _ _ _
  · simp only [resolve, hg]
    simp [go_sem]
  · intro f' hf'; simp [Target.leads] at hf'; subst hf'; exact hFg
  · simp [invoke, go_sem, eg]
  · refine (hseq (w.heap.size + 1)
      (fun k W => I k W ∧ W.heap[w.heap.size + 1]? = some (.loop (rec .ready none)) ∧ W.heap[w.heap.size]? = some (.deferred (some [])))
      W1 hB1
      (fun k A B hs hb => by
        have hlt := (Array.getElem?_eq_some_iff.1 hs.2.1).1
        exact ⟨hI _ _ _ hs.1 (hb.mono (by omega)), (hb.block _ hlt).trans hs.2.1, (hb.block _ (by omega)).trans hs.2.2⟩)
      ?_ ⟨hI1, hL1, hK1⟩).mono ?_
    · rintro k x W hx ⟨hi, hl, hk⟩
      have hlt : w.heap.size + 1 < W.heap.size := (Array.getElem?_eq_some_iff.1 hl).1
      have hy := run_yield (P := P) (args := encs x) hl (by rw [hrec]; exact hps x)
      rw [hrec] at hy
      refine ⟨fn, _, assign, body, hy, roundIn_of_wpIn hfn (hassign _ k x W _ (by omega) ?_)⟩
      clear hy
      intro a' Wa hba hax
      have hla := (hba.block _ hlt).trans hl
      have hka := (hba.block _ (by omega)).trans hk
      have hlta : w.heap.size + 1 < Wa.heap.size := (Array.getElem?_eq_some_iff.1 hla).1
      have hia : I k Wa := hI _ _ _ hi (hba.mono (by omega))
      have hsta : Stay N W1.heap.size W Wa := ⟨hba.mono (by omega), fun j _ hj => hba.block j hj⟩
      refine ⟨_, run_beginRound hla (by rw [hrec]), ?_⟩
      obtain ⟨W2, hW2⟩ : ∃ W2, Wa.putObj (w.heap.size + 1) (.loop { rec .ready none with state := .busy }) = W2 := ⟨_, rfl⟩
      have hl2 : W2.heap[w.heap.size + 1]? = some (.loop { rec .ready none with state := .busy }) := by rw [← hW2]; exact World.putObj_heap_same hlta
      have hk2 : W2.heap[w.heap.size]? = some (.deferred (some [])) := by rw [← hW2]; exact (World.putObj_heap_other (by omega)).trans hka
      have hst2 : Stay N W1.heap.size Wa W2 := by rw [← hW2]; exact stay_put (by omega) (by omega)
      have hi2 : I k W2 := by rw [← hW2]; exact hI _ _ _ hia (below_put (by omega))
      have hax2 : Ax x a' W2 := by rw [← hW2]; exact hAx x a' _ _ hax (fun j hj _ => World.putObj_heap_other (by omega)) (by simp)
      have hs2 : w.heap.size + 2 ≤ W2.heap.size := by rw [← hW2]; simp; omega
      rw [hW2]
      refine wpIn_mono (hbody _ k x a' W2 hs2 hx hi2 hax2) ?_
      rintro e a3 W3 hp
      cases e with
      | normal =>
        obtain ⟨hst3, hi3⟩ := hp
        have hl3 := (hst3.high _ (by omega) (by omega)).trans hl2
        have hk3 := (hst3.high _ (Nat.le_refl _) (by omega)).trans hk2
        have hr := run_endRound (P := P) none hl3
        rw [hrec] at hr
        refine ⟨_, _, hr, rfl, ⟨hI _ _ _ hi3 (below_put (by omega)), ?_, (World.putObj_heap_other (by omega)).trans hk3⟩, ?_⟩
        · rw [hrec]; exact World.putObj_heap_same (Array.getElem?_eq_some_iff.1 hl3).1
        · exact hsta.trans (hst2.trans ((hst3.mono (by omega)).trans (stay_put (by omega) (by omega))))
      | ret => exact hp.elim
      | exit id => exact hp.elim
      | goto t => exact hp.elim
      | panic ch => exact hp.elim
      | outgrown => exact hp.elim
    · rintro e W2 ⟨⟨v, rfl⟩, hi, hl, hk⟩
      exact ⟨none, _, by have := run_endLoop (P := P) hl (by rw [hrec]; simp); rw [hrec] at this; exact this,
        hdone _ _ (Nat.le_refl _) (hI _ _ _ hi (below_put (by omega))) ((World.putObj_heap_other (by omega)).trans hk)⟩
end Go.Proofs.Ytpoidaenkjjdfaa
namespace Go.Proofs.Ytpoidaenkjjdfaa
open Go.RowKit Go.Shelf
set_option linter.unusedVariables false
set_option linter.unusedSimpArgs false
attribute [local go_sem] Oper.semAt_some

theorem RgIn.belowN {N : Nat} {w w' : World} {vs vh vm : Value} {R : Reg} (h : RgIn (fun b => b < N) w vs vh vm R) (hb : Below N w w') : RgIn (fun b => b < N) w' vs vh vm R :=
  ⟨h.S.belowB hb fun _ h => h, h.H.belowB hb fun _ h => h, h.M.belowB hb fun _ h => h⟩
/-- the security of a holding -/
def secOf (R : Reg) (x : Hold) : Sec := (findS R.secs x.s).getD ⟨0, 0, 0, 0, 0, 0, false⟩
def aggSec (s : Sec) : Value := .agg #[.int .i64 s.id, .int .i64 s.un, .int .i64 s.is, .int .i64 s.ma, .int .i64 s.ra, .int .i64 s.ev, .bool s.ix]
def aggHold (x : Hold) : Value := .agg #[.int .i64 x.s, .int .i64 x.h, .int .i64 x.a]
def encE (R : Reg) (x : Hold) : Array Value := #[aggSec (secOf R x), aggHold x]
theorem rfind_of (P : Nat → Prop) (vs vh vm : Value) (R : Reg) (x : Hold) (w : World) (hr : RgIn P w vs vh vm R) (hlen : R.secs.length ≤ 1000000) :
    ∃ b, Calls Try.prog 32 #[.agg #[vs, vh, vm], .int .i64 x.s] w fun e w' => e = .returned (.tuple #[aggSec (secOf R x), .bool b]) ∧ Below w.heap.size w w' := by
  unfold secOf
  cases hf : findS R.secs x.s with
  | none => exact ⟨false, (rfind_no P vs vh vm R x.s w hr hlen hf).mono fun e w' ⟨h1, h2⟩ => ⟨h1, h2⟩⟩
  | some s =>
    obtain ⟨id, un, is, ma, ra, ev, ix⟩ := s
    exact ⟨true, (rfind_yes P vs vh vm R x.s id un is ma ra ev ix w hr hlen hf).mono fun e w' ⟨h1, h2⟩ => ⟨h1, h2⟩⟩
set_option maxHeartbeats 4000000 in
set_option maxRecDepth 100000 in
theorem each_stops (n N : Nat) (vs vh vm : Value) (R : Reg) (w : World) (hr : RgIn (fun b => b < N) w vs vh vm R) (hN : N ≤ w.heap.size) (hS : R.secs.length ≤ 1000000) (hH : R.hs.length ≤ 1000000) :
    EachC Fence.wide n Try.prog 116 #[.agg #[vs, vh, vm]] (encE R) R.hs N w := by
  intro l J W hW hJ hY h0
  obtain ⟨a0, n0, c0, rfl, -, -, -⟩ := hr.S.shape
  obtain ⟨a1, n1, c1, rfl, hl1, hnc1, hcm1⟩ := hr.H.shape
  obtain ⟨a2, n2, c2, rfl, -, -, -⟩ := hr.M.shape
  have hr0 := hr.belowN (hW.mono hN)
  have HR := Lib.hid hr0
  have hn1 : n1 ≤ 1000000 := by omega
  have HL := Lib.hid hl1
  have hsz := hW.size
  clear hr hr0 hl1 hH
  refine callsIn_of_wp Try.func116 rfl trivial ?_ rfl
  simp only [Try.ntmps116, List.size_toArray, List.length_cons, List.length_nil, Nat.reduceAdd, Nat.reduceSub, Array.replicate_succ, Array.replicate_zero, List.push_toArray, List.append_toArray, List.nil_append, List.cons_append]
  gi_wp2
  obtain ⟨W2, hW2⟩ : ∃ W2, W.alloc (Obj.cells #[Value.slice a0 n0 c0, Value.slice a1 n1 c1, Value.slice a2 n2 c2] 144) = W2 := ⟨_, rfl⟩
  have hb2 : Below W.heap.size W W2 := by rw [← hW2]; exact bal brefl _
  have hx2 : W2.heap[W.heap.size]? = some (Obj.cells #[Value.slice a0 n0 c0, Value.slice a1 n1 c1, Value.slice a2 n2 c2] 144) := by rw [← hW2]; exact World.alloc_heap_new _ _
  have hJ2 : J 0 W2 := hJ _ _ _ h0 hb2
  have hN2 : N ≤ W.heap.size := by omega
  rw [hW2]
  clear hW2 h0
  gi_loopw [12] (fun i wr => ∃ k : Nat, k ≤ n1 ∧ i = .int .i64 k ∧ J k wr ∧ Stay N W.heap.size W2 wr)
    (fun i _ => n1 - (intOf i).toNat)
  case atStart => exact ⟨0, Nat.zero_le _, rfl, hJ2, Stay.refl⟩
  case round =>
    obtain ⟨k, hk, rfl, hJs, hst⟩ := hrel
    have hsr := hst.low.size
    have hs2 : W.heap.size < W2.heap.size := (Array.getElem?_eq_some_iff.1 hx2).1
    have hxr : wr.heap[W.heap.size]? = some (Obj.cells #[Value.slice a0 n0 c0, Value.slice a1 n1 c1, Value.slice a2 n2 c2] 144) := (hst.high _ (Nat.le_refl _) hs2).trans hx2
    have hBr : Below N W wr := (hb2.mono hN2).trans hst.low
    have HRr := Lib.hid (HR.out.belowN hBr)
    by_cases hlt : k < n1
    · obtain ⟨b, off, xs, xh, xa, rfl, hpb, hbl, hxk, k0, k1, k2⟩ := HRr.out.H.hold hlt
      have p0 : wr.cell? ⟨W.heap.size, 0, none⟩ = some (Value.slice a0 n0 c0) := by unfold World.cell?; simp [hxr]
      have p1 : wr.cell? ⟨W.heap.size, 1, none⟩ = some (Value.slice (some ⟨b, off, none⟩) n1 c1) := by unfold World.cell?; simp [hxr]
      have p2 : wr.cell? ⟨W.heap.size, 2, none⟩ = some (Value.slice a2 n2 c2) := by unfold World.cell?; simp [hxr]
      have HX := Lib.hid hxk
      have HST := Lib.hid hst
      have HBR := Lib.hid hBr
      have HXR := Lib.hid hxr
      have HX2 := Lib.hid hx2
      have HB2 := Lib.hid hb2
      clear hxk hst hBr hxr hx2 hb2
      have hlw : W.heap.size < wr.heap.size := by omega
      obtain ⟨sx, hsx⟩ : ∃ s, secOf R ⟨xs, xh, xa⟩ = s := ⟨_, rfl⟩
      obtain ⟨id, un, is, ma, ra, ev, ix⟩ := sx
      obtain ⟨fb, hfind⟩ := rfind_of _ _ _ _ R ⟨xs, xh, xa⟩ (wr.alloc (Obj.cells #[Value.int IntKind.i64 xs, Value.int IntKind.i64 xh, Value.int IntKind.i64 xa] 98)) (HRr.out.below (bal brefl _)) hS
      rw [hsx] at hfind
      have HSX := Lib.hid hsx
      clear hsx
      have HF := Lib.hid hfind
      clear hfind
      gi_wp2_with fail
      refine ⟨trivial, fun h => (by simp [Fence.wide] at h), (callsIn_wide.2 HF.out).mono ?_⟩
      clear HF
      rintro e w1 ⟨rfl, hb⟩
      obtain ⟨hq0, hq1, hq2⟩ : w1.cell? ⟨wr.heap.size, 0, none⟩ = some (.int .i64 xs) ∧ w1.cell? ⟨wr.heap.size, 1, none⟩ = some (.int .i64 xh) ∧ w1.cell? ⟨wr.heap.size, 2, none⟩ = some (.int .i64 xa) := ⟨boxed_cell hb 0 rfl, boxed_cell hb 1 rfl, boxed_cell hb 2 rfl⟩
      have hB1 := below_boxZ hb
      have hz1 : wr.heap.size < w1.heap.size := by have := hb.size; simp at this; omega
      have HB1 := Lib.hid hB1
      clear hb hB1
      dsimp only [aggSec]
      obtain ⟨fn, tmps, assign, body, hy, hR⟩ := hY k ⟨xs, xh, xa⟩ (w1.alloc (Obj.cells #[.int .i64 id, .int .i64 un, .int .i64 is, .int .i64 ma, .int .i64 ra, .int .i64 ev, .bool ix] 29)) HX.out (hJ _ _ _ hJs (bal HB1.out _))
      have hHR := Lib.hid hR
      clear hR
      simp only [encE, HSX.out, aggSec, aggHold] at hy
      gi_wp2
      refine ⟨fun h => (by simp [Fence.wide] at h), hHR.out.mono ?_⟩
      rintro e W3 ⟨rfl, hJ3, hk3⟩
      have HK3 := Lib.hid hk3
      clear hk3 hHR hy
      gi_wp2
      go_roundw
      case rel =>
        refine ⟨k + 1, by omega, by simp, hJ3, HST.out.trans (Stay.trans ?_ HK3.out)⟩
        have hb4 := bal HB1.out (Obj.cells #[.int .i64 id, .int .i64 un, .int .i64 is, .int .i64 ma, .int .i64 ra, .int .i64 ev, .bool ix] 29)
        exact ⟨hb4.mono (by omega), fun j _ hj => hb4.block j hj⟩
      case measure => simp [intOf]; omega
    · obtain rfl : k = n1 := by omega
      gi_wp2
      go_end0
      exact ⟨⟨_, rfl⟩, by rw [HL.out]; exact hJs⟩
end Go.Proofs.Ytpoidaenkjjdfaa
namespace Go.Proofs.Ytpoidaenkjjdfaa
open Go.RowKit
set_option linter.unusedVariables false
theorem calvalid_any (n : Int) (w : World) : Calls Try.prog 115 #[.int .i64 n] w fun e w' => e = .returned (.bool (inB n 0 36000)) ∧ w = w' := by
  go_enter Try.func115, Try.ntmps115
  go_wp2
  all_goals (go_ret; exact ⟨ret_bool (by simp only [inB]; first | (rw [Bool.eq_iff_iff]; simp; omega) | (simp; omega)), rfl⟩)
def yrOf (d : Int) : Int := if inB d 0 36000 then d / 360 else -1
theorem year_any (d : Int) (w : World) : Calls Try.prog 150 #[.int .i64 d] w fun e w' => e = .returned (.int .i64 (yrOf d)) ∧ w = w' := by
  unfold yrOf
  cases h : inB d 0 36000
  · go_enter Try.func150, Try.ntmps150
    go_wp2_with fail
    refine (calvalid_any _ _).mono ?_
    rw [h]
    rintro e w1 ⟨rfl, rfl⟩
    go_wp2
    go_ret
    exact ⟨rfl, rfl⟩
  · obtain ⟨h0, h1⟩ := inB_iff.1 h
    go_enter Try.func150, Try.ntmps150
    go_wp2_with fail
    refine (calvalid_any _ _).mono ?_
    rw [h]
    rintro e w1 ⟨rfl, rfl⟩
    go_wp2
    go_ret
    exact ⟨ret_int (by simp), rfl⟩

def sumF {α : Type} (f : α → Int) : List α → Int
  | [] => 0
  | x :: L => f x + sumF f L
theorem sumF_app {α : Type} (f : α → Int) : ∀ L M : List α, sumF f (L ++ M) = sumF f L + sumF f M
  | [], M => by simp [sumF]
  | x :: L, M => by simp only [List.cons_append, sumF, sumF_app f L M]; omega
theorem sumF_take {α : Type} {f : α → Int} {L : List α} {k : Nat} {x : α} (h : L[k]? = some x) : sumF f (L.take (k + 1)) = sumF f (L.take k) + f x := by
  rw [take_snocZ h, sumF_app]; simp [sumF]
theorem sumF_bd {α : Type} {f : α → Int} {B : Int} : ∀ {L : List α}, (∀ x ∈ L, 0 ≤ f x ∧ f x ≤ B) → 0 ≤ sumF f L ∧ sumF f L ≤ B * L.length
  | [], _ => by simp [sumF]
  | x :: L, h => by
    have h1 := h x (List.mem_cons_self ..)
    have h2 := sumF_bd (L := L) (B := B) fun y hy => h y (List.mem_cons_of_mem _ hy)
    simp only [sumF, List.length_cons]
    rw [show ((L.length + 1 : Nat) : Int) = (L.length : Int) + 1 by omega, Int.mul_add]
    omega
theorem sumF_bdk {α : Type} {f : α → Int} {B : Int} {L : List α} {k : Nat} (hB : 0 ≤ B) (h : ∀ x ∈ L, 0 ≤ f x ∧ f x ≤ B) (hl : L.length ≤ 1000) : 0 ≤ sumF f (L.take k) ∧ sumF f (L.take k) ≤ B * 1000 := by
  have h1 := sumF_bd (L := L.take k) (B := B) fun x hx => h x (List.mem_of_mem_take hx)
  refine ⟨h1.1, Int.le_trans h1.2 (Int.mul_le_mul_of_nonneg_left ?_ hB)⟩
  have h3 : (L.take k).length ≤ L.length := List.length_take_le' k L
  omega
/-- holdings with what the sums ask -/
structure RhOk (R : Reg) : Prop where
  len : R.hs.length ≤ 1000
  amt : ∀ x ∈ R.hs, 0 ≤ x.a ∧ x.a ≤ 1000000000000
  sec : ∀ x ∈ R.hs, SecOk (secOf R x).id (secOf R x).un (secOf R x).is (secOf R x).ma (secOf R x).ra (secOf R x).ev
def fallF (R : Reg) (y : Int) (x : Hold) : Int := if yrOf (secOf R x).ma = y then x.a else 0
def lateF (R : Reg) (y : Int) (x : Hold) : Int := if yrOf (secOf R x).ma > y then x.a else 0
theorem fallF_bd {R : Reg} (h : RhOk R) (y : Int) : ∀ x ∈ R.hs, 0 ≤ fallF R y x ∧ fallF R y x ≤ 1000000000000 := fun x hx => by
  have := h.amt x hx
  unfold fallF; split <;> omega
theorem lateF_bd {R : Reg} (h : RhOk R) (y : Int) : ∀ x ∈ R.hs, 0 ≤ lateF R y x ∧ lateF R y x ≤ 1000000000000 := fun x hx => by
  have := h.amt x hx
  unfold lateF; split <;> omega
end Go.Proofs.Ytpoidaenkjjdfaa
namespace Go.Proofs.Ytpoidaenkjjdfaa
open Go.RowKit
set_option linter.unusedVariables false
set_option linter.unusedSimpArgs false
theorem amongK_any (n lo hi : Int) (w : World) : Calls Try.prog 101 #[.int .i64 n, .int .i64 lo, .int .i64 hi] w fun e w' => e = .returned (.bool (inB n lo hi)) ∧ w = w' := by
  go_enter Try.func101, Try.ntmps101
  go_wp2
  all_goals (go_ret; exact ⟨ret_bool (by simp only [inB]; first | (rw [Bool.eq_iff_iff]; simp; omega) | (simp; omega)), rfl⟩)
theorem rate_any (n : Int) (w : World) : Calls Try.prog 104 #[.int .i64 n] w fun e w' => e = .returned (.bool (inB n 0 20000)) ∧ w = w' := by
  cases h : inB n 0 20000
  all_goals
    go_enter Try.func104, Try.ntmps104
    go_wp2_with fail
    refine (amongK_any _ _ _ _).mono ?_
    rw [h]
    rintro e w1 ⟨rfl, rfl⟩
    go_wp2
    go_ret
    exact ⟨rfl, rfl⟩
theorem path1_any (n : Int) (w : World) : Calls Try.prog 103 #[.int .i64 n] w fun e w' => e = .returned (.bool (!inB n 0 20000)) ∧ w = w' := by
  cases h : inB n 0 20000
  all_goals
    go_enter Try.func103, Try.ntmps103
    go_wp2_with fail
    refine (rate_any _ _).mono ?_
    rw [h]
    rintro e w1 ⟨rfl, rfl⟩
    go_wp2
    go_ret
    exact ⟨rfl, rfl⟩
/-- some rate is none -/
def badR (L : List Int) : Bool := L.any fun x => !inB x 0 20000
theorem badR_yes {L : List Int} {k : Nat} {x : Int} (h : L[k]? = some x) (hx : inB x 0 20000 = false) : badR L = true := List.any_eq_true.2 ⟨x, List.mem_of_getElem? h, by rw [hx]; rfl⟩
theorem badR_snoc {L : List Int} {k : Nat} {x : Int} (h : L[k]? = some x) (hx : inB x 0 20000 = true) (hb : badR (L.take k) = false) : badR (L.take (k + 1)) = false := by
  rw [take_snocZ h]; unfold badR at *; rw [List.any_append, hb]; simp [hx]
set_option maxHeartbeats 1000000 in
theorem indexFuncR_any (P : Nat → Prop) (v : Value) (L : List Int) (w : World) (h : Sl 1 encI P w v L) (hn : L.length ≤ 1000000) :
    Calls Try.prog 149 #[v, .func (.func 103) #[] #[]] w fun e w' => (∃ i : Int, e = .returned (.int .i64 i) ∧ decide (0 ≤ i) = badR L) ∧ w = w' := by
  obtain ⟨ao, n, c, rfl, hl, hnc, hcm⟩ := h.shape
  have H := Lib.hid h
  have HL := Lib.hid hl
  have hn1 : n ≤ 1000000 := by omega
  clear h hl hn
  go_enter Try.func149, Try.ntmps149
  go_wp2
  go_loop [8] (fun iv => ∃ k : Nat, k ≤ n ∧ iv = .int .i64 k ∧ badR (L.take k) = false) (fun iv => n - (intOf iv).toNat)
  case atStart => exact ⟨0, by omega, rfl, rfl⟩
  case round =>
    obtain ⟨k, hk, rfl, hall⟩ := hrel
    have HA := Lib.hid hall
    clear hall
    by_cases hlt : k < n
    · obtain ⟨b, off, x, rfl, -, hbl, hxk, hck⟩ := H.out.int hlt
      have HX := Lib.hid hxk
      clear hxk
      cases hp : inB x 0 20000
      · have hfin := Lib.hid (badR_yes HX.out hp)
        go_wp2_with (go_at_call 103; refine (path1_any _ _).mono ?_; rw [hp]; rintro e w' ⟨rfl, rfl⟩)
        go_ret
        exact ⟨⟨_, rfl, by rw [hfin.out]; simp⟩, rfl⟩
      · have hstep := Lib.hid (badR_snoc HX.out hp HA.out)
        go_wp2_with (go_at_call 103; refine (path1_any _ _).mono ?_; rw [hp]; rintro e w' ⟨rfl, rfl⟩)
        go_round
        case rel => exact ⟨k + 1, by omega, by go_num, hstep.out⟩
        case measure => simp [intOf]; omega
    · obtain rfl : k = n := by omega
      have hfin := HA.out
      rw [List.take_of_length_le (Nat.le_of_eq HL.out)] at hfin
      have HFIN := Lib.hid hfin
      clear hfin
      go_wp2
      go_ret
      exact ⟨⟨_, rfl, by rw [HFIN.out]; simp⟩, rfl⟩
theorem containsFuncR_any (P : Nat → Prop) (v : Value) (L : List Int) (w : World) (h : Sl 1 encI P w v L) (hn : L.length ≤ 1000000) :
    Calls Try.prog 102 #[v, .func (.func 103) #[] #[]] w fun e w' => e = .returned (.bool (badR L)) ∧ w = w' := by
  obtain ⟨ao, n, c, rfl, -, -, -⟩ := h.shape
  have H := Lib.hid h
  clear h
  go_enter Try.func102, Try.ntmps102
  go_wp2_with fail
  refine (indexFuncR_any P _ L w H.out hn).mono ?_
  rintro e w' ⟨⟨i, rfl, hi⟩, rfl⟩
  have HI := Lib.hid hi
  clear hi
  go_wp2
  go_ret
  exact ⟨ret_bool HI.out, rfl⟩
/-- a path -/
def pathB (L : List Int) : Bool := decide (1 ≤ L.length ∧ L.length ≤ 60) && !badR L
set_option maxHeartbeats 1000000 in
theorem path_any (P : Nat → Prop) (v : Value) (L : List Int) (w : World) (h : Sl 1 encI P w v L) (hn : L.length ≤ 1000000) :
    Calls Try.prog 49 #[v] w fun e w' => e = .returned (.bool (pathB L)) ∧ w = w' := by
  unfold pathB
  obtain ⟨ao, n, c, rfl, hl, hnc, hcm⟩ := h.shape
  have HC := Lib.hid (containsFuncR_any P _ L w h hn)
  rw [hl]
  have hn1 : n ≤ 1000000 := by omega
  clear h hl hn
  obtain ⟨b, hb⟩ : ∃ b, badR L = b := ⟨_, rfl⟩
  rw [hb] at HC ⊢
  clear hb
  cases hp : inB n 1 60
  · have hq : decide (1 ≤ n ∧ n ≤ 60) = false := by simp [inB] at hp ⊢; omega
    rw [hq]
    clear hq
    go_enter Try.func49, Try.ntmps49
    go_wp2_with (go_at_call 101; refine (amongK_any _ _ _ _).mono ?_; rw [hp]; rintro e w' ⟨rfl, rfl⟩)
    go_ret
    exact ⟨rfl, rfl⟩
  · have hq : decide (1 ≤ n ∧ n ≤ 60) = true := by simp [inB] at hp ⊢; omega
    rw [hq]
    clear hq
    cases b
    all_goals
      go_enter Try.func49, Try.ntmps49
      go_wp2_with (first | (go_at_call 101; refine (amongK_any _ _ _ _).mono ?_; rw [hp]; rintro e w' ⟨rfl, rfl⟩) | (go_at_call 102; refine HC.out.mono ?_; rintro e w' ⟨rfl, rfl⟩))
      go_ret
      exact ⟨rfl, rfl⟩
end Go.Proofs.Ytpoidaenkjjdfaa
