/- Registers of the source: what holds of them; Add at a world behind a step of the source. -/
import Derived.Test.YtjfngogfiafipaaZSrcDeal
import Derived.Test.YtjfngogfiafipaaZRefL5
namespace Go.Proofs.Ytjfngogfiafipaa
open Go.RowKit
set_option linter.unusedVariables false
set_option linter.unusedSimpArgs false
/-- the securities and moves that the source makes -/
structure RegLike (R : Reg) (day : Int) : Prop where
  ok : RgOk R
  rd : rgDay R = day
  day0 : 0 ≤ day
  secs : ∀ s ∈ R.secs, (1 ≤ s.id ∧ s.id ≤ 3) ∧ SecLike s.un s.is s.ma s.ra s.ev
  ms : ∀ m ∈ R.ms, (1 ≤ m.s ∧ m.s ≤ 3) ∧ (0 ≤ m.f ∧ m.f ≤ 4) ∧ (0 ≤ m.t ∧ m.t ≤ 4) ∧ (1 ≤ m.kind ∧ m.kind ≤ 3)
/-- what Register leaves -/
def RegW (most : Nat) (w : World) (sb : Nat) (e : Ending) (w' : World) : Prop :=
  ∃ vs vh vm R day, e = .returned (.tuple #[.agg #[vs, vh, vm], .int .i64 day]) ∧ RegLike R day ∧ R.ms.length ≤ most ∧ day ≤ 130 * most ∧ RgIn (fun b => w.heap.size + 2 ≤ b) w' vs vh vm R ∧ SrcOk w' sb ∧ w.grownBy w' (some sb)
theorem RegLike.dealt {R R' : Reg} {day day' : Int} (h : RegLike R day) (hd : Dealt R day R' day') : RegLike R' day' ∧ R'.ms.length ≤ R.ms.length + 1 ∧ day' ≤ day + 130 ∧ R'.secs = R.secs := by
  rcases hd with ⟨rfl, rfl⟩ | ⟨m, rfl, hk, hE, rfl, d0, d1, hs, hf, ht⟩
  · exact ⟨h, by omega, by omega, rfl⟩
  · have hmv := RgOk.move hE hk
    have hr := rmR_ok hE
    have h0 := h.day0
    refine ⟨⟨hmv.1, hmv.2, by omega, ?_, ?_⟩, ?_, d1, ?_⟩
    · rw [hr]; exact h.secs
    · rw [hr]
      intro x hx
      rcases List.mem_append.1 hx with hx | hx
      · exact h.ms x hx
      · simp only [List.mem_singleton] at hx
        subst hx
        exact ⟨hs, hf, ht, hk⟩
    · rw [hr]; simp
    · rw [hr]
/-- what the first loop holds -/
structure AddedOk (R : Reg) (k : Int) : Prop where
  ok : RgOk R
  ms : R.ms = []
  secs : ∀ s ∈ R.secs, (1 ≤ s.id ∧ s.id < k) ∧ SecLike s.un s.is s.ma s.ra s.ev
theorem AddedOk.like {R : Reg} {k : Int} (h : AddedOk R k) (hk : k ≤ 4) : RegLike R 0 := by
  refine ⟨h.ok, ?_, by omega, fun s hs => ⟨by have := (h.secs s hs).1; omega, (h.secs s hs).2⟩, fun m hm => by rw [h.ms] at hm; simp at hm⟩
  rw [h.ok.day, h.ms]; rfl
theorem AddedOk.next {R : Reg} {k : Int} (h : AddedOk R k) : AddedOk R (k + 1) := ⟨h.ok, h.ms, fun s hs => ⟨by have := (h.secs s hs).1; omega, (h.secs s hs).2⟩⟩
theorem AddedOk.add {R : Reg} {k un is ma ra ev : Int} {ix : Bool} (h : AddedOk R k) (hk : 1 ≤ k) (hl : SecLike un is ma ra ev) (hE : raE R ⟨k, un, is, ma, ra, ev, ix⟩ = 0) : AddedOk (raR R ⟨k, un, is, ma, ra, ev, ix⟩) (k + 1) ∧ 0 < (raR R ⟨k, un, is, ma, ra, ev, ix⟩).secs.length := by
  have ha := RgOk.add hE h.ms
  refine ⟨⟨ha.1, ha.2, fun s hs => ?_⟩, ?_⟩
  · rw [raR_ok hE] at hs
    rcases List.mem_append.1 hs with hs | hs
    · have := h.secs s (List.mem_of_mem_take hs); exact ⟨by omega, this.2⟩
    · rcases List.mem_cons.1 hs with rfl | hs
      · exact ⟨⟨hk, by simp only; omega⟩, hl⟩
      · have := h.secs s (List.mem_of_mem_drop hs); exact ⟨by omega, this.2⟩
  · rw [raR_ok hE]; simp only [List.length_append, List.length_cons]; omega
/-- Add at a world behind a step of the source -/
theorem add_at {sb : Nat} {w w1 Wc : World} {vs vh vm : Value} {R : Reg} {k un is ma ra ev : Int} {ix : Bool} (hR1 : RgIn (fun b => w.heap.size + 2 ≤ b) w1 vs vh vm R) (hK : w1.grownBy Wc (some sb)) (hlt : sb < w.heap.size) (hok : RgOk R) (hnz : vs = .slice none 0 0 ∨ 0 < R.secs.length) :
    Calls Try.prog 33 #[.agg #[vs, vh, vm], .agg #[.int .i64 k, .int .i64 un, .int .i64 is, .int .i64 ma, .int .i64 ra, .int .i64 ev, .bool ix]] Wc (GaveR (fun b => (w.heap.size + 2 ≤ b ∧ b < w1.heap.size) ∨ Wc.heap.size ≤ b) (raR R ⟨k, un, is, ma, ra, ev, ix⟩) (raE R ⟨k, un, is, ma, ra, ev, ix⟩) Wc) :=
  fadd_any _ vs vh vm R k un is ma ra ev ix Wc (((hR1.mono (Q := fun b => w.heap.size + 2 ≤ b ∧ b < w1.heap.size) (fun b h hl => ⟨h, hl⟩)).grown hK (fun b h => by omega)).mono (fun b h _ => .inl h)) (by have := hok.ls; omega) (by have := hok.hl; omega) (by have := hok.lm; omega) (fun b h => .inr h) hnz
/-- what holds where the security has been added, or refused -/
structure AddAt (w : World) (sb : Nat) (w1 : World) (g : Nat) (Q : Reg) (b0 b1 b2 : Option Addr) (m0 d0 m1 d1 m2 d2 : Nat) (wx : World) : Prop where
  g0 : wx.cell? ⟨g, 0, none⟩ = some (.slice b0 m0 d0)
  g1 : wx.cell? ⟨g, 1, none⟩ = some (.slice b1 m1 d1)
  g2 : wx.cell? ⟨g, 2, none⟩ = some (.slice b2 m2 d2)
  old : ∀ k, k < w1.heap.size → k ≠ sb → wx.heap[k]? = w1.heap[k]?
  rg : RgIn (fun b => w.heap.size + 2 ≤ b) wx (.slice b0 m0 d0) (.slice b1 m1 d1) (.slice b2 m2 d2) Q
  src : SrcOk wx sb
  gr : w1.grownBy wx (some sb)
theorem added_set {w w1 Wc w3 : World} {sb g : Nat} {Q : Reg} {b0 b1 b2 : Option Addr} {m0 d0 m1 d1 m2 d2 : Nat} {T : TypeId} {u0 u1 u2 : Value} (hlt : sb < w.heap.size) (hz1 : w.heap.size + 2 ≤ w1.heap.size) (hK : w1.grownBy Wc (some sb)) (hSc : SrcOk Wc sb) (h3 : Below Wc.heap.size Wc w3) (hq : RgIn (fun b => (w.heap.size + 2 ≤ b ∧ b < w1.heap.size) ∨ Wc.heap.size ≤ b) w3 (.slice b0 m0 d0) (.slice b1 m1 d1) (.slice b2 m2 d2) Q)
    (hg : w1.heap.size ≤ g) (hg2 : g < Wc.heap.size) (hb : Wc.heap[g]? = some (.cells #[u0, u1, u2] T (0, 0))) :
    AddAt w sb w1 g Q b0 b1 b2 m0 d0 m1 d1 m2 d2 (((w3.setCell ⟨g, 0, none⟩ (.slice b0 m0 d0)).setCell ⟨g, 1, none⟩ (.slice b1 m1 d1)).setCell ⟨g, 2, none⟩ (.slice b2 m2 d2)) := by
  have hb3 := (h3.block g hg2).trans hb
  have e0 := heap_setCell_same w3 _ 0 _ _ (.slice b0 m0 d0) hb3
  have e1 := heap_setCell_same _ _ 1 _ _ (.slice b1 m1 d1) e0
  have e2 := heap_setCell_same _ _ 2 _ _ (.slice b2 m2 d2) e1
  have zK := hK.size
  have hB : Below w1.heap.size Wc (((w3.setCell ⟨g, 0, none⟩ (.slice b0 m0 d0)).setCell ⟨g, 1, none⟩ (.slice b1 m1 d1)).setCell ⟨g, 2, none⟩ (.slice b2 m2 d2)) := (h3.mono zK).trans (below_set3 w3 hg _ _ _)
  refine ⟨cell_heap (i := 0) e2 rfl, cell_heap (i := 1) e2 rfl, cell_heap (i := 2) e2 rfl, fun k hk hne => (hB.block k hk).trans (hK.block k hk (by simpa using hne)), ?_, srcOk_below hSc hB (by omega), ⟨hB.os.trans hK.os, hB.tape.trans hK.tape, hB.output.trans hK.output, Nat.le_trans hK.size hB.size, fun k hk hne => (hB.block k hk).trans (hK.block k hk hne)⟩⟩
  exact (hq.set3 (fun k hk => by omega)).mono (fun b h _ => h.elim (fun h => h.1) (fun h => by omega))
theorem added_new {w w1 Wc w3 : World} {sb : Nat} {Q : Reg} {b0 b1 b2 : Option Addr} {m0 d0 m1 d1 m2 d2 : Nat} {T : TypeId} (hlt : sb < w.heap.size) (hz1 : w.heap.size + 2 ≤ w1.heap.size) (hK : w1.grownBy Wc (some sb)) (hSc : SrcOk Wc sb) (h3 : Below Wc.heap.size Wc w3) (hq : RgIn (fun b => (w.heap.size + 2 ≤ b ∧ b < w1.heap.size) ∨ Wc.heap.size ≤ b) w3 (.slice b0 m0 d0) (.slice b1 m1 d1) (.slice b2 m2 d2) Q) :
    AddAt w sb w1 w3.heap.size Q b0 b1 b2 m0 d0 m1 d1 m2 d2 (w3.alloc (.cells #[.slice b0 m0 d0, .slice b1 m1 d1, .slice b2 m2 d2] T (0, 0))) := by
  have e2 := heap_alloc_new w3 (.cells #[.slice b0 m0 d0, .slice b1 m1 d1, .slice b2 m2 d2] T (0, 0))
  have zK := hK.size
  have z3 := h3.size
  have hB : Below w1.heap.size Wc (w3.alloc (.cells #[.slice b0 m0 d0, .slice b1 m1 d1, .slice b2 m2 d2] T (0, 0))) := (h3.mono zK).alloc (by omega) _
  refine ⟨cell_heap (i := 0) e2 rfl, cell_heap (i := 1) e2 rfl, cell_heap (i := 2) e2 rfl, fun k hk hne => (hB.block k hk).trans (hK.block k hk (by simpa using hne)), ?_, srcOk_below hSc hB (by omega), ⟨hB.os.trans hK.os, hB.tape.trans hK.tape, hB.output.trans hK.output, Nat.le_trans hK.size hB.size, fun k hk hne => (hB.block k hk).trans (hK.block k hk hne)⟩⟩
  exact (hq.below (bal brefl _)).mono (fun b h _ => h.elim (fun h => h.1) (fun h => by omega))
theorem box_below {w w3 : World} {C : Array Value} {T : TypeId} (hb : Below (w.alloc (.cells C T (0, 0))).heap.size (w.alloc (.cells C T (0, 0))) w3) : w3.heap[w.heap.size]? = some (.cells C T (0, 0)) := (hb.block _ (by simp)).trans (heap_alloc_new w _)
theorem box_grown {w w2 : World} {C : Array Value} {T : TypeId} {sb : Nat} (hG : (w.alloc (.cells C T (0, 0))).drew.grownBy w2 (some sb)) (hs : sb < w.heap.size) : w2.heap[w.heap.size]? = some (.cells C T (0, 0)) ∧ w.heap.size < w2.heap.size := by
  have z := (grownBy_undrew hG).size
  simp only [World.size_alloc] at z
  exact ⟨((grownBy_undrew hG).block _ (by simp) (by simp; omega)).trans (heap_alloc_new w _), by omega⟩
end Go.Proofs.Ytjfngogfiafipaa
