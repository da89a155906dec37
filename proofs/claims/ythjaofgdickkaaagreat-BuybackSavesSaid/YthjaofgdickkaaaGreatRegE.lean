/- The register's clerk: do. -/
import Derived.Test.YthjaofgdickkaaaGreatRegD
import Derived.Deep.DeepCutAuto
namespace Go.Proofs.YthjaofgdickkaaaGreat
open Go.RowKit
set_option linter.unusedVariables false
set_option linter.unusedSimpArgs false

/-- the clerk at cb -/
structure CkIn (cb : Nat) (w : World) (secs : List Sec) (hs : List Hold) (num day : Int) (vs v : Value) : Prop where
  h0 : w.cell? ⟨cb, 0, none⟩ = some vs
  h1 : w.cell? ⟨cb, 1, none⟩ = some v
  h2 : w.cell? ⟨cb, 2, none⟩ = some (.int .i64 num)
  h3 : w.cell? ⟨cb, 3, none⟩ = some (.int .i64 day)
  f1 : w.frozen? ⟨cb, 1, none⟩ = false
  f2 : w.frozen? ⟨cb, 2, none⟩ = false
  f3 : w.frozen? ⟨cb, 3, none⟩ = false
  S : Sl 7 encSec (· < cb) w vs secs
  O : w.ownsRow (cb + 1) 171 3 v hs.length (flatE encHold hs)
theorem CkIn.lt {cb : Nat} {w : World} {secs : List Sec} {hs : List Hold} {num day : Int} {vs v : Value} (h : CkIn cb w secs hs num day vs v) : cb < w.heap.size := World.block_lt_of_cell? w _ h.h0
theorem CkIn.below {cb : Nat} {w w' : World} {secs : List Sec} {hs : List Hold} {num day : Int} {vs v : Value} (h : CkIn cb w secs hs num day vs v) (hb : Below w.heap.size w w') : CkIn cb w' secs hs num day vs v := by
  have hl := h.lt
  exact ⟨keepB hb h.h0, keepB hb h.h1, keepB hb h.h2, keepB hb h.h3, (hb.frozen (p := ⟨cb, 1, none⟩) hl).trans h.f1, (hb.frozen (p := ⟨cb, 2, none⟩) hl).trans h.f2, (hb.frozen (p := ⟨cb, 3, none⟩) hl).trans h.f3, h.S.below hb, ownsRow_belowZ h.O hb⟩
theorem keepS {w : World} {b o k j : Nat} {v v0 : Value} (hne : o ≠ b) (h : w.cell? ⟨o, k, none⟩ = some v) : (w.setCell ⟨b, j, none⟩ v0).cell? ⟨o, k, none⟩ = some v :=
  (World.cell?_setCell_other _ _ _ _ (by intro q; injection q; exact hne (Eq.symm (by assumption)))).trans h
theorem keepS7 {w : World} {b o k : Nat} {v v0 v1 v2 v3 v4 v5 v6 : Value} (hne : o ≠ b) (h : w.cell? ⟨o, k, none⟩ = some v) : (((((((w.setCell ⟨b, 0, none⟩ v0).setCell ⟨b, 1, none⟩ v1).setCell ⟨b, 2, none⟩ v2).setCell ⟨b, 3, none⟩ v3).setCell ⟨b, 4, none⟩ v4).setCell ⟨b, 5, none⟩ v5).setCell ⟨b, 6, none⟩ v6).cell? ⟨o, k, none⟩ = some v :=
  keepS hne (keepS hne (keepS hne (keepS hne (keepS hne (keepS hne (keepS hne h))))))
theorem boxB {w wx : World} {C : Array Value} {T : TypeId} (hb : Below (w.heap.size + 1) (w.alloc (.cells C T)) wx) (i : Nat) {v : Value} (hv : C[i]? = some v) : wx.cell? ⟨w.heap.size, i, none⟩ = some v :=
  (hb.cell (p := ⟨w.heap.size, i, none⟩) (by simp)).trans ((World.cell?_alloc_at _ _ _ _ rfl).trans hv)
/-- what a move leaves -/
def DoPost (cb : Nat) (secs : List Sec) (vs : Value) (num md E : Int) (H' : List Hold) (w : World) (e : Ending) (w' : World) : Prop :=
  (E ≠ 0 ∧ e = .returned (.int .i64 E) ∧ Below w.heap.size w w') ∨ (E = 0 ∧ e = .returned (.int .i64 0) ∧ (∃ v', CkIn cb w' secs H' (num + 1) md vs v') ∧ Below cb w w')
theorem do_err {cb : Nat} {secs : List Sec} {vs : Value} {num md E k : Int} {H' : List Hold} {w w' : World} (hE : E = k) (hk : k ≠ 0) (hb : Below w.heap.size w w') : DoPost cb secs vs num md E H' w (.returned (.int .i64 k)) w' := by
  subst hE; exact .inl ⟨hk, rfl, hb⟩
/-- what the search in a move leaves: the security in a box of its own -/
def FoundAt (w : World) (M : Array Value) (s : Sec) (s5 : Value) (wx : World) : Prop :=
  ∃ sb : Nat, s5 = .pointer (some ⟨sb, 0, none⟩) ∧ w.heap.size < sb ∧ wx.cell? ⟨sb, 0, none⟩ = some (.int .i64 s.id) ∧ wx.cell? ⟨sb, 1, none⟩ = some (.int .i64 s.un) ∧ wx.cell? ⟨sb, 2, none⟩ = some (.int .i64 s.is) ∧ wx.cell? ⟨sb, 3, none⟩ = some (.int .i64 s.ma) ∧ Below (w.heap.size + 1) (w.alloc (.cells M 174)) wx
theorem below_undrew {B : Nat} {w w1 : World} (h : Below w.drew.heap.size w.drew w1) : Below w.heap.size w w1 := ⟨h.os, h.tape, h.output, h.size, h.block⟩
theorem found_a {w w1 : World} {M : Array Value} {s : Sec} (hb' : Below (w.alloc (.cells M 174)).drew.heap.size (w.alloc (.cells M 174)).drew w1) :
    FoundAt w M s (.pointer (some ⟨w1.heap.size, 0, none⟩)) (w1.alloc (.cells #[.int .i64 s.id, .int .i64 s.un, .int .i64 s.is, .int .i64 s.ma, .int .i64 s.ra, .int .i64 s.ev, .bool s.ix] 26)) := by
  have hb : Below (w.alloc (.cells M 174)).heap.size (w.alloc (.cells M 174)) w1 := ⟨hb'.os, hb'.tape, hb'.output, hb'.size, hb'.block⟩
  have hz := hb.size
  rw [World.size_alloc] at hz
  rw [World.size_alloc] at hb
  exact ⟨_, rfl, by omega, (World.cell?_alloc_at _ _ _ _ rfl).trans rfl, (World.cell?_alloc_at _ _ _ _ rfl).trans rfl, (World.cell?_alloc_at _ _ _ _ rfl).trans rfl, (World.cell?_alloc_at _ _ _ _ rfl).trans rfl, hb.alloc (by omega) _⟩
theorem set7_cells {w : World} {b : Nat} {v0 v1 v2 v3 v4 v5 v6 : Value} (hc : ∀ i, i < 7 → ∃ u, w.cell? ⟨b, i, none⟩ = some u) :
    (((((((w.setCell ⟨b, 0, none⟩ v0).setCell ⟨b, 1, none⟩ v1).setCell ⟨b, 2, none⟩ v2).setCell ⟨b, 3, none⟩ v3).setCell ⟨b, 4, none⟩ v4).setCell ⟨b, 5, none⟩ v5).setCell ⟨b, 6, none⟩ v6).cell? ⟨b, 0, none⟩ = some v0 ∧
    (((((((w.setCell ⟨b, 0, none⟩ v0).setCell ⟨b, 1, none⟩ v1).setCell ⟨b, 2, none⟩ v2).setCell ⟨b, 3, none⟩ v3).setCell ⟨b, 4, none⟩ v4).setCell ⟨b, 5, none⟩ v5).setCell ⟨b, 6, none⟩ v6).cell? ⟨b, 1, none⟩ = some v1 ∧
    (((((((w.setCell ⟨b, 0, none⟩ v0).setCell ⟨b, 1, none⟩ v1).setCell ⟨b, 2, none⟩ v2).setCell ⟨b, 3, none⟩ v3).setCell ⟨b, 4, none⟩ v4).setCell ⟨b, 5, none⟩ v5).setCell ⟨b, 6, none⟩ v6).cell? ⟨b, 2, none⟩ = some v2 ∧
    (((((((w.setCell ⟨b, 0, none⟩ v0).setCell ⟨b, 1, none⟩ v1).setCell ⟨b, 2, none⟩ v2).setCell ⟨b, 3, none⟩ v3).setCell ⟨b, 4, none⟩ v4).setCell ⟨b, 5, none⟩ v5).setCell ⟨b, 6, none⟩ v6).cell? ⟨b, 3, none⟩ = some v3 := by
  obtain ⟨u0, c0⟩ := hc 0 (by omega)
  obtain ⟨u1, c1⟩ := hc 1 (by omega)
  obtain ⟨u2, c2⟩ := hc 2 (by omega)
  obtain ⟨u3, c3⟩ := hc 3 (by omega)
  refine ⟨?_, ?_, ?_, ?_⟩ <;> simp [go_sem, c0, c1, c2, c3]
theorem found_b {w w1 : World} {M Z : Array Value} {T : TypeId} {s : Sec} (hZ : Z.size = 7) (hb' : Below ((w.alloc (.cells M 174)).alloc (.cells Z T)).drew.heap.size ((w.alloc (.cells M 174)).alloc (.cells Z T)).drew w1) :
    FoundAt w M s (.pointer (some ⟨w.heap.size + 1, 0, none⟩)) (((((((w1.setCell ⟨w.heap.size + 1, 0, none⟩ (.int .i64 s.id)).setCell ⟨w.heap.size + 1, 1, none⟩ (.int .i64 s.un)).setCell ⟨w.heap.size + 1, 2, none⟩ (.int .i64 s.is)).setCell ⟨w.heap.size + 1, 3, none⟩ (.int .i64 s.ma)).setCell ⟨w.heap.size + 1, 4, none⟩ (.int .i64 s.ra)).setCell ⟨w.heap.size + 1, 5, none⟩ (.int .i64 s.ev)).setCell ⟨w.heap.size + 1, 6, none⟩ (.bool s.ix)) := by
  have hb : Below ((w.alloc (.cells M 174)).alloc (.cells Z T)).heap.size ((w.alloc (.cells M 174)).alloc (.cells Z T)) w1 := ⟨hb'.os, hb'.tape, hb'.output, hb'.size, hb'.block⟩
  have hbm : Below (w.heap.size + 1) (w.alloc (.cells M 174)) w1 := ((Below.refl _ _).alloc (by simp) _).trans (hb.mono (by simp))
  have hc : ∀ i, i < 7 → ∃ u, w1.cell? ⟨w.heap.size + 1, i, none⟩ = some u := fun i hi => by
    rw [hb.cell (p := ⟨w.heap.size + 1, i, none⟩) (by simp), World.cell?_alloc_at _ _ _ _ (by simp)]
    exact ⟨Z[i], Array.getElem?_eq_getElem (by omega)⟩
  obtain ⟨q0, q1, q2, q3⟩ := set7_cells (v0 := .int .i64 s.id) (v1 := .int .i64 s.un) (v2 := .int .i64 s.is) (v3 := .int .i64 s.ma) (v4 := .int .i64 s.ra) (v5 := .int .i64 s.ev) (v6 := .bool s.ix) hc
  refine ⟨_, rfl, by omega, q0, q1, q2, q3, ?_⟩
  exact (((((((hbm.setCell (by simp) _).setCell (by simp) _).setCell (by simp) _).setCell (by simp) _).setCell (by simp) _).setCell (by simp) _).setCell (by simp) _)
set_option maxHeartbeats 2000000 in
set_option maxRecDepth 100000 in
theorem do_none (cb : Nat) (secs : List Sec) (hs : List Hold) (num day : Int) (vs v : Value) (mn md mk ms mf mt ma : Int) (w : World) (C : CkIn cb w secs hs num day vs v) (hlen : secs.length ≤ 1000000) (hf : findS secs ms = none) :
    Calls Tryz.prog 282 #[.pointer (some ⟨cb, 0, none⟩), .agg #[.int .i64 mn, .int .i64 md, .int .i64 mk, .int .i64 ms, .int .i64 mf, .int .i64 mt, .int .i64 ma]] w fun e w' => e = .returned (.int .i64 76) ∧ Below w.heap.size w w' := by
  have h0 := C.h0
  have hcl := C.lt
  have H := Lib.hid (fun W hS => find_no (· < cb) vs secs ms W hS hlen hf)
  have HS := Lib.hid (C.S.alloc (.cells #[.int .i64 mn, .int .i64 md, .int .i64 mk, .int .i64 ms, .int .i64 mf, .int .i64 mt, .int .i64 ma] 174))
  clear C hf
  have h0' : (w.alloc (.cells #[.int .i64 mn, .int .i64 md, .int .i64 mk, .int .i64 ms, .int .i64 mf, .int .i64 mt, .int .i64 ma] 174)).cell? ⟨cb, 0, none⟩ = some vs := (World.cell?_alloc_past _ _ _ hcl).trans h0
  have hne : ¬ cb = w.heap.size + 1 := by omega
  go_enter Tryz.func282, Tryz.ntmps282
  go_upto_region 1 with fail
  go_cut [5, 6] (fun s5 s6 wx => s6 = .bool false ∧ FoundAt w #[.int .i64 mn, .int .i64 md, .int .i64 mk, .int .i64 ms, .int .i64 mf, .int .i64 mt, .int .i64 ma] ⟨0, 0, 0, 0, 0, 0, false⟩ s5 wx)
  case first =>
    go_region_with (first | (go_at_call 231; refine (H.out _ ?_).mono ?_; (· first | exact HS.out.drewN 1 | exact (HS.out.alloc _).drewN 1); rintro e w1 ⟨rfl, hb1⟩; obtain ⟨hc1, hf1⟩ := bcell hb1; have hz1 := hb1.size; simp at hz1))
    all_goals (go_wp2_with fail; go_meet)
    all_goals first
      | exact ⟨rfl, found_a (s := ⟨0, 0, 0, 0, 0, 0, false⟩) hb1⟩
      | exact ⟨rfl, found_b (s := ⟨0, 0, 0, 0, 0, 0, false⟩) rfl hb1⟩
  case rest =>
    obtain ⟨rfl, sb, rfl, hsb, s0, s1, s2, s3, hbx⟩ := hcut
    have m2 := boxB hbx 2 rfl
    have HB := Lib.hid hbx
    clear hbx
    by_cases hk : mk = 3
    · subst hk
      go_wp2
      go_ret
      exact ⟨rfl, (bal brefl _).trans (HB.out.mono (by omega))⟩
    · have hk' : (mk == 3) = false := by simpa using hk
      go_wp2
      go_ret
      exact ⟨rfl, (bal brefl _).trans (HB.out.mono (by omega))⟩
end Go.Proofs.YthjaofgdickkaaaGreat
