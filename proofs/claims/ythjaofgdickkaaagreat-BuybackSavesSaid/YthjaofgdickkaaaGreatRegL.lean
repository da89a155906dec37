/- register: move. -/
import Derived.Test.YthjaofgdickkaaaGreatRegK
namespace Go.Proofs.YthjaofgdickkaaaGreat
open Go.RowKit
set_option linter.unusedVariables false
set_option linter.unusedSimpArgs false

theorem repl_num (secs : List Sec) (want : Mv → Bool) : ∀ (ms : List Mv) (n d : Int) (hs : List Hold), (repl secs want ms n d hs).1 = true → (∀ m ∈ ms, want m = true) → (repl secs want ms n d hs).2.1 = n + ms.length
  | [], n, d, hs, _, _ => by simp [repl]
  | m :: ms, n, d, hs, h, hw => by
    simp only [repl, hw m (List.mem_cons_self ..), if_true] at h ⊢
    split at h
    · rename_i hq
      rw [if_pos hq, repl_num secs want ms _ _ _ h (fun x hx => hw x (List.mem_cons_of_mem _ hx))]
      simp only [List.length_cons]; omega
    · cases h
/-- the day of the last move -/
def rgDay (R : Reg) : Int := (repl R.secs wantAll R.ms 0 0 []).2.2.1
theorem RgOk.made {R : Reg} (h : RgOk R) : repl R.secs wantAll R.ms 0 0 [] = (true, (R.ms.length : Int), rgDay R, R.hs) := by
  have h1 := repl_num R.secs wantAll R.ms 0 0 [] h.ok (fun _ _ => rfl)
  have h2 := h.ok
  have h3 := h.hs
  unfold rgDay
  obtain ⟨q, hq⟩ : ∃ q, repl R.secs wantAll R.ms 0 0 [] = q := ⟨_, rfl⟩
  rw [hq] at h1 h2 h3 ⊢
  obtain ⟨q1, q2, q3, q4⟩ := q
  simp only at h1 h2 h3
  rw [h1, h2, h3, Int.zero_add]
theorem heap_at {w : World} {o : Obj} {k : Nat} (h : k = w.heap.size) : (w.alloc o).heap[k]? = some o := by subst h; exact heap_alloc_new w o
theorem Sl.set {α : Type} {z : Nat} {enc : α → List Value} {P : Nat → Prop} {w : World} {v : Value} {L : List α} (h : Sl z enc P w v L) {b o : Nat} {u : Value} (hp : ∀ k, P k → k ≠ b) : Sl z enc P (w.setCell ⟨b, o, none⟩ u) v L :=
  h.grown (grownBy_setCellZ w b o u) hp
/-- a store into a box ahead of the clerk -/
theorem CkIn.set {cb b o : Nat} {u : Value} {w : World} {secs : List Sec} {hs : List Hold} {num day : Int} {vs v : Value} (h : CkIn cb w secs hs num day vs v) (hb : b < cb) (hS : Sl 7 encSec (· < cb) (w.setCell ⟨b, o, none⟩ u) vs secs) : CkIn cb (w.setCell ⟨b, o, none⟩ u) secs hs num day vs v := by
  have hne : ∀ i, (w.setCell ⟨b, o, none⟩ u).cell? ⟨cb, i, none⟩ = w.cell? ⟨cb, i, none⟩ := fun i => World.cell?_setCell_other _ _ _ _ (by intro q; injection q; omega)
  exact ⟨(hne 0).trans h.h0, (hne 1).trans h.h1, (hne 2).trans h.h2, (hne 3).trans h.h3, (World.frozen?_setCell ..).trans h.f1, (World.frozen?_setCell ..).trans h.f2, (World.frozen?_setCell ..).trans h.f3, hS, own_kept h.O (grownBy_setCellZ ..) (by omega)⟩
/-- the move that is made, numbered -/
def numbered (R : Reg) (m : Mv) : Mv := { m with num := (R.ms.length : Int) + 1 }
/-- the error of a move of a register -/
def rmE (R : Reg) (m : Mv) : Int := if chkE R = 0 then (if R.ms.length = 400 then 3 else mvE R.secs R.hs (rgDay R) (numbered R m)) else chkE R
/-- the register behind a move, or the empty one -/
def rmR (R : Reg) (m : Mv) : Reg := if rmE R m = 0 then ⟨R.secs, mvH R.hs (numbered R m), R.ms ++ [numbered R m]⟩ else ⟨[], [], []⟩
/-- a register that a function hands back, with an error -/
def GaveR (P : Nat → Prop) (R : Reg) (E : Int) (w : World) (e : Ending) (w' : World) : Prop :=
  ∃ vs vh vm, e = .returned (.tuple #[.agg #[vs, vh, vm], .int .i64 E]) ∧ RgIn P w' vs vh vm R ∧ Below w.heap.size w w'
theorem rgIn_nil (P : Nat → Prop) (w : World) : RgIn P w (.slice none 0 0) (.slice none 0 0) (.slice none 0 0) ⟨[], [], []⟩ := ⟨Sl.nil, Sl.nil, Sl.nil⟩
theorem gave_nil {P : Nat → Prop} {R : Reg} {E k : Int} {w w' : World} (hR : R = ⟨[], [], []⟩) (hE : E = k) (hb : Below w.heap.size w w') : GaveR P R E w (.returned (.tuple #[.agg #[.slice none 0 0, .slice none 0 0, .slice none 0 0], .int .i64 k])) w' := by
  subst hR hE; exact ⟨_, _, _, rfl, rgIn_nil _ _, hb⟩
set_option maxHeartbeats 4000000 in
set_option maxRecDepth 100000 in
theorem rmove_bad (P : Nat → Prop) (vs vh vm : Value) (R : Reg) (mn md mk ms mf mt ma : Int) (w : World) (hr : RgIn P w vs vh vm R) (hS : R.secs.length ≤ 1000000) (hH : R.hs.length ≤ 1000000) (hM : R.ms.length ≤ 1000000) (hP : ∀ b, w.heap.size ≤ b → P b) (hx : chkE R ≠ 0) :
    Calls Tryz.prog 243 #[.agg #[vs, vh, vm], .agg #[.int .i64 mn, .int .i64 md, .int .i64 mk, .int .i64 ms, .int .i64 mf, .int .i64 mt, .int .i64 ma]] w (GaveR P (rmR R ⟨mn, md, mk, ms, mf, mt, ma⟩) (rmE R ⟨mn, md, mk, ms, mf, mt, ma⟩) w) := by
  obtain ⟨a0, n0, c0, rfl, -, -, -⟩ := hr.S.shape
  obtain ⟨a1, n1, c1, rfl, -, -, -⟩ := hr.H.shape
  obtain ⟨a2, n2, c2, rfl, hn2, -, -⟩ := hr.M.shape
  have HC := Lib.hid (fun W hW => check_any P _ _ _ R W (hr.below (w' := W) hW) hS hH hM)
  have HR := Lib.hid hr
  have HN2 := Lib.hid hn2
  obtain ⟨E0, hE0⟩ : ∃ E, chkE R = E := ⟨_, rfl⟩
  obtain ⟨E, hE⟩ : ∃ E, rmE R ⟨mn, md, mk, ms, mf, mt, ma⟩ = E := ⟨_, rfl⟩
  obtain ⟨Q, hQ⟩ : ∃ Q, rmR R ⟨mn, md, mk, ms, mf, mt, ma⟩ = Q := ⟨_, rfl⟩
  have hE2 := hE
  have hQ2 := hQ
  unfold rmE at hE2
  unfold rmR at hQ2
  rw [hE0] at HC hE2
  rw [hE] at hQ2
  rw [hE, hQ]
  have HE := Lib.hid hE2
  have HQ := Lib.hid hQ2
  have HE0 := Lib.hid hE0
  clear hr hE hQ hE2 hQ2 hE0 hn2
  have h0 : E0 ≠ 0 := by rw [← HE0.out]; exact hx
  have g1 : (E0 != 0) = true := by simpa using h0
  have g2 : (E0 == 0) = false := by simpa using h0
  have hf1 : E = E0 := by rw [← HE.out, if_neg h0]
  have hf2 : Q = ⟨[], [], []⟩ := by rw [← HQ.out, if_neg (by rw [hf1]; exact h0)]
  have HF1 := Lib.hid hf1
  have HF2 := Lib.hid hf2
  clear hf1 hf2
  go_enter Tryz.func243, Tryz.ntmps243
  go_wp2_with fail
  refine (HC.out _ (bal (bal (bal brefl _) _) _)).mono ?_
  rintro e w1 ⟨rfl, hb1⟩
  obtain ⟨hc, hf⟩ := bcell hb1
  have hz : w.heap.size + 1 + 1 < w1.heap.size := by have := hb1.size; simp at this; omega
  go_wp2
  refine bodyPost_ret (v := .tuple #[.agg #[.slice none 0 0, .slice none 0 0, .slice none 0 0], .int .i64 E0]) (by simp [results, Tryz.results243, go_sem, hc, hz]) rfl (gave_nil HF2.out HF1.out ?_)
  exact bset3 (bup (bal (bal (bal brefl _) _) _) hb1) (by omega) _ _ _
set_option maxHeartbeats 4000000 in
set_option maxRecDepth 100000 in
theorem rmove_full (P : Nat → Prop) (vs vh vm : Value) (R : Reg) (mn md mk ms mf mt ma : Int) (w : World) (hr : RgIn P w vs vh vm R) (hS : R.secs.length ≤ 1000000) (hH : R.hs.length ≤ 1000000) (hM : R.ms.length ≤ 1000000) (hP : ∀ b, w.heap.size ≤ b → P b) (hx : chkE R = 0) (hy : R.ms.length = 400) :
    Calls Tryz.prog 243 #[.agg #[vs, vh, vm], .agg #[.int .i64 mn, .int .i64 md, .int .i64 mk, .int .i64 ms, .int .i64 mf, .int .i64 mt, .int .i64 ma]] w (GaveR P (rmR R ⟨mn, md, mk, ms, mf, mt, ma⟩) (rmE R ⟨mn, md, mk, ms, mf, mt, ma⟩) w) := by
  obtain ⟨a0, n0, c0, rfl, -, -, -⟩ := hr.S.shape
  obtain ⟨a1, n1, c1, rfl, -, -, -⟩ := hr.H.shape
  obtain ⟨a2, n2, c2, rfl, hn2, -, -⟩ := hr.M.shape
  have HC := Lib.hid (fun W hW => check_any P _ _ _ R W (hr.below (w' := W) hW) hS hH hM)
  have HR := Lib.hid hr
  have HN2 := Lib.hid hn2
  obtain ⟨E0, hE0⟩ : ∃ E, chkE R = E := ⟨_, rfl⟩
  obtain ⟨E, hE⟩ : ∃ E, rmE R ⟨mn, md, mk, ms, mf, mt, ma⟩ = E := ⟨_, rfl⟩
  obtain ⟨Q, hQ⟩ : ∃ Q, rmR R ⟨mn, md, mk, ms, mf, mt, ma⟩ = Q := ⟨_, rfl⟩
  have hE2 := hE
  have hQ2 := hQ
  unfold rmE at hE2
  unfold rmR at hQ2
  rw [hE0] at HC hE2
  rw [hE] at hQ2
  rw [hE, hQ]
  have HE := Lib.hid hE2
  have HQ := Lib.hid hQ2
  have HE0 := Lib.hid hE0
  clear hr hE hQ hE2 hQ2 hE0 hn2
  have h0 : E0 = 0 := by rw [← HE0.out]; exact hx
  subst h0
  have h4 : n2 = 400 := by rw [← HN2.out]; exact hy
  clear hx hy
  have h4' : ((n2 : Int) == 400) = true := by simp; omega
  have H4 := Lib.hid h4
  clear h4
  have hf1 : E = 3 := by rw [← HE.out, if_pos rfl, if_pos (by rw [HN2.out]; exact H4.out)]
  have hf2 : Q = ⟨[], [], []⟩ := by rw [← HQ.out, if_neg (by rw [hf1]; omega)]
  have HF1 := Lib.hid hf1
  have HF2 := Lib.hid hf2
  clear hf1 hf2
  go_enter Tryz.func243, Tryz.ntmps243
  go_wp2_with fail
  refine (HC.out _ (bal (bal (bal brefl _) _) _)).mono ?_
  rintro e w1 ⟨rfl, hb1⟩
  obtain ⟨hc, hf⟩ := bcell hb1
  have hz : w.heap.size + 1 + 1 < w1.heap.size := by have := hb1.size; simp at this; omega
  go_wp2
  refine bodyPost_ret (v := .tuple #[.agg #[.slice none 0 0, .slice none 0 0, .slice none 0 0], .int .i64 3]) (by simp [results, Tryz.results243, go_sem, hc, hz]) rfl (gave_nil HF2.out HF1.out ?_)
  exact bset3 (bup (bal (bal (bal brefl _) _) _) hb1) (by omega) _ _ _
end Go.Proofs.YthjaofgdickkaaaGreat
