/- coupon.plain, coupon.Pending. -/
import Derived.Test.YtmhglabcnimegaaZCpnC
import Derived.Test.YtmhglabcnimegaaZRefN
import Derived.Laws.AppendOwnNone
namespace Go.Proofs.Ytmhglabcnimegaa
open Go.RowKit
set_option linter.unusedVariables false
set_option linter.unusedSimpArgs false
/-- what is due on a day for a holding -/
def plL (x : Sec) (day : Int) (y : Hold) : List Due := ofL (decide (day ∈ daysL x.id x.un x.is x.ma x.ra x.ev)) (decide (day = x.ma)) (ccE x.id x.un x.is x.ma x.ra x.ev y.a) 0 (cpN x.id x.un x.is x.ma x.ra x.ev y.a) y.a day y.s y.h
theorem plL_len (x : Sec) (day : Int) (y : Hold) : (plL x day y).length ≤ 2 := by
  unfold plL ofL
  split
  · rw [List.length_append]
    have h1 := dueL_len day y.s y.h 1 (cpN x.id x.un x.is x.ma x.ra x.ev y.a)
    have h2 := dueL_len day y.s y.h 2 y.a
    split <;> split <;> simp <;> omega
  · simp
theorem own_slice0' {w : World} {base : Nat} {e : TypeId} {z : Nat} {v : Value} {n : Nat} {xs : List Value} (h : w.ownsRow base e z v n xs) : ∃ ao c, v = .slice ao n c := by
  rcases h.2 with ⟨rfl, rfl⟩ | ⟨g, cap, cur, rfl, _⟩
  · exact ⟨_, _, rfl⟩
  · exact ⟨_, _, rfl⟩
/-- what plain leaves -/
def PlW (L : List Due) (w : World) (e : Ending) (w' : World) : Prop := ∃ v, e = .returned v ∧ w'.ownsRow w.heap.size 82 5 v L.length (flatE encDue L) ∧ Below w.heap.size w w'
set_option maxHeartbeats 4000000 in
theorem plain_any (id un is ma ra ev : Int) (ix : Bool) (s h a day : Int) (w : World) :
    Calls Try.prog 112 #[.agg #[.int .i64 id, .int .i64 un, .int .i64 is, .int .i64 ma, .int .i64 ra, .int .i64 ev, .bool ix], .agg #[.int .i64 s, .int .i64 h, .int .i64 a], .int .i64 day] w (PlW (plL ⟨id, un, is, ma, ra, ev, ix⟩ day ⟨s, h, a⟩) w) := by
  obtain ⟨W0, hW0⟩ : ∃ W, W = (w.alloc (.cells #[.int .i64 id, .int .i64 un, .int .i64 is, .int .i64 ma, .int .i64 ra, .int .i64 ev, .bool ix] 41 (0, 0))).alloc (.cells #[.int .i64 s, .int .i64 h, .int .i64 a] 93 (0, 0)) := ⟨_, rfl⟩
  have hz : W0.heap.size = w.heap.size + 1 + 1 := by rw [hW0]; simp
  have hS0 : W0.heap[w.heap.size]? = some (.cells #[.int .i64 id, .int .i64 un, .int .i64 is, .int .i64 ma, .int .i64 ra, .int .i64 ev, .bool ix] 41 (0, 0)) := by rw [hW0]; exact (heap_alloc_old _ _ (by simp)).trans (heap_alloc_new w _)
  have hB0 : Below w.heap.size w W0 := by rw [hW0]; exact bal (bal brefl _) _
  have HK := Lib.hid (cof_any id un is ma ra ev ix s h a day (cpN id un is ma ra ev a) (ccE id un is ma ra ev a) a 0 (.func 151) (.func 152) #[] #[.pointer (some ⟨w.heap.size, 0, none⟩)] #[] #[] W0 _ _ rfl rfl
    (fun U p len c L hU hH hD hO hown hlen hl hzU => by
      have hSU := (hU.block w.heap.size (by omega)).trans hS0
      exact addC_any (W0.heap.size + 1) (W0.heap.size + 1 + 1 + 1) (W0.heap.size + 1 + 1) (W0.heap.size + 1 + 1 + 1 + 1) 1 day s h a p len c L w.heap.size id un is ma ra ev ix U (cell_heap (i := 0) hSU rfl) (cell_heap (i := 1) hSU rfl) (cell_heap (i := 2) hSU rfl) (cell_heap (i := 3) hSU rfl) (cell_heap (i := 4) hSU rfl) (cell_heap (i := 5) hSU rfl) (cell_heap (i := 6) hSU rfl) hH hD hO hown hlen (by omega) hzU (by omega) (by omega) (by omega))
    (fun U p len c L hU hH hD hO hown hlen hl hzU => addP_any (W0.heap.size + 1) (W0.heap.size + 1 + 1 + 1) (W0.heap.size + 1 + 1) (W0.heap.size + 1 + 1 + 1 + 1) 2 day s h a p len c L U hH hD hO hown hlen (by omega) hzU (by omega) (by omega) (by omega)))
  obtain ⟨M, hM⟩ : ∃ M, plL ⟨id, un, is, ma, ra, ev, ix⟩ day ⟨s, h, a⟩ = M := ⟨_, rfl⟩
  rw [hM]
  have hM2 := hM
  unfold plL at hM2
  simp only at hM2
  rw [hM2] at HK
  have HB0 := Lib.hid hB0
  have HZ := Lib.hid hz
  rw [hW0] at HK
  have HW0 := Lib.hid hW0
  clear hM hM2 hW0 hS0 hB0 hz
  go_enter Try.func112, Try.ntmps112
  go_wp2_with fail
  refine HK.out.mono ?_
  rintro e w1 ⟨v, rfl, hown, hb1⟩
  rw [← HW0.out] at hown hb1
  have hv : (∃ ao n c, v = .slice ao n c) := by obtain ⟨ao, c, rfl⟩ := own_slice0' hown; exact ⟨_, _, _, rfl⟩
  obtain ⟨ao, n, c, rfl⟩ := hv
  have HO := Lib.hid (ownsRow_baseZ hown (b' := w.heap.size) (by rw [HZ.out]; omega))
  have HB1 := Lib.hid (HB0.out.trans (hb1.mono (by rw [HZ.out]; omega)))
  clear hown hb1
  go_wp2
  go_ret
  exact ⟨_, rfl, HO.out, HB1.out⟩
def pdE (R : Reg) (day : Int) : Int := if chkE R = 0 then (if inB day 0 35990 = true then 0 else 2) else chkE R
def pdF (R : Reg) (day : Int) (y : Hold) : List Due := match findS R.secs y.s with | some x => plL x day y | none => []
def pdL (R : Reg) (day : Int) : List Due := if pdE R day = 0 then (rgAt R day).flatMap (pdF R day) else []
theorem pdF_len (R : Reg) (day : Int) (y : Hold) : (pdF R day y).length ≤ 2 := by
  unfold pdF
  split
  · exact plL_len ..
  · simp
theorem flat_len {α β : Type} (f : α → List β) (hf : ∀ x, (f x).length ≤ 2) : ∀ L : List α, (L.flatMap f).length ≤ 2 * L.length
  | [] => by simp
  | x :: L => by
    have h1 := flat_len f hf L
    have h2 := hf x
    simp only [List.flatMap_cons, List.length_append, List.length_cons]
    omega
end Go.Proofs.Ytmhglabcnimegaa
