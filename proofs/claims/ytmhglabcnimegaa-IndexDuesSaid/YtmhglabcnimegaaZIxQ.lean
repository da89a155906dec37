/- index.Pending. Printed by wip/gen/ixp.py. -/
import Derived.Test.YtmhglabcnimegaaZIxP
namespace Go.Proofs.Ytmhglabcnimegaa
open Go.RowKit
set_option linter.unusedVariables false
set_option linter.unusedSimpArgs false
/-- what is due of a holding with an index, and the error -/
def ixF (fi : Int) (n : Nat) (xs : Nat → Int) (R : Reg) (day : Int) (y : Hold) : List Due × Int :=
  match findS R.secs y.s with
  | some x => (ofL (decide (day ∈ daysL x.id x.un x.is x.ma x.ra x.ev)) (decide (day = x.ma)) (icE fi n xs x.id x.un x.is x.ma x.ra x.ev x.ix y.a day) (scE fi n xs x.id x.un x.is x.ma x.ra x.ev x.ix y.a x.ma) (icV fi n xs x.id x.un x.is x.ma x.ra x.ev x.ix y.a day) (fnV fi n xs x.id x.un x.is x.ma x.ra x.ev x.ix y.a) day y.s y.h,
      ofE (decide (day ∈ daysL x.id x.un x.is x.ma x.ra x.ev)) (decide (day = x.ma)) (icE fi n xs x.id x.un x.is x.ma x.ra x.ev x.ix y.a day) (scE fi n xs x.id x.un x.is x.ma x.ra x.ev x.ix y.a x.ma))
  | none => ([], 0)
def ixFe (fi : Int) (n : Nat) (xs : Nat → Int) (R : Reg) (day : Int) (H : List Hold) : Int := match H.find? (fun y => decide ((ixF fi n xs R day y).2 ≠ 0)) with | some y => (ixF fi n xs R day y).2 | none => 0
def ipE (fi : Int) (n : Nat) (xs : Nat → Int) (R : Reg) (day : Int) : Int := if ixE fi n xs = 0 then (if pdE R day = 0 then ixFe fi n xs R day (rgAt R day) else pdE R day) else ixE fi n xs
def ipL (fi : Int) (n : Nat) (xs : Nat → Int) (R : Reg) (day : Int) : List Due := if ipE fi n xs R day = 0 then (rgAt R day).flatMap (fun y => (ixF fi n xs R day y).1) else []
theorem ofL_len (b1 b2 : Bool) (EC EP C Q day s h : Int) : (ofL b1 b2 EC EP C Q day s h).length ≤ 2 := by
  unfold ofL
  split
  · rw [List.length_append]
    have h1 := dueL_len day s h 1 C
    have h2 := dueL_len day s h 2 Q
    split <;> split <;> simp <;> omega
  · simp
theorem ixF_len (fi : Int) (n : Nat) (xs : Nat → Int) (R : Reg) (day : Int) (y : Hold) : (ixF fi n xs R day y).1.length ≤ 2 := by
  unfold ixF
  split
  · exact ofL_len ..
  · simp
theorem find_first {α : Type} {p : α → Bool} : ∀ {L : List α} {k : Nat} {x : α}, L[k]? = some x → p x = true → (∀ y ∈ L.take k, p y = false) → L.find? p = some x
  | [], k, x, h, _, _ => by simp at h
  | z :: L, 0, x, h, hp, _ => by
    simp only [List.getElem?_cons_zero, Option.some.injEq] at h
    subst h
    simp [hp]
  | z :: L, k + 1, x, h, hp, hk => by
    simp only [List.getElem?_cons_succ] at h
    rw [List.find?_cons, hk z (by simp)]
    exact find_first h hp (fun y hy => hk y (by simp [hy]))
set_option maxHeartbeats 8000000 in
set_option maxRecDepth 100000 in
theorem ixpending_any (fi : Int) (ao : Option Addr) (n c : Nat) (xs : Nat → Int) (P : Nat → Prop) (vs vh vm : Value) (R : Reg) (day : Int) (w : World) (hI : IxOk w ao n c xs) (hr : RgIn P w vs vh vm R) (hS : R.secs.length ≤ 1000000) (hH : R.hs.length ≤ 1000000) (hM : R.ms.length ≤ 1000000) :
    Calls Try.prog 68 #[.agg #[.int .i64 fi, .slice ao n c], .agg #[vs, vh, vm], .int .i64 day] w (PdW (ipL fi n xs R day) (ipE fi n xs R day) w) := by
  obtain ⟨a0, n0, c0, rfl, -, -, -⟩ := hr.S.shape
  obtain ⟨a1, n1, c1, rfl, -, -, -⟩ := hr.H.shape
  obtain ⟨a2, n2, c2, rfl, -, -, -⟩ := hr.M.shape
  have hI2 := fun U (hU : Below w.heap.size w U) => hI.below hU
  have KX := Lib.hid (fun U (hU : Below w.heap.size w U) => idxcheck_any fi ao n c xs U (hI.below hU))
  have HI := Lib.hid hI2
  have KQ := Lib.hid (fun U (hU : Below w.heap.size w U) => pending_any P _ _ _ R day U (hr.below hU) hS hH hM)
  have hrq := fun U (hU : Below w.heap.size w U) => (hr.below hU).mono (Q := fun _ => True) (fun _ _ _ => trivial)
  have KB := Lib.hid (fun U (hU : Below w.heap.size w U) => rat_any (fun _ => True) _ _ _ R day U (hrq U hU) hS hH hM (fun _ _ => trivial))
  have HR := Lib.hid hr
  obtain ⟨EX, hEX⟩ : ∃ E, ixE fi n xs = E := ⟨_, rfl⟩
  obtain ⟨EQ, hEQ⟩ : ∃ E, pdE R day = E := ⟨_, rfl⟩
  obtain ⟨LQ, hLQ⟩ : ∃ L, pdL R day = L := ⟨_, rfl⟩
  rw [hEX] at KX
  rw [hEQ, hLQ] at KQ
  have HEX := Lib.hid hEX
  have HEQ := Lib.hid hEQ
  clear hr hrq hI2 hI hEX hEQ hLQ
  by_cases hx0 : EX = 0
  case neg =>
    have e1 := Lib.hid (show ipE fi n xs R day = EX by unfold ipE; rw [HEX.out, if_neg hx0])
    have e2 := Lib.hid (show ipL fi n xs R day = [] by unfold ipL; rw [e1.out, if_neg hx0])
    have g1 : (EX == 0) = false := by simpa using hx0
    go_enter Try.func68, Try.ntmps68
    go_wp2_with fail
    refine (KX.out _ (bal (bal (bal brefl _) _) _)).mono ?_
    rintro e w1 ⟨rfl, hb1⟩
    go_wp2
    go_ret2
    exact pdW_nil e2.out e1.out (bup (bal (bal (bal brefl _) _) _) hb1)
  subst hx0
  obtain ⟨W0, hW0⟩ : ∃ W, W = ((w.alloc (.cells #[.int .i64 fi, .slice ao n c] 95 (0, 0))).alloc (.cells #[.slice a0 n0 c0, .slice a1 n1 c1, .slice a2 n2 c2] 29 (0, 0))).alloc (.cells #[.int .i64 day] 3 (0, 0)) := ⟨_, rfl⟩
  have hz0 : W0.heap.size = w.heap.size + 1 + 1 + 1 := by rw [hW0]; simp
  have BX0 : W0.heap[w.heap.size]? = some (.cells #[.int .i64 fi, .slice ao n c] 95 (0, 0)) := by rw [hW0]; exact (heap_alloc_old _ _ (by simp <;> omega)).trans ((heap_alloc_old _ _ (by simp)).trans (heap_alloc_new w _))
  have BR0 : W0.heap[w.heap.size + 1]? = some (.cells #[.slice a0 n0 c0, .slice a1 n1 c1, .slice a2 n2 c2] 29 (0, 0)) := by rw [hW0]; exact (heap_alloc_old _ _ (by simp)).trans (heap_at (by simp))
  have BD0 : W0.heap[w.heap.size + 1 + 1]? = some (.cells #[.int .i64 day] 3 (0, 0)) := by rw [hW0]; exact heap_at (by simp)
  have hBW0 : Below w.heap.size w W0 := by rw [hW0]; exact bal (bal (bal brefl _) _) _
  have HZ0 := Lib.hid hz0
  have HBX0 := Lib.hid BX0
  have HBR0 := Lib.hid BR0
  have HBD0 := Lib.hid BD0
  have HBW0 := Lib.hid hBW0
  have HW0 := Lib.hid hW0
  clear hz0 BX0 BR0 BD0 hBW0 hW0
  have ENTER : True := trivial
  by_cases hq0 : EQ = 0
  case neg =>
    have e1 := Lib.hid (show ipE fi n xs R day = EQ by unfold ipE; rw [HEX.out, if_pos rfl, HEQ.out, if_neg hq0])
    have e2 := Lib.hid (show ipL fi n xs R day = [] by unfold ipL; rw [e1.out, if_neg hq0])
    have g1 : (EQ == 0) = false := by simpa using hq0
    go_enter Try.func68, Try.ntmps68
    go_wp2_with fail
    rw [← HW0.out]
    refine (KX.out _ HBW0.out).mono ?_
    rintro e w1 ⟨rfl, hb1⟩
    have HB1 := Lib.hid (bup HBW0.out hb1)
    have hzz := hb1.size
    rw [HZ0.out] at hzz
    have hzw := HZ0.out
    have HX1 := Lib.hid ((hb1.block w.heap.size (by omega)).trans HBX0.out)
    have HR1 := Lib.hid ((hb1.block (w.heap.size + 1) (by omega)).trans HBR0.out)
    have HD1 := Lib.hid ((hb1.block (w.heap.size + 1 + 1) (by omega)).trans HBD0.out)
    have r0 := cell_heap (i := 0) HR1.out rfl
    have r1 := cell_heap (i := 1) HR1.out rfl
    have r2 := cell_heap (i := 2) HR1.out rfl
    have dd := cell_heap (i := 0) HD1.out rfl
    clear hb1 hzw
    go_wp2_with fail
    refine (KQ.out _ HB1.out).mono ?_
    rintro e w2 ⟨v2, rfl, hown2, hb2⟩
    obtain ⟨fo, fc, rfl⟩ := own_slice0' hown2
    go_wp2
    go_ret2
    exact pdW_nil e2.out e1.out (bup HB1.out hb2)
  subst hq0
  have hok : RgOk R := by
    have := HEQ.out
    unfold pdE at this
    by_cases hc : chkE R = 0
    · exact chkE_iff.1 hc
    · rw [if_neg hc] at this; exact absurd this hc
  have hal := at_len hok day
  have HAF := Lib.hid (at_find hok day)
  have e1 := Lib.hid (show ipE fi n xs R day = ixFe fi n xs R day (rgAt R day) by unfold ipE; rw [HEX.out, if_pos rfl, HEQ.out, if_pos rfl])
  have e2 := Lib.hid (show ipL fi n xs R day = if ixFe fi n xs R day (rgAt R day) = 0 then (rgAt R day).flatMap (fun y => (ixF fi n xs R day y).1) else [] by unfold ipL; rw [e1.out])
  obtain ⟨H, hHH⟩ : ∃ H, rgAt R day = H := ⟨_, rfl⟩
  rw [hHH] at KB e1 e2 hal HAF
  obtain ⟨i1, hi, hz0, hz1, hz2⟩ := info_parts infoDue
  clear hHH hok
  rw [e1.out, e2.out]
  obtain ⟨EE, hEE⟩ : ∃ E, ixFe fi n xs R day H = E := ⟨_, rfl⟩
  obtain ⟨LL, hLL⟩ : ∃ L, (if ixFe fi n xs R day H = 0 then H.flatMap (fun y => (ixF fi n xs R day y).1) else []) = L := ⟨_, rfl⟩
  rw [hLL, hEE]
  rw [hEE] at hLL
  have HEE := Lib.hid hEE
  have HLL := Lib.hid hLL
  clear hEE hLL e1 e2
  go_enter Try.func68, Try.ntmps68
  go_wp2_with fail
  rw [← HW0.out]
  refine (KX.out _ HBW0.out).mono ?_
  rintro e w1 ⟨rfl, hb1⟩
  have HB1 := Lib.hid (bup HBW0.out hb1)
  have hzz := hb1.size
  rw [HZ0.out] at hzz
  have hzw := HZ0.out
  have HX1 := Lib.hid ((hb1.block w.heap.size (by omega)).trans HBX0.out)
  have HR1 := Lib.hid ((hb1.block (w.heap.size + 1) (by omega)).trans HBR0.out)
  have HD1 := Lib.hid ((hb1.block (w.heap.size + 1 + 1) (by omega)).trans HBD0.out)
  have r0 := cell_heap (i := 0) HR1.out rfl
  have r1 := cell_heap (i := 1) HR1.out rfl
  have r2 := cell_heap (i := 2) HR1.out rfl
  have dd := cell_heap (i := 0) HD1.out rfl
  clear hb1 hzw
  go_wp2_with fail
  refine (KQ.out _ HB1.out).mono ?_
  rintro e w1' ⟨v2, rfl, hown2, hbq⟩
  obtain ⟨fo, fc, rfl⟩ := own_slice0' hown2
  have HB1' := Lib.hid (bup HB1.out hbq)
  have hzq := hbq.size
  have HX1' := Lib.hid ((hbq.block w.heap.size (by omega)).trans HX1.out)
  have HR1' := Lib.hid ((hbq.block (w.heap.size + 1) (by omega)).trans HR1.out)
  have HD1' := Lib.hid ((hbq.block (w.heap.size + 1 + 1) (by omega)).trans HD1.out)
  clear hown2 hbq r0 r1 r2 dd
  have r0 := cell_heap (i := 0) HR1'.out rfl
  have r1 := cell_heap (i := 1) HR1'.out rfl
  have r2 := cell_heap (i := 2) HR1'.out rfl
  have dd := cell_heap (i := 0) HD1'.out rfl
  go_wp2_with fail
  refine (KB.out _ HB1'.out).mono ?_
  rintro e w2 ⟨v2, rfl, hS2, hb2⟩
  obtain ⟨ho, hn, hc, rfl, hhn, -, -⟩ := hS2.shape
  have HS2 := Lib.hid hS2
  have HHN := Lib.hid hhn
  have hn8 : hn ≤ 800 := by omega
  have HB2 := Lib.hid (bup HB1'.out hb2)
  have hzz2 := hb2.size
  have HX2 := Lib.hid ((hb2.block w.heap.size (by omega)).trans HX1'.out)
  have HR2 := Lib.hid ((hb2.block (w.heap.size + 1) (by omega)).trans HR1'.out)
  have HD2 := Lib.hid ((hb2.block (w.heap.size + 1 + 1) (by omega)).trans HD1'.out)
  have hz2' : w.heap.size + 1 + 1 + 1 ≤ w2.heap.size := by omega
  clear hS2 hhn hb2 r0 r1 r2 dd hal
  go_wp2
  go_loopw [11, 36] (fun v iv wr => ∃ k : Nat, k ≤ hn ∧ iv = .int .i64 k ∧ (∀ y ∈ H.take k, (ixF fi n xs R day y).2 = 0) ∧ wr.ownsRow w2.heap.size 82 5 v ((H.take k).flatMap (fun y => (ixF fi n xs R day y).1)).length (flatE encDue ((H.take k).flatMap (fun y => (ixF fi n xs R day y).1))) ∧ Below w2.heap.size w2 wr) (fun _ iv _ => hn - (intOf iv).toNat)
  case atStart => exact ⟨0, by omega, rfl, by simp, World.ownsRow_nil _ _ _ _, brefl⟩
  case round =>
    obtain ⟨k, hk, rfl, hall, hown, hbr⟩ := hrel
    have HALL := Lib.hid hall
    have HO := Lib.hid hown
    have HBR := Lib.hid hbr
    have HBr := Lib.hid (bup HB2.out hbr)
    have zr := hbr.size
    have HXr := Lib.hid ((hbr.block w.heap.size (by omega)).trans HX2.out)
    have HRr := Lib.hid ((hbr.block (w.heap.size + 1) (by omega)).trans HR2.out)
    have HDr := Lib.hid ((hbr.block (w.heap.size + 1 + 1) (by omega)).trans HD2.out)
    clear hall
    by_cases hlt : k < hn
    · obtain ⟨b, off, s, h, a, rfl, -, hbl, hx, k0, k1, k2⟩ := (HS2.out.below hbr).hold hlt
      obtain ⟨x, hfx⟩ := HAF.out _ (List.mem_of_getElem? hx)
      simp only at hfx
      obtain ⟨id, un, is, ma, ra, ev, ix⟩ := x
      obtain ⟨q1, hq1⟩ : ∃ b, decide (day ∈ daysL id un is ma ra ev) = b := ⟨_, rfl⟩
      obtain ⟨q2, hq2⟩ : ∃ b, decide (day = ma) = b := ⟨_, rfl⟩
      obtain ⟨M, hM⟩ : ∃ M, ofL q1 q2 (icE fi n xs id un is ma ra ev ix a day) (scE fi n xs id un is ma ra ev ix a ma) (icV fi n xs id un is ma ra ev ix a day) (fnV fi n xs id un is ma ra ev ix a) day s h = M := ⟨_, rfl⟩
      obtain ⟨ME, hME⟩ : ∃ E, ofE q1 q2 (icE fi n xs id un is ma ra ev ix a day) (scE fi n xs id un is ma ra ev ix a ma) = E := ⟨_, rfl⟩
      have hF : ixF fi n xs R day ⟨s, h, a⟩ = (M, ME) := by unfold ixF; simp only; rw [hfx]; simp only; rw [hq1, hq2, hM, hME]
      have hMl : M.length ≤ 2 := by rw [← hM]; exact ofL_len ..
      have hsn : (H.take (k + 1)).flatMap (fun y => (ixF fi n xs R day y).1) = (H.take k).flatMap (fun y => (ixF fi n xs R day y).1) ++ M := by rw [take_snocZ hx, List.flatMap_append]; simp [hF]
      have hLl := flat_len (fun y => (ixF fi n xs R day y).1) (ixF_len fi n xs R day) (H.take k)
      have htk : (H.take k).length ≤ k := by rw [List.length_take]; omega
      obtain ⟨L, hL⟩ : ∃ L, (H.take k).flatMap (fun y => (ixF fi n xs R day y).1) = L := ⟨_, rfl⟩
      rw [hL] at hLl hsn HO
      have HSN := Lib.hid hsn
      have HF := Lib.hid hF
      have HXX := Lib.hid hx
      have hLl2 : L.length ≤ 1600 := by omega
      have s0 := cell_heap (i := 0) HRr.out rfl
      have s1 := cell_heap (i := 1) HRr.out rfl
      have s2 := cell_heap (i := 2) HRr.out rfl
      have hne : w.heap.size + 1 < wr.heap.size := World.block_lt_of_cell? _ _ s0
      have hneD : w.heap.size + 1 + 1 < wr.heap.size := by omega
      have KF := Lib.hid (rfind_yes P _ _ _ R s id un is ma ra ev ix (wr.alloc (.cells #[.int .i64 s, .int .i64 h, .int .i64 a] 93)) (HR.out.below (bal HBr.out _)) hS hfx)
      have HQ := Lib.hid (And.intro hq1 (And.intro hq2 (And.intro hM hME)))
      clear hown hbr hx hfx hF hM hME hsn hL hLl htk hq1 hq2
      go_wp2_with fail
      refine KF.out.mono ?_
      rintro e w3 ⟨rfl, hb3⟩
      have z3 := hb3.size
      simp only [World.size_alloc] at z3
      have hlt3 : wr.heap.size < w3.heap.size := by omega
      obtain ⟨W3, hW3⟩ : ∃ W, W = w3.alloc (.cells #[.int .i64 id, .int .i64 un, .int .i64 is, .int .i64 ma, .int .i64 ra, .int .i64 ev, .bool ix] 41 (0, 0)) := ⟨_, rfl⟩
      have hb3W : Below (wr.alloc (.cells #[.int .i64 s, .int .i64 h, .int .i64 a] 93 (0, 0))).heap.size (wr.alloc (.cells #[.int .i64 s, .int .i64 h, .int .i64 a] 93 (0, 0))) W3 := by rw [hW3]; exact bal hb3 _
      have hz3W : W3.heap.size = w3.heap.size + 1 := by rw [hW3]; simp
      have hTS : W3.heap[w3.heap.size]? = some (.cells #[.int .i64 id, .int .i64 un, .int .i64 is, .int .i64 ma, .int .i64 ra, .int .i64 ev, .bool ix] 41 (0, 0)) := by rw [hW3]; exact heap_alloc_new w3 _
      have hTH : W3.heap[wr.heap.size]? = some (.cells #[.int .i64 s, .int .i64 h, .int .i64 a] 93 (0, 0)) := (hb3W.block wr.heap.size (by simp)).trans (heap_alloc_new wr _)
      have hTX := (hb3W.block w.heap.size (by simp; omega)).trans ((heap_alloc_old _ _ (by omega)).trans HXr.out)
      have hTD := (hb3W.block (w.heap.size + 1 + 1) (by simp; omega)).trans ((heap_alloc_old _ _ (by omega)).trans HDr.out)
      have HB3 := Lib.hid (bup (bal HBR.out _) hb3W)
      have HB3w := Lib.hid (bup (bal HBr.out _) hb3W)
      have HO3 := Lib.hid (ownsRow_belowZ (HO.out.alloc (.cells #[.int .i64 s, .int .i64 h, .int .i64 a] 93 (0, 0))) hb3W)
      have hKO := cof_any id un is ma ra ev ix s h a day (icV fi n xs id un is ma ra ev ix a day) (icE fi n xs id un is ma ra ev ix a day) (fnV fi n xs id un is ma ra ev ix a) (scE fi n xs id un is ma ra ev ix a ma) (.func 129) (.func 131) #[] #[.pointer (some ⟨w.heap.size, 0, none⟩), .pointer (some ⟨w3.heap.size, 0, none⟩), .pointer (some ⟨w.heap.size + 1 + 1, 0, none⟩)] #[] #[.pointer (some ⟨w.heap.size, 0, none⟩), .pointer (some ⟨w3.heap.size, 0, none⟩)] W3 q1 q2 HQ.out.1 HQ.out.2.1
        (fun U p len cc LL hU hH hD hO hown hlen hl hzU => addX_any (W3.heap.size + 1) (W3.heap.size + 1 + 1 + 1) (W3.heap.size + 1 + 1) (W3.heap.size + 1 + 1 + 1 + 1) 1 day s h a p len cc LL w.heap.size w3.heap.size (w.heap.size + 1 + 1) _ _ U (ip1_any w.heap.size w3.heap.size (w.heap.size + 1 + 1) fi ao n c xs a day id un is ma ra ev ix U (HI.out U (bup HB3w.out hU)) ((hU.block w.heap.size (by omega)).trans hTX) ((hU.block w3.heap.size (by omega)).trans hTS) ((hU.block (w.heap.size + 1 + 1) (by omega)).trans hTD)) hH hD hO hown hlen (by omega) hzU (by omega) (by omega) (by omega))
        (fun U p len cc LL hU hH hD hO hown hlen hl hzU => addY_any (W3.heap.size + 1) (W3.heap.size + 1 + 1 + 1) (W3.heap.size + 1 + 1) (W3.heap.size + 1 + 1 + 1 + 1) 2 day s h a p len cc LL w.heap.size w3.heap.size _ _ U (ip2_any w.heap.size w3.heap.size fi ao n c xs a id un is ma ra ev ix U (HI.out U (bup HB3w.out hU)) ((hU.block w.heap.size (by omega)).trans hTX) ((hU.block w3.heap.size (by omega)).trans hTS)) hH hD hO hown hlen (by omega) hzU (by omega) (by omega) (by omega))
      rw [HQ.out.2.2.1, HQ.out.2.2.2] at hKO
      have KO := Lib.hid hKO
      have c0' := cell_heap (i := 0) hTS rfl
      have c1' := cell_heap (i := 1) hTS rfl
      have c2' := cell_heap (i := 2) hTS rfl
      have c3' := cell_heap (i := 3) hTS rfl
      have c4' := cell_heap (i := 4) hTS rfl
      have c5' := cell_heap (i := 5) hTS rfl
      have c6' := cell_heap (i := 6) hTS rfl
      have h0' := cell_heap (i := 0) hTH rfl
      have h1' := cell_heap (i := 1) hTH rfl
      have h2' := cell_heap (i := 2) hTH rfl
      have d0' := cell_heap (i := 0) hTD rfl
      have HW3 := Lib.hid hW3
      clear hb3 hb3W hTS hTH hTX hTD hKO k0 k1 k2 s0 s1 s2 hW3 hz3W
      go_upto_region 12 with fail
      rw [← HW3.out]
      clear HW3
      go_wp2_with fail
      refine KO.out.mono ?_
      rintro e w4 ⟨v4, rfl, hown4, hb4⟩
      obtain ⟨vo, vc, hv4⟩ := own_slice0' hown4
      have z4 := hb4.size
      have HB4 := Lib.hid (bup HB3.out hb4)
      have HB4w := Lib.hid (bup HB3w.out hb4)
      have hO4 := ownsRow_belowZ HO3.out hb4
      have hB4z : w2.heap.size ≤ w4.heap.size := HB4.out.size
      have H4 := Lib.hid hown4
      clear c0' c1' c2' c3' c4' c5' c6' h0' h1' h2' d0' hb4
      by_cases hme : ME = 0
      · subst hme
        have hstep := Lib.hid (show ∀ y ∈ H.take (k + 1), (ixF fi n xs R day y).2 = 0 from fun y hy => by
          rw [take_snocZ HXX.out] at hy
          rcases List.mem_append.1 hy with hy | hy
          · exact HALL.out y hy
          · rw [List.mem_singleton.1 hy, HF.out])
        clear hv4
        rcases hown4.2 with ⟨rfl, hM0⟩ | ⟨g, cap, cur, rfl, -⟩
        · have hMn : M = [] := List.eq_nil_of_length_eq_zero hM0
          subst hMn
          clear hown4 hM0
          go_wp2_with (at_builtin; go_must (refine wpList_append_own_none rfl _ _ 78 rfl w2.heap.size 82 i1 5 Try.underlying78 hi _ L.length (flatE encDue L) rfl hO4 rfl ?_))
          go_wp2
          go_roundw
          case rel => exact ⟨k + 1, by omega, by go_num, hstep.out, by rw [HSN.out, List.append_nil]; exact hO4, HB4.out⟩
          case measure => simp [intOf]; omega
        · have hcells := flatE_cells2 H4.out
          clear hown4
          go_wp2_with (at_builtin; go_must (refine wpList_append_own _ rfl _ _ 78 rfl w2.heap.size 82 i1 (.agg #[.int .i64 0, .int .i64 0, .int .i64 0, .int .i64 0, .int .i64 0]) 5 40 Try.underlying78 hi hz0 hz1 hz2 rfl (by decide) _ L.length (flatE encDue L) rfl hO4 ⟨g, 0, none⟩ M.length cap (flatE encDue M) rfl (flatE_length encDue_len M) hcells (oneE oneDue M) (by unfold maxLen; omega) (by omega) hB4z ?_); intro v5 w5 hown5 hg5 _)
          have HB5 := Lib.hid (HB4.out.grown hg5 hB4z (fun q hq => (hO4.lt q hq).1))
          go_wp2
          go_roundw
          case rel => exact ⟨k + 1, by omega, by go_num, hstep.out, by rw [HSN.out, List.length_append, flatE_append]; exact hown5, HB5.out⟩
          case measure => simp [intOf]; omega
      · have g1 : (ME == 0) = false := by simpa using hme
        have hff := Lib.hid (show EE = ME by
          rw [← HEE.out]
          unfold ixFe
          rw [find_first HXX.out (by rw [HF.out]; simpa using hme) (fun y hy => by simpa using HALL.out y hy)]
          simp only
          rw [HF.out])
        have hll := Lib.hid (show LL = [] by rw [← HLL.out, hff.out, if_neg hme])
        subst hv4
        clear hown4 hO4
        go_wp2
        go_ret2
        exact pdW_nil hll.out hff.out HB4w.out
    · have hkn : k = hn := by omega
      subst hkn
      have hta : H.take k = H := take_all (by have := HHN.out; omega)
      rw [hta] at HO HALL
      have hff := Lib.hid (show EE = 0 by
        rw [← HEE.out]
        unfold ixFe
        have : H.find? (fun y => decide ((ixF fi n xs R day y).2 ≠ 0)) = none := by
          rw [List.find?_eq_none]
          intro y hy
          simpa using HALL.out y hy
        rw [this])
      have hll := Lib.hid (show LL = H.flatMap (fun y => (ixF fi n xs R day y).1) by rw [← HLL.out, hff.out, if_pos rfl])
      have HO2 := Lib.hid (ownsRow_baseZ HO.out (b' := w.heap.size) (by omega))
      obtain ⟨fo', fc', rfl⟩ := own_slice0' hown
      clear hown hta hbr
      go_wp2
      go_ret2
      rw [hff.out, hll.out]
      exact ⟨_, rfl, HO2.out, HBr.out⟩
end Go.Proofs.Ytmhglabcnimegaa
