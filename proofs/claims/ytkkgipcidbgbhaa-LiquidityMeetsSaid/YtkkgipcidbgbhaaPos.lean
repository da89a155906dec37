/- Slices of positions: contracts of the tests on them. Printed by wip/gen/pos.py. -/
import Derived.Test.YtkkgipcidbgbhaaLiq
import Derived.Test.YtkkgipcidbgbhaaSl
import Derived.Test.YtkkgipcidbgbhaaFst
namespace Go.Proofs.Ytkkgipcidbgbhaa
open Go.RowKit
set_option linter.unusedVariables false

/-- a slice of structs that lies in w, its fields by families -/
def PosAt (w : World) (ao : Option Addr) (n c : Nat) (d : Nat → Int) (a : Nat → Int) : Prop :=
  n ≤ c ∧ c ≤ maxLen ∧ (n = 0 ∨ ∃ b off, ao = some ⟨b, off, none⟩ ∧ ∀ j, j < n → w.cell? ⟨b, off + j * 2, none⟩ = some (.int .i64 (d j)) ∧ w.cell? ⟨b, off + j * 2 + 1, none⟩ = some (.int .i64 (a j)))
theorem PosAt.at_ {w : World} {ao : Option Addr} {n c : Nat} {d : Nat → Int} {a : Nat → Int} (h : PosAt w ao n c d a) (hn : n ≠ 0) : ∃ b off, ao = some ⟨b, off, none⟩ ∧ ∀ j, j < n → w.cell? ⟨b, off + j * 2, none⟩ = some (.int .i64 (d j)) ∧ w.cell? ⟨b, off + j * 2 + 1, none⟩ = some (.int .i64 (a j)) := by
  rcases h.2.2 with h | h
  · exact absurd h hn
  · exact h
theorem PosAt.below {w w' : World} {ao : Option Addr} {n c : Nat} {d : Nat → Int} {a : Nat → Int} (h : PosAt w ao n c d a) (hb : Below w.heap.size w w') : PosAt w' ao n c d a := by
  obtain ⟨h1, h2, h3⟩ := h
  refine ⟨h1, h2, ?_⟩
  rcases h3 with h3 | ⟨b, off, k1, k2⟩
  · exact .inl h3
  · refine .inr ⟨b, off, k1, fun j hj => ?_⟩
    have q := k2 j hj
    have hlt := World.block_lt_of_cell? w _ q.1
    exact ⟨(hb.cell (by exact hlt)).trans q.1, (hb.cell (by exact hlt)).trans q.2⟩
theorem PosAt.alloc {w : World} {ao : Option Addr} {n c : Nat} {d : Nat → Int} {a : Nat → Int} (h : PosAt w ao n c d a) (o : Obj) : PosAt (w.alloc o) ao n c d a := h.below ((Below.refl _ _).alloc (Nat.le_refl _) _)
theorem ltotal_any (d a : Int) (w : World) : Calls Try.prog 55 #[.agg #[.int .i64 d, .int .i64 a]] w fun e w' => e = .returned (.bool (inB a (-1000000000000000) 1000000000000000)) ∧ Below w.heap.size w w' := by
  go_enter Try.func55, Try.ntmps55
  go_wp2_with (go_at_call 46; refine (total_any _ _).mono ?_; rintro e w' ⟨rfl, rfl⟩)
  go_ret
  exact ⟨rfl, (Below.refl _ _).alloc (Nat.le_refl _) _⟩
theorem positionDay_any (d a : Int) (w : World) : Calls Try.prog 61 #[.agg #[.int .i64 d, .int .i64 a]] w fun e w' => e = .returned (.int .i64 d) ∧ Below w.heap.size w w' := by
  go_enter Try.func61, Try.ntmps61
  go_wp2
  go_ret
  exact ⟨rfl, (Below.refl _ _).alloc (Nat.le_refl _) _⟩
theorem below_box {w w1 : World} {o : Obj} (h : Below (w.alloc o).heap.size (w.alloc o) w1) : Below w.heap.size w w1 := ((Below.refl _ _).alloc (Nat.le_refl _) _).trans (h.mono (by simp))
theorem chk1_any (d a : Int) (w : World) : Calls Try.prog 81 #[.agg #[.int .i64 d, .int .i64 a]] w fun e w' => e = .returned (.bool (!inB a (-1000000000000000) 1000000000000000)) ∧ Below w.heap.size w w' := by
  go_enter Try.func81, Try.ntmps81
  go_wp2_with fail
  refine (ltotal_any _ _ _).mono ?_
  rintro e w1 ⟨rfl, hb⟩
  go_wp2
  go_ret
  exact ⟨rfl, below_box hb⟩
set_option maxHeartbeats 1000000 in
theorem posBad_idx (ao : Option Addr) (n c : Nat) (d : Nat → Int) (a : Nat → Int)  (w : World) (hn : n ≤ 1000000) (h : PosAt w ao n c d a) :
    Calls Try.prog 82 #[.slice ao n c, .func (.func 81) #[] #[]] w fun e w' => e = .returned (.int .i64 (fstI (fun j => !inB (a j) (-1000000000000000) 1000000000000000) n)) ∧ Below w.heap.size w w' := by
  have H := Lib.hid h
  clear h
  go_enter Try.func82, Try.ntmps82
  go_wp2
  go_loopw [8] (fun iv wr => ∃ k : Nat, k ≤ n ∧ iv = .int .i64 k ∧ (∀ j, j < k → (fun j => !inB (a j) (-1000000000000000) 1000000000000000) j = false) ∧ Below w.heap.size w wr) (fun iv _ => n - (intOf iv).toNat)
  case atStart => exact ⟨0, by omega, rfl, by omega, Below.refl _ _⟩
  case round =>
    obtain ⟨k, hk, rfl, hall, hbr⟩ := hrel
    have HA := Lib.hid hall
    clear hall
    by_cases hlt : k < n
    · obtain ⟨b, off, rfl, hc⟩ := (H.out.below hbr).at_ (by omega)
      have hck := hc k hlt
      obtain ⟨vd, hvd⟩ : ∃ x, d k = x := ⟨_, rfl⟩
      obtain ⟨va, hva⟩ : ∃ x, a k = x := ⟨_, rfl⟩
      rw [hvd, hva] at hck
      have HX := Lib.hid (And.intro hvd hva)
      obtain ⟨k0, k1⟩ := hck
      clear hc hvd hva
      obtain ⟨pb, hpb⟩ : ∃ x, (!inB (va) (-1000000000000000) 1000000000000000) = x := ⟨_, rfl⟩
      have HP := Lib.hid (show (fun j => !inB (a j) (-1000000000000000) 1000000000000000) k = pb by simp only [HX.out.2]; exact hpb)
      have HPB := Lib.hid hpb
      clear hpb
      have zr := hbr.size
      cases pb
      · have hstep := Lib.hid (show ∀ j, j < k + 1 → (fun j => !inB (a j) (-1000000000000000) 1000000000000000) j = false from fun j hj => by
          rcases Nat.lt_or_ge j k with h | h
          · exact HA.out j h
          · rw [show j = k by omega]; exact HP.out)
        go_wp2_with fail
        refine (chk1_any _ _ _).mono ?_
        rw [HPB.out]
        rintro e w' ⟨rfl, hb'⟩
        have hB' := Below.trans hbr (Below.mono hb' zr)
        clear hb'
        go_wp2
        go_roundw
        case rel => exact ⟨k + 1, by omega, by go_num, hstep.out, hB'⟩
        case measure => simp [intOf]; omega
      · have hfin := Lib.hid (fstI_some (p := (fun j => !inB (a j) (-1000000000000000) 1000000000000000)) hlt HP.out HA.out)
        go_wp2_with fail
        refine (chk1_any _ _ _).mono ?_
        rw [HPB.out]
        rintro e w' ⟨rfl, hb'⟩
        have hB' := Below.trans hbr (Below.mono hb' zr)
        clear hb'
        go_wp2
        go_ret
        exact ⟨ret_int hfin.out.symm, hB'⟩
    · have hfin := Lib.hid (fstI_none (p := (fun j => !inB (a j) (-1000000000000000) 1000000000000000)) (n := n) (fun j hj => HA.out j (by omega)))
      go_wp2
      go_ret
      exact ⟨ret_int hfin.out.symm, hbr⟩
theorem posBad_any (ao : Option Addr) (n c : Nat) (d : Nat → Int) (a : Nat → Int)  (w : World) (hn : n ≤ 1000000) (h : PosAt w ao n c d a) :
    Calls Try.prog 53 #[.slice ao n c, .func (.func 81) #[] #[]] w fun e w' => e = .returned (.bool (anyB (fun j => !inB (a j) (-1000000000000000) 1000000000000000) n)) ∧ Below w.heap.size w w' := by
  have hf := fstI_any (fun j => !inB (a j) (-1000000000000000) 1000000000000000) n
  obtain ⟨i, hi⟩ : ∃ i, fstI (fun j => !inB (a j) (-1000000000000000) 1000000000000000) n = i := ⟨_, rfl⟩
  rw [← hf, hi]
  have H := Lib.hid h
  have HI := Lib.hid hi
  clear h hf hi
  go_enter Try.func53, Try.ntmps53
  go_wp2_with fail
  refine (posBad_idx ao n c d a  w hn H.out).mono ?_
  rw [HI.out]
  rintro e w' ⟨rfl, hb'⟩
  go_wp2
  go_ret
  exact ⟨rfl, hb'⟩
/-- a slice of structs that lies in w, its fields by families -/
def IntAt (w : World) (ao : Option Addr) (n c : Nat) (x : Nat → Int) : Prop :=
  n ≤ c ∧ c ≤ maxLen ∧ (n = 0 ∨ ∃ b off, ao = some ⟨b, off, none⟩ ∧ ∀ j, j < n → w.cell? ⟨b, off + j, none⟩ = some (.int .i64 (x j)))
theorem IntAt.at_ {w : World} {ao : Option Addr} {n c : Nat} {x : Nat → Int} (h : IntAt w ao n c x) (hn : n ≠ 0) : ∃ b off, ao = some ⟨b, off, none⟩ ∧ ∀ j, j < n → w.cell? ⟨b, off + j, none⟩ = some (.int .i64 (x j)) := by
  rcases h.2.2 with h | h
  · exact absurd h hn
  · exact h
theorem IntAt.below {w w' : World} {ao : Option Addr} {n c : Nat} {x : Nat → Int} (h : IntAt w ao n c x) (hb : Below w.heap.size w w') : IntAt w' ao n c x := by
  obtain ⟨h1, h2, h3⟩ := h
  refine ⟨h1, h2, ?_⟩
  rcases h3 with h3 | ⟨b, off, k1, k2⟩
  · exact .inl h3
  · refine .inr ⟨b, off, k1, fun j hj => ?_⟩
    have q := k2 j hj
    have hlt := World.block_lt_of_cell? w _ q
    exact (hb.cell (by exact hlt)).trans q
theorem IntAt.alloc {w : World} {ao : Option Addr} {n c : Nat} {x : Nat → Int} (h : IntAt w ao n c x) (o : Obj) : IntAt (w.alloc o) ao n c x := h.below ((Below.refl _ _).alloc (Nat.le_refl _) _)
theorem ownsRow_below {w w' : World} {base : Nat} {e : TypeId} {size : Nat} {v : Value} {n : Nat} {xs : List Value} (h : w.ownsRow base e size v n xs) (hb : Below w.heap.size w w') : w'.ownsRow base e size v n xs := by
  refine ⟨h.1, ?_⟩
  rcases h.2 with hn | ⟨g, cap, cur, rfl, hbg, hgg, rest⟩
  · exact .inl hn
  · exact .inr ⟨g, cap, cur, rfl, hbg, (hb.block g (Array.getElem?_eq_some_iff.1 hgg).1).trans hgg, rest⟩
theorem intAt_own {w : World} {base : Nat} {e : TypeId} {v : Value} {n : Nat} {x : Nat → Int} (h : w.ownsRow base e 1 v n ((List.range n).map fun j => Value.int .i64 (x j))) : ∃ ao c, v = .slice ao n c ∧ IntAt w ao n c x := by
  rcases Nat.eq_zero_or_pos n with h0 | h0
  · rcases h.2 with ⟨rfl, rfl⟩ | ⟨g, cap, cur, rfl, hbg, hg, hnc, hcm, hcs, htake⟩
    · exact ⟨none, 0, rfl, Nat.le_refl _, Nat.zero_le _, .inl rfl⟩
    · exact ⟨_, cap, rfl, hnc, hcm, .inl h0⟩
  · obtain ⟨g, cap, hv, hg, hg2, hc1, hc2, hcell, _⟩ := own_shape h h0
    refine ⟨_, cap, hv, hc1, hc2, .inr ⟨g, 0, rfl, fun j hj => ?_⟩⟩
    rw [Nat.zero_add]
    exact hcell j _ (by simp [List.getElem?_range hj])
theorem calvalid_any (n : Int) (w : World) : Calls Try.prog 83 #[.int .i64 n] w fun e w' => e = .returned (.bool (inB n 0 36000)) ∧ w = w' := by
  go_enter Try.func83, Try.ntmps83
  go_wp2
  all_goals (go_ret; exact ⟨ret_bool (by simp only [inB]; first | (rw [Bool.eq_iff_iff]; simp; omega) | (simp; omega)), rfl⟩)
/-- days that can be, and that ascend strictly -/
def ascB (n : Nat) (x : Nat → Int) : Bool := decide (∀ i, i < n → inB (x i) 0 36000 = true ∧ (0 < i → x (i - 1) < x i))
theorem ascB_no {n k : Nat} {x : Nat → Int} (hk : k < n) (h : ¬ (inB (x k) 0 36000 = true ∧ (0 < k → x (k - 1) < x k))) : ascB n x = false := by
  simp only [ascB, decide_eq_false_iff_not]
  exact fun g => h (g k hk)
theorem ascB_yes {n : Nat} {x : Nat → Int} (h : ∀ i, i < n → inB (x i) 0 36000 = true ∧ (0 < i → x (i - 1) < x i)) : ascB n x = true := by
  simp only [ascB, decide_eq_true_eq]
  exact h
set_option maxHeartbeats 1000000 in
theorem ascending_any (ao : Option Addr) (n c : Nat) (x : Nat → Int) (w : World) (hn : n ≤ 1000000) (h : IntAt w ao n c x) :
    Calls Try.prog 59 #[.slice ao n c] w fun e w' => e = .returned (.bool (ascB n x)) ∧ w = w' := by
  have H := Lib.hid h
  clear h
  go_enter Try.func59, Try.ntmps59
  go_wp2
  go_loop [7] (fun iv => ∃ k : Nat, k ≤ n ∧ iv = .int .i64 k ∧ ∀ i, i < k → inB (x i) 0 36000 = true ∧ (0 < i → x (i - 1) < x i)) (fun iv => n - (intOf iv).toNat)
  case atStart => exact ⟨0, by omega, rfl, by omega⟩
  case round =>
    obtain ⟨k, hk, rfl, hall⟩ := hrel
    have HA := Lib.hid hall
    clear hall
    by_cases hlt : k < n
    · obtain ⟨b, off, rfl, hc⟩ := H.out.at_ (by omega)
      have hck := hc k hlt
      have HCC := Lib.hid hc
      obtain ⟨y, hy⟩ : ∃ y, x k = y := ⟨_, rfl⟩
      rw [hy] at hck
      have HY := Lib.hid hy
      clear hc hy
      cases hp : inB y 0 36000
      · have hfin := Lib.hid (ascB_no (x := x) hlt (by rw [HY.out, hp]; simp))
        go_wp2_with (go_at_call 83; refine (calvalid_any _ _).mono ?_; rw [hp]; rintro e w' ⟨rfl, rfl⟩)
        go_ret
        exact ⟨ret_bool hfin.out.symm, rfl⟩
      · rcases Nat.eq_zero_or_pos k with h0 | h0
        · subst h0
          rw [Nat.add_zero] at hck
          have hstep := Lib.hid (show ∀ i, i < 0 + 1 → inB (x i) 0 36000 = true ∧ (0 < i → x (i - 1) < x i) from fun i hi => by
            have : i = 0 := by omega
            subst this
            exact ⟨by rw [HY.out, hp], fun h => by omega⟩)
          go_wp2_with (go_at_call 83; refine (calvalid_any _ _).mono ?_; rw [hp]; rintro e w' ⟨rfl, rfl⟩)
          go_round
          case rel => exact ⟨0 + 1, by omega, by go_num, hstep.out⟩
          case measure => simp [intOf]; omega
        · obtain ⟨m, hm⟩ : ∃ m, k = m + 1 := ⟨k - 1, by omega⟩
          subst hm
          have hcm := HCC.out m (by omega)
          obtain ⟨z, hz⟩ : ∃ z, x m = z := ⟨_, rfl⟩
          rw [hz] at hcm
          have HZ := Lib.hid hz
          clear hz h0
          by_cases hzy : z < y
          · have hstep := Lib.hid (show ∀ i, i < m + 1 + 1 → inB (x i) 0 36000 = true ∧ (0 < i → x (i - 1) < x i) from fun i hi => by
              rcases Nat.lt_or_ge i (m + 1) with g | g
              · exact HA.out i g
              · have : i = m + 1 := by omega
                subst this
                exact ⟨by rw [HY.out, hp], fun _ => by rw [Nat.add_sub_cancel, HZ.out, HY.out]; exact hzy⟩)
            go_wp2_with (go_at_call 83; refine (calvalid_any _ _).mono ?_; rw [hp]; rintro e w' ⟨rfl, rfl⟩)
            go_round
            case rel => exact ⟨m + 1 + 1, by omega, by go_num, hstep.out⟩
            case measure => simp [intOf]; omega
          · have hfin := Lib.hid (ascB_no (x := x) hlt (by rw [Nat.add_sub_cancel, HZ.out, HY.out]; rintro ⟨_, g⟩; exact hzy (g (by omega))))
            go_wp2_with (go_at_call 83; refine (calvalid_any _ _).mono ?_; rw [hp]; rintro e w' ⟨rfl, rfl⟩)
            go_ret
            exact ⟨ret_bool hfin.out.symm, rfl⟩
    · have hfin := Lib.hid (ascB_yes (n := n) (x := x) (fun i hi => HA.out i (by omega)))
      go_wp2
      go_ret
      exact ⟨ret_bool hfin.out.symm, rfl⟩
/-- what days leaves -/
def Days_pos (n : Nat) (x : Nat → Int) (w : World) (e : Ending) (w' : World) : Prop := ∃ ao c, e = .returned (.slice ao n c) ∧ IntAt w' ao n c x ∧ Below w.heap.size w w'
set_option maxHeartbeats 1000000 in
theorem pos_days (ao : Option Addr) (n c : Nat) (d : Nat → Int) (a : Nat → Int) (w : World) (hn : n ≤ 1000000) (h : PosAt w ao n c d a) :
    Calls Try.prog 60 #[.slice ao n c, .func (.func 61) #[] #[]] w (Days_pos n d w) := by
  obtain ⟨i1, hi, hz0, hz1, hz2⟩ := info_parts infoInt
  have H := Lib.hid h
  clear h
  go_enter Try.func60, Try.ntmps60
  go_wp2
  go_loopw [5, 10] (fun v iv wr => ∃ k : Nat, k ≤ n ∧ iv = .int .i64 k ∧ wr.ownsRow w.heap.size 3 1 v k ((List.range k).map fun j => Value.int .i64 (d j)) ∧ Below w.heap.size w wr) (fun _ iv _ => n - (intOf iv).toNat)
  case atStart => exact ⟨0, by omega, rfl, World.ownsRow_nil _ _ _ _, Below.refl _ _⟩
  case round =>
    obtain ⟨k, hk, rfl, hown, hbr⟩ := hrel
    have zr := hbr.size
    by_cases hlt : k < n
    · obtain ⟨b, off, rfl, hc⟩ := (H.out.below hbr).at_ (by omega)
      have hck := hc k hlt
      obtain ⟨vd, hvd⟩ : ∃ x, d k = x := ⟨_, rfl⟩
      obtain ⟨va, hva⟩ : ∃ x, a k = x := ⟨_, rfl⟩
      rw [hvd, hva] at hck
      have HX := Lib.hid hvd
      obtain ⟨k0, k1⟩ := hck
      clear hc hvd hva
      go_wp2_with fail
      refine (positionDay_any _ _ _).mono ?_
      rintro e w1 ⟨rfl, hb'⟩
      have hB' : Below w.heap.size w w1 := (hbr.alloc zr _).trans (Below.mono hb' (by simp; omega))
      have hown1 : w1.ownsRow w.heap.size 3 1 _ k _ := ownsRow_below (hown.alloc _) hb'
      have z1 := hb'.size
      simp only [World.size_alloc] at z1
      clear hb' hown
      go_wp2_with (at_builtin; refine wpList_append_own _ rfl _ _ 22 rfl w.heap.size 3 i1 (.int .i64 0) 1 8 Try.underlying22 hi hz0 hz1 hz2 rfl (by decide) _ _ _ rfl (hown1.alloc _) ⟨w1.heap.size, 0, none⟩ 1 1 [.int .i64 vd] rfl rfl (news1 _ _ _) (one1 _ _) (by unfold maxLen; omega) (by omega) (by simp; omega) ?_; intro v' w2 hown' hgrow _)
      have hB2 : Below w.heap.size w w2 := (hB'.alloc hB'.size _).grown hgrow (by simp; omega) (fun q hq => (hown1.lt q hq).1)
      go_wp2
      go_roundw
      case rel => exact ⟨k + 1, by omega, by go_num, by rw [List.range_succ, List.map_append, List.map_cons, List.map_nil, HX.out]; exact hown', hB2⟩
      case measure => simp [intOf]; omega
    · have hkn : k = n := by omega
      subst hkn
      obtain ⟨ao', c', hv, hx⟩ := intAt_own hown
      rw [hv]
      go_wp2
      go_ret
      exact ⟨ao', c', rfl, hx, hbr⟩
end Go.Proofs.Ytkkgipcidbgbhaa
