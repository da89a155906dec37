/- The register's clerk: outstanding, strange, add. The register's clerk: add. The register's clerk: do. A register's moves in plain lists: what is made by them. No program in sight. -/
import Derived.Test.YtjfngogfiafipaaZOwn
import Derived.Test.YtjfngogfiafipaaZInsH
import Derived.Deep.DeepCutAuto
import Derived.Test.YtjfngogfiafipaaZRegP
namespace Go.Proofs.Ytjfngogfiafipaa
open Go.RowKit
set_option linter.unusedVariables false
set_option linter.unusedSimpArgs false

theorem outH_take_le {L : List Hold} (hp : ∀ x ∈ L, 0 < x.a) (s : Int) (k : Nat) : 0 ≤ outH (L.take k) s ∧ outH (L.take k) s ≤ outH L s := by
  have h1 := outH_nonneg (L := L.take k) (fun x hx => hp x (List.mem_of_mem_take hx)) s
  have h2 := outH_nonneg (L := L.drop k) (fun x hx => hp x (List.mem_of_mem_drop hx)) s
  have h3 := outH_append (L.take k) (L.drop k) s
  rw [List.take_append_drop] at h3
  omega
set_option maxHeartbeats 1000000 in
theorem outst_any (P : Nat → Prop) (cb : Nat) (v : Value) (L : List Hold) (s : Int) (w : World) (hv : w.cell? ⟨cb, 1, none⟩ = some v) (hS : Sl 3 encHold P w v L) (hok : HsOk L) (hlen : L.length ≤ 1000000) :
    Calls Try.prog 58 #[.pointer (some ⟨cb, 0, none⟩), .int .i64 s] w fun e w' => e = .returned (.int .i64 (outH L s)) ∧ Below w.heap.size w w' := by
  obtain ⟨ao, n, c, rfl, hn, hnc, hcm⟩ := hS.shape
  have hn1 : n ≤ 1000000 := by omega
  have HS := Lib.hid hS
  have HN := Lib.hid hn
  have HK := Lib.hid hok
  clear hS hn hlen hok
  go_enter Try.func58, Try.ntmps58
  go_wp2
  go_loopw [5, 13] (fun sv iv wr => ∃ k : Nat, k ≤ n ∧ iv = .int .i64 k ∧ sv = .int .i64 (outH (L.take k) s) ∧ Below w.heap.size w wr) (fun _ iv _ => n - (intOf iv).toNat)
  case atStart => exact ⟨0, by omega, rfl, rfl, brefl⟩
  case round =>
    obtain ⟨k, hk, rfl, rfl, hbr⟩ := hrel
    have zr := hbr.size
    obtain ⟨sb0, sb1⟩ := outH_take_le HK.out.pos s k
    have sb2 := HK.out.out s
    by_cases hlt : k < n
    · obtain ⟨b, off, vs, vh, va, rfl, -, hb', hL, k0, k1, k2⟩ := (HS.out.below hbr).hold hlt
      obtain ⟨tb0, tb1⟩ := outH_take_le HK.out.pos s (k + 1)
      rw [take_snocZ hL, outH_append] at tb0 tb1
      have HT := Lib.hid (take_snocZ hL)
      obtain ⟨S, hSs⟩ : ∃ S, outH (L.take k) s = S := ⟨_, rfl⟩
      rw [hSs] at sb0 sb1 tb0 tb1
      have HSS := Lib.hid hSs
      rw [hSs]
      simp only [outH, Int.add_zero] at tb0 tb1
      have hpos := Lib.hid (HK.out.pos _ (List.mem_of_getElem? hL))
      clear hL hSs
      by_cases hq : vs = s
      · rw [if_pos hq] at tb0 tb1
        have HR := Lib.hid (show outH (L.take (k + 1)) s = S + va by rw [HT.out, outH_append, HSS.out]; simp [outH, hq])
        subst hq
        go_wp2
        go_roundw
        case rel => exact ⟨k + 1, by omega, by go_num, by rw [HR.out], bal hbr _⟩
        case measure => simp [intOf]; omega
      · have HR := Lib.hid (show outH (L.take (k + 1)) s = S by rw [HT.out, outH_append, HSS.out]; simp [outH, hq])
        have hq' : (vs == s) = false := by simpa using hq
        go_wp2
        go_roundw
        case rel => exact ⟨k + 1, by omega, by go_num, by rw [HR.out], bal hbr _⟩
        case measure => simp [intOf]; omega
    · have hfin := Lib.hid (show outH (L.take k) s = outH L s by rw [take_all (by have := HN.out; omega)])
      rw [hfin.out]
      go_wp2
      go_ret
      exact ⟨rfl, hbr⟩
set_option maxHeartbeats 1000000 in
theorem strange_any (num day kind s f t a : Int) (w : World) :
    Calls Try.prog 105 #[.agg #[.int .i64 num, .int .i64 day, .int .i64 kind, .int .i64 s, .int .i64 f, .int .i64 t, .int .i64 a]] w fun e w' => e = .returned (.bool (strangeB ⟨num, day, kind, s, f, t, a⟩)) ∧ Below w.heap.size w w' := by
  obtain ⟨x, hx⟩ : ∃ x, inB f 1 1000 = x := ⟨_, rfl⟩
  obtain ⟨y, hy⟩ : ∃ y, inB t 1 1000 = y := ⟨_, rfl⟩
  have HX := Lib.hid hx
  have HY := Lib.hid hy
  obtain ⟨r, hr⟩ : ∃ r, strangeB ⟨num, day, kind, s, f, t, a⟩ = r := ⟨_, rfl⟩
  have hr' := hr
  unfold strangeB at hr'
  simp only [hx, hy] at hr'
  have HR := Lib.hid hr'
  rw [hr]
  clear hx hy hr hr'
  by_cases h1 : kind = 1
  · subst h1
    rw [if_pos rfl] at HR
    by_cases hf : f = 0
    · have hfb : (f != 0) = false := by simpa using hf
      rw [hfb] at HR
      subst hf
      cases y
      all_goals
        go_enter Try.func105, Try.ntmps105
        go_wp2
        go_quiet ((go_at_call 114; refine (regholder_any _ _).mono ?_; (first | rw [HX.out] | rw [HY.out]); exact fun _ _ hh => ⟨hh.1, _, hh.2.symm⟩))
        go_wp2
        go_ret
        exact ⟨ret_bool HR.out, below_drewZ (bal brefl _) _⟩
    · have hfb : (f != 0) = true := by simpa using hf
      have hfb' : (f == 0) = false := by simpa using hf
      rw [hfb] at HR
      go_enter Try.func105, Try.ntmps105
      go_wp2
      go_quiet ((go_at_call 114; refine (regholder_any _ _).mono ?_; (first | rw [HX.out] | rw [HY.out]); exact fun _ _ hh => ⟨hh.1, _, hh.2.symm⟩))
      go_wp2
      go_ret
      exact ⟨ret_bool HR.out, below_drewZ (bal brefl _) _⟩
  · have k1 : (kind == 1) = false := by simpa using h1
    rw [if_neg h1] at HR
    by_cases h2 : kind = 2
    · subst h2
      rw [if_pos rfl] at HR
      cases x
      · go_enter Try.func105, Try.ntmps105
        go_wp2
        go_quiet ((go_at_call 114; refine (regholder_any _ _).mono ?_; (first | rw [HX.out] | rw [HY.out]); exact fun _ _ hh => ⟨hh.1, _, hh.2.symm⟩))
        go_wp2
        go_ret
        exact ⟨ret_bool HR.out, below_drewZ (bal brefl _) _⟩
      · cases y
        · go_enter Try.func105, Try.ntmps105
          go_wp2
          go_quiet ((go_at_call 114; refine (regholder_any _ _).mono ?_; (first | rw [HX.out] | rw [HY.out]); exact fun _ _ hh => ⟨hh.1, _, hh.2.symm⟩))
          go_wp2
          go_ret
          exact ⟨ret_bool HR.out, below_drewZ (bal brefl _) _⟩
        · by_cases he : f = t
          · have he' : (f == t) = true := by simpa using he
            rw [he'] at HR
            go_enter Try.func105, Try.ntmps105
            go_wp2
            go_quiet ((go_at_call 114; refine (regholder_any _ _).mono ?_; (first | rw [HX.out] | rw [HY.out]); exact fun _ _ hh => ⟨hh.1, _, hh.2.symm⟩))
            go_wp2
            go_ret
            exact ⟨ret_bool HR.out, below_drewZ (bal brefl _) _⟩
          · have he' : (f == t) = false := by simpa using he
            rw [he'] at HR
            go_enter Try.func105, Try.ntmps105
            go_wp2
            go_quiet ((go_at_call 114; refine (regholder_any _ _).mono ?_; (first | rw [HX.out] | rw [HY.out]); exact fun _ _ hh => ⟨hh.1, _, hh.2.symm⟩))
            go_wp2
            go_ret
            exact ⟨ret_bool HR.out, below_drewZ (bal brefl _) _⟩
    · have k2 : (kind == 2) = false := by simpa using h2
      rw [if_neg h2] at HR
      cases x
      · go_enter Try.func105, Try.ntmps105
        go_wp2
        go_quiet ((go_at_call 114; refine (regholder_any _ _).mono ?_; (first | rw [HX.out] | rw [HY.out]); exact fun _ _ hh => ⟨hh.1, _, hh.2.symm⟩))
        go_wp2
        go_ret
        exact ⟨ret_bool HR.out, below_drewZ (bal brefl _) _⟩
      · by_cases he : t = 0
        · have he' : (t != 0) = false := by simpa using he
          rw [he'] at HR
          subst he
          go_enter Try.func105, Try.ntmps105
          go_wp2
          go_quiet ((go_at_call 114; refine (regholder_any _ _).mono ?_; (first | rw [HX.out] | rw [HY.out]); exact fun _ _ hh => ⟨hh.1, _, hh.2.symm⟩))
          go_wp2
          go_ret
          exact ⟨ret_bool HR.out, below_drewZ (bal brefl _) _⟩
        · have he' : (t != 0) = true := by simpa using he
          have he2 : (t == 0) = false := by simpa using he
          rw [he'] at HR
          go_enter Try.func105, Try.ntmps105
          go_wp2
          go_quiet ((go_at_call 114; refine (regholder_any _ _).mono ?_; (first | rw [HX.out] | rw [HY.out]); exact fun _ _ hh => ⟨hh.1, _, hh.2.symm⟩))
          go_wp2
          go_ret
          exact ⟨ret_bool HR.out, below_drewZ (bal brefl _) _⟩
end Go.Proofs.Ytjfngogfiafipaa
namespace Go.Proofs.Ytjfngogfiafipaa
open Go.RowKit
set_option linter.unusedVariables false
set_option linter.unusedSimpArgs false

theorem flatE_set (L1 L2 : List Hold) (s h a y : Int) (p : Nat) (hp : L1.length = p) : (flatE encHold (L1 ++ ⟨s, h, a⟩ :: L2)).set (p * 3 + 2) (.int .i64 y) = flatE encHold (L1 ++ ⟨s, h, y⟩ :: L2) := by
  have hl : (flatE encHold L1).length = p * 3 := by rw [flatE_length encHold_len, hp]
  have e : ∀ b, flatE encHold (L1 ++ ⟨s, h, b⟩ :: L2) = flatE encHold L1 ++ (.int .i64 s :: .int .i64 h :: .int .i64 b :: flatE encHold L2) := fun b => by simp [flatE, encHold]
  rw [e, e, List.set_append_right _ _ (by omega), hl, Nat.add_sub_cancel_left]
  rfl
/-- a block that is no row of holdings -/
def NoRow (w : World) (k : Nat) : Prop := ∀ cur, w.heap[k]? ≠ some (.cells cur 54 (0, 0))
/-- what add leaves: the holdings L' in the clerk at cb, all that lies below as it was, and all that is no row of holdings -/
def AddedV (cb : Nat) (v' : Value) (L' : List Hold) (w w' : World) : Prop :=
  w'.cell? ⟨cb, 1, none⟩ = some v' ∧ w'.ownsRow (cb + 1) 54 3 v' L'.length (flatE encHold L') ∧ (∀ o, o ≠ 1 → w'.cell? ⟨cb, o, none⟩ = w.cell? ⟨cb, o, none⟩) ∧ (∀ o, w'.frozen? ⟨cb, o, none⟩ = w.frozen? ⟨cb, o, none⟩) ∧ Below cb w w' ∧ (∀ k, k < w.heap.size → k ≠ cb → NoRow w k → w'.heap[k]? = w.heap[k]?)
def Added (cb : Nat) (L' : List Hold) (w w' : World) : Prop := ∃ v', AddedV cb v' L' w w'
theorem grownBy_setCellZ (w : World) (b o : Nat) (v : Value) : w.grownBy (w.setCell ⟨b, o, none⟩ v) (some b) :=
  ⟨rfl, rfl, rfl, by simp [World.setCell], fun k _ hne => Below.heap_setCell _ _ _ _ (fun h => hne (by rw [h]))⟩
/-- the row that may turn lies above the clerk, and is a row of holdings -/
def RowOf (cb : Nat) (w : World) (row : Option Nat) : Prop := ∀ k, row = some k → cb < k ∧ ∃ cur, w.heap[k]? = some (.cells cur 54 (0, 0))
theorem rowOf_own {cb n : Nat} {w : World} {v : Value} {xs : List Value} (h : w.ownsRow (cb + 1) 54 3 v n xs) : RowOf cb w v.ownBlock := by
  intro k hk
  rcases h.2 with ⟨rfl, -⟩ | ⟨g, cap, cur, rfl, hbg, hg, -⟩
  · simp [Value.ownBlock] at hk
  · simp only [Value.ownBlock, Option.some.injEq] at hk
    subst hk
    exact ⟨by omega, cur, hg⟩
theorem added_frame {cb : Nat} {w w1 w2 : World} {row : Option Nat} (hb1 : Below w.heap.size w w1) (hr : RowOf cb w row) (h2 : w1.grownBy w2 row) : ∀ k, k < w.heap.size → NoRow w k → w2.heap[k]? = w.heap[k]? := by
  intro k hk hn
  refine (h2.block k (Nat.lt_of_lt_of_le hk hb1.size) (fun q => ?_)).trans (hb1.block k hk)
  obtain ⟨_, cur, hc⟩ := hr k q.symm
  exact hn cur hc
theorem added_mk0 {cb n : Nat} {w w1 w2 : World} {row : Option Nat} {L' : List Hold} {v' : Value} (hb1 : Below w.heap.size w w1) (hcb : cb < w.heap.size) (hr : RowOf cb w row) (h2 : w1.grownBy w2 row) (hv : w.cell? ⟨cb, 1, none⟩ = some v') (hown : w2.ownsRow (cb + 1) 54 3 v' n (flatE encHold L')) (hn : L'.length = n) : Added cb L' w w2 := by
  have hne : ∀ k, k ≤ cb → some k ≠ row := fun k hk q => by have := (hr k q.symm).1; omega
  have hblk : w2.heap[cb]? = w.heap[cb]? := (h2.block cb (Nat.lt_of_lt_of_le hcb hb1.size) (hne cb (Nat.le_refl _))).trans (hb1.block cb hcb)
  subst hn
  refine ⟨v', (World.cell?_of_block (a := ⟨cb, 1, none⟩) hblk).trans hv, hown, fun o _ => World.cell?_of_block (a := ⟨cb, o, none⟩) hblk, fun o => World.frozen?_of_block (a := ⟨cb, o, none⟩) hblk, ?_, fun k hk _ hn => added_frame hb1 hr h2 k hk hn⟩
  exact ⟨h2.os.trans hb1.os, h2.tape.trans hb1.tape, h2.output.trans hb1.output, Nat.le_trans hb1.size h2.size, fun k hk => (h2.block k (Nat.lt_of_lt_of_le (Nat.lt_trans hk hcb) hb1.size) (hne k (by omega))).trans (hb1.block k (Nat.lt_trans hk hcb))⟩
theorem added_mk {cb n : Nat} {w w1 w2 : World} {row : Option Nat} {L' : List Hold} {v v' : Value} (hb1 : Below w.heap.size w w1) (hcb : cb < w.heap.size) (hr : RowOf cb w row) (h2 : w1.grownBy w2 row) (hv : w.cell? ⟨cb, 1, none⟩ = some v) (hown : w2.ownsRow (cb + 1) 54 3 v' n (flatE encHold L')) (hn : L'.length = n) : AddedV cb v' L' w (w2.setCell ⟨cb, 1, none⟩ v') := by
  have hne : ∀ k, k ≤ cb → some k ≠ row := fun k hk q => by have := (hr k q.symm).1; omega
  have hblk : w2.heap[cb]? = w.heap[cb]? := (h2.block cb (Nat.lt_of_lt_of_le hcb hb1.size) (hne cb (Nat.le_refl _))).trans (hb1.block cb hcb)
  subst hn
  have hv2 := (World.cell?_of_block (a := ⟨cb, 1, none⟩) hblk).trans hv
  refine ⟨World.cell?_setCell_same w2 _ _ hv2, World.ownsRow.kept hown (grownBy_setCellZ w2 cb 1 v') ?_, fun o ho => ?_, fun o => ?_, ?_, fun k hk hkc hn => ?_⟩
  · cases hb : v'.ownBlock with
    | none => exact .inl rfl
    | some k => exact .inr (by have := (hown.lt k hb).1; simp; omega)
  · rw [World.cell?_setCell_other w2 _ _ _ (by intro q; injection q; omega)]
    exact World.cell?_of_block (a := ⟨cb, o, none⟩) hblk
  · rw [World.frozen?_setCell]
    exact World.frozen?_of_block (a := ⟨cb, o, none⟩) hblk
  · have h3 : Below cb w w2 := ⟨h2.os.trans hb1.os, h2.tape.trans hb1.tape, h2.output.trans hb1.output, Nat.le_trans hb1.size h2.size, fun k hk => (h2.block k (Nat.lt_of_lt_of_le (Nat.lt_trans hk hcb) hb1.size) (hne k (by omega))).trans (hb1.block k (Nat.lt_trans hk hcb))⟩
    exact h3.setCell (Nat.le_refl _) _
  · rw [Below.heap_setCell _ _ _ _ (by simp only; omega)]
    exact added_frame hb1 hr h2 k hk hn
theorem AddedV.stored {cb g n cap j : Nat} {w W : World} {L' L'' : List Hold} {u : Value} (h : AddedV cb (.slice (some ⟨g, 0, none⟩) n cap) L' w W) (hn : L'.length = n) (hn' : L''.length = n) (hg : cb < g) (hs : (flatE encHold L').set j u = flatE encHold L'') : AddedV cb (.slice (some ⟨g, 0, none⟩) n cap) L'' w (W.setCell ⟨g, j, none⟩ u) := by
  obtain ⟨h1, h2, h3, h4, h5, h6⟩ := h
  rw [hn] at h2
  have q := World.ownsRow.stored h2 j u
  rw [hs] at q
  refine ⟨?_, by rw [hn']; exact q.1, fun o ho => ?_, fun o => ?_, h5.setCell (by simp only; omega) _, fun k hk hkc hno => ?_⟩
  · rw [World.cell?_setCell_other W _ _ _ (by intro q; injection q; omega)]; exact h1
  · rw [World.cell?_setCell_other W _ _ _ (by intro q; injection q; omega)]; exact h3 o ho
  · rw [World.frozen?_setCell]; exact h4 o
  · have hk6 := h6 k hk hkc hno
    rw [Below.heap_setCell _ _ _ _ (?_)]
    · exact hk6
    · simp only
      rintro rfl
      obtain ⟨_, cur, hc⟩ := rowOf_own h2 k rfl
      rw [hk6] at hc
      exact hno cur hc
theorem own_slice {w : World} {base : Nat} {e : TypeId} {z : Nat} {v : Value} {n : Nat} {xs : List Value} (h : w.ownsRow base e z v n xs) : ∃ ao c, v = .slice ao n c := by
  rcases h.2 with ⟨rfl, rfl⟩ | ⟨g, cap, cur, rfl, _⟩
  · exact ⟨_, _, rfl⟩
  · exact ⟨_, _, rfl⟩
theorem add_zero (cb : Nat) (s n : Int) (w : World) :
    Calls Try.prog 106 #[.pointer (some ⟨cb, 0, none⟩), .int .i64 s, .int .i64 0, .int .i64 n] w fun e w' => e = .returned (.tuple #[]) ∧ w = w' := by
  go_enter Try.func106, Try.ntmps106
  go_wp2
  refine bodyPost_ret (results_none rfl _ _ _) rfl ?_
  exact ⟨rfl, rfl⟩
set_option maxHeartbeats 1000000 in
theorem add_there (cb : Nat) (v : Value) (L1 L2 : List Hold) (s h a n : Int) (w : World) (hv : w.cell? ⟨cb, 1, none⟩ = some v) (hf : w.frozen? ⟨cb, 1, none⟩ = false) (hown : w.ownsRow (cb + 1) 54 3 v (L1 ++ ⟨s, h, a⟩ :: L2).length (flatE encHold (L1 ++ ⟨s, h, a⟩ :: L2)))
    (hp : posH (L1 ++ ⟨s, h, a⟩ :: L2) s h = L1.length) (hs : srtH (L1 ++ ⟨s, h, a⟩ :: L2)) (hlen : (L1 ++ ⟨s, h, a⟩ :: L2).length ≤ 100000) (hh : h ≠ 0) (ha0 : 0 ≤ a) (ha1 : a ≤ 1000000000000) (hn0 : -1000000000000 ≤ n) (hn1 : n ≤ 1000000000000) :
    Calls Try.prog 106 #[.pointer (some ⟨cb, 0, none⟩), .int .i64 s, .int .i64 h, .int .i64 n] w fun e w' => e = .returned (.tuple #[]) ∧ Added cb (if a + n = 0 then L1 ++ L2 else L1 ++ ⟨s, h, a + n⟩ :: L2) w w' := by
  have hi : isH (L1 ++ ⟨s, h, a⟩ :: L2) s h = true := by unfold isH; rw [hp]; simp [eqK]
  have H := place_any (fun _ => True) cb v _ s h w hv (Sl.own encHold_len hown rfl (fun _ _ => trivial)) hs (by omega)
  rw [hi, hp] at H
  obtain ⟨p, hpe⟩ : ∃ p, L1.length = p := ⟨_, rfl⟩
  rw [hpe] at H
  obtain ⟨N, hN⟩ : ∃ N, (L1 ++ ⟨s, h, a⟩ :: L2).length = N := ⟨_, rfl⟩
  rw [hN] at hown hlen
  have hNp : L2.length + p + 1 = N := by rw [← hN, ← hpe]; simp; omega
  obtain ⟨g, cap, rest, rfl, hbg, hg, hnc, hcm, hxl, hrl⟩ := own_whole hown (by omega)
  unfold maxLen at hcm
  have hgc : ¬ g = cb := by omega
  have hcg : ¬ cb = g := by omega
  have hh' : (h == 0) = false := by simpa using hh
  have hcell : w.cell? ⟨g, p * 3 + 2, none⟩ = some (.int .i64 a) := by
    refine cell_whole hg ?_
    have hl : (flatE encHold L1).length = p * 3 := by rw [flatE_length encHold_len, hpe]
    have e : flatE encHold (L1 ++ ⟨s, h, a⟩ :: L2) = flatE encHold L1 ++ (.int .i64 s :: .int .i64 h :: .int .i64 a :: flatE encHold L2) := by simp [flatE, encHold]
    rw [e, List.append_assoc, List.getElem?_append_right (by omega), hl, Nat.add_sub_cancel_left]
    rfl
  have hfz : w.frozen? ⟨g, p * 3 + 2, none⟩ = false := frozen_of_row w g _ _ _ hg
  have HH := Lib.hid H
  have HO := Lib.hid hown
  have HL := Lib.hid hpe
  have hpN : p < N := by omega
  clear H hp hs hi hg hxl hrl hN hpe hown
  by_cases hz : a + n = 0
  · rw [if_pos hz]
    have HZ := Lib.hid hz
    have hz2 : (a + n == 0) = true := by simpa using hz
    clear hz
    go_enter Try.func106, Try.ntmps106
    go_wp2_with fail
    refine HH.out.mono ?_
    rintro e w1 ⟨rfl, hb1⟩
    have c1 := keepB hb1 hv
    have c2 := keepB hb1 hcell
    have f1 : w1.frozen? ⟨cb, 1, none⟩ = false := (hb1.frozen (p := ⟨cb, 1, none⟩) (World.block_lt_of_cell? w _ hv)).trans hf
    have f2 : w1.frozen? ⟨g, p * 3 + 2, none⟩ = false := (hb1.frozen (p := ⟨g, p * 3 + 2, none⟩) (World.block_lt_of_cell? w _ hcell)).trans hfz
    have HO1 := Lib.hid (ownsRow_belowZ HO.out hb1)
    have hst := World.ownsRow.stored HO1.out (p * 3 + 2) (.int .i64 (a + n))
    rw [flatE_set L1 L2 s h a (a + n) p HL.out] at hst
    obtain ⟨hst1, hst2⟩ := hst
    have HS1 := Lib.hid hst1
    have HS2 := Lib.hid hst2
    have HH1 := Lib.hid hb1
    clear hst1 hst2
    go_wp2_with fail
    refine (delH_any (cb + 1) _ N p L1 L2 ⟨s, h, a + n⟩ _ HS1.out (by omega) HL.out hNp).mono ?_
    rintro e w2 ⟨v', rfl, hown2, hgr2⟩
    obtain ⟨ao', c', rfl⟩ := own_slice hown2
    have c3 : w2.cell? ⟨cb, 1, none⟩ = some _ := hgr2.cell ((World.cell?_setCell_other _ _ _ _ (by simp [hgc])).trans c1) (by simp [Value.ownBlock]; omega)
    have f3 : w2.frozen? ⟨cb, 1, none⟩ = false := by
      rw [World.frozen?_of_block (a := ⟨cb, 1, none⟩) (hgr2.block cb (by simpa [World.setCell] using World.block_lt_of_cell? w1 _ c1) (by simp [Value.ownBlock]; omega)), World.frozen?_setCell]
      exact f1
    go_wp2
    go_end0
    exact ⟨rfl, _, added_mk HH1.out (World.block_lt_of_cell? w _ hv) (rowOf_own HO.out) (grownBy_transZ HS2.out hgr2) hv hown2 (by have := HL.out; simp; omega)⟩
  · rw [if_neg hz]
    have hz2 : (a + n == 0) = false := by simpa using hz
    clear hz
    go_enter Try.func106, Try.ntmps106
    go_wp2_with fail
    refine HH.out.mono ?_
    rintro e w1 ⟨rfl, hb1⟩
    have c1 := keepB hb1 hv
    have c2 := keepB hb1 hcell
    have f1 : w1.frozen? ⟨cb, 1, none⟩ = false := (hb1.frozen (p := ⟨cb, 1, none⟩) (World.block_lt_of_cell? w _ hv)).trans hf
    have f2 : w1.frozen? ⟨g, p * 3 + 2, none⟩ = false := (hb1.frozen (p := ⟨g, p * 3 + 2, none⟩) (World.block_lt_of_cell? w _ hcell)).trans hfz
    have hst := World.ownsRow.stored (ownsRow_belowZ HO.out hb1) (p * 3 + 2) (.int .i64 (a + n))
    rw [flatE_set L1 L2 s h a (a + n) p HL.out] at hst
    obtain ⟨hst1, hst2⟩ := hst
    have HS1 := Lib.hid hst1
    have HS2 := Lib.hid hst2
    have HH1 := Lib.hid hb1
    clear hst1 hst2
    go_wp2
    go_end0
    exact ⟨rfl, added_mk0 HH1.out (World.block_lt_of_cell? w _ hv) (rowOf_own HO.out) HS2.out hv HS1.out (by have := HL.out; simp; omega)⟩
set_option maxHeartbeats 1000000 in
theorem add_new (cb : Nat) (v : Value) (L : List Hold) (s h n : Int) (w : World) (hv : w.cell? ⟨cb, 1, none⟩ = some v) (hf : w.frozen? ⟨cb, 1, none⟩ = false) (hown : w.ownsRow (cb + 1) 54 3 v L.length (flatE encHold L))
    (hi : isH L s h = false) (hs : srtH L) (hlen : L.length ≤ 100000) (hh : h ≠ 0) (hn0 : -1000000000000 ≤ n) (hn1 : n ≤ 1000000000000) (hnz : n ≠ 0) :
    Calls Try.prog 106 #[.pointer (some ⟨cb, 0, none⟩), .int .i64 s, .int .i64 h, .int .i64 n] w fun e w' => e = .returned (.tuple #[]) ∧ Added cb (L.take (posH L s h) ++ ⟨s, h, n⟩ :: L.drop (posH L s h)) w w' := by
  have H := place_any (fun _ => True) cb v _ s h w hv (Sl.own encHold_len hown rfl (fun _ _ => trivial)) hs (by omega)
  have hple := posH_le L s h
  rw [hi] at H
  obtain ⟨p, hpe⟩ : ∃ p, posH L s h = p := ⟨_, rfl⟩
  rw [hpe] at H hple
  rw [hpe]
  obtain ⟨N, hN⟩ : ∃ N, L.length = N := ⟨_, rfl⟩
  rw [hN] at hown hlen hple
  have hh' : (h == 0) = false := by simpa using hh
  have hcb := World.block_lt_of_cell? w _ hv
  simp only at hcb
  have hvb : ∀ k, v.ownBlock = some k → cb + 1 ≤ k ∧ k < w.heap.size := hown.lt
  have hz2 : (n == 0) = false := by simpa using hnz
  have HH := Lib.hid H
  have HO := Lib.hid hown
  have HN := Lib.hid hN
  have HVB := Lib.hid hvb
  have HV := Lib.hid hv
  clear H hs hi hN hpe hown hnz hvb
  go_enter Try.func106, Try.ntmps106
  go_wp2_with fail
  refine HH.out.mono ?_
  rintro e w1 ⟨rfl, hb1⟩
  have zb := hb1.size
  have c1 := keepB hb1 HV.out
  have f1 : w1.frozen? ⟨cb, 1, none⟩ = false := (hb1.frozen (p := ⟨cb, 1, none⟩) hcb).trans hf
  have HO1 := Lib.hid ((ownsRow_belowZ HO.out hb1).alloc (.cells #[.int .i64 s, .int .i64 h, .int .i64 0] 54))
  have HH1 := Lib.hid hb1
  clear hb1
  go_wp2_with fail
  refine (insH_any (cb + 1) v N p w1.heap.size L ⟨s, h, 0⟩ _ HO1.out (by omega) hple HN.out (by simp; omega) (heap_alloc_new _ _) (fun hq => by have := (HVB.out _ hq).2; omega)).mono ?_
  rintro e w2 ⟨v', rfl, hown2, hgr2⟩
  obtain ⟨g, cap, rest, rfl, hbg, hg, hnc, hcm, hxl, hrl⟩ := own_whole hown2 (by omega)
  unfold maxLen at hcm
  have hgr0 : v.ownBlock ≠ some cb := fun hq => by have := (HVB.out _ hq).1; omega
  have hblk : w2.heap[cb]? = w1.heap[cb]? := (hgr2.block cb (by simp; omega) (fun q => hgr0 q.symm)).trans (heap_alloc_old w1 _ (by omega))
  have c3 : w2.cell? ⟨cb, 1, none⟩ = some v := (World.cell?_of_block (a := ⟨cb, 1, none⟩) hblk).trans c1
  have f3 : w2.frozen? ⟨cb, 1, none⟩ = false := (World.frozen?_of_block (a := ⟨cb, 1, none⟩) hblk).trans f1
  have hlt : (L.take p).length = p := by have := HN.out; simp; omega
  have hcell : w2.cell? ⟨g, p * 3 + 2, none⟩ = some (.int .i64 0) := by
    refine cell_whole hg ?_
    have hl : (flatE encHold (L.take p)).length = p * 3 := by rw [flatE_length encHold_len, hlt]
    have e : flatE encHold (L.take p ++ ⟨s, h, 0⟩ :: L.drop p) = flatE encHold (L.take p) ++ (.int .i64 s :: .int .i64 h :: .int .i64 0 :: flatE encHold (L.drop p)) := by simp [flatE, encHold]
    rw [e, List.append_assoc, List.getElem?_append_right (by omega), hl, Nat.add_sub_cancel_left]
    rfl
  have hfz : w2.frozen? ⟨g, p * 3 + 2, none⟩ = false := frozen_of_row w2 g _ _ _ hg
  have hgc : ¬ g = cb := by omega
  have hcg : ¬ cb = g := by omega
  have hA : AddedV cb (.slice (some ⟨g, 0, none⟩) (N + 1) cap) (L.take p ++ ⟨s, h, 0⟩ :: L.drop p) w (w2.setCell ⟨cb, 1, none⟩ (.slice (some ⟨g, 0, none⟩) (N + 1) cap)) := by
    have hln : (L.take p ++ ⟨s, h, 0⟩ :: L.drop p).length = N + 1 := by have := HN.out; simp; omega
    have hb2 : Below w.heap.size w (w1.alloc (.cells #[.int .i64 s, .int .i64 h, .int .i64 0] 54)) := bal HH1.out _
    exact added_mk hb2 hcb (rowOf_own HO.out) hgr2 HV.out hown2 hln
  have HA := Lib.hid (hA.stored (j := p * 3 + 2) (u := .int .i64 n) (L'' := L.take p ++ ⟨s, h, n⟩ :: L.drop p) (by have := HN.out; simp; omega) (by have := HN.out; simp; omega) (by omega) (flatE_set _ _ _ _ _ _ p hlt))
  clear hA hown2 hgr2 hg hxl hrl hblk hlt
  go_wp2
  go_end0
  exact ⟨rfl, _, HA.out⟩
/-- add, whole -/
theorem add_any (cb : Nat) (v : Value) (L : List Hold) (s h n : Int) (w : World) (hv : w.cell? ⟨cb, 1, none⟩ = some v) (hf : w.frozen? ⟨cb, 1, none⟩ = false) (hown : w.ownsRow (cb + 1) 54 3 v L.length (flatE encHold L))
    (hs : srtH L) (hlen : L.length ≤ 100000) (ha : ∀ x ∈ L, 0 ≤ x.a ∧ x.a ≤ 1000000000000) (hn0 : -1000000000000 ≤ n) (hn1 : n ≤ 1000000000000) (hnz : n ≠ 0) :
    Calls Try.prog 106 #[.pointer (some ⟨cb, 0, none⟩), .int .i64 s, .int .i64 h, .int .i64 n] w fun e w' => e = .returned (.tuple #[]) ∧ Added cb (addZ L s h n) w w' := by
  by_cases hh : h = 0
  · subst hh
    refine (add_zero cb s n w).mono ?_
    rintro e w' ⟨rfl, rfl⟩
    exact ⟨rfl, v, hv, by simpa [addZ] using hown, fun _ _ => rfl, fun _ => rfl, Below.refl _ _, fun _ _ _ _ => rfl⟩
  · have e1 : addZ L s h n = addH L s h n := if_neg hh
    rw [e1]
    cases hi : isH L s h
    · have hx : ∀ x, L[posH L s h]? = some x → eqK x s h = false := fun x hx => by
        unfold isH at hi
        rw [hx] at hi
        exact hi
      rw [addH_new n hx, if_neg hnz]
      exact add_new cb v L s h n w hv hf hown hi hs hlen hh hn0 hn1 hnz
    · obtain ⟨a, hL, -⟩ := (held_at hs).1 hi
      rw [addH_there n hL]
      have hp := (List.getElem?_eq_some_iff.1 hL).1
      obtain ⟨p, hpe⟩ : ∃ p, posH L s h = p := ⟨_, rfl⟩
      rw [hpe] at hL hp
      rw [hpe]
      have hsplit : L = L.take p ++ ⟨s, h, a⟩ :: L.drop (p + 1) := by
        rw [← drop_cons hL, List.take_append_drop]
      obtain ⟨a0, a1⟩ := ha _ (List.mem_of_getElem? hL)
      have hlt : (L.take p).length = p := by simp; omega
      obtain ⟨L1, hL1⟩ : ∃ L1, L.take p = L1 := ⟨_, rfl⟩
      obtain ⟨L2, hL2⟩ : ∃ L2, L.drop (p + 1) = L2 := ⟨_, rfl⟩
      rw [hL1, hL2] at hsplit
      rw [hL1] at hlt
      rw [hL1, hL2]
      subst hsplit
      exact add_there cb v L1 L2 s h a n w hv hf hown (by rw [hpe, hlt]) hs hlen hh a0 a1 hn0 hn1
end Go.Proofs.Ytjfngogfiafipaa
namespace Go.Proofs.Ytjfngogfiafipaa
open Go.RowKit
set_option linter.unusedVariables false
set_option linter.unusedSimpArgs false

/-- the clerk at cb -/
structure CkIn (cb : Nat) (w : World) (secs : List Sec) (hs : List Hold) (num day : Int) (vs v : Value) : Prop where
  h0 : w.cell? ⟨cb, 0, none⟩ = some vs
  h1 : w.cell? ⟨cb, 1, none⟩ = some v
  h2 : w.cell? ⟨cb, 2, none⟩ = some (.int .i64 num)
  h3 : w.cell? ⟨cb, 3, none⟩ = some (.int .i64 day)
  f1 : w.frozen? ⟨cb, 1, none⟩ = false
  f2 : w.frozen? ⟨cb, 2, none⟩ = false
  f3 : w.frozen? ⟨cb, 3, none⟩ = false
  S : Sl 7 encSec (· < cb) w vs secs
  O : w.ownsRow (cb + 1) 54 3 v hs.length (flatE encHold hs)
theorem CkIn.lt {cb : Nat} {w : World} {secs : List Sec} {hs : List Hold} {num day : Int} {vs v : Value} (h : CkIn cb w secs hs num day vs v) : cb < w.heap.size := World.block_lt_of_cell? w _ h.h0
theorem CkIn.below {cb : Nat} {w w' : World} {secs : List Sec} {hs : List Hold} {num day : Int} {vs v : Value} (h : CkIn cb w secs hs num day vs v) (hb : Below w.heap.size w w') : CkIn cb w' secs hs num day vs v := by
  have hl := h.lt
  exact ⟨keepB hb h.h0, keepB hb h.h1, keepB hb h.h2, keepB hb h.h3, (hb.frozen (p := ⟨cb, 1, none⟩) hl).trans h.f1, (hb.frozen (p := ⟨cb, 2, none⟩) hl).trans h.f2, (hb.frozen (p := ⟨cb, 3, none⟩) hl).trans h.f3, h.S.below hb, ownsRow_belowZ h.O hb⟩
theorem keepS {w : World} {b o k j : Nat} {v v0 : Value} (hne : o ≠ b) (h : w.cell? ⟨o, k, none⟩ = some v) : (w.setCell ⟨b, j, none⟩ v0).cell? ⟨o, k, none⟩ = some v :=
  (World.cell?_setCell_other _ _ _ _ (by intro q; injection q; exact hne (Eq.symm (by assumption)))).trans h
theorem keepS7 {w : World} {b o k : Nat} {v v0 v1 v2 v3 v4 v5 v6 : Value} (hne : o ≠ b) (h : w.cell? ⟨o, k, none⟩ = some v) : (((((((w.setCell ⟨b, 0, none⟩ v0).setCell ⟨b, 1, none⟩ v1).setCell ⟨b, 2, none⟩ v2).setCell ⟨b, 3, none⟩ v3).setCell ⟨b, 4, none⟩ v4).setCell ⟨b, 5, none⟩ v5).setCell ⟨b, 6, none⟩ v6).cell? ⟨o, k, none⟩ = some v :=
  keepS hne (keepS hne (keepS hne (keepS hne (keepS hne (keepS hne (keepS hne h))))))
theorem boxB {w wx : World} {C : Array Value} {T : TypeId} (hb : Below (w.heap.size + 1) (w.alloc (.cells C T)) wx) (i : Nat) {v : Value} (hv : C[i]? = some v) : wx.cell? ⟨w.heap.size, i, none⟩ = some v :=
  (hb.cell (p := ⟨w.heap.size, i, none⟩) (by simp)).trans ((World.cell?_alloc_at _ _ _ _ rfl).trans hv)
/-- what a move leaves -/
def DoPost (cb : Nat) (secs : List Sec) (vs : Value) (num md E : Int) (H' : List Hold) (w : World) (e : Ending) (w' : World) : Prop :=
  (E ≠ 0 ∧ e = .returned (.int .i64 E) ∧ Below w.heap.size w w') ∨ (E = 0 ∧ e = .returned (.int .i64 0) ∧ (∃ v', CkIn cb w' secs H' (num + 1) md vs v') ∧ Below cb w w')
theorem do_err {cb : Nat} {secs : List Sec} {vs : Value} {num md E k : Int} {H' : List Hold} {w w' : World} (hE : E = k) (hk : k ≠ 0) (hb : Below w.heap.size w w') : DoPost cb secs vs num md E H' w (.returned (.int .i64 k)) w' := by
  subst hE; exact .inl ⟨hk, rfl, hb⟩
/-- what the search in a move leaves: the security in a box of its own -/
def FoundAt (w : World) (M : Array Value) (s : Sec) (s5 : Value) (wx : World) : Prop :=
  ∃ sb : Nat, s5 = .pointer (some ⟨sb, 0, none⟩) ∧ w.heap.size < sb ∧ wx.cell? ⟨sb, 0, none⟩ = some (.int .i64 s.id) ∧ wx.cell? ⟨sb, 1, none⟩ = some (.int .i64 s.un) ∧ wx.cell? ⟨sb, 2, none⟩ = some (.int .i64 s.is) ∧ wx.cell? ⟨sb, 3, none⟩ = some (.int .i64 s.ma) ∧ Below (w.heap.size + 1) (w.alloc (.cells M 36)) wx
theorem below_undrew {B : Nat} {w w1 : World} (h : Below w.drew.heap.size w.drew w1) : Below w.heap.size w w1 := ⟨h.os, h.tape, h.output, h.size, h.block⟩
theorem found_a {w w1 : World} {M : Array Value} {s : Sec} (hb' : Below (w.alloc (.cells M 36)).drew.heap.size (w.alloc (.cells M 36)).drew w1) :
    FoundAt w M s (.pointer (some ⟨w1.heap.size, 0, none⟩)) (w1.alloc (.cells #[.int .i64 s.id, .int .i64 s.un, .int .i64 s.is, .int .i64 s.ma, .int .i64 s.ra, .int .i64 s.ev, .bool s.ix] 45)) := by
  have hb : Below (w.alloc (.cells M 36)).heap.size (w.alloc (.cells M 36)) w1 := ⟨hb'.os, hb'.tape, hb'.output, hb'.size, hb'.block⟩
  have hz := hb.size
  rw [World.size_alloc] at hz
  rw [World.size_alloc] at hb
  exact ⟨_, rfl, by omega, (World.cell?_alloc_at _ _ _ _ rfl).trans rfl, (World.cell?_alloc_at _ _ _ _ rfl).trans rfl, (World.cell?_alloc_at _ _ _ _ rfl).trans rfl, (World.cell?_alloc_at _ _ _ _ rfl).trans rfl, hb.alloc (by omega) _⟩
theorem set7_cells {w : World} {b : Nat} {v0 v1 v2 v3 v4 v5 v6 : Value} (hc : ∀ i, i < 7 → ∃ u, w.cell? ⟨b, i, none⟩ = some u) :
    (((((((w.setCell ⟨b, 0, none⟩ v0).setCell ⟨b, 1, none⟩ v1).setCell ⟨b, 2, none⟩ v2).setCell ⟨b, 3, none⟩ v3).setCell ⟨b, 4, none⟩ v4).setCell ⟨b, 5, none⟩ v5).setCell ⟨b, 6, none⟩ v6).cell? ⟨b, 0, none⟩ = some v0 ∧
    (((((((w.setCell ⟨b, 0, none⟩ v0).setCell ⟨b, 1, none⟩ v1).setCell ⟨b, 2, none⟩ v2).setCell ⟨b, 3, none⟩ v3).setCell ⟨b, 4, none⟩ v4).setCell ⟨b, 5, none⟩ v5).setCell ⟨b, 6, none⟩ v6).cell? ⟨b, 1, none⟩ = some v1 ∧
    (((((((w.setCell ⟨b, 0, none⟩ v0).setCell ⟨b, 1, none⟩ v1).setCell ⟨b, 2, none⟩ v2).setCell ⟨b, 3, none⟩ v3).setCell ⟨b, 4, none⟩ v4).setCell ⟨b, 5, none⟩ v5).setCell ⟨b, 6, none⟩ v6).cell? ⟨b, 2, none⟩ = some v2 ∧
    (((((((w.setCell ⟨b, 0, none⟩ v0).setCell ⟨b, 1, none⟩ v1).setCell ⟨b, 2, none⟩ v2).setCell ⟨b, 3, none⟩ v3).setCell ⟨b, 4, none⟩ v4).setCell ⟨b, 5, none⟩ v5).setCell ⟨b, 6, none⟩ v6).cell? ⟨b, 3, none⟩ = some v3 := by
  obtain ⟨u0, c0⟩ := hc 0 (by omega)
  obtain ⟨u1, c1⟩ := hc 1 (by omega)
  obtain ⟨u2, c2⟩ := hc 2 (by omega)
  obtain ⟨u3, c3⟩ := hc 3 (by omega)
  refine ⟨?_, ?_, ?_, ?_⟩ <;> simp [go_sem, c0, c1, c2, c3]
theorem found_b {w w1 : World} {M Z : Array Value} {T : TypeId} {s : Sec} (hZ : Z.size = 7) (hb' : Below ((w.alloc (.cells M 36)).alloc (.cells Z T)).drew.heap.size ((w.alloc (.cells M 36)).alloc (.cells Z T)).drew w1) :
    FoundAt w M s (.pointer (some ⟨w.heap.size + 1, 0, none⟩)) (((((((w1.setCell ⟨w.heap.size + 1, 0, none⟩ (.int .i64 s.id)).setCell ⟨w.heap.size + 1, 1, none⟩ (.int .i64 s.un)).setCell ⟨w.heap.size + 1, 2, none⟩ (.int .i64 s.is)).setCell ⟨w.heap.size + 1, 3, none⟩ (.int .i64 s.ma)).setCell ⟨w.heap.size + 1, 4, none⟩ (.int .i64 s.ra)).setCell ⟨w.heap.size + 1, 5, none⟩ (.int .i64 s.ev)).setCell ⟨w.heap.size + 1, 6, none⟩ (.bool s.ix)) := by
  have hb : Below ((w.alloc (.cells M 36)).alloc (.cells Z T)).heap.size ((w.alloc (.cells M 36)).alloc (.cells Z T)) w1 := ⟨hb'.os, hb'.tape, hb'.output, hb'.size, hb'.block⟩
  have hbm : Below (w.heap.size + 1) (w.alloc (.cells M 36)) w1 := ((Below.refl _ _).alloc (by simp) _).trans (hb.mono (by simp))
  have hc : ∀ i, i < 7 → ∃ u, w1.cell? ⟨w.heap.size + 1, i, none⟩ = some u := fun i hi => by
    rw [hb.cell (p := ⟨w.heap.size + 1, i, none⟩) (by simp), World.cell?_alloc_at _ _ _ _ (by simp)]
    exact ⟨Z[i], Array.getElem?_eq_getElem (by omega)⟩
  obtain ⟨q0, q1, q2, q3⟩ := set7_cells (v0 := .int .i64 s.id) (v1 := .int .i64 s.un) (v2 := .int .i64 s.is) (v3 := .int .i64 s.ma) (v4 := .int .i64 s.ra) (v5 := .int .i64 s.ev) (v6 := .bool s.ix) hc
  refine ⟨_, rfl, by omega, q0, q1, q2, q3, ?_⟩
  exact (((((((hbm.setCell (by simp) _).setCell (by simp) _).setCell (by simp) _).setCell (by simp) _).setCell (by simp) _).setCell (by simp) _).setCell (by simp) _)
set_option maxHeartbeats 2000000 in
set_option maxRecDepth 100000 in
theorem do_none (cb : Nat) (secs : List Sec) (hs : List Hold) (num day : Int) (vs v : Value) (mn md mk ms mf mt ma : Int) (w : World) (C : CkIn cb w secs hs num day vs v) (hlen : secs.length ≤ 1000000) (hf : findS secs ms = none) :
    Calls Try.prog 84 #[.pointer (some ⟨cb, 0, none⟩), .agg #[.int .i64 mn, .int .i64 md, .int .i64 mk, .int .i64 ms, .int .i64 mf, .int .i64 mt, .int .i64 ma]] w fun e w' => e = .returned (.int .i64 76) ∧ Below w.heap.size w w' := by
  have h0 := C.h0
  have hcl := C.lt
  have H := Lib.hid (fun W hS => find_no (· < cb) vs secs ms W hS hlen hf)
  have HS := Lib.hid (C.S.alloc (.cells #[.int .i64 mn, .int .i64 md, .int .i64 mk, .int .i64 ms, .int .i64 mf, .int .i64 mt, .int .i64 ma] 36))
  clear C hf
  have h0' : (w.alloc (.cells #[.int .i64 mn, .int .i64 md, .int .i64 mk, .int .i64 ms, .int .i64 mf, .int .i64 mt, .int .i64 ma] 36)).cell? ⟨cb, 0, none⟩ = some vs := (World.cell?_alloc_past _ _ _ hcl).trans h0
  have hne : ¬ cb = w.heap.size + 1 := by omega
  go_enter Try.func84, Try.ntmps84
  go_upto_region 1 with fail
  go_cut [5, 6] (fun s5 s6 wx => s6 = .bool false ∧ FoundAt w #[.int .i64 mn, .int .i64 md, .int .i64 mk, .int .i64 ms, .int .i64 mf, .int .i64 mt, .int .i64 ma] ⟨0, 0, 0, 0, 0, 0, false⟩ s5 wx)
  case first =>
    go_region_with (first | (go_at_call 68; refine (H.out _ ?_).mono ?_; (· first | exact HS.out.drewN 1 | exact (HS.out.alloc _).drewN 1); rintro e w1 ⟨rfl, hb1⟩; obtain ⟨hc1, hf1⟩ := bcell hb1; have hz1 := hb1.size; simp at hz1))
    all_goals (go_wp2_with fail; go_meet)
    all_goals first
      | exact ⟨rfl, found_a (s := ⟨0, 0, 0, 0, 0, 0, false⟩) hb1⟩
      | exact ⟨rfl, found_b (s := ⟨0, 0, 0, 0, 0, 0, false⟩) rfl hb1⟩
  case rest =>
    obtain ⟨rfl, sb, rfl, hsb, s0, s1, s2, s3, hbx⟩ := hcut
    have m2 := boxB hbx 2 rfl
    have HB := Lib.hid hbx
    clear hbx
    by_cases hk : mk = 3
    · subst hk
      go_wp2
      go_ret
      exact ⟨rfl, (bal brefl _).trans (HB.out.mono (by omega))⟩
    · have hk' : (mk == 3) = false := by simpa using hk
      go_wp2
      go_ret
      exact ⟨rfl, (bal brefl _).trans (HB.out.mono (by omega))⟩
end Go.Proofs.Ytjfngogfiafipaa
namespace Go.Proofs.Ytjfngogfiafipaa
open Go.RowKit
set_option linter.unusedVariables false
set_option linter.unusedSimpArgs false

theorem hsOk_sub {hs : List Hold} (h : HsOk hs) {s f a : Int} (ha : 0 ≤ a) (hh : f ≠ 0 → a ≤ heldH hs s f) : HsOk (addZ hs s f (-a)) := by
  unfold addZ
  split
  · exact h
  · rename_i hf
    have hle := hh hf
    refine ⟨addH_srt _ h.srt, addH_pos _ h.srt h.pos (by omega), fun s' => ?_⟩
    rw [addH_out]
    have := h.out s'
    split <;> omega
theorem hsOk_add {hs : List Hold} (h : HsOk hs) {s f a : Int} (ha : 0 ≤ a) (hh : outH hs s + a ≤ 1000000000000) : HsOk (addZ hs s f a) := by
  unfold addZ
  split
  · exact h
  · refine ⟨addH_srt _ h.srt, addH_pos _ h.srt h.pos (by have := heldH_nonneg h.pos s f; omega), fun s' => ?_⟩
    rw [addH_out]
    have := h.out s'
    split
    · rename_i e; subst e; omega
    · omega
theorem addZ_len (L : List Hold) (s f n : Int) : (addZ L s f n).length ≤ L.length + 1 := by
  unfold addZ
  split
  · omega
  · exact addH_len ..
theorem addZ_out (L : List Hold) (s h n s' : Int) : outH (addZ L s h n) s' = outH L s' + if s = s' ∧ h ≠ 0 then n else 0 := by
  unfold addZ
  split
  · rename_i h0; simp [h0]
  · rename_i h0; rw [addH_out]; simp [h0]
theorem addZ_held {L : List Hold} (hs : srtH L) (s h n s' h' : Int) (h0 : h' ≠ 0) : heldH (addZ L s h n) s' h' = heldH L s' h' + if s = s' ∧ h = h' then n else 0 := by
  unfold addZ
  split
  · rename_i hz
    rw [if_neg (by omega)]; omega
  · exact addH_held n s' h' hs
/-- what a move that is possible fulfils -/
structure MvOk (secs : List Sec) (hs : List Hold) (day : Int) (m : Mv) : Prop where
  a0 : 0 < m.a
  a1 : m.a ≤ 1000000000000
  st : strangeB m = false
  he : m.f ≠ 0 → m.a ≤ heldH hs m.s m.f
  ou : m.f = 0 → outH hs m.s + m.a ≤ 1000000000000
  fi : ∃ s, findS secs m.s = some s ∧ m.a % s.un = 0 ∧ max day s.is ≤ m.day ∧ m.day ≤ (if m.kind = 3 then 36000 else s.ma)
theorem mvOk_iff {secs : List Sec} {hs : List Hold} {day : Int} {m : Mv} : mvE secs hs day m = 0 ↔ MvOk secs hs day m := by
  unfold mvE
  cases hf : findS secs m.s with
  | none =>
    simp only
    exact ⟨fun h => by omega, fun h => by obtain ⟨s, h1, _⟩ := h.fi; rw [hf] at h1; cases h1⟩
  | some s =>
    simp only
    unfold mvE1
    constructor
    · intro h
      by_cases hd : inB m.day (max day s.is) (if m.kind = 3 then 36000 else s.ma) = true
      · rw [if_pos hd] at h
        by_cases hu : 0 < m.a ∧ m.a ≤ 1000000000000 ∧ m.a % s.un = 0
        · rw [if_pos hu] at h
          by_cases hst : strangeB m = true
          · rw [if_pos hst] at h; omega
          · rw [if_neg hst] at h
            by_cases h1 : m.f ≠ 0 ∧ heldH hs m.s m.f < m.a
            · rw [if_pos h1] at h; omega
            · rw [if_neg h1] at h
              by_cases h2 : m.f = 0 ∧ 1000000000000 < outH hs m.s + m.a
              · rw [if_pos h2] at h; omega
              · exact ⟨hu.1, hu.2.1, by simpa using hst, fun q => by have := fun r => h1 ⟨q, r⟩; omega, fun q => by have := fun r => h2 ⟨q, r⟩; omega, s, hf, hu.2.2, (inB_iff.1 hd).1, (inB_iff.1 hd).2⟩
        · rw [if_neg hu] at h; omega
      · rw [if_neg hd] at h; omega
    · rintro ⟨a0, a1, st, he, ou, s', h1, h2, h3, h4⟩
      rw [hf] at h1
      cases h1
      rw [if_pos (inB_iff.2 ⟨h3, h4⟩), if_pos ⟨a0, a1, h2⟩, st, if_neg (by simp), if_neg (fun q => by have := he q.1; omega), if_neg (fun q => by have := ou q.1; omega)]
theorem mvH_ok {secs : List Sec} {hs : List Hold} {day : Int} {m : Mv} (h : HsOk hs) (hm : MvOk secs hs day m) : HsOk (mvH hs m) := by
  have a0 := hm.a0
  refine hsOk_add (hsOk_sub h (by omega) hm.he) (by omega) ?_
  rw [addZ_out]
  by_cases hf : m.f = 0
  · simp [hf]; exact hm.ou hf
  · have := h.out m.s
    simp [hf]; omega
theorem mvH_len (hs : List Hold) (m : Mv) : (mvH hs m).length ≤ hs.length + 2 := by
  unfold mvH
  have h1 := addZ_len hs m.s m.f (-m.a)
  have h2 := addZ_len (addZ hs m.s m.f (-m.a)) m.s m.t m.a
  omega
/-- a move of a list of moves is right -/
def stepB (secs : List Sec) (n d : Int) (hs : List Hold) (m : Mv) : Bool := decide (m.num = n + 1) && (inB m.kind 1 3 && decide (mvE secs hs d m = 0))
/-- the moves, one after the other, as long as they are wanted -/
def repl (secs : List Sec) (want : Mv → Bool) : List Mv → Int → Int → List Hold → Bool × Int × Int × List Hold
  | [], n, d, hs => (true, n, d, hs)
  | m :: ms, n, d, hs => if want m then (if stepB secs n d hs m then repl secs want ms (n + 1) m.day (mvH hs m) else (false, n, d, hs)) else (true, n, d, hs)
theorem stepB_iff {secs : List Sec} {n d : Int} {hs : List Hold} {m : Mv} : stepB secs n d hs m = true ↔ m.num = n + 1 ∧ (1 ≤ m.kind ∧ m.kind ≤ 3) ∧ MvOk secs hs d m := by
  unfold stepB
  rw [Bool.and_eq_true, Bool.and_eq_true, decide_eq_true_eq, decide_eq_true_eq, inB_iff, mvOk_iff]
theorem repl_ok (secs : List Sec) (want : Mv → Bool) : ∀ (ms : List Mv) (n d : Int) (hs : List Hold), HsOk hs → HsOk (repl secs want ms n d hs).2.2.2
  | [], n, d, hs, h => h
  | m :: ms, n, d, hs, h => by
    simp only [repl]
    split
    · split
      · rename_i hq
        exact repl_ok secs want ms _ _ _ (mvH_ok h (stepB_iff.1 hq).2.2)
      · exact h
    · exact h
theorem repl_len (secs : List Sec) (want : Mv → Bool) : ∀ (ms : List Mv) (n d : Int) (hs : List Hold), (repl secs want ms n d hs).2.2.2.length ≤ hs.length + 2 * ms.length
  | [], n, d, hs => by simp [repl]
  | m :: ms, n, d, hs => by
    simp only [repl]
    have h1 := mvH_len hs m
    split
    · split
      · have := repl_len secs want ms (n + 1) m.day (mvH hs m)
        simp only [List.length_cons]; omega
      · simp only [List.length_cons]; omega
    · simp only [List.length_cons]; omega
/-- the securities are valid and ascend, behind an ID -/
def secsB : Int → List Sec → Bool
  | _, [] => true
  | p, s :: L => secOk s && (decide (p < s.id) && secsB s.id L)
theorem secsB_all : ∀ {p : Int} {L : List Sec}, secsB p L = true → ∀ s ∈ L, secOk s = true
  | p, [], _, s, hs => by simp at hs
  | p, x :: L, h, s, hs => by
    simp only [secsB, Bool.and_eq_true] at h
    rcases List.mem_cons.1 hs with rfl | hs
    · exact h.1
    · exact secsB_all h.2.2 s hs
theorem secOk_un {s : Sec} (h : secOk s = true) : 1 ≤ s.un ∧ s.un ≤ 1000000000 := by
  have := secB_iff.1 h
  exact ⟨this.un0, this.un1⟩
structure Reg where
  secs : List Sec
  hs : List Hold
  ms : List Mv
def wantAll (m : Mv) : Bool := true
def wantDay (day : Int) (m : Mv) : Bool := decide (m.day ≤ day)
/-- two lists of holdings are one -/
def eqHs : List Hold → List Hold → Bool
  | [], [] => true
  | x :: L, y :: M => decide (x.s = y.s ∧ x.h = y.h ∧ x.a = y.a) && eqHs L M
  | _, _ => false
theorem eqHs_iff : ∀ {L M : List Hold}, eqHs L M = true ↔ L = M
  | [], [] => by simp [eqHs]
  | [], _ :: _ => by simp [eqHs]
  | _ :: _, [] => by simp [eqHs]
  | ⟨s, h, a⟩ :: L, ⟨s', h', a'⟩ :: M => by
    simp only [eqHs, Bool.and_eq_true, decide_eq_true_eq, List.cons.injEq, Hold.mk.injEq]
    rw [eqHs_iff]
/-- the holdings are those that the moves make -/
def movesB (R : Reg) : Bool := (repl R.secs wantAll R.ms 0 0 []).1 && eqHs (repl R.secs wantAll R.ms 0 0 []).2.2.2 R.hs
/-- what is wrong with a register -/
def chkE (R : Reg) : Int := if 20 < R.secs.length ∨ 400 < R.ms.length then 3 else if secsB 0 R.secs then (if movesB R then 0 else 78) else 78
end Go.Proofs.Ytjfngogfiafipaa
