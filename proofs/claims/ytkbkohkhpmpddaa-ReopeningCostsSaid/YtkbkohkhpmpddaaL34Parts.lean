/- CouponParts. -/
import Derived.Test.YtkbkohkhpmpddaaL34Base
namespace Go.Proofs.Ytkbkohkhpmpddaa
open Go.RowKit
set_option linter.unusedVariables false

theorem secLike_ok {un is ma ra ev : Int} (h : SecLike un is ma ra ev) : SecOk 1 un is ma ra ev := by
  obtain ⟨h1, h2, h3, h4, h5, k, k0, k1, hk⟩ := h
  simp only [List.mem_cons, List.not_mem_nil, or_false] at h1 h2 h3 h4
  have hk' : ma = is + 30 * k ∧ (ev = 0 ∨ ev = 1) ∨ ma = is + 90 * k ∧ ev = 3 ∨ ma = is + 180 * k ∧ ev = 6 ∨ ma = is + 360 * k ∧ ev = 12 := by
    rcases h4 with rfl | rfl | rfl | rfl | rfl
    · exact .inl ⟨by rw [hk, show (max (0 : Int) 1) = 1 from rfl]; omega, .inl rfl⟩
    · exact .inl ⟨by rw [hk, show (max (1 : Int) 1) = 1 from rfl]; omega, .inr rfl⟩
    · exact .inr (.inl ⟨by rw [hk, show (max (3 : Int) 1) = 3 from rfl]; omega, rfl⟩)
    · exact .inr (.inr (.inl ⟨by rw [hk, show (max (6 : Int) 1) = 6 from rfl]; omega, rfl⟩))
    · exact .inr (.inr (.inr ⟨by rw [hk, show (max (12 : Int) 1) = 12 from rfl]; omega, rfl⟩))
  clear hk
  exact ⟨by omega, by omega, by omega, by omega, by omega, by omega, by omega, by omega, by omega, by omega, by omega⟩
theorem secLike_bd {un is ma ra ev : Int} (h : SecLike un is ma ra ev) : 0 ≤ is ∧ is ≤ 100 ∧ is + 30 ≤ ma ∧ ma ≤ is + 1800 ∧ 0 ≤ ra ∧ ra ≤ 5000 ∧ 0 ≤ ev ∧ ev ≤ 12 := by
  have hs := secLike_ok h
  obtain ⟨h1, h2, h3, h4, h5, k, k0, k1, hk⟩ := h
  simp only [List.mem_cons, List.not_mem_nil, or_false] at h1 h2 h3 h4
  have m : ma ≤ is + 1800 := by
    rcases h4 with rfl | rfl | rfl | rfl | rfl
    · rw [hk, show (max (0 : Int) 1) = 1 from rfl]; omega
    · rw [hk, show (max (1 : Int) 1) = 1 from rfl]; omega
    · rw [hk, show (max (3 : Int) 1) = 3 from rfl]; omega
    · rw [hk, show (max (6 : Int) 1) = 6 from rfl]; omega
    · rw [hk, show (max (12 : Int) 1) = 12 from rfl]; omega
  have := hs.ma0
  clear hk
  omega
theorem cpN_eq {id un is ma ra ev n : Int} (h : ccE id un is ma ra ev n = 0) : cpN id un is ma ra ev n = (n * ra * ev + 600000) / 1200000 := if_pos h
theorem cp_parts {id un is ma ra ev a b : Int} (hs : SecOk id un is ma ra ev) (a0 : 0 ≤ a) (a1 : a ≤ 65535) (b0 : 0 ≤ b) (b1 : b ≤ 65535) :
    ccE id un is ma ra ev a = 0 ∧ ccE id un is ma ra ev b = 0 ∧ ccE id un is ma ra ev (a + b) = 0 ∧ 0 ≤ cpN id un is ma ra ev a ∧ 0 ≤ cpN id un is ma ra ev b ∧ cpN id un is ma ra ev (a + b) ≤ 1000000000000000 ∧
    cpN id un is ma ra ev (a + b) - 1 ≤ cpN id un is ma ra ev a + cpN id un is ma ra ev b ∧ cpN id un is ma ra ev a + cpN id un is ma ra ev b ≤ cpN id un is ma ra ev (a + b) + 1 ∧ cpN id un is ma ra ev a ≤ cpN id un is ma ra ev (a + b) ∧ cpN id un is ma ra ev b ≤ cpN id un is ma ra ev (a + b) := by
  have e1 := ccE_of hs a0 (show a ≤ 1000000000000 by omega)
  have e2 := ccE_of hs b0 (show b ≤ 1000000000000 by omega)
  have e3 := ccE_of hs (show 0 ≤ a + b by omega) (show a + b ≤ 1000000000000 by omega)
  refine ⟨e1, e2, e3, ?_⟩
  rw [cpN_eq e1, cpN_eq e2, cpN_eq e3, Int.add_mul, Int.add_mul]
  have hev : 0 ≤ ev ∧ ev ≤ 12 := by have := hs.ev; omega
  obtain ⟨p0, p1⟩ := mul_bd a0 a1 hs.ra0 hs.ra1
  obtain ⟨p2, p3⟩ := mul_bd p0 p1 hev.1 hev.2
  obtain ⟨q0, q1⟩ := mul_bd b0 b1 hs.ra0 hs.ra1
  obtain ⟨q2, q3⟩ := mul_bd q0 q1 hev.1 hev.2
  omega

set_option maxHeartbeats 1000000 in
theorem parts_walk (a0 : Option Addr) (len0 cap0 : Nat) (a b : Int) (w : World) (h1 : len0 ≤ cap0) (h2 : cap0 ≤ maxLen) (hz : len0 = 0 ∨ ∃ b off, a0 = some ⟨b, off, none⟩ ∧ ∀ i, i < len0 → ∃ z : Int, w.cell? ⟨b, off + i, none⟩ = some (.int .i64 z)) (x0 : 0 ≤ a) (x1 : a ≤ 65535) (y0 : 0 ≤ b) (y1 : b ≤ 65535) :
    Calls Try.prog 3 #[.slice a0 len0 cap0, .int .u16 a, .int .u16 b] w fun e w' => e = .returned (.bool true) ∧ Below w.heap.size w w' := by
  go_enter Try.func3, Try.ntmps3
  go_wp2_with fail
  refine (new_any a0 len0 cap0 w h1 h2 hz).mono ?_
  rintro e w1 ⟨sb, rfl, hsb, hS1, hB1⟩
  clear hz
  go_wp2_with fail
  refine (srcsec_any sb 1 _ hS1).mono ?_
  rintro e w2 ⟨un, is, ma, ra, ev, ix, hl, rfl, hS2, hG2⟩
  have hB2 : Below w.heap.size w w2 := hB1.trans (below_of_grown hG2 hsb hB1.size)
  obtain ⟨c1, c2, c3, p0, q0, w0, l1, l2, l3, l4⟩ := cp_parts (secLike_ok hl) x0 x1 y0 y1
  have C := Lib.hid (And.intro c1 (And.intro c2 c3))
  clear hl hB1 hG2 c1 c2 c3
  have z2 := hB2.size
  go_wp2_with fail
  refine (coupon_any _ _ _ _ _ _ _ _ _).mono ?_
  rw [C.out.1]
  rintro e w3 ⟨rfl, hb3⟩
  obtain ⟨hc3, hf3⟩ := bcell hb3
  have hB3 : Below w.heap.size w w3 := below_up' (hB2.alloc hB2.size _) hb3
  have z3 : w2.heap.size < w3.heap.size := by have := hb3.size; simp at this; omega
  go_wp2_with fail
  refine (coupon_any _ _ _ _ _ _ _ _ _).mono ?_
  rw [C.out.2.1]
  rintro e w4 ⟨rfl, hb4⟩
  obtain ⟨hc4, hf4⟩ := bcell hb4
  have z4 := hb4.size
  go_wp2_with fail
  refine (coupon_any _ _ _ _ _ _ _ _ _).mono ?_
  rw [C.out.2.2]
  rintro e w5 ⟨rfl, hb5⟩
  have hB5 := below_up' (below_up' hB3 hb4) hb5
  go_wp2_with (go_at_call 17; refine (sane34_any _).mono ?_; rintro e w6 ⟨rfl, hb6⟩)
  go_ret
  exact ⟨rfl, below_up' hB5 (by assumption)⟩
end Go.Proofs.Ytkbkohkhpmpddaa
