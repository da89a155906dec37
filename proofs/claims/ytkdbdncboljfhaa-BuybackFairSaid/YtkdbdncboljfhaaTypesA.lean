/- The structs of the program as Lean structures: their cells, their reading out of a slice. Printed by wip/gen/typesa.py. -/
import Derived.Test.YtkdbdncboljfhaaRow
namespace Go.Proofs.Ytkdbdncboljfhaa
open Go.RowKit
set_option linter.unusedVariables false

structure Bid where
  bd : Int
  num : Int
  p : Int
  a : Int
  f : Bool
def encBid (a : Bid) : List Value := [.int .i64 a.bd, .int .i64 a.num, .int .i64 a.p, .int .i64 a.a, .bool a.f]
theorem encBid_len (a : Bid) : (encBid a).length = 5 := rfl
theorem oneBid (a : Bid) : ∀ u ∈ encBid a, u.oneCell' = true := by
  intro u hu
  simp only [encBid, List.mem_cons, List.not_mem_nil, or_false] at hu
  rcases hu with rfl | rfl | rfl | rfl | rfl <;> rfl
theorem Sl.bid {P : Nat → Prop} {w : World} {ao : Option Addr} {n c k : Nat} {L : List Bid} (h : Sl 5 encBid P w (.slice ao n c) L) (hk : k < n) :
    ∃ b off vbd vnum vp va vf, ao = some ⟨b, off, none⟩ ∧ P b ∧ b < w.heap.size ∧ L[k]? = some ⟨vbd, vnum, vp, va, vf⟩ ∧ w.cell? ⟨b, off + k * 5, none⟩ = some (.int .i64 vbd) ∧ w.cell? ⟨b, off + k * 5 + 1, none⟩ = some (.int .i64 vnum) ∧ w.cell? ⟨b, off + k * 5 + 2, none⟩ = some (.int .i64 vp) ∧ w.cell? ⟨b, off + k * 5 + 3, none⟩ = some (.int .i64 va) ∧ w.cell? ⟨b, off + k * 5 + 4, none⟩ = some (.bool vf) := by
  obtain ⟨b, off, ⟨vbd, vnum, vp, va, vf⟩, h1, h2, h3, h4, h5⟩ := h.at_ hk
  exact ⟨b, off, vbd, vnum, vp, va, vf, h1, h2, h3, h4, h5 0 _ rfl, h5 1 _ rfl, h5 2 _ rfl, h5 3 _ rfl, h5 4 _ rfl⟩
structure Awd where
  bd : Int
  num : Int
  a : Int
  p : Int
def encAwd (a : Awd) : List Value := [.int .i64 a.bd, .int .i64 a.num, .int .i64 a.a, .int .i64 a.p]
theorem encAwd_len (a : Awd) : (encAwd a).length = 4 := rfl
theorem oneAwd (a : Awd) : ∀ u ∈ encAwd a, u.oneCell' = true := by
  intro u hu
  simp only [encAwd, List.mem_cons, List.not_mem_nil, or_false] at hu
  rcases hu with rfl | rfl | rfl | rfl <;> rfl
theorem Sl.awd {P : Nat → Prop} {w : World} {ao : Option Addr} {n c k : Nat} {L : List Awd} (h : Sl 4 encAwd P w (.slice ao n c) L) (hk : k < n) :
    ∃ b off vbd vnum va vp, ao = some ⟨b, off, none⟩ ∧ P b ∧ b < w.heap.size ∧ L[k]? = some ⟨vbd, vnum, va, vp⟩ ∧ w.cell? ⟨b, off + k * 4, none⟩ = some (.int .i64 vbd) ∧ w.cell? ⟨b, off + k * 4 + 1, none⟩ = some (.int .i64 vnum) ∧ w.cell? ⟨b, off + k * 4 + 2, none⟩ = some (.int .i64 va) ∧ w.cell? ⟨b, off + k * 4 + 3, none⟩ = some (.int .i64 vp) := by
  obtain ⟨b, off, ⟨vbd, vnum, va, vp⟩, h1, h2, h3, h4, h5⟩ := h.at_ hk
  exact ⟨b, off, vbd, vnum, va, vp, h1, h2, h3, h4, h5 0 _ rfl, h5 1 _ rfl, h5 2 _ rfl, h5 3 _ rfl⟩
theorem infoAwd : (Try.prog.info? 61).map (fun i => (i.zero, i.size, i.bytes)) = some (some (.agg #[.int .i64 0, .int .i64 0, .int .i64 0, .int .i64 0]), 4, 32) := by kernel_rfl
structure Tdr where
  h : Int
  n : Int
  p : Int
  a : Int
def encTdr (a : Tdr) : List Value := [.int .i64 a.h, .int .i64 a.n, .int .i64 a.p, .int .i64 a.a]
theorem encTdr_len (a : Tdr) : (encTdr a).length = 4 := rfl
theorem oneTdr (a : Tdr) : ∀ u ∈ encTdr a, u.oneCell' = true := by
  intro u hu
  simp only [encTdr, List.mem_cons, List.not_mem_nil, or_false] at hu
  rcases hu with rfl | rfl | rfl | rfl <;> rfl
theorem Sl.tdr {P : Nat → Prop} {w : World} {ao : Option Addr} {n c k : Nat} {L : List Tdr} (h : Sl 4 encTdr P w (.slice ao n c) L) (hk : k < n) :
    ∃ b off vh vn vp va, ao = some ⟨b, off, none⟩ ∧ P b ∧ b < w.heap.size ∧ L[k]? = some ⟨vh, vn, vp, va⟩ ∧ w.cell? ⟨b, off + k * 4, none⟩ = some (.int .i64 vh) ∧ w.cell? ⟨b, off + k * 4 + 1, none⟩ = some (.int .i64 vn) ∧ w.cell? ⟨b, off + k * 4 + 2, none⟩ = some (.int .i64 vp) ∧ w.cell? ⟨b, off + k * 4 + 3, none⟩ = some (.int .i64 va) := by
  obtain ⟨b, off, ⟨vh, vn, vp, va⟩, h1, h2, h3, h4, h5⟩ := h.at_ hk
  exact ⟨b, off, vh, vn, vp, va, h1, h2, h3, h4, h5 0 _ rfl, h5 1 _ rfl, h5 2 _ rfl, h5 3 _ rfl⟩
theorem infoTdr : (Try.prog.info? 28).map (fun i => (i.zero, i.size, i.bytes)) = some (some (.agg #[.int .i64 0, .int .i64 0, .int .i64 0, .int .i64 0]), 4, 32) := by kernel_rfl
end Go.Proofs.Ytkdbdncboljfhaa
