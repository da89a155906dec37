/- The structs of the program as Lean structures: their cells, their reading out of a slice. Printed by wip/gen/types.py. -/
import Derived.Test.YthjaofgdickkaaaGreatRow
namespace Go.Proofs.YthjaofgdickkaaaGreat
open Go.RowKit
set_option linter.unusedVariables false

structure Sec where
  id : Int
  un : Int
  is : Int
  ma : Int
  ra : Int
  ev : Int
  ix : Bool
def encSec (a : Sec) : List Value := [.int .i64 a.id, .int .i64 a.un, .int .i64 a.is, .int .i64 a.ma, .int .i64 a.ra, .int .i64 a.ev, .bool a.ix]
theorem encSec_len (a : Sec) : (encSec a).length = 7 := rfl
theorem oneSec (a : Sec) : ∀ u ∈ encSec a, u.oneCell' = true := by
  intro u hu
  simp only [encSec, List.mem_cons, List.not_mem_nil, or_false] at hu
  rcases hu with rfl | rfl | rfl | rfl | rfl | rfl | rfl <;> rfl
theorem Sl.sec {P : Nat → Prop} {w : World} {ao : Option Addr} {n c k : Nat} {L : List Sec} (h : Sl 7 encSec P w (.slice ao n c) L) (hk : k < n) :
    ∃ b off vid vun vis vma vra vev vix, ao = some ⟨b, off, none⟩ ∧ P b ∧ b < w.heap.size ∧ L[k]? = some ⟨vid, vun, vis, vma, vra, vev, vix⟩ ∧ w.cell? ⟨b, off + k * 7, none⟩ = some (.int .i64 vid) ∧ w.cell? ⟨b, off + k * 7 + 1, none⟩ = some (.int .i64 vun) ∧ w.cell? ⟨b, off + k * 7 + 2, none⟩ = some (.int .i64 vis) ∧ w.cell? ⟨b, off + k * 7 + 3, none⟩ = some (.int .i64 vma) ∧ w.cell? ⟨b, off + k * 7 + 4, none⟩ = some (.int .i64 vra) ∧ w.cell? ⟨b, off + k * 7 + 5, none⟩ = some (.int .i64 vev) ∧ w.cell? ⟨b, off + k * 7 + 6, none⟩ = some (.bool vix) := by
  obtain ⟨b, off, ⟨vid, vun, vis, vma, vra, vev, vix⟩, h1, h2, h3, h4, h5⟩ := h.at_ hk
  exact ⟨b, off, vid, vun, vis, vma, vra, vev, vix, h1, h2, h3, h4, h5 0 _ rfl, h5 1 _ rfl, h5 2 _ rfl, h5 3 _ rfl, h5 4 _ rfl, h5 5 _ rfl, h5 6 _ rfl⟩
theorem infoSec : (Tryz.prog.info? 26).map (fun i => (i.zero, i.size, i.bytes)) = some (some (.agg #[.int .i64 0, .int .i64 0, .int .i64 0, .int .i64 0, .int .i64 0, .int .i64 0, .bool false]), 7, 56) := by kernel_rfl
structure Hold where
  s : Int
  h : Int
  a : Int
def encHold (a : Hold) : List Value := [.int .i64 a.s, .int .i64 a.h, .int .i64 a.a]
theorem encHold_len (a : Hold) : (encHold a).length = 3 := rfl
theorem oneHold (a : Hold) : ∀ u ∈ encHold a, u.oneCell' = true := by
  intro u hu
  simp only [encHold, List.mem_cons, List.not_mem_nil, or_false] at hu
  rcases hu with rfl | rfl | rfl <;> rfl
theorem Sl.hold {P : Nat → Prop} {w : World} {ao : Option Addr} {n c k : Nat} {L : List Hold} (h : Sl 3 encHold P w (.slice ao n c) L) (hk : k < n) :
    ∃ b off vs vh va, ao = some ⟨b, off, none⟩ ∧ P b ∧ b < w.heap.size ∧ L[k]? = some ⟨vs, vh, va⟩ ∧ w.cell? ⟨b, off + k * 3, none⟩ = some (.int .i64 vs) ∧ w.cell? ⟨b, off + k * 3 + 1, none⟩ = some (.int .i64 vh) ∧ w.cell? ⟨b, off + k * 3 + 2, none⟩ = some (.int .i64 va) := by
  obtain ⟨b, off, ⟨vs, vh, va⟩, h1, h2, h3, h4, h5⟩ := h.at_ hk
  exact ⟨b, off, vs, vh, va, h1, h2, h3, h4, h5 0 _ rfl, h5 1 _ rfl, h5 2 _ rfl⟩
theorem infoHold : (Tryz.prog.info? 171).map (fun i => (i.zero, i.size, i.bytes)) = some (some (.agg #[.int .i64 0, .int .i64 0, .int .i64 0]), 3, 24) := by kernel_rfl
structure Mv where
  num : Int
  day : Int
  kind : Int
  s : Int
  f : Int
  t : Int
  a : Int
def encMv (a : Mv) : List Value := [.int .i64 a.num, .int .i64 a.day, .int .i64 a.kind, .int .i64 a.s, .int .i64 a.f, .int .i64 a.t, .int .i64 a.a]
theorem encMv_len (a : Mv) : (encMv a).length = 7 := rfl
theorem oneMv (a : Mv) : ∀ u ∈ encMv a, u.oneCell' = true := by
  intro u hu
  simp only [encMv, List.mem_cons, List.not_mem_nil, or_false] at hu
  rcases hu with rfl | rfl | rfl | rfl | rfl | rfl | rfl <;> rfl
theorem Sl.mv {P : Nat → Prop} {w : World} {ao : Option Addr} {n c k : Nat} {L : List Mv} (h : Sl 7 encMv P w (.slice ao n c) L) (hk : k < n) :
    ∃ b off vnum vday vkind vs vf vt va, ao = some ⟨b, off, none⟩ ∧ P b ∧ b < w.heap.size ∧ L[k]? = some ⟨vnum, vday, vkind, vs, vf, vt, va⟩ ∧ w.cell? ⟨b, off + k * 7, none⟩ = some (.int .i64 vnum) ∧ w.cell? ⟨b, off + k * 7 + 1, none⟩ = some (.int .i64 vday) ∧ w.cell? ⟨b, off + k * 7 + 2, none⟩ = some (.int .i64 vkind) ∧ w.cell? ⟨b, off + k * 7 + 3, none⟩ = some (.int .i64 vs) ∧ w.cell? ⟨b, off + k * 7 + 4, none⟩ = some (.int .i64 vf) ∧ w.cell? ⟨b, off + k * 7 + 5, none⟩ = some (.int .i64 vt) ∧ w.cell? ⟨b, off + k * 7 + 6, none⟩ = some (.int .i64 va) := by
  obtain ⟨b, off, ⟨vnum, vday, vkind, vs, vf, vt, va⟩, h1, h2, h3, h4, h5⟩ := h.at_ hk
  exact ⟨b, off, vnum, vday, vkind, vs, vf, vt, va, h1, h2, h3, h4, h5 0 _ rfl, h5 1 _ rfl, h5 2 _ rfl, h5 3 _ rfl, h5 4 _ rfl, h5 5 _ rfl, h5 6 _ rfl⟩
theorem infoMv : (Tryz.prog.info? 174).map (fun i => (i.zero, i.size, i.bytes)) = some (some (.agg #[.int .i64 0, .int .i64 0, .int .i64 0, .int .i64 0, .int .i64 0, .int .i64 0, .int .i64 0]), 7, 56) := by kernel_rfl
structure Due where
  day : Int
  s : Int
  h : Int
  kind : Int
  a : Int
def encDue (a : Due) : List Value := [.int .i64 a.day, .int .i64 a.s, .int .i64 a.h, .int .i64 a.kind, .int .i64 a.a]
theorem encDue_len (a : Due) : (encDue a).length = 5 := rfl
theorem oneDue (a : Due) : ∀ u ∈ encDue a, u.oneCell' = true := by
  intro u hu
  simp only [encDue, List.mem_cons, List.not_mem_nil, or_false] at hu
  rcases hu with rfl | rfl | rfl | rfl | rfl <;> rfl
theorem Sl.due {P : Nat → Prop} {w : World} {ao : Option Addr} {n c k : Nat} {L : List Due} (h : Sl 5 encDue P w (.slice ao n c) L) (hk : k < n) :
    ∃ b off vday vs vh vkind va, ao = some ⟨b, off, none⟩ ∧ P b ∧ b < w.heap.size ∧ L[k]? = some ⟨vday, vs, vh, vkind, va⟩ ∧ w.cell? ⟨b, off + k * 5, none⟩ = some (.int .i64 vday) ∧ w.cell? ⟨b, off + k * 5 + 1, none⟩ = some (.int .i64 vs) ∧ w.cell? ⟨b, off + k * 5 + 2, none⟩ = some (.int .i64 vh) ∧ w.cell? ⟨b, off + k * 5 + 3, none⟩ = some (.int .i64 vkind) ∧ w.cell? ⟨b, off + k * 5 + 4, none⟩ = some (.int .i64 va) := by
  obtain ⟨b, off, ⟨vday, vs, vh, vkind, va⟩, h1, h2, h3, h4, h5⟩ := h.at_ hk
  exact ⟨b, off, vday, vs, vh, vkind, va, h1, h2, h3, h4, h5 0 _ rfl, h5 1 _ rfl, h5 2 _ rfl, h5 3 _ rfl, h5 4 _ rfl⟩
theorem infoDue : (Tryz.prog.info? 180).map (fun i => (i.zero, i.size, i.bytes)) = some (some (.agg #[.int .i64 0, .int .i64 0, .int .i64 0, .int .i64 0, .int .i64 0]), 5, 40) := by kernel_rfl
structure Flow where
  day : Int
  a : Int
  kind : Int
  ref : Int
def encFlow (a : Flow) : List Value := [.int .i64 a.day, .int .i64 a.a, .int .i64 a.kind, .int .i64 a.ref]
theorem encFlow_len (a : Flow) : (encFlow a).length = 4 := rfl
theorem oneFlow (a : Flow) : ∀ u ∈ encFlow a, u.oneCell' = true := by
  intro u hu
  simp only [encFlow, List.mem_cons, List.not_mem_nil, or_false] at hu
  rcases hu with rfl | rfl | rfl | rfl <;> rfl
theorem Sl.flow {P : Nat → Prop} {w : World} {ao : Option Addr} {n c k : Nat} {L : List Flow} (h : Sl 4 encFlow P w (.slice ao n c) L) (hk : k < n) :
    ∃ b off vday va vkind vref, ao = some ⟨b, off, none⟩ ∧ P b ∧ b < w.heap.size ∧ L[k]? = some ⟨vday, va, vkind, vref⟩ ∧ w.cell? ⟨b, off + k * 4, none⟩ = some (.int .i64 vday) ∧ w.cell? ⟨b, off + k * 4 + 1, none⟩ = some (.int .i64 va) ∧ w.cell? ⟨b, off + k * 4 + 2, none⟩ = some (.int .i64 vkind) ∧ w.cell? ⟨b, off + k * 4 + 3, none⟩ = some (.int .i64 vref) := by
  obtain ⟨b, off, ⟨vday, va, vkind, vref⟩, h1, h2, h3, h4, h5⟩ := h.at_ hk
  exact ⟨b, off, vday, va, vkind, vref, h1, h2, h3, h4, h5 0 _ rfl, h5 1 _ rfl, h5 2 _ rfl, h5 3 _ rfl⟩
theorem infoFlow : (Tryz.prog.info? 216).map (fun i => (i.zero, i.size, i.bytes)) = some (some (.agg #[.int .i64 0, .int .i64 0, .int .i64 0, .int .i64 0]), 4, 32) := by kernel_rfl
structure Stp where
  s : Int
  d : Int
  p : Bool
  h : Int
  a : Int
def encStp (a : Stp) : List Value := [.int .i64 a.s, .int .i64 a.d, .bool a.p, .int .i64 a.h, .int .i64 a.a]
theorem encStp_len (a : Stp) : (encStp a).length = 5 := rfl
theorem oneStp (a : Stp) : ∀ u ∈ encStp a, u.oneCell' = true := by
  intro u hu
  simp only [encStp, List.mem_cons, List.not_mem_nil, or_false] at hu
  rcases hu with rfl | rfl | rfl | rfl | rfl <;> rfl
theorem Sl.stp {P : Nat → Prop} {w : World} {ao : Option Addr} {n c k : Nat} {L : List Stp} (h : Sl 5 encStp P w (.slice ao n c) L) (hk : k < n) :
    ∃ b off vs vd vp vh va, ao = some ⟨b, off, none⟩ ∧ P b ∧ b < w.heap.size ∧ L[k]? = some ⟨vs, vd, vp, vh, va⟩ ∧ w.cell? ⟨b, off + k * 5, none⟩ = some (.int .i64 vs) ∧ w.cell? ⟨b, off + k * 5 + 1, none⟩ = some (.int .i64 vd) ∧ w.cell? ⟨b, off + k * 5 + 2, none⟩ = some (.bool vp) ∧ w.cell? ⟨b, off + k * 5 + 3, none⟩ = some (.int .i64 vh) ∧ w.cell? ⟨b, off + k * 5 + 4, none⟩ = some (.int .i64 va) := by
  obtain ⟨b, off, ⟨vs, vd, vp, vh, va⟩, h1, h2, h3, h4, h5⟩ := h.at_ hk
  exact ⟨b, off, vs, vd, vp, vh, va, h1, h2, h3, h4, h5 0 _ rfl, h5 1 _ rfl, h5 2 _ rfl, h5 3 _ rfl, h5 4 _ rfl⟩
theorem infoStp : (Tryz.prog.info? 87).map (fun i => (i.zero, i.size, i.bytes)) = some (some (.agg #[.int .i64 0, .int .i64 0, .bool false, .int .i64 0, .int .i64 0]), 5, 40) := by kernel_rfl
end Go.Proofs.YthjaofgdickkaaaGreat
