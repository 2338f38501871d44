/- Contracts of package ring at samples: what only reads. -/
import Derived.Test.YtfhhdlpglfjdgaaFrame
set_option linter.unusedVariables false
set_option linter.unusedSimpArgs false
namespace Go.Proofs.Ytfhhdlpglfjdgaa
open Go.RowKit

/-- A Ring that lies in block g. -/
def RingBlk (w : World) (g : Nat) (room frm n : Nat) (v : Value) : Prop := w.heap[g]? = some (.cells #[.int .i64 room, .int .i64 frm, .int .i64 n, v] 80 (0, 0))
theorem RingBlk.cells {w : World} {g room frm n : Nat} {v : Value} (h : RingBlk w g room frm n v) : w.cell? ⟨g, 0, none⟩ = some (.int .i64 room) ∧ w.cell? ⟨g, 1, none⟩ = some (.int .i64 frm) ∧ w.cell? ⟨g, 2, none⟩ = some (.int .i64 n) ∧ w.cell? ⟨g, 3, none⟩ = some v :=
  ⟨hb_cell h 0, hb_cell h 1, hb_cell h 2, hb_cell h 3⟩
theorem RingBlk.free {w : World} {g room frm n : Nat} {v : Value} (h : RingBlk w g room frm n v) : w.frozen? ⟨g, 0, none⟩ = false ∧ w.frozen? ⟨g, 1, none⟩ = false ∧ w.frozen? ⟨g, 2, none⟩ = false ∧ w.frozen? ⟨g, 3, none⟩ = false :=
  ⟨hb_free h 0, hb_free h 1, hb_free h 2, hb_free h 3⟩

theorem ring_New (w : World) : Calls Try.prog 15 #[.int .i64 4096] w fun e w' => e = .returned (.tuple #[.pointer (some ⟨w.heap.size, 0, none⟩), .int .i64 0]) ∧ w' = w.alloc (.cells #[.int .i64 4096, .int .i64 0, .int .i64 0, .slice none 0 0] 80) := by
  go_enter Try.func15, Try.ntmps15
  go_wp2
  go_ret2
  exact ⟨rfl, rfl⟩
theorem ring_Room (g room frm n : Nat) (v : Value) (w : World) (h : RingBlk w g room frm n v) : Calls Try.prog 52 #[.pointer (some ⟨g, 0, none⟩)] w fun e w' => e = .returned (.int .i64 room) ∧ w' = w := by
  obtain ⟨c0, c1, c2, c3⟩ := h.cells
  clear h
  go_enter Try.func52, Try.ntmps52
  go_wp2
  go_ret
  exact ⟨rfl, rfl⟩
theorem ring_Len (g room frm n : Nat) (v : Value) (w : World) (h : RingBlk w g room frm n v) : Calls Try.prog 25 #[.pointer (some ⟨g, 0, none⟩)] w fun e w' => e = .returned (.int .i64 n) ∧ w' = w := by
  obtain ⟨c0, c1, c2, c3⟩ := h.cells
  clear h
  go_enter Try.func25, Try.ntmps25
  go_wp2
  go_ret
  exact ⟨rfl, rfl⟩

set_option maxHeartbeats 400000 in
theorem ring_At_none (g room frm n i : Nat) (v : Value) (w : World) (h : RingBlk w g room frm n v) (hi : n ≤ i) :
    Calls Try.prog 41 #[.pointer (some ⟨g, 0, none⟩), .int .i64 i] w fun e w' => e = .returned (.tuple #[.agg #[.int .i64 0, .int .i64 0], .bool false]) ∧ Below w.heap.size w w' := by
  have hL := fun w h => ring_Len g room frm n v w h
  have HL := Lib.hid hL
  have H := Lib.hid h
  clear hL h
  have hii : (n : Int) ≤ i := by omega
  go_enter Try.func41, Try.ntmps41
  go_wp2_with fail
  refine (HL.out _ (hb_alloc H.out _)).mono ?_
  rintro e w1 ⟨rfl, rfl⟩
  go_wp2
  exact bodyPost_ret (v := .tuple #[.agg #[.int .i64 0, .int .i64 0], .bool false]) (by simp [results, Try.results41, go_sem]) rfl ⟨rfl, below1 _ _⟩

set_option maxRecDepth 100000 in
set_option maxHeartbeats 1600000 in
theorem ring_At (g h room frm n i L p : Nat) (t x : Int) (w : World) (hr : RingBlk w g room frm n (.slice (some ⟨h, 0, none⟩) L L)) (hi : i < n) (hL : L ≤ 4096) (hn : n ≤ L) (hf : frm < L) (hp : p = (frm + i) % L)
    (d0 : w.cell? ⟨h, p * 2, none⟩ = some (.int .i64 t)) (d1 : w.cell? ⟨h, p * 2 + 1, none⟩ = some (.int .i64 x)) :
    Calls Try.prog 41 #[.pointer (some ⟨g, 0, none⟩), .int .i64 i] w fun e w' => e = .returned (.tuple #[.agg #[.int .i64 t, .int .i64 x], .bool true]) ∧ Below w.heap.size w w' := by
  have hLn := fun w h' => ring_Len g room frm n (.slice (some ⟨h, 0, none⟩) L L) w h'
  obtain ⟨c0, c1, c2, c3⟩ := hr.cells
  have HL := Lib.hid hLn
  have H := Lib.hid hr
  have hpL : p < L := by rw [hp]; exact Nat.mod_lt _ (by omega)
  have hp1 : ((frm : Int) + (i : Int)) % (L : Int) = (p : Int) := by rw [hp]; simp
  have hp2 : ((frm : Int) + (i : Int)).tmod (L : Int) = (p : Int) := by rw [Int.tmod_eq_emod_of_nonneg (by omega)]; exact hp1
  have hwi : IntKind.i64.wrap ((frm : Int) + (i : Int)) = (frm : Int) + (i : Int) := IntWalk.i64_in _ (by omega)
  have hL0 : ¬ (L = 0) := by omega
  have hL1 : ((L : Int) == 0) = false := by simp; omega
  have hpi0 : (0 : Int) ≤ (p : Int) := by omega
  have hpi1 : (p : Int) < (L : Int) := by omega
  have hg := hb_lt hr
  have hh := World.block_lt_of_cell? _ _ d0
  clear hLn hr hp
  go_enter Try.func41, Try.ntmps41
  go_wp2_with fail
  refine (HL.out _ (hb_alloc H.out _)).mono ?_
  rintro e w1 ⟨rfl, rfl⟩
  go_wp2_with fail
  refine wp_region_tail 18 (by kernel_rfl) (by kernel_rfl) (fun W HW => ?_)
  have e3 := drew_cell HW (cell_alloc hg c3)
  have e1 := drew_cell HW (cell_alloc hg c1)
  have k0 := drew_cell HW (cell_alloc hh d0)
  have k1 := drew_cell HW (cell_alloc hh d1)
  have m4 := drew_blk HW (hb_new w _)
  obtain ⟨m40, m41, n40, n41⟩ := hb2 m4
  have m4' := two_set m4 (.int .i64 t) (.int .i64 x)
  obtain ⟨r40, r41, _, _⟩ := hb2 m4'
  clear c0 c1 c2 c3 d0 d1 m4 m4'
  simp only [List.take_succ_cons, List.take_zero, List.drop_succ_cons, List.drop_zero]
  repeat still_step
  refine wpStill_nil ?_
  go_wp2_with fail
  exact bodyPost_ret (v := .tuple #[.agg #[.int .i64 t, .int .i64 x], .bool true]) (by simp [results, Try.results41, r40, r41, go_sem]) rfl ⟨rfl, ((below_up (below1 _ _) (drew_below HW)).setCell (Nat.le_refl _) _).setCell (Nat.le_refl _) _⟩
end Go.Proofs.Ytfhhdlpglfjdgaa
