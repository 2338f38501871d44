/- Contracts of package window: terms, none, come, Clock. -/
import Derived.Test.YtfhhdlpglfjdgaaRingF
import Derived.Test.YtfhhdlpglfjdgaaRankD
import Derived.Test.YtfhhdlpglfjdgaaMonoC
import Derived.Test.YtfhhdlpglfjdgaaFixC
set_option linter.unusedVariables false
set_option linter.unusedSimpArgs false
namespace Go.Proofs.Ytfhhdlpglfjdgaa
open Go.RowKit

/-- A window's terms: metric, aggregate, span, rank. -/
structure WT where
  m : Int
  a : Int
  s : Int
  p : Int
def WT.right (t : WT) : Bool := decide (0 ≤ t.m ∧ 1 ≤ t.a ∧ t.a ≤ 6 ∧ 1 ≤ t.s ∧ t.s ≤ 604800 ∧ ((t.a = 6 ∧ 1 ≤ t.p ∧ t.p ≤ 100000000) ∨ (t.a ≠ 6 ∧ t.p = 0)))
/-- The block of a window. -/
def WinBlk (w : World) (g : Nat) (ring : Value) (t : WT) (clock : Int) (begun : Bool) (s : Int) (best order : Value) : Prop :=
  w.heap[g]? = some (.cells #[ring, .int .i64 t.m, .int .i64 t.a, .int .i64 t.s, .int .i64 t.p, .int .i64 clock, .bool begun, .int .u64 (wLo s), .int .u64 (wHi s), best, order] 60 (0, 0))

set_option maxHeartbeats 1600000 in
theorem win_Right (t : WT) (w : World) : Calls Try.prog 9 #[.agg #[.int .i64 t.m, .int .i64 t.a, .int .i64 t.s, .int .i64 t.p]] w fun e w' => e = .returned (.bool t.right) ∧ Below w.heap.size w w' := by
  obtain ⟨m, a, s, p⟩ := t
  show Calls Try.prog 9 #[.agg #[.int .i64 m, .int .i64 a, .int .i64 s, .int .i64 p]] w _
  go_enter Try.func9, Try.ntmps9
  go_wp2
  all_goals go_ret
  all_goals refine ⟨ret_bool (Bool.eq_iff_iff.2 ?_), below1 _ _⟩
  all_goals simp only [WT.right, decide_eq_true_eq, beq_iff_eq, beq_eq_false_iff_ne, ne_eq, Bool.false_eq_true, false_iff] at *
  all_goals omega

theorem win_none_nil (w : World) : Calls Try.prog 22 #[.pointer none] w fun e w' => e = .returned (.bool true) ∧ w' = w := by
  go_enter Try.func22, Try.ntmps22
  go_wp2
  go_ret
  exact ⟨rfl, rfl⟩
theorem win_none (g : Nat) (ring : Option Addr) (w : World) (h : w.cell? ⟨g, 0, none⟩ = some (.pointer ring)) :
    Calls Try.prog 22 #[.pointer (some ⟨g, 0, none⟩)] w fun e w' => e = .returned (.bool (ring == none)) ∧ w' = w := by
  go_enter Try.func22, Try.ntmps22
  rcases ring with _ | r
  · go_wp2
    go_ret
    exact ⟨rfl, rfl⟩
  · go_wp2
    go_ret
    exact ⟨rfl, rfl⟩

theorem win_come_nil (t : Int) (w : World) : Calls Try.prog 23 #[.pointer none, .int .i64 t] w fun e w' => e = .returned (.int .i64 4) ∧ w' = w := by
  have h1 := win_none_nil
  have H1 := Lib.hid h1
  clear h1
  go_enter Try.func23, Try.ntmps23
  go_wp2_with fail
  refine (H1.out _).mono ?_
  rintro e w1 ⟨rfl, rfl⟩
  go_wp2
  go_ret
  exact ⟨rfl, rfl⟩
theorem win_come_zero (g : Nat) (t : Int) (w : World) (h : w.cell? ⟨g, 0, none⟩ = some (.pointer none)) : Calls Try.prog 23 #[.pointer (some ⟨g, 0, none⟩), .int .i64 t] w fun e w' => e = .returned (.int .i64 4) ∧ w' = w := by
  have h1 := fun w h => win_none g none w h
  have H1 := Lib.hid h1
  clear h1
  go_enter Try.func23, Try.ntmps23
  go_wp2_with fail
  refine (H1.out _ h).mono ?_
  rintro e w1 ⟨rfl, rfl⟩
  go_wp2
  go_ret
  exact ⟨rfl, rfl⟩
/-- Is a moment stale? -/
def stale (begun : Bool) (clock t : Int) : Bool := begun && decide (t < clock)
theorem win_come_stale (g r : Nat) (T : WT) (clock t s : Int) (best order : Value) (w : World) (h : WinBlk w g (.pointer (some ⟨r, 0, none⟩)) T clock true s best order) (ht : t < clock) :
    Calls Try.prog 23 #[.pointer (some ⟨g, 0, none⟩), .int .i64 t] w fun e w' => e = .returned (.int .i64 32) ∧ w' = w := by
  have h1 := fun w h => win_none g (some ⟨r, 0, none⟩) w h
  have H1 := Lib.hid h1
  have c0 := hb_cell h 0
  have c5 := hb_cell h 5
  have c6 := hb_cell h 6
  simp only [List.getElem?_toArray, List.getElem?_cons_zero, List.getElem?_cons_succ] at c0 c5 c6
  have hd : decide (t < clock) = true := by simpa using ht
  clear h1 h
  go_enter Try.func23, Try.ntmps23
  go_wp2_with fail
  refine (H1.out _ c0).mono ?_
  rintro e w1 ⟨rfl, rfl⟩
  go_wp2
  go_ret
  exact ⟨rfl, rfl⟩
theorem win_come_on (g r : Nat) (T : WT) (clock t s : Int) (begun : Bool) (best order : Value) (w : World) (h : WinBlk w g (.pointer (some ⟨r, 0, none⟩)) T clock begun s best order) (ht : stale begun clock t = false) :
    Calls Try.prog 23 #[.pointer (some ⟨g, 0, none⟩), .int .i64 t] w fun e w' => e = .returned (.int .i64 0) ∧ w' = (w.setCell ⟨g, 5, none⟩ (.int .i64 t)).setCell ⟨g, 6, none⟩ (.bool true) := by
  have h1 := fun w h => win_none g (some ⟨r, 0, none⟩) w h
  have H1 := Lib.hid h1
  have c0 := hb_cell h 0
  have c5 := hb_cell h 5
  have c6 := hb_cell h 6
  have f5 := hb_free h 5
  have f6 := hb_free h 6
  simp only [List.getElem?_toArray, List.getElem?_cons_zero, List.getElem?_cons_succ] at c0 c5 c6
  clear h1 h
  go_enter Try.func23, Try.ntmps23
  go_wp2_with fail
  refine (H1.out _ c0).mono ?_
  rintro e w1 ⟨rfl, rfl⟩
  cases begun
  · go_wp2
    go_ret
    exact ⟨rfl, rfl⟩
  · have hd : decide (t < clock) = false := by simpa [stale] using ht
    have hd1 : ¬ t < clock := by simpa [stale] using ht
    go_wp2
    go_ret
    exact ⟨rfl, rfl⟩
end Go.Proofs.Ytfhhdlpglfjdgaa
