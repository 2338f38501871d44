/- Contracts of package mono. -/
import Derived.Test.YtfhhdlpglfjdgaaRows2
set_option linter.unusedVariables false
set_option linter.unusedSimpArgs false
namespace Go.Proofs.Ytfhhdlpglfjdgaa
open Go.RowKit

/-- A Mono that lies in block g. -/
def MonoBlk (w : World) (g : Nat) (high : Bool) (come left : Int) (v : Value) : Prop := w.heap[g]? = some (.cells #[.bool high, .int .i64 come, .int .i64 left, v] 83 (0, 0))

theorem mono_New (high : Bool) (w : World) :
    Calls Try.prog 16 #[.bool high] w fun e w' => e = .returned (.pointer (some ⟨w.heap.size, 0, none⟩)) ∧ w' = w.alloc (.cells #[.bool high, .int .i64 0, .int .i64 0, .slice none 0 0] 83) := by
  go_enter Try.func16, Try.ntmps16
  go_wp2
  go_ret
  exact ⟨rfl, rfl⟩

theorem mono_Len_nil (w : World) : Calls Try.prog 51 #[.pointer none] w fun e w' => e = .returned (.int .i64 0) ∧ w' = w := by
  go_enter Try.func51, Try.ntmps51
  go_wp2
  go_ret
  exact ⟨rfl, rfl⟩

theorem mono_Len (g : Nat) (high : Bool) (come left : Int) (v : Value) (w : World) (h : MonoBlk w g high come left v) (h0 : 0 ≤ left) (h1 : left ≤ come) (h2 : come ≤ 9223372036854775807) :
    Calls Try.prog 51 #[.pointer (some ⟨g, 0, none⟩)] w fun e w' => e = .returned (.int .i64 (come - left)) ∧ ∃ n, w' = w.drewN n := by
  have c1 := hb_cell h 1
  have c2 := hb_cell h 2
  simp only [List.getElem?_toArray, List.getElem?_cons_zero, List.getElem?_cons_succ] at c1 c2
  clear h
  go_enter Try.func51, Try.ntmps51
  go_wp2
  go_quiet (fail)
  go_wp2
  go_ret
  exact ⟨rfl, _, rfl⟩

/-- The cells of those that are kept: a number, and how many had come ahead of it. -/
def kc (l : List (Int × Int)) : List Value := l.flatMap fun x => [.int .i64 x.1, .int .i64 x.2]
theorem kc_length (l : List (Int × Int)) : (kc l).length = l.length * 2 := by
  induction l with
  | nil => rfl
  | cons a l ih => simp only [kc, List.flatMap_cons, List.length_append, List.length_cons, List.length_nil] at *; omega
theorem kc_append (l m : List (Int × Int)) : kc (l ++ m) = kc l ++ kc m := by simp [kc]
theorem kc_take (l : List (Int × Int)) (k : Nat) : (kc l).take (k * 2) = kc (l.take k) := by
  induction l generalizing k with
  | nil => simp [kc]
  | cons a l ih =>
    cases k with
    | zero => simp [kc]
    | succ k =>
      have := ih k
      simp only [kc, List.flatMap_cons, List.take_succ_cons] at *
      rw [show (k + 1) * 2 = k * 2 + 1 + 1 by omega]
      simp [this]
theorem kc_drop (l : List (Int × Int)) (k : Nat) : (kc l).drop (k * 2) = kc (l.drop k) := by
  induction l generalizing k with
  | nil => simp [kc]
  | cons a l ih =>
    cases k with
    | zero => simp [kc]
    | succ k =>
      have := ih k
      simp only [kc, List.flatMap_cons, List.drop_succ_cons] at *
      rw [show (k + 1) * 2 = k * 2 + 1 + 1 by omega]
      simp [this]
theorem kc_get (l : List (Int × Int)) (i : Nat) (x : Int × Int) (h : l[i]? = some x) : (kc l)[i * 2]? = some (.int .i64 x.1) ∧ (kc l)[i * 2 + 1]? = some (.int .i64 x.2) := by
  induction l generalizing i with
  | nil => simp at h
  | cons a l ih =>
    cases i with
    | zero => simp at h; subst h; simp [kc]
    | succ i =>
      have := ih i (by simpa using h)
      simp only [kc, List.flatMap_cons] at *
      rw [show (i + 1) * 2 = i * 2 + 1 + 1 by omega]
      simpa using this

set_option maxHeartbeats 400000 in
theorem mono_Best_none (g : Nat) (high : Bool) (come : Int) (v : Value) (w : World) (h : MonoBlk w g high come come v) (h0 : 0 ≤ come) (h2 : come ≤ 9223372036854775807) :
    Calls Try.prog 31 #[.pointer (some ⟨g, 0, none⟩)] w fun e w' => e = .returned (.tuple #[.int .i64 0, .bool false]) ∧ Below w.heap.size w w' := by
  have hL := fun w h => mono_Len g high come come v w h h0 (Int.le_refl _) h2
  have HL := Lib.hid hL
  have H := Lib.hid h
  clear hL h
  go_enter Try.func31, Try.ntmps31
  go_wp2_with fail
  refine (HL.out _ H.out).mono ?_
  rintro e w1 ⟨rfl, n, rfl⟩
  go_wp2
  go_ret2
  exact ⟨rfl, below_drewN _ _⟩

set_option maxHeartbeats 400000 in
theorem mono_Best_some (g h off n cap : Nat) (high : Bool) (come left b : Int) (w : World) (hm : MonoBlk w g high come left (.slice (some ⟨h, off, none⟩) n cap)) (h0 : 0 ≤ left) (h1 : left < come) (h2 : come ≤ 9223372036854775807)
    (hn : 0 < n) (hc : w.cell? ⟨h, off, none⟩ = some (.int .i64 b)) :
    Calls Try.prog 31 #[.pointer (some ⟨g, 0, none⟩)] w fun e w' => e = .returned (.tuple #[.int .i64 b, .bool true]) ∧ Below w.heap.size w w' := by
  have hL := fun w h' => mono_Len g high come left (.slice (some ⟨h, off, none⟩) n cap) w h' h0 (by omega) h2
  have c3 := hb_cell hm 3
  simp only [List.getElem?_toArray, List.getElem?_cons_zero, List.getElem?_cons_succ] at c3
  have HL := Lib.hid hL
  have H := Lib.hid hm
  have ht : (come - left == 0) = false := by simp; omega
  clear hL hm
  go_enter Try.func31, Try.ntmps31
  go_wp2_with fail
  refine (HL.out _ H.out).mono ?_
  rintro e w1 ⟨rfl, n, rfl⟩
  go_wp2
  go_ret2
  exact ⟨rfl, below_drewN _ _⟩
end Go.Proofs.Ytfhhdlpglfjdgaa
