/- Contracts of package window: told, Clock; Put, Read, Held that are refused. -/
import Derived.Test.YtfhhdlpglfjdgaaWinE
set_option linter.unusedVariables false
set_option linter.unusedSimpArgs false
namespace Go.Proofs.Ytfhhdlpglfjdgaa
open Go.RowKit

theorem win_told (v why : Int) (ok : Bool) (w : World) : Calls Try.prog 27 #[.int .i64 v, .bool ok, .int .i64 why] w fun e w' => e = .returned (.agg #[.int .i64 (if ok then 0 else why), .int .i64 (if ok then v else 0)]) ∧ Below w.heap.size w w' := by
  go_enter Try.func27, Try.ntmps27
  cases ok
  · go_wp2
    exact bodyPost_ret (v := .agg #[.int .i64 why, .int .i64 0]) (by simp [results, Try.results27, go_sem]) rfl ⟨rfl, below1 _ _⟩
  · go_wp2
    exact bodyPost_ret (v := .agg #[.int .i64 0, .int .i64 v]) (by simp [results, Try.results27, go_sem]) rfl ⟨rfl, below1 _ _⟩

/-- A window that refuses a moment. -/
def Refuses (w : World) (p : Value) (t e : Int) : Prop :=
  ∀ w', Below w.heap.size w w' → Calls Try.prog 23 #[p, .int .i64 t] w' fun x w'' => x = .returned (.int .i64 e) ∧ w'' = w'
theorem refuses_nil (w : World) (t : Int) : Refuses w (.pointer none) t 4 := fun w' _ => win_come_nil t w'
theorem refuses_zero (w : World) (g : Nat) (t : Int) (hg : g < w.heap.size) (h : w.cell? ⟨g, 0, none⟩ = some (.pointer none)) : Refuses w (.pointer (some ⟨g, 0, none⟩)) t 4 :=
  fun w' hb => win_come_zero g t w' ((hb.cell (p := ⟨g, 0, none⟩) hg).trans h)
theorem refuses_stale {w : World} {F : Nat → Prop} {g : Nat} {T : WT} {clock N : Int} {l : List (Int × Int)} (h : WinAt w F g T clock true N l) (t : Int) (ht : t < clock) : Refuses w (.pointer (some ⟨g, 0, none⟩)) t 32 := by
  intro w' hb
  obtain ⟨r, F1, F0, h1, h2, _⟩ := h.below hb
  obtain ⟨_, best, order, hblk⟩ := h2.at
  exact win_come_stale g r T clock t _ best order w' hblk ht

theorem win_Put_no (p : Value) (t v e : Int) (w : World) (hr : Refuses w p t e) (he : e = 4 ∨ e = 32) :
    Calls Try.prog 14 #[p, .agg #[.int .i64 t, .int .i64 v]] w fun x w' => x = .returned (.int .i64 e) ∧ Below w.heap.size w w' := by
  have HR := Lib.hid hr
  clear hr
  rcases he with rfl | rfl
  all_goals
    go_enter Try.func14, Try.ntmps14
    go_wp2_with fail
    refine (HR.out _ (below1 _ _)).mono ?_
    rintro x w1 ⟨rfl, rfl⟩
    go_wp2_with fail
    go_ret
    exact ⟨rfl, below1 _ _⟩
theorem win_Read_no (p : Value) (t e : Int) (w : World) (hr : Refuses w p t e) (he : e = 4 ∨ e = 32) :
    Calls Try.prog 12 #[p, .int .i64 t] w fun x w' => x = .returned (.tuple #[.agg #[.int .i64 0, .int .i64 0], .int .i64 e]) ∧ Below w.heap.size w w' := by
  have HR := Lib.hid hr
  clear hr
  rcases he with rfl | rfl
  · go_enter Try.func12, Try.ntmps12
    go_wp2_with fail
    refine (HR.out _ (below1 _ _)).mono ?_
    rintro x w1 ⟨rfl, rfl⟩
    go_wp2_with fail
    exact bodyPost_ret (v := .tuple #[.agg #[.int .i64 0, .int .i64 0], .int .i64 4]) (by simp [results, Try.results12, go_sem]) rfl ⟨rfl, below1 _ _⟩
  · go_enter Try.func12, Try.ntmps12
    go_wp2_with fail
    refine (HR.out _ (below1 _ _)).mono ?_
    rintro x w1 ⟨rfl, rfl⟩
    go_wp2_with fail
    exact bodyPost_ret (v := .tuple #[.agg #[.int .i64 0, .int .i64 0], .int .i64 32]) (by simp [results, Try.results12, go_sem]) rfl ⟨rfl, below1 _ _⟩
theorem win_Held_no (p : Value) (t e : Int) (w : World) (hr : Refuses w p t e) (he : e = 4 ∨ e = 32) :
    Calls Try.prog 13 #[p, .int .i64 t] w fun x w' => x = .returned (.tuple #[.slice none 0 0, .int .i64 e]) ∧ w' = w := by
  have HR := Lib.hid hr
  clear hr
  rcases he with rfl | rfl
  all_goals
    go_enter Try.func13, Try.ntmps13
    go_wp2_with fail
    refine (HR.out _ (Below.refl _ _)).mono ?_
    rintro x w1 ⟨rfl, rfl⟩
    go_wp2_with fail
    go_ret2
    exact ⟨rfl, rfl⟩

theorem win_Clock_nil (w : World) : Calls Try.prog 11 #[.pointer none] w fun e w' => e = .returned (.tuple #[.int .i64 0, .bool false]) ∧ w' = w := by
  have h1 := win_none_nil
  have H1 := Lib.hid h1
  clear h1
  go_enter Try.func11, Try.ntmps11
  go_wp2_with fail
  refine (H1.out _).mono ?_
  rintro e w1 ⟨rfl, rfl⟩
  go_wp2
  go_ret2
  exact ⟨rfl, rfl⟩
theorem win_Clock_zero (g : Nat) (w : World) (h : w.cell? ⟨g, 0, none⟩ = some (.pointer none)) : Calls Try.prog 11 #[.pointer (some ⟨g, 0, none⟩)] w fun e w' => e = .returned (.tuple #[.int .i64 0, .bool false]) ∧ w' = w := by
  have h1 := fun w h => win_none g none w h
  have H1 := Lib.hid h1
  clear h1
  go_enter Try.func11, Try.ntmps11
  go_wp2_with fail
  refine (H1.out _ h).mono ?_
  rintro e w1 ⟨rfl, rfl⟩
  go_wp2
  go_ret2
  exact ⟨rfl, rfl⟩
theorem win_Clock {F : Nat → Prop} {g : Nat} {T : WT} {clock N : Int} {begun : Bool} {l : List (Int × Int)} (w : World) (h : WinAt w F g T clock begun N l) :
    Calls Try.prog 11 #[.pointer (some ⟨g, 0, none⟩)] w fun e w' => e = .returned (.tuple #[.int .i64 clock, .bool begun]) ∧ Below w.heap.size w w' := by
  obtain ⟨r, F1, F0, h1, h2, _⟩ := h
  obtain ⟨_, best, order, hblk⟩ := h2.at
  have c0 := hb_cell hblk 0
  have c5 := hb_cell hblk 5
  have c6 := hb_cell hblk 6
  simp only [List.getElem?_toArray, List.getElem?_cons_zero, List.getElem?_cons_succ] at c0 c5 c6
  have h1 := fun w h => win_none g (some ⟨r, 0, none⟩) w h
  have H1 := Lib.hid h1
  clear h1 hblk h2
  go_enter Try.func11, Try.ntmps11
  go_wp2_with fail
  refine (H1.out _ c0).mono ?_
  rintro e w1 ⟨rfl, rfl⟩
  go_wp2_with fail
  go_quiet (fail)
  go_wp2_with fail
  go_ret2
  exact ⟨rfl, below_drewN _ _⟩
end Go.Proofs.Ytfhhdlpglfjdgaa
