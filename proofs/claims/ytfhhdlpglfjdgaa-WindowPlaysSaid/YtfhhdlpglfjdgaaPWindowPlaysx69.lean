-- PRINTED BY print.sh 35421559b90ae4d0a3588c463048766b98c2df88dd9212a6774a882060cdf62d: not written by this session
import Derived.Test.YtfhhdlpglfjdgaaPWindowPlaysx0
namespace Go.Proofs.Ytfhhdlpglfjdgaa.PWindowPlays
open Go.RowKit Go.Proofs.YtfhhdlpglfjdgaaW.PrintWords Go.Proofs.YtfhhdlpglfjdgaaW.PrintLast Go.Proofs.YtfhhdlpglfjdgaaW.PrintMore
attribute [local go_sem] max2_int min2_int max_two min_two max_three min_three max_four min_four   -- for this text's walks alone
set_option linter.unusedVariables false
set_option linter.unusedSimpArgs false

/-! ### capstanref06_beats: function 78 -/
def capstanref06_beats.f (a0 : Bool) (a1 : Int) (a2 : Int) : Option (Bool) := if a0 = true then (some (decide (a1 > a2))) else (some (decide (a1 < a2)))
set_option maxHeartbeats 8000000 in
set_option maxRecDepth 100000 in
theorem capstanref06_beats.calls (a0 : Bool) (a1 : Int) (a2 : Int) (r : Bool) (w : World) (h : capstanref06_beats.f a0 a1 a2 = some r) :
    Calls Try.prog 78 #[.bool a0, .int .i64 a1, .int .i64 a2] w fun e w' => e = .returned (.bool r) ∧ Drawn0 w w' := by
  have H : (if a0 = true then (some (decide (a1 > a2))) else (some (decide (a1 < a2)))) = some r := h
  clear h
  by_cases c4 : a0 = true
  · subst c4
    have H1 : (some (decide (a1 > a2))) = some r := by rw [if_pos rfl] at H; exact H
    clear H
    have H := H1
    clear H1
    obtain rfl := Option.some.inj H
    go_enter Try.func78, Try.ntmps78
    go_wp2
    go_ret
    exact ⟨by first | rfl | (simp; done) | (simp [*]; done), by repeat (first | exact Drawn0.refl _ | apply Drawn0.step)⟩
  · replace c4 := Bool.eq_false_iff.mpr c4
    subst c4
    have H1 : (some (decide (a1 < a2))) = some r := by rw [if_neg (show ¬ (false = true) by decide)] at H; exact H
    clear H
    have H := H1
    clear H1
    obtain rfl := Option.some.inj H
    go_enter Try.func78, Try.ntmps78
    go_wp2
    go_ret
    exact ⟨by first | rfl | (simp; done) | (simp [*]; done), by repeat (first | exact Drawn0.refl _ | apply Drawn0.step)⟩

end Go.Proofs.Ytfhhdlpglfjdgaa.PWindowPlays
