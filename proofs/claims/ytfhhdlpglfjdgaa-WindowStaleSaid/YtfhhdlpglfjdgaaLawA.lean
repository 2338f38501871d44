/- The laws of chapter 08: awake. -/
import Derived.Test.YtfhhdlpglfjdgaaWinI
set_option linter.unusedVariables false
set_option linter.unusedSimpArgs false
namespace Go.Proofs.Ytfhhdlpglfjdgaa
open Go.RowKit

theorem Fr.below {F : Nat → Prop} {a b : World} {B : Nat} (h : Fr F a b) (hF : ∀ k, F k → B ≤ k) (hB : B ≤ a.heap.size) : Below B a b :=
  ⟨h.os, h.tape, h.output, h.size, fun k hk => h.block k (by omega) (fun hf => by have := hF k hf; omega)⟩
theorem awake_fresh : winRead ⟨0, 1, 10, 0⟩ (vals (fresh 10 10 (pushL (pushL [] (0, 5)) (4, 6)))) = (0, 6) := by decide

set_option maxRecDepth 100000 in
set_option maxHeartbeats 1600000 in
theorem law_awake (w : World) : Calls Try.prog 6 #[] w fun e w' => e = .returned (.bool true) ∧ Below w.heap.size w w' := by
  have h1 := fun w => win_New ⟨0, 1, 10, 0⟩ w (by decide)
  have H1 := Lib.hid h1
  clear h1
  go_enter Try.func6, Try.ntmps6
  go_wp2_with fail
  refine (H1.out w).mono ?_
  rintro e w1 ⟨g, F, rfl, hb1, hw1, hF⟩
  have h2 := win_Put F g ⟨0, 1, 10, 0⟩ 0 0 false [] (0, 5) w1 hw1 (by decide) (by unfold I64; decide) rfl
  have H2 := Lib.hid h2
  have HB1 := Lib.hid hb1
  have HF := Lib.hid hF
  clear h2 hb1 hw1 hF
  go_wp2_with fail
  refine H2.out.mono ?_
  rintro e w2 ⟨rfl, hf2, F2, hE2, hw2⟩
  have h3 := win_Put F2 g ⟨0, 1, 10, 0⟩ 0 1 true (pushL [] (0, 5)) (4, 6) w2 hw2 (by decide) (by unfold I64; decide) rfl
  have H3 := Lib.hid h3
  have HF2 := Lib.hid hf2
  have HE2 := Lib.hid hE2
  clear h3 hf2 hE2 hw2 H2
  go_wp2_with fail
  refine H3.out.mono ?_
  rintro e w3 ⟨rfl, hf3, F3, hE3, hw3⟩
  have h4 := win_Read F3 g ⟨0, 1, 10, 0⟩ 4 2 10 true (pushL (pushL [] (0, 5)) (4, 6)) w3 hw3 (by decide) (by decide) rfl
  rw [awake_fresh] at h4
  have H4 := Lib.hid h4
  have HF3 := Lib.hid hf3
  have HE3 := Lib.hid hE3
  clear h4 hf3 hE3 hw3 H3
  go_wp2_with fail
  refine H4.out.mono ?_
  rintro e w4 ⟨rfl, hf4, _⟩
  have HF4 := Lib.hid hf4
  clear hf4 H4
  go_wp2_with fail
  go_ret
  refine ⟨rfl, ?_⟩
  have hs1 := HB1.out.size
  have f3 : Fr F w1 w3 := HF2.out.trans HF3.out HE2.out
  have f4 : Fr F w1 w4 := f3.trans HF4.out (HE2.out.trans HE3.out HF2.out.size HF3.out.size)
  have b4 : Below w.heap.size w w4 := HB1.out.trans (f4.below HF.out hs1)
  exact b4.alloc b4.size _
end Go.Proofs.Ytfhhdlpglfjdgaa
