/- Package fix: quotients of either sign; what the exported functions come to. -/
import Derived.Test.YtfhhdlpglfjdgaaFixB
set_option linter.unusedVariables false
set_option linter.unusedSimpArgs false
namespace Go.Proofs.Ytfhhdlpglfjdgaa
open Go.RowKit

theorem ediv_neg_ceil (a den : Int) (hd : 0 < den) : (0 < (-a) % den → a / den = -((-a) / den + 1)) ∧ (¬ 0 < (-a) % den → a / den = -((-a) / den)) := by
  have e := Int.emod_add_mul_ediv (-a) den
  have r0 := Int.emod_nonneg (-a) (show den ≠ 0 by omega)
  have r1 := Int.emod_lt_of_pos (-a) hd
  refine ⟨fun h => ?_, fun h => ?_⟩
  · have key : a = (den - (-a) % den) + den * (-((-a) / den + 1)) := by
      have : den * (-((-a) / den + 1)) = -(den * ((-a) / den)) - den := by rw [Int.mul_neg, Int.mul_add]; omega
      omega
    have : ((den - (-a) % den) + den * (-((-a) / den + 1))) / den = 0 + -((-a) / den + 1) := by
      rw [Int.add_mul_ediv_left _ _ (by omega), Int.ediv_eq_zero_of_lt (by omega) (by omega)]
    rw [← key] at this
    omega
  · have key : a = 0 + den * (-((-a) / den)) := by rw [Int.mul_neg]; omega
    have : (0 + den * (-((-a) / den))) / den = 0 + -((-a) / den) := by
      rw [Int.add_mul_ediv_left _ _ (by omega)]; simp
    rw [← key] at this
    omega

theorem words_over (l0 h0 den a : Int) (w : World) (e0 : l0 = wLo a) (e1 : h0 = wHi a) (ha1 : I128 a) (hd : 0 < den) (hd1 : den ≤ 18446744073709551615) :
    Calls Try.prog 46 #[.agg #[.int .u64 l0, .int .u64 h0], .int .u64 den] w fun e w' => e = .returned (.agg #[.int .u64 (wLo (a / den)), .int .u64 (wHi (a / den))]) ∧ Below w.heap.size w w' := by
  rcases Int.lt_or_le a 0 with hn | hp
  · have bl := wLo_bd (-a)
    have bh := wHi_bd (-a)
    have ea : -a = wHi (-a) * 18446744073709551616 + wLo (-a) := by unfold wLo wHi; unfold I128 at ha1; omega
    have hw := words_div (wLo (-a)) (wHi (-a)) den bl.1 bl.2 bh.1 hd
    have r0 := Int.emod_nonneg (wHi (-a)) (show den ≠ 0 by omega)
    have r1 := Int.emod_lt_of_pos (wHi (-a)) hd
    rw [← ea] at hw
    obtain ⟨hw1, hw2, hw3, hw4⟩ := hw
    have q0 : 0 ≤ wHi (-a) / den := Int.ediv_nonneg bh.1 (by omega)
    have q1 : wHi (-a) / den ≤ wHi (-a) := Int.ediv_le_self _ bh.1
    have v0 := Int.emod_nonneg (-a) (show den ≠ 0 by omega)
    have eu : (wHi (-a) % den * 18446744073709551616 + wLo (-a)) / den = wLo ((-a) / den) := by
      show _ = (-a) / den % 18446744073709551616
      omega
    have eg : wHi (-a) / den = wHi ((-a) / den) := by
      show _ = (-a) / den / 18446744073709551616 % 18446744073709551616
      omega
    have hfin := ediv_neg_ceil a den hd
    by_cases hv : 0 < (-a) % den
    · refine (words_over_neg_raw l0 h0 (wLo (-a)) (wHi (-a)) den (wHi (-a) / den) _ _ (wLo ((-a) / den + 1)) (wHi ((-a) / den + 1)) _ _ w bh.1 hd hd1 (wrap_tdiv _ den bh.1 bh.2 hd) (by rw [hw4]; omega)
        (fun w => words_below true l0 h0 a w e1 ha1 (by simp; omega)) (fun w => words_minus l0 h0 a w e0 e1) (fun w => div64 _ _ _ w r0 r1 bl.1 bl.2 hd1)
        (fun _ w => words_plus _ _ 1 0 ((-a) / den) 1 w eu eg (by rfl) (by rfl)) (fun h => absurd (by rw [hw4]; exact hv) h) (fun w => words_minus _ _ ((-a) / den + 1) w rfl rfl)).mono ?_
      rintro e w' ⟨rfl, hb⟩
      rw [← hfin.1 hv]
      exact ⟨rfl, hb⟩
    · refine (words_over_neg_raw l0 h0 (wLo (-a)) (wHi (-a)) den (wHi (-a) / den) _ _ (wLo ((-a) / den)) (wHi ((-a) / den)) _ _ w bh.1 hd hd1 (wrap_tdiv _ den bh.1 bh.2 hd) (by rw [hw4]; omega)
        (fun w => words_below true l0 h0 a w e1 ha1 (by simp; omega)) (fun w => words_minus l0 h0 a w e0 e1) (fun w => div64 _ _ _ w r0 r1 bl.1 bl.2 hd1)
        (fun h => absurd h (by rw [hw4]; exact hv)) (fun _ => ⟨eu.symm, eg.symm⟩) (fun w => words_minus _ _ ((-a) / den) w rfl rfl)).mono ?_
      rintro e w' ⟨rfl, hb⟩
      rw [← hfin.2 hv]
      exact ⟨rfl, hb⟩
  · exact words_over_pos l0 h0 den a w e0 e1 hp ha1 hd hd1

theorem ediv_i128 (a den : Int) (ha : I128 a) (hd : 0 < den) : I128 (a / den) := by
  unfold I128 at *
  rcases Int.lt_or_le a 0 with h | h
  · have h1 : a / den < 0 := Int.ediv_neg_of_neg_of_pos h hd
    have h2 : a ≤ a / den := by
      have e := Int.lt_ediv_add_one_mul_self a hd
      have e2 : (a / den + 1) * den ≤ (a / den + 1) * 1 := Int.mul_le_mul_of_nonpos_left (by omega) (by omega)
      omega
    omega
  · have h1 : 0 ≤ a / den := Int.ediv_nonneg h (by omega)
    have h2 : a / den ≤ a := Int.ediv_le_self _ h
    omega
theorem I64.i128 {a : Int} (h : I64 a) : I128 a := by unfold I64 at h; unfold I128; omega
theorem I64.add {a b : Int} (h : I64 a) (k : I64 b) : I128 (a + b) := by unfold I64 at h k; unfold I128; omega
theorem I64.sub {a b : Int} (h : I64 a) (k : I64 b) : I128 (a - b) := by unfold I64 at h k; unfold I128; omega
theorem I64.neg {a : Int} (h : I64 a) : I128 (-a) := by unfold I64 at h; unfold I128; omega

/-- What the exported functions come to. -/
def fAdd (a b : Int) : Int := heldI (a + b)
def fSub (a b : Int) : Int := heldI (a - b)
def fNeg (a : Int) : Int := heldI (-a)
def fAbs (a : Int) : Int := heldI (absI a)
def fMul (a b : Int) : Int := heldI (a * b / 1000000)
def fDiv (a b : Int) : Int := heldI (if b < 0 then (-(a * 1000000)) / (-b) else a * 1000000 / b)
def fWhole (n : Int) : Int := heldI (n * 1000000)
def fFloor (a : Int) : Int := fWhole (heldI (a / 1000000))
def fCeil (a : Int) : Int := fWhole (heldI (-((-a) / 1000000)))
def fScale (a n d : Int) : Int := if n < 0 ∨ d < 1 then 0 else heldI (a * n / d)
def fCount (a : Int) : Int := heldI (fCeil a / 1000000)
theorem fAdd_bd (a b : Int) : I64 (fAdd a b) := heldI_bd _
theorem fSub_bd (a b : Int) : I64 (fSub a b) := heldI_bd _
theorem fNeg_bd (a : Int) : I64 (fNeg a) := heldI_bd _
theorem fAbs_bd (a : Int) : I64 (fAbs a) := heldI_bd _
theorem fMul_bd (a b : Int) : I64 (fMul a b) := heldI_bd _
theorem fDiv_bd (a b : Int) : I64 (fDiv a b) := heldI_bd _
theorem fWhole_bd (a : Int) : I64 (fWhole a) := heldI_bd _
theorem fFloor_bd (a : Int) : I64 (fFloor a) := heldI_bd _
theorem fCeil_bd (a : Int) : I64 (fCeil a) := heldI_bd _
theorem fScale_bd (a n d : Int) : I64 (fScale a n d) := by
  unfold fScale
  split
  · unfold I64; omega
  · exact heldI_bd _
theorem fCount_bd (a : Int) : I64 (fCount a) := heldI_bd _

set_option maxHeartbeats 400000 in
theorem fix_Whole (n : Int) (w : World) (hn : I64 n) :
    Calls Try.prog 28 #[.int .i64 n] w fun e w' => e = .returned (.int .i64 (fWhole n)) ∧ Below w.heap.size w w' := by
  have h1 := fun w => fix_times n 1000000 w hn (by unfold I64; omega)
  have h2 := fun w => words_held _ _ (n * 1000000) w rfl rfl (mul_i128 n 1000000 hn (by unfold I64; omega))
  have H1 := Lib.hid h1
  have H2 := Lib.hid h2
  clear h1 h2
  go_enter Try.func28, Try.ntmps28
  go_wp2_with fail
  refine (H1.out _).mono ?_
  rintro e w1 ⟨rfl, hb1⟩
  go_wp2_with fail
  refine (H2.out _).mono ?_
  rintro e w2 ⟨rfl, hb2⟩
  go_wp2
  go_ret
  exact ⟨rfl, below_up hb1 hb2⟩

/-- A Wide that lies in memory at ⟨g, o⟩ holds a sum. -/
def WideAt (w : World) (g o : Nat) (s : Int) : Prop :=
  w.cell? ⟨g, o, none⟩ = some (.int .u64 (wLo s)) ∧ w.cell? ⟨g, o + 1, none⟩ = some (.int .u64 (wHi s)) ∧ w.frozen? ⟨g, o, none⟩ = false ∧ w.frozen? ⟨g, o + 1, none⟩ = false

set_option maxHeartbeats 400000 in
theorem wide_Fit_yes (g o : Nat) (s : Int) (w : World) (hw : WideAt w g o s) (hs : I64 s) :
    Calls Try.prog 26 #[.pointer (some ⟨g, o, none⟩)] w fun e w' => e = .returned (.tuple #[.int .i64 s, .bool true]) ∧ Below w.heap.size w w' := by
  obtain ⟨c0, c1, f0, f1⟩ := hw
  have h1 := fun w => fix_told_yes (wLo s) (wHi s) s w rfl rfl hs
  have H1 := Lib.hid h1
  clear h1
  go_enter Try.func26, Try.ntmps26
  go_wp2_with (go_at_call 43; refine (H1.out _).mono ?_; rintro e w1 ⟨rfl, hb1⟩)
  go_ret2
  exact ⟨rfl, hb1⟩
set_option maxHeartbeats 400000 in
theorem wide_Fit_no (g o : Nat) (s : Int) (w : World) (hw : WideAt w g o s) (hs : ¬ I64 s) (hs1 : I128 s) :
    Calls Try.prog 26 #[.pointer (some ⟨g, o, none⟩)] w fun e w' => e = .returned (.tuple #[.int .i64 0, .bool false]) ∧ Below w.heap.size w w' := by
  obtain ⟨c0, c1, f0, f1⟩ := hw
  have h1 := fun w => fix_told_no (wLo s) (wHi s) s w rfl rfl hs hs1
  have H1 := Lib.hid h1
  clear h1
  go_enter Try.func26, Try.ntmps26
  go_wp2_with (go_at_call 43; refine (H1.out _).mono ?_; rintro e w1 ⟨rfl, hb1⟩)
  go_ret2
  exact ⟨rfl, hb1⟩

theorem WideAt.lt {w : World} {g o : Nat} {s : Int} (h : WideAt w g o s) : g < w.heap.size := World.block_lt_of_cell? w _ h.1

set_option maxHeartbeats 400000 in
theorem wide_Mean_none (g o : Nat) (n : Int) (w : World) (hn : n < 1) :
    Calls Try.prog 29 #[.pointer (some ⟨g, o, none⟩), .int .i64 n] w fun e w' => e = .returned (.tuple #[.int .i64 0, .bool false]) ∧ w' = w := by
  go_enter Try.func29, Try.ntmps29
  go_wp2
  go_ret2
  exact ⟨rfl, rfl⟩
set_option maxHeartbeats 400000 in
theorem wide_Mean (g o : Nat) (s n : Int) (w : World) (hw : WideAt w g o s) (hs : I128 s) (hn : 1 ≤ n) (hn1 : n ≤ 9223372036854775807) (hf : I64 (s / n)) :
    Calls Try.prog 29 #[.pointer (some ⟨g, o, none⟩), .int .i64 n] w fun e w' => e = .returned (.tuple #[.int .i64 (s / n), .bool true]) ∧ Below w.heap.size w w' := by
  obtain ⟨c0, c1, f0, f1⟩ := hw
  have h1 := fun w => words_over (wLo s) (wHi s) n s w rfl rfl hs (by omega) (by omega)
  have h2 := fun w => fix_told_yes _ _ (s / n) w rfl rfl hf
  have H1 := Lib.hid h1
  have H2 := Lib.hid h2
  clear h1 h2 hf hs
  go_enter Try.func29, Try.ntmps29
  go_wp2_with fail
  refine (H1.out _).mono ?_
  rintro e w1 ⟨rfl, hb1⟩
  go_wp2_with fail
  refine (H2.out _).mono ?_
  rintro e w2 ⟨rfl, hb2⟩
  go_wp2
  go_ret2
  exact ⟨rfl, below_up hb1 hb2⟩

/-- w' is w with new blocks, and the two cells at ⟨g, o⟩ stored. -/
def WideTurned (w w' : World) (g o : Nat) (s : Int) : Prop :=
  ∃ w1, Below w.heap.size w w1 ∧ w' = (w1.setCell ⟨g, o, none⟩ (.int .u64 (wLo s))).setCell ⟨g, o + 1, none⟩ (.int .u64 (wHi s))

set_option maxHeartbeats 1600000 in
theorem wide_Add (g o : Nat) (s v : Int) (w : World) (hw : WideAt w g o s) (hv : I64 v) :
    Calls Try.prog 35 #[.pointer (some ⟨g, o, none⟩), .int .i64 v] w fun e w' => e = .returned (.tuple #[]) ∧ WideTurned w w' g o (s + v) := by
  have hlt := hw.lt
  obtain ⟨c0, c1, f0, f1⟩ := hw
  have h1 := fun w => words_of v w hv
  have h2 := fun w => words_plus (wLo s) (wHi s) _ _ s v w rfl rfl rfl rfl
  have H1 := Lib.hid h1
  have H2 := Lib.hid h2
  clear h1 h2
  go_enter Try.func35, Try.ntmps35
  go_wp2_with fail
  go_region_with (first | (go_at_call 58; refine (H1.out _).mono ?_; rintro e w1 ⟨rfl, hb1⟩; have k0 := (hb1.cell (p := ⟨g, o, none⟩) hlt).trans c0; have k1 := (hb1.cell (p := ⟨g, o + 1, none⟩) hlt).trans c1; have l0 := (hb1.frozen (p := ⟨g, o, none⟩) hlt).trans f0; have l1 := (hb1.frozen (p := ⟨g, o + 1, none⟩) hlt).trans f1; have hlt1 : g < w1.heap.size := Nat.lt_of_lt_of_le hlt hb1.size; have HB1 := Lib.hid hb1; clear hb1) | (go_at_call 57; refine (H2.out _).mono ?_; rintro e w2 ⟨rfl, hb2⟩; have m0 := (hb2.cell (p := ⟨g, o, none⟩) hlt1).trans k0; have m1 := (hb2.cell (p := ⟨g, o + 1, none⟩) hlt1).trans k1; have n0 := (hb2.frozen (p := ⟨g, o, none⟩) hlt1).trans l0; have n1 := (hb2.frozen (p := ⟨g, o + 1, none⟩) hlt1).trans l1; have HB2 := Lib.hid hb2; clear hb2))
  all_goals
    go_end0
    exact ⟨rfl, w2, below_up (below_up (Below.refl _ _).drew HB1.out) HB2.out, rfl⟩

set_option maxHeartbeats 1600000 in
theorem wide_Take (g o : Nat) (s v : Int) (w : World) (hw : WideAt w g o s) (hv : I64 v) :
    Calls Try.prog 54 #[.pointer (some ⟨g, o, none⟩), .int .i64 v] w fun e w' => e = .returned (.tuple #[]) ∧ WideTurned w w' g o (s - v) := by
  have hlt := hw.lt
  obtain ⟨c0, c1, f0, f1⟩ := hw
  have h1 := fun w => words_of v w hv
  have h3 := fun w => words_minus _ _ v w rfl rfl
  have h2 := fun w => words_plus (wLo s) (wHi s) _ _ s (-v) w rfl rfl rfl rfl
  rw [show s - v = s + -v from Int.sub_eq_add_neg]
  have H1 := Lib.hid h1
  have H2 := Lib.hid h2
  have H3 := Lib.hid h3
  clear h1 h2 h3
  go_enter Try.func54, Try.ntmps54
  go_wp2_with fail
  go_region_with (first | (go_at_call 58; refine (H1.out _).mono ?_; rintro e w1 ⟨rfl, hb1⟩; have k0 := (hb1.cell (p := ⟨g, o, none⟩) hlt).trans c0; have k1 := (hb1.cell (p := ⟨g, o + 1, none⟩) hlt).trans c1; have l0 := (hb1.frozen (p := ⟨g, o, none⟩) hlt).trans f0; have l1 := (hb1.frozen (p := ⟨g, o + 1, none⟩) hlt).trans f1; have hlt1 : g < w1.heap.size := Nat.lt_of_lt_of_le hlt hb1.size; have HB1 := Lib.hid hb1; clear hb1) | (go_at_call 68; refine (H3.out _).mono ?_; rintro e w3 ⟨rfl, hb3⟩; have k0 := (hb3.cell (p := ⟨g, o, none⟩) hlt1).trans k0; have k1 := (hb3.cell (p := ⟨g, o + 1, none⟩) hlt1).trans k1; have l0 := (hb3.frozen (p := ⟨g, o, none⟩) hlt1).trans l0; have l1 := (hb3.frozen (p := ⟨g, o + 1, none⟩) hlt1).trans l1; have hlt1 : g < w3.heap.size := Nat.lt_of_lt_of_le hlt1 hb3.size; have HB3 := Lib.hid hb3; clear hb3) | (go_at_call 57; refine (H2.out _).mono ?_; rintro e w2 ⟨rfl, hb2⟩; have m0 := (hb2.cell (p := ⟨g, o, none⟩) hlt1).trans k0; have m1 := (hb2.cell (p := ⟨g, o + 1, none⟩) hlt1).trans k1; have n0 := (hb2.frozen (p := ⟨g, o, none⟩) hlt1).trans l0; have n1 := (hb2.frozen (p := ⟨g, o + 1, none⟩) hlt1).trans l1; have HB2 := Lib.hid hb2; clear hb2))
  all_goals
    go_end0
    exact ⟨rfl, w2, below_up (below_up (below_up (Below.refl _ _).drew HB1.out) HB3.out) HB2.out, rfl⟩
end Go.Proofs.Ytfhhdlpglfjdgaa
