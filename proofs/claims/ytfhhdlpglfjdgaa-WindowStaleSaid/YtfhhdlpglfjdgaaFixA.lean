/- Contracts of package fix's words: 128 bits in two words, told by one whole number. -/
import Derived.Test.YtfhhdlpglfjdgaaBase
set_option linter.unusedVariables false
set_option linter.unusedSimpArgs false
namespace Go.Proofs.Ytfhhdlpglfjdgaa
open Go.RowKit

/-- The low and the high word of a number. -/
def wLo (n : Int) : Int := n % 18446744073709551616
def wHi (n : Int) : Int := n / 18446744073709551616 % 18446744073709551616
theorem wLo_bd (n : Int) : 0 ≤ wLo n ∧ wLo n ≤ 18446744073709551615 := by unfold wLo; omega
theorem wHi_bd (n : Int) : 0 ≤ wHi n ∧ wHi n ≤ 18446744073709551615 := by unfold wHi; omega
/-- An int64. -/
def I64 (n : Int) : Prop := -9223372036854775808 ≤ n ∧ n ≤ 9223372036854775807
/-- A number held at the ends of int64. -/
def heldI (n : Int) : Int := if n < -9223372036854775808 then -9223372036854775808 else if 9223372036854775807 < n then 9223372036854775807 else n
theorem heldI_bd (n : Int) : I64 (heldI n) := by unfold heldI I64; split <;> (try split) <;> omega
theorem heldI_of (n : Int) (h : I64 n) : heldI n = n := by unfold I64 at h; unfold heldI; rw [if_neg (by omega), if_neg (by omega)]
def fitB (n : Int) : Bool := decide (-9223372036854775808 ≤ n ∧ n ≤ 9223372036854775807)

theorem run_Add64 (x y c : Int) (w : World) (hx : 0 ≤ x) (hy : 0 ≤ y) (hc : 0 ≤ c) (hc1 : c ≤ 1) :
    (callFunc 71 #[.int .u64 x, .int .u64 y, .int .u64 c]).run Try.prog w =
      .ok (.value (.tuple #[.int .u64 ((x + y + c) % 18446744073709551616), .int .u64 ((x + y + c) / 18446744073709551616)])) w := by
  obtain ⟨x, rfl⟩ := Int.eq_ofNat_of_zero_le hx
  obtain ⟨y, rfl⟩ := Int.eq_ofNat_of_zero_le hy
  obtain ⟨c, rfl⟩ := Int.eq_ofNat_of_zero_le hc
  have h1 : c ≤ 1 := by omega
  rw [run_callFunc_extern (e := fun args => do
    let (x, y, c) ← Extern.MathBitsCarry.three "Add64" args
    pure (Extern.MathBitsCarry.pair ((x + y + c) % Extern.MathBitsCarry.m64) ((x + y + c) / Extern.MathBitsCarry.m64))) Try.func71 (by kernel_rfl) (by kernel_rfl) (by kernel_rfl) (by kernel_rfl)]
  have : c = 0 ∨ c = 1 := by omega
  rcases this with rfl | rfl <;> rfl

theorem run_Sub64 (x y c : Int) (w : World) (hx : 0 ≤ x) (hy : 0 ≤ y) (hx1 : x ≤ 18446744073709551615) (hy1 : y ≤ 18446744073709551615) (hc : 0 ≤ c) (hc1 : c ≤ 1) :
    (callFunc 79 #[.int .u64 x, .int .u64 y, .int .u64 c]).run Try.prog w =
      .ok (.value (.tuple #[.int .u64 ((x - y - c) % 18446744073709551616), .int .u64 (-((x - y - c) / 18446744073709551616))])) w := by
  obtain ⟨x, rfl⟩ := Int.eq_ofNat_of_zero_le hx
  obtain ⟨y, rfl⟩ := Int.eq_ofNat_of_zero_le hy
  obtain ⟨c, rfl⟩ := Int.eq_ofNat_of_zero_le hc
  have h1 : c ≤ 1 := by omega
  rw [run_callFunc_extern (e := fun args => do
    let (x, y, b) ← Extern.MathBitsCarry.three "Sub64" args
    pure (Extern.MathBitsCarry.pair ((x + Extern.MathBitsCarry.m64 - y - b) % Extern.MathBitsCarry.m64) (if x < y + b then 1 else 0))) Try.func79 (by kernel_rfl) (by kernel_rfl) (by kernel_rfl) (by kernel_rfl)]
  have e1 : ∀ b : Nat, b ≤ 1 → (((x + 18446744073709551616 - y - b) % 18446744073709551616 : Nat) : Int) = ((x : Int) - y - b) % 18446744073709551616 := by intro b hb; omega
  have e2 : ∀ b : Nat, b ≤ 1 → ((if x < y + b then 1 else 0 : Nat) : Int) = -(((x : Int) - y - b) / 18446744073709551616) := by intro b hb; split <;> omega
  have : c = 0 ∨ c = 1 := by omega
  rcases this with rfl | rfl
  · exact congrArg (fun t => Result.ok (Next.value t) w) (congr (congrArg (fun a b => Value.tuple #[.int .u64 a, .int .u64 b]) (e1 0 (by omega))) (e2 0 (by omega)))
  · exact congrArg (fun t => Result.ok (Next.value t) w) (congr (congrArg (fun a b => Value.tuple #[.int .u64 a, .int .u64 b]) (e1 1 (by omega))) (e2 1 (by omega)))

set_option maxHeartbeats 400000 in
theorem words_plus_raw (l0 h0 l1 h1 d c g f : Int) (w : World) (hA : ∀ w, (callFunc 71 #[.int .u64 l0, .int .u64 l1, .int .u64 0]).run Try.prog w = .ok (.value (.tuple #[.int .u64 d, .int .u64 c])) w)
    (hB : ∀ w, (callFunc 71 #[.int .u64 h0, .int .u64 h1, .int .u64 c]).run Try.prog w = .ok (.value (.tuple #[.int .u64 g, .int .u64 f])) w) :
    Calls Try.prog 57 #[.agg #[.int .u64 l0, .int .u64 h0], .agg #[.int .u64 l1, .int .u64 h1]] w fun e w' => e = .returned (.agg #[.int .u64 d, .int .u64 g]) ∧ Below w.heap.size w w' := by
  go_enter Try.func57, Try.ntmps57
  go_wp2
  exact bodyPost_ret (v := .agg #[.int .u64 d, .int .u64 g]) (by simp [results, Try.results57, go_sem]) rfl ⟨rfl, below3 _ _ _ _⟩
theorem words_plus (l0 h0 l1 h1 a b : Int) (w : World) (e0 : l0 = wLo a) (e1 : h0 = wHi a) (e2 : l1 = wLo b) (e3 : h1 = wHi b) :
    Calls Try.prog 57 #[.agg #[.int .u64 l0, .int .u64 h0], .agg #[.int .u64 l1, .int .u64 h1]] w fun e w' => e = .returned (.agg #[.int .u64 (wLo (a + b)), .int .u64 (wHi (a + b))]) ∧ Below w.heap.size w w' := by
  have ba := wLo_bd a
  have bb := wLo_bd b
  have ca := wHi_bd a
  have cb := wHi_bd b
  refine (words_plus_raw l0 h0 l1 h1 _ _ _ _ w (fun w => run_Add64 l0 l1 0 w (by omega) (by omega) (by omega) (by omega)) (fun w => run_Add64 h0 h1 _ w (by omega) (by omega) (by omega) (by omega))).mono ?_
  rintro e w' ⟨rfl, hb⟩
  refine ⟨ret_agg2 ?_ ?_, hb⟩
  · rw [e0, e2]; unfold wLo; omega
  · rw [e0, e1, e2, e3]; unfold wLo wHi; omega

set_option maxHeartbeats 400000 in
theorem words_minus_raw (l0 h0 d c g f : Int) (w : World) (hA : ∀ w, (callFunc 79 #[.int .u64 0, .int .u64 l0, .int .u64 0]).run Try.prog w = .ok (.value (.tuple #[.int .u64 d, .int .u64 c])) w)
    (hB : ∀ w, (callFunc 79 #[.int .u64 0, .int .u64 h0, .int .u64 c]).run Try.prog w = .ok (.value (.tuple #[.int .u64 g, .int .u64 f])) w) :
    Calls Try.prog 68 #[.agg #[.int .u64 l0, .int .u64 h0]] w fun e w' => e = .returned (.agg #[.int .u64 d, .int .u64 g]) ∧ Below w.heap.size w w' := by
  go_enter Try.func68, Try.ntmps68
  go_wp2
  exact bodyPost_ret (v := .agg #[.int .u64 d, .int .u64 g]) (by simp [results, Try.results68, go_sem]) rfl ⟨rfl, below2 _ _ _⟩
theorem words_minus (l0 h0 a : Int) (w : World) (e0 : l0 = wLo a) (e1 : h0 = wHi a) :
    Calls Try.prog 68 #[.agg #[.int .u64 l0, .int .u64 h0]] w fun e w' => e = .returned (.agg #[.int .u64 (wLo (-a)), .int .u64 (wHi (-a))]) ∧ Below w.heap.size w w' := by
  have ba := wLo_bd a
  have ca := wHi_bd a
  refine (words_minus_raw l0 h0 _ _ _ _ w (fun w => run_Sub64 0 l0 0 w (by omega) (by omega) (by omega) (by omega) (by omega) (by omega)) (fun w => run_Sub64 0 h0 _ w (by omega) (by omega) (by omega) (by omega) (by omega) (by omega))).mono ?_
  rintro e w' ⟨rfl, hb⟩
  refine ⟨ret_agg2 ?_ ?_, hb⟩
  · rw [e0]; unfold wLo; omega
  · rw [e0, e1]; unfold wLo wHi; omega


set_option maxHeartbeats 400000 in
theorem words_of (v : Int) (w : World) (hv : I64 v) :
    Calls Try.prog 58 #[.int .i64 v] w fun e w' => e = .returned (.agg #[.int .u64 (wLo v), .int .u64 (wHi v)]) ∧ Below w.heap.size w w' := by
  unfold I64 at hv
  obtain ⟨hv0, hv1⟩ := hv
  go_enter Try.func58, Try.ntmps58
  go_wp2
  refine bodyPost_ret (v := .agg #[.int .u64 (IntKind.u64.wrap v), .int .u64 (IntKind.u64.wrap (v / 9223372036854775808))]) (by simp [results, Try.results58, go_sem]) rfl ⟨ret_agg2 ?_ ?_, below1 _ _⟩
  · rw [IntKind.wrap_u64]; unfold wLo; omega
  · rw [IntKind.wrap_u64]; unfold wHi; omega

set_option maxHeartbeats 400000 in
theorem words_below_raw (l0 h0 : Int) (w : World) :
    Calls Try.prog 69 #[.agg #[.int .u64 l0, .int .u64 h0]] w fun e w' => e = .returned (.bool (decide (wrap64 h0 < 0))) ∧ Below w.heap.size w w' := by
  go_enter Try.func69, Try.ntmps69
  go_wp2
  go_ret
  exact ⟨rfl, below1 _ _⟩
def I128 (a : Int) : Prop := -170141183460469231731687303715884105728 ≤ a ∧ a ≤ 170141183460469231731687303715884105727
theorem words_below (b : Bool) (l0 h0 a : Int) (w : World) (e1 : h0 = wHi a) (ha : I128 a) (hb : b = decide (a < 0)) :
    Calls Try.prog 69 #[.agg #[.int .u64 l0, .int .u64 h0]] w fun e w' => e = .returned (.bool b) ∧ Below w.heap.size w w' := by
  refine (words_below_raw l0 h0 w).mono ?_
  rintro e w' ⟨rfl, hw⟩
  refine ⟨ret_bool ?_, hw⟩
  rw [hb, e1]
  unfold I128 at ha
  unfold wHi wrap64
  rw [decide_eq_decide]
  omega

set_option maxHeartbeats 400000 in
theorem words_fit_raw (l0 h0 : Int) (w : World) :
    Calls Try.prog 66 #[.agg #[.int .u64 l0, .int .u64 h0]] w fun e w' => e = .returned (.tuple #[.int .i64 (wrap64 l0), .bool (h0 == IntKind.u64.wrap (wrap64 l0 / 9223372036854775808))]) ∧ Below w.heap.size w w' := by
  go_enter Try.func66, Try.ntmps66
  go_wp2
  go_quiet (fail)
  go_wp2
  go_ret2
  exact ⟨rfl, below_up (below1 _ _) (below_drewN _ _)⟩
theorem words_fit_yes (l0 h0 a : Int) (w : World) (e0 : l0 = wLo a) (e1 : h0 = wHi a) (h : I64 a) :
    Calls Try.prog 66 #[.agg #[.int .u64 l0, .int .u64 h0]] w fun e w' => e = .returned (.tuple #[.int .i64 a, .bool true]) ∧ Below w.heap.size w w' := by
  refine (words_fit_raw l0 h0 w).mono ?_
  rintro e w' ⟨rfl, hb⟩
  unfold I64 at h
  have hw : wrap64 l0 = a := by rw [e0]; unfold wLo wrap64; omega
  refine ⟨ret_ib hw ?_, hb⟩
  rw [hw, e1, IntKind.wrap_u64]
  unfold wHi
  rw [beq_iff_eq]
  omega
theorem words_fit_no (l0 h0 a : Int) (w : World) (e0 : l0 = wLo a) (e1 : h0 = wHi a) (h : ¬ I64 a) (h128 : I128 a) :
    Calls Try.prog 66 #[.agg #[.int .u64 l0, .int .u64 h0]] w fun e w' => e = .returned (.tuple #[.int .i64 (wrap64 l0), .bool false]) ∧ Below w.heap.size w w' := by
  refine (words_fit_raw l0 h0 w).mono ?_
  rintro e w' ⟨rfl, hb⟩
  unfold I64 at h
  unfold I128 at h128
  refine ⟨ret_ib rfl ?_, hb⟩
  rw [e0, e1, IntKind.wrap_u64]
  unfold wHi wLo wrap64
  rw [beq_eq_false_iff_ne]
  have ex : 0 ≤ a % 18446744073709551616 ∧ a % 18446744073709551616 < 18446744073709551616 := by omega
  have ea : a = a / 18446744073709551616 * 18446744073709551616 + a % 18446744073709551616 := by omega
  generalize a % 18446744073709551616 = x at *
  generalize a / 18446744073709551616 = y at *
  by_cases hx : x < 9223372036854775808
  · rw [show (x + 9223372036854775808) % 18446744073709551616 - 9223372036854775808 = x by omega, show x / 9223372036854775808 = 0 by omega]
    omega
  · rw [show (x + 9223372036854775808) % 18446744073709551616 - 9223372036854775808 = x - 18446744073709551616 by omega, show (x - 18446744073709551616) / 9223372036854775808 = -1 by omega]
    omega

set_option maxHeartbeats 400000 in
theorem words_held (l0 h0 a : Int) (w : World) (e0 : l0 = wLo a) (e1 : h0 = wHi a) (h128 : I128 a) :
    Calls Try.prog 45 #[.agg #[.int .u64 l0, .int .u64 h0]] w fun e w' => e = .returned (.int .i64 (heldI a)) ∧ Below w.heap.size w w' := by
  by_cases h : I64 a
  · have hf := fun w => words_fit_yes l0 h0 a w e0 e1 h
    have Hf := Lib.hid hf
    clear hf e0 e1
    go_enter Try.func45, Try.ntmps45
    go_wp2_with (go_at_call 66; refine (Hf.out _).mono ?_; rintro e w1 ⟨rfl, hb⟩)
    go_ret
    exact ⟨ret_int (heldI_of a h).symm, below_up (below1 _ _) hb⟩
  · have hf := fun w => words_fit_no l0 h0 a w e0 e1 h h128
    have Hf := Lib.hid hf
    by_cases hn : a < 0
    · have hg := fun w => words_below true l0 h0 a w e1 h128 (by simp [hn])
      have Hg := Lib.hid hg
      have hr : (-9223372036854775808 : Int) = heldI a := by unfold heldI; unfold I64 at h; rw [if_pos (by omega)]
      have Hr := Lib.hid hr
      clear hf hg hr e0 e1
      go_enter Try.func45, Try.ntmps45
      go_wp2_with (first
        | (go_at_call 66; refine (Hf.out _).mono ?_; rintro e w1 ⟨rfl, hb⟩; obtain ⟨hc, hfz⟩ := bcell hb)
        | (go_at_call 69; refine (Hg.out _).mono ?_; rintro e w2 ⟨rfl, hb2⟩))
      go_ret
      exact ⟨ret_int Hr.out, below_up (below_up (below1 _ _) hb) hb2⟩
    · have hg := fun w => words_below false l0 h0 a w e1 h128 (by simp; omega)
      have Hg := Lib.hid hg
      have hr : (9223372036854775807 : Int) = heldI a := by unfold heldI; unfold I64 at h; rw [if_neg (by omega), if_pos (by omega)]
      have Hr := Lib.hid hr
      clear hf hg hr e0 e1
      go_enter Try.func45, Try.ntmps45
      go_wp2_with (first
        | (go_at_call 66; refine (Hf.out _).mono ?_; rintro e w1 ⟨rfl, hb⟩; obtain ⟨hc, hfz⟩ := bcell hb)
        | (go_at_call 69; refine (Hg.out _).mono ?_; rintro e w2 ⟨rfl, hb2⟩))
      go_ret
      exact ⟨ret_int Hr.out, below_up (below_up (below1 _ _) hb) hb2⟩

set_option maxHeartbeats 400000 in
theorem fix_told_yes (l0 h0 a : Int) (w : World) (e0 : l0 = wLo a) (e1 : h0 = wHi a) (h : I64 a) :
    Calls Try.prog 43 #[.agg #[.int .u64 l0, .int .u64 h0]] w fun e w' => e = .returned (.tuple #[.int .i64 a, .bool true]) ∧ Below w.heap.size w w' := by
  have hf := fun w => words_fit_yes l0 h0 a w e0 e1 h
  have Hf := Lib.hid hf
  clear hf e0 e1
  go_enter Try.func43, Try.ntmps43
  go_wp2_with (go_at_call 66; refine (Hf.out _).mono ?_; rintro e w1 ⟨rfl, hb⟩)
  go_ret2
  exact ⟨rfl, below_up (below1 _ _) hb⟩
set_option maxHeartbeats 400000 in
theorem fix_told_no (l0 h0 a : Int) (w : World) (e0 : l0 = wLo a) (e1 : h0 = wHi a) (h : ¬ I64 a) (h128 : I128 a) :
    Calls Try.prog 43 #[.agg #[.int .u64 l0, .int .u64 h0]] w fun e w' => e = .returned (.tuple #[.int .i64 0, .bool false]) ∧ Below w.heap.size w w' := by
  have hf := fun w => words_fit_no l0 h0 a w e0 e1 h h128
  have Hf := Lib.hid hf
  clear hf e0 e1
  go_enter Try.func43, Try.ntmps43
  go_wp2_with (go_at_call 66; refine (Hf.out _).mono ?_; rintro e w1 ⟨rfl, hb⟩)
  go_ret2
  exact ⟨rfl, below_up (below1 _ _) hb⟩

/-- A number's size. -/
def absI (v : Int) : Int := if v < 0 then -v else v
theorem absI_neg {v : Int} (h : v < 0) : absI v = -v := if_pos h
theorem absI_pos {v : Int} (h : ¬ v < 0) : absI v = v := if_neg h
set_option maxHeartbeats 400000 in
theorem fix_size (v : Int) (w : World) (hv : I64 v) :
    Calls Try.prog 67 #[.int .i64 v] w fun e w' => e = .returned (.int .u64 (absI v)) ∧ w' = w := by
  unfold I64 at hv
  obtain ⟨hv0, hv1⟩ := hv
  by_cases h : v < 0
  · go_enter Try.func67, Try.ntmps67
    go_wp2
    go_ret
    refine ⟨ret_int ?_, rfl⟩
    rw [absI_neg h]
    simp only [IntKind.wrap_u64]
    omega
  · go_enter Try.func67, Try.ntmps67
    go_wp2
    go_ret
    refine ⟨ret_int ?_, rfl⟩
    rw [absI_pos (by omega)]
    try simp only [IntKind.wrap_u64]
    try omega
end Go.Proofs.Ytfhhdlpglfjdgaa
