/- Package fix: products, quotients, held arithmetic. -/
import Derived.Test.YtfhhdlpglfjdgaaDivB
set_option linter.unusedVariables false
set_option linter.unusedSimpArgs false
namespace Go.Proofs.Ytfhhdlpglfjdgaa
open Go.RowKit

theorem absI_bd (v : Int) (h : I64 v) : 0 ≤ absI v ∧ absI v ≤ 9223372036854775808 := by unfold I64 at h; unfold absI; split <;> omega

theorem mul_i128 (a b : Int) (ha : I64 a) (hb : I64 b) : I128 (a * b) := by
  have h1 : absI a * absI b ≤ 9223372036854775808 * 9223372036854775808 := Int.mul_le_mul (absI_bd a ha).2 (absI_bd b hb).2 (absI_bd b hb).1 (by omega)
  have h2 : 0 ≤ absI a * absI b := Int.mul_nonneg (absI_bd a ha).1 (absI_bd b hb).1
  unfold I128
  by_cases x : a < 0 <;> by_cases y : b < 0
  · rw [absI_neg x, absI_neg y, Int.neg_mul_neg] at h1 h2
    omega
  · rw [absI_neg x, absI_pos y, Int.neg_mul] at h1 h2
    omega
  · rw [absI_pos x, absI_neg y, Int.mul_neg] at h1 h2
    omega
  · rw [absI_pos x, absI_pos y] at h1 h2
    omega

set_option maxHeartbeats 400000 in
theorem mul64 (a b : Int) (w : World) (ha0 : 0 ≤ a) (ha1 : a ≤ 18446744073709551615) (hb0 : 0 ≤ b) (hb1 : b ≤ 18446744073709551615) :
    Calls Try.prog 48 #[.int .u64 a, .int .u64 b] w fun e w' => e = .returned (.tuple #[.int .u64 (a * b / 18446744073709551616), .int .u64 (a * b % 18446744073709551616)]) ∧ w' = w := by
  obtain ⟨A, rfl⟩ := Int.eq_ofNat_of_zero_le ha0
  obtain ⟨B, rfl⟩ := Int.eq_ofNat_of_zero_le hb0
  refine (Try.bits_Mul64 A B (by omega) (by omega) w).mono ?_
  rintro e w' ⟨rfl, hw⟩
  exact ⟨ret_ii (by simp) (by simp), hw⟩

set_option maxHeartbeats 800000 in
theorem fix_times_raw (a b c d u v l' h' : Int) (w : World) (h1 : ∀ w, Calls Try.prog 67 #[.int .i64 a] w fun e w' => e = .returned (.int .u64 c) ∧ w' = w)
    (h2 : ∀ w, Calls Try.prog 67 #[.int .i64 b] w fun e w' => e = .returned (.int .u64 d) ∧ w' = w)
    (h3 : ∀ w, Calls Try.prog 48 #[.int .u64 c, .int .u64 d] w fun e w' => e = .returned (.tuple #[.int .u64 u, .int .u64 v]) ∧ w' = w)
    (h4 : ∀ w, Calls Try.prog 68 #[.agg #[.int .u64 v, .int .u64 u]] w fun e w' => e = .returned (.agg #[.int .u64 l', .int .u64 h']) ∧ Below w.heap.size w w') :
    ((decide (a < 0) = decide (b < 0)) → Calls Try.prog 44 #[.int .i64 a, .int .i64 b] w fun e w' => e = .returned (.agg #[.int .u64 v, .int .u64 u]) ∧ Below w.heap.size w w') ∧
    ((decide (a < 0) ≠ decide (b < 0)) → Calls Try.prog 44 #[.int .i64 a, .int .i64 b] w fun e w' => e = .returned (.agg #[.int .u64 l', .int .u64 h']) ∧ Below w.heap.size w w') := by
  have H1 := Lib.hid h1
  have H2 := Lib.hid h2
  have H3 := Lib.hid h3
  have H4 := Lib.hid h4
  clear h1 h2 h3 h4
  refine ⟨fun ht => ?_, fun ht => ?_⟩
  all_goals
    by_cases ha : a < 0 <;> by_cases hb : b < 0
    all_goals first
      | (exfalso; simp [ha, hb] at ht; done)
      | skip
    all_goals
      clear ht
      first
        | (have da : decide (a < 0) = true := decide_eq_true ha)
        | (have da : decide (a < 0) = false := decide_eq_false ha)
      first
        | (have db : decide (b < 0) = true := decide_eq_true hb)
        | (have db : decide (b < 0) = false := decide_eq_false hb)
      clear ha hb
      go_enter Try.func44, Try.ntmps44
      go_wp2_with fail
      refine (H1.out _).mono ?_
      rintro e w1 ⟨rfl, rfl⟩
      go_wp2_with fail
      refine (H2.out _).mono ?_
      rintro e w1 ⟨rfl, rfl⟩
      go_wp2_with fail
      refine (H3.out _).mono ?_
      rintro e w1 ⟨rfl, rfl⟩
      go_wp2_with fail
      first
        | exact bodyPost_ret (v := .agg #[.int .u64 v, .int .u64 u]) (by simp [results, Try.results44, go_sem]) rfl ⟨rfl, below2 _ _ _⟩
        | (refine (H4.out _).mono ?_
           rintro e w2 ⟨rfl, hbl⟩
           have hk := hb_below' (hb_alloc (hb_new w _) _) hbl
           have k0 := hb_cell hk 0
           have k1 := hb_cell hk 1
           have f0 := hb_free hk 0
           have f1 := hb_free hk 1
           have ht := two_set hk (.int .u64 l') (.int .u64 h')
           have t0 := hb_cell ht 0
           have t1 := hb_cell ht 1
           have Hb := Lib.hid hbl
           clear hbl hk ht
           simp only [List.getElem?_toArray, List.getElem?_cons_zero, List.getElem?_cons_succ] at k0 k1 t0 t1
           go_wp2
           exact bodyPost_ret (v := .agg #[.int .u64 l', .int .u64 h']) (by simp [results, Try.results44, t0, t1, go_sem]) rfl ⟨rfl, ((below_up (below2 _ _ _) Hb.out).setCell (Nat.le_refl _) _).setCell (Nat.le_refl _) _⟩)

theorem wLo_mul (n : Int) : wLo n = n % 18446744073709551616 := rfl
theorem fix_times (a b : Int) (w : World) (ha : I64 a) (hb : I64 b) :
    Calls Try.prog 44 #[.int .i64 a, .int .i64 b] w fun e w' => e = .returned (.agg #[.int .u64 (wLo (a * b)), .int .u64 (wHi (a * b))]) ∧ Below w.heap.size w w' := by
  have ba := absI_bd a ha
  have bb := absI_bd b hb
  have hm : absI a * absI b ≤ 9223372036854775808 * 9223372036854775808 := Int.mul_le_mul ba.2 bb.2 bb.1 (by omega)
  have hm0 : 0 ≤ absI a * absI b := Int.mul_nonneg ba.1 bb.1
  have key := fix_times_raw a b (absI a) (absI b) _ _ _ _ w (fun w => fix_size a w ha) (fun w => fix_size b w hb) (fun w => mul64 (absI a) (absI b) w (by omega) (by omega) (by omega) (by omega))
    (fun w => words_minus _ _ (absI a * absI b) w rfl (by unfold wHi; omega))
  by_cases h : decide (a < 0) = decide (b < 0)
  · refine (key.1 h).mono ?_
    rintro e w' ⟨rfl, hbl⟩
    have e1 : absI a * absI b = a * b := by
      by_cases x : a < 0
      · have y : b < 0 := by simpa [x] using h.symm
        rw [absI_neg x, absI_neg y, Int.neg_mul_neg]
      · have y : ¬ b < 0 := by simpa [x] using h.symm
        rw [absI_pos x, absI_pos y]
    rw [e1] at hm hm0 ⊢
    exact ⟨ret_agg2 rfl (by unfold wHi; omega), hbl⟩
  · refine (key.2 h).mono ?_
    rintro e w' ⟨rfl, hbl⟩
    have e1 : -(absI a * absI b) = a * b := by
      by_cases x : a < 0
      · have y : ¬ b < 0 := fun y => h (by simp [x, y])
        rw [absI_neg x, absI_pos y, Int.neg_mul, Int.neg_neg]
      · have y : b < 0 := by
          by_cases y : b < 0
          · exact y
          · exact absurd (by simp [x, y]) h
        rw [absI_pos x, absI_neg y, Int.mul_neg, Int.neg_neg]
    rw [e1]
    exact ⟨rfl, hbl⟩

set_option maxHeartbeats 800000 in
theorem words_over_pos_raw (l0 h0 den g u v : Int) (w : World) (hh : 0 ≤ h0) (hd : 0 < den) (hd1 : den ≤ 18446744073709551615) (hg : IntKind.u64.wrap (h0.tdiv den) = g)
    (h1 : ∀ w, Calls Try.prog 69 #[.agg #[.int .u64 l0, .int .u64 h0]] w fun e w' => e = .returned (.bool false) ∧ Below w.heap.size w w')
    (h2 : ∀ w, Calls Try.prog 49 #[.int .u64 (h0 % den), .int .u64 l0, .int .u64 den] w fun e w' => e = .returned (.tuple #[.int .u64 u, .int .u64 v]) ∧ Below w.heap.size w w') :
    Calls Try.prog 46 #[.agg #[.int .u64 l0, .int .u64 h0], .int .u64 den] w fun e w' => e = .returned (.agg #[.int .u64 u, .int .u64 g]) ∧ Below w.heap.size w w' := by
  have H1 := Lib.hid h1
  have H2 := Lib.hid h2
  clear h1 h2
  have hdn : (den == 0) = false := by simp; omega
  go_enter Try.func46, Try.ntmps46
  go_wp2_with fail
  refine (H1.out _).mono ?_
  rintro e w1 ⟨rfl, hb1⟩
  have k2 := hb_below' (hb_alloc (hb_new w _) _) hb1
  have k4 := hb_below' (hb_new (w.alloc _) _) hb1
  simp only [World.size_alloc] at k4
  obtain ⟨c20, c21, f20, f21⟩ := hb2 k2
  have K4 := Lib.hid k4
  have Hb1 := Lib.hid hb1
  clear k2 k4 hb1
  go_wp2_with fail
  go_quiet (fail)
  go_wp2_with fail
  refine (H2.out _).mono ?_
  rintro e w2 ⟨rfl, hb2'⟩
  clear c20 c21 f20 f21
  have k4 := hb_below' (hb_drewN K4.out _) hb2'
  have K5 := hb_alloc (two_set k4 (.int .u64 u) (.int .u64 g)) (.cells #[.int .u64 u, .int .u64 g] 54)
  obtain ⟨c40, c41, f40, f41⟩ := hb2 k4
  obtain ⟨d40, d41, _, _⟩ := hb2 K5
  have hlt := hb_lt k4
  have Hb2 := Lib.hid hb2'
  clear k4 K5 hb2'
  go_wp2
  exact bodyPost_ret (v := .agg #[.int .u64 u, .int .u64 g]) (by simp [results, Try.results46, d40, d41, go_sem]) rfl
    ⟨rfl, (((below_up (below_up (below_up (below2 _ _ _) Hb1.out) (below_drewN _ _)) Hb2.out).setCell (by simp) _).setCell (by simp) _).alloc (by simp; omega) _⟩

theorem shift128 (a : Int) : a / 18446744073709551616 * 18446744073709551616 + a % 18446744073709551616 = a := by omega
/-- A number of two words by one. -/
theorem words_div (l h den : Int) (hl : 0 ≤ l) (hl1 : l ≤ 18446744073709551615) (hh : 0 ≤ h) (hd : 0 < den) : (h * 18446744073709551616 + l) / den = h / den * 18446744073709551616 + (h % den * 18446744073709551616 + l) / den ∧
    0 ≤ (h % den * 18446744073709551616 + l) / den ∧ (h % den * 18446744073709551616 + l) / den ≤ 18446744073709551615 ∧ (h % den * 18446744073709551616 + l) % den = (h * 18446744073709551616 + l) % den := by
  have e := Int.emod_add_mul_ediv h den
  have r0 := Int.emod_nonneg h (show den ≠ 0 by omega)
  have r1 := Int.emod_lt_of_pos h hd
  have key : h * 18446744073709551616 + l = (h % den * 18446744073709551616 + l) + den * (h / den * 18446744073709551616) := by
    have : h * 18446744073709551616 = (h % den + den * (h / den)) * 18446744073709551616 := by rw [e]
    rw [this, Int.add_mul, Int.mul_assoc]; omega
  refine ⟨?_, Int.ediv_nonneg (by omega) (by omega), ?_, ?_⟩
  · rw [key, Int.add_mul_ediv_left _ _ (by omega)]; omega
  · have : (h % den * 18446744073709551616 + l) / den < 18446744073709551616 := Int.ediv_lt_of_lt_mul hd (by omega)
    omega
  · rw [key, Int.add_mul_emod_self_left]

theorem words_over_pos (l0 h0 den a : Int) (w : World) (e0 : l0 = wLo a) (e1 : h0 = wHi a) (ha : 0 ≤ a) (ha1 : I128 a) (hd : 0 < den) (hd1 : den ≤ 18446744073709551615) :
    Calls Try.prog 46 #[.agg #[.int .u64 l0, .int .u64 h0], .int .u64 den] w fun e w' => e = .returned (.agg #[.int .u64 (wLo (a / den)), .int .u64 (wHi (a / den))]) ∧ Below w.heap.size w w' := by
  have bl := wLo_bd a
  have bh := wHi_bd a
  rw [← e0] at bl
  rw [← e1] at bh
  have ea : a = h0 * 18446744073709551616 + l0 := by rw [e0, e1]; unfold wLo wHi; unfold I128 at ha1; omega
  have hw := words_div l0 h0 den bl.1 bl.2 bh.1 hd
  have r0 := Int.emod_nonneg h0 (show den ≠ 0 by omega)
  have r1 := Int.emod_lt_of_pos h0 hd
  refine (words_over_pos_raw l0 h0 den _ _ _ w bh.1 hd hd1 (wrap_tdiv h0 den bh.1 bh.2 hd) (fun w => words_below false l0 h0 a w e1 ha1 (by simp; omega)) (fun w => div64 _ _ _ w r0 r1 bl.1 bl.2 hd1)).mono ?_
  rintro e w' ⟨rfl, hb⟩
  obtain ⟨hw1, hw2, hw3, _⟩ := hw
  have q0 : 0 ≤ h0 / den := Int.ediv_nonneg bh.1 (by omega)
  have q1 : h0 / den ≤ h0 := Int.ediv_le_self _ bh.1
  rw [← ea] at hw1
  refine ⟨ret_agg2 ?_ ?_, hb⟩
  · unfold wLo; omega
  · unfold wHi; omega

set_option maxHeartbeats 1600000 in
theorem words_over_neg_raw (l0 h0 l h den g u v l2 h2 l3 h3 : Int) (w : World) (hh : 0 ≤ h) (hd : 0 < den) (hd1 : den ≤ 18446744073709551615) (hg : IntKind.u64.wrap (h.tdiv den) = g) (hv : 0 ≤ v)
    (h1 : ∀ w, Calls Try.prog 69 #[.agg #[.int .u64 l0, .int .u64 h0]] w fun e w' => e = .returned (.bool true) ∧ Below w.heap.size w w')
    (hm : ∀ w, Calls Try.prog 68 #[.agg #[.int .u64 l0, .int .u64 h0]] w fun e w' => e = .returned (.agg #[.int .u64 l, .int .u64 h]) ∧ Below w.heap.size w w')
    (hdv : ∀ w, Calls Try.prog 49 #[.int .u64 (h % den), .int .u64 l, .int .u64 den] w fun e w' => e = .returned (.tuple #[.int .u64 u, .int .u64 v]) ∧ Below w.heap.size w w')
    (hpl : 0 < v → ∀ w, Calls Try.prog 57 #[.agg #[.int .u64 u, .int .u64 g], .agg #[.int .u64 1, .int .u64 0]] w fun e w' => e = .returned (.agg #[.int .u64 l2, .int .u64 h2]) ∧ Below w.heap.size w w')
    (hnp : ¬ 0 < v → l2 = u ∧ h2 = g)
    (hmm : ∀ w, Calls Try.prog 68 #[.agg #[.int .u64 l2, .int .u64 h2]] w fun e w' => e = .returned (.agg #[.int .u64 l3, .int .u64 h3]) ∧ Below w.heap.size w w') :
    Calls Try.prog 46 #[.agg #[.int .u64 l0, .int .u64 h0], .int .u64 den] w fun e w' => e = .returned (.agg #[.int .u64 l3, .int .u64 h3]) ∧ Below w.heap.size w w' := by
  have H1 := Lib.hid h1
  have HM := Lib.hid hm
  have HD := Lib.hid hdv
  have HMM := Lib.hid hmm
  clear h1 hm hdv hmm
  have hdn : (den == 0) = false := by simp; omega
  go_enter Try.func46, Try.ntmps46
  go_wp2_with fail
  refine (H1.out _).mono ?_
  rintro e w1 ⟨rfl, hb1⟩
  have k2 := hb_below' (hb_alloc (hb_new w _) _) hb1
  have k4 := hb_below' (hb_new (w.alloc _) _) hb1
  simp only [World.size_alloc] at k4
  obtain ⟨c20, c21, f20, f21⟩ := hb2 k2
  have K2 := Lib.hid k2
  have K4 := Lib.hid k4
  have Hb1 := Lib.hid hb1
  clear k2 k4 hb1
  go_wp2_with fail
  refine (HM.out _).mono ?_
  rintro e w2 ⟨rfl, hb2'⟩
  clear c20 c21 f20 f21
  have k2 := hb_below' K2.out hb2'
  have k4 := hb_below' K4.out hb2'
  have k2' := two_set k2 (.int .u64 l) (.int .u64 h)
  have k4' := hb_far (hb_far k4 (a := ⟨w.heap.size, 0, none⟩) (by simp) (.int .u64 l)) (a := ⟨w.heap.size, 1, none⟩) (by simp) (.int .u64 h)
  obtain ⟨c20, c21, f20, f21⟩ := hb2 k2
  obtain ⟨d20, d21, _, _⟩ := hb2 k2'
  have Hb2 := Lib.hid hb2'
  have K4 := Lib.hid k4'
  clear k2 k4 k2' k4' hb2'
  go_wp2_with fail
  go_quiet (fail)
  go_wp2_with fail
  refine (HD.out _).mono ?_
  rintro e w3 ⟨rfl, hb3⟩
  clear c20 c21 f20 f21 d20 d21
  have k4 := hb_below' (hb_drewN K4.out _) hb3
  have hlt := hb_lt k4
  have hB : Below w.heap.size w w3 := below_up (below_up (((below_up (below_up (below2 _ _ _) Hb1.out) Hb2.out).setCell (Nat.le_refl _) _).setCell (Nat.le_refl _) _) (below_drewN _ _)) hb3
  have HB := Lib.hid hB
  clear hb3 hB
  have k9 := hb_new w3 (.cells #[.int .u64 u, .int .u64 g] 54)
  have k4' := hb_alloc k4 (.cells #[.int .u64 u, .int .u64 g] 54)
  have K9 := Lib.hid k9
  have K4 := Lib.hid k4'
  clear k9 k4'
  by_cases hc : 0 < v
  · have HP := Lib.hid (hpl hc)
    clear hpl hnp
    go_wp2_with fail
    refine (HP.out _).mono ?_
    rintro e w4 ⟨rfl, hb4⟩
    have j9 := hb_below' K9.out hb4
    have j4 := hb_below' K4.out hb4
    have j9' := two_set j9 (.int .u64 l2) (.int .u64 h2)
    have j4' := hb_far (hb_far j4 (a := ⟨w3.heap.size, 0, none⟩) (by show _ ≠ w3.heap.size; omega) (.int .u64 l2)) (a := ⟨w3.heap.size, 1, none⟩) (by show _ ≠ w3.heap.size; omega) (.int .u64 h2)
    obtain ⟨c90, c91, f90, f91⟩ := hb2 j9
    obtain ⟨d90, d91, _, _⟩ := hb2 j9'
    have K4' := Lib.hid j4'
    have Hb4 := Lib.hid hb4
    clear j9 j4 j9' j4' hb4
    go_wp2_with fail
    refine (HMM.out _).mono ?_
    rintro e w5 ⟨rfl, hb5⟩
    clear c90 c91 f90 f91 d90 d91
    have j4 := hb_below' K4'.out hb5
    have j4' := two_set j4 (.int .u64 l3) (.int .u64 h3)
    obtain ⟨c40, c41, f40, f41⟩ := hb2 j4
    obtain ⟨d40, d41, _, _⟩ := hb2 j4'
    have Hb5 := Lib.hid hb5
    clear j4 j4' hb5
    go_wp2
    exact bodyPost_ret (v := .agg #[.int .u64 l3, .int .u64 h3]) (by simp [results, Try.results46, d40, d41, go_sem]) rfl
      ⟨rfl, (((below_up ((((below_up (HB.out.alloc HB.out.size _) Hb4.out).setCell HB.out.size _).setCell HB.out.size _)) Hb5.out).setCell (Nat.le_succ _) _).setCell (Nat.le_succ _) _)⟩
  · obtain ⟨rfl, rfl⟩ := hnp (by omega)
    clear hpl hnp
    obtain ⟨d90, d91, _, _⟩ := hb2 K9.out
    go_wp2_with fail
    refine (HMM.out _).mono ?_
    rintro e w5 ⟨rfl, hb5⟩
    clear d90 d91
    have j4 := hb_below' K4.out hb5
    have j4' := two_set j4 (.int .u64 l3) (.int .u64 h3)
    obtain ⟨c40, c41, f40, f41⟩ := hb2 j4
    obtain ⟨d40, d41, _, _⟩ := hb2 j4'
    have Hb5 := Lib.hid hb5
    clear j4 j4' hb5
    go_wp2
    exact bodyPost_ret (v := .agg #[.int .u64 l3, .int .u64 h3]) (by simp [results, Try.results46, d40, d41, go_sem]) rfl
      ⟨rfl, ((below_up (HB.out.alloc HB.out.size _) Hb5.out).setCell (Nat.le_succ _) _).setCell (Nat.le_succ _) _⟩
end Go.Proofs.Ytfhhdlpglfjdgaa
