/- The plain arithmetic of a division of 128 bits by 64, digit by digit of 32 bits. No program in it. -/
import GoSem.Core.Code
import Derived.Lib.BitFns
set_option linter.unusedVariables false
set_option linter.unusedSimpArgs false
namespace Go.Proofs.Ytfhhdlpglfjdgaa

/-- The state of a digit's search: the guess is not too low, and the rest belongs to it. -/
def DInv (U v1 Q q r : Int) : Prop := Q ≤ q ∧ q ≤ 4294967297 ∧ 0 ≤ r ∧ r < 4294967296 ∧ r = U - q * v1

theorem dq_bd (U u1 V : Int) (hU : 0 ≤ U) (hUV : U < V) (hu : 0 ≤ u1) (hu1 : u1 < 4294967296) : 0 ≤ (U * 4294967296 + u1) / V ∧ (U * 4294967296 + u1) / V < 4294967296 := by
  refine ⟨Int.ediv_nonneg (by omega) (by omega), ?_⟩
  refine Int.ediv_lt_of_lt_mul (by omega) ?_
  have : (U + 1) * 4294967296 ≤ V * 4294967296 := Int.mul_le_mul_of_nonneg_right (by omega) (by omega)
  rw [Int.mul_comm 4294967296 V]
  omega

theorem dq_mul (U u1 V : Int) (hV : 0 < V) : (U * 4294967296 + u1) / V * V ≤ U * 4294967296 + u1 ∧ U * 4294967296 + u1 < ((U * 4294967296 + u1) / V + 1) * V :=
  ⟨Int.ediv_mul_le _ (by omega), Int.lt_ediv_add_one_mul_self _ hV⟩

/-- The first guess. -/
theorem dinv_start (U u1 V v1 v0 : Int) (hU : 0 ≤ U) (hUV : U < V) (hu : 0 ≤ u1) (hu1 : u1 < 4294967296) (hV : V = v1 * 4294967296 + v0) (h0 : 0 ≤ v0) (h1 : v0 < 4294967296) (hv : 2147483648 ≤ v1) (hv1 : v1 < 4294967296) :
    DInv U v1 ((U * 4294967296 + u1) / V) (U / v1) (U - U / v1 * v1) := by
  have a := Int.ediv_mul_le U (show v1 ≠ 0 by omega)
  have b := Int.lt_ediv_add_one_mul_self U (show 0 < v1 by omega)
  rw [Int.add_mul] at b
  have hVp : 0 < V := by omega
  have hq0 : 0 ≤ U / v1 := Int.ediv_nonneg hU (by omega)
  refine ⟨?_, ?_, by omega, by omega, rfl⟩
  · -- the true digit is at most the guess
    have hm := (dq_mul U u1 V hVp).1
    generalize (U * 4294967296 + u1) / V = Q at *
    by_cases hle : Q ≤ U / v1
    · exact hle
    · exfalso
      have h2 : (U / v1 + 1) * V ≤ Q * V := Int.mul_le_mul_of_nonneg_right (by omega) (by omega)
      have h3 : (U / v1 + 1) * V = (U / v1 * v1 + v1) * 4294967296 + (U / v1 + 1) * v0 := by rw [hV]; generalize U / v1 = g; grind
      have h4 : 0 ≤ (U / v1 + 1) * v0 := Int.mul_nonneg (by omega) h0
      generalize (U / v1 + 1) * v0 = X at *
      generalize U / v1 * v1 = Y at *
      omega
  · have hm : U / v1 * v1 ≤ 4294967296 * v1 + 4294967295 := by omega
    by_cases hle : U / v1 ≤ 4294967297
    · exact hle
    · exfalso
      have : 4294967298 * v1 ≤ U / v1 * v1 := Int.mul_le_mul_of_nonneg_right (by omega) (by omega)
      omega

theorem dinv_mulV (U u1 V v1 v0 q r : Int) (hV : V = v1 * 4294967296 + v0) (hr : r = U - q * v1) : q * V = (U - r) * 4294967296 + q * v0 := by
  rw [hV, hr]; grind

/-- The test says yes: the guess is too high. -/
theorem dinv_high (U u1 V v1 v0 q r : Int) (hU : 0 ≤ U) (hUV : U < V) (hu : 0 ≤ u1) (hu1 : u1 < 4294967296) (hV : V = v1 * 4294967296 + v0) (h0 : 0 ≤ v0) (hVp : 0 < V)
    (h : DInv U v1 ((U * 4294967296 + u1) / V) q r) (ht : 4294967296 ≤ q ∨ r * 4294967296 + u1 < q * v0) : (U * 4294967296 + u1) / V ≤ q - 1 := by
  obtain ⟨hQ, hq, hr0, hr1, hr⟩ := h
  have hb := dq_bd U u1 V hU hUV hu hu1
  rcases ht with ht | ht
  · omega
  · have hm := (dq_mul U u1 V hVp).1
    have e := dinv_mulV U u1 V v1 v0 q r hV hr
    generalize (U * 4294967296 + u1) / V = Q at *
    by_cases hle : Q ≤ q - 1
    · exact hle
    · exfalso
      obtain rfl : Q = q := by omega
      rw [e] at hm
      generalize Q * v0 = X at *
      omega

/-- The test says no: the guess is the digit. -/
theorem dinv_done (U u1 V v1 v0 q r : Int) (hV : V = v1 * 4294967296 + v0) (hVp : 0 < V)
    (h : DInv U v1 ((U * 4294967296 + u1) / V) q r) (ht : q * v0 ≤ r * 4294967296 + u1) : q = (U * 4294967296 + u1) / V := by
  obtain ⟨hQ, hq, hr0, hr1, hr⟩ := h
  have e := dinv_mulV U u1 V v1 v0 q r hV hr
  have : q ≤ (U * 4294967296 + u1) / V := Int.le_ediv_of_mul_le hVp (by rw [e]; generalize q * v0 = X at *; omega)
  omega

/-- The rest has grown past 32 bits: the guess is the digit. -/
theorem dinv_break (U u1 V v1 v0 q r : Int) (hU : 0 ≤ U) (hUV : U < V) (hu : 0 ≤ u1) (hu1 : u1 < 4294967296) (hV : V = v1 * 4294967296 + v0) (h0 : 0 ≤ v0) (h1 : v0 < 4294967296) (hVp : 0 < V)
    (h : DInv U v1 ((U * 4294967296 + u1) / V) q r) (ht : 4294967296 ≤ q ∨ r * 4294967296 + u1 < q * v0) (hb : 4294967296 ≤ r + v1) : q - 1 = (U * 4294967296 + u1) / V := by
  have hh := dinv_high U u1 V v1 v0 q r hU hUV hu hu1 hV h0 hVp h ht
  have hd := dq_bd U u1 V hU hUV hu hu1
  obtain ⟨hQ, hq, hr0, hr1, hr⟩ := h
  have hr' : r + v1 = U - (q - 1) * v1 := by rw [hr]; grind
  have e := dinv_mulV U u1 V v1 v0 (q - 1) (r + v1) hV hr'
  have hp : (q - 1) * v0 ≤ 4294967296 * 4294967295 := by
    have h2 : (q - 1) * v0 ≤ (q - 1) * 4294967295 := Int.mul_le_mul_of_nonneg_left (by omega) (by omega)
    omega
  have : q - 1 ≤ (U * 4294967296 + u1) / V := Int.le_ediv_of_mul_le hVp (by rw [e]; generalize (q - 1) * v0 = X at *; omega)
  omega

/-- The rounds go on. -/
theorem dinv_next (U u1 V v1 v0 q r : Int) (hU : 0 ≤ U) (hUV : U < V) (hu : 0 ≤ u1) (hu1 : u1 < 4294967296) (hV : V = v1 * 4294967296 + v0) (h0 : 0 ≤ v0) (hVp : 0 < V) (hv : 0 ≤ v1)
    (h : DInv U v1 ((U * 4294967296 + u1) / V) q r) (ht : 4294967296 ≤ q ∨ r * 4294967296 + u1 < q * v0) (hb : r + v1 < 4294967296) : DInv U v1 ((U * 4294967296 + u1) / V) (q - 1) (r + v1) := by
  have hh := dinv_high U u1 V v1 v0 q r hU hUV hu hu1 hV h0 hVp h ht
  obtain ⟨hQ, hq, hr0, hr1, hr⟩ := h
  exact ⟨hh, by omega, by omega, hb, by rw [hr]; grind⟩

/-- What is left behind a digit. -/
theorem drest (U u1 V Q : Int) (hVp : 0 < V) (hV1 : V ≤ 18446744073709551615) (hQ : Q = (U * 4294967296 + u1) / V) :
    (((U * 4294967296) % 18446744073709551616 + u1) % 18446744073709551616 - (Q * V) % 18446744073709551616) % 18446744073709551616 = (U * 4294967296 + u1) % V := by
  have e : (U * 4294967296 + u1) % V = U * 4294967296 + u1 - Q * V := by
    have := Int.emod_add_mul_ediv (U * 4294967296 + u1) V
    rw [hQ, Int.mul_comm _ V]; omega
  have a := Int.emod_nonneg (U * 4294967296 + u1) (show V ≠ 0 by omega)
  have b := Int.emod_lt_of_pos (U * 4294967296 + u1) hVp
  rw [e] at a b ⊢
  generalize Q * V = X at *
  omega

/-- The two digits are the quotient, and the rest, shifted back, is the rest. -/
theorem dwhole (hi lo y p V U L u1 u0 Q1 Q0 D R : Int) (hp : 0 < p) (hy : 0 < y) (hV : V = y * p) (hN : U * 18446744073709551616 + L = (hi * 18446744073709551616 + lo) * p) (hL : L = u1 * 4294967296 + u0)
    (h1 : Q1 = (U * 4294967296 + u1) / V) (h2 : D = (U * 4294967296 + u1) % V) (h3 : Q0 = (D * 4294967296 + u0) / V) (h4 : R = (D * 4294967296 + u0) % V) :
    Q1 * 4294967296 + Q0 = (hi * 18446744073709551616 + lo) / y ∧ R / p = (hi * 18446744073709551616 + lo) % y := by
  have hVp : 0 < V := by rw [hV]; exact Int.mul_pos hy hp
  have e1 := Int.emod_add_mul_ediv (U * 4294967296 + u1) V
  have e2 := Int.emod_add_mul_ediv (D * 4294967296 + u0) V
  rw [← h1, ← h2] at e1
  rw [← h3, ← h4] at e2
  have r0 : 0 ≤ R := by rw [h4]; exact Int.emod_nonneg _ (by omega)
  have r1 : R < V := by rw [h4]; exact Int.emod_lt_of_pos _ hVp
  clear h1 h2 h3 h4
  generalize hi * 18446744073709551616 + lo = N at *
  have hk : N * p = (Q1 * 4294967296 + Q0) * V + R := by
    rw [← hN, hL]
    have : U * 18446744073709551616 + (u1 * 4294967296 + u0) = (U * 4294967296 + u1) * 4294967296 + u0 := by omega
    rw [this, ← e1]
    have : (D + V * Q1) * 4294967296 + u0 = (D * 4294967296 + u0) + V * Q1 * 4294967296 := by grind
    rw [this, ← e2]
    grind
  generalize Q1 * 4294967296 + Q0 = Q at *
  have hR : R = (N - Q * y) * p := by
    have : Q * V = Q * y * p := by rw [hV]; grind
    rw [Int.sub_mul]; omega
  have hRp : R / p = N - Q * y := by rw [hR]; exact Int.mul_ediv_cancel _ (by omega)
  have g0 : 0 ≤ N - Q * y := by rw [← hRp]; exact Int.ediv_nonneg r0 (by omega)
  have g1 : N - Q * y < y := by rw [← hRp]; exact Int.ediv_lt_of_lt_mul hp (by rw [← hV]; exact r1)
  have hq : N / y = Q := by
    have hNe : N = (N - Q * y) + y * Q := by rw [Int.mul_comm y Q]; omega
    rw [hNe, Int.add_mul_ediv_left _ _ (by omega), Int.ediv_eq_zero_of_lt g0 g1]; omega
  refine ⟨hq.symm, ?_⟩
  rw [hRp, Int.emod_def, hq, Int.mul_comm]
end Go.Proofs.Ytfhhdlpglfjdgaa
