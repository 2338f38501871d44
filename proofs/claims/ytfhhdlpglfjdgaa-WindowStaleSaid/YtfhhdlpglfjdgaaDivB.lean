/- math/bits.Div64, told by a quotient and a rest of whole numbers. -/
import Derived.Test.YtfhhdlpglfjdgaaDivA
import Derived.Lib.ItoaNum
import Derived.Laws.MathBits
set_option linter.unusedVariables false
set_option linter.unusedSimpArgs false
namespace Go.Proofs.Ytfhhdlpglfjdgaa
open Go.RowKit

theorem or_shift (a c s : Nat) (hc : c < 2 ^ s) : a * 2 ^ s ||| c = a * 2 ^ s + c := by
  rw [Nat.mul_comm]; exact (Nat.two_pow_add_eq_or_of_lt hc a).symm

/-- The normalized operands. -/
theorem div_norm (hi lo y : Int) (k0 : 0 ≤ hi) (k1 : hi < y) (h0 : 0 ≤ lo) (h1 : lo ≤ 18446744073709551615) (y1 : y ≤ 18446744073709551615) :
    ∃ s : Nat, s ≤ 63 ∧ (64 - (Lib.bitLen y.toNat : Int)) = s ∧ IntKind.u64.wrap (y * 2 ^ s) = y * 2 ^ s ∧ 9223372036854775808 ≤ y * 2 ^ s ∧ y * 2 ^ s ≤ 18446744073709551615 ∧
      ∃ U L, bits .or .u64 (IntKind.u64.wrap (hi * 2 ^ s)) (lo / 2 ^ (64 - s)) = U ∧ IntKind.u64.wrap (lo * 2 ^ s) = L ∧ 0 ≤ U ∧ U < y * 2 ^ s ∧ 0 ≤ L ∧ L ≤ 18446744073709551615 ∧
        U * 18446744073709551616 + L = (hi * 18446744073709551616 + lo) * 2 ^ s := by
  obtain ⟨Y, rfl⟩ := Int.eq_ofNat_of_zero_le (show 0 ≤ y by omega)
  obtain ⟨H, rfl⟩ := Int.eq_ofNat_of_zero_le k0
  obtain ⟨A, rfl⟩ := Int.eq_ofNat_of_zero_le h0
  have hb := Lib.bitLenAux_bounds 64 Y (by omega) (by omega)
  have hle := Lib.bitLen_le Y 64 (by omega) (by omega)
  rw [Int.toNat_natCast]
  change _ ∧ 2 ^ (Lib.bitLen Y - 1) ≤ Y ∧ Y < 2 ^ Lib.bitLen Y at hb
  change 1 ≤ Lib.bitLen Y ∧ _ at hb
  generalize Lib.bitLen Y = b at *
  obtain ⟨b1, lo2, hi2⟩ := hb
  refine ⟨64 - b, by omega, by omega, ?_⟩
  have e64 : 64 - (64 - b) = b := by omega
  rw [e64]
  have hp : 0 < 2 ^ (64 - b) := Nat.two_pow_pos _
  have hpb : 0 < 2 ^ b := Nat.two_pow_pos _
  have hpp : 2 ^ (64 - b) * 2 ^ b = 18446744073709551616 := by rw [← Nat.pow_add, show 64 - b + b = 64 by omega]
  have hpq : 2 ^ (64 - b) * 2 ^ (b - 1) = 9223372036854775808 := by rw [← Nat.pow_add, show 64 - b + (b - 1) = 63 by omega]
  have ec : ((2 : Int) ^ (64 - b)) = ((2 ^ (64 - b) : Nat) : Int) := by simp
  have ed : ((2 : Int) ^ b) = ((2 ^ b : Nat) : Int) := by simp
  rw [ec, ed]
  have hor := or_shift H (A / 2 ^ b) (64 - b)
  generalize 2 ^ (64 - b) = p at *
  generalize 2 ^ b = pb at *
  generalize 2 ^ (b - 1) = pq at *
  have v0 : 9223372036854775808 ≤ Y * p := by rw [← hpq, Nat.mul_comm]; exact Nat.mul_le_mul_right p lo2
  have v1 : Y * p < 18446744073709551616 := by rw [← hpp, Nat.mul_comm p pb]; exact Nat.mul_lt_mul_of_pos_right hi2 hp
  have hAp : A / pb < p := by rw [Nat.div_lt_iff_lt_mul hpb, hpp]; omega
  have hHp : H * p + p ≤ Y * p := by rw [← Nat.succ_mul]; exact Nat.mul_le_mul_right p (by omega)
  have e1 : ((Y : Int) * (p : Int)) = ((Y * p : Nat) : Int) := by simp
  have e2 : ((H : Int) * (p : Int)) = ((H * p : Nat) : Int) := by simp
  have e3 : ((A : Int) * (p : Int)) = ((A * p : Nat) : Int) := by simp
  have e4 : ((A : Int) / (pb : Int)) = ((A / pb : Nat) : Int) := by simp
  rw [e1, e2, e3, e4]
  have w1 : IntKind.u64.wrap ((Y * p : Nat) : Int) = ((Y * p : Nat) : Int) := by rw [IntKind.wrap_u64]; omega
  have w2 : IntKind.u64.wrap ((H * p : Nat) : Int) = ((H * p : Nat) : Int) := by rw [IntKind.wrap_u64]; omega
  refine ⟨w1, by omega, by omega, ((H * p + A / pb : Nat) : Int), ((A * p % 18446744073709551616 : Nat) : Int), ?_, ?_, by omega, by omega, by omega, by omega, ?_⟩
  · rw [w2, u64_or_nat _ _ (by omega) (by omega), hor hAp]
  · rw [IntKind.wrap_u64]; omega
  · have hd : A * p / 18446744073709551616 = A / pb := by rw [← hpp, Nat.mul_comm p pb, Nat.mul_div_mul_right _ _ hp]
    have hm := Nat.div_add_mod (A * p) 18446744073709551616
    rw [hd] at hm
    have e5 : ((H : Int) * 18446744073709551616 + (A : Int)) * (p : Int) = ((H * p : Nat) : Int) * 18446744073709551616 + ((A * p : Nat) : Int) := by push_cast; grind
    rw [e5]
    omega

theorem wrap_tdiv (U v : Int) (h0 : 0 ≤ U) (h1 : U ≤ 18446744073709551615) (hv : 0 < v) : IntKind.u64.wrap (U.tdiv v) = U / v := by
  rw [Int.tdiv_eq_ediv_of_nonneg h0, IntKind.wrap_u64]
  have a : 0 ≤ U / v := Int.ediv_nonneg h0 (by omega)
  have b : U / v ≤ U := Int.ediv_le_self _ h0
  omega
theorem wrap_rest (U v : Int) (h0 : 0 ≤ U) (h1 : U ≤ 18446744073709551615) (hv : 0 < v) : IntKind.u64.wrap (U - IntKind.u64.wrap (U / v * v)) = U - U / v * v := by
  have a := Int.ediv_mul_le U (show v ≠ 0 by omega)
  have b : 0 ≤ U / v * v := Int.mul_nonneg (Int.ediv_nonneg h0 (by omega)) (by omega)
  rw [IntKind.wrap_u64, IntKind.wrap_u64]
  generalize U / v * v = X at *
  omega

/-- DIV64. -/
theorem div64 (hi lo y : Int) (w : World) (k0 : 0 ≤ hi) (k1 : hi < y) (h0 : 0 ≤ lo) (h1 : lo ≤ 18446744073709551615) (y1 : y ≤ 18446744073709551615) :
    Calls Try.prog 49 #[.int .u64 hi, .int .u64 lo, .int .u64 y] w fun e w' =>
      e = .returned (.tuple #[.int .u64 ((hi * 18446744073709551616 + lo) / y), .int .u64 ((hi * 18446744073709551616 + lo) % y)]) ∧ Below w.heap.size w w' := by
  by_cases hz : hi = 0
  · subst hz
    refine (div64_lo lo y w h0 h1 (by omega) y1).mono ?_
    rintro e w' ⟨rfl, hb⟩
    exact ⟨ret_ii (by simp) (by simp), hb⟩
  · obtain ⟨s, hs, hbl, hV, V0, V1, U, L, hU, hL, U0, U1, L0, L1, hN⟩ := div_norm hi lo y k0 k1 h0 h1 y1
    have hp : (0 : Int) < 2 ^ s := Int.pow_pos (by omega)
    generalize hVe : y * 2 ^ s = V at *
    have hv : V = V / 4294967296 * 4294967296 + V % 4294967296 := by omega
    have hl : L = L / 4294967296 * 4294967296 + L % 4294967296 := by omega
    have d0 := drest U (L / 4294967296) V _ (by omega) (by omega) rfl
    have bq := dq_bd U (L / 4294967296) V U0 U1 (by omega) (by omega)
    have bd0 := Int.emod_nonneg (U * 4294967296 + L / 4294967296) (show V ≠ 0 by omega)
    have bd1 := Int.emod_lt_of_pos (U * 4294967296 + L / 4294967296) (show 0 < V by omega)
    have st := DStep.mk' (U := U) (V := V) (u1 := L / 4294967296) U0 U1 (by omega) (by omega) hv (by omega) (by omega) (by omega)
    have sst := dinv_start U (L / 4294967296) V (V / 4294967296) (V % 4294967296) U0 U1 (by omega) (by omega) hv (by omega) (by omega) (by omega) (by omega)
    generalize hDe : (U * 4294967296 + L / 4294967296) % V = D at *
    generalize hQe : (U * 4294967296 + L / 4294967296) / V = Q1 at *
    have r0 := drest D (L % 4294967296) V _ (by omega) (by omega) rfl
    have bq0 := dq_bd D (L % 4294967296) V bd0 bd1 (by omega) (by omega)
    have st0 := DStep.mk' (U := D) (V := V) (u1 := L % 4294967296) bd0 bd1 (by omega) (by omega) hv (by omega) (by omega) (by omega)
    have sst0 := dinv_start D (L % 4294967296) V (V / 4294967296) (V % 4294967296) bd0 bd1 (by omega) (by omega) hv (by omega) (by omega) (by omega) (by omega)
    have fin := dwhole hi lo y (2 ^ s) V U L (L / 4294967296) (L % 4294967296) Q1 ((D * 4294967296 + L % 4294967296) / V) D ((D * 4294967296 + L % 4294967296) % V) hp (by omega) hVe.symm hN hl hQe.symm hDe.symm rfl rfl
    generalize hQe0 : (D * 4294967296 + L % 4294967296) / V = Q0 at *
    obtain ⟨f1, f2⟩ := fin
    refine (div64_hi_raw hi lo y V U L (V / 4294967296) (V % 4294967296) (L / 4294967296) (L % 4294967296) (U / (V / 4294967296)) (U - U / (V / 4294967296) * (V / 4294967296)) Q1 D (D / (V / 4294967296)) (D - D / (V / 4294967296) * (V / 4294967296)) Q0 ((hi * 18446744073709551616 + lo) % y) ((hi * 18446744073709551616 + lo) / y) s w (by omega) k1 ?_ hs (by rw [hVe]; exact hV) rfl (and_low32 V (by omega) (by omega)) hU hL rfl (and_low32 L L0 (by omega))
      (wrap_tdiv U _ U0 (by omega) (by omega)) (wrap_rest U _ U0 (by omega) (by omega)) (by omega) sst st (by omega) (by omega) (by omega) (by omega) (by omega) (by omega) ?_ (wrap_tdiv D _ bd0 (by omega) (by omega)) (wrap_rest D _ bd0 (by omega) (by omega)) sst0 st0 f1 ?_ ?_ ?_).mono ?_
    · intro w
      refine (Try.bits_LeadingZeros64 y w (by omega) (by omega)).mono ?_
      rintro e w' ⟨rfl, hw⟩
      exact ⟨ret_int hbl, hw⟩
    · simp only [IntKind.wrap_u64]
      exact d0
    · simp only [IntKind.wrap_u64]; omega
    · simp only [IntKind.wrap_u64]; omega
    · simp only [IntKind.wrap_u64]
      rw [r0, f2]
    · rintro e w' ⟨rfl, hb⟩
      exact ⟨rfl, hb⟩
end Go.Proofs.Ytfhhdlpglfjdgaa
