/- math/bits.Div64 divides 128 bits by 64, where the high word is below the divisor. -/
import Derived.Test.YtfhhdlpglfjdgaaFixA
import Derived.Test.YtfhhdlpglfjdgaaDivP
import Derived.Test.YtfhhdlpglfjdgaaShelf
import Derived.Laws.BitsAllLaws
set_option linter.unusedVariables false
set_option linter.unusedSimpArgs false
namespace Go.Proofs.Ytfhhdlpglfjdgaa
open Go.RowKit

set_option maxHeartbeats 400000 in
theorem div64_lo (lo y : Int) (w : World) (h0 : 0 ≤ lo) (h1 : lo ≤ 18446744073709551615) (y0 : 0 < y) (y1 : y ≤ 18446744073709551615) :
    Calls Try.prog 49 #[.int .u64 0, .int .u64 lo, .int .u64 y] w fun e w' => e = .returned (.tuple #[.int .u64 (lo / y), .int .u64 (lo % y)]) ∧ Below w.heap.size w w' := by
  have hy : (y == 0) = false := by simp; omega
  go_enter Try.func49, Try.ntmps49
  go_wp2
  go_quiet (fail)
  go_wp2
  go_ret2
  exact ⟨rfl, below_drewN _ _⟩

/-- What a round of a digit's search owes. -/
structure DStep (U v1 v0 u1 Q : Int) : Prop where
  bd : ∀ q r, DInv U v1 Q q r → 0 ≤ q ∧ q ≤ 4294967297 ∧ 0 ≤ r ∧ r < 4294967296
  next : ∀ q r, DInv U v1 Q q r → (4294967296 ≤ q ∨ r * 4294967296 + u1 < q * v0) → 1 ≤ q ∧ (r + v1 < 4294967296 → DInv U v1 Q (q - 1) (r + v1)) ∧ (4294967296 ≤ r + v1 → q - 1 = Q)
  done : ∀ q r, DInv U v1 Q q r → q * v0 ≤ r * 4294967296 + u1 → q = Q
  prod : ∀ q, 0 ≤ q → q < 4294967296 → 0 ≤ q * v0 ∧ q * v0 ≤ 18446744073709551615
theorem DStep.mk' {U v1 v0 u1 V : Int} (hU : 0 ≤ U) (hUV : U < V) (hu : 0 ≤ u1) (hu1 : u1 < 4294967296) (hV : V = v1 * 4294967296 + v0) (h0 : 0 ≤ v0) (h1 : v0 < 4294967296) (hv : 0 ≤ v1) : DStep U v1 v0 u1 ((U * 4294967296 + u1) / V) where
  bd q r h := by have := (dq_bd U u1 V hU hUV hu hu1).1; obtain ⟨a, b, c, d, _⟩ := h; omega
  next q r h t := by
    have a := dinv_high U u1 V v1 v0 q r hU hUV hu hu1 hV h0 (by omega) h t
    have b := (dq_bd U u1 V hU hUV hu hu1).1
    exact ⟨by omega, fun hb => dinv_next U u1 V v1 v0 q r hU hUV hu hu1 hV h0 (by omega) hv h t hb, fun hb => dinv_break U u1 V v1 v0 q r hU hUV hu hu1 hV h0 h1 (by omega) h t hb⟩
  done q r h t := dinv_done U u1 V v1 v0 q r hV (by omega) h t
  prod q a b := ⟨Int.mul_nonneg a h0, by
    have : q * v0 ≤ 4294967295 * 4294967295 := Int.mul_le_mul (by omega) (by omega) h0 (by omega)
    omega⟩


set_option maxHeartbeats 1600000 in
theorem div64_hi_raw (hi lo y V U L v1 v0 u1 u0 q r Q1 D g t Q0 R X : Int) (s : Nat) (w : World) (k0 : 0 < hi) (k1 : hi < y)
    (hlz : ∀ w, Calls Try.prog 70 #[.int .u64 y] w fun e w' => e = .returned (.int .i64 s) ∧ w' = w)
    (hs : s ≤ 63) (hV : IntKind.u64.wrap (y * 2 ^ s) = V) (hv1 : V / 4294967296 = v1) (hv0 : bits .and .u64 V 4294967295 = v0)
    (hU : bits .or .u64 (IntKind.u64.wrap (hi * 2 ^ s)) (lo / 2 ^ (64 - s)) = U) (hL : IntKind.u64.wrap (lo * 2 ^ s) = L) (hu1 : L / 4294967296 = u1) (hu0 : bits .and .u64 L 4294967295 = u0)
    (hq : IntKind.u64.wrap (U.tdiv v1) = q) (hr : IntKind.u64.wrap (U - IntKind.u64.wrap (q * v1)) = r) (hne : ¬ v1 = 0)
    (hst : DInv U v1 Q1 q r) (hstep : DStep U v1 v0 u1 Q1) (bv0 : 0 ≤ v1) (bv1 : v1 < 4294967296) (bu0 : 0 ≤ u1) (bu1 : u1 < 4294967296) (bt0 : 0 ≤ u0) (bt1 : u0 < 4294967296)
    (hD : IntKind.u64.wrap (IntKind.u64.wrap (IntKind.u64.wrap (U * 4294967296) + u1) - IntKind.u64.wrap (Q1 * V)) = D)
    (hg : IntKind.u64.wrap (D.tdiv v1) = g) (ht : IntKind.u64.wrap (D - IntKind.u64.wrap (g * v1)) = t)
    (hst0 : DInv D v1 Q0 g t) (hstep0 : DStep D v1 v0 u0 Q0)
    (hX' : Q1 * 4294967296 + Q0 = X) (hX2 : IntKind.u64.wrap (Q1 * 4294967296 + Q0) = X) (hX : IntKind.u64.wrap (IntKind.u64.wrap (Q1 * 4294967296) + Q0) = X) (hR : IntKind.u64.wrap (IntKind.u64.wrap (IntKind.u64.wrap (D * 4294967296) + u0) - IntKind.u64.wrap (Q0 * V)) / 2 ^ s = R) :
    Calls Try.prog 49 #[.int .u64 hi, .int .u64 lo, .int .u64 y] w fun e w' => e = .returned (.tuple #[.int .u64 X, .int .u64 R]) ∧ Below w.heap.size w w' := by
  have hy : (y == 0) = false := by simp; omega
  have hh : (hi == 0) = false := by simp; omega
  have Hlz := Lib.hid hlz
  have Hst := Lib.hid hst
  have Hs := Lib.hid hstep
  have Hst0 := Lib.hid hst0
  have HX := Lib.hid hX'
  have HX2 := Lib.hid hX2
  have Hs0 := Lib.hid hstep0
  clear hlz hst hstep hst0 hstep0 hX' hX2
  go_enter Try.func49, Try.ntmps49
  go_wp2_with (go_at_call 70; refine (Hlz.out _).mono ?_; rintro e w' ⟨rfl, rfl⟩)
  clear Hlz hV hv1 hv0 hU hL hu1 hu0 hq hr hy hh k0 k1
  go_loop [15, 16] (fun a b => ∃ q r : Int, a = .int .u64 q ∧ b = .int .u64 r ∧ Hid (DInv U v1 Q1 q r)) (fun a _ => (intOf a).toNat)
  case atStart => exact ⟨q, r, rfl, rfl, Hst.out⟩
  case round =>
    obtain ⟨q, r, rfl, rfl, Hi⟩ := hrel
    obtain ⟨bq0, bq1, br0, br1⟩ := Hs.out.bd _ _ Hi.out
    by_cases hc : 4294967296 ≤ q
    · obtain ⟨bq2, hn, hb⟩ := Hs.out.next _ _ Hi.out (.inl hc)
      have Hn := Lib.hid hn
      have Hb := Lib.hid hb
      clear hn hb
      by_cases hbr : 4294967296 ≤ r + v1
      · have e1 : q - 1 = Q1 := Hb.out hbr
        go_wp2
        go_loop [18, 16] (fun a b => ∃ q r : Int, a = .int .u64 q ∧ b = .int .u64 r ∧ Hid (DInv D v1 Q0 q r)) (fun a _ => (intOf a).toNat)
        case atStart => exact ⟨g, t, rfl, rfl, Hst0.out⟩
        case round =>
          obtain ⟨q, r, rfl, rfl, Hi⟩ := hrel
          obtain ⟨bq0, bq1, br0, br1⟩ := Hs0.out.bd _ _ Hi.out
          by_cases hc : 4294967296 ≤ q
          · obtain ⟨bq2, hn, hb⟩ := Hs0.out.next _ _ Hi.out (.inl hc)
            have Hn := Lib.hid hn
            have Hb := Lib.hid hb
            clear hn hb
            by_cases hbr : 4294967296 ≤ r + v1
            · have e1 : q - 1 = Q0 := Hb.out hbr
              go_wp2
              go_ret2
              first | exact ⟨ret_ii HX.out rfl, Below.refl _ _⟩ | exact ⟨ret_ii HX2.out rfl, Below.refl _ _⟩ | exact ⟨rfl, Below.refl _ _⟩
            · go_wp2
              go_round
              case rel => exact ⟨q - 1, r + v1, rfl, rfl, Hn.out (by omega)⟩
              case measure => simp [intOf]; omega
          · obtain ⟨bp0, bp1⟩ := Hs0.out.prod q bq0 (by omega)
            obtain ⟨p, hp⟩ : ∃ p, p = q * v0 := ⟨_, rfl⟩
            rw [← hp] at bp0 bp1
            have ep : IntKind.u64.wrap (q * v0) = p := by rw [← hp]; exact (IntKind.wrap_u64 _).trans (by omega)
            by_cases hcp : r * 4294967296 + u0 < p
            · obtain ⟨bq2, hn, hb⟩ := Hs0.out.next _ _ Hi.out (.inr (by rw [← hp]; exact hcp))
              have Hn := Lib.hid hn
              have Hb := Lib.hid hb
              have Hp := Lib.hid hp
              have hct : 4294967296 * r + u0 < p := by omega
              clear hn hb hp
              by_cases hbr : 4294967296 ≤ r + v1
              · have e1 : q - 1 = Q0 := Hb.out hbr
                go_wp2
                go_ret2
                first | exact ⟨ret_ii HX.out rfl, Below.refl _ _⟩ | exact ⟨ret_ii HX2.out rfl, Below.refl _ _⟩ | exact ⟨rfl, Below.refl _ _⟩
              · go_wp2
                go_round
                case rel => exact ⟨q - 1, r + v1, rfl, rfl, Hn.out (by omega)⟩
                case measure => simp [intOf]; omega
            · obtain rfl : q = Q0 := Hs0.out.done _ _ Hi.out (by rw [← hp]; omega)
              have Hp := Lib.hid hp
              have hct : ¬ 4294967296 * r + u0 < p := by omega
              clear hp
              go_wp2
              go_ret2
              first | exact ⟨ret_ii HX.out rfl, Below.refl _ _⟩ | exact ⟨ret_ii HX2.out rfl, Below.refl _ _⟩ | exact ⟨rfl, Below.refl _ _⟩
      · go_wp2
        go_round
        case rel => exact ⟨q - 1, r + v1, rfl, rfl, Hn.out (by omega)⟩
        case measure => simp [intOf]; omega
    · obtain ⟨bp0, bp1⟩ := Hs.out.prod q bq0 (by omega)
      obtain ⟨p, hp⟩ : ∃ p, p = q * v0 := ⟨_, rfl⟩
      rw [← hp] at bp0 bp1
      have ep : IntKind.u64.wrap (q * v0) = p := by rw [← hp]; exact (IntKind.wrap_u64 _).trans (by omega)
      by_cases hcp : r * 4294967296 + u1 < p
      · obtain ⟨bq2, hn, hb⟩ := Hs.out.next _ _ Hi.out (.inr (by rw [← hp]; exact hcp))
        have Hn := Lib.hid hn
        have Hb := Lib.hid hb
        have Hp := Lib.hid hp
        have hct : 4294967296 * r + u1 < p := by omega
        clear hn hb hp
        by_cases hbr : 4294967296 ≤ r + v1
        · have e1 : q - 1 = Q1 := Hb.out hbr
          go_wp2
          go_loop [18, 16] (fun a b => ∃ q r : Int, a = .int .u64 q ∧ b = .int .u64 r ∧ Hid (DInv D v1 Q0 q r)) (fun a _ => (intOf a).toNat)
          case atStart => exact ⟨g, t, rfl, rfl, Hst0.out⟩
          case round =>
            obtain ⟨q, r, rfl, rfl, Hi⟩ := hrel
            obtain ⟨bq0, bq1, br0, br1⟩ := Hs0.out.bd _ _ Hi.out
            by_cases hc : 4294967296 ≤ q
            · obtain ⟨bq2, hn, hb⟩ := Hs0.out.next _ _ Hi.out (.inl hc)
              have Hn := Lib.hid hn
              have Hb := Lib.hid hb
              clear hn hb
              by_cases hbr : 4294967296 ≤ r + v1
              · have e1 : q - 1 = Q0 := Hb.out hbr
                go_wp2
                go_ret2
                first | exact ⟨ret_ii HX.out rfl, Below.refl _ _⟩ | exact ⟨ret_ii HX2.out rfl, Below.refl _ _⟩ | exact ⟨rfl, Below.refl _ _⟩
              · go_wp2
                go_round
                case rel => exact ⟨q - 1, r + v1, rfl, rfl, Hn.out (by omega)⟩
                case measure => simp [intOf]; omega
            · obtain ⟨bp0, bp1⟩ := Hs0.out.prod q bq0 (by omega)
              obtain ⟨p, hp⟩ : ∃ p, p = q * v0 := ⟨_, rfl⟩
              rw [← hp] at bp0 bp1
              have ep : IntKind.u64.wrap (q * v0) = p := by rw [← hp]; exact (IntKind.wrap_u64 _).trans (by omega)
              by_cases hcp : r * 4294967296 + u0 < p
              · obtain ⟨bq2, hn, hb⟩ := Hs0.out.next _ _ Hi.out (.inr (by rw [← hp]; exact hcp))
                have Hn := Lib.hid hn
                have Hb := Lib.hid hb
                have Hp := Lib.hid hp
                have hct : 4294967296 * r + u0 < p := by omega
                clear hn hb hp
                by_cases hbr : 4294967296 ≤ r + v1
                · have e1 : q - 1 = Q0 := Hb.out hbr
                  go_wp2
                  go_ret2
                  first | exact ⟨ret_ii HX.out rfl, Below.refl _ _⟩ | exact ⟨ret_ii HX2.out rfl, Below.refl _ _⟩ | exact ⟨rfl, Below.refl _ _⟩
                · go_wp2
                  go_round
                  case rel => exact ⟨q - 1, r + v1, rfl, rfl, Hn.out (by omega)⟩
                  case measure => simp [intOf]; omega
              · obtain rfl : q = Q0 := Hs0.out.done _ _ Hi.out (by rw [← hp]; omega)
                have Hp := Lib.hid hp
                have hct : ¬ 4294967296 * r + u0 < p := by omega
                clear hp
                go_wp2
                go_ret2
                first | exact ⟨ret_ii HX.out rfl, Below.refl _ _⟩ | exact ⟨ret_ii HX2.out rfl, Below.refl _ _⟩ | exact ⟨rfl, Below.refl _ _⟩
        · go_wp2
          go_round
          case rel => exact ⟨q - 1, r + v1, rfl, rfl, Hn.out (by omega)⟩
          case measure => simp [intOf]; omega
      · obtain rfl : q = Q1 := Hs.out.done _ _ Hi.out (by rw [← hp]; omega)
        have Hp := Lib.hid hp
        have hct : ¬ 4294967296 * r + u1 < p := by omega
        clear hp
        go_wp2
        go_loop [18, 16] (fun a b => ∃ q r : Int, a = .int .u64 q ∧ b = .int .u64 r ∧ Hid (DInv D v1 Q0 q r)) (fun a _ => (intOf a).toNat)
        case atStart => exact ⟨g, t, rfl, rfl, Hst0.out⟩
        case round =>
          obtain ⟨q, r, rfl, rfl, Hi⟩ := hrel
          obtain ⟨bq0, bq1, br0, br1⟩ := Hs0.out.bd _ _ Hi.out
          by_cases hc : 4294967296 ≤ q
          · obtain ⟨bq2, hn, hb⟩ := Hs0.out.next _ _ Hi.out (.inl hc)
            have Hn := Lib.hid hn
            have Hb := Lib.hid hb
            clear hn hb
            by_cases hbr : 4294967296 ≤ r + v1
            · have e1 : q - 1 = Q0 := Hb.out hbr
              go_wp2
              go_ret2
              first | exact ⟨ret_ii HX.out rfl, Below.refl _ _⟩ | exact ⟨ret_ii HX2.out rfl, Below.refl _ _⟩ | exact ⟨rfl, Below.refl _ _⟩
            · go_wp2
              go_round
              case rel => exact ⟨q - 1, r + v1, rfl, rfl, Hn.out (by omega)⟩
              case measure => simp [intOf]; omega
          · obtain ⟨bp0, bp1⟩ := Hs0.out.prod q bq0 (by omega)
            obtain ⟨p, hp⟩ : ∃ p, p = q * v0 := ⟨_, rfl⟩
            rw [← hp] at bp0 bp1
            have ep : IntKind.u64.wrap (q * v0) = p := by rw [← hp]; exact (IntKind.wrap_u64 _).trans (by omega)
            by_cases hcp : r * 4294967296 + u0 < p
            · obtain ⟨bq2, hn, hb⟩ := Hs0.out.next _ _ Hi.out (.inr (by rw [← hp]; exact hcp))
              have Hn := Lib.hid hn
              have Hb := Lib.hid hb
              have Hp := Lib.hid hp
              have hct : 4294967296 * r + u0 < p := by omega
              clear hn hb hp
              by_cases hbr : 4294967296 ≤ r + v1
              · have e1 : q - 1 = Q0 := Hb.out hbr
                go_wp2
                go_ret2
                first | exact ⟨ret_ii HX.out rfl, Below.refl _ _⟩ | exact ⟨ret_ii HX2.out rfl, Below.refl _ _⟩ | exact ⟨rfl, Below.refl _ _⟩
              · go_wp2
                go_round
                case rel => exact ⟨q - 1, r + v1, rfl, rfl, Hn.out (by omega)⟩
                case measure => simp [intOf]; omega
            · obtain rfl : q = Q0 := Hs0.out.done _ _ Hi.out (by rw [← hp]; omega)
              have Hp := Lib.hid hp
              have hct : ¬ 4294967296 * r + u0 < p := by omega
              clear hp
              go_wp2
              go_ret2
              first | exact ⟨ret_ii HX.out rfl, Below.refl _ _⟩ | exact ⟨ret_ii HX2.out rfl, Below.refl _ _⟩ | exact ⟨rfl, Below.refl _ _⟩
end Go.Proofs.Ytfhhdlpglfjdgaa
