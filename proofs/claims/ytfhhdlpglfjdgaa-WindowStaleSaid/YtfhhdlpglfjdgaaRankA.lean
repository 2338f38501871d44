/- Contracts of slices.BinarySearch and of package rank. -/
import Derived.Test.YtfhhdlpglfjdgaaMonoC
import Derived.Test.YtfhhdlpglfjdgaaFixC
set_option linter.unusedVariables false
set_option linter.unusedSimpArgs false
namespace Go.Proofs.Ytfhhdlpglfjdgaa
open Go.RowKit

def nl (l : List Int) : List Value := l.map (Value.int .i64)
theorem nl_length (l : List Int) : (nl l).length = l.length := by simp [nl]
theorem nl_append (l m : List Int) : nl (l ++ m) = nl l ++ nl m := by simp [nl]
theorem nl_get (l : List Int) (i : Nat) (x : Int) (h : l[i]? = some x) : (nl l)[i]? = some (.int .i64 x) := by simp [nl, h]

/-- In rising order. -/
def Rise (l : List Int) : Prop := ∀ (i j : Nat) (x y : Int), i ≤ j → l[i]? = some x → l[j]? = some y → x ≤ y
/-- How many are lower. -/
def lb (l : List Int) (t : Int) : Nat := (l.filter (fun x => decide (x < t))).length
theorem lb_le (l : List Int) (t : Int) : lb l t ≤ l.length := List.length_filter_le _ _
theorem Rise.tail {a : Int} {l : List Int} (h : Rise (a :: l)) : Rise l := fun i j x y hij hx hy => h (i + 1) (j + 1) x y (by omega) (by simpa using hx) (by simpa using hy)
theorem Rise.head {a : Int} {l : List Int} (h : Rise (a :: l)) (i : Nat) (x : Int) (hx : l[i]? = some x) : a ≤ x := h 0 (i + 1) a x (by omega) rfl (by simpa using hx)
theorem lb_nil_of (l : List Int) (t : Int) (h : ∀ (i : Nat) (x : Int), l[i]? = some x → t ≤ x) : lb l t = 0 := by
  unfold lb
  rw [List.length_eq_zero_iff, List.filter_eq_nil_iff]
  intro x hx
  obtain ⟨i, hi, rfl⟩ := List.getElem_of_mem hx
  have := h i _ (List.getElem?_eq_getElem hi)
  simp
  omega
theorem lb_iff : ∀ (l : List Int) (t : Int) (h : Rise l) (i : Nat) (x : Int), l[i]? = some x → (x < t ↔ i < lb l t)
  | [], _, _, _, _, hx => by simp at hx
  | a :: l, t, h, i, x, hx => by
    by_cases ha : a < t
    · have e : lb (a :: l) t = lb l t + 1 := by unfold lb; rw [List.filter_cons_of_pos (by simpa using ha)]; rfl
      rw [e]
      cases i with
      | zero => simp at hx; subst hx; omega
      | succ i =>
        have := lb_iff l t h.tail i x (by simpa using hx)
        omega
    · have e : lb (a :: l) t = 0 := lb_nil_of _ _ (fun j y hy => by
        have := h 0 j a y (Nat.zero_le _) rfl hy
        omega)
      rw [e]
      have := h 0 i a x (Nat.zero_le _) rfl hx
      omega

theorem cmp_isNaN (x : Int) (w : World) : Calls Try.prog 81 #[.int .i64 x] w fun e w' => e = .returned (.bool false) ∧ w' = w := by
  have hx : (x == x) = true := by simp
  go_enter Try.func81, Try.ntmps81
  go_wp2
  go_ret
  exact ⟨rfl, rfl⟩
theorem slices_isNaN (x : Int) (w : World) : Calls Try.prog 73 #[.int .i64 x] w fun e w' => e = .returned (.bool false) ∧ w' = w := by
  have hx : (x == x) = true := by simp
  go_enter Try.func73, Try.ntmps73
  go_wp2
  go_ret
  exact ⟨rfl, rfl⟩
theorem cmp_Less (b : Bool) (x y : Int) (w : World) (hb : decide (x < y) = b) : Calls Try.prog 72 #[.int .i64 x, .int .i64 y] w fun e w' => e = .returned (.bool b) ∧ w' = w := by
  have h1 := cmp_isNaN x
  have H1 := Lib.hid h1
  clear h1
  go_enter Try.func72, Try.ntmps72
  go_wp2_with fail
  refine (H1.out _).mono ?_
  rintro e w1 ⟨rfl, rfl⟩
  go_wp2
  go_ret
  exact ⟨rfl, rfl⟩

set_option maxHeartbeats 800000 in
theorem slices_BinarySearch (A : Option Addr) (cap : Nat) (l : List Int) (t : Int) (found : Bool) (w : World) (hl : l.length ≤ 4294967296) (hr : Rise l)
    (hs : ∀ ad, A = some ad → ∃ g off, ad = ⟨g, off, none⟩ ∧ ∀ j x, l[j]? = some x → w.cell? ⟨g, off + j, none⟩ = some (.int .i64 x)) (hn : A = none → l.length = 0) (hf : found = decide (l[lb l t]? = some t)) :
    Calls Try.prog 59 #[.slice A l.length cap, .int .i64 t] w fun e w' => e = .returned (.tuple #[.int .i64 (lb l t), .bool found]) ∧ w' = w := by
  have h1 := fun b x y w h => cmp_Less b x y w h
  have H1 := Lib.hid h1
  have h2 := slices_isNaN
  have H2 := Lib.hid h2
  have hle := lb_le l t
  have hi := lb_iff l t hr
  have Hi := Lib.hid hi
  have Hs := Lib.hid hs
  have Hn := Lib.hid hn
  have Hf := Lib.hid hf
  clear h1 h2 hi hr hs hn hf
  go_enter Try.func59, Try.ntmps59
  go_wp2_with fail
  go_loop [7, 8] (fun a b => ∃ i j : Nat, a = .int .i64 i ∧ b = .int .i64 j ∧ i ≤ lb l t ∧ lb l t ≤ j ∧ j ≤ l.length) (fun a b => (intOf b - intOf a).toNat)
  case atStart => exact ⟨0, l.length, rfl, rfl, Nat.zero_le _, hle, Nat.le_refl _⟩
  case round =>
    obtain ⟨i, j, rfl, rfl, hij, hjl, hjn⟩ := hrel
    by_cases hlt : i < j
    · have hm1 : (i + j) / 2 < j := by omega
      obtain ⟨ad, rfl⟩ : ∃ ad, A = some ad := by
        cases A with
        | none => have := Hn.out rfl; omega
        | some ad => exact ⟨ad, rfl⟩
      obtain ⟨g, off, rfl, hc⟩ := Hs.out _ rfl
      obtain ⟨x, hx⟩ : ∃ x, l[(i + j) / 2]? = some x := ⟨l[(i + j) / 2]'(by omega), List.getElem?_eq_getElem (by omega)⟩
      have c := hc _ _ hx
      have hiff := Hi.out _ _ hx
      clear hc hx
      by_cases hxt : x < t
      · have hlb := hiff.1 hxt
        have hl1 := fun w => H1.out true x t w (by simpa using hxt)
        have HL := Lib.hid hl1
        clear hiff hl1
        go_wp2_with fail
        refine (HL.out _).mono ?_
        rintro e w1 ⟨rfl, rfl⟩
        go_wp2_with fail
        go_round
        case rel => exact ⟨(i + j) / 2 + 1, j, by go_num, rfl, by omega, hjl, hjn⟩
        case measure => simp [intOf]; omega
      · have hlb : ¬ (i + j) / 2 < lb l t := fun h => hxt (hiff.2 h)
        have hl1 := fun w => H1.out false x t w (by simpa using hxt)
        have HL := Lib.hid hl1
        clear hiff hl1
        go_wp2_with fail
        refine (HL.out _).mono ?_
        rintro e w1 ⟨rfl, rfl⟩
        go_wp2_with fail
        go_round
        case rel => exact ⟨i, (i + j) / 2, rfl, by go_num, hij, by omega, by omega⟩
        case measure => simp [intOf]; omega
    · obtain rfl : i = lb l t := by omega
      obtain rfl : j = lb l t := by omega
      by_cases hend : lb l t < l.length
      · obtain ⟨ad, rfl⟩ : ∃ ad, A = some ad := by
          cases A with
          | none => have := Hn.out rfl; omega
          | some ad => exact ⟨ad, rfl⟩
        obtain ⟨g, off, rfl, hc⟩ := Hs.out _ rfl
        obtain ⟨x, hx⟩ : ∃ x, l[lb l t]? = some x := ⟨l[lb l t]'hend, List.getElem?_eq_getElem hend⟩
        have c := hc _ _ hx
        have hfx : found = decide (x = t) := by rw [Hf.out, hx]; simp
        clear hc hx
        by_cases hxt : x = t
        · have htt : (x == t) = true := by simp [hxt]
          have Hx := Lib.hid hxt
          have Hfx := Lib.hid hfx
          clear hxt hfx
          go_wp2_with fail
          go_ret2
          exact ⟨ret_ib rfl (by rw [Hfx.out]; simp [Hx.out]), rfl⟩
        · have htt : (x == t) = false := by simp [hxt]
          have Hx := Lib.hid hxt
          have Hfx := Lib.hid hfx
          clear hxt hfx
          go_wp2_with fail
          refine (H2.out _ _).mono ?_
          rintro e w1 ⟨rfl, rfl⟩
          go_wp2_with fail
          go_ret2
          exact ⟨ret_ib rfl (by rw [Hfx.out]; simp [Hx.out]), rfl⟩
      · have hfx : found = false := by rw [Hf.out, List.getElem?_eq_none (by omega)]; simp
        have Hfx := Lib.hid hfx
        clear hfx
        go_wp2_with fail
        go_ret2
        exact ⟨ret_ib rfl (by rw [Hfx.out]), rfl⟩
end Go.Proofs.Ytfhhdlpglfjdgaa
