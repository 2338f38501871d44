/- Texts of mine, put together: BigP, RefA, RefP. -/
import Derived.Test.YtfhhdlpglfjdgaaPWindowPlaysx61
import Derived.Test.YtfhhdlpglfjdgaaPWindowPlaysx66
import Derived.IntWalk
import Derived.Laws.BitsLemmas
import Derived.Test.YtfhhdlpglfjdgaaM1
import Derived.Test.YtfhhdlpglfjdgaaPWindowPlaysx49
import Derived.Test.YtfhhdlpglfjdgaaPWindowPlaysx54
import Derived.Test.YtfhhdlpglfjdgaaPWindowPlaysx55
import Derived.Test.YtfhhdlpglfjdgaaPWindowPlaysx68
import Derived.Test.YtfhhdlpglfjdgaaPWindowPlaysx70
import Derived.Test.YtfhhdlpglfjdgaaPWindowPlaysx73
import Derived.Test.YtfhhdlpglfjdgaaM4
/- Plain laws of the printed twins of chapter 01's reference: numbers as lists of digits. No program in sight. -/
set_option linter.unusedVariables false
set_option linter.unusedSimpArgs false
namespace Go.Proofs.Ytfhhdlpglfjdgaa
open Go.RowKit Go.Proofs.YtfhhdlpglfjdgaaW.PrintWords Go.Proofs.YtfhhdlpglfjdgaaW.PrintLast Go.Proofs.YtfhhdlpglfjdgaaW.PrintMore Go.Proofs.Ytfhhdlpglfjdgaa.PWindowPlays
/-! Numbers as lists of sixteen-bit digits, the lowest first. -/
def bval : List Int → Int
  | [] => 0
  | d :: l => d + 65536 * bval l
/-- The powers of the base, behind a name. -/
def P16 (n : Nat) : Int := 65536 ^ n
def Dig (l : List Int) : Prop := ∀ d ∈ l, 0 ≤ d ∧ d < 65536
def Nrm (l : List Int) : Prop := Dig l ∧ (l ≠ [] → P16 (l.length - 1) ≤ bval l)
def big (b : Bool) (l : List Int) : Int := if b then -bval l else bval l
theorem Dig.nil : Dig [] := fun d h => by simp at h
theorem Nrm.nil : Nrm [] := ⟨Dig.nil, fun h => absurd rfl h⟩
theorem pow_succ16 (n : Nat) : P16 (n + 1) = 65536 * P16 n := by unfold P16; rw [Int.pow_succ]; omega
theorem P16_zero : P16 0 = 1 := rfl
theorem pow_pos16 (n : Nat) : (0 : Int) < P16 n := by
  induction n with
  | zero => show (0 : Int) < 1; omega
  | succ n ih => rw [pow_succ16]; omega
theorem Dig.cons {d : Int} {l : List Int} : Dig (d :: l) ↔ (0 ≤ d ∧ d < 65536) ∧ Dig l :=
  ⟨fun h => ⟨h d List.mem_cons_self, fun x hx => h x (List.mem_cons_of_mem _ hx)⟩, fun h x hx => by rcases List.mem_cons.1 hx with rfl | hx; exact h.1; exact h.2 x hx⟩
theorem Dig.snoc {l : List Int} {d : Int} (h : Dig l) (h0 : 0 ≤ d) (h1 : d < 65536) : Dig (l ++ [d]) := fun x hx => by
  rcases List.mem_append.1 hx with hx | hx
  · exact h x hx
  · simp at hx; subst hx; exact ⟨h0, h1⟩
theorem Dig.take {l : List Int} (h : Dig l) (n : Nat) : Dig (l.take n) := fun x hx => h x (List.mem_of_mem_take hx)
theorem Dig.getD {l : List Int} (h : Dig l) (i : Nat) : 0 ≤ l.getD i 0 ∧ l.getD i 0 < 65536 := by
  rw [List.getD_eq_getElem?_getD]
  cases e : l[i]? with
  | none => simp
  | some x => exact h x (List.mem_of_getElem? e)
theorem bval_bd : ∀ {l : List Int}, Dig l → 0 ≤ bval l ∧ bval l < P16 l.length
  | [], _ => by simp [bval, P16_zero]
  | d :: l, h => by
    obtain ⟨h1, h2⟩ := Dig.cons.1 h
    obtain ⟨i1, i2⟩ := bval_bd h2
    have := pow_pos16 l.length
    rw [List.length_cons, pow_succ16, bval]
    omega
theorem bval_snoc : ∀ (l : List Int) (d : Int), bval (l ++ [d]) = bval l + P16 l.length * d
  | [], d => by simp [bval, P16_zero]
  | x :: l, d => by
    rw [List.cons_append, bval, bval, bval_snoc l d, List.length_cons, pow_succ16, Int.mul_add, Int.mul_assoc]
    omega
theorem bval_take (l : List Int) (i : Nat) : bval (l.take (i + 1)) = bval (l.take i) + P16 i * l.getD i 0 := by
  rcases Nat.lt_or_ge i l.length with h | h
  · rw [List.take_succ_eq_append_getElem h, bval_snoc, List.length_take, Nat.min_eq_left (by omega), List.getD_eq_getElem?_getD, List.getElem?_eq_getElem h]
    rfl
  · rw [List.take_of_length_le (by omega), List.take_of_length_le h, List.getD_eq_getElem?_getD, List.getElem?_eq_none h]
    simp
theorem w64 {x : Int} (h0 : -9223372036854775808 ≤ x) (h1 : x < 9223372036854775808) : wrap64 x = x := by unfold wrap64; omega
theorem mul_mono16 {n m : Nat} (h : n ≤ m) : P16 n ≤ P16 m := by
  obtain ⟨k, rfl⟩ := Nat.exists_eq_add_of_le h
  clear h
  induction k with
  | zero => exact Int.le_refl _
  | succ k ih => rw [← Nat.add_assoc, pow_succ16]; have := pow_pos16 (n + k); omega
/-- Two numbers in digits of different lengths. -/
theorem Nrm.len_lt {a b : List Int} (ha : Dig a) (hb : Nrm b) (h : a.length < b.length) : bval a < bval b := by
  have h1 := (bval_bd ha).2
  have h2 := hb.2 (by rintro rfl; simp at h)
  have := mul_mono16 (show a.length ≤ b.length - 1 by omega)
  omega
theorem Nrm.zero {a : List Int} (h : Nrm a) (h0 : bval a = 0) : a = [] := by
  rcases a with _ | ⟨d, l⟩
  · rfl
  · have h1 := h.2 (by simp)
    have := pow_pos16 ((d :: l).length - 1)
    omega
theorem bval_nil : bval [] = 0 := rfl
theorem rd_nat (l : List Int) (i : Nat) : rd l (i : Int) = l.getD i 0 := by unfold rd; simp

/-! trim, at -/
theorem ref_trim_l0 : ∀ (n : Nat) (l : List Int), Dig l → n ≤ l.length → l.length < 4611686018427387904 →
    ∃ r, Ev (fun k => capstanref01_trim.l0 k l (n : Int)) r ∧ Nrm r ∧ bval r = bval (l.take n) ∧ r.length ≤ n
  | 0, l, hd, hn, hl => by
    refine ⟨[], Ev.step (f := fun _ => some []) (fun k => ?_) (Ev.now _), Nrm.nil, by simp, by simp⟩
    rw [capstanref01_trim.l0, if_neg (by simp), if_pos (by simp), if_pos (by omega)]
    simp
  | n + 1, l, hd, hn, hl => by
    have e : wrap64 (((n + 1 : Nat) : Int) - 1) = (n : Int) := by rw [w64 (by omega) (by omega)]; omega
    have ht := bval_take l n
    by_cases h : l.getD n 0 = 0
    · obtain ⟨r, hr, h1, h2, h3⟩ := ref_trim_l0 n l hd (by omega) hl
      refine ⟨r, Ev.step (fun k => ?_) hr, h1, by rw [h2, ht, h]; omega, by omega⟩
      rw [capstanref01_trim.l0, e, rd_nat, if_pos (by omega), if_pos (by omega), if_pos (by omega), if_pos h]
    · refine ⟨l.take (n + 1), Ev.step (f := fun _ => some (l.take (n + 1))) (fun k => ?_) (Ev.now _), ⟨hd.take _, fun _ => ?_⟩, rfl, by simp; omega⟩
      · rw [capstanref01_trim.l0, e, rd_nat, if_pos (by omega), if_pos (by omega), if_pos (by omega), if_neg h, if_pos (by omega), if_pos (by omega)]
        rfl
      · have h1 := hd.getD n
        have h2 := (bval_bd (hd.take n)).1
        have h3 := pow_pos16 n
        rw [ht, List.length_take, Nat.min_eq_left hn, Nat.add_sub_cancel]
        have h4 : P16 n * 1 ≤ P16 n * l.getD n 0 := Int.mul_le_mul_of_nonneg_left (by omega) (by omega)
        omega
theorem ref_trim {l : List Int} (hd : Dig l) (hl : l.length < 4611686018427387904) : ∃ r, Ev (fun k => capstanref01_trim.f k l) r ∧ Nrm r ∧ bval r = bval l ∧ r.length ≤ l.length := by
  obtain ⟨r, h1, h2, h3, h4⟩ := ref_trim_l0 l.length l hd (Nat.le_refl _) hl
  exact ⟨r, h1, h2, by rw [h3, List.take_length], h4⟩
theorem ref_at (l : List Int) (i : Nat) : capstanref01_at.f l (i : Int) = some (l.getD i 0) := by
  unfold capstanref01_at.f
  rw [rd_nat]
  by_cases h : i < l.length
  · rw [if_pos (by omega), if_pos (by omega)]
  · rw [if_neg (by omega), List.getD_eq_getElem?_getD, List.getElem?_eq_none (by omega)]
    rfl
theorem dm (s : Int) (h : 0 ≤ s) : Int.tmod s 65536 = s % 65536 ∧ Int.tdiv s 65536 = s / 65536 := ⟨Int.tmod_eq_emod_of_nonneg h, Int.tdiv_eq_ediv_of_nonneg h⟩

/-! sum -/
theorem ref_sum_head (a b d : List Int) (c : Int) (i k : Nat) : capstanref01_sum.l0 (k + 1) a b d c (i : Int) = if (i : Int) < ((max a.length b.length : Nat) : Int) then capstanref01_sum.j1 k a b d c (i : Int) true else capstanref01_sum.j1 k a b d c (i : Int) (decide (c > 0)) := by
  rw [capstanref01_sum.l0]
  by_cases h : (a.length : Int) < (b.length : Int)
  · rw [if_pos h, show max a.length b.length = b.length by omega]
  · rw [if_neg h, show max a.length b.length = a.length by omega]
theorem ref_sum_step (a b d : List Int) (c : Int) (i : Nat) (r : List Int) (ha : Dig a) (hb : Dig b) (hc0 : 0 ≤ c) (hc1 : c ≤ 1) (hdl : d.length = i) (hi : i < 4611686018427387904)
    (hs : i < max a.length b.length ∨ 0 < c) (hi2 : i < 17592186044416)
    (k : Ev (fun k => capstanref01_sum.l0 k a b (d ++ [(a.getD i 0 + b.getD i 0 + c) % 65536]) ((a.getD i 0 + b.getD i 0 + c) / 65536) ((i + 1 : Nat) : Int)) r) :
    Ev (fun k => capstanref01_sum.l0 k a b d c (i : Int)) r := by
  have h1 := ha.getD i
  have h2 := hb.getD i
  obtain ⟨e1, e2⟩ := dm (a.getD i 0 + b.getD i 0 + c) (by omega)
  refine Ev.step (f := fun k => capstanref01_sum.j1 k a b d c (i : Int) true) (fun k => ?_) (Ev.step (fun k => ?_) k)
  · rw [ref_sum_head]
    by_cases hlt : i < max a.length b.length
    · rw [if_pos (by omega)]
    · rw [if_neg (by omega)]
      have : 0 < c := by omega
      simp [this]
  · rw [capstanref01_sum.j1, if_pos rfl, ref_at, ref_at]
    simp only [Option.bind_some]
    rw [if_pos (by omega), w64 (x := a.getD i 0 + b.getD i 0) (by omega) (by omega), w64 (x := a.getD i 0 + b.getD i 0 + c) (by omega) (by omega), e1, e2, w64 (x := (a.getD i 0 + b.getD i 0 + c) / 65536) (by omega) (by omega), w64 (x := (i : Int) + 1) (by omega) (by omega)]
    rfl
theorem ref_sum_stop (a b d : List Int) (i : Nat) (hd : Dig d) (hdl : d.length = i) (hi : max a.length b.length ≤ i) (hi2 : i < 4611686018427387904) :
    ∃ r, Ev (fun k => capstanref01_sum.l0 k a b d 0 (i : Int)) r ∧ Nrm r ∧ bval r = bval d ∧ r.length ≤ d.length := by
  obtain ⟨r, h1, h2, h3, h4⟩ := ref_trim hd (by omega)
  refine ⟨r, Ev.step (f := fun k => capstanref01_sum.j1 k a b d 0 (i : Int) false) (fun k => ?_) (Ev.step (fun k => ?_) h1), h2, h3, h4⟩
  · rw [ref_sum_head, if_neg (by omega)]
    rfl
  · rw [capstanref01_sum.j1, if_neg (by simp)]
    cases capstanref01_trim.f k d <;> rfl
theorem ref_sum_l0 (a b : List Int) (ha : Dig a) (hb : Dig b) (hl : max a.length b.length < 1000000000000) : ∀ (m i : Nat) (d : List Int) (c : Int), max a.length b.length + 1 - i = m → Dig d → d.length = i → 0 ≤ c → c ≤ 1 →
    (i ≤ max a.length b.length ∨ (i = max a.length b.length + 1 ∧ c = 0)) → bval d + P16 i * c = bval (a.take i) + bval (b.take i) →
    ∃ r, Ev (fun k => capstanref01_sum.l0 k a b d c (i : Int)) r ∧ Nrm r ∧ bval r = bval a + bval b ∧ r.length ≤ max a.length b.length + 1
  | 0, i, d, c, hm, hd, hdl, hc0, hc1, hi, hv => by
    have hi' : i = max a.length b.length + 1 ∧ c = 0 := by omega
    obtain ⟨hi', rfl⟩ := hi'
    obtain ⟨r, h1, h2, h3, h4⟩ := ref_sum_stop a b d i hd hdl (by omega) (by omega)
    refine ⟨r, h1, h2, ?_, by omega⟩
    rw [List.take_of_length_le (by omega), List.take_of_length_le (by omega)] at hv
    omega
  | m + 1, i, d, c, hm, hd, hdl, hc0, hc1, hi, hv => by
    have hi' : i ≤ max a.length b.length := by omega
    by_cases hs : i < max a.length b.length ∨ 0 < c
    · have h1 := ha.getD i
      have h2 := hb.getD i
      obtain ⟨r, k1, k2, k3, k4⟩ := ref_sum_l0 a b ha hb hl m (i + 1) (d ++ [(a.getD i 0 + b.getD i 0 + c) % 65536]) ((a.getD i 0 + b.getD i 0 + c) / 65536) (by omega) (hd.snoc (by omega) (by omega)) (by simp; omega) (by omega) (by omega) (by
        rcases Nat.lt_or_ge i (max a.length b.length) with h | h
        · exact .inl (by omega)
        · refine .inr ⟨by omega, ?_⟩
          rw [List.getD_eq_getElem?_getD, List.getD_eq_getElem?_getD, List.getElem?_eq_none (by omega), List.getElem?_eq_none (by omega)]
          simp
          omega) (by
        rw [bval_snoc, bval_take, bval_take, hdl, pow_succ16]
        have e : (a.getD i 0 + b.getD i 0 + c) % 65536 + 65536 * ((a.getD i 0 + b.getD i 0 + c) / 65536) = a.getD i 0 + b.getD i 0 + c := by omega
        have e2 : P16 i * ((a.getD i 0 + b.getD i 0 + c) % 65536) + 65536 * P16 i * ((a.getD i 0 + b.getD i 0 + c) / 65536) = P16 i * (a.getD i 0 + b.getD i 0 + c) := by
          rw [← e, Int.mul_add, Int.mul_comm 65536 (P16 i), Int.mul_assoc, e]
        rw [Int.mul_add, Int.mul_add] at e2
        omega)
      exact ⟨r, ref_sum_step a b d c i r ha hb hc0 hc1 hdl (by omega) hs (by omega) k1, k2, k3, k4⟩
    · obtain rfl : c = 0 := by omega
      obtain ⟨r, h1, h2, h3, h4⟩ := ref_sum_stop a b d i hd hdl (by omega) (by omega)
      refine ⟨r, h1, h2, ?_, by omega⟩
      rw [List.take_of_length_le (by omega), List.take_of_length_le (by omega)] at hv
      omega
theorem ref_sum {a b : List Int} (ha : Dig a) (hb : Dig b) (hl : max a.length b.length < 1000000000000) : ∃ r, Ev (fun k => capstanref01_sum.f k a b) r ∧ Nrm r ∧ bval r = bval a + bval b ∧ r.length ≤ max a.length b.length + 1 :=
  ref_sum_l0 a b ha hb hl _ 0 [] 0 rfl Dig.nil rfl (by omega) (by omega) (.inl (by omega)) (by simp [bval])

/-! order -/
theorem bval_split (l : List Int) (n : Nat) (h : n ≤ l.length) : bval l = bval (l.take n) + P16 n * bval (l.drop n) := by
  induction n generalizing l with
  | zero => simp [bval, P16_zero]
  | succ n ih =>
    rcases l with _ | ⟨d, l⟩
    · simp at h
    · have := ih l (by simpa using h)
      rw [List.take_succ_cons, List.drop_succ_cons, bval, bval, this, pow_succ16, Int.mul_add, Int.mul_assoc]
      omega
theorem ref_order_l0 (a b : List Int) (ha : Dig a) (hb : Dig b) (hl : a.length = b.length) (hn : a.length < 1000000000000) : ∀ (n : Nat), n ≤ a.length → a.drop n = b.drop n →
    ∃ r, Ev (fun k => capstanref01_order.l0 k a b ((n : Int) - 1)) r ∧ (0 ≤ r ↔ bval b ≤ bval a)
  | 0, _, h => by
    refine ⟨0, Ev.step (f := fun _ => some 0) (fun k => ?_) (Ev.now _), ?_⟩
    · rw [capstanref01_order.l0, if_neg (by simp)]
    · simp only [List.drop_zero] at h
      rw [h]; simp
  | n + 1, hn1, h => by
    have e : ((n + 1 : Nat) : Int) - 1 = (n : Int) := by omega
    rw [e]
    have h1 := ha.getD n
    have h2 := hb.getD n
    have va := bval_split a (n + 1) hn1
    have vb := bval_split b (n + 1) (by omega)
    have ta := bval_bd (ha.take n)
    have tb := bval_bd (hb.take n)
    rw [bval_take] at va vb
    rw [List.length_take, Nat.min_eq_left (by omega)] at ta tb
    have hp := pow_pos16 n
    rw [h] at va
    rcases Int.lt_trichotomy (a.getD n 0) (b.getD n 0) with hlt | heq | hgt
    · refine ⟨-1, Ev.step (f := fun _ => some (-1)) (fun k => ?_) (Ev.now _), ?_⟩
      · rw [capstanref01_order.l0, rd_nat, rd_nat, if_pos (by omega), if_pos (by omega), if_pos (by omega), if_pos (by omega), if_pos hlt]
      · have h3 : P16 n * (a.getD n 0 + 1) ≤ P16 n * b.getD n 0 := Int.mul_le_mul_of_nonneg_left (by omega) (by omega)
        rw [Int.mul_add] at h3
        omega
    · obtain ⟨r, h3, h4⟩ := ref_order_l0 a b ha hb hl hn n (by omega) (by
        have la : n < a.length := by omega
        have lb : n < b.length := by omega
        rw [List.drop_eq_getElem_cons la, List.drop_eq_getElem_cons lb, h]
        rw [List.getD_eq_getElem?_getD, List.getD_eq_getElem?_getD, List.getElem?_eq_getElem la, List.getElem?_eq_getElem lb] at heq
        simp at heq
        rw [heq])
      refine ⟨r, Ev.step (fun k => ?_) h3, h4⟩
      rw [capstanref01_order.l0, rd_nat, rd_nat, if_pos (by omega), if_pos (by omega), if_pos (by omega), if_pos (by omega), if_neg (by omega), if_neg (by omega), w64 (by omega) (by omega)]
    · refine ⟨1, Ev.step (f := fun _ => some 1) (fun k => ?_) (Ev.now _), ?_⟩
      · rw [capstanref01_order.l0, rd_nat, rd_nat, if_pos (by omega), if_pos (by omega), if_pos (by omega), if_pos (by omega), if_neg (by omega), if_pos (by omega)]
      · have h3 : P16 n * (b.getD n 0 + 1) ≤ P16 n * a.getD n 0 := Int.mul_le_mul_of_nonneg_left (by omega) (by omega)
        rw [Int.mul_add] at h3
        omega
theorem ref_order {a b : List Int} (ha : Nrm a) (hb : Nrm b) (hl : max a.length b.length < 1000000000000) : ∃ r, Ev (fun k => capstanref01_order.f k a b) r ∧ (0 ≤ r ↔ bval b ≤ bval a) := by
  rcases Nat.lt_trichotomy a.length b.length with h | h | h
  · refine ⟨-1, Ev.congr (f := fun _ => some (-1)) (fun k => ?_) (Ev.now _), ?_⟩
    · unfold capstanref01_order.f
      rw [if_neg (by omega), if_pos (by omega)]
    · have := hb.len_lt ha.1 h; omega
  · obtain ⟨r, h1, h2⟩ := ref_order_l0 a b ha.1 hb.1 h (by omega) a.length (Nat.le_refl _) (by rw [List.drop_length, h, List.drop_length])
    refine ⟨r, Ev.congr (fun k => ?_) h1, h2⟩
    unfold capstanref01_order.f
    rw [if_pos (by omega), w64 (by omega) (by omega)]
  · refine ⟨1, Ev.congr (f := fun _ => some 1) (fun k => ?_) (Ev.now _), ?_⟩
    · unfold capstanref01_order.f
      rw [if_neg (by omega), if_neg (by omega)]
    · have := ha.len_lt hb.1 h; omega


/-! less -/
theorem ref_less_l0 (a b : List Int) (ha : Dig a) (hb : Dig b) (hl : a.length < 1000000000000) : ∀ (m i : Nat) (d : List Int) (c : Int), a.length - i = m → i ≤ a.length → Dig d → d.length = i → 0 ≤ c → c ≤ 1 →
    bval d - P16 i * c = bval (a.take i) - bval (b.take i) →
    ∃ r d' c', Ev (fun k => capstanref01_less.l0 k a b d c (i : Int)) r ∧ Nrm r ∧ bval r = bval d' ∧ Dig d' ∧ d'.length = a.length ∧ 0 ≤ c' ∧ c' ≤ 1 ∧ bval d' - P16 a.length * c' = bval a - bval (b.take a.length) ∧ r.length ≤ a.length
  | 0, i, d, c, hm, hi, hd, hdl, hc0, hc1, hv => by
    obtain rfl : i = a.length := by omega
    obtain ⟨r, h1, h2, h3, h4⟩ := ref_trim hd (by omega)
    rw [List.take_length] at hv
    refine ⟨r, d, c, Ev.step (fun k => ?_) h1, h2, h3, hd, hdl, hc0, hc1, hv, by omega⟩
    rw [capstanref01_less.l0, if_neg (by omega)]
    cases capstanref01_trim.f k d <;> rfl
  | m + 1, i, d, c, hm, hi, hd, hdl, hc0, hc1, hv => by
    have h1 := ha.getD i
    have h2 := hb.getD i
    have q1 : a.length - (i + 1) = m := by omega
    have q2 : i + 1 ≤ a.length := by omega
    have ta := bval_take a i
    have tb := bval_take b i
    have hp1 := pow_succ16 i
    by_cases hs : a.getD i 0 - b.getD i 0 - c < 0
    · have q3 : Dig (d ++ [a.getD i 0 - b.getD i 0 - c + 65536]) := hd.snoc (by clear hv ta tb hp1; omega) (by clear hv ta tb hp1; omega)
      have q4 : (d ++ [a.getD i 0 - b.getD i 0 - c + 65536]).length = i + 1 := by simp; clear hv ta tb hp1; omega
      have hst : ∀ k, capstanref01_less.l0 (k + 1) a b d c (i : Int) = capstanref01_less.l0 k a b (d ++ [a.getD i 0 - b.getD i 0 - c + 65536]) 1 ((i + 1 : Nat) : Int) := by
        clear hv ta tb hp1
        intro k
        rw [capstanref01_less.l0, rd_nat, ref_at]
        simp only [Option.bind_some]
        rw [w64 (x := a.getD i 0 - b.getD i 0) (by omega) (by omega), w64 (x := a.getD i 0 - b.getD i 0 - c) (by omega) (by omega), w64 (x := a.getD i 0 - b.getD i 0 - c + 65536) (by omega) (by omega), w64 (x := (i : Int) + 1) (by omega) (by omega), if_pos (by omega), if_pos (by omega), if_pos hs, if_pos (by omega)]
        rfl
      have hv' : bval (d ++ [a.getD i 0 - b.getD i 0 - c + 65536]) - P16 (i + 1) * 1 = bval (a.take (i + 1)) - bval (b.take (i + 1)) := by
        clear hst
        rw [bval_snoc, ta, tb, hdl, hp1]
        clear ta tb hp1
        simp only [Int.mul_add, Int.mul_sub]
        generalize P16 i * a.getD i 0 = X at *
        generalize P16 i * b.getD i 0 = Y at *
        generalize P16 i * c = Z at *
        generalize P16 i = P at *
        omega
      clear hv ta tb hp1
      obtain ⟨r, d', c', k1, k2⟩ := ref_less_l0 a b ha hb hl m (i + 1) (d ++ [a.getD i 0 - b.getD i 0 - c + 65536]) 1 q1 q2 q3 q4 (by decide) (by decide) hv'
      exact ⟨r, d', c', Ev.step hst k1, k2⟩
    · have q3 : Dig (d ++ [a.getD i 0 - b.getD i 0 - c]) := hd.snoc (by clear hv ta tb hp1; omega) (by clear hv ta tb hp1; omega)
      have q4 : (d ++ [a.getD i 0 - b.getD i 0 - c]).length = i + 1 := by simp; clear hv ta tb hp1; omega
      have hst : ∀ k, capstanref01_less.l0 (k + 1) a b d c (i : Int) = capstanref01_less.l0 k a b (d ++ [a.getD i 0 - b.getD i 0 - c]) 0 ((i + 1 : Nat) : Int) := by
        clear hv ta tb hp1
        intro k
        rw [capstanref01_less.l0, rd_nat, ref_at]
        simp only [Option.bind_some]
        rw [w64 (x := a.getD i 0 - b.getD i 0) (by omega) (by omega), w64 (x := a.getD i 0 - b.getD i 0 - c) (by omega) (by omega), w64 (x := (i : Int) + 1) (by omega) (by omega), if_pos (by omega), if_pos (by omega), if_neg hs, if_pos (by omega)]
        rfl
      have hv' : bval (d ++ [a.getD i 0 - b.getD i 0 - c]) - P16 (i + 1) * 0 = bval (a.take (i + 1)) - bval (b.take (i + 1)) := by
        clear hst
        rw [bval_snoc, ta, tb, hdl, hp1]
        clear ta tb hp1
        simp only [Int.mul_sub]
        generalize P16 i * a.getD i 0 = X at *
        generalize P16 i * b.getD i 0 = Y at *
        generalize P16 i * c = Z at *
        generalize P16 i = P at *
        omega
      clear hv ta tb hp1
      obtain ⟨r, d', c', k1, k2⟩ := ref_less_l0 a b ha hb hl m (i + 1) (d ++ [a.getD i 0 - b.getD i 0 - c]) 0 q1 q2 q3 q4 (by decide) (by decide) hv'
      exact ⟨r, d', c', Ev.step hst k1, k2⟩
theorem ref_less {a b : List Int} (ha : Nrm a) (hb : Nrm b) (hl : max a.length b.length < 1000000000000) (h : bval b ≤ bval a) : ∃ r, Ev (fun k => capstanref01_less.f k a b) r ∧ Nrm r ∧ bval r = bval a - bval b ∧ r.length ≤ max a.length b.length := by
  have hlen : b.length ≤ a.length := by
    rcases Nat.lt_or_ge a.length b.length with hlt | hge
    · have := hb.len_lt ha.1 hlt; omega
    · exact hge
  obtain ⟨r, d, c, h1, h2, h3, h4, h5, h6, h7, h8, h9⟩ := ref_less_l0 a b ha.1 hb.1 (by omega) _ 0 [] 0 rfl (by omega) Dig.nil rfl (by omega) (by omega) (by simp [bval])
  rw [List.take_of_length_le hlen] at h8
  have hb4 := (bval_bd h4).2
  have hb5 := (bval_bd hb.1).1
  rw [h5] at hb4
  have hc : c = 0 := by
    rcases Int.lt_or_le 0 c with hc | hc
    · obtain rfl : c = 1 := by omega
      rw [Int.mul_one] at h8
      generalize P16 a.length = P at *
      omega
    · omega
  subst hc
  rw [Int.mul_zero] at h8
  exact ⟨r, h1, h2, by omega, by omega⟩

/-! Plus -/
theorem big_nil (b : Bool) : big b [] = 0 := by cases b <;> rfl
theorem ref_Plus {a b : List Int} (p q : Bool) (ha : Nrm a) (hb : Nrm b) (hl : max a.length b.length < 1000000000000) :
    ∃ r, Ev (fun k => capstanref01_Plus.f k p a q b) r ∧ Nrm r.2 ∧ big r.1 r.2 = big p a + big q b ∧ r.2.length ≤ max a.length b.length + 1 := by
  by_cases hpq : p = q
  · subst hpq
    obtain ⟨r, h1, h2, h3, h4⟩ := ref_sum ha.1 hb.1 hl
    refine ⟨(p, r), Ev.congr (fun k => ?_) (h1.bind (f := fun _ t => some (p, t)) (Ev.now _)), h2, ?_, h4⟩
    · unfold capstanref01_Plus.f
      rw [if_pos (by simp)]
    · simp only [big, h3]; split <;> omega
  · have hne : ¬ (p == q) = true := by simpa using hpq
    obtain ⟨o, ho, hoo⟩ := ref_order ha hb hl
    have hf : ∀ k, capstanref01_Plus.f k p a q b = (capstanref01_order.f k a b).bind fun t => if t ≥ 0 then (capstanref01_less.f k a b).bind fun u => some (p, u) else (capstanref01_less.f k b a).bind fun u => some (q, u) := by
      intro k
      unfold capstanref01_Plus.f
      rw [if_neg hne]
    by_cases hge : 0 ≤ o
    · obtain ⟨r, h1, h2, h3, h4⟩ := ref_less ha hb hl (hoo.1 hge)
      refine ⟨(p, r), Ev.congr hf (ho.bind (f := fun k t => if t ≥ 0 then (capstanref01_less.f k a b).bind fun u => some (p, u) else (capstanref01_less.f k b a).bind fun u => some (q, u)) (Ev.congr (fun k => if_pos hge) (h1.bind (f := fun _ t => some (p, t)) (Ev.now _)))), h2, ?_, by simp only; omega⟩
      revert hpq; cases p <;> cases q <;> simp [big, h3] <;> omega
    · obtain ⟨r, h1, h2, h3, h4⟩ := ref_less hb ha (by omega) (by omega)
      refine ⟨(q, r), Ev.congr hf (ho.bind (f := fun k t => if t ≥ 0 then (capstanref01_less.f k a b).bind fun u => some (p, u) else (capstanref01_less.f k b a).bind fun u => some (q, u)) (Ev.congr (fun k => if_neg hge) (h1.bind (f := fun _ t => some (q, t)) (Ev.now _)))), h2, ?_, by simp only; omega⟩
      revert hpq; cases p <;> cases q <;> simp [big, h3] <;> omega

/-! Of -/
theorem u64_in {x : Int} (h0 : 0 ≤ x) (h1 : x < 18446744073709551616) : IntKind.u64.wrap x = x := IntWalk.u64_in x ⟨h0, by omega⟩
theorem pow_div16 (u : Int) (m : Nat) (h : u < P16 (m + 1)) : u / 65536 < P16 m := by
  rw [pow_succ16] at h
  exact Int.ediv_lt_of_lt_mul (by omega) (by rw [Int.mul_comm]; exact h)
/-- In the loop of Of: a is the number's size, u what is left of it. -/
structure OfI (a u : Int) (d : List Int) : Prop where
  u0 : 0 ≤ u
  u1 : u < 18446744073709551616
  len : d.length ≤ 4
  u2 : u < P16 (4 - d.length)
  dig : Dig d
  val : bval d + P16 d.length * u = a
  nrm : u = 0 → d ≠ [] → P16 (d.length - 1) ≤ bval d
theorem OfI.start {a : Int} (h0 : 0 ≤ a) (h1 : a < 18446744073709551616) : OfI a a [] :=
  ⟨h0, h1, by simp, h1, Dig.nil, by simp [bval, P16_zero], fun _ h => absurd rfl h⟩
theorem OfI.step {a u : Int} {d : List Int} (h : OfI a u d) (hu : 0 < u) : OfI a (u / 65536) (d ++ [u % 65536]) ∧ d.length < 4 := by
  obtain ⟨h0, h1, hl, h2, hd, hv, hn⟩ := h
  have hl4 : d.length < 4 := by
    rcases Nat.lt_or_ge d.length 4 with h | h
    · exact h
    · rw [show 4 - d.length = 0 by omega] at h2
      have : u < 1 := h2
      clear h2 hv hn
      omega
  have h2' : u / 65536 < P16 (4 - (d.length + 1)) := pow_div16 u _ (by rw [show 4 - (d.length + 1) + 1 = 4 - d.length by omega]; exact h2)
  clear h2 hn
  have hb := (bval_bd hd).1
  have hq : u / 65536 = 0 → d ++ [u % 65536] ≠ [] → P16 ((d ++ [u % 65536]).length - 1) ≤ bval (d ++ [u % 65536]) := by
    intro hz _
    rw [bval_snoc, List.length_append, List.length_singleton, Nat.add_sub_cancel]
    have h3 : P16 d.length * 1 ≤ P16 d.length * (u % 65536) := Int.mul_le_mul_of_nonneg_left (by clear h2' hb hv; omega) (Int.le_of_lt (pow_pos16 _))
    clear h2' hv
    generalize P16 d.length * (u % 65536) = X at *
    generalize P16 d.length = P at *
    omega
  have e3 : u = u % 65536 + 65536 * (u / 65536) := by clear h2' hb hq hv; omega
  have hv2 : bval (d ++ [u % 65536]) + P16 (d ++ [u % 65536]).length * (u / 65536) = bval d + P16 d.length * u := by
    rw [bval_snoc, List.length_append, List.length_singleton, pow_succ16]
    have e4 : P16 d.length * u = P16 d.length * (u % 65536) + 65536 * P16 d.length * (u / 65536) := by
      rw [Int.mul_comm 65536 (P16 d.length), Int.mul_assoc, ← Int.mul_add, ← e3]
    rw [e4, Int.add_assoc]
  refine ⟨⟨?_, ?_, by simp; omega, by simpa using h2', ?_, hv2.trans hv, hq⟩, hl4⟩
  · clear h2' hb hq hv hv2; omega
  · clear h2' hb hq hv hv2; omega
  · exact hd.snoc (by clear h2' hb hq hv hv2; omega) (by clear h2' hb hq hv hv2; omega)
theorem OfI.stop {a : Int} {d : List Int} (h : OfI a 0 d) : Nrm d ∧ bval d = a := by
  obtain ⟨h0, h1, hl, h2, hd, hv, hn⟩ := h
  rw [Int.mul_zero, Int.add_zero] at hv
  exact ⟨⟨hd, hn rfl⟩, hv⟩

/-! Total -/
def isum (l : List Int) : Int := l.foldr (· + ·) 0
theorem isum_take (l : List Int) (i : Nat) (h : i < l.length) : isum (l.take (i + 1)) = isum (l.take i) + l.getD i 0 := by
  rw [List.take_succ_eq_append_getElem h, List.getD_eq_getElem?_getD, List.getElem?_eq_getElem h]
  have : ∀ (a : List Int) (x : Int), isum (a ++ [x]) = isum a + x := by
    intro a x
    induction a with
    | nil => simp [isum]
    | cons y a ih => simp only [isum, List.cons_append, List.foldr_cons] at *; omega
  exact this _ _
/-! Fit -/
theorem bval_drop (l : List Int) (n : Nat) (h : n < l.length) : bval (l.drop n) = l.getD n 0 + 65536 * bval (l.drop (n + 1)) := by
  rw [List.drop_eq_getElem_cons h, bval, List.getD_eq_getElem?_getD, List.getElem?_eq_getElem h]
  rfl
theorem Dig.drop {l : List Int} (h : Dig l) (n : Nat) : Dig (l.drop n) := fun x hx => h x (List.mem_of_mem_drop hx)
theorem and_most (u : Int) (h0 : 0 ≤ u) (h1 : u ≤ 9223372036854775807) : wrap64 (Go.bits .and .u64 u 9223372036854775807) = u := by
  have e : (2 : Int) ^ 63 = 9223372036854775808 := by decide
  have h := bits_mask .u64 63 (by decide) (fun n hn0 hn1 => u64_in hn0 (by omega)) 63 (by decide) u h0 (by omega)
  rw [e] at h
  have e2 : (9223372036854775808 : Int) - 1 = 9223372036854775807 := by decide
  rw [e2] at h
  rw [h, w64 (by omega) (by omega)]
  omega
def fitR (p : Bool) (u : Int) : Int × Bool := if p then (if u > 9223372036854775808 then (0, false) else (-u, true)) else (wrap64 (Go.bits .and .u64 u 9223372036854775807), decide (u ≤ 9223372036854775807))
theorem ref_Fit_l0 (p : Bool) (l : List Int) (hd : Dig l) (hl : l.length ≤ 4) (h1 : 1 ≤ bval l) : ∀ n, n ≤ l.length → Ev (fun k => capstanref01_Fit.l0 k (bval (l.drop n)) ((n : Int) - 1) p l) (fitR p (bval l))
  | 0, _ => by
    have hb : bval l < 18446744073709551616 := by
      have h2 := (bval_bd hd).2
      rcases Nat.lt_or_ge l.length 4 with h | h
      · have h3 : P16 l.length ≤ P16 4 := mul_mono16 (by omega)
        exact Int.lt_of_lt_of_le h2 h3
      · rw [show l.length = 4 by omega] at h2
        exact h2
    refine Ev.step (f := fun _ => some (fitR p (bval l))) (fun k => ?_) (Ev.now _)
    rw [capstanref01_Fit.l0, if_neg (by omega), List.drop_zero]
    unfold fitR
    cases p
    · simp
    · by_cases h2 : bval l > 9223372036854775808
      · simp [h2]
      · rw [if_pos rfl, if_neg h2, if_pos rfl, if_neg h2, u64_in (by omega) (by omega), w64 (x := bval l - 1) (by omega) (by omega), w64 (x := -(bval l - 1)) (by omega) (by omega), w64 (x := -(bval l - 1) - 1) (by omega) (by omega)]
        congr 2
        omega
  | n + 1, hn => by
    have ih := ref_Fit_l0 p l hd hl h1 n (by omega)
    have hb : bval (l.drop n) < 18446744073709551616 := by
      have h2 := (bval_bd (hd.drop n)).2
      have h3 : P16 (l.drop n).length ≤ P16 4 := mul_mono16 (by simp; omega)
      exact Int.lt_of_lt_of_le h2 h3
    have h0 := (bval_bd (hd.drop (n + 1))).1
    have hg := hd.getD n
    have hs := bval_drop l n (by omega)
    refine Ev.step (fun k => ?_) ih
    have e : ((n + 1 : Nat) : Int) - 1 = (n : Int) := by omega
    rw [e, capstanref01_Fit.l0, rd_nat, if_pos (by omega), if_pos (by omega), if_pos (by omega), u64_in (x := l.getD n 0) (by omega) (by omega), u64_in (x := bval (l.drop (n + 1)) * 65536) (by omega) (by omega), u64_in (by omega) (by omega), w64 (by omega) (by omega), hs, Int.mul_comm, Int.add_comm]
theorem ref_Fit {p : Bool} {l : List Int} (h : Nrm l) (hl : l.length < 1000000000) : ∃ r, Ev (fun k => capstanref01_Fit.f k p l) r ∧ r.2 = decide (-9223372036854775808 ≤ big p l ∧ big p l ≤ 9223372036854775807) ∧ (r.2 = true → r.1 = big p l) := by
  by_cases h0 : l = []
  · subst h0
    refine ⟨(0, true), Ev.congr (f := fun _ => some (0, true)) (fun k => by unfold capstanref01_Fit.f; rw [if_pos (by simp)]) (Ev.now _), by rw [big_nil]; rfl, fun _ => (big_nil p).symm⟩
  · have hlen : 0 < l.length := List.length_pos_iff.2 h0
    have h1 := h.2 h0
    by_cases h4 : 4 < l.length
    · refine ⟨(0, false), Ev.congr (f := fun _ => some (0, false)) (fun k => by unfold capstanref01_Fit.f; rw [if_neg (by omega), if_pos (by omega)]) (Ev.now _), ?_, fun h => by simp at h⟩
      have h2 : P16 4 ≤ P16 (l.length - 1) := mul_mono16 (by omega)
      have h3 : (18446744073709551616 : Int) ≤ bval l := Int.le_trans h2 h1
      symm
      rw [decide_eq_false_iff_not]
      unfold big
      clear h1 h2
      cases p <;> simp <;> omega
    · have hp : 1 ≤ bval l := by have := pow_pos16 (l.length - 1); exact Int.le_trans this h1
      have := ref_Fit_l0 p l h.1 (by omega) hp l.length (Nat.le_refl _)
      rw [List.drop_length] at this
      refine ⟨fitR p (bval l), Ev.congr (fun k => ?_) this, ?_, ?_⟩
      · unfold capstanref01_Fit.f
        rw [if_neg (by omega), if_neg (by omega), w64 (by omega) (by omega)]
        rfl
      · unfold fitR big
        clear h1 this
        cases p
        · simp; omega
        · by_cases hx : bval l > 9223372036854775808
          · simp [hx]; omega
          · simp [hx]; omega
      · unfold fitR big
        clear h1 this
        cases p
        · simp only [Bool.false_eq_true, if_false, decide_eq_true_eq]
          exact fun h => and_most _ (by omega) h
        · by_cases hx : bval l > 9223372036854775808 <;> simp [hx]

/-! Over -/
theorem getD_set_eq (q : List Int) (i : Nat) (v : Int) (h : i < q.length) : (q.set i v).getD i 0 = v := by
  rw [List.getD_eq_getElem?_getD, List.getElem?_set_self h]; rfl
theorem getD_set_ne (q : List Int) (i j : Nat) (v : Int) (h : i ≠ j) : (q.set i v).getD j 0 = q.getD j 0 := by
  rw [List.getD_eq_getElem?_getD, List.getElem?_set_ne h, List.getD_eq_getElem?_getD]
theorem drop_set (q : List Int) (i : Nat) (v : Int) : (q.set i v).drop (i + 1) = q.drop (i + 1) := by
  rw [List.drop_set_of_lt (by omega)]
/-- In the midst of a division: digit i, of which t bits are still to come; p is 2 ^ (16 - t). -/
structure OvI (a : List Int) (den : Int) (i t : Nat) (p : Int) (q : List Int) (rest : Int) : Prop where
  len : q.length = a.length
  low : ∀ j, j < i → q.getD j 0 = 0
  dig : Dig (q.drop (i + 1))
  p0 : 0 < p
  pt : p * 2 ^ t = 65536
  q0 : 0 ≤ q.getD i 0
  q1 : q.getD i 0 < p
  r0 : 0 ≤ rest
  r1 : rest < den
  val : bval (a.drop (i + 1)) * p + a.getD i 0 / 2 ^ t = (bval (q.drop (i + 1)) * p + q.getD i 0) * den + rest
theorem ref_over_bit (a : List Int) (den : Int) (p0 : Bool) (ha : Dig a) (hd0 : 1 ≤ den) (hd1 : den ≤ 9223372036854775807) (i t : Nat) (hi : i < a.length) (hi2 : a.length < 1000000000) (ht : t < 16) (p : Int) (q : List Int) (rest : Int) (h : OvI a den i (t + 1) p q rest) :
    ∃ q' rest', OvI a den i t (2 * p) q' rest' ∧ ∀ k, capstanref01_Over.l1 (k + 1) den q rest (i : Int) (t : Int) p0 a = capstanref01_Over.l1 k den q' rest' (i : Int) ((t : Int) - 1) p0 a := by
  obtain ⟨h1, h2, h3, h4, h5, h6, h7, h8, h9, h10⟩ := h
  have hg := ha.getD i
  have hpt : (2 : Int) ^ (t + 1) = 2 * 2 ^ t := by rw [Int.pow_succ]; omega
  have htp : (0 : Int) < 2 ^ t := Int.pow_pos (by omega)
  have hp65 : p ≤ 65536 := by
    rw [← h5]
    have : p * 1 ≤ p * 2 ^ (t + 1) := Int.mul_le_mul_of_nonneg_left (by rw [hpt]; omega) (by omega)
    omega
  have hbit : a.getD i 0 / 2 ^ t = 2 * (a.getD i 0 / 2 ^ (t + 1)) + (a.getD i 0 / 2 ^ t) % 2 := by
    rw [hpt, Int.mul_comm 2 (2 ^ t), ← Int.ediv_ediv_of_nonneg (Int.le_of_lt htp)]
    generalize a.getD i 0 / 2 ^ t = X
    omega
  have hsh : shr .i64 (a.getD i 0) (t : Int) = a.getD i 0 / 2 ^ t := by
    unfold shr
    rw [Int.toNat_natCast, Nat.min_eq_left (by have : IntKind.i64.bits = 64 := rfl
                                               omega)]
  have hd2 : 0 ≤ a.getD i 0 / 2 ^ t := Int.ediv_nonneg hg.1 (Int.le_of_lt htp)
  have hp' : 2 * p * 2 ^ t = 65536 := by rw [← h5, hpt, Int.mul_comm 2 p, Int.mul_assoc]
  have hiq : i < q.length := by omega
  obtain ⟨B, hB⟩ : ∃ B, B = (a.getD i 0 / 2 ^ t) % 2 := ⟨_, rfl⟩
  have hB0 : 0 ≤ B ∧ B ≤ 1 := by omega
  have hw1 : wrap64 (2 * q.getD i 0) = 2 * q.getD i 0 := w64 (by omega) (by omega)
  have hw2 : wrap64 (2 * q.getD i 0 + 1) = 2 * q.getD i 0 + 1 := w64 (by omega) (by omega)
  have hu1 : IntKind.u64.wrap (2 * rest) = 2 * rest := u64_in (by omega) (by omega)
  have hu2 : IntKind.u64.wrap B = B := u64_in (by omega) (by omega)
  have hu3 : IntKind.u64.wrap (2 * rest + B) = 2 * rest + B := u64_in (by omega) (by omega)
  have hu4 : IntKind.u64.wrap den = den := u64_in (by omega) (by omega)
  have hu5 : IntKind.u64.wrap (t : Int) = t := u64_in (by omega) (by omega)
  have hw3 : wrap64 ((t : Int) - 1) = (t : Int) - 1 := w64 (by omega) (by omega)
  have htm : Int.tmod (a.getD i 0 / 2 ^ t) 2 = B := by rw [Int.tmod_eq_emod_of_nonneg hd2, hB]
  have hstep : ∀ k, capstanref01_Over.l1 (k + 1) den q rest (i : Int) (t : Int) p0 a = if 2 * rest + B ≥ den then capstanref01_Over.l1 k den ((q.set i (2 * q.getD i 0)).set i (2 * q.getD i 0 + 1)) (2 * rest + B - den) (i : Int) ((t : Int) - 1) p0 a else capstanref01_Over.l1 k den (q.set i (2 * q.getD i 0)) (2 * rest + B) (i : Int) ((t : Int) - 1) p0 a := by
    intro k
    rw [capstanref01_Over.l1, if_pos (by omega), if_pos (by omega), if_pos (by omega), hu5, if_pos (by omega), if_pos (by omega)]
    simp only [Option.bind_some]
    have e1 : ((i : Int)).toNat = i := Int.toNat_natCast i
    rw [e1, rd_nat, rd_nat, rd_nat, hw1, hsh, htm, hu1, hu2, hu3, hu4, hw3, getD_set_eq q i _ hiq, hw2]
    by_cases hge : 2 * rest + B ≥ den
    · rw [if_pos hge, if_pos hge, u64_in (by omega) (by omega)]
    · rw [if_neg hge, if_neg hge]
  have hval : bval (a.drop (i + 1)) * (2 * p) + a.getD i 0 / 2 ^ t = (bval (q.drop (i + 1)) * (2 * p) + 2 * q.getD i 0) * den + (2 * rest + B) := by
    rw [hbit, ← hB]
    have e2 : bval (a.drop (i + 1)) * (2 * p) = 2 * (bval (a.drop (i + 1)) * p) := by rw [Int.mul_left_comm]
    have e3 : (bval (q.drop (i + 1)) * (2 * p) + 2 * q.getD i 0) * den = 2 * ((bval (q.drop (i + 1)) * p + q.getD i 0) * den) := by
      rw [Int.mul_left_comm, ← Int.mul_add, Int.mul_assoc]
    rw [e2, e3]
    generalize (bval (q.drop (i + 1)) * p + q.getD i 0) * den = X at *
    generalize bval (a.drop (i + 1)) * p = Y at *
    generalize a.getD i 0 / 2 ^ (t + 1) = Z at *
    clear hstep hu1 hu2 hu3 hu4 hu5 hw1 hw2 hw3 htm hsh hbit
    omega
  by_cases hge : 2 * rest + B ≥ den
  · refine ⟨(q.set i (2 * q.getD i 0)).set i (2 * q.getD i 0 + 1), 2 * rest + B - den, ⟨by simp [h1], ?_, ?_, by omega, hp', ?_, ?_, by omega, by omega, ?_⟩, fun k => by rw [hstep, if_pos hge]⟩
    · intro j hj
      rw [getD_set_ne _ _ _ _ (by omega), getD_set_ne _ _ _ _ (by omega)]
      exact h2 j hj
    · rw [drop_set, drop_set]; exact h3
    · rw [getD_set_eq _ _ _ (by simpa using hiq)]; omega
    · rw [getD_set_eq _ _ _ (by simpa using hiq)]; omega
    · rw [drop_set, drop_set, getD_set_eq _ _ _ (by simpa using hiq), hval, ← Int.add_assoc (bval (q.drop (i + 1)) * (2 * p)), Int.add_mul _ 1 den, Int.one_mul]
      generalize (bval (q.drop (i + 1)) * (2 * p) + 2 * q.getD i 0) * den = X
      omega
  · refine ⟨q.set i (2 * q.getD i 0), 2 * rest + B, ⟨by simp [h1], ?_, ?_, by omega, hp', ?_, ?_, by omega, by omega, ?_⟩, fun k => by rw [hstep, if_neg hge]⟩
    · intro j hj
      rw [getD_set_ne _ _ _ _ (by omega)]
      exact h2 j hj
    · rw [drop_set]; exact h3
    · rw [getD_set_eq _ _ _ hiq]; omega
    · rw [getD_set_eq _ _ _ hiq]; omega
    · rw [drop_set, getD_set_eq _ _ _ hiq]; exact hval
theorem ref_over_bits (a : List Int) (den : Int) (p0 : Bool) (ha : Dig a) (hd0 : 1 ≤ den) (hd1 : den ≤ 9223372036854775807) (i : Nat) (hi : i < a.length) (hi2 : a.length < 1000000000) : ∀ (t : Nat), t ≤ 16 → ∀ (p : Int) (q : List Int) (rest : Int), OvI a den i t p q rest →
    ∃ q' rest', OvI a den i 0 65536 q' rest' ∧ ∀ x, Ev (fun k => capstanref01_Over.l0 k den q' rest' ((i : Int) - 1) p0 a) x → Ev (fun k => capstanref01_Over.l1 k den q rest (i : Int) ((t : Int) - 1) p0 a) x
  | 0, _, p, q, rest, h => by
    have hp : p = 65536 := by have := h.pt; simpa using this
    subst hp
    refine ⟨q, rest, h, fun x hx => Ev.step (fun k => ?_) hx⟩
    rw [capstanref01_Over.l1, if_neg (by omega), w64 (by omega) (by omega)]
  | t + 1, ht, p, q, rest, h => by
    obtain ⟨q1, r1, h1, h2⟩ := ref_over_bit a den p0 ha hd0 hd1 i t hi hi2 (by omega) p q rest h
    obtain ⟨q2, r2, h3, h4⟩ := ref_over_bits a den p0 ha hd0 hd1 i hi hi2 t (by omega) (2 * p) q1 r1 h1
    refine ⟨q2, r2, h3, fun x hx => ?_⟩
    have e : ((t + 1 : Nat) : Int) - 1 = (t : Int) := by omega
    rw [e]
    exact Ev.step h2 (h4 x hx)
theorem ref_over_l0 (a : List Int) (den : Int) (p0 : Bool) (ha : Dig a) (hd0 : 1 ≤ den) (hd1 : den ≤ 9223372036854775807) (hi2 : a.length < 1000000000) : ∀ (n : Nat), n ≤ a.length → ∀ (q : List Int) (rest : Int), q.length = a.length → (∀ j, j < n → q.getD j 0 = 0) → Dig (q.drop n) → 0 ≤ rest → rest < den → bval (a.drop n) = bval (q.drop n) * den + rest →
    ∃ q' rest', q'.length = a.length ∧ Dig q' ∧ 0 ≤ rest' ∧ rest' < den ∧ bval a = bval q' * den + rest' ∧ ∀ x, Ev (fun k => capstanref01_Over.l0 k den q' rest' (-1) p0 a) x → Ev (fun k => capstanref01_Over.l0 k den q rest ((n : Int) - 1) p0 a) x
  | 0, _, q, rest, h1, h2, h3, h4, h5, h6 => ⟨q, rest, h1, by simpa using h3, h4, h5, by simpa using h6, fun x hx => hx⟩
  | n + 1, hn, q, rest, h1, h2, h3, h4, h5, h6 => by
    have hi : n < a.length := by omega
    have hg := ha.getD n
    have hq0 : q.getD n 0 = 0 := h2 n (by omega)
    have hz : a.getD n 0 / 2 ^ 16 = 0 := by
      have : (2 : Int) ^ 16 = 65536 := by decide
      rw [this]; omega
    obtain ⟨q1, r1, k1, k2⟩ := ref_over_bits a den p0 ha hd0 hd1 n hi hi2 16 (Nat.le_refl _) 1 q rest ⟨h1, fun j hj => h2 j (by omega), h3, by omega, by decide, by omega, by omega, h4, h5, by rw [hz, hq0, Int.mul_one, Int.mul_one, Int.add_zero, Int.add_zero]; exact h6⟩
    obtain ⟨j1, j2, j3, j4, j5, j6, j7, j8, j9, j10⟩ := k1
    have va := bval_drop a n hi
    have vq := bval_drop q1 n (by omega)
    obtain ⟨q2, r2, l1, l2, l3, l4, l5, l6⟩ := ref_over_l0 a den p0 ha hd0 hd1 hi2 n (by omega) q1 r1 j1 j2 (by
      rw [List.drop_eq_getElem_cons (show n < q1.length by omega)]
      refine Dig.cons.2 ⟨?_, j3⟩
      rw [List.getD_eq_getElem?_getD, List.getElem?_eq_getElem (show n < q1.length by omega)] at j6 j7
      exact ⟨j6, j7⟩) j8 j9 (by
      rw [va, vq]
      have e : a.getD n 0 / 2 ^ 0 = a.getD n 0 := by simp
      rw [e] at j10
      rw [Int.mul_comm 65536, Int.add_comm, j10, Int.mul_comm 65536, Int.add_comm (q1.getD n 0)])
    refine ⟨q2, r2, l1, l2, l3, l4, l5, fun x hx => ?_⟩
    have e : ((n + 1 : Nat) : Int) - 1 = (n : Int) := by omega
    rw [e]
    refine Ev.step (f := fun k => capstanref01_Over.l1 k den q rest (n : Int) ((16 : Nat) - 1 : Int) p0 a) (fun k => ?_) (k2 x (l6 x hx))
    rw [capstanref01_Over.l0, if_pos (by omega)]
    rfl
theorem ref_Over {a : List Int} (p : Bool) (den : Int) (h : Nrm a) (hd0 : 1 ≤ den) (hd1 : den ≤ 9223372036854775807) (hl : a.length < 1000000000) : ∃ r, Ev (fun k => capstanref01_Over.f k p a den) r ∧ Nrm r.2 ∧ big r.1 r.2 = big p a / den ∧ r.2.length ≤ a.length + 2 := by
  have hz : ∀ n, bval (List.replicate n 0) = 0 := by
    intro n
    induction n with
    | zero => rfl
    | succ n ih => rw [List.replicate_succ, bval, ih]; rfl
  obtain ⟨q, rest, h1, h2, h3, h4, h5, h6⟩ := ref_over_l0 a den p h.1 hd0 hd1 hl a.length (Nat.le_refl _) (List.replicate a.length 0) 0 (by simp) (fun j hj => by simp [List.getD_eq_getElem?_getD, hj]) (by simp [Dig.nil]) (by omega) (by omega) (by simp [bval])
  obtain ⟨d, k1, k2, k3, k4⟩ := ref_trim h2 (by omega)
  have hf : ∀ k, capstanref01_Over.f k p a den = capstanref01_Over.l0 k den (List.replicate a.length 0) 0 ((a.length : Int) - 1) p a := by
    intro k
    unfold capstanref01_Over.f
    rw [if_pos (by omega), if_pos (by rw [Int.toNat_natCast]; omega), Int.toNat_natCast, w64 (by omega) (by omega)]
  have hstop : ∀ k, capstanref01_Over.l0 (k + 1) den q rest (-1) p a = (capstanref01_trim.f k q).bind fun t => if p = true then (if rest > 0 then (capstanref01_sum.f k t [1]).bind fun u => some (p, u) else some (p, t)) else some (p, t) := by
    intro k
    rw [capstanref01_Over.l0, if_neg (by omega)]
  have hdiv : ∀ X R : Int, 0 ≤ R → R < den → (X * den + R) / den = X := by
    intro X R hr0 hr1
    rw [Int.add_comm, Int.add_mul_ediv_right _ _ (by omega), Int.ediv_eq_zero_of_lt hr0 hr1]
    omega
  by_cases hp : p = true ∧ rest > 0
  · obtain ⟨rfl, hr⟩ := hp
    obtain ⟨s, s1, s2, s3, s4⟩ := ref_sum (a := d) (b := [1]) k2.1 (by intro x hx; simp at hx; subst hx; omega) (by simp; omega)
    refine ⟨(true, s), Ev.congr hf (h6 _ (Ev.step hstop (k1.bind (f := fun k t => if true = true then (if rest > 0 then (capstanref01_sum.f k t [1]).bind fun u => some (true, u) else some (true, t)) else some (true, t)) (Ev.congr (f := fun k => (capstanref01_sum.f k d [1]).bind fun u => some (true, u)) (fun k => by rw [if_pos rfl, if_pos hr]) (s1.bind (f := fun _ u => some (true, u)) (Ev.now _)))))), s2, ?_, by simp at s4 ⊢; omega⟩
    have e : bval [1] = 1 := rfl
    simp only [big, if_true]
    rw [s3, k3, e, h5]
    have : -(bval q * den + rest) = (-(bval q + 1)) * den + (den - rest) := by
      rw [Int.neg_mul, Int.add_mul]; omega
    rw [this, hdiv _ _ (by omega) (by omega)]
  · refine ⟨(p, d), Ev.congr hf (h6 _ (Ev.step hstop (k1.bind (f := fun k t => if p = true then (if rest > 0 then (capstanref01_sum.f k t [1]).bind fun u => some (p, u) else some (p, t)) else some (p, t)) (Ev.congr (f := fun _ => some (p, d)) (fun k => ?_) (Ev.now _))))), k2, ?_, by simp only; omega⟩
    · by_cases hp1 : p = true
      · rw [if_pos hp1, if_neg (fun hr => hp ⟨hp1, hr⟩)]
      · rw [if_neg hp1]
    · unfold big
      cases p
      · simp only [Bool.false_eq_true, if_false]
        rw [k3, h5, hdiv _ _ h3 h4]
      · have hr : rest = 0 := by
          have : ¬ rest > 0 := fun h => hp ⟨rfl, h⟩
          omega
        simp only [if_true]
        rw [k3, h5, hr, Int.add_zero, ← Int.neg_mul, Int.mul_ediv_cancel _ (by omega)]
theorem ref_Mean {a : List Int} (p : Bool) (n : Int) (h : Nrm a) (hn : 1 ≤ n) (hn1 : n ≤ 9223372036854775807) (hl : a.length < 100000000) (h0 : -9223372036854775808 ≤ big p a / n) (h1 : big p a / n ≤ 9223372036854775807) :
    Ev (fun k => capstanref01_Mean.f k p a n) (big p a / n, true) := by
  obtain ⟨o, o1, o2, o3, o4⟩ := ref_Over p n h hn hn1 (by omega)
  obtain ⟨f, f1, f2, f3⟩ := ref_Fit (p := o.1) o2 (by omega)
  rw [o3] at f2 f3
  have f4 : f.2 = true := by rw [f2]; simpa using ⟨h0, h1⟩
  have f5 := f3 f4
  refine Ev.congr (f := fun k => (capstanref01_Over.f k p a n).bind fun t => (capstanref01_Fit.f k t.1 t.2).bind fun u => some (u.1, u.2)) (fun k => ?_) (o1.bind (f := fun k t => (capstanref01_Fit.f k t.1 t.2).bind fun u => some (u.1, u.2)) (f1.bind (f := fun _ u => some (u.1, u.2)) ?_))
  · unfold capstanref01_Mean.f
    rw [if_neg (by omega)]
  · rw [f4, f5]
    exact Ev.now _
end Go.Proofs.Ytfhhdlpglfjdgaa
/- Contracts of chapter 01's reference, by hand: Of, Total. -/
set_option linter.unusedVariables false
set_option linter.unusedSimpArgs false
namespace Go.Proofs.Ytfhhdlpglfjdgaa
open Go.RowKit Go.Proofs.YtfhhdlpglfjdgaaW.PrintWords Go.Proofs.YtfhhdlpglfjdgaaW.PrintLast Go.Proofs.YtfhhdlpglfjdgaaW.PrintMore Go.Proofs.Ytfhhdlpglfjdgaa.PWindowPlays

set_option maxHeartbeats 3200000 in
set_option maxRecDepth 100000 in
theorem ref_Of_calls (v : Int) (w : World) (h0 : -9223372036854775808 ≤ v) (h1 : v ≤ 9223372036854775807) :
    Calls Try.prog 75 #[.int .i64 v] w fun e w' => ∃ (b : Bool) (d : List Int) (vd : Value), e = .returned (.agg #[.bool b, vd]) ∧ Kd.R (Kd.int .i64) 3 w' w.heap.size (fun _ => True) vd d ∧ Below w.heap.size w w' ∧ Nrm d ∧ big b d = v ∧ d.length ≤ 4 := by
  obtain ⟨a, ha⟩ : ∃ a, a = if v < 0 then -v else v := ⟨_, rfl⟩
  have haa : 0 ≤ a ∧ a < 18446744073709551616 := by rw [ha]; split <;> omega
  have HI := Lib.hid (OfI.start haa.1 haa.2)
  have HBig : Hid (∀ d, bval d = a → big (decide (v < 0)) d = v) := Lib.hid (by
    intro d hd
    unfold big
    by_cases hv : v < 0
    · simp [hv] at ha ⊢; omega
    · simp [hv] at ha ⊢; omega)
  obtain ⟨b, hb⟩ : ∃ b, b = decide (v < 0) := ⟨_, rfl⟩
  rw [← hb] at HBig
  have hd : decide (v < 0) = b := hb.symm
  have hu : (if b = true then IntKind.u64.wrap (-(IntKind.u64.wrap v)) else IntKind.u64.wrap v) = a := by
    rw [ha, hb, IntKind.wrap_u64, IntKind.wrap_u64]
    by_cases hv : v < 0
    · simp [hv]; omega
    · simp [hv]; omega
  have Hu := Lib.hid hu
  clear ha hu haa hb h0 h1
  go_enter Try.func75, Try.ntmps75
  cases b
  all_goals
    go_wp2
    have hu := Hu.out
    simp only [Bool.false_eq_true, if_false, if_true] at hu
    have Hu2 := Lib.hid hu
    clear hu
    go_loopg [4, 5] 4 (fun k v4 v5 wr => ∃ (u : Int) (d : List Int), k = 4 - d.length ∧ v4 = .int .u64 u ∧ Hid (OfI a u d) ∧ Hid (Kd.R (Kd.int .i64) 3 wr w.heap.size (fun _ => True) v5 d) ∧ Hid (wr.heap[w.heap.size]? = some (.cells #[.bool false, .slice none 0 0] 110 (0, 0))) ∧ Hid (Below w.heap.size w wr))
    case atStart => exact ⟨a, [], rfl, by rw [Hu2.out], HI, Lib.hid (Kd.R_nil _ _ _ _ _), Lib.hid (hb_new w _), Lib.hid (below1 w _)⟩
    case round =>
      obtain ⟨u, d, rfl, rfl, HU, HR, HK, HB⟩ := hrel
      clear HI Hu Hu2
      by_cases hu : 0 < u
      · have hd2 : decide (0 < u) = true := by simpa using hu
        have e1 : Int.tmod u 65536 = u % 65536 := Int.tmod_eq_emod_of_nonneg HU.out.u0
        have e2 : Int.tdiv u 65536 = u / 65536 := Int.tdiv_eq_ediv_of_nonneg HU.out.u0
        have e3 : wrap64 (u % 65536) = u % 65536 := w64 (by omega) (by omega)
        have e4 : IntKind.u64.wrap (u / 65536) = u / 65536 := by have := HU.out.u1; exact u64_in (by omega) (by omega)
        have hst := HU.out.step hu
        have hEq : d ++ [wrap64 (Int.tmod u 65536)] = d ++ [u % 65536] := by rw [e1, e3]
        have hEq2 : IntKind.u64.wrap (Int.tdiv u 65536) = u / 65536 := by rw [e2, e4]
        have hlen := hst.2
        have HLen := Lib.hid hlen
        have HEq := Lib.hid hEq
        have HEq2 := Lib.hid hEq2
        have HSt := Lib.hid hst.1
        clear hu e1 e2 e3 e4 hst hEq hEq2 hlen
        go_wp2_with (first | ((with_reducible refine gate_builtin (b := .append) (xs := #[.tmp 15, .tmp 19]) rfl ?_); at_builtin; refine Kd.R_append (Kd.int .i64) (w0 := w) w.heap.size rfl (.tmp 15) (.tmp 19) 108 3 (.int .i64 0) 8 rfl Try.underlying108 info3 rfl (by decide) (by omega) u5 d (wrap64 (Int.tmod u 65536)) [.int .i64 (wrap64 (Int.tmod u 65536))] (fun _ => True) (fun _ => False) rfl rfl ?aP (fun _ hk => hk.elim) ?aF ?aO ?aB ?aS ?aL ?_; (case aP => exact rfl); (case aB => exact (by repeat (first | (with_reducible first | exact HB.out | apply below_alloc) | exact HB.out))); (case aF => exact (fun _ _ => trivial)); (case aO => exact (by (with_reducible repeat (first | apply Kd.R_alloc | apply Kd.R_drewN | apply Kd.R_drew)); exact HR.out)); (case aS => exact (below_size (by repeat (first | (with_reducible first | exact HB.out | apply below_alloc) | exact HB.out)))); (case aL => have := HLen.out; omega); intro v179 w7 ho hb hg hat; have n0_ := Lib.hid (blk_grown (g := w.heap.size) (o := .cells #[.bool false, .slice none 0 0] 110 (0, 0)) (by (with_reducible repeat (first | refine blk_alloc ?_ _)); exact HK.out) hg (Kd.R_ne HR.out HK.out (by decide))); have n1_ := Lib.hid hb; rw [HEq.out] at ho; have n2_ := Lib.hid ho; clear HK HB HR; clear ho hb hg hat))
        rw [HEq2.out]
        go_roundg (4 - (d ++ [u % 65536]).length)
        case measure => have := HLen.out; simp; omega
        case rel => exact ⟨u / 65536, d ++ [u % 65536], rfl, rfl, HSt, n2_, n0_, n1_⟩
      · have hd2 : decide (0 < u) = false := by simpa using hu
        obtain rfl : u = 0 := by have := HU.out.u0; omega
        obtain ⟨h1, h2⟩ := HU.out.stop
        obtain ⟨A, c, rfl⟩ := Kd.R_slice HR.out
        obtain ⟨q0, q1, q2, q3⟩ := hb2 HK.out
        have H1 := Lib.hid h1
        have H2 := Lib.hid h2
        clear hu h1 h2
        go_wp2
        refine bodyPost_ret (v := .agg #[.bool _, .slice A d.length c]) (results_cell_row rfl _ _ w.heap.size 110 #[.bool _, .slice A d.length c] (0, 0) _ rfl (two_set HK.out _ _) Try.underlying110 rfl (by kernel_rfl)) rfl ?_
        refine ⟨_, d, _, rfl, ?_, ?_, H1.out, HBig.out d H2.out, HU.out.len⟩
        · exact Kd.R_mono (Kd.R_far (p := ⟨w.heap.size, 1, none⟩) (Kd.R_far (p := ⟨w.heap.size, 0, none⟩) (Kd.R_types HR.out HK.out (by decide)) (fun _ hk => hk.2) _) (fun _ hk => hk.2) _) (fun _ hk => trivial)
        · exact (HB.out.setCell (Nat.le_refl _) _).setCell (Nat.le_refl _) _

/-- A number of chapter 01's reference that can be read in a world. -/
def BigV (w : World) (base : Nat) (b : Bool) (d : List Int) (v : Value) : Prop := Nrm d ∧ Kd.R (Kd.int .i64) 3 w base (fun _ => True) v d
theorem ref_Plus_calls (w : World) (base base' : Nat) (p q : Bool) (a b : List Int) (va vb : Value) (ha : BigV w base p a va) (hb : BigV w base' q b vb) (hl : max a.length b.length < 1000000000000) :
    Calls Try.prog 74 #[.agg #[.bool p, va], .agg #[.bool q, vb]] w fun e w' => ∃ (r : Bool) (d : List Int) (vd : Value), e = .returned (.agg #[.bool r, vd]) ∧ BigV w' w.heap.size r d vd ∧ Below w.heap.size w w' ∧ big r d = big p a + big q b ∧ d.length ≤ max a.length b.length + 1 := by
  obtain ⟨⟨r, d⟩, h1, h2, h3, h4⟩ := ref_Plus p q ha.1 hb.1 hl
  obtain ⟨k, hk⟩ := h1.rounds
  obtain ⟨A, c, rfl, hc, hC⟩ := Kd.R_reads ha.2
  obtain ⟨A', c', rfl, hc', hC'⟩ := Kd.R_reads hb.2
  refine (capstanref01_Plus.calls k p A c a q A' c' b r d w hC hc hC' hc' hk).mono ?_
  rintro e w' ⟨v, rfl, hR, hB⟩
  exact ⟨r, d, v, rfl, ⟨h2, hR⟩, hB, h3, h4⟩
theorem BigV.below {w w' : World} {base : Nat} {b : Bool} {d : List Int} {v : Value} (h : BigV w base b d v) (hb : Below w.heap.size w w') : BigV w' base b d v := ⟨h.1, Kd.R_below h.2 hb⟩
theorem BigV.nil (w : World) (base : Nat) (b : Bool) : BigV w base b [] (.slice none 0 0) := ⟨Nrm.nil, Kd.R_nil _ _ _ _ _⟩

/-- In the loop of Total. -/
structure TotI (w wr : World) (l : List Int) (i : Nat) (p : Bool) (d : List Int) (vd : Value) : Prop where
  below : Below w.heap.size w wr
  res : wr.heap[w.heap.size]? = some (.cells #[.bool false, .slice none 0 0] 110 (0, 0))
  sum : wr.heap[w.heap.size + 1]? = some (.cells #[.bool p, vd] 110 (0, 0))
  bv : BigV wr w.heap.size p d vd
  val : big p d = isum (l.take i)
  len : d.length ≤ i + 4
theorem TotI.on {w wr wx : World} {l : List Int} {i : Nat} {p : Bool} {d : List Int} {vd : Value} (h : TotI w wr l i p d vd) (hb : Below wr.heap.size wr wx) : TotI w wx l i p d vd :=
  ⟨below_up h.below hb, hb_below' h.res hb, hb_below' h.sum hb, h.bv.below hb, h.val, h.len⟩
theorem BigV.fit {w : World} {base g : Nat} {b : Bool} {d : List Int} {v : Value} {cs : Array Value} (h : BigV w base b d v) (hb : w.heap[g]? = some (.cells cs 110 (0, 0))) (j : Nat) (u : Value) : BigV (w.setCell ⟨g, j, none⟩ u) base b d v :=
  ⟨h.1, Kd.R_mono (Kd.R_far (p := ⟨g, j, none⟩) (Kd.R_types h.2 hb (by decide)) (fun _ hk => hk.2) u) (fun _ _ => trivial)⟩
theorem TotI.store {w wr : World} {l : List Int} {i : Nat} {p q : Bool} {d d' : List Int} {vd vd' : Value} (h : TotI w wr l i p d vd) {base : Nat} (hq : BigV wr base q d' vd') (hbase : w.heap.size ≤ base) (hv : big q d' = isum (l.take (i + 1))) (hl : d'.length ≤ i + 1 + 4) :
    TotI w ((wr.setCell ⟨w.heap.size + 1, 0, none⟩ (.bool q)).setCell ⟨w.heap.size + 1, 1, none⟩ vd') l (i + 1) q d' vd' := by
  have h1 := h.sum
  refine ⟨(h.below.setCell (by simp) _).setCell (by simp) _, hb_far (hb_far h.res (by simp) _) (by simp) _, two_set h1 _ _, ?_, hv, hl⟩
  have hq' : BigV wr w.heap.size q d' vd' := ⟨hq.1, Kd.R_lower hq.2 hbase⟩
  have h2 := hq'.fit h1 0 (.bool q)
  exact h2.fit (hb_set h1 0 (.bool q)) 1 vd'

set_option maxHeartbeats 3200000 in
set_option maxRecDepth 100000 in
theorem ref_Total_calls (A : Option Addr) (c : Nat) (l : List Int) (w : World) (hC : Kd.C (Kd.int .i64) w A l.length l) (hc : l.length ≤ c) (h64 : ∀ x ∈ l, -9223372036854775808 ≤ x ∧ x ≤ 9223372036854775807) (hl : l.length < 100000000) :
    Calls Try.prog 61 #[.slice A l.length c] w fun e w' => ∃ (r : Bool) (d : List Int) (vd : Value), e = .returned (.agg #[.bool r, vd]) ∧ BigV w' w.heap.size r d vd ∧ Below w.heap.size w w' ∧ big r d = isum l ∧ d.length ≤ l.length + 4 := by
  have HC := Lib.hid hC
  have H64 := Lib.hid h64
  obtain ⟨len, hlen⟩ : ∃ len, len = l.length := ⟨_, rfl⟩
  rw [← hlen] at hl ⊢
  have Hlen := Lib.hid hlen
  clear hC hc h64 hlen
  go_enter Try.func61, Try.ntmps61
  go_wp2
  have hT0 : TotI w ((w.alloc (.cells #[.bool false, .slice none 0 0] 110)).alloc (.cells #[.bool false, .slice none 0 0] 110)) l 0 false [] (.slice none 0 0) :=
    ⟨below2 _ _ _, hb_alloc (hb_new _ _) _, by simpa using hb_new (w.alloc (.cells #[.bool false, .slice none 0 0] 110)) (.cells #[.bool false, .slice none 0 0] 110), BigV.nil _ _ _, by simp [big, bval, isum], by simp⟩
  have HT0 := Lib.hid hT0
  clear hT0
  go_loopg [4] len (fun k v4 wr => ∃ (i : Nat) (p : Bool) (d : List Int) (vd : Value), k = len - i ∧ i ≤ len ∧ v4 = .int .i64 i ∧ Hid (TotI w wr l i p d vd))
  case atStart => exact ⟨0, false, [], _, rfl, by omega, rfl, HT0⟩
  case round =>
    obtain ⟨i, p, d, vd, rfl, hi, rfl, HT⟩ := hrel
    clear HT0
    rcases Nat.lt_or_ge i len with hlt | hge
    · have hn0 : (0 : Int) ≤ (i : Int) := by omega
      have hn1 : (i : Int) < (len : Int) := by omega
      have hd : decide ((i : Int) < (len : Int)) = true := by simpa using hn1
      obtain ⟨ad, rfl, hcell⟩ := Kd.at_int HC.out (i : Int) hn0 (by rw [← Hlen.out]; exact hn1)
      have hx : rd l (i : Int) = l.getD i 0 := rd_nat l i
      rw [hx, Int.toNat_natCast] at hcell
      have hgl : l.getD i 0 ∈ l := by
        have h1 : i < l.length := by rw [← Hlen.out]; exact hlt
        rw [List.getD_eq_getElem?_getD, List.getElem?_eq_getElem h1]
        exact List.getElem_mem h1
      have hx64 := H64.out _ hgl
      obtain ⟨x, hxx⟩ : ∃ x, x = l.getD i 0 := ⟨_, rfl⟩
      rw [← hxx] at hcell hx64
      obtain ⟨bo, off, spot⟩ := ad
      have hspot : spot = none := by
        rcases Nat.eq_zero_or_pos i with rfl | hp
        · simpa [Addr.add] using World.cell?_spot hcell
        · obtain ⟨ad', h1, h2⟩ := Kd.at_int HC.out 0 (by omega) (by rw [← Hlen.out]; omega)
          simp only [Option.some.injEq] at h1
          subst h1
          simpa [Addr.add] using World.cell?_spot h2
      subst hspot
      rw [Go.WideShapes.add_plain] at hcell
      have hbo := World.block_lt_of_cell? _ _ hcell
      have hcell2 : wr.cell? ⟨bo, off + i, none⟩ = some (.int .i64 x) := (HT.out.below.cell (p := ⟨bo, off + i, none⟩) hbo).trans hcell
      have hbo2 : bo < wr.heap.size := Nat.lt_of_lt_of_le hbo HT.out.below.size
      obtain ⟨q0, q1, q2, q3⟩ := hb2 HT.out.sum
      have hs : w.heap.size + 1 < wr.heap.size := hb_lt HT.out.sum
      have hOf : ∀ W', Below wr.heap.size wr W' → Calls Try.prog 75 #[.int .i64 x] W' fun e w' => ∃ (b : Bool) (d1 : List Int) (v1 : Value), e = .returned (.agg #[.bool b, v1]) ∧ Hid (Below wr.heap.size wr w' ∧ w.heap.size ≤ W'.heap.size ∧ BigV w' W'.heap.size b d1 v1 ∧ big b d1 = x ∧ d1.length ≤ 4) ∧
          w'.cell? ⟨w.heap.size + 1, 0, none⟩ = some (.bool p) ∧ w'.cell? ⟨w.heap.size + 1, 1, none⟩ = some vd ∧ w'.cell? ⟨bo, off + i, none⟩ = some (.int .i64 x) := by
        intro W' hb
        refine (ref_Of_calls x W' hx64.1 hx64.2).mono ?_
        rintro e w' ⟨b, d1, v1, rfl, hR, hB, hN, hv, hl4⟩
        have hbb := below_up hb hB
        obtain ⟨z0, z1, _, _⟩ := hb2 (hb_below' HT.out.sum hbb)
        exact ⟨b, d1, v1, rfl, Lib.hid ⟨hbb, by have := hb.size; have := HT.out.below.size; omega, ⟨hN, hR⟩, hv, hl4⟩, z0, z1, (hbb.cell (p := ⟨bo, off + i, none⟩) hbo2).trans hcell2⟩
      have hPl : ∀ W1 b d1 v1 base, Below wr.heap.size wr W1 → w.heap.size ≤ base → BigV W1 base b d1 v1 → big b d1 = x → d1.length ≤ 4 → Calls Try.prog 74 #[.agg #[.bool p, vd], .agg #[.bool b, v1]] W1 fun e w' => ∃ (r : Bool) (d2 : List Int) (A2 : Option Addr) (c2 : Nat), e = .returned (.agg #[.bool r, .slice A2 d2.length c2]) ∧
          w'.cell? ⟨w.heap.size + 1, 0, none⟩ = some (.bool p) ∧ w'.cell? ⟨w.heap.size + 1, 1, none⟩ = some vd ∧ w'.frozen? ⟨w.heap.size + 1, 0, none⟩ = false ∧ w'.frozen? ⟨w.heap.size + 1, 1, none⟩ = false ∧
          Hid (∀ W2, Below w'.heap.size w' W2 → TotI w ((W2.setCell ⟨w.heap.size + 1, 0, none⟩ (.bool r)).setCell ⟨w.heap.size + 1, 1, none⟩ (.slice A2 d2.length c2)) l (i + 1) r d2 (.slice A2 d2.length c2)) := by
        intro W1 b d1 v1 base hb hbase hV hv hl4
        have hT1 := HT.out.on hb
        refine (ref_Plus_calls W1 w.heap.size base p b d d1 vd v1 hT1.bv hV (by have := hT1.len; omega)).mono ?_
        rintro e w' ⟨r, d2, v2, rfl, hV2, hB2, hv2, hl2⟩
        have hT2 := hT1.on hB2
        obtain ⟨z0, z1, z2, z3⟩ := hb2 hT2.sum
        obtain ⟨A2, c2, rfl⟩ := Kd.R_slice hV2.2
        refine ⟨r, d2, A2, c2, rfl, z0, z1, z2, z3, Lib.hid (fun W2 hb2 => ?_)⟩
        refine (hT2.on hb2).store (hV2.below hb2) hT1.below.size ?_ (by have := hT1.len; omega)
        rw [hv2, hT1.val, hv, isum_take l i (by rw [← Hlen.out]; exact hlt), hxx]
      have HOf := Lib.hid hOf
      have HPl := Lib.hid hPl
      clear hOf hPl hx64 hgl hxx hx hcell hbo
      go_upto_region 5 with fail
      go_region_with (first | (refine (HOf.out _ ?hbb).mono ?_; (case hbb => first | exact Below.refl _ _ | exact (Below.refl _ _).drew); rintro e w1 ⟨b, d1, v1, rfl, HH, z0, z1, z2⟩) | (refine (HPl.out _ b d1 v1 _ HH.out.1 HH.out.2.1 HH.out.2.2.1 HH.out.2.2.2.1 HH.out.2.2.2.2).mono ?_; rintro e w2 ⟨r, d2, A2, c2, rfl, y0, y1, y2, y3, HT2⟩))
      all_goals
        clear HOf HPl hcell2 hbo2 q0 q1 q2 q3 hs
        go_wp2_with fail
        go_roundg (len - (i + 1))
        case measure => omega
        case rel => exact ⟨i + 1, r, d2, _, rfl, by omega, by go_num, by first | exact Lib.hid (HT2.out _ (Below.refl _ _)) | exact Lib.hid (HT2.out _ (Below.refl _ _).drew)⟩
    · obtain rfl : i = len := by omega
      obtain ⟨q0, q1, q2, q3⟩ := hb2 HT.out.sum
      obtain ⟨r0, r1, r2, r3⟩ := hb2 HT.out.res
      obtain ⟨A', c', rfl⟩ := Kd.R_slice HT.out.bv.2
      have hs : w.heap.size < wr.heap.size := hb_lt HT.out.res
      go_wp2
      refine bodyPost_ret (v := .agg #[.bool p, .slice A' d.length c']) (results_cell_row rfl _ _ w.heap.size 110 #[.bool p, .slice A' d.length c'] (0, 0) _ rfl (two_set HT.out.res _ _) Try.underlying110 rfl (by kernel_rfl)) rfl ?_
      refine ⟨p, d, _, rfl, ?_, ?_, ?_, ?_⟩
      · exact (HT.out.bv.fit HT.out.res 0 _).fit (hb_set HT.out.res 0 _) 1 _
      · exact (HT.out.below.setCell (Nat.le_refl _) _).setCell (Nat.le_refl _) _
      · rw [HT.out.val, List.take_of_length_le (by rw [← Hlen.out]; exact Nat.le_refl _)]
      · have := HT.out.len; omega
end Go.Proofs.Ytfhhdlpglfjdgaa
/- Plain laws of the printed twins of chapters 06, 07, 08's references. No program in sight. -/
set_option linter.unusedVariables false
set_option linter.unusedSimpArgs false
namespace Go.Proofs.Ytfhhdlpglfjdgaa
open Go.RowKit Go.Proofs.YtfhhdlpglfjdgaaW.PrintWords Go.Proofs.YtfhhdlpglfjdgaaW.PrintLast Go.Proofs.YtfhhdlpglfjdgaaW.PrintMore Go.Proofs.Ytfhhdlpglfjdgaa.PWindowPlays

/-! Right -/
theorem ref_Right (T : WT) (k : Nat) : capstanref08_Right.f (k + 1) T.m T.a T.s T.p = some T.right := by
  obtain ⟨m, a, s, p⟩ := T
  unfold capstanref08_Right.f WT.right
  simp only [capstanref08_Right.j0]
  repeat' split
  all_goals refine congrArg some ?_
  all_goals rw [Bool.eq_iff_iff]
  all_goals simp only [decide_eq_true_eq, decide_eq_false_iff_not, beq_iff_eq, Bool.false_eq_true, false_iff, Bool.true_eq_false, not_true_eq_false, not_false_eq_true, reduceCtorEq] at *
  all_goals omega

/-! within, Held, values -/
theorem ref_within (t a s : Int) (h : a ≤ t) (ha : -9223372036854775808 ≤ a) (ht : t ≤ 9223372036854775807) (hs : 1 ≤ s) (hs1 : s ≤ 604800) : capstanref08_within.f t a s = some (decide (t - a < s)) := by
  unfold capstanref08_within.f
  have e2 : wrap64 (-s) = -s := w64 (by omega) (by omega)
  by_cases h1 : a ≥ 0
  · rw [if_pos h1, w64 (by omega) (by omega)]
  · rw [if_neg h1]
    by_cases h2 : t < 0
    · rw [if_pos h2, w64 (by omega) (by omega)]
    · rw [if_neg h2, e2]
      by_cases h3 : a ≥ -s
      · rw [if_pos h3]
        by_cases h4 : t < s
        · rw [if_pos h4, w64 (by omega) (by omega)]
        · rw [if_neg h4]
          congr 1; symm; rw [decide_eq_false_iff_not]; omega
      · rw [if_neg h3]
        congr 1; symm; rw [decide_eq_false_iff_not]; omega
def inSpan (t s : Int) (x : S50) : Bool := decide (t - x.f0 < s)
theorem rdS (l : List S50) (i : Nat) (h : i < l.length) : rd_T50 l (i : Int) = l[i] := by
  unfold rd_T50
  rw [Int.toNat_natCast, List.getD_eq_getElem?_getD, List.getElem?_eq_getElem h]
  rfl
theorem ref_Held_l0 (l : List S50) (t s : Int) (h64 : ∀ x ∈ l, -9223372036854775808 ≤ x.f0 ∧ x.f0 ≤ t) (ht : t ≤ 9223372036854775807) (hs : 1 ≤ s) (hs1 : s ≤ 604800) (hl : l.length < 8796093022208) : ∀ (m i : Nat) (acc : List S50), l.length - i = m → i ≤ l.length → acc.length ≤ i →
    Ev (fun k => capstanref08_Held.l0 k l t s acc (i : Int)) (acc ++ (l.drop i).filter (inSpan t s))
  | 0, i, acc, hm, hi, ha => by
    obtain rfl : i = l.length := by omega
    refine Ev.step (f := fun _ => some (acc ++ (l.drop l.length).filter (inSpan t s))) (fun k => ?_) (Ev.now _)
    rw [capstanref08_Held.l0, if_neg (by omega)]
    simp
  | m + 1, i, acc, hm, hi, ha => by
    have hlt : i < l.length := by omega
    have hx := h64 _ (List.getElem_mem hlt)
    have e1 : wrap64 ((i : Int) + 1) = ((i + 1 : Nat) : Int) := by rw [w64 (by omega) (by omega)]; omega
    have hw := ref_within t (l[i]).f0 s hx.2 hx.1 ht hs hs1
    have hd : l.drop i = l[i] :: l.drop (i + 1) := List.drop_eq_getElem_cons hlt
    by_cases hb : inSpan t s l[i] = true
    · have ih := ref_Held_l0 l t s h64 ht hs hs1 hl m (i + 1) (acc ++ [l[i]]) (by omega) (by omega) (by simp; omega)
      rw [hd, List.filter_cons_of_pos hb]
      rw [List.append_assoc] at ih
      refine Ev.step (fun k => ?_) ih
      rw [capstanref08_Held.l0, rdS l i hlt, if_pos (by omega), if_pos (by omega), hw]
      simp only [Option.bind_some]
      rw [if_pos (show decide (t - (l[i]).f0 < s) = true from hb), if_pos (by omega), e1]
    · have ih := ref_Held_l0 l t s h64 ht hs hs1 hl m (i + 1) acc (by omega) (by omega) (by omega)
      rw [hd, List.filter_cons_of_neg hb]
      refine Ev.step (fun k => ?_) ih
      rw [capstanref08_Held.l0, rdS l i hlt, if_pos (by omega), if_pos (by omega), hw]
      simp only [Option.bind_some]
      rw [if_neg (show ¬ decide (t - (l[i]).f0 < s) = true from hb), e1]
/-- What the reference holds of all samples. -/
def holdR (l : List S50) (t s : Int) : List S50 := (l.drop (l.length - 4096)).filter (inSpan t s)
theorem ref_Held (l : List S50) (t s : Int) (h64 : ∀ x ∈ l, -9223372036854775808 ≤ x.f0 ∧ x.f0 ≤ t) (ht : t ≤ 9223372036854775807) (hs : 1 ≤ s) (hs1 : s ≤ 604800) (hl : l.length < 8796093022208) :
    Ev (fun k => capstanref08_Held.f k l t s) (holdR l t s) := by
  unfold holdR
  obtain ⟨i0, hi0⟩ : ∃ i0, i0 = l.length - 4096 := ⟨_, rfl⟩
  rw [← hi0]
  have h := ref_Held_l0 l t s h64 ht hs hs1 hl (l.length - i0) i0 [] rfl (by omega) (by simp)
  refine Ev.congr (fun k => ?_) h
  unfold capstanref08_Held.f
  have e1 : wrap64 ((l.length : Int) - 4096) = (l.length : Int) - 4096 := w64 (by omega) (by omega)
  rw [e1]
  by_cases h1 : 0 < (l.length : Int) - 4096
  · rw [if_pos h1, show (l.length : Int) - 4096 = (i0 : Int) by omega]
  · rw [if_neg h1, show i0 = 0 by omega]
    rfl
theorem ref_values_l0 (l : List S50) (hl : l.length < 8796093022208) : ∀ (m i : Nat) (acc : List Int), l.length - i = m → i ≤ l.length → acc.length ≤ i →
    Ev (fun k => capstanref08_values.l0 k l acc (i : Int)) (acc ++ (l.drop i).map (·.f1))
  | 0, i, acc, hm, hi, ha => by
    obtain rfl : i = l.length := by omega
    refine Ev.step (f := fun _ => some (acc ++ (l.drop l.length).map (·.f1))) (fun k => ?_) (Ev.now _)
    rw [capstanref08_values.l0, if_neg (by omega)]
    simp
  | m + 1, i, acc, hm, hi, ha => by
    have hlt : i < l.length := by omega
    have e1 : wrap64 ((i : Int) + 1) = ((i + 1 : Nat) : Int) := by rw [w64 (by omega) (by omega)]; omega
    have ih := ref_values_l0 l hl m (i + 1) (acc ++ [(l[i]).f1]) (by omega) (by omega) (by simp; omega)
    rw [List.drop_eq_getElem_cons hlt, List.map_cons]
    rw [List.append_assoc] at ih
    refine Ev.step (fun k => ?_) ih
    rw [capstanref08_values.l0, rdS l i hlt, if_pos (by omega), if_pos (by omega), if_pos (by omega), e1]
theorem ref_values (l : List S50) (hl : l.length < 8796093022208) : Ev (fun k => capstanref08_values.f k l) (l.map (·.f1)) := by
  have h := ref_values_l0 l hl _ 0 [] rfl (by omega) (by simp)
  exact h

/-! By -/
def cnt (l : List Int) (p : Int → Bool) : Nat := (l.filter p).length
theorem cnt_take (l : List Int) (p : Int → Bool) (i : Nat) (h : i < l.length) : cnt (l.take (i + 1)) p = cnt (l.take i) p + if p l[i] then 1 else 0 := by
  unfold cnt
  rw [List.take_succ_eq_append_getElem h, List.filter_append, List.length_append]
  by_cases hp : p l[i] <;> simp [hp]
theorem cnt_le (l : List Int) (p : Int → Bool) : cnt l p ≤ l.length := List.length_filter_le _ _
theorem ref_At_l1 (l : List Int) (i : Int) (j : Nat) (hj : j < l.length) (hl : l.length < 4611686018427387904) : ∀ (m n : Nat), l.length - n = m → n ≤ l.length → ∀ r,
    Ev (fun k => if (cnt l (fun x => decide (x < l.getD j 0)) : Int) ≤ i ∧ i < (cnt l (fun x => decide (x < l.getD j 0)) : Int) + cnt l (fun x => decide (x = l.getD j 0)) then some (l.getD j 0, true) else capstanref07_At.l0 k l i ((j + 1 : Nat) : Int)) r →
    Ev (fun k => capstanref07_At.l1 k l i (j : Int) (cnt (l.take n) (fun x => decide (x < l.getD j 0)) : Int) (cnt (l.take n) (fun x => decide (x = l.getD j 0)) : Int) (n : Int)) r
  | 0, n, hm, hn, r, hr => by
    obtain rfl : n = l.length := by omega
    have b1 := cnt_le l (fun x => decide (x < l.getD j 0))
    have b2 := cnt_le l (fun x => decide (x = l.getD j 0))
    refine Ev.step (fun k => ?_) hr
    rw [capstanref07_At.l1, List.take_length, if_neg (by omega), w64 (x := (cnt l (fun x => decide (x < l.getD j 0)) : Int) + cnt l (fun x => decide (x = l.getD j 0))) (by omega) (by omega), w64 (x := (j : Int) + 1) (by omega) (by omega), rd_nat]
    by_cases h1 : (cnt l (fun x => decide (x < l.getD j 0)) : Int) ≤ i
    · rw [if_pos h1]
      by_cases h2 : i < (cnt l (fun x => decide (x < l.getD j 0)) : Int) + cnt l (fun x => decide (x = l.getD j 0))
      · rw [if_pos h2, if_pos (show (0 : Int) ≤ (j : Int) by omega), if_pos (show (j : Int) < (l.length : Int) by omega), if_pos (And.intro h1 h2)]
      · rw [if_neg h2, if_neg (fun h => h2 h.2)]
        rfl
    · rw [if_neg h1, if_neg (fun h => h1 h.1)]
      rfl
  | m + 1, n, hm, hn, r, hr => by
    have hlt : n < l.length := by omega
    have ih := ref_At_l1 l i j hj hl m (n + 1) (by omega) (by omega) r hr
    have b1 := cnt_le (l.take n) (fun x => decide (x < l.getD j 0))
    have b2 := cnt_le (l.take n) (fun x => decide (x = l.getD j 0))
    have b3 : (l.take n).length ≤ n := List.length_take_le _ _
    have e1 : wrap64 ((n : Int) + 1) = ((n + 1 : Nat) : Int) := by rw [w64 (by omega) (by omega)]; omega
    have e2 : wrap64 ((cnt (l.take n) (fun x => decide (x < l.getD j 0)) : Int) + 1) = ((cnt (l.take n) (fun x => decide (x < l.getD j 0)) + 1 : Nat) : Int) := by rw [w64 (by omega) (by omega)]; omega
    have e3 : wrap64 ((cnt (l.take n) (fun x => decide (x = l.getD j 0)) : Int) + 1) = ((cnt (l.take n) (fun x => decide (x = l.getD j 0)) + 1 : Nat) : Int) := by rw [w64 (by omega) (by omega)]; omega
    have g : l.getD n 0 = l[n] := by rw [List.getD_eq_getElem?_getD, List.getElem?_eq_getElem hlt]; rfl
    rw [cnt_take l _ n hlt, cnt_take l _ n hlt, ← g] at ih
    refine Ev.step (fun k => ?_) ih
    rw [capstanref07_At.l1, rd_nat, rd_nat, if_pos (by omega), if_pos (by omega), if_pos (by omega), if_pos (by omega), e1, e2, e3]
    by_cases h1 : l.getD n 0 < l.getD j 0
    · by_cases h2 : l.getD n 0 = l.getD j 0
      · omega
      · simp only [h1, h2, if_true, if_false, decide_true, decide_false, Bool.false_eq_true, Nat.add_zero]
    · by_cases h2 : l.getD n 0 = l.getD j 0
      · simp only [h1, h2, if_true, if_false, decide_true, decide_false, Bool.false_eq_true, Nat.add_zero, Int.lt_irrefl]
      · simp only [h1, h2, if_true, if_false, decide_true, decide_false, Bool.false_eq_true, Nat.add_zero]
/-- The numbers of a rising list that are lower, and no higher, than one of them. -/
theorem srt_at (l : List Int) (i : Nat) (hi : i < l.length) (v : Int) (h1 : cnt l (fun x => decide (x < v)) ≤ i) (h2 : i < cnt l (fun x => decide (x < v)) + cnt l (fun x => decide (x = v))) : (srt l).getD i 0 = v := by
  have hp := srt_perm l
  have hlen := srt_length l
  have hr := srt_rise l
  have c1 : cnt (srt l) (fun x => decide (x < v)) = cnt l (fun x => decide (x < v)) := (hp.filter _).length_eq
  have c2 : cnt (srt l) (fun x => decide (x = v)) = cnt l (fun x => decide (x = v)) := (hp.filter _).length_eq
  have c3 : cnt (srt l) (fun x => decide (x < v + 1)) = cnt (srt l) (fun x => decide (x < v)) + cnt (srt l) (fun x => decide (x = v)) := by
    generalize srt l = L
    induction L with
    | nil => rfl
    | cons a L ih =>
      unfold cnt at *
      simp only [List.filter_cons, decide_eq_true_eq]
      repeat' split
      all_goals try simp only [List.length_cons]
      all_goals omega
  have hg : (srt l)[i]? = some ((srt l).getD i 0) := by
    rw [List.getD_eq_getElem?_getD, List.getElem?_eq_getElem (by omega)]; rfl
  have k1 := lb_iff (srt l) v hr i _ hg
  have k2 := lb_iff (srt l) (v + 1) hr i _ hg
  have d1 : lb (srt l) v = cnt (srt l) (fun x => decide (x < v)) := rfl
  have d2 : lb (srt l) (v + 1) = cnt (srt l) (fun x => decide (x < v + 1)) := rfl
  omega
theorem srt_own (l : List Int) (i : Nat) (hi : i < l.length) : cnt l (fun x => decide (x < (srt l).getD i 0)) ≤ i ∧ i < cnt l (fun x => decide (x < (srt l).getD i 0)) + cnt l (fun x => decide (x = (srt l).getD i 0)) := by
  obtain ⟨v, hv⟩ : ∃ v, v = (srt l).getD i 0 := ⟨_, rfl⟩
  rw [← hv]
  have hp := srt_perm l
  have hlen := srt_length l
  have hr := srt_rise l
  have c1 : cnt (srt l) (fun x => decide (x < v)) = cnt l (fun x => decide (x < v)) := (hp.filter _).length_eq
  have c2 : cnt (srt l) (fun x => decide (x = v)) = cnt l (fun x => decide (x = v)) := (hp.filter _).length_eq
  have c3 : cnt (srt l) (fun x => decide (x < v + 1)) = cnt (srt l) (fun x => decide (x < v)) + cnt (srt l) (fun x => decide (x = v)) := by
    generalize srt l = L
    induction L with
    | nil => rfl
    | cons a L ih =>
      unfold cnt at *
      simp only [List.filter_cons, decide_eq_true_eq]
      repeat' split
      all_goals try simp only [List.length_cons]
      all_goals omega
  have hg : (srt l)[i]? = some v := by
    rw [hv, List.getD_eq_getElem?_getD, List.getElem?_eq_getElem (by omega)]; rfl
  have k1 := lb_iff (srt l) v hr i _ hg
  have k2 := lb_iff (srt l) (v + 1) hr i _ hg
  have d1 : lb (srt l) v = cnt (srt l) (fun x => decide (x < v)) := rfl
  have d2 : lb (srt l) (v + 1) = cnt (srt l) (fun x => decide (x < v + 1)) := rfl
  omega
theorem ref_At_l0 (l : List Int) (i : Nat) (hi : i < l.length) (hl : l.length < 4611686018427387904) : ∀ (m j : Nat), l.length - j = m → j ≤ l.length → (∃ n, j ≤ n ∧ n < l.length ∧ l.getD n 0 = (srt l).getD i 0) →
    Ev (fun k => capstanref07_At.l0 k l (i : Int) (j : Int)) ((srt l).getD i 0, true)
  | 0, j, hm, hj, ⟨n, h1, h2, h3⟩ => by omega
  | m + 1, j, hm, hj, ⟨n, h1, h2, h3⟩ => by
    have hlt : j < l.length := by omega
    refine Ev.step (f := fun k => capstanref07_At.l1 k l (i : Int) (j : Int) 0 0 0) (fun k => by rw [capstanref07_At.l0, if_pos (by omega)]) ?_
    have h0 := ref_At_l1 l (i : Int) j hlt hl l.length 0 (by omega) (by omega) ((srt l).getD i 0, true)
    refine h0 ?_
    clear h0
    by_cases hc : cnt l (fun x => decide (x < l.getD j 0)) ≤ i ∧ i < cnt l (fun x => decide (x < l.getD j 0)) + cnt l (fun x => decide (x = l.getD j 0))
    · have := srt_at l i hi _ hc.1 hc.2
      refine Ev.congr (f := fun _ => some ((srt l).getD i 0, true)) (fun k => ?_) (Ev.now _)
      rw [if_pos (by omega), this]
    · have hne : l.getD j 0 ≠ (srt l).getD i 0 := fun e => hc (by rw [e]; exact srt_own l i hi)
      have ih := ref_At_l0 l i hi hl m (j + 1) (by omega) (by omega) ⟨n, by
        rcases Nat.lt_or_eq_of_le h1 with h | h
        · omega
        · subst h; exact absurd h3 hne, h2, h3⟩
      refine Ev.congr (fun k => ?_) ih
      rw [if_neg (by omega)]
theorem ref_At (l : List Int) (i : Nat) (hi : i < l.length) (hl : l.length < 4611686018427387904) : Ev (fun k => capstanref07_At.f k l (i : Int)) ((srt l).getD i 0, true) := by
  have hmem : (srt l).getD i 0 ∈ l := by
    refine (srt_perm l).mem_iff.1 ?_
    rw [List.getD_eq_getElem?_getD, List.getElem?_eq_getElem (by rw [srt_length]; exact hi)]
    exact List.getElem_mem _
  obtain ⟨n, hn, hg⟩ := List.mem_iff_getElem.1 hmem
  have h := ref_At_l0 l i hi hl _ 0 rfl (by omega) ⟨n, by omega, hn, by rw [List.getD_eq_getElem?_getD, List.getElem?_eq_getElem hn]; exact hg⟩
  refine Ev.congr (f := fun k => capstanref07_At.j0 k l (i : Int) false) (fun k => ?_) (Ev.step (fun k => ?_) h)
  · unfold capstanref07_At.f
    rw [if_neg (by omega)]
    congr 1
    rw [decide_eq_false_iff_not]; omega
  · rw [capstanref07_At.j0, if_neg (by simp)]
    rfl
theorem ref_By_l0 (l : List Int) (p : Int) (hn : 0 < l.length) (hp : 1 ≤ p) (hp1 : p ≤ 100000000) (hl : l.length ≤ 4096) : ∀ (m j : Nat), (rankK l.length p + 1).toNat - j = m → (j : Int) ≤ rankK l.length p + 1 →
    Ev (fun k => capstanref07_By.l0 k l p (j : Int)) ((srt l).getD (rankK l.length p).toNat 0, true) := by
  have hk := rankK_bd l.length p hn hp hp1
  have h2 : (l.length : Int) * p ≤ 4096 * 100000000 := Int.mul_le_mul (by omega) hp1 (by omega) (by omega)
  have h3 : 1 * 1 ≤ (l.length : Int) * p := Int.mul_le_mul (by omega) hp (by omega) (by omega)
  have hr : rankK l.length p = ((l.length : Int) * p + 99999999) / 100000000 - 1 := rfl
  have hc : p * (l.length : Int) = (l.length : Int) * p := Int.mul_comm _ _
  intro m
  induction m with
  | zero =>
    intro j hm hj
    have hj' : (j : Int) = rankK l.length p + 1 := by omega
    have ha := ref_At l (rankK l.length p).toNat (by omega) (by omega)
    refine Ev.step (f := fun k => (capstanref07_At.f k l (((rankK l.length p).toNat : Nat) : Int)).bind fun t => some (t.1, t.2)) (fun k => ?_) (ha.bind (f := fun _ t => some (t.1, t.2)) (Ev.now _))
    rw [capstanref07_By.l0, hc, w64 (x := (l.length : Int) * p) (by omega) (by omega), w64 (x := (j : Int) * 100000000) (by omega) (by omega), w64 (x := (j : Int) - 1) (by omega) (by omega)]
    generalize (l.length : Int) * p = X at *
    rw [if_neg (by omega), show (j : Int) - 1 = (((rankK l.length p).toNat : Nat) : Int) by omega]
  | succ m ih =>
    intro j hm hj
    have h := ih (j + 1) (by omega) (by omega)
    refine Ev.step (fun k => ?_) h
    rw [capstanref07_By.l0, hc, w64 (x := (l.length : Int) * p) (by omega) (by omega), w64 (x := (j : Int) * 100000000) (by omega) (by omega), w64 (x := (j : Int) + 1) (by omega) (by omega)]
    generalize (l.length : Int) * p = X at *
    rw [if_pos (by omega)]
    rfl
theorem ref_By (l : List Int) (p : Int) (hn : 0 < l.length) (hp : 1 ≤ p) (hp1 : p ≤ 100000000) (hl : l.length ≤ 4096) : Ev (fun k => capstanref07_By.f k l p) ((srt l).getD (rankK l.length p).toNat 0, true) := by
  have hk := rankK_bd l.length p hn hp hp1
  have h := ref_By_l0 l p hn hp hp1 hl _ 0 rfl (by omega)
  refine Ev.congr (f := fun k => capstanref07_By.j0 k l p false) (fun k => ?_) (Ev.step (fun k => ?_) h)
  · unfold capstanref07_By.f
    rw [if_neg (by omega), if_neg (by omega)]
    congr 1
    rw [decide_eq_false_iff_not]; omega
  · rw [capstanref07_By.j0, if_neg (by simp)]
    rfl

/-! Best -/
theorem ref_beats (high : Bool) (a b : Int) : capstanref06_beats.f high a b = some (mbeats high a b) := by
  unfold capstanref06_beats.f mbeats
  cases high <;> simp
theorem ref_Best_l0 (high : Bool) (l : List Int) (hl : l.length < 4611686018427387904) : ∀ (m i : Nat) (b : Int), l.length - i = m → i ≤ l.length → b ∈ l → (∀ y ∈ l.take i, mbeats high y b = false) →
    ∃ v, Ev (fun k => capstanref06_Best.l0 k high l b (i : Int)) (v, true) ∧ v ∈ l ∧ ∀ y ∈ l, mbeats high y v = false
  | 0, i, b, hm, hi, hb, hy => by
    obtain rfl : i = l.length := by omega
    rw [List.take_length] at hy
    exact ⟨b, Ev.step (f := fun _ => some (b, true)) (fun k => by rw [capstanref06_Best.l0, if_neg (by omega)]) (Ev.now _), hb, hy⟩
  | m + 1, i, b, hm, hi, hb, hy => by
    have hlt : i < l.length := by omega
    have g : l.getD i 0 = l[i] := by rw [List.getD_eq_getElem?_getD, List.getElem?_eq_getElem hlt]; rfl
    have e1 : wrap64 ((i : Int) + 1) = ((i + 1 : Nat) : Int) := by rw [w64 (by omega) (by omega)]; omega
    by_cases hbt : mbeats high l[i] b = true
    · obtain ⟨v, h1, h2⟩ := ref_Best_l0 high l hl m (i + 1) l[i] (by omega) (by omega) (List.getElem_mem hlt) (by
        intro y hy'
        rw [List.take_succ_eq_append_getElem hlt] at hy'
        rcases List.mem_append.1 hy' with h | h
        · have := hy y h
          cases hyb : mbeats high y l[i]
          · rfl
          · exact absurd (mbeats_trans hyb hbt) (by rw [this]; simp)
        · simp at h
          subst h
          unfold mbeats
          cases high <;> simp)
      refine ⟨v, Ev.step (fun k => ?_) h1, h2⟩
      rw [capstanref06_Best.l0, rd_nat, g, ref_beats, hbt, if_pos (by omega), if_pos (by omega), e1]
      rfl
    · obtain ⟨v, h1, h2⟩ := ref_Best_l0 high l hl m (i + 1) b (by omega) (by omega) hb (by
        intro y hy'
        rw [List.take_succ_eq_append_getElem hlt] at hy'
        rcases List.mem_append.1 hy' with h | h
        · exact hy y h
        · simp at h
          subst h
          simpa using hbt)
      refine ⟨v, Ev.step (fun k => ?_) h1, h2⟩
      rw [capstanref06_Best.l0, rd_nat, g, ref_beats, if_pos (by omega), if_pos (by omega), e1]
      simp only [Option.bind_some]
      rw [if_neg hbt]
theorem mbest_spec (high : Bool) : ∀ (l : List Int), l ≠ [] → mbest high l ∈ l ∧ ∀ y ∈ l, mbeats high y (mbest high l) = false := by
  intro l hl
  have hne := mq_ne high l 0 hl
  obtain ⟨x, r, hx⟩ := List.exists_cons_of_ne_nil hne
  have hb : mbest high l = x.1 := by unfold mbest; rw [hx]; rfl
  rw [hb]
  refine ⟨mq_mem high l 0 x (by rw [hx]; exact List.mem_cons_self), ?_⟩
  have key : ∀ (l : List Int) (i : Int) (x : Int × Int) (r : List (Int × Int)), mq high i l = x :: r → ∀ y ∈ l, mbeats high y x.1 = false := by
    intro l
    induction l with
    | nil => intro i x r h; simp [mq] at h
    | cons v l ih =>
      intro i x r h y hy
      rw [mq] at h
      split at h
      · rename_i hall
        simp only [List.cons.injEq] at h
        obtain ⟨rfl, _⟩ := h
        rcases List.mem_cons.1 hy with rfl | hy
        · unfold mbeats; cases high <;> simp
        · have := List.all_eq_true.1 hall y hy
          revert this
          unfold mbeats
          cases high <;> simp <;> omega
      · rename_i hall
        rcases List.mem_cons.1 hy with rfl | hy
        · have hx1 := ih (i + 1) x r h
          obtain ⟨z, hz, hzz⟩ : ∃ z ∈ l, mbeats high y z = false := by
            simpa using hall
          have := hx1 z hz
          revert this hzz
          unfold mbeats
          cases high <;> simp <;> omega
        · exact ih (i + 1) x r h y hy
  exact key l 0 x r hx
theorem ref_Best (high : Bool) (l : List Int) (hne : l ≠ []) (hl : l.length < 4611686018427387904) : Ev (fun k => capstanref06_Best.f k high l) (mbest high l, true) := by
  have hp : 0 < l.length := List.length_pos_iff.2 hne
  have g : l.getD 0 0 = l[0] := by rw [List.getD_eq_getElem?_getD, List.getElem?_eq_getElem hp]; rfl
  obtain ⟨v, h1, h2, h3⟩ := ref_Best_l0 high l hl _ 1 l[0] rfl (by omega) (List.getElem_mem hp) (by
    intro y hy
    rw [List.take_succ_eq_append_getElem hp] at hy
    simp at hy
    subst hy
    unfold mbeats; cases high <;> simp)
  obtain ⟨m1, m2⟩ := mbest_spec high l hne
  have e : v = mbest high l := by
    have a1 := m2 v h2
    have a2 := h3 _ m1
    revert a1 a2
    unfold mbeats
    cases high <;> simp <;> omega
  subst e
  refine Ev.congr (fun k => ?_) h1
  unfold capstanref06_Best.f
  rw [if_neg (by omega), if_pos (by omega), show (rd l 0 : Int) = l[0] by rw [← g]; exact rd_nat l 0]
  rfl
end Go.Proofs.Ytfhhdlpglfjdgaa
