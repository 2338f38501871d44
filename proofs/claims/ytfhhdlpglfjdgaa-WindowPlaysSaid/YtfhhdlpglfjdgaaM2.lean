/- Texts of mine, put together: MonoC, FixA, DivP, Shelf, DivA, DivB, FixB, FixC, RankA. -/
import Derived.Test.YtfhhdlpglfjdgaaM1
import GoSem.Core.Code
import Derived.Lib.BitFns
import Derived.Shelf.Small.Bits
import Derived.Shelf.Strconv.Itoa0
import Derived.Shelf.Bits.Mul64
import Derived.Test.YtfhhdlpglfjdgaaProg
import Derived.Laws.BitsAllLaws
import Derived.Lib.ItoaNum
import Derived.Laws.MathBits
/- Contracts of package mono: Take; and all of them told by footprints. -/
set_option linter.unusedVariables false
set_option linter.unusedSimpArgs false
namespace Go.Proofs.Ytfhhdlpglfjdgaa
open Go.RowKit

theorem setCell_drewN (w : World) (a : Addr) (v : Value) : ∀ n, (w.drewN n).setCell a v = (w.setCell a v).drewN n := fun _ => rfl

theorem mono_Take_none (g : Nat) (high : Bool) (come : Int) (v : Value) (w : World) (h : MonoBlk w g high come come v) (h0 : 0 ≤ come) (h2 : come ≤ 9223372036854775807) :
    Calls Try.prog 55 #[.pointer (some ⟨g, 0, none⟩)] w fun e w' => e = .returned (.bool false) ∧ Below w.heap.size w w' := by
  have hL := fun w h => mono_Len g high come come v w h h0 (Int.le_refl _) h2
  have HL := Lib.hid hL
  have H := Lib.hid h
  clear hL h
  go_enter Try.func55, Try.ntmps55
  go_wp2_with fail
  refine (HL.out _ H.out).mono ?_
  rintro e w1 ⟨rfl, n, rfl⟩
  go_wp2
  go_ret
  exact ⟨rfl, below_drewN _ _⟩

set_option maxHeartbeats 1600000 in
theorem mono_Take_keep (g h off n cap : Nat) (high : Bool) (come left a : Int) (w : World) (hm : MonoBlk w g high come left (.slice (some ⟨h, off, none⟩) n cap)) (hn : 0 < n) (h0 : 0 ≤ left) (h1 : left < come) (h2 : come ≤ 4611686018427387904)
    (hc : w.cell? ⟨h, off + 1, none⟩ = some (.int .i64 a)) (ha : a ≠ left) :
    Calls Try.prog 55 #[.pointer (some ⟨g, 0, none⟩)] w fun e w' => e = .returned (.bool true) ∧ ∃ n, w' = (w.setCell ⟨g, 2, none⟩ (.int .i64 (left + 1))).drewN n := by
  have hL := fun w h' => mono_Len g high come left (.slice (some ⟨h, off, none⟩) n cap) w h' h0 (by omega) (by omega)
  have HL := Lib.hid hL
  have H := Lib.hid hm
  have c2 := hb_cell hm 2
  have c3 := hb_cell hm 3
  have f2 := hb_free hm 2
  simp only [List.getElem?_toArray, List.getElem?_cons_zero, List.getElem?_cons_succ] at c2 c3
  have ht : (come - left == 0) = false := by simp; omega
  have hna : (a == left) = false := by simp; omega
  have hnp : decide (0 < (n : Int)) = true := by simp; omega
  clear hL hm ha
  go_enter Try.func55, Try.ntmps55
  go_wp2_with fail
  refine (HL.out _ H.out).mono ?_
  rintro e w1 ⟨rfl, m, rfl⟩
  go_wp2
  go_quiet (fail)
  go_wp2
  go_ret
  exact ⟨rfl, m + nq, by first | rfl | rw [World.drewN_drewN, setCell_drewN]⟩

set_option maxHeartbeats 1600000 in
theorem mono_Take_drop (g h off n cap : Nat) (high : Bool) (come left : Int) (w : World) (hm : MonoBlk w g high come left (.slice (some ⟨h, off, none⟩) n cap)) (hn : 0 < n) (hnc : n ≤ cap) (hcm : cap ≤ maxLen) (h0 : 0 ≤ left) (h1 : left < come) (h2 : come ≤ 4611686018427387904)
    (hc : w.cell? ⟨h, off + 1, none⟩ = some (.int .i64 left)) :
    Calls Try.prog 55 #[.pointer (some ⟨g, 0, none⟩)] w fun e w' => e = .returned (.bool true) ∧ ∃ m, w' = ((w.setCell ⟨g, 3, none⟩ (if cap = 1 then .slice (some ⟨h, off, none⟩) 0 0 else .slice (some ⟨h, off + 1 * 2, none⟩) (n - 1) (cap - 1))).setCell ⟨g, 2, none⟩ (.int .i64 (left + 1))).drewN m := by
  have hL := fun w h' => mono_Len g high come left (.slice (some ⟨h, off, none⟩) n cap) w h' h0 (by omega) (by omega)
  have HL := Lib.hid hL
  have H := Lib.hid hm
  have c2 := hb_cell hm 2
  have c3 := hb_cell hm 3
  have f2 := hb_free hm 2
  have f3 := hb_free hm 3
  simp only [List.getElem?_toArray, List.getElem?_cons_zero, List.getElem?_cons_succ] at c2 c3
  have ht : (come - left == 0) = false := by simp; omega
  have hna : (left == left) = true := by simp
  have hnp : decide (0 < (n : Int)) = true := by simp; omega
  have hci : (n : Int) ≤ cap := by omega
  have hni : (1 : Int) ≤ n := by omega
  unfold maxLen at hcm
  clear hL hm
  by_cases hcap : cap = 1
  · subst hcap
    obtain rfl : n = 1 := by omega
    rw [if_pos rfl]
    go_enter Try.func55, Try.ntmps55
    go_wp2_with fail
    refine (HL.out _ H.out).mono ?_
    rintro e w1 ⟨rfl, m, rfl⟩
    go_wp2
    go_quiet (fail)
    go_wp2
    go_region
    all_goals
      go_wp2
      go_ret
      exact ⟨rfl, _, rfl⟩
  · have hcap1 : ¬ cap ≤ 1 := by omega
    rw [if_neg hcap]
    go_enter Try.func55, Try.ntmps55
    go_wp2_with fail
    refine (HL.out _ H.out).mono ?_
    rintro e w1 ⟨rfl, m, rfl⟩
    go_wp2
    go_quiet (fail)
    go_wp2
    go_region
    all_goals
      go_wp2
      go_ret
      exact ⟨rfl, _, rfl⟩

/-- A Mono at block g. -/
def MonoAt (w : World) (F : Nat → Prop) (g : Nat) (high : Bool) (come left : Int) (l : List (Int × Int)) : Prop :=
  F g ∧ (∀ k, F k → k < w.heap.size) ∧ ∃ v, MonoBlk w g high come left v ∧ RowQ w 0 101 2 v l.length (kc l) ∧ v.ownBlock ≠ some g ∧ ∀ k, v.ownBlock = some k → F k
theorem MonoAt.keep {w w' : World} {F : Nat → Prop} {g : Nat} {high : Bool} {come left : Int} {l : List (Int × Int)} (h : MonoAt w F g high come left l) (hk : ∀ k, F k → w'.heap[k]? = w.heap[k]?) (hs : w.heap.size ≤ w'.heap.size) : MonoAt w' F g high come left l := by
  obtain ⟨h1, h2, v, h3, h4, h5, h6⟩ := h
  exact ⟨h1, fun k hk' => Nat.lt_of_lt_of_le (h2 k hk') hs, v, (hk g h1).trans h3, h4.keep (fun k hk' => hk k (h6 k hk')), h5, h6⟩

theorem mono_Put_at (F : Nat → Prop) (g : Nat) (high : Bool) (come left v : Int) (l : List (Int × Int)) (w : World) (hm : MonoAt w F g high come left l) (h0 : 0 ≤ come) (h2 : come ≤ 4611686018427387904) (hl : l.length ≤ 4294967296) :
    Calls Try.prog 36 #[.pointer (some ⟨g, 0, none⟩), .int .i64 v] w fun e w' => e = .returned (.tuple #[]) ∧ ∃ F', Ext F F' w w' ∧ Fr F w w' ∧ MonoAt w' F' g high (come + 1) left (l.take (mcut high v l l.length) ++ [(v, come)]) := by
  obtain ⟨hg, hF, v0, hb, hq, hne, hown⟩ := hm
  have key : ∀ w', MonoPut w w' g 0 high (come + 1) left (l.take (mcut high v l l.length) ++ [(v, come)]) v0 → ∃ F', Ext F F' w w' ∧ Fr F w w' ∧ MonoAt w' F' g high (come + 1) left (l.take (mcut high v l l.length) ++ [(v, come)]) := by
    rintro w' ⟨h, off, cap, w1, hq1, hgr, hor, rfl⟩
    have hgs := hF g hg
    have hblk : w1.heap[g]? = _ := (hgr.block g hgs (fun e => hne e.symm)).trans hb
    have hh : h < w1.heap.size := (hq1.lt h rfl).2
    have hhg : h ≠ g := by rintro rfl; exact hor.elim hne (fun x => by omega)
    refine ⟨fun k => F k ∨ k = h, ?_, ?_, .inl hg, ?_, .slice (some ⟨h, off, none⟩) (l.take (mcut high v l l.length) ++ [(v, come)]).length cap, ?_, ?_, ?_, ?_⟩
    · intro k hk
      rcases hk with hk | rfl
      · exact .inl hk
      · rcases hor with e | e
        · exact .inl (hown _ e)
        · exact .inr ⟨e, by simpa [World.setCell] using hh⟩
    · exact ((Fr.grown hgr hown).setCell (.inl hg) _).setCell (.inl hg) _
    · intro k hk
      simp only [World.size_setCell]
      rcases hk with hk | rfl
      · exact Nat.lt_of_lt_of_le (hF k hk) hgr.size
      · exact hh
    · have := hb_set (hb_set hblk 3 (.slice (some ⟨h, off, none⟩) (l.take (mcut high v l l.length) ++ [(v, come)]).length cap)) 1 (.int .i64 (come + 1))
      simpa [MonoBlk] using this
    · refine hq1.keep fun k hk => ?_
      have : k = h := by simpa [Value.ownBlock] using hk.symm
      subst this
      rw [Below.heap_setCell _ _ _ _ (by exact hhg), Below.heap_setCell _ _ _ _ (by exact hhg)]
    · simpa [Value.ownBlock] using hhg
    · intro k hk
      exact .inr (by simpa [Value.ownBlock] using hk.symm)
  rcases hq.2 with ⟨rfl, hn⟩ | ⟨h, off, cap, cur, rfl, _, hh, hnc, hcm, hcs, hr⟩
  · obtain rfl : l = [] := List.eq_nil_of_length_eq_zero hn
    refine (mono_Put_none g 0 high come left v w hb (Nat.zero_le _) h0 h2).mono ?_
    rintro e w' ⟨rfl, hp⟩
    exact ⟨rfl, key w' hp⟩
  · refine (mono_Put_some g 0 h off cap high come left v l w hb hq (by simpa [Value.ownBlock] using hne) (Nat.zero_le _) h0 h2 hl hnc hcm (fun j u hj => by rw [hb_cell hh]; exact hr j u hj)).mono ?_
    rintro e w' ⟨rfl, hp⟩
    exact ⟨rfl, key w' hp⟩

theorem mono_Take_at (F : Nat → Prop) (g : Nat) (high : Bool) (come left : Int) (x : Int × Int) (l : List (Int × Int)) (w : World) (hm : MonoAt w F g high come left (x :: l)) (h0 : 0 ≤ left) (h1 : left < come) (h2 : come ≤ 4611686018427387904) :
    Calls Try.prog 55 #[.pointer (some ⟨g, 0, none⟩)] w fun e w' => e = .returned (.bool true) ∧ Fr F w w' ∧ MonoAt w' F g high come (left + 1) (if x.2 = left then l else x :: l) := by
  obtain ⟨hg, hF, v0, hb, hq, hne, hown⟩ := hm
  rcases hq.2 with ⟨rfl, hn⟩ | ⟨h, off, cap, cur, rfl, hbase, hh, hnc, hcm, hcs, hr⟩
  · simp at hn
  · have hgk := kc_get (x :: l) 0 x rfl
    have hc1 : w.cell? ⟨h, off + 1, none⟩ = some (.int .i64 x.2) := by rw [hb_cell hh]; exact hr 1 _ hgk.2
    have hhg : h ≠ g := by simpa [Value.ownBlock] using hne
    have hhF : F h := hown h rfl
    by_cases hx : x.2 = left
    · rw [if_pos hx]
      refine (mono_Take_drop g h off (x :: l).length cap high come left w hb (by simp) hnc hcm h0 h1 h2 (by rw [hc1, hx])).mono ?_
      rintro e w' ⟨rfl, m, rfl⟩
      refine ⟨rfl, (((Fr.refl F w).setCell (.inl hg) _).setCell (.inl hg) _).drewN _, hg, by simpa [World.setCell] using hF, (if cap = 1 then .slice (some ⟨h, off, none⟩) 0 0 else .slice (some ⟨h, off + 1 * 2, none⟩) ((x :: l).length - 1) (cap - 1)), ?_, ?_, ?_, ?_⟩
      · have := hb_set (hb_set hb 3 (if cap = 1 then .slice (some ⟨h, off, none⟩) 0 0 else .slice (some ⟨h, off + 1 * 2, none⟩) ((x :: l).length - 1) (cap - 1))) 2 (.int .i64 (left + 1))
        exact this
      · have hkeep : ∀ {v : Value} {n xs}, RowQ w 0 101 2 v n xs → v.ownBlock = some h → RowQ (((w.setCell ⟨g, 3, none⟩ (if cap = 1 then .slice (some ⟨h, off, none⟩) 0 0 else .slice (some ⟨h, off + 1 * 2, none⟩) ((x :: l).length - 1) (cap - 1))).setCell ⟨g, 2, none⟩ (.int .i64 (left + 1))).drewN m) 0 101 2 v n xs := by
          intro v n xs hv he
          refine RowQ.drewN (hv.keep fun k hk => ?_) m
          have : k = h := by rw [he] at hk; simpa using hk.symm
          subst this
          rw [Below.heap_setCell _ _ _ _ (by exact hhg), Below.heap_setCell _ _ _ _ (by exact hhg)]
        by_cases hcap : cap = 1
        · have hl0 : l = [] := by
            cases l with
            | nil => rfl
            | cons a b => simp at hnc; omega
          subst hl0
          rw [if_pos hcap] at *
          exact hkeep hq.empty rfl
        · rw [if_neg hcap] at *
          have := hq.drop (k := 1) (by simp)
          rw [kc_drop] at this
          exact hkeep this rfl
      · split <;> simpa [Value.ownBlock] using hhg
      · intro k hk
        have : k = h := by split at hk <;> simpa [Value.ownBlock] using hk.symm
        subst this
        exact hhF
    · rw [if_neg hx]
      refine (mono_Take_keep g h off (x :: l).length cap high come left x.2 w hb (by simp) h0 h1 h2 hc1 hx).mono ?_
      rintro e w' ⟨rfl, m, rfl⟩
      refine ⟨rfl, ((Fr.refl F w).setCell (.inl hg) _).drewN _, hg, by simpa [World.setCell] using hF, .slice (some ⟨h, off, none⟩) (x :: l).length cap, ?_, ?_, hne, hown⟩
      · have := hb_set hb 2 (.int .i64 (left + 1))
        exact this
      · refine RowQ.drewN (hq.keep fun k hk => ?_) m
        have : k = h := by simpa [Value.ownBlock] using hk.symm
        subst this
        rw [Below.heap_setCell _ _ _ _ (by exact hhg)]
end Go.Proofs.Ytfhhdlpglfjdgaa
/- Contracts of package fix's words: 128 bits in two words, told by one whole number. -/
set_option linter.unusedVariables false
set_option linter.unusedSimpArgs false
namespace Go.Proofs.Ytfhhdlpglfjdgaa
open Go.RowKit

/-- The low and the high word of a number. -/
def wLo (n : Int) : Int := n % 18446744073709551616
def wHi (n : Int) : Int := n / 18446744073709551616 % 18446744073709551616
theorem wLo_bd (n : Int) : 0 ≤ wLo n ∧ wLo n ≤ 18446744073709551615 := by unfold wLo; omega
theorem wHi_bd (n : Int) : 0 ≤ wHi n ∧ wHi n ≤ 18446744073709551615 := by unfold wHi; omega
/-- An int64. -/
def I64 (n : Int) : Prop := -9223372036854775808 ≤ n ∧ n ≤ 9223372036854775807
/-- A number held at the ends of int64. -/
def heldI (n : Int) : Int := if n < -9223372036854775808 then -9223372036854775808 else if 9223372036854775807 < n then 9223372036854775807 else n
theorem heldI_bd (n : Int) : I64 (heldI n) := by unfold heldI I64; split <;> (try split) <;> omega
theorem heldI_of (n : Int) (h : I64 n) : heldI n = n := by unfold I64 at h; unfold heldI; rw [if_neg (by omega), if_neg (by omega)]
def fitB (n : Int) : Bool := decide (-9223372036854775808 ≤ n ∧ n ≤ 9223372036854775807)

theorem run_Add64 (x y c : Int) (w : World) (hx : 0 ≤ x) (hy : 0 ≤ y) (hc : 0 ≤ c) (hc1 : c ≤ 1) :
    (callFunc 71 #[.int .u64 x, .int .u64 y, .int .u64 c]).run Try.prog w =
      .ok (.value (.tuple #[.int .u64 ((x + y + c) % 18446744073709551616), .int .u64 ((x + y + c) / 18446744073709551616)])) w := by
  obtain ⟨x, rfl⟩ := Int.eq_ofNat_of_zero_le hx
  obtain ⟨y, rfl⟩ := Int.eq_ofNat_of_zero_le hy
  obtain ⟨c, rfl⟩ := Int.eq_ofNat_of_zero_le hc
  have h1 : c ≤ 1 := by omega
  rw [run_callFunc_extern (e := fun args => do
    let (x, y, c) ← Extern.MathBitsCarry.three "Add64" args
    pure (Extern.MathBitsCarry.pair ((x + y + c) % Extern.MathBitsCarry.m64) ((x + y + c) / Extern.MathBitsCarry.m64))) Try.func71 (by kernel_rfl) (by kernel_rfl) (by kernel_rfl) (by kernel_rfl)]
  have : c = 0 ∨ c = 1 := by omega
  rcases this with rfl | rfl <;> rfl

theorem run_Sub64 (x y c : Int) (w : World) (hx : 0 ≤ x) (hy : 0 ≤ y) (hx1 : x ≤ 18446744073709551615) (hy1 : y ≤ 18446744073709551615) (hc : 0 ≤ c) (hc1 : c ≤ 1) :
    (callFunc 79 #[.int .u64 x, .int .u64 y, .int .u64 c]).run Try.prog w =
      .ok (.value (.tuple #[.int .u64 ((x - y - c) % 18446744073709551616), .int .u64 (-((x - y - c) / 18446744073709551616))])) w := by
  obtain ⟨x, rfl⟩ := Int.eq_ofNat_of_zero_le hx
  obtain ⟨y, rfl⟩ := Int.eq_ofNat_of_zero_le hy
  obtain ⟨c, rfl⟩ := Int.eq_ofNat_of_zero_le hc
  have h1 : c ≤ 1 := by omega
  rw [run_callFunc_extern (e := fun args => do
    let (x, y, b) ← Extern.MathBitsCarry.three "Sub64" args
    pure (Extern.MathBitsCarry.pair ((x + Extern.MathBitsCarry.m64 - y - b) % Extern.MathBitsCarry.m64) (if x < y + b then 1 else 0))) Try.func79 (by kernel_rfl) (by kernel_rfl) (by kernel_rfl) (by kernel_rfl)]
  have e1 : ∀ b : Nat, b ≤ 1 → (((x + 18446744073709551616 - y - b) % 18446744073709551616 : Nat) : Int) = ((x : Int) - y - b) % 18446744073709551616 := by intro b hb; omega
  have e2 : ∀ b : Nat, b ≤ 1 → ((if x < y + b then 1 else 0 : Nat) : Int) = -(((x : Int) - y - b) / 18446744073709551616) := by intro b hb; split <;> omega
  have : c = 0 ∨ c = 1 := by omega
  rcases this with rfl | rfl
  · exact congrArg (fun t => Result.ok (Next.value t) w) (congr (congrArg (fun a b => Value.tuple #[.int .u64 a, .int .u64 b]) (e1 0 (by omega))) (e2 0 (by omega)))
  · exact congrArg (fun t => Result.ok (Next.value t) w) (congr (congrArg (fun a b => Value.tuple #[.int .u64 a, .int .u64 b]) (e1 1 (by omega))) (e2 1 (by omega)))

set_option maxHeartbeats 400000 in
theorem words_plus_raw (l0 h0 l1 h1 d c g f : Int) (w : World) (hA : ∀ w, (callFunc 71 #[.int .u64 l0, .int .u64 l1, .int .u64 0]).run Try.prog w = .ok (.value (.tuple #[.int .u64 d, .int .u64 c])) w)
    (hB : ∀ w, (callFunc 71 #[.int .u64 h0, .int .u64 h1, .int .u64 c]).run Try.prog w = .ok (.value (.tuple #[.int .u64 g, .int .u64 f])) w) :
    Calls Try.prog 57 #[.agg #[.int .u64 l0, .int .u64 h0], .agg #[.int .u64 l1, .int .u64 h1]] w fun e w' => e = .returned (.agg #[.int .u64 d, .int .u64 g]) ∧ Below w.heap.size w w' := by
  go_enter Try.func57, Try.ntmps57
  go_wp2
  exact bodyPost_ret (v := .agg #[.int .u64 d, .int .u64 g]) (by simp [results, Try.results57, go_sem]) rfl ⟨rfl, below3 _ _ _ _⟩
theorem words_plus (l0 h0 l1 h1 a b : Int) (w : World) (e0 : l0 = wLo a) (e1 : h0 = wHi a) (e2 : l1 = wLo b) (e3 : h1 = wHi b) :
    Calls Try.prog 57 #[.agg #[.int .u64 l0, .int .u64 h0], .agg #[.int .u64 l1, .int .u64 h1]] w fun e w' => e = .returned (.agg #[.int .u64 (wLo (a + b)), .int .u64 (wHi (a + b))]) ∧ Below w.heap.size w w' := by
  have ba := wLo_bd a
  have bb := wLo_bd b
  have ca := wHi_bd a
  have cb := wHi_bd b
  refine (words_plus_raw l0 h0 l1 h1 _ _ _ _ w (fun w => run_Add64 l0 l1 0 w (by omega) (by omega) (by omega) (by omega)) (fun w => run_Add64 h0 h1 _ w (by omega) (by omega) (by omega) (by omega))).mono ?_
  rintro e w' ⟨rfl, hb⟩
  refine ⟨ret_agg2 ?_ ?_, hb⟩
  · rw [e0, e2]; unfold wLo; omega
  · rw [e0, e1, e2, e3]; unfold wLo wHi; omega

set_option maxHeartbeats 400000 in
theorem words_minus_raw (l0 h0 d c g f : Int) (w : World) (hA : ∀ w, (callFunc 79 #[.int .u64 0, .int .u64 l0, .int .u64 0]).run Try.prog w = .ok (.value (.tuple #[.int .u64 d, .int .u64 c])) w)
    (hB : ∀ w, (callFunc 79 #[.int .u64 0, .int .u64 h0, .int .u64 c]).run Try.prog w = .ok (.value (.tuple #[.int .u64 g, .int .u64 f])) w) :
    Calls Try.prog 68 #[.agg #[.int .u64 l0, .int .u64 h0]] w fun e w' => e = .returned (.agg #[.int .u64 d, .int .u64 g]) ∧ Below w.heap.size w w' := by
  go_enter Try.func68, Try.ntmps68
  go_wp2
  exact bodyPost_ret (v := .agg #[.int .u64 d, .int .u64 g]) (by simp [results, Try.results68, go_sem]) rfl ⟨rfl, below2 _ _ _⟩
theorem words_minus (l0 h0 a : Int) (w : World) (e0 : l0 = wLo a) (e1 : h0 = wHi a) :
    Calls Try.prog 68 #[.agg #[.int .u64 l0, .int .u64 h0]] w fun e w' => e = .returned (.agg #[.int .u64 (wLo (-a)), .int .u64 (wHi (-a))]) ∧ Below w.heap.size w w' := by
  have ba := wLo_bd a
  have ca := wHi_bd a
  refine (words_minus_raw l0 h0 _ _ _ _ w (fun w => run_Sub64 0 l0 0 w (by omega) (by omega) (by omega) (by omega) (by omega) (by omega)) (fun w => run_Sub64 0 h0 _ w (by omega) (by omega) (by omega) (by omega) (by omega) (by omega))).mono ?_
  rintro e w' ⟨rfl, hb⟩
  refine ⟨ret_agg2 ?_ ?_, hb⟩
  · rw [e0]; unfold wLo; omega
  · rw [e0, e1]; unfold wLo wHi; omega


set_option maxHeartbeats 400000 in
theorem words_of (v : Int) (w : World) (hv : I64 v) :
    Calls Try.prog 58 #[.int .i64 v] w fun e w' => e = .returned (.agg #[.int .u64 (wLo v), .int .u64 (wHi v)]) ∧ Below w.heap.size w w' := by
  unfold I64 at hv
  obtain ⟨hv0, hv1⟩ := hv
  go_enter Try.func58, Try.ntmps58
  go_wp2
  refine bodyPost_ret (v := .agg #[.int .u64 (IntKind.u64.wrap v), .int .u64 (IntKind.u64.wrap (v / 9223372036854775808))]) (by simp [results, Try.results58, go_sem]) rfl ⟨ret_agg2 ?_ ?_, below1 _ _⟩
  · rw [IntKind.wrap_u64]; unfold wLo; omega
  · rw [IntKind.wrap_u64]; unfold wHi; omega

set_option maxHeartbeats 400000 in
theorem words_below_raw (l0 h0 : Int) (w : World) :
    Calls Try.prog 69 #[.agg #[.int .u64 l0, .int .u64 h0]] w fun e w' => e = .returned (.bool (decide (wrap64 h0 < 0))) ∧ Below w.heap.size w w' := by
  go_enter Try.func69, Try.ntmps69
  go_wp2
  go_ret
  exact ⟨rfl, below1 _ _⟩
def I128 (a : Int) : Prop := -170141183460469231731687303715884105728 ≤ a ∧ a ≤ 170141183460469231731687303715884105727
theorem words_below (b : Bool) (l0 h0 a : Int) (w : World) (e1 : h0 = wHi a) (ha : I128 a) (hb : b = decide (a < 0)) :
    Calls Try.prog 69 #[.agg #[.int .u64 l0, .int .u64 h0]] w fun e w' => e = .returned (.bool b) ∧ Below w.heap.size w w' := by
  refine (words_below_raw l0 h0 w).mono ?_
  rintro e w' ⟨rfl, hw⟩
  refine ⟨ret_bool ?_, hw⟩
  rw [hb, e1]
  unfold I128 at ha
  unfold wHi wrap64
  rw [decide_eq_decide]
  omega

set_option maxHeartbeats 400000 in
theorem words_fit_raw (l0 h0 : Int) (w : World) :
    Calls Try.prog 66 #[.agg #[.int .u64 l0, .int .u64 h0]] w fun e w' => e = .returned (.tuple #[.int .i64 (wrap64 l0), .bool (h0 == IntKind.u64.wrap (wrap64 l0 / 9223372036854775808))]) ∧ Below w.heap.size w w' := by
  go_enter Try.func66, Try.ntmps66
  go_wp2
  go_quiet (fail)
  go_wp2
  go_ret2
  exact ⟨rfl, below_up (below1 _ _) (below_drewN _ _)⟩
theorem words_fit_yes (l0 h0 a : Int) (w : World) (e0 : l0 = wLo a) (e1 : h0 = wHi a) (h : I64 a) :
    Calls Try.prog 66 #[.agg #[.int .u64 l0, .int .u64 h0]] w fun e w' => e = .returned (.tuple #[.int .i64 a, .bool true]) ∧ Below w.heap.size w w' := by
  refine (words_fit_raw l0 h0 w).mono ?_
  rintro e w' ⟨rfl, hb⟩
  unfold I64 at h
  have hw : wrap64 l0 = a := by rw [e0]; unfold wLo wrap64; omega
  refine ⟨ret_ib hw ?_, hb⟩
  rw [hw, e1, IntKind.wrap_u64]
  unfold wHi
  rw [beq_iff_eq]
  omega
theorem words_fit_no (l0 h0 a : Int) (w : World) (e0 : l0 = wLo a) (e1 : h0 = wHi a) (h : ¬ I64 a) (h128 : I128 a) :
    Calls Try.prog 66 #[.agg #[.int .u64 l0, .int .u64 h0]] w fun e w' => e = .returned (.tuple #[.int .i64 (wrap64 l0), .bool false]) ∧ Below w.heap.size w w' := by
  refine (words_fit_raw l0 h0 w).mono ?_
  rintro e w' ⟨rfl, hb⟩
  unfold I64 at h
  unfold I128 at h128
  refine ⟨ret_ib rfl ?_, hb⟩
  rw [e0, e1, IntKind.wrap_u64]
  unfold wHi wLo wrap64
  rw [beq_eq_false_iff_ne]
  have ex : 0 ≤ a % 18446744073709551616 ∧ a % 18446744073709551616 < 18446744073709551616 := by omega
  have ea : a = a / 18446744073709551616 * 18446744073709551616 + a % 18446744073709551616 := by omega
  generalize a % 18446744073709551616 = x at *
  generalize a / 18446744073709551616 = y at *
  by_cases hx : x < 9223372036854775808
  · rw [show (x + 9223372036854775808) % 18446744073709551616 - 9223372036854775808 = x by omega, show x / 9223372036854775808 = 0 by omega]
    omega
  · rw [show (x + 9223372036854775808) % 18446744073709551616 - 9223372036854775808 = x - 18446744073709551616 by omega, show (x - 18446744073709551616) / 9223372036854775808 = -1 by omega]
    omega

set_option maxHeartbeats 400000 in
theorem words_held (l0 h0 a : Int) (w : World) (e0 : l0 = wLo a) (e1 : h0 = wHi a) (h128 : I128 a) :
    Calls Try.prog 45 #[.agg #[.int .u64 l0, .int .u64 h0]] w fun e w' => e = .returned (.int .i64 (heldI a)) ∧ Below w.heap.size w w' := by
  by_cases h : I64 a
  · have hf := fun w => words_fit_yes l0 h0 a w e0 e1 h
    have Hf := Lib.hid hf
    clear hf e0 e1
    go_enter Try.func45, Try.ntmps45
    go_wp2_with (go_at_call 66; refine (Hf.out _).mono ?_; rintro e w1 ⟨rfl, hb⟩)
    go_ret
    exact ⟨ret_int (heldI_of a h).symm, below_up (below1 _ _) hb⟩
  · have hf := fun w => words_fit_no l0 h0 a w e0 e1 h h128
    have Hf := Lib.hid hf
    by_cases hn : a < 0
    · have hg := fun w => words_below true l0 h0 a w e1 h128 (by simp [hn])
      have Hg := Lib.hid hg
      have hr : (-9223372036854775808 : Int) = heldI a := by unfold heldI; unfold I64 at h; rw [if_pos (by omega)]
      have Hr := Lib.hid hr
      clear hf hg hr e0 e1
      go_enter Try.func45, Try.ntmps45
      go_wp2_with (first
        | (go_at_call 66; refine (Hf.out _).mono ?_; rintro e w1 ⟨rfl, hb⟩; obtain ⟨hc, hfz⟩ := bcell hb)
        | (go_at_call 69; refine (Hg.out _).mono ?_; rintro e w2 ⟨rfl, hb2⟩))
      go_ret
      exact ⟨ret_int Hr.out, below_up (below_up (below1 _ _) hb) hb2⟩
    · have hg := fun w => words_below false l0 h0 a w e1 h128 (by simp; omega)
      have Hg := Lib.hid hg
      have hr : (9223372036854775807 : Int) = heldI a := by unfold heldI; unfold I64 at h; rw [if_neg (by omega), if_pos (by omega)]
      have Hr := Lib.hid hr
      clear hf hg hr e0 e1
      go_enter Try.func45, Try.ntmps45
      go_wp2_with (first
        | (go_at_call 66; refine (Hf.out _).mono ?_; rintro e w1 ⟨rfl, hb⟩; obtain ⟨hc, hfz⟩ := bcell hb)
        | (go_at_call 69; refine (Hg.out _).mono ?_; rintro e w2 ⟨rfl, hb2⟩))
      go_ret
      exact ⟨ret_int Hr.out, below_up (below_up (below1 _ _) hb) hb2⟩

set_option maxHeartbeats 400000 in
theorem fix_told_yes (l0 h0 a : Int) (w : World) (e0 : l0 = wLo a) (e1 : h0 = wHi a) (h : I64 a) :
    Calls Try.prog 43 #[.agg #[.int .u64 l0, .int .u64 h0]] w fun e w' => e = .returned (.tuple #[.int .i64 a, .bool true]) ∧ Below w.heap.size w w' := by
  have hf := fun w => words_fit_yes l0 h0 a w e0 e1 h
  have Hf := Lib.hid hf
  clear hf e0 e1
  go_enter Try.func43, Try.ntmps43
  go_wp2_with (go_at_call 66; refine (Hf.out _).mono ?_; rintro e w1 ⟨rfl, hb⟩)
  go_ret2
  exact ⟨rfl, below_up (below1 _ _) hb⟩
set_option maxHeartbeats 400000 in
theorem fix_told_no (l0 h0 a : Int) (w : World) (e0 : l0 = wLo a) (e1 : h0 = wHi a) (h : ¬ I64 a) (h128 : I128 a) :
    Calls Try.prog 43 #[.agg #[.int .u64 l0, .int .u64 h0]] w fun e w' => e = .returned (.tuple #[.int .i64 0, .bool false]) ∧ Below w.heap.size w w' := by
  have hf := fun w => words_fit_no l0 h0 a w e0 e1 h h128
  have Hf := Lib.hid hf
  clear hf e0 e1
  go_enter Try.func43, Try.ntmps43
  go_wp2_with (go_at_call 66; refine (Hf.out _).mono ?_; rintro e w1 ⟨rfl, hb⟩)
  go_ret2
  exact ⟨rfl, below_up (below1 _ _) hb⟩

/-- A number's size. -/
def absI (v : Int) : Int := if v < 0 then -v else v
theorem absI_neg {v : Int} (h : v < 0) : absI v = -v := if_pos h
theorem absI_pos {v : Int} (h : ¬ v < 0) : absI v = v := if_neg h
set_option maxHeartbeats 400000 in
theorem fix_size (v : Int) (w : World) (hv : I64 v) :
    Calls Try.prog 67 #[.int .i64 v] w fun e w' => e = .returned (.int .u64 (absI v)) ∧ w' = w := by
  unfold I64 at hv
  obtain ⟨hv0, hv1⟩ := hv
  by_cases h : v < 0
  · go_enter Try.func67, Try.ntmps67
    go_wp2
    go_ret
    refine ⟨ret_int ?_, rfl⟩
    rw [absI_neg h]
    simp only [IntKind.wrap_u64]
    omega
  · go_enter Try.func67, Try.ntmps67
    go_wp2
    go_ret
    refine ⟨ret_int ?_, rfl⟩
    rw [absI_pos (by omega)]
    try simp only [IntKind.wrap_u64]
    try omega
end Go.Proofs.Ytfhhdlpglfjdgaa
/- The plain arithmetic of a division of 128 bits by 64, digit by digit of 32 bits. No program in it. -/
set_option linter.unusedVariables false
set_option linter.unusedSimpArgs false
namespace Go.Proofs.Ytfhhdlpglfjdgaa

/-- The state of a digit's search: the guess is not too low, and the rest belongs to it. -/
def DInv (U v1 Q q r : Int) : Prop := Q ≤ q ∧ q ≤ 4294967297 ∧ 0 ≤ r ∧ r < 4294967296 ∧ r = U - q * v1

theorem dq_bd (U u1 V : Int) (hU : 0 ≤ U) (hUV : U < V) (hu : 0 ≤ u1) (hu1 : u1 < 4294967296) : 0 ≤ (U * 4294967296 + u1) / V ∧ (U * 4294967296 + u1) / V < 4294967296 := by
  refine ⟨Int.ediv_nonneg (by omega) (by omega), ?_⟩
  refine Int.ediv_lt_of_lt_mul (by omega) ?_
  have : (U + 1) * 4294967296 ≤ V * 4294967296 := Int.mul_le_mul_of_nonneg_right (by omega) (by omega)
  rw [Int.mul_comm 4294967296 V]
  omega

theorem dq_mul (U u1 V : Int) (hV : 0 < V) : (U * 4294967296 + u1) / V * V ≤ U * 4294967296 + u1 ∧ U * 4294967296 + u1 < ((U * 4294967296 + u1) / V + 1) * V :=
  ⟨Int.ediv_mul_le _ (by omega), Int.lt_ediv_add_one_mul_self _ hV⟩

/-- The first guess. -/
theorem dinv_start (U u1 V v1 v0 : Int) (hU : 0 ≤ U) (hUV : U < V) (hu : 0 ≤ u1) (hu1 : u1 < 4294967296) (hV : V = v1 * 4294967296 + v0) (h0 : 0 ≤ v0) (h1 : v0 < 4294967296) (hv : 2147483648 ≤ v1) (hv1 : v1 < 4294967296) :
    DInv U v1 ((U * 4294967296 + u1) / V) (U / v1) (U - U / v1 * v1) := by
  have a := Int.ediv_mul_le U (show v1 ≠ 0 by omega)
  have b := Int.lt_ediv_add_one_mul_self U (show 0 < v1 by omega)
  rw [Int.add_mul] at b
  have hVp : 0 < V := by omega
  have hq0 : 0 ≤ U / v1 := Int.ediv_nonneg hU (by omega)
  refine ⟨?_, ?_, by omega, by omega, rfl⟩
  · -- the true digit is at most the guess
    have hm := (dq_mul U u1 V hVp).1
    generalize (U * 4294967296 + u1) / V = Q at *
    by_cases hle : Q ≤ U / v1
    · exact hle
    · exfalso
      have h2 : (U / v1 + 1) * V ≤ Q * V := Int.mul_le_mul_of_nonneg_right (by omega) (by omega)
      have h3 : (U / v1 + 1) * V = (U / v1 * v1 + v1) * 4294967296 + (U / v1 + 1) * v0 := by rw [hV]; generalize U / v1 = g; grind
      have h4 : 0 ≤ (U / v1 + 1) * v0 := Int.mul_nonneg (by omega) h0
      generalize (U / v1 + 1) * v0 = X at *
      generalize U / v1 * v1 = Y at *
      omega
  · have hm : U / v1 * v1 ≤ 4294967296 * v1 + 4294967295 := by omega
    by_cases hle : U / v1 ≤ 4294967297
    · exact hle
    · exfalso
      have : 4294967298 * v1 ≤ U / v1 * v1 := Int.mul_le_mul_of_nonneg_right (by omega) (by omega)
      omega

theorem dinv_mulV (U u1 V v1 v0 q r : Int) (hV : V = v1 * 4294967296 + v0) (hr : r = U - q * v1) : q * V = (U - r) * 4294967296 + q * v0 := by
  rw [hV, hr]; grind

/-- The test says yes: the guess is too high. -/
theorem dinv_high (U u1 V v1 v0 q r : Int) (hU : 0 ≤ U) (hUV : U < V) (hu : 0 ≤ u1) (hu1 : u1 < 4294967296) (hV : V = v1 * 4294967296 + v0) (h0 : 0 ≤ v0) (hVp : 0 < V)
    (h : DInv U v1 ((U * 4294967296 + u1) / V) q r) (ht : 4294967296 ≤ q ∨ r * 4294967296 + u1 < q * v0) : (U * 4294967296 + u1) / V ≤ q - 1 := by
  obtain ⟨hQ, hq, hr0, hr1, hr⟩ := h
  have hb := dq_bd U u1 V hU hUV hu hu1
  rcases ht with ht | ht
  · omega
  · have hm := (dq_mul U u1 V hVp).1
    have e := dinv_mulV U u1 V v1 v0 q r hV hr
    generalize (U * 4294967296 + u1) / V = Q at *
    by_cases hle : Q ≤ q - 1
    · exact hle
    · exfalso
      obtain rfl : Q = q := by omega
      rw [e] at hm
      generalize Q * v0 = X at *
      omega

/-- The test says no: the guess is the digit. -/
theorem dinv_done (U u1 V v1 v0 q r : Int) (hV : V = v1 * 4294967296 + v0) (hVp : 0 < V)
    (h : DInv U v1 ((U * 4294967296 + u1) / V) q r) (ht : q * v0 ≤ r * 4294967296 + u1) : q = (U * 4294967296 + u1) / V := by
  obtain ⟨hQ, hq, hr0, hr1, hr⟩ := h
  have e := dinv_mulV U u1 V v1 v0 q r hV hr
  have : q ≤ (U * 4294967296 + u1) / V := Int.le_ediv_of_mul_le hVp (by rw [e]; generalize q * v0 = X at *; omega)
  omega

/-- The rest has grown past 32 bits: the guess is the digit. -/
theorem dinv_break (U u1 V v1 v0 q r : Int) (hU : 0 ≤ U) (hUV : U < V) (hu : 0 ≤ u1) (hu1 : u1 < 4294967296) (hV : V = v1 * 4294967296 + v0) (h0 : 0 ≤ v0) (h1 : v0 < 4294967296) (hVp : 0 < V)
    (h : DInv U v1 ((U * 4294967296 + u1) / V) q r) (ht : 4294967296 ≤ q ∨ r * 4294967296 + u1 < q * v0) (hb : 4294967296 ≤ r + v1) : q - 1 = (U * 4294967296 + u1) / V := by
  have hh := dinv_high U u1 V v1 v0 q r hU hUV hu hu1 hV h0 hVp h ht
  have hd := dq_bd U u1 V hU hUV hu hu1
  obtain ⟨hQ, hq, hr0, hr1, hr⟩ := h
  have hr' : r + v1 = U - (q - 1) * v1 := by rw [hr]; grind
  have e := dinv_mulV U u1 V v1 v0 (q - 1) (r + v1) hV hr'
  have hp : (q - 1) * v0 ≤ 4294967296 * 4294967295 := by
    have h2 : (q - 1) * v0 ≤ (q - 1) * 4294967295 := Int.mul_le_mul_of_nonneg_left (by omega) (by omega)
    omega
  have : q - 1 ≤ (U * 4294967296 + u1) / V := Int.le_ediv_of_mul_le hVp (by rw [e]; generalize (q - 1) * v0 = X at *; omega)
  omega

/-- The rounds go on. -/
theorem dinv_next (U u1 V v1 v0 q r : Int) (hU : 0 ≤ U) (hUV : U < V) (hu : 0 ≤ u1) (hu1 : u1 < 4294967296) (hV : V = v1 * 4294967296 + v0) (h0 : 0 ≤ v0) (hVp : 0 < V) (hv : 0 ≤ v1)
    (h : DInv U v1 ((U * 4294967296 + u1) / V) q r) (ht : 4294967296 ≤ q ∨ r * 4294967296 + u1 < q * v0) (hb : r + v1 < 4294967296) : DInv U v1 ((U * 4294967296 + u1) / V) (q - 1) (r + v1) := by
  have hh := dinv_high U u1 V v1 v0 q r hU hUV hu hu1 hV h0 hVp h ht
  obtain ⟨hQ, hq, hr0, hr1, hr⟩ := h
  exact ⟨hh, by omega, by omega, hb, by rw [hr]; grind⟩

/-- What is left behind a digit. -/
theorem drest (U u1 V Q : Int) (hVp : 0 < V) (hV1 : V ≤ 18446744073709551615) (hQ : Q = (U * 4294967296 + u1) / V) :
    (((U * 4294967296) % 18446744073709551616 + u1) % 18446744073709551616 - (Q * V) % 18446744073709551616) % 18446744073709551616 = (U * 4294967296 + u1) % V := by
  have e : (U * 4294967296 + u1) % V = U * 4294967296 + u1 - Q * V := by
    have := Int.emod_add_mul_ediv (U * 4294967296 + u1) V
    rw [hQ, Int.mul_comm _ V]; omega
  have a := Int.emod_nonneg (U * 4294967296 + u1) (show V ≠ 0 by omega)
  have b := Int.emod_lt_of_pos (U * 4294967296 + u1) hVp
  rw [e] at a b ⊢
  generalize Q * V = X at *
  omega

/-- The two digits are the quotient, and the rest, shifted back, is the rest. -/
theorem dwhole (hi lo y p V U L u1 u0 Q1 Q0 D R : Int) (hp : 0 < p) (hy : 0 < y) (hV : V = y * p) (hN : U * 18446744073709551616 + L = (hi * 18446744073709551616 + lo) * p) (hL : L = u1 * 4294967296 + u0)
    (h1 : Q1 = (U * 4294967296 + u1) / V) (h2 : D = (U * 4294967296 + u1) % V) (h3 : Q0 = (D * 4294967296 + u0) / V) (h4 : R = (D * 4294967296 + u0) % V) :
    Q1 * 4294967296 + Q0 = (hi * 18446744073709551616 + lo) / y ∧ R / p = (hi * 18446744073709551616 + lo) % y := by
  have hVp : 0 < V := by rw [hV]; exact Int.mul_pos hy hp
  have e1 := Int.emod_add_mul_ediv (U * 4294967296 + u1) V
  have e2 := Int.emod_add_mul_ediv (D * 4294967296 + u0) V
  rw [← h1, ← h2] at e1
  rw [← h3, ← h4] at e2
  have r0 : 0 ≤ R := by rw [h4]; exact Int.emod_nonneg _ (by omega)
  have r1 : R < V := by rw [h4]; exact Int.emod_lt_of_pos _ hVp
  clear h1 h2 h3 h4
  generalize hi * 18446744073709551616 + lo = N at *
  have hk : N * p = (Q1 * 4294967296 + Q0) * V + R := by
    rw [← hN, hL]
    have : U * 18446744073709551616 + (u1 * 4294967296 + u0) = (U * 4294967296 + u1) * 4294967296 + u0 := by omega
    rw [this, ← e1]
    have : (D + V * Q1) * 4294967296 + u0 = (D * 4294967296 + u0) + V * Q1 * 4294967296 := by grind
    rw [this, ← e2]
    grind
  generalize Q1 * 4294967296 + Q0 = Q at *
  have hR : R = (N - Q * y) * p := by
    have : Q * V = Q * y * p := by rw [hV]; grind
    rw [Int.sub_mul]; omega
  have hRp : R / p = N - Q * y := by rw [hR]; exact Int.mul_ediv_cancel _ (by omega)
  have g0 : 0 ≤ N - Q * y := by rw [← hRp]; exact Int.ediv_nonneg r0 (by omega)
  have g1 : N - Q * y < y := by rw [← hRp]; exact Int.ediv_lt_of_lt_mul hp (by rw [← hV]; exact r1)
  have hq : N / y = Q := by
    have hNe : N = (N - Q * y) + y * Q := by rw [Int.mul_comm y Q]; omega
    rw [hNe, Int.add_mul_ediv_left _ _ (by omega), Int.ediv_eq_zero_of_lt g0 g1]; omega
  refine ⟨hq.symm, ?_⟩
  rw [hRp, Int.emod_def, hq, Int.mul_comm]
end Go.Proofs.Ytfhhdlpglfjdgaa
/-
  DERIVED: THE SHELF's CONTRACTS AT THIS DUMP, IN PLAIN WORDS (tools/lay-plain.mjs out of 'TryShelf.lean', which tools/lay-shelf.mjs wrote): THE SAME DECLARATIONS UNDER THE SAME NAMES: 'import', 'namespace', 'open', 'def', 'theorem' AND NOTHING ELSE: no command of the shelf's: FOR A HAND-IN. Each laying: the table of numbers ('.._ren') and one theorem, a field a fact of the dump's own or the kernel's comparison; each contract: ONE APPLICATION.
-/
namespace Go.Proofs
open Go.Shelf
def Try.lays134_ren : Go.Shelf.Ren := ⟨fun | 134 => 70 | 129 => 80 | n => n, fun | 53 => 52 | 3 => 3 | 4 => 4 | 46 => 118 | 5 => 5 | 9 => 9 | n => n, fun | n => n⟩
theorem Try.lays134 : Go.Proofs.Lays.n134 Try.prog Try.lays134_ren := {
  mixed := by kernel_rfl
  f129 := Try.func80.trans (congrArg some (by kernel_rfl))
  f134 := Try.func70.trans (congrArg some (by kernel_rfl))
  t3 := Try.underlying3
  a3 := Try.isAgg3
  z3 := Try.sizeOf3
  v3 := Try.zeroValue3
  t4 := Try.underlying4
  a4 := Try.isAgg4
  z4 := Try.sizeOf4
  v4 := Try.zeroValue4
  t5 := Try.underlying5
  a5 := Try.isAgg5
  z5 := Try.sizeOf5
  v5 := Try.zeroValue5
  t9 := Try.underlying9
  a9 := Try.isAgg9
  z9 := Try.sizeOf9
  v9 := Try.zeroValue9
  t46 := Try.underlying118
  a46 := Try.isAgg118
  z46 := Try.sizeOf118
  v46 := Try.zeroValue118
  t53 := Try.underlying52
  a53 := Try.isAgg52
  z53 := Try.sizeOf52
  v53 := Try.zeroValue52 }
/-- bits.LeadingZeros64: "LeadingZeros64 returns the number of leading zero bits in x; the result is 64 for x == 0.": IT RETURNS '64 - Lib.bitLen x'; the world is as it was. ITS CALLEE bits.Len64 IS MET BY ITS OWN CONTRACT OFF THE SHELF (lay that first): entered in place it sends the kernel out of memory. (LAID: no walk: one application.) -/
theorem Try.bits_LeadingZeros64 (x : Int) (w : World) (h0 : 0 ≤ x) (h1 : x ≤ 18446744073709551615) :
    Calls Try.prog 70 #[.int .u64 x] w fun e w' => e = .returned (.int .i64 (64 - (Lib.bitLen x.toNat : Int))) ∧ w' = w := Any.bits_LeadingZeros64 Try.lays134 x w h0 h1
def Try.lays129_ren : Go.Shelf.Ren := ⟨fun | 129 => 80 | n => n, fun | 53 => 52 | 3 => 3 | 4 => 4 | 46 => 118 | 5 => 5 | 9 => 9 | n => n, fun | n => n⟩
theorem Try.lays129 : Go.Proofs.Lays.n129 Try.prog Try.lays129_ren := {
  mixed := by kernel_rfl
  f129 := Try.func80.trans (congrArg some (by kernel_rfl))
  t3 := Try.underlying3
  a3 := Try.isAgg3
  z3 := Try.sizeOf3
  v3 := Try.zeroValue3
  t4 := Try.underlying4
  a4 := Try.isAgg4
  z4 := Try.sizeOf4
  v4 := Try.zeroValue4
  t5 := Try.underlying5
  a5 := Try.isAgg5
  z5 := Try.sizeOf5
  v5 := Try.zeroValue5
  t9 := Try.underlying9
  a9 := Try.isAgg9
  z9 := Try.sizeOf9
  v9 := Try.zeroValue9
  t46 := Try.underlying118
  a46 := Try.isAgg118
  z46 := Try.sizeOf118
  v46 := Try.zeroValue118
  t53 := Try.underlying52
  a53 := Try.isAgg52
  z53 := Try.sizeOf52
  v53 := Try.zeroValue52 }
/-- bits.Len64: "Len64 returns the minimum number of bits required to represent x; the result is 0 for x == 0.": IT RETURNS 'Lib.bitLen x'; the world is as it was. ('h0', 'h1': x is a uint64.) (LAID: no walk: one application.) -/
theorem Try.bits_Len64 (x : Int) (w : World) (h0 : 0 ≤ x) (h1 : x ≤ 18446744073709551615) :
    Calls Try.prog 80 #[.int .u64 x] w fun e w' => e = .returned (.int .i64 (Lib.bitLen x.toNat)) ∧ w' = w := Any.bits_Len64 Try.lays129 x w h0 h1
def Try.lays264_ren : Go.Shelf.Ren := ⟨fun | 264 => 48 | n => n, fun | 53 => 52 | 46 => 118 | n => n, fun | n => n⟩
theorem Try.lays264 : Go.Proofs.Lays.n264 Try.prog Try.lays264_ren := {
  mixed := by kernel_rfl
  f264 := Try.func48.trans (congrArg some (by kernel_rfl))
  t46 := Try.underlying118
  a46 := Try.isAgg118
  z46 := Try.sizeOf118
  v46 := Try.zeroValue118
  t53 := Try.underlying52
  a53 := Try.isAgg52
  z53 := Try.sizeOf52
  v53 := Try.zeroValue52 }
open Go.RowKit Go.Lib in
theorem Try.bits_Mul64 (x y : Nat) (hx : x < 18446744073709551616) (hy : y < 18446744073709551616) (w : World) :
    Calls Try.prog 48 #[.int .u64 x, .int .u64 y] w fun e w' => e = .returned (.tuple #[.int .u64 ((x * y / 18446744073709551616 : Nat) : Int), .int .u64 ((x * y % 18446744073709551616 : Nat) : Int)]) ∧ w' = w := Any.bits_Mul64 Try.lays264 x y hx hy w
end Go.Proofs
/- math/bits.Div64 divides 128 bits by 64, where the high word is below the divisor. -/
set_option linter.unusedVariables false
set_option linter.unusedSimpArgs false
namespace Go.Proofs.Ytfhhdlpglfjdgaa
open Go.RowKit

set_option maxHeartbeats 400000 in
theorem div64_lo (lo y : Int) (w : World) (h0 : 0 ≤ lo) (h1 : lo ≤ 18446744073709551615) (y0 : 0 < y) (y1 : y ≤ 18446744073709551615) :
    Calls Try.prog 49 #[.int .u64 0, .int .u64 lo, .int .u64 y] w fun e w' => e = .returned (.tuple #[.int .u64 (lo / y), .int .u64 (lo % y)]) ∧ Below w.heap.size w w' := by
  have hy : (y == 0) = false := by simp; omega
  go_enter Try.func49, Try.ntmps49
  go_wp2
  go_quiet (fail)
  go_wp2
  go_ret2
  exact ⟨rfl, below_drewN _ _⟩

/-- What a round of a digit's search owes. -/
structure DStep (U v1 v0 u1 Q : Int) : Prop where
  bd : ∀ q r, DInv U v1 Q q r → 0 ≤ q ∧ q ≤ 4294967297 ∧ 0 ≤ r ∧ r < 4294967296
  next : ∀ q r, DInv U v1 Q q r → (4294967296 ≤ q ∨ r * 4294967296 + u1 < q * v0) → 1 ≤ q ∧ (r + v1 < 4294967296 → DInv U v1 Q (q - 1) (r + v1)) ∧ (4294967296 ≤ r + v1 → q - 1 = Q)
  done : ∀ q r, DInv U v1 Q q r → q * v0 ≤ r * 4294967296 + u1 → q = Q
  prod : ∀ q, 0 ≤ q → q < 4294967296 → 0 ≤ q * v0 ∧ q * v0 ≤ 18446744073709551615
theorem DStep.mk' {U v1 v0 u1 V : Int} (hU : 0 ≤ U) (hUV : U < V) (hu : 0 ≤ u1) (hu1 : u1 < 4294967296) (hV : V = v1 * 4294967296 + v0) (h0 : 0 ≤ v0) (h1 : v0 < 4294967296) (hv : 0 ≤ v1) : DStep U v1 v0 u1 ((U * 4294967296 + u1) / V) where
  bd q r h := by have := (dq_bd U u1 V hU hUV hu hu1).1; obtain ⟨a, b, c, d, _⟩ := h; omega
  next q r h t := by
    have a := dinv_high U u1 V v1 v0 q r hU hUV hu hu1 hV h0 (by omega) h t
    have b := (dq_bd U u1 V hU hUV hu hu1).1
    exact ⟨by omega, fun hb => dinv_next U u1 V v1 v0 q r hU hUV hu hu1 hV h0 (by omega) hv h t hb, fun hb => dinv_break U u1 V v1 v0 q r hU hUV hu hu1 hV h0 h1 (by omega) h t hb⟩
  done q r h t := dinv_done U u1 V v1 v0 q r hV (by omega) h t
  prod q a b := ⟨Int.mul_nonneg a h0, by
    have : q * v0 ≤ 4294967295 * 4294967295 := Int.mul_le_mul (by omega) (by omega) h0 (by omega)
    omega⟩


set_option maxHeartbeats 1600000 in
theorem div64_hi_raw (hi lo y V U L v1 v0 u1 u0 q r Q1 D g t Q0 R X : Int) (s : Nat) (w : World) (k0 : 0 < hi) (k1 : hi < y)
    (hlz : ∀ w, Calls Try.prog 70 #[.int .u64 y] w fun e w' => e = .returned (.int .i64 s) ∧ w' = w)
    (hs : s ≤ 63) (hV : IntKind.u64.wrap (y * 2 ^ s) = V) (hv1 : V / 4294967296 = v1) (hv0 : bits .and .u64 V 4294967295 = v0)
    (hU : bits .or .u64 (IntKind.u64.wrap (hi * 2 ^ s)) (lo / 2 ^ (64 - s)) = U) (hL : IntKind.u64.wrap (lo * 2 ^ s) = L) (hu1 : L / 4294967296 = u1) (hu0 : bits .and .u64 L 4294967295 = u0)
    (hq : IntKind.u64.wrap (U.tdiv v1) = q) (hr : IntKind.u64.wrap (U - IntKind.u64.wrap (q * v1)) = r) (hne : ¬ v1 = 0)
    (hst : DInv U v1 Q1 q r) (hstep : DStep U v1 v0 u1 Q1) (bv0 : 0 ≤ v1) (bv1 : v1 < 4294967296) (bu0 : 0 ≤ u1) (bu1 : u1 < 4294967296) (bt0 : 0 ≤ u0) (bt1 : u0 < 4294967296)
    (hD : IntKind.u64.wrap (IntKind.u64.wrap (IntKind.u64.wrap (U * 4294967296) + u1) - IntKind.u64.wrap (Q1 * V)) = D)
    (hg : IntKind.u64.wrap (D.tdiv v1) = g) (ht : IntKind.u64.wrap (D - IntKind.u64.wrap (g * v1)) = t)
    (hst0 : DInv D v1 Q0 g t) (hstep0 : DStep D v1 v0 u0 Q0)
    (hX' : Q1 * 4294967296 + Q0 = X) (hX2 : IntKind.u64.wrap (Q1 * 4294967296 + Q0) = X) (hX : IntKind.u64.wrap (IntKind.u64.wrap (Q1 * 4294967296) + Q0) = X) (hR : IntKind.u64.wrap (IntKind.u64.wrap (IntKind.u64.wrap (D * 4294967296) + u0) - IntKind.u64.wrap (Q0 * V)) / 2 ^ s = R) :
    Calls Try.prog 49 #[.int .u64 hi, .int .u64 lo, .int .u64 y] w fun e w' => e = .returned (.tuple #[.int .u64 X, .int .u64 R]) ∧ Below w.heap.size w w' := by
  have hy : (y == 0) = false := by simp; omega
  have hh : (hi == 0) = false := by simp; omega
  have Hlz := Lib.hid hlz
  have Hst := Lib.hid hst
  have Hs := Lib.hid hstep
  have Hst0 := Lib.hid hst0
  have HX := Lib.hid hX'
  have HX2 := Lib.hid hX2
  have Hs0 := Lib.hid hstep0
  clear hlz hst hstep hst0 hstep0 hX' hX2
  go_enter Try.func49, Try.ntmps49
  go_wp2_with (go_at_call 70; refine (Hlz.out _).mono ?_; rintro e w' ⟨rfl, rfl⟩)
  clear Hlz hV hv1 hv0 hU hL hu1 hu0 hq hr hy hh k0 k1
  go_loop [15, 16] (fun a b => ∃ q r : Int, a = .int .u64 q ∧ b = .int .u64 r ∧ Hid (DInv U v1 Q1 q r)) (fun a _ => (intOf a).toNat)
  case atStart => exact ⟨q, r, rfl, rfl, Hst.out⟩
  case round =>
    obtain ⟨q, r, rfl, rfl, Hi⟩ := hrel
    obtain ⟨bq0, bq1, br0, br1⟩ := Hs.out.bd _ _ Hi.out
    by_cases hc : 4294967296 ≤ q
    · obtain ⟨bq2, hn, hb⟩ := Hs.out.next _ _ Hi.out (.inl hc)
      have Hn := Lib.hid hn
      have Hb := Lib.hid hb
      clear hn hb
      by_cases hbr : 4294967296 ≤ r + v1
      · have e1 : q - 1 = Q1 := Hb.out hbr
        go_wp2
        go_loop [18, 16] (fun a b => ∃ q r : Int, a = .int .u64 q ∧ b = .int .u64 r ∧ Hid (DInv D v1 Q0 q r)) (fun a _ => (intOf a).toNat)
        case atStart => exact ⟨g, t, rfl, rfl, Hst0.out⟩
        case round =>
          obtain ⟨q, r, rfl, rfl, Hi⟩ := hrel
          obtain ⟨bq0, bq1, br0, br1⟩ := Hs0.out.bd _ _ Hi.out
          by_cases hc : 4294967296 ≤ q
          · obtain ⟨bq2, hn, hb⟩ := Hs0.out.next _ _ Hi.out (.inl hc)
            have Hn := Lib.hid hn
            have Hb := Lib.hid hb
            clear hn hb
            by_cases hbr : 4294967296 ≤ r + v1
            · have e1 : q - 1 = Q0 := Hb.out hbr
              go_wp2
              go_ret2
              first | exact ⟨ret_ii HX.out rfl, Below.refl _ _⟩ | exact ⟨ret_ii HX2.out rfl, Below.refl _ _⟩ | exact ⟨rfl, Below.refl _ _⟩
            · go_wp2
              go_round
              case rel => exact ⟨q - 1, r + v1, rfl, rfl, Hn.out (by omega)⟩
              case measure => simp [intOf]; omega
          · obtain ⟨bp0, bp1⟩ := Hs0.out.prod q bq0 (by omega)
            obtain ⟨p, hp⟩ : ∃ p, p = q * v0 := ⟨_, rfl⟩
            rw [← hp] at bp0 bp1
            have ep : IntKind.u64.wrap (q * v0) = p := by rw [← hp]; exact (IntKind.wrap_u64 _).trans (by omega)
            by_cases hcp : r * 4294967296 + u0 < p
            · obtain ⟨bq2, hn, hb⟩ := Hs0.out.next _ _ Hi.out (.inr (by rw [← hp]; exact hcp))
              have Hn := Lib.hid hn
              have Hb := Lib.hid hb
              have Hp := Lib.hid hp
              have hct : 4294967296 * r + u0 < p := by omega
              clear hn hb hp
              by_cases hbr : 4294967296 ≤ r + v1
              · have e1 : q - 1 = Q0 := Hb.out hbr
                go_wp2
                go_ret2
                first | exact ⟨ret_ii HX.out rfl, Below.refl _ _⟩ | exact ⟨ret_ii HX2.out rfl, Below.refl _ _⟩ | exact ⟨rfl, Below.refl _ _⟩
              · go_wp2
                go_round
                case rel => exact ⟨q - 1, r + v1, rfl, rfl, Hn.out (by omega)⟩
                case measure => simp [intOf]; omega
            · obtain rfl : q = Q0 := Hs0.out.done _ _ Hi.out (by rw [← hp]; omega)
              have Hp := Lib.hid hp
              have hct : ¬ 4294967296 * r + u0 < p := by omega
              clear hp
              go_wp2
              go_ret2
              first | exact ⟨ret_ii HX.out rfl, Below.refl _ _⟩ | exact ⟨ret_ii HX2.out rfl, Below.refl _ _⟩ | exact ⟨rfl, Below.refl _ _⟩
      · go_wp2
        go_round
        case rel => exact ⟨q - 1, r + v1, rfl, rfl, Hn.out (by omega)⟩
        case measure => simp [intOf]; omega
    · obtain ⟨bp0, bp1⟩ := Hs.out.prod q bq0 (by omega)
      obtain ⟨p, hp⟩ : ∃ p, p = q * v0 := ⟨_, rfl⟩
      rw [← hp] at bp0 bp1
      have ep : IntKind.u64.wrap (q * v0) = p := by rw [← hp]; exact (IntKind.wrap_u64 _).trans (by omega)
      by_cases hcp : r * 4294967296 + u1 < p
      · obtain ⟨bq2, hn, hb⟩ := Hs.out.next _ _ Hi.out (.inr (by rw [← hp]; exact hcp))
        have Hn := Lib.hid hn
        have Hb := Lib.hid hb
        have Hp := Lib.hid hp
        have hct : 4294967296 * r + u1 < p := by omega
        clear hn hb hp
        by_cases hbr : 4294967296 ≤ r + v1
        · have e1 : q - 1 = Q1 := Hb.out hbr
          go_wp2
          go_loop [18, 16] (fun a b => ∃ q r : Int, a = .int .u64 q ∧ b = .int .u64 r ∧ Hid (DInv D v1 Q0 q r)) (fun a _ => (intOf a).toNat)
          case atStart => exact ⟨g, t, rfl, rfl, Hst0.out⟩
          case round =>
            obtain ⟨q, r, rfl, rfl, Hi⟩ := hrel
            obtain ⟨bq0, bq1, br0, br1⟩ := Hs0.out.bd _ _ Hi.out
            by_cases hc : 4294967296 ≤ q
            · obtain ⟨bq2, hn, hb⟩ := Hs0.out.next _ _ Hi.out (.inl hc)
              have Hn := Lib.hid hn
              have Hb := Lib.hid hb
              clear hn hb
              by_cases hbr : 4294967296 ≤ r + v1
              · have e1 : q - 1 = Q0 := Hb.out hbr
                go_wp2
                go_ret2
                first | exact ⟨ret_ii HX.out rfl, Below.refl _ _⟩ | exact ⟨ret_ii HX2.out rfl, Below.refl _ _⟩ | exact ⟨rfl, Below.refl _ _⟩
              · go_wp2
                go_round
                case rel => exact ⟨q - 1, r + v1, rfl, rfl, Hn.out (by omega)⟩
                case measure => simp [intOf]; omega
            · obtain ⟨bp0, bp1⟩ := Hs0.out.prod q bq0 (by omega)
              obtain ⟨p, hp⟩ : ∃ p, p = q * v0 := ⟨_, rfl⟩
              rw [← hp] at bp0 bp1
              have ep : IntKind.u64.wrap (q * v0) = p := by rw [← hp]; exact (IntKind.wrap_u64 _).trans (by omega)
              by_cases hcp : r * 4294967296 + u0 < p
              · obtain ⟨bq2, hn, hb⟩ := Hs0.out.next _ _ Hi.out (.inr (by rw [← hp]; exact hcp))
                have Hn := Lib.hid hn
                have Hb := Lib.hid hb
                have Hp := Lib.hid hp
                have hct : 4294967296 * r + u0 < p := by omega
                clear hn hb hp
                by_cases hbr : 4294967296 ≤ r + v1
                · have e1 : q - 1 = Q0 := Hb.out hbr
                  go_wp2
                  go_ret2
                  first | exact ⟨ret_ii HX.out rfl, Below.refl _ _⟩ | exact ⟨ret_ii HX2.out rfl, Below.refl _ _⟩ | exact ⟨rfl, Below.refl _ _⟩
                · go_wp2
                  go_round
                  case rel => exact ⟨q - 1, r + v1, rfl, rfl, Hn.out (by omega)⟩
                  case measure => simp [intOf]; omega
              · obtain rfl : q = Q0 := Hs0.out.done _ _ Hi.out (by rw [← hp]; omega)
                have Hp := Lib.hid hp
                have hct : ¬ 4294967296 * r + u0 < p := by omega
                clear hp
                go_wp2
                go_ret2
                first | exact ⟨ret_ii HX.out rfl, Below.refl _ _⟩ | exact ⟨ret_ii HX2.out rfl, Below.refl _ _⟩ | exact ⟨rfl, Below.refl _ _⟩
        · go_wp2
          go_round
          case rel => exact ⟨q - 1, r + v1, rfl, rfl, Hn.out (by omega)⟩
          case measure => simp [intOf]; omega
      · obtain rfl : q = Q1 := Hs.out.done _ _ Hi.out (by rw [← hp]; omega)
        have Hp := Lib.hid hp
        have hct : ¬ 4294967296 * r + u1 < p := by omega
        clear hp
        go_wp2
        go_loop [18, 16] (fun a b => ∃ q r : Int, a = .int .u64 q ∧ b = .int .u64 r ∧ Hid (DInv D v1 Q0 q r)) (fun a _ => (intOf a).toNat)
        case atStart => exact ⟨g, t, rfl, rfl, Hst0.out⟩
        case round =>
          obtain ⟨q, r, rfl, rfl, Hi⟩ := hrel
          obtain ⟨bq0, bq1, br0, br1⟩ := Hs0.out.bd _ _ Hi.out
          by_cases hc : 4294967296 ≤ q
          · obtain ⟨bq2, hn, hb⟩ := Hs0.out.next _ _ Hi.out (.inl hc)
            have Hn := Lib.hid hn
            have Hb := Lib.hid hb
            clear hn hb
            by_cases hbr : 4294967296 ≤ r + v1
            · have e1 : q - 1 = Q0 := Hb.out hbr
              go_wp2
              go_ret2
              first | exact ⟨ret_ii HX.out rfl, Below.refl _ _⟩ | exact ⟨ret_ii HX2.out rfl, Below.refl _ _⟩ | exact ⟨rfl, Below.refl _ _⟩
            · go_wp2
              go_round
              case rel => exact ⟨q - 1, r + v1, rfl, rfl, Hn.out (by omega)⟩
              case measure => simp [intOf]; omega
          · obtain ⟨bp0, bp1⟩ := Hs0.out.prod q bq0 (by omega)
            obtain ⟨p, hp⟩ : ∃ p, p = q * v0 := ⟨_, rfl⟩
            rw [← hp] at bp0 bp1
            have ep : IntKind.u64.wrap (q * v0) = p := by rw [← hp]; exact (IntKind.wrap_u64 _).trans (by omega)
            by_cases hcp : r * 4294967296 + u0 < p
            · obtain ⟨bq2, hn, hb⟩ := Hs0.out.next _ _ Hi.out (.inr (by rw [← hp]; exact hcp))
              have Hn := Lib.hid hn
              have Hb := Lib.hid hb
              have Hp := Lib.hid hp
              have hct : 4294967296 * r + u0 < p := by omega
              clear hn hb hp
              by_cases hbr : 4294967296 ≤ r + v1
              · have e1 : q - 1 = Q0 := Hb.out hbr
                go_wp2
                go_ret2
                first | exact ⟨ret_ii HX.out rfl, Below.refl _ _⟩ | exact ⟨ret_ii HX2.out rfl, Below.refl _ _⟩ | exact ⟨rfl, Below.refl _ _⟩
              · go_wp2
                go_round
                case rel => exact ⟨q - 1, r + v1, rfl, rfl, Hn.out (by omega)⟩
                case measure => simp [intOf]; omega
            · obtain rfl : q = Q0 := Hs0.out.done _ _ Hi.out (by rw [← hp]; omega)
              have Hp := Lib.hid hp
              have hct : ¬ 4294967296 * r + u0 < p := by omega
              clear hp
              go_wp2
              go_ret2
              first | exact ⟨ret_ii HX.out rfl, Below.refl _ _⟩ | exact ⟨ret_ii HX2.out rfl, Below.refl _ _⟩ | exact ⟨rfl, Below.refl _ _⟩
end Go.Proofs.Ytfhhdlpglfjdgaa
/- math/bits.Div64, told by a quotient and a rest of whole numbers. -/
set_option linter.unusedVariables false
set_option linter.unusedSimpArgs false
namespace Go.Proofs.Ytfhhdlpglfjdgaa
open Go.RowKit

theorem or_shift (a c s : Nat) (hc : c < 2 ^ s) : a * 2 ^ s ||| c = a * 2 ^ s + c := by
  rw [Nat.mul_comm]; exact (Nat.two_pow_add_eq_or_of_lt hc a).symm

/-- The normalized operands. -/
theorem div_norm (hi lo y : Int) (k0 : 0 ≤ hi) (k1 : hi < y) (h0 : 0 ≤ lo) (h1 : lo ≤ 18446744073709551615) (y1 : y ≤ 18446744073709551615) :
    ∃ s : Nat, s ≤ 63 ∧ (64 - (Lib.bitLen y.toNat : Int)) = s ∧ IntKind.u64.wrap (y * 2 ^ s) = y * 2 ^ s ∧ 9223372036854775808 ≤ y * 2 ^ s ∧ y * 2 ^ s ≤ 18446744073709551615 ∧
      ∃ U L, bits .or .u64 (IntKind.u64.wrap (hi * 2 ^ s)) (lo / 2 ^ (64 - s)) = U ∧ IntKind.u64.wrap (lo * 2 ^ s) = L ∧ 0 ≤ U ∧ U < y * 2 ^ s ∧ 0 ≤ L ∧ L ≤ 18446744073709551615 ∧
        U * 18446744073709551616 + L = (hi * 18446744073709551616 + lo) * 2 ^ s := by
  obtain ⟨Y, rfl⟩ := Int.eq_ofNat_of_zero_le (show 0 ≤ y by omega)
  obtain ⟨H, rfl⟩ := Int.eq_ofNat_of_zero_le k0
  obtain ⟨A, rfl⟩ := Int.eq_ofNat_of_zero_le h0
  have hb := Lib.bitLenAux_bounds 64 Y (by omega) (by omega)
  have hle := Lib.bitLen_le Y 64 (by omega) (by omega)
  rw [Int.toNat_natCast]
  change _ ∧ 2 ^ (Lib.bitLen Y - 1) ≤ Y ∧ Y < 2 ^ Lib.bitLen Y at hb
  change 1 ≤ Lib.bitLen Y ∧ _ at hb
  generalize Lib.bitLen Y = b at *
  obtain ⟨b1, lo2, hi2⟩ := hb
  refine ⟨64 - b, by omega, by omega, ?_⟩
  have e64 : 64 - (64 - b) = b := by omega
  rw [e64]
  have hp : 0 < 2 ^ (64 - b) := Nat.two_pow_pos _
  have hpb : 0 < 2 ^ b := Nat.two_pow_pos _
  have hpp : 2 ^ (64 - b) * 2 ^ b = 18446744073709551616 := by rw [← Nat.pow_add, show 64 - b + b = 64 by omega]
  have hpq : 2 ^ (64 - b) * 2 ^ (b - 1) = 9223372036854775808 := by rw [← Nat.pow_add, show 64 - b + (b - 1) = 63 by omega]
  have ec : ((2 : Int) ^ (64 - b)) = ((2 ^ (64 - b) : Nat) : Int) := by simp
  have ed : ((2 : Int) ^ b) = ((2 ^ b : Nat) : Int) := by simp
  rw [ec, ed]
  have hor := or_shift H (A / 2 ^ b) (64 - b)
  generalize 2 ^ (64 - b) = p at *
  generalize 2 ^ b = pb at *
  generalize 2 ^ (b - 1) = pq at *
  have v0 : 9223372036854775808 ≤ Y * p := by rw [← hpq, Nat.mul_comm]; exact Nat.mul_le_mul_right p lo2
  have v1 : Y * p < 18446744073709551616 := by rw [← hpp, Nat.mul_comm p pb]; exact Nat.mul_lt_mul_of_pos_right hi2 hp
  have hAp : A / pb < p := by rw [Nat.div_lt_iff_lt_mul hpb, hpp]; omega
  have hHp : H * p + p ≤ Y * p := by rw [← Nat.succ_mul]; exact Nat.mul_le_mul_right p (by omega)
  have e1 : ((Y : Int) * (p : Int)) = ((Y * p : Nat) : Int) := by simp
  have e2 : ((H : Int) * (p : Int)) = ((H * p : Nat) : Int) := by simp
  have e3 : ((A : Int) * (p : Int)) = ((A * p : Nat) : Int) := by simp
  have e4 : ((A : Int) / (pb : Int)) = ((A / pb : Nat) : Int) := by simp
  rw [e1, e2, e3, e4]
  have w1 : IntKind.u64.wrap ((Y * p : Nat) : Int) = ((Y * p : Nat) : Int) := by rw [IntKind.wrap_u64]; omega
  have w2 : IntKind.u64.wrap ((H * p : Nat) : Int) = ((H * p : Nat) : Int) := by rw [IntKind.wrap_u64]; omega
  refine ⟨w1, by omega, by omega, ((H * p + A / pb : Nat) : Int), ((A * p % 18446744073709551616 : Nat) : Int), ?_, ?_, by omega, by omega, by omega, by omega, ?_⟩
  · rw [w2, u64_or_nat _ _ (by omega) (by omega), hor hAp]
  · rw [IntKind.wrap_u64]; omega
  · have hd : A * p / 18446744073709551616 = A / pb := by rw [← hpp, Nat.mul_comm p pb, Nat.mul_div_mul_right _ _ hp]
    have hm := Nat.div_add_mod (A * p) 18446744073709551616
    rw [hd] at hm
    have e5 : ((H : Int) * 18446744073709551616 + (A : Int)) * (p : Int) = ((H * p : Nat) : Int) * 18446744073709551616 + ((A * p : Nat) : Int) := by push_cast; grind
    rw [e5]
    omega

theorem wrap_tdiv (U v : Int) (h0 : 0 ≤ U) (h1 : U ≤ 18446744073709551615) (hv : 0 < v) : IntKind.u64.wrap (U.tdiv v) = U / v := by
  rw [Int.tdiv_eq_ediv_of_nonneg h0, IntKind.wrap_u64]
  have a : 0 ≤ U / v := Int.ediv_nonneg h0 (by omega)
  have b : U / v ≤ U := Int.ediv_le_self _ h0
  omega
theorem wrap_rest (U v : Int) (h0 : 0 ≤ U) (h1 : U ≤ 18446744073709551615) (hv : 0 < v) : IntKind.u64.wrap (U - IntKind.u64.wrap (U / v * v)) = U - U / v * v := by
  have a := Int.ediv_mul_le U (show v ≠ 0 by omega)
  have b : 0 ≤ U / v * v := Int.mul_nonneg (Int.ediv_nonneg h0 (by omega)) (by omega)
  rw [IntKind.wrap_u64, IntKind.wrap_u64]
  generalize U / v * v = X at *
  omega

/-- DIV64. -/
theorem div64 (hi lo y : Int) (w : World) (k0 : 0 ≤ hi) (k1 : hi < y) (h0 : 0 ≤ lo) (h1 : lo ≤ 18446744073709551615) (y1 : y ≤ 18446744073709551615) :
    Calls Try.prog 49 #[.int .u64 hi, .int .u64 lo, .int .u64 y] w fun e w' =>
      e = .returned (.tuple #[.int .u64 ((hi * 18446744073709551616 + lo) / y), .int .u64 ((hi * 18446744073709551616 + lo) % y)]) ∧ Below w.heap.size w w' := by
  by_cases hz : hi = 0
  · subst hz
    refine (div64_lo lo y w h0 h1 (by omega) y1).mono ?_
    rintro e w' ⟨rfl, hb⟩
    exact ⟨ret_ii (by simp) (by simp), hb⟩
  · obtain ⟨s, hs, hbl, hV, V0, V1, U, L, hU, hL, U0, U1, L0, L1, hN⟩ := div_norm hi lo y k0 k1 h0 h1 y1
    have hp : (0 : Int) < 2 ^ s := Int.pow_pos (by omega)
    generalize hVe : y * 2 ^ s = V at *
    have hv : V = V / 4294967296 * 4294967296 + V % 4294967296 := by omega
    have hl : L = L / 4294967296 * 4294967296 + L % 4294967296 := by omega
    have d0 := drest U (L / 4294967296) V _ (by omega) (by omega) rfl
    have bq := dq_bd U (L / 4294967296) V U0 U1 (by omega) (by omega)
    have bd0 := Int.emod_nonneg (U * 4294967296 + L / 4294967296) (show V ≠ 0 by omega)
    have bd1 := Int.emod_lt_of_pos (U * 4294967296 + L / 4294967296) (show 0 < V by omega)
    have st := DStep.mk' (U := U) (V := V) (u1 := L / 4294967296) U0 U1 (by omega) (by omega) hv (by omega) (by omega) (by omega)
    have sst := dinv_start U (L / 4294967296) V (V / 4294967296) (V % 4294967296) U0 U1 (by omega) (by omega) hv (by omega) (by omega) (by omega) (by omega)
    generalize hDe : (U * 4294967296 + L / 4294967296) % V = D at *
    generalize hQe : (U * 4294967296 + L / 4294967296) / V = Q1 at *
    have r0 := drest D (L % 4294967296) V _ (by omega) (by omega) rfl
    have bq0 := dq_bd D (L % 4294967296) V bd0 bd1 (by omega) (by omega)
    have st0 := DStep.mk' (U := D) (V := V) (u1 := L % 4294967296) bd0 bd1 (by omega) (by omega) hv (by omega) (by omega) (by omega)
    have sst0 := dinv_start D (L % 4294967296) V (V / 4294967296) (V % 4294967296) bd0 bd1 (by omega) (by omega) hv (by omega) (by omega) (by omega) (by omega)
    have fin := dwhole hi lo y (2 ^ s) V U L (L / 4294967296) (L % 4294967296) Q1 ((D * 4294967296 + L % 4294967296) / V) D ((D * 4294967296 + L % 4294967296) % V) hp (by omega) hVe.symm hN hl hQe.symm hDe.symm rfl rfl
    generalize hQe0 : (D * 4294967296 + L % 4294967296) / V = Q0 at *
    obtain ⟨f1, f2⟩ := fin
    refine (div64_hi_raw hi lo y V U L (V / 4294967296) (V % 4294967296) (L / 4294967296) (L % 4294967296) (U / (V / 4294967296)) (U - U / (V / 4294967296) * (V / 4294967296)) Q1 D (D / (V / 4294967296)) (D - D / (V / 4294967296) * (V / 4294967296)) Q0 ((hi * 18446744073709551616 + lo) % y) ((hi * 18446744073709551616 + lo) / y) s w (by omega) k1 ?_ hs (by rw [hVe]; exact hV) rfl (and_low32 V (by omega) (by omega)) hU hL rfl (and_low32 L L0 (by omega))
      (wrap_tdiv U _ U0 (by omega) (by omega)) (wrap_rest U _ U0 (by omega) (by omega)) (by omega) sst st (by omega) (by omega) (by omega) (by omega) (by omega) (by omega) ?_ (wrap_tdiv D _ bd0 (by omega) (by omega)) (wrap_rest D _ bd0 (by omega) (by omega)) sst0 st0 f1 ?_ ?_ ?_).mono ?_
    · intro w
      refine (Try.bits_LeadingZeros64 y w (by omega) (by omega)).mono ?_
      rintro e w' ⟨rfl, hw⟩
      exact ⟨ret_int hbl, hw⟩
    · simp only [IntKind.wrap_u64]
      exact d0
    · simp only [IntKind.wrap_u64]; omega
    · simp only [IntKind.wrap_u64]; omega
    · simp only [IntKind.wrap_u64]
      rw [r0, f2]
    · rintro e w' ⟨rfl, hb⟩
      exact ⟨rfl, hb⟩
end Go.Proofs.Ytfhhdlpglfjdgaa
/- Package fix: products, quotients, held arithmetic. -/
set_option linter.unusedVariables false
set_option linter.unusedSimpArgs false
namespace Go.Proofs.Ytfhhdlpglfjdgaa
open Go.RowKit

theorem absI_bd (v : Int) (h : I64 v) : 0 ≤ absI v ∧ absI v ≤ 9223372036854775808 := by unfold I64 at h; unfold absI; split <;> omega

theorem mul_i128 (a b : Int) (ha : I64 a) (hb : I64 b) : I128 (a * b) := by
  have h1 : absI a * absI b ≤ 9223372036854775808 * 9223372036854775808 := Int.mul_le_mul (absI_bd a ha).2 (absI_bd b hb).2 (absI_bd b hb).1 (by omega)
  have h2 : 0 ≤ absI a * absI b := Int.mul_nonneg (absI_bd a ha).1 (absI_bd b hb).1
  unfold I128
  by_cases x : a < 0 <;> by_cases y : b < 0
  · rw [absI_neg x, absI_neg y, Int.neg_mul_neg] at h1 h2
    omega
  · rw [absI_neg x, absI_pos y, Int.neg_mul] at h1 h2
    omega
  · rw [absI_pos x, absI_neg y, Int.mul_neg] at h1 h2
    omega
  · rw [absI_pos x, absI_pos y] at h1 h2
    omega

set_option maxHeartbeats 400000 in
theorem mul64 (a b : Int) (w : World) (ha0 : 0 ≤ a) (ha1 : a ≤ 18446744073709551615) (hb0 : 0 ≤ b) (hb1 : b ≤ 18446744073709551615) :
    Calls Try.prog 48 #[.int .u64 a, .int .u64 b] w fun e w' => e = .returned (.tuple #[.int .u64 (a * b / 18446744073709551616), .int .u64 (a * b % 18446744073709551616)]) ∧ w' = w := by
  obtain ⟨A, rfl⟩ := Int.eq_ofNat_of_zero_le ha0
  obtain ⟨B, rfl⟩ := Int.eq_ofNat_of_zero_le hb0
  refine (Try.bits_Mul64 A B (by omega) (by omega) w).mono ?_
  rintro e w' ⟨rfl, hw⟩
  exact ⟨ret_ii (by simp) (by simp), hw⟩

set_option maxHeartbeats 800000 in
theorem fix_times_raw (a b c d u v l' h' : Int) (w : World) (h1 : ∀ w, Calls Try.prog 67 #[.int .i64 a] w fun e w' => e = .returned (.int .u64 c) ∧ w' = w)
    (h2 : ∀ w, Calls Try.prog 67 #[.int .i64 b] w fun e w' => e = .returned (.int .u64 d) ∧ w' = w)
    (h3 : ∀ w, Calls Try.prog 48 #[.int .u64 c, .int .u64 d] w fun e w' => e = .returned (.tuple #[.int .u64 u, .int .u64 v]) ∧ w' = w)
    (h4 : ∀ w, Calls Try.prog 68 #[.agg #[.int .u64 v, .int .u64 u]] w fun e w' => e = .returned (.agg #[.int .u64 l', .int .u64 h']) ∧ Below w.heap.size w w') :
    ((decide (a < 0) = decide (b < 0)) → Calls Try.prog 44 #[.int .i64 a, .int .i64 b] w fun e w' => e = .returned (.agg #[.int .u64 v, .int .u64 u]) ∧ Below w.heap.size w w') ∧
    ((decide (a < 0) ≠ decide (b < 0)) → Calls Try.prog 44 #[.int .i64 a, .int .i64 b] w fun e w' => e = .returned (.agg #[.int .u64 l', .int .u64 h']) ∧ Below w.heap.size w w') := by
  have H1 := Lib.hid h1
  have H2 := Lib.hid h2
  have H3 := Lib.hid h3
  have H4 := Lib.hid h4
  clear h1 h2 h3 h4
  refine ⟨fun ht => ?_, fun ht => ?_⟩
  all_goals
    by_cases ha : a < 0 <;> by_cases hb : b < 0
    all_goals first
      | (exfalso; simp [ha, hb] at ht; done)
      | skip
    all_goals
      clear ht
      first
        | (have da : decide (a < 0) = true := decide_eq_true ha)
        | (have da : decide (a < 0) = false := decide_eq_false ha)
      first
        | (have db : decide (b < 0) = true := decide_eq_true hb)
        | (have db : decide (b < 0) = false := decide_eq_false hb)
      clear ha hb
      go_enter Try.func44, Try.ntmps44
      go_wp2_with fail
      refine (H1.out _).mono ?_
      rintro e w1 ⟨rfl, rfl⟩
      go_wp2_with fail
      refine (H2.out _).mono ?_
      rintro e w1 ⟨rfl, rfl⟩
      go_wp2_with fail
      refine (H3.out _).mono ?_
      rintro e w1 ⟨rfl, rfl⟩
      go_wp2_with fail
      first
        | exact bodyPost_ret (v := .agg #[.int .u64 v, .int .u64 u]) (by simp [results, Try.results44, go_sem]) rfl ⟨rfl, below2 _ _ _⟩
        | (refine (H4.out _).mono ?_
           rintro e w2 ⟨rfl, hbl⟩
           have hk := hb_below' (hb_alloc (hb_new w _) _) hbl
           have k0 := hb_cell hk 0
           have k1 := hb_cell hk 1
           have f0 := hb_free hk 0
           have f1 := hb_free hk 1
           have ht := two_set hk (.int .u64 l') (.int .u64 h')
           have t0 := hb_cell ht 0
           have t1 := hb_cell ht 1
           have Hb := Lib.hid hbl
           clear hbl hk ht
           simp only [List.getElem?_toArray, List.getElem?_cons_zero, List.getElem?_cons_succ] at k0 k1 t0 t1
           go_wp2
           exact bodyPost_ret (v := .agg #[.int .u64 l', .int .u64 h']) (by simp [results, Try.results44, t0, t1, go_sem]) rfl ⟨rfl, ((below_up (below2 _ _ _) Hb.out).setCell (Nat.le_refl _) _).setCell (Nat.le_refl _) _⟩)

theorem wLo_mul (n : Int) : wLo n = n % 18446744073709551616 := rfl
theorem fix_times (a b : Int) (w : World) (ha : I64 a) (hb : I64 b) :
    Calls Try.prog 44 #[.int .i64 a, .int .i64 b] w fun e w' => e = .returned (.agg #[.int .u64 (wLo (a * b)), .int .u64 (wHi (a * b))]) ∧ Below w.heap.size w w' := by
  have ba := absI_bd a ha
  have bb := absI_bd b hb
  have hm : absI a * absI b ≤ 9223372036854775808 * 9223372036854775808 := Int.mul_le_mul ba.2 bb.2 bb.1 (by omega)
  have hm0 : 0 ≤ absI a * absI b := Int.mul_nonneg ba.1 bb.1
  have key := fix_times_raw a b (absI a) (absI b) _ _ _ _ w (fun w => fix_size a w ha) (fun w => fix_size b w hb) (fun w => mul64 (absI a) (absI b) w (by omega) (by omega) (by omega) (by omega))
    (fun w => words_minus _ _ (absI a * absI b) w rfl (by unfold wHi; omega))
  by_cases h : decide (a < 0) = decide (b < 0)
  · refine (key.1 h).mono ?_
    rintro e w' ⟨rfl, hbl⟩
    have e1 : absI a * absI b = a * b := by
      by_cases x : a < 0
      · have y : b < 0 := by simpa [x] using h.symm
        rw [absI_neg x, absI_neg y, Int.neg_mul_neg]
      · have y : ¬ b < 0 := by simpa [x] using h.symm
        rw [absI_pos x, absI_pos y]
    rw [e1] at hm hm0 ⊢
    exact ⟨ret_agg2 rfl (by unfold wHi; omega), hbl⟩
  · refine (key.2 h).mono ?_
    rintro e w' ⟨rfl, hbl⟩
    have e1 : -(absI a * absI b) = a * b := by
      by_cases x : a < 0
      · have y : ¬ b < 0 := fun y => h (by simp [x, y])
        rw [absI_neg x, absI_pos y, Int.neg_mul, Int.neg_neg]
      · have y : b < 0 := by
          by_cases y : b < 0
          · exact y
          · exact absurd (by simp [x, y]) h
        rw [absI_pos x, absI_neg y, Int.mul_neg, Int.neg_neg]
    rw [e1]
    exact ⟨rfl, hbl⟩

set_option maxHeartbeats 800000 in
theorem words_over_pos_raw (l0 h0 den g u v : Int) (w : World) (hh : 0 ≤ h0) (hd : 0 < den) (hd1 : den ≤ 18446744073709551615) (hg : IntKind.u64.wrap (h0.tdiv den) = g)
    (h1 : ∀ w, Calls Try.prog 69 #[.agg #[.int .u64 l0, .int .u64 h0]] w fun e w' => e = .returned (.bool false) ∧ Below w.heap.size w w')
    (h2 : ∀ w, Calls Try.prog 49 #[.int .u64 (h0 % den), .int .u64 l0, .int .u64 den] w fun e w' => e = .returned (.tuple #[.int .u64 u, .int .u64 v]) ∧ Below w.heap.size w w') :
    Calls Try.prog 46 #[.agg #[.int .u64 l0, .int .u64 h0], .int .u64 den] w fun e w' => e = .returned (.agg #[.int .u64 u, .int .u64 g]) ∧ Below w.heap.size w w' := by
  have H1 := Lib.hid h1
  have H2 := Lib.hid h2
  clear h1 h2
  have hdn : (den == 0) = false := by simp; omega
  go_enter Try.func46, Try.ntmps46
  go_wp2_with fail
  refine (H1.out _).mono ?_
  rintro e w1 ⟨rfl, hb1⟩
  have k2 := hb_below' (hb_alloc (hb_new w _) _) hb1
  have k4 := hb_below' (hb_new (w.alloc _) _) hb1
  simp only [World.size_alloc] at k4
  obtain ⟨c20, c21, f20, f21⟩ := hb2 k2
  have K4 := Lib.hid k4
  have Hb1 := Lib.hid hb1
  clear k2 k4 hb1
  go_wp2_with fail
  go_quiet (fail)
  go_wp2_with fail
  refine (H2.out _).mono ?_
  rintro e w2 ⟨rfl, hb2'⟩
  clear c20 c21 f20 f21
  have k4 := hb_below' (hb_drewN K4.out _) hb2'
  have K5 := hb_alloc (two_set k4 (.int .u64 u) (.int .u64 g)) (.cells #[.int .u64 u, .int .u64 g] 54)
  obtain ⟨c40, c41, f40, f41⟩ := hb2 k4
  obtain ⟨d40, d41, _, _⟩ := hb2 K5
  have hlt := hb_lt k4
  have Hb2 := Lib.hid hb2'
  clear k4 K5 hb2'
  go_wp2
  exact bodyPost_ret (v := .agg #[.int .u64 u, .int .u64 g]) (by simp [results, Try.results46, d40, d41, go_sem]) rfl
    ⟨rfl, (((below_up (below_up (below_up (below2 _ _ _) Hb1.out) (below_drewN _ _)) Hb2.out).setCell (by simp) _).setCell (by simp) _).alloc (by simp; omega) _⟩

theorem shift128 (a : Int) : a / 18446744073709551616 * 18446744073709551616 + a % 18446744073709551616 = a := by omega
/-- A number of two words by one. -/
theorem words_div (l h den : Int) (hl : 0 ≤ l) (hl1 : l ≤ 18446744073709551615) (hh : 0 ≤ h) (hd : 0 < den) : (h * 18446744073709551616 + l) / den = h / den * 18446744073709551616 + (h % den * 18446744073709551616 + l) / den ∧
    0 ≤ (h % den * 18446744073709551616 + l) / den ∧ (h % den * 18446744073709551616 + l) / den ≤ 18446744073709551615 ∧ (h % den * 18446744073709551616 + l) % den = (h * 18446744073709551616 + l) % den := by
  have e := Int.emod_add_mul_ediv h den
  have r0 := Int.emod_nonneg h (show den ≠ 0 by omega)
  have r1 := Int.emod_lt_of_pos h hd
  have key : h * 18446744073709551616 + l = (h % den * 18446744073709551616 + l) + den * (h / den * 18446744073709551616) := by
    have : h * 18446744073709551616 = (h % den + den * (h / den)) * 18446744073709551616 := by rw [e]
    rw [this, Int.add_mul, Int.mul_assoc]; omega
  refine ⟨?_, Int.ediv_nonneg (by omega) (by omega), ?_, ?_⟩
  · rw [key, Int.add_mul_ediv_left _ _ (by omega)]; omega
  · have : (h % den * 18446744073709551616 + l) / den < 18446744073709551616 := Int.ediv_lt_of_lt_mul hd (by omega)
    omega
  · rw [key, Int.add_mul_emod_self_left]

theorem words_over_pos (l0 h0 den a : Int) (w : World) (e0 : l0 = wLo a) (e1 : h0 = wHi a) (ha : 0 ≤ a) (ha1 : I128 a) (hd : 0 < den) (hd1 : den ≤ 18446744073709551615) :
    Calls Try.prog 46 #[.agg #[.int .u64 l0, .int .u64 h0], .int .u64 den] w fun e w' => e = .returned (.agg #[.int .u64 (wLo (a / den)), .int .u64 (wHi (a / den))]) ∧ Below w.heap.size w w' := by
  have bl := wLo_bd a
  have bh := wHi_bd a
  rw [← e0] at bl
  rw [← e1] at bh
  have ea : a = h0 * 18446744073709551616 + l0 := by rw [e0, e1]; unfold wLo wHi; unfold I128 at ha1; omega
  have hw := words_div l0 h0 den bl.1 bl.2 bh.1 hd
  have r0 := Int.emod_nonneg h0 (show den ≠ 0 by omega)
  have r1 := Int.emod_lt_of_pos h0 hd
  refine (words_over_pos_raw l0 h0 den _ _ _ w bh.1 hd hd1 (wrap_tdiv h0 den bh.1 bh.2 hd) (fun w => words_below false l0 h0 a w e1 ha1 (by simp; omega)) (fun w => div64 _ _ _ w r0 r1 bl.1 bl.2 hd1)).mono ?_
  rintro e w' ⟨rfl, hb⟩
  obtain ⟨hw1, hw2, hw3, _⟩ := hw
  have q0 : 0 ≤ h0 / den := Int.ediv_nonneg bh.1 (by omega)
  have q1 : h0 / den ≤ h0 := Int.ediv_le_self _ bh.1
  rw [← ea] at hw1
  refine ⟨ret_agg2 ?_ ?_, hb⟩
  · unfold wLo; omega
  · unfold wHi; omega

set_option maxHeartbeats 1600000 in
theorem words_over_neg_raw (l0 h0 l h den g u v l2 h2 l3 h3 : Int) (w : World) (hh : 0 ≤ h) (hd : 0 < den) (hd1 : den ≤ 18446744073709551615) (hg : IntKind.u64.wrap (h.tdiv den) = g) (hv : 0 ≤ v)
    (h1 : ∀ w, Calls Try.prog 69 #[.agg #[.int .u64 l0, .int .u64 h0]] w fun e w' => e = .returned (.bool true) ∧ Below w.heap.size w w')
    (hm : ∀ w, Calls Try.prog 68 #[.agg #[.int .u64 l0, .int .u64 h0]] w fun e w' => e = .returned (.agg #[.int .u64 l, .int .u64 h]) ∧ Below w.heap.size w w')
    (hdv : ∀ w, Calls Try.prog 49 #[.int .u64 (h % den), .int .u64 l, .int .u64 den] w fun e w' => e = .returned (.tuple #[.int .u64 u, .int .u64 v]) ∧ Below w.heap.size w w')
    (hpl : 0 < v → ∀ w, Calls Try.prog 57 #[.agg #[.int .u64 u, .int .u64 g], .agg #[.int .u64 1, .int .u64 0]] w fun e w' => e = .returned (.agg #[.int .u64 l2, .int .u64 h2]) ∧ Below w.heap.size w w')
    (hnp : ¬ 0 < v → l2 = u ∧ h2 = g)
    (hmm : ∀ w, Calls Try.prog 68 #[.agg #[.int .u64 l2, .int .u64 h2]] w fun e w' => e = .returned (.agg #[.int .u64 l3, .int .u64 h3]) ∧ Below w.heap.size w w') :
    Calls Try.prog 46 #[.agg #[.int .u64 l0, .int .u64 h0], .int .u64 den] w fun e w' => e = .returned (.agg #[.int .u64 l3, .int .u64 h3]) ∧ Below w.heap.size w w' := by
  have H1 := Lib.hid h1
  have HM := Lib.hid hm
  have HD := Lib.hid hdv
  have HMM := Lib.hid hmm
  clear h1 hm hdv hmm
  have hdn : (den == 0) = false := by simp; omega
  go_enter Try.func46, Try.ntmps46
  go_wp2_with fail
  refine (H1.out _).mono ?_
  rintro e w1 ⟨rfl, hb1⟩
  have k2 := hb_below' (hb_alloc (hb_new w _) _) hb1
  have k4 := hb_below' (hb_new (w.alloc _) _) hb1
  simp only [World.size_alloc] at k4
  obtain ⟨c20, c21, f20, f21⟩ := hb2 k2
  have K2 := Lib.hid k2
  have K4 := Lib.hid k4
  have Hb1 := Lib.hid hb1
  clear k2 k4 hb1
  go_wp2_with fail
  refine (HM.out _).mono ?_
  rintro e w2 ⟨rfl, hb2'⟩
  clear c20 c21 f20 f21
  have k2 := hb_below' K2.out hb2'
  have k4 := hb_below' K4.out hb2'
  have k2' := two_set k2 (.int .u64 l) (.int .u64 h)
  have k4' := hb_far (hb_far k4 (a := ⟨w.heap.size, 0, none⟩) (by simp) (.int .u64 l)) (a := ⟨w.heap.size, 1, none⟩) (by simp) (.int .u64 h)
  obtain ⟨c20, c21, f20, f21⟩ := hb2 k2
  obtain ⟨d20, d21, _, _⟩ := hb2 k2'
  have Hb2 := Lib.hid hb2'
  have K4 := Lib.hid k4'
  clear k2 k4 k2' k4' hb2'
  go_wp2_with fail
  go_quiet (fail)
  go_wp2_with fail
  refine (HD.out _).mono ?_
  rintro e w3 ⟨rfl, hb3⟩
  clear c20 c21 f20 f21 d20 d21
  have k4 := hb_below' (hb_drewN K4.out _) hb3
  have hlt := hb_lt k4
  have hB : Below w.heap.size w w3 := below_up (below_up (((below_up (below_up (below2 _ _ _) Hb1.out) Hb2.out).setCell (Nat.le_refl _) _).setCell (Nat.le_refl _) _) (below_drewN _ _)) hb3
  have HB := Lib.hid hB
  clear hb3 hB
  have k9 := hb_new w3 (.cells #[.int .u64 u, .int .u64 g] 54)
  have k4' := hb_alloc k4 (.cells #[.int .u64 u, .int .u64 g] 54)
  have K9 := Lib.hid k9
  have K4 := Lib.hid k4'
  clear k9 k4'
  by_cases hc : 0 < v
  · have HP := Lib.hid (hpl hc)
    clear hpl hnp
    go_wp2_with fail
    refine (HP.out _).mono ?_
    rintro e w4 ⟨rfl, hb4⟩
    have j9 := hb_below' K9.out hb4
    have j4 := hb_below' K4.out hb4
    have j9' := two_set j9 (.int .u64 l2) (.int .u64 h2)
    have j4' := hb_far (hb_far j4 (a := ⟨w3.heap.size, 0, none⟩) (by show _ ≠ w3.heap.size; omega) (.int .u64 l2)) (a := ⟨w3.heap.size, 1, none⟩) (by show _ ≠ w3.heap.size; omega) (.int .u64 h2)
    obtain ⟨c90, c91, f90, f91⟩ := hb2 j9
    obtain ⟨d90, d91, _, _⟩ := hb2 j9'
    have K4' := Lib.hid j4'
    have Hb4 := Lib.hid hb4
    clear j9 j4 j9' j4' hb4
    go_wp2_with fail
    refine (HMM.out _).mono ?_
    rintro e w5 ⟨rfl, hb5⟩
    clear c90 c91 f90 f91 d90 d91
    have j4 := hb_below' K4'.out hb5
    have j4' := two_set j4 (.int .u64 l3) (.int .u64 h3)
    obtain ⟨c40, c41, f40, f41⟩ := hb2 j4
    obtain ⟨d40, d41, _, _⟩ := hb2 j4'
    have Hb5 := Lib.hid hb5
    clear j4 j4' hb5
    go_wp2
    exact bodyPost_ret (v := .agg #[.int .u64 l3, .int .u64 h3]) (by simp [results, Try.results46, d40, d41, go_sem]) rfl
      ⟨rfl, (((below_up ((((below_up (HB.out.alloc HB.out.size _) Hb4.out).setCell HB.out.size _).setCell HB.out.size _)) Hb5.out).setCell (Nat.le_succ _) _).setCell (Nat.le_succ _) _)⟩
  · obtain ⟨rfl, rfl⟩ := hnp (by omega)
    clear hpl hnp
    obtain ⟨d90, d91, _, _⟩ := hb2 K9.out
    go_wp2_with fail
    refine (HMM.out _).mono ?_
    rintro e w5 ⟨rfl, hb5⟩
    clear d90 d91
    have j4 := hb_below' K4.out hb5
    have j4' := two_set j4 (.int .u64 l3) (.int .u64 h3)
    obtain ⟨c40, c41, f40, f41⟩ := hb2 j4
    obtain ⟨d40, d41, _, _⟩ := hb2 j4'
    have Hb5 := Lib.hid hb5
    clear j4 j4' hb5
    go_wp2
    exact bodyPost_ret (v := .agg #[.int .u64 l3, .int .u64 h3]) (by simp [results, Try.results46, d40, d41, go_sem]) rfl
      ⟨rfl, ((below_up (HB.out.alloc HB.out.size _) Hb5.out).setCell (Nat.le_succ _) _).setCell (Nat.le_succ _) _⟩
end Go.Proofs.Ytfhhdlpglfjdgaa
/- Package fix: quotients of either sign; what the exported functions come to. -/
set_option linter.unusedVariables false
set_option linter.unusedSimpArgs false
namespace Go.Proofs.Ytfhhdlpglfjdgaa
open Go.RowKit

theorem ediv_neg_ceil (a den : Int) (hd : 0 < den) : (0 < (-a) % den → a / den = -((-a) / den + 1)) ∧ (¬ 0 < (-a) % den → a / den = -((-a) / den)) := by
  have e := Int.emod_add_mul_ediv (-a) den
  have r0 := Int.emod_nonneg (-a) (show den ≠ 0 by omega)
  have r1 := Int.emod_lt_of_pos (-a) hd
  refine ⟨fun h => ?_, fun h => ?_⟩
  · have key : a = (den - (-a) % den) + den * (-((-a) / den + 1)) := by
      have : den * (-((-a) / den + 1)) = -(den * ((-a) / den)) - den := by rw [Int.mul_neg, Int.mul_add]; omega
      omega
    have : ((den - (-a) % den) + den * (-((-a) / den + 1))) / den = 0 + -((-a) / den + 1) := by
      rw [Int.add_mul_ediv_left _ _ (by omega), Int.ediv_eq_zero_of_lt (by omega) (by omega)]
    rw [← key] at this
    omega
  · have key : a = 0 + den * (-((-a) / den)) := by rw [Int.mul_neg]; omega
    have : (0 + den * (-((-a) / den))) / den = 0 + -((-a) / den) := by
      rw [Int.add_mul_ediv_left _ _ (by omega)]; simp
    rw [← key] at this
    omega

theorem words_over (l0 h0 den a : Int) (w : World) (e0 : l0 = wLo a) (e1 : h0 = wHi a) (ha1 : I128 a) (hd : 0 < den) (hd1 : den ≤ 18446744073709551615) :
    Calls Try.prog 46 #[.agg #[.int .u64 l0, .int .u64 h0], .int .u64 den] w fun e w' => e = .returned (.agg #[.int .u64 (wLo (a / den)), .int .u64 (wHi (a / den))]) ∧ Below w.heap.size w w' := by
  rcases Int.lt_or_le a 0 with hn | hp
  · have bl := wLo_bd (-a)
    have bh := wHi_bd (-a)
    have ea : -a = wHi (-a) * 18446744073709551616 + wLo (-a) := by unfold wLo wHi; unfold I128 at ha1; omega
    have hw := words_div (wLo (-a)) (wHi (-a)) den bl.1 bl.2 bh.1 hd
    have r0 := Int.emod_nonneg (wHi (-a)) (show den ≠ 0 by omega)
    have r1 := Int.emod_lt_of_pos (wHi (-a)) hd
    rw [← ea] at hw
    obtain ⟨hw1, hw2, hw3, hw4⟩ := hw
    have q0 : 0 ≤ wHi (-a) / den := Int.ediv_nonneg bh.1 (by omega)
    have q1 : wHi (-a) / den ≤ wHi (-a) := Int.ediv_le_self _ bh.1
    have v0 := Int.emod_nonneg (-a) (show den ≠ 0 by omega)
    have eu : (wHi (-a) % den * 18446744073709551616 + wLo (-a)) / den = wLo ((-a) / den) := by
      show _ = (-a) / den % 18446744073709551616
      omega
    have eg : wHi (-a) / den = wHi ((-a) / den) := by
      show _ = (-a) / den / 18446744073709551616 % 18446744073709551616
      omega
    have hfin := ediv_neg_ceil a den hd
    by_cases hv : 0 < (-a) % den
    · refine (words_over_neg_raw l0 h0 (wLo (-a)) (wHi (-a)) den (wHi (-a) / den) _ _ (wLo ((-a) / den + 1)) (wHi ((-a) / den + 1)) _ _ w bh.1 hd hd1 (wrap_tdiv _ den bh.1 bh.2 hd) (by rw [hw4]; omega)
        (fun w => words_below true l0 h0 a w e1 ha1 (by simp; omega)) (fun w => words_minus l0 h0 a w e0 e1) (fun w => div64 _ _ _ w r0 r1 bl.1 bl.2 hd1)
        (fun _ w => words_plus _ _ 1 0 ((-a) / den) 1 w eu eg (by rfl) (by rfl)) (fun h => absurd (by rw [hw4]; exact hv) h) (fun w => words_minus _ _ ((-a) / den + 1) w rfl rfl)).mono ?_
      rintro e w' ⟨rfl, hb⟩
      rw [← hfin.1 hv]
      exact ⟨rfl, hb⟩
    · refine (words_over_neg_raw l0 h0 (wLo (-a)) (wHi (-a)) den (wHi (-a) / den) _ _ (wLo ((-a) / den)) (wHi ((-a) / den)) _ _ w bh.1 hd hd1 (wrap_tdiv _ den bh.1 bh.2 hd) (by rw [hw4]; omega)
        (fun w => words_below true l0 h0 a w e1 ha1 (by simp; omega)) (fun w => words_minus l0 h0 a w e0 e1) (fun w => div64 _ _ _ w r0 r1 bl.1 bl.2 hd1)
        (fun h => absurd h (by rw [hw4]; exact hv)) (fun _ => ⟨eu.symm, eg.symm⟩) (fun w => words_minus _ _ ((-a) / den) w rfl rfl)).mono ?_
      rintro e w' ⟨rfl, hb⟩
      rw [← hfin.2 hv]
      exact ⟨rfl, hb⟩
  · exact words_over_pos l0 h0 den a w e0 e1 hp ha1 hd hd1

theorem ediv_i128 (a den : Int) (ha : I128 a) (hd : 0 < den) : I128 (a / den) := by
  unfold I128 at *
  rcases Int.lt_or_le a 0 with h | h
  · have h1 : a / den < 0 := Int.ediv_neg_of_neg_of_pos h hd
    have h2 : a ≤ a / den := by
      have e := Int.lt_ediv_add_one_mul_self a hd
      have e2 : (a / den + 1) * den ≤ (a / den + 1) * 1 := Int.mul_le_mul_of_nonpos_left (by omega) (by omega)
      omega
    omega
  · have h1 : 0 ≤ a / den := Int.ediv_nonneg h (by omega)
    have h2 : a / den ≤ a := Int.ediv_le_self _ h
    omega
theorem I64.i128 {a : Int} (h : I64 a) : I128 a := by unfold I64 at h; unfold I128; omega
theorem I64.add {a b : Int} (h : I64 a) (k : I64 b) : I128 (a + b) := by unfold I64 at h k; unfold I128; omega
theorem I64.sub {a b : Int} (h : I64 a) (k : I64 b) : I128 (a - b) := by unfold I64 at h k; unfold I128; omega
theorem I64.neg {a : Int} (h : I64 a) : I128 (-a) := by unfold I64 at h; unfold I128; omega

/-- What the exported functions come to. -/
def fAdd (a b : Int) : Int := heldI (a + b)
def fSub (a b : Int) : Int := heldI (a - b)
def fNeg (a : Int) : Int := heldI (-a)
def fAbs (a : Int) : Int := heldI (absI a)
def fMul (a b : Int) : Int := heldI (a * b / 1000000)
def fDiv (a b : Int) : Int := heldI (if b < 0 then (-(a * 1000000)) / (-b) else a * 1000000 / b)
def fWhole (n : Int) : Int := heldI (n * 1000000)
def fFloor (a : Int) : Int := fWhole (heldI (a / 1000000))
def fCeil (a : Int) : Int := fWhole (heldI (-((-a) / 1000000)))
def fScale (a n d : Int) : Int := if n < 0 ∨ d < 1 then 0 else heldI (a * n / d)
def fCount (a : Int) : Int := heldI (fCeil a / 1000000)
theorem fAdd_bd (a b : Int) : I64 (fAdd a b) := heldI_bd _
theorem fSub_bd (a b : Int) : I64 (fSub a b) := heldI_bd _
theorem fNeg_bd (a : Int) : I64 (fNeg a) := heldI_bd _
theorem fAbs_bd (a : Int) : I64 (fAbs a) := heldI_bd _
theorem fMul_bd (a b : Int) : I64 (fMul a b) := heldI_bd _
theorem fDiv_bd (a b : Int) : I64 (fDiv a b) := heldI_bd _
theorem fWhole_bd (a : Int) : I64 (fWhole a) := heldI_bd _
theorem fFloor_bd (a : Int) : I64 (fFloor a) := heldI_bd _
theorem fCeil_bd (a : Int) : I64 (fCeil a) := heldI_bd _
theorem fScale_bd (a n d : Int) : I64 (fScale a n d) := by
  unfold fScale
  split
  · unfold I64; omega
  · exact heldI_bd _
theorem fCount_bd (a : Int) : I64 (fCount a) := heldI_bd _

set_option maxHeartbeats 400000 in
theorem fix_Whole (n : Int) (w : World) (hn : I64 n) :
    Calls Try.prog 28 #[.int .i64 n] w fun e w' => e = .returned (.int .i64 (fWhole n)) ∧ Below w.heap.size w w' := by
  have h1 := fun w => fix_times n 1000000 w hn (by unfold I64; omega)
  have h2 := fun w => words_held _ _ (n * 1000000) w rfl rfl (mul_i128 n 1000000 hn (by unfold I64; omega))
  have H1 := Lib.hid h1
  have H2 := Lib.hid h2
  clear h1 h2
  go_enter Try.func28, Try.ntmps28
  go_wp2_with fail
  refine (H1.out _).mono ?_
  rintro e w1 ⟨rfl, hb1⟩
  go_wp2_with fail
  refine (H2.out _).mono ?_
  rintro e w2 ⟨rfl, hb2⟩
  go_wp2
  go_ret
  exact ⟨rfl, below_up hb1 hb2⟩

/-- A Wide that lies in memory at ⟨g, o⟩ holds a sum. -/
def WideAt (w : World) (g o : Nat) (s : Int) : Prop :=
  w.cell? ⟨g, o, none⟩ = some (.int .u64 (wLo s)) ∧ w.cell? ⟨g, o + 1, none⟩ = some (.int .u64 (wHi s)) ∧ w.frozen? ⟨g, o, none⟩ = false ∧ w.frozen? ⟨g, o + 1, none⟩ = false

set_option maxHeartbeats 400000 in
theorem wide_Fit_yes (g o : Nat) (s : Int) (w : World) (hw : WideAt w g o s) (hs : I64 s) :
    Calls Try.prog 26 #[.pointer (some ⟨g, o, none⟩)] w fun e w' => e = .returned (.tuple #[.int .i64 s, .bool true]) ∧ Below w.heap.size w w' := by
  obtain ⟨c0, c1, f0, f1⟩ := hw
  have h1 := fun w => fix_told_yes (wLo s) (wHi s) s w rfl rfl hs
  have H1 := Lib.hid h1
  clear h1
  go_enter Try.func26, Try.ntmps26
  go_wp2_with (go_at_call 43; refine (H1.out _).mono ?_; rintro e w1 ⟨rfl, hb1⟩)
  go_ret2
  exact ⟨rfl, hb1⟩
set_option maxHeartbeats 400000 in
theorem wide_Fit_no (g o : Nat) (s : Int) (w : World) (hw : WideAt w g o s) (hs : ¬ I64 s) (hs1 : I128 s) :
    Calls Try.prog 26 #[.pointer (some ⟨g, o, none⟩)] w fun e w' => e = .returned (.tuple #[.int .i64 0, .bool false]) ∧ Below w.heap.size w w' := by
  obtain ⟨c0, c1, f0, f1⟩ := hw
  have h1 := fun w => fix_told_no (wLo s) (wHi s) s w rfl rfl hs hs1
  have H1 := Lib.hid h1
  clear h1
  go_enter Try.func26, Try.ntmps26
  go_wp2_with (go_at_call 43; refine (H1.out _).mono ?_; rintro e w1 ⟨rfl, hb1⟩)
  go_ret2
  exact ⟨rfl, hb1⟩

theorem WideAt.lt {w : World} {g o : Nat} {s : Int} (h : WideAt w g o s) : g < w.heap.size := World.block_lt_of_cell? w _ h.1

set_option maxHeartbeats 400000 in
theorem wide_Mean_none (g o : Nat) (n : Int) (w : World) (hn : n < 1) :
    Calls Try.prog 29 #[.pointer (some ⟨g, o, none⟩), .int .i64 n] w fun e w' => e = .returned (.tuple #[.int .i64 0, .bool false]) ∧ w' = w := by
  go_enter Try.func29, Try.ntmps29
  go_wp2
  go_ret2
  exact ⟨rfl, rfl⟩
set_option maxHeartbeats 400000 in
theorem wide_Mean (g o : Nat) (s n : Int) (w : World) (hw : WideAt w g o s) (hs : I128 s) (hn : 1 ≤ n) (hn1 : n ≤ 9223372036854775807) (hf : I64 (s / n)) :
    Calls Try.prog 29 #[.pointer (some ⟨g, o, none⟩), .int .i64 n] w fun e w' => e = .returned (.tuple #[.int .i64 (s / n), .bool true]) ∧ Below w.heap.size w w' := by
  obtain ⟨c0, c1, f0, f1⟩ := hw
  have h1 := fun w => words_over (wLo s) (wHi s) n s w rfl rfl hs (by omega) (by omega)
  have h2 := fun w => fix_told_yes _ _ (s / n) w rfl rfl hf
  have H1 := Lib.hid h1
  have H2 := Lib.hid h2
  clear h1 h2 hf hs
  go_enter Try.func29, Try.ntmps29
  go_wp2_with fail
  refine (H1.out _).mono ?_
  rintro e w1 ⟨rfl, hb1⟩
  go_wp2_with fail
  refine (H2.out _).mono ?_
  rintro e w2 ⟨rfl, hb2⟩
  go_wp2
  go_ret2
  exact ⟨rfl, below_up hb1 hb2⟩

/-- w' is w with new blocks, and the two cells at ⟨g, o⟩ stored. -/
def WideTurned (w w' : World) (g o : Nat) (s : Int) : Prop :=
  ∃ w1, Below w.heap.size w w1 ∧ w' = (w1.setCell ⟨g, o, none⟩ (.int .u64 (wLo s))).setCell ⟨g, o + 1, none⟩ (.int .u64 (wHi s))

set_option maxHeartbeats 1600000 in
theorem wide_Add (g o : Nat) (s v : Int) (w : World) (hw : WideAt w g o s) (hv : I64 v) :
    Calls Try.prog 35 #[.pointer (some ⟨g, o, none⟩), .int .i64 v] w fun e w' => e = .returned (.tuple #[]) ∧ WideTurned w w' g o (s + v) := by
  have hlt := hw.lt
  obtain ⟨c0, c1, f0, f1⟩ := hw
  have h1 := fun w => words_of v w hv
  have h2 := fun w => words_plus (wLo s) (wHi s) _ _ s v w rfl rfl rfl rfl
  have H1 := Lib.hid h1
  have H2 := Lib.hid h2
  clear h1 h2
  go_enter Try.func35, Try.ntmps35
  go_wp2_with fail
  go_region_with (first | (go_at_call 58; refine (H1.out _).mono ?_; rintro e w1 ⟨rfl, hb1⟩; have k0 := (hb1.cell (p := ⟨g, o, none⟩) hlt).trans c0; have k1 := (hb1.cell (p := ⟨g, o + 1, none⟩) hlt).trans c1; have l0 := (hb1.frozen (p := ⟨g, o, none⟩) hlt).trans f0; have l1 := (hb1.frozen (p := ⟨g, o + 1, none⟩) hlt).trans f1; have hlt1 : g < w1.heap.size := Nat.lt_of_lt_of_le hlt hb1.size; have HB1 := Lib.hid hb1; clear hb1) | (go_at_call 57; refine (H2.out _).mono ?_; rintro e w2 ⟨rfl, hb2⟩; have m0 := (hb2.cell (p := ⟨g, o, none⟩) hlt1).trans k0; have m1 := (hb2.cell (p := ⟨g, o + 1, none⟩) hlt1).trans k1; have n0 := (hb2.frozen (p := ⟨g, o, none⟩) hlt1).trans l0; have n1 := (hb2.frozen (p := ⟨g, o + 1, none⟩) hlt1).trans l1; have HB2 := Lib.hid hb2; clear hb2))
  all_goals
    go_end0
    exact ⟨rfl, w2, below_up (below_up (Below.refl _ _).drew HB1.out) HB2.out, rfl⟩

set_option maxHeartbeats 1600000 in
theorem wide_Take (g o : Nat) (s v : Int) (w : World) (hw : WideAt w g o s) (hv : I64 v) :
    Calls Try.prog 54 #[.pointer (some ⟨g, o, none⟩), .int .i64 v] w fun e w' => e = .returned (.tuple #[]) ∧ WideTurned w w' g o (s - v) := by
  have hlt := hw.lt
  obtain ⟨c0, c1, f0, f1⟩ := hw
  have h1 := fun w => words_of v w hv
  have h3 := fun w => words_minus _ _ v w rfl rfl
  have h2 := fun w => words_plus (wLo s) (wHi s) _ _ s (-v) w rfl rfl rfl rfl
  rw [show s - v = s + -v from Int.sub_eq_add_neg]
  have H1 := Lib.hid h1
  have H2 := Lib.hid h2
  have H3 := Lib.hid h3
  clear h1 h2 h3
  go_enter Try.func54, Try.ntmps54
  go_wp2_with fail
  go_region_with (first | (go_at_call 58; refine (H1.out _).mono ?_; rintro e w1 ⟨rfl, hb1⟩; have k0 := (hb1.cell (p := ⟨g, o, none⟩) hlt).trans c0; have k1 := (hb1.cell (p := ⟨g, o + 1, none⟩) hlt).trans c1; have l0 := (hb1.frozen (p := ⟨g, o, none⟩) hlt).trans f0; have l1 := (hb1.frozen (p := ⟨g, o + 1, none⟩) hlt).trans f1; have hlt1 : g < w1.heap.size := Nat.lt_of_lt_of_le hlt hb1.size; have HB1 := Lib.hid hb1; clear hb1) | (go_at_call 68; refine (H3.out _).mono ?_; rintro e w3 ⟨rfl, hb3⟩; have k0 := (hb3.cell (p := ⟨g, o, none⟩) hlt1).trans k0; have k1 := (hb3.cell (p := ⟨g, o + 1, none⟩) hlt1).trans k1; have l0 := (hb3.frozen (p := ⟨g, o, none⟩) hlt1).trans l0; have l1 := (hb3.frozen (p := ⟨g, o + 1, none⟩) hlt1).trans l1; have hlt1 : g < w3.heap.size := Nat.lt_of_lt_of_le hlt1 hb3.size; have HB3 := Lib.hid hb3; clear hb3) | (go_at_call 57; refine (H2.out _).mono ?_; rintro e w2 ⟨rfl, hb2⟩; have m0 := (hb2.cell (p := ⟨g, o, none⟩) hlt1).trans k0; have m1 := (hb2.cell (p := ⟨g, o + 1, none⟩) hlt1).trans k1; have n0 := (hb2.frozen (p := ⟨g, o, none⟩) hlt1).trans l0; have n1 := (hb2.frozen (p := ⟨g, o + 1, none⟩) hlt1).trans l1; have HB2 := Lib.hid hb2; clear hb2))
  all_goals
    go_end0
    exact ⟨rfl, w2, below_up (below_up (below_up (Below.refl _ _).drew HB1.out) HB3.out) HB2.out, rfl⟩
end Go.Proofs.Ytfhhdlpglfjdgaa
/- Contracts of slices.BinarySearch and of package rank. -/
set_option linter.unusedVariables false
set_option linter.unusedSimpArgs false
namespace Go.Proofs.Ytfhhdlpglfjdgaa
open Go.RowKit

def nl (l : List Int) : List Value := l.map (Value.int .i64)
theorem nl_length (l : List Int) : (nl l).length = l.length := by simp [nl]
theorem nl_append (l m : List Int) : nl (l ++ m) = nl l ++ nl m := by simp [nl]
theorem nl_get (l : List Int) (i : Nat) (x : Int) (h : l[i]? = some x) : (nl l)[i]? = some (.int .i64 x) := by simp [nl, h]

/-- In rising order. -/
def Rise (l : List Int) : Prop := ∀ (i j : Nat) (x y : Int), i ≤ j → l[i]? = some x → l[j]? = some y → x ≤ y
/-- How many are lower. -/
def lb (l : List Int) (t : Int) : Nat := (l.filter (fun x => decide (x < t))).length
theorem lb_le (l : List Int) (t : Int) : lb l t ≤ l.length := List.length_filter_le _ _
theorem Rise.tail {a : Int} {l : List Int} (h : Rise (a :: l)) : Rise l := fun i j x y hij hx hy => h (i + 1) (j + 1) x y (by omega) (by simpa using hx) (by simpa using hy)
theorem Rise.head {a : Int} {l : List Int} (h : Rise (a :: l)) (i : Nat) (x : Int) (hx : l[i]? = some x) : a ≤ x := h 0 (i + 1) a x (by omega) rfl (by simpa using hx)
theorem lb_nil_of (l : List Int) (t : Int) (h : ∀ (i : Nat) (x : Int), l[i]? = some x → t ≤ x) : lb l t = 0 := by
  unfold lb
  rw [List.length_eq_zero_iff, List.filter_eq_nil_iff]
  intro x hx
  obtain ⟨i, hi, rfl⟩ := List.getElem_of_mem hx
  have := h i _ (List.getElem?_eq_getElem hi)
  simp
  omega
theorem lb_iff : ∀ (l : List Int) (t : Int) (h : Rise l) (i : Nat) (x : Int), l[i]? = some x → (x < t ↔ i < lb l t)
  | [], _, _, _, _, hx => by simp at hx
  | a :: l, t, h, i, x, hx => by
    by_cases ha : a < t
    · have e : lb (a :: l) t = lb l t + 1 := by unfold lb; rw [List.filter_cons_of_pos (by simpa using ha)]; rfl
      rw [e]
      cases i with
      | zero => simp at hx; subst hx; omega
      | succ i =>
        have := lb_iff l t h.tail i x (by simpa using hx)
        omega
    · have e : lb (a :: l) t = 0 := lb_nil_of _ _ (fun j y hy => by
        have := h 0 j a y (Nat.zero_le _) rfl hy
        omega)
      rw [e]
      have := h 0 i a x (Nat.zero_le _) rfl hx
      omega

theorem cmp_isNaN (x : Int) (w : World) : Calls Try.prog 81 #[.int .i64 x] w fun e w' => e = .returned (.bool false) ∧ w' = w := by
  have hx : (x == x) = true := by simp
  go_enter Try.func81, Try.ntmps81
  go_wp2
  go_ret
  exact ⟨rfl, rfl⟩
theorem slices_isNaN (x : Int) (w : World) : Calls Try.prog 73 #[.int .i64 x] w fun e w' => e = .returned (.bool false) ∧ w' = w := by
  have hx : (x == x) = true := by simp
  go_enter Try.func73, Try.ntmps73
  go_wp2
  go_ret
  exact ⟨rfl, rfl⟩
theorem cmp_Less (b : Bool) (x y : Int) (w : World) (hb : decide (x < y) = b) : Calls Try.prog 72 #[.int .i64 x, .int .i64 y] w fun e w' => e = .returned (.bool b) ∧ w' = w := by
  have h1 := cmp_isNaN x
  have H1 := Lib.hid h1
  clear h1
  go_enter Try.func72, Try.ntmps72
  go_wp2_with fail
  refine (H1.out _).mono ?_
  rintro e w1 ⟨rfl, rfl⟩
  go_wp2
  go_ret
  exact ⟨rfl, rfl⟩

set_option maxHeartbeats 800000 in
theorem slices_BinarySearch (A : Option Addr) (cap : Nat) (l : List Int) (t : Int) (found : Bool) (w : World) (hl : l.length ≤ 4294967296) (hr : Rise l)
    (hs : ∀ ad, A = some ad → ∃ g off, ad = ⟨g, off, none⟩ ∧ ∀ j x, l[j]? = some x → w.cell? ⟨g, off + j, none⟩ = some (.int .i64 x)) (hn : A = none → l.length = 0) (hf : found = decide (l[lb l t]? = some t)) :
    Calls Try.prog 59 #[.slice A l.length cap, .int .i64 t] w fun e w' => e = .returned (.tuple #[.int .i64 (lb l t), .bool found]) ∧ w' = w := by
  have h1 := fun b x y w h => cmp_Less b x y w h
  have H1 := Lib.hid h1
  have h2 := slices_isNaN
  have H2 := Lib.hid h2
  have hle := lb_le l t
  have hi := lb_iff l t hr
  have Hi := Lib.hid hi
  have Hs := Lib.hid hs
  have Hn := Lib.hid hn
  have Hf := Lib.hid hf
  clear h1 h2 hi hr hs hn hf
  go_enter Try.func59, Try.ntmps59
  go_wp2_with fail
  go_loop [7, 8] (fun a b => ∃ i j : Nat, a = .int .i64 i ∧ b = .int .i64 j ∧ i ≤ lb l t ∧ lb l t ≤ j ∧ j ≤ l.length) (fun a b => (intOf b - intOf a).toNat)
  case atStart => exact ⟨0, l.length, rfl, rfl, Nat.zero_le _, hle, Nat.le_refl _⟩
  case round =>
    obtain ⟨i, j, rfl, rfl, hij, hjl, hjn⟩ := hrel
    by_cases hlt : i < j
    · have hm1 : (i + j) / 2 < j := by omega
      obtain ⟨ad, rfl⟩ : ∃ ad, A = some ad := by
        cases A with
        | none => have := Hn.out rfl; omega
        | some ad => exact ⟨ad, rfl⟩
      obtain ⟨g, off, rfl, hc⟩ := Hs.out _ rfl
      obtain ⟨x, hx⟩ : ∃ x, l[(i + j) / 2]? = some x := ⟨l[(i + j) / 2]'(by omega), List.getElem?_eq_getElem (by omega)⟩
      have c := hc _ _ hx
      have hiff := Hi.out _ _ hx
      clear hc hx
      by_cases hxt : x < t
      · have hlb := hiff.1 hxt
        have hl1 := fun w => H1.out true x t w (by simpa using hxt)
        have HL := Lib.hid hl1
        clear hiff hl1
        go_wp2_with fail
        refine (HL.out _).mono ?_
        rintro e w1 ⟨rfl, rfl⟩
        go_wp2_with fail
        go_round
        case rel => exact ⟨(i + j) / 2 + 1, j, by go_num, rfl, by omega, hjl, hjn⟩
        case measure => simp [intOf]; omega
      · have hlb : ¬ (i + j) / 2 < lb l t := fun h => hxt (hiff.2 h)
        have hl1 := fun w => H1.out false x t w (by simpa using hxt)
        have HL := Lib.hid hl1
        clear hiff hl1
        go_wp2_with fail
        refine (HL.out _).mono ?_
        rintro e w1 ⟨rfl, rfl⟩
        go_wp2_with fail
        go_round
        case rel => exact ⟨i, (i + j) / 2, rfl, by go_num, hij, by omega, by omega⟩
        case measure => simp [intOf]; omega
    · obtain rfl : i = lb l t := by omega
      obtain rfl : j = lb l t := by omega
      by_cases hend : lb l t < l.length
      · obtain ⟨ad, rfl⟩ : ∃ ad, A = some ad := by
          cases A with
          | none => have := Hn.out rfl; omega
          | some ad => exact ⟨ad, rfl⟩
        obtain ⟨g, off, rfl, hc⟩ := Hs.out _ rfl
        obtain ⟨x, hx⟩ : ∃ x, l[lb l t]? = some x := ⟨l[lb l t]'hend, List.getElem?_eq_getElem hend⟩
        have c := hc _ _ hx
        have hfx : found = decide (x = t) := by rw [Hf.out, hx]; simp
        clear hc hx
        by_cases hxt : x = t
        · have htt : (x == t) = true := by simp [hxt]
          have Hx := Lib.hid hxt
          have Hfx := Lib.hid hfx
          clear hxt hfx
          go_wp2_with fail
          go_ret2
          exact ⟨ret_ib rfl (by rw [Hfx.out]; simp [Hx.out]), rfl⟩
        · have htt : (x == t) = false := by simp [hxt]
          have Hx := Lib.hid hxt
          have Hfx := Lib.hid hfx
          clear hxt hfx
          go_wp2_with fail
          refine (H2.out _ _).mono ?_
          rintro e w1 ⟨rfl, rfl⟩
          go_wp2_with fail
          go_ret2
          exact ⟨ret_ib rfl (by rw [Hfx.out]; simp [Hx.out]), rfl⟩
      · have hfx : found = false := by rw [Hf.out, List.getElem?_eq_none (by omega)]; simp
        have Hfx := Lib.hid hfx
        clear hfx
        go_wp2_with fail
        go_ret2
        exact ⟨ret_ib rfl (by rw [Hfx.out]), rfl⟩
end Go.Proofs.Ytfhhdlpglfjdgaa
