/- Contracts of package window: New. -/
import Derived.Test.YtfhhdlpglfjdgaaWinH
set_option linter.unusedVariables false
set_option linter.unusedSimpArgs false
namespace Go.Proofs.Ytfhhdlpglfjdgaa
open Go.RowKit

theorem win_New_no (T : WT) (w : World) (hT : T.right = false) :
    Calls Try.prog 7 #[.agg #[.int .i64 T.m, .int .i64 T.a, .int .i64 T.s, .int .i64 T.p]] w fun e w' => e = .returned (.tuple #[.pointer none, .int .i64 3]) ∧ Below w.heap.size w w' := by
  have h1 := fun w => win_Right T w
  rw [hT] at h1
  have H1 := Lib.hid h1
  clear h1
  go_enter Try.func7, Try.ntmps7
  go_wp2_with fail
  refine (H1.out _).mono ?_
  rintro e w1 ⟨rfl, hb⟩
  go_wp2
  go_ret2
  exact ⟨rfl, below_up (below1 _ _) hb⟩

/-- The block of a new window. -/
def newCells (r : Nat) (T : WT) (best order : Value) : Array Value := #[.pointer (some ⟨r, 0, none⟩), .int .i64 T.m, .int .i64 T.a, .int .i64 T.s, .int .i64 T.p, .int .i64 0, .bool false, .int .u64 0, .int .u64 0, best, order]

/-- What New leaves, where neither mono nor rank is asked. -/
theorem New.fin {w W : World} {r : Nat} {T : WT} {a : Int} (ha : a = T.a) (hwr : w.heap.size ≤ r) (hr : W.heap[r]? = some (.cells #[.int .i64 4096, .int .i64 0, .int .i64 0, .slice none 0 0] 80 (0, 0))) (hB : Below w.heap.size w W) (hs : W.heap.size = r + 1) (h3 : ¬ (a = 3 ∨ a = 4)) (h6 : ¬ a = 6) :
    ∃ g F, Ending.returned (.tuple #[.pointer (some ⟨W.heap.size, 0, none⟩), .int .i64 0]) = .returned (.tuple #[.pointer (some ⟨g, 0, none⟩), .int .i64 0]) ∧ Below w.heap.size w (W.alloc (.cells #[.pointer (some ⟨r, 0, none⟩), .int .i64 T.m, .int .i64 a, .int .i64 T.s, .int .i64 T.p, .int .i64 0, .bool false, .int .u64 0, .int .u64 0, .pointer none, .pointer none] 60)) ∧
      WinAt (W.alloc (.cells #[.pointer (some ⟨r, 0, none⟩), .int .i64 T.m, .int .i64 a, .int .i64 T.s, .int .i64 T.p, .int .i64 0, .bool false, .int .u64 0, .int .u64 0, .pointer none, .pointer none] 60)) F g T 0 false 0 [] ∧ ∀ k, F k → w.heap.size ≤ k := by
  subst ha
  refine ⟨W.heap.size, fun k => k = r ∨ k = W.heap.size, rfl, hB.alloc (by omega) _, ⟨r, fun k => k = r, fun k => k = W.heap.size, ⟨rfl, ?_, 0, 0, .slice none 0 0, hb_alloc hr _, .inl ⟨rfl, rfl, rfl⟩⟩, ⟨.pointer none, .pointer none, fun _ => False, fun _ => False, hb_new _ _, .inr ⟨h3, rfl, fun _ h => h⟩, .inr ⟨h6, rfl, fun _ h => h⟩, fun h => h, fun h => h, fun _ h => h.elim, fun k => by simp⟩, ?_, fun k => Iff.rfl, ?_⟩, ?_⟩
  · rintro k rfl; simp; omega
  · rintro k rfl; omega
  · intro x hx; simp at hx
  · rintro k (rfl | rfl) <;> omega

theorem New.mono {w W : World} {r : Nat} {T : WT} {a : Int} (ha : a = T.a) (hwr : w.heap.size ≤ r) (hr : W.heap[r]? = some (.cells #[.int .i64 4096, .int .i64 0, .int .i64 0, .slice none 0 0] 80 (0, 0))) (hB : Below w.heap.size w W) (hs : W.heap.size = r + 1) {high : Bool} (h3 : a = 3 ∨ a = 4) (h4 : high = decide (a = 4)) (h6 : ¬ a = 6) :
    ∃ g F, Ending.returned (.tuple #[.pointer (some ⟨W.heap.size, 0, none⟩), .int .i64 0]) = .returned (.tuple #[.pointer (some ⟨g, 0, none⟩), .int .i64 0]) ∧ Below w.heap.size w ((W.alloc (.cells #[.pointer (some ⟨r, 0, none⟩), .int .i64 T.m, .int .i64 a, .int .i64 T.s, .int .i64 T.p, .int .i64 0, .bool false, .int .u64 0, .int .u64 0, (.pointer (some ⟨W.heap.size + 1, 0, none⟩)), (.pointer none)] 60)).alloc (.cells #[.bool high, .int .i64 0, .int .i64 0, .slice none 0 0] 83)) ∧
      WinAt ((W.alloc (.cells #[.pointer (some ⟨r, 0, none⟩), .int .i64 T.m, .int .i64 a, .int .i64 T.s, .int .i64 T.p, .int .i64 0, .bool false, .int .u64 0, .int .u64 0, (.pointer (some ⟨W.heap.size + 1, 0, none⟩)), (.pointer none)] 60)).alloc (.cells #[.bool high, .int .i64 0, .int .i64 0, .slice none 0 0] 83)) F g T 0 false 0 [] ∧ ∀ k, F k → w.heap.size ≤ k := by
  have hn := hb_new (W.alloc (.cells #[.pointer (some ⟨r, 0, none⟩), .int .i64 T.m, .int .i64 a, .int .i64 T.s, .int .i64 T.p, .int .i64 0, .bool false, .int .u64 0, .int .u64 0, (.pointer (some ⟨W.heap.size + 1, 0, none⟩)), (.pointer none)] 60)) (.cells #[.bool high, .int .i64 0, .int .i64 0, .slice none 0 0] 83)
  simp only [World.size_alloc] at hn
  subst ha
  refine ⟨W.heap.size, fun k => k = r ∨ (k = W.heap.size ∨ k = W.heap.size + 1), rfl, (hB.alloc (by omega) _).alloc (by simp; omega) _, ⟨r, fun k => k = r, fun k => k = W.heap.size ∨ k = W.heap.size + 1, ⟨rfl, ?_, 0, 0, .slice none 0 0, hb_alloc (hb_alloc hr _) _, .inl ⟨rfl, rfl, rfl⟩⟩, ⟨(.pointer (some ⟨W.heap.size + 1, 0, none⟩)), (.pointer none), (fun k => k = W.heap.size + 1), (fun _ => False), hb_alloc (hb_new _ _) _, .inl ⟨h3, W.heap.size + 1, 0, rfl, ⟨rfl, by rintro k rfl; simp, .slice none 0 0, by rw [← h4]; exact hn, RowQ.nil _ _ _ _, by simp [Value.ownBlock], by simp [Value.ownBlock]⟩, by simp [vals], Int.le_refl _⟩, .inr ⟨h6, rfl, fun _ h => h⟩, ?_, ?_, ?_, fun k => by simp⟩, ?_, fun k => Iff.rfl, ?_⟩, ?_⟩
  · rintro k rfl; simp; omega
  · intro h; (try exact h); (try omega)
  · intro h; (try exact h); (try omega)
  · intro k h h'; first | exact h.elim | exact h'.elim
  · rintro k rfl; omega
  · intro x hx; simp at hx
  · rintro k (rfl | rfl | rfl) <;> omega

theorem New.rank {w W : World} {r : Nat} {T : WT} {a : Int} (ha : a = T.a) (hwr : w.heap.size ≤ r) (hr : W.heap[r]? = some (.cells #[.int .i64 4096, .int .i64 0, .int .i64 0, .slice none 0 0] 80 (0, 0))) (hB : Below w.heap.size w W) (hs : W.heap.size = r + 1) (h3 : ¬ (a = 3 ∨ a = 4)) (h6 : a = 6) :
    ∃ g F, Ending.returned (.tuple #[.pointer (some ⟨W.heap.size, 0, none⟩), .int .i64 0]) = .returned (.tuple #[.pointer (some ⟨g, 0, none⟩), .int .i64 0]) ∧ Below w.heap.size w ((W.alloc (.cells #[.pointer (some ⟨r, 0, none⟩), .int .i64 T.m, .int .i64 a, .int .i64 T.s, .int .i64 T.p, .int .i64 0, .bool false, .int .u64 0, .int .u64 0, (.pointer none), (.pointer (some ⟨W.heap.size + 1, 0, none⟩))] 60)).alloc (.cells #[.slice none 0 0] 86)) ∧
      WinAt ((W.alloc (.cells #[.pointer (some ⟨r, 0, none⟩), .int .i64 T.m, .int .i64 a, .int .i64 T.s, .int .i64 T.p, .int .i64 0, .bool false, .int .u64 0, .int .u64 0, (.pointer none), (.pointer (some ⟨W.heap.size + 1, 0, none⟩))] 60)).alloc (.cells #[.slice none 0 0] 86)) F g T 0 false 0 [] ∧ ∀ k, F k → w.heap.size ≤ k := by
  have hn := hb_new (W.alloc (.cells #[.pointer (some ⟨r, 0, none⟩), .int .i64 T.m, .int .i64 a, .int .i64 T.s, .int .i64 T.p, .int .i64 0, .bool false, .int .u64 0, .int .u64 0, (.pointer none), (.pointer (some ⟨W.heap.size + 1, 0, none⟩))] 60)) (.cells #[.slice none 0 0] 86)
  simp only [World.size_alloc] at hn
  subst ha
  refine ⟨W.heap.size, fun k => k = r ∨ (k = W.heap.size ∨ k = W.heap.size + 1), rfl, (hB.alloc (by omega) _).alloc (by simp; omega) _, ⟨r, fun k => k = r, fun k => k = W.heap.size ∨ k = W.heap.size + 1, ⟨rfl, ?_, 0, 0, .slice none 0 0, hb_alloc (hb_alloc hr _) _, .inl ⟨rfl, rfl, rfl⟩⟩, ⟨(.pointer none), (.pointer (some ⟨W.heap.size + 1, 0, none⟩)), (fun _ => False), (fun k => k = W.heap.size + 1), hb_alloc (hb_new _ _) _, .inr ⟨h3, rfl, fun _ h => h⟩, .inl ⟨h6, W.heap.size + 1, [], rfl, ⟨rfl, by rintro k rfl; simp, .slice none 0 0, hn, RowQ.nil _ _ _ _, by simp [Value.ownBlock], by simp [Value.ownBlock]⟩, fun i j x y _ hx => by simp at hx, List.Perm.refl _⟩, ?_, ?_, ?_, fun k => by simp⟩, ?_, fun k => Iff.rfl, ?_⟩, ?_⟩
  · rintro k rfl; simp; omega
  · intro h; (try exact h); (try omega)
  · intro h; (try exact h); (try omega)
  · intro k h h'; first | exact h.elim | exact h'.elim
  · rintro k rfl; omega
  · intro x hx; simp at hx
  · rintro k (rfl | rfl | rfl) <;> omega

set_option maxRecDepth 100000 in
set_option maxHeartbeats 1600000 in
theorem win_New (T : WT) (w : World) (hT : T.right = true) :
    Calls Try.prog 7 #[.agg #[.int .i64 T.m, .int .i64 T.a, .int .i64 T.s, .int .i64 T.p]] w fun e w' => ∃ g F, e = .returned (.tuple #[.pointer (some ⟨g, 0, none⟩), .int .i64 0]) ∧ Below w.heap.size w w' ∧ WinAt w' F g T 0 false 0 [] ∧ ∀ k, F k → w.heap.size ≤ k := by
  have h1 := fun w => win_Right T w
  rw [hT] at h1
  have H1 := Lib.hid h1
  have HT := Lib.hid hT
  clear h1 hT
  go_enter Try.func7, Try.ntmps7
  go_wp2_with fail
  refine (H1.out _).mono ?_
  rintro e w1 ⟨rfl, hb1⟩
  have hBW : Below w.heap.size w w1 := below_up (below1 _ _) hb1
  have hs := hb_below' (hb_new w (.cells #[.int .i64 T.m, .int .i64 T.a, .int .i64 T.s, .int .i64 T.p] 23)) hb1
  have HBW := Lib.hid hBW
  have HS := Lib.hid hs
  have hlt : w.heap.size < w1.heap.size := hb_lt hs
  have k0 := hb_cell hs 0
  have k1 := hb_cell hs 1
  have k2 := hb_cell hs 2
  have k3 := hb_cell hs 3
  simp only [List.getElem?_toArray, List.getElem?_cons_zero, List.getElem?_cons_succ] at k0 k1 k2 k3
  have ha : T.a = 1 ∨ T.a = 2 ∨ T.a = 3 ∨ T.a = 4 ∨ T.a = 5 ∨ T.a = 6 := by
    have := HT.out
    simp only [WT.right, decide_eq_true_eq] at this
    omega
  obtain ⟨a, hTa⟩ : ∃ a, a = T.a := ⟨_, rfl⟩
  have HTa := Lib.hid hTa
  clear hBW hs hb1
  rw [← hTa] at k1 ha
  clear hTa
  go_wp2_with fail
  refine (ring_New w1).mono ?_
  rintro e w1' ⟨rfl, rfl⟩
  obtain ⟨W, hW⟩ : ∃ W, W = w1.alloc (.cells #[.int .i64 4096, .int .i64 0, .int .i64 0, .slice none 0 0] 80) := ⟨_, rfl⟩
  have d0 : W.cell? ⟨w.heap.size, 0, none⟩ = some (.int .i64 T.m) := by rw [hW]; exact cell_alloc hlt k0
  have d1 : W.cell? ⟨w.heap.size, 1, none⟩ = some (.int .i64 a) := by rw [hW]; exact cell_alloc hlt k1
  have d2 : W.cell? ⟨w.heap.size, 2, none⟩ = some (.int .i64 T.s) := by rw [hW]; exact cell_alloc hlt k2
  have d3 : W.cell? ⟨w.heap.size, 3, none⟩ = some (.int .i64 T.p) := by rw [hW]; exact cell_alloc hlt k3
  have hWs : W.heap.size = w1.heap.size + 1 := by rw [hW]; simp
  have hr : W.heap[w1.heap.size]? = some (.cells #[.int .i64 4096, .int .i64 0, .int .i64 0, .slice none 0 0] 80 (0, 0)) := by rw [hW]; exact hb_new _ _
  have hB : Below w.heap.size w W := by rw [hW]; exact HBW.out.alloc (by omega) _
  obtain ⟨r, hrn⟩ : ∃ r, r = w1.heap.size := ⟨_, rfl⟩
  have hlt2 : w.heap.size < W.heap.size := by omega
  have hwr : w.heap.size ≤ r := by omega
  rw [← hW]
  rw [← hrn] at hr hWs
  rw [← hrn]
  have Hr := Lib.hid hr
  have HB := Lib.hid hB
  have HWs := Lib.hid hWs
  clear hr hB hWs hW hrn k0 k1 k2 k3 HS HBW hlt
  rcases ha with rfl | rfl | rfl | rfl | rfl | rfl
  · go_wp2_with fail
    go_ret2
    exact New.fin HTa.out hwr Hr.out HB.out HWs.out (by omega) (by omega)
  · go_wp2_with fail
    go_ret2
    exact New.fin HTa.out hwr Hr.out HB.out HWs.out (by omega) (by omega)
  · go_wp2_with fail
    refine (mono_New false _).mono ?_
    rintro e w5 ⟨rfl, rfl⟩
    go_wp2_with fail
    go_ret2
    exact New.mono HTa.out hwr Hr.out HB.out HWs.out (by omega) (by decide) (by omega)
  · go_wp2_with fail
    refine (mono_New true _).mono ?_
    rintro e w5 ⟨rfl, rfl⟩
    go_wp2_with fail
    go_ret2
    exact New.mono HTa.out hwr Hr.out HB.out HWs.out (by omega) (by decide) (by omega)
  · go_wp2_with fail
    go_ret2
    exact New.fin HTa.out hwr Hr.out HB.out HWs.out (by omega) (by omega)
  · go_wp2_with fail
    refine (rank_New _).mono ?_
    rintro e w5 ⟨rfl, rfl⟩
    go_wp2_with fail
    go_ret2
    exact New.rank HTa.out hwr Hr.out HB.out HWs.out (by omega) (by omega)
end Go.Proofs.Ytfhhdlpglfjdgaa
