/- Contracts of package mono: Take; and all of them told by footprints. -/
import Derived.Test.YtfhhdlpglfjdgaaMonoB
import Derived.Test.YtfhhdlpglfjdgaaFrame
set_option linter.unusedVariables false
set_option linter.unusedSimpArgs false
namespace Go.Proofs.Ytfhhdlpglfjdgaa
open Go.RowKit

theorem setCell_drewN (w : World) (a : Addr) (v : Value) : ∀ n, (w.drewN n).setCell a v = (w.setCell a v).drewN n := fun _ => rfl

theorem mono_Take_none (g : Nat) (high : Bool) (come : Int) (v : Value) (w : World) (h : MonoBlk w g high come come v) (h0 : 0 ≤ come) (h2 : come ≤ 9223372036854775807) :
    Calls Try.prog 55 #[.pointer (some ⟨g, 0, none⟩)] w fun e w' => e = .returned (.bool false) ∧ Below w.heap.size w w' := by
  have hL := fun w h => mono_Len g high come come v w h h0 (Int.le_refl _) h2
  have HL := Lib.hid hL
  have H := Lib.hid h
  clear hL h
  go_enter Try.func55, Try.ntmps55
  go_wp2_with fail
  refine (HL.out _ H.out).mono ?_
  rintro e w1 ⟨rfl, n, rfl⟩
  go_wp2
  go_ret
  exact ⟨rfl, below_drewN _ _⟩

set_option maxHeartbeats 1600000 in
theorem mono_Take_keep (g h off n cap : Nat) (high : Bool) (come left a : Int) (w : World) (hm : MonoBlk w g high come left (.slice (some ⟨h, off, none⟩) n cap)) (hn : 0 < n) (h0 : 0 ≤ left) (h1 : left < come) (h2 : come ≤ 4611686018427387904)
    (hc : w.cell? ⟨h, off + 1, none⟩ = some (.int .i64 a)) (ha : a ≠ left) :
    Calls Try.prog 55 #[.pointer (some ⟨g, 0, none⟩)] w fun e w' => e = .returned (.bool true) ∧ ∃ n, w' = (w.setCell ⟨g, 2, none⟩ (.int .i64 (left + 1))).drewN n := by
  have hL := fun w h' => mono_Len g high come left (.slice (some ⟨h, off, none⟩) n cap) w h' h0 (by omega) (by omega)
  have HL := Lib.hid hL
  have H := Lib.hid hm
  have c2 := hb_cell hm 2
  have c3 := hb_cell hm 3
  have f2 := hb_free hm 2
  simp only [List.getElem?_toArray, List.getElem?_cons_zero, List.getElem?_cons_succ] at c2 c3
  have ht : (come - left == 0) = false := by simp; omega
  have hna : (a == left) = false := by simp; omega
  have hnp : decide (0 < (n : Int)) = true := by simp; omega
  clear hL hm ha
  go_enter Try.func55, Try.ntmps55
  go_wp2_with fail
  refine (HL.out _ H.out).mono ?_
  rintro e w1 ⟨rfl, m, rfl⟩
  go_wp2
  go_quiet (fail)
  go_wp2
  go_ret
  exact ⟨rfl, m + nq, by first | rfl | rw [World.drewN_drewN, setCell_drewN]⟩

set_option maxHeartbeats 1600000 in
theorem mono_Take_drop (g h off n cap : Nat) (high : Bool) (come left : Int) (w : World) (hm : MonoBlk w g high come left (.slice (some ⟨h, off, none⟩) n cap)) (hn : 0 < n) (hnc : n ≤ cap) (hcm : cap ≤ maxLen) (h0 : 0 ≤ left) (h1 : left < come) (h2 : come ≤ 4611686018427387904)
    (hc : w.cell? ⟨h, off + 1, none⟩ = some (.int .i64 left)) :
    Calls Try.prog 55 #[.pointer (some ⟨g, 0, none⟩)] w fun e w' => e = .returned (.bool true) ∧ ∃ m, w' = ((w.setCell ⟨g, 3, none⟩ (if cap = 1 then .slice (some ⟨h, off, none⟩) 0 0 else .slice (some ⟨h, off + 1 * 2, none⟩) (n - 1) (cap - 1))).setCell ⟨g, 2, none⟩ (.int .i64 (left + 1))).drewN m := by
  have hL := fun w h' => mono_Len g high come left (.slice (some ⟨h, off, none⟩) n cap) w h' h0 (by omega) (by omega)
  have HL := Lib.hid hL
  have H := Lib.hid hm
  have c2 := hb_cell hm 2
  have c3 := hb_cell hm 3
  have f2 := hb_free hm 2
  have f3 := hb_free hm 3
  simp only [List.getElem?_toArray, List.getElem?_cons_zero, List.getElem?_cons_succ] at c2 c3
  have ht : (come - left == 0) = false := by simp; omega
  have hna : (left == left) = true := by simp
  have hnp : decide (0 < (n : Int)) = true := by simp; omega
  have hci : (n : Int) ≤ cap := by omega
  have hni : (1 : Int) ≤ n := by omega
  unfold maxLen at hcm
  clear hL hm
  by_cases hcap : cap = 1
  · subst hcap
    obtain rfl : n = 1 := by omega
    rw [if_pos rfl]
    go_enter Try.func55, Try.ntmps55
    go_wp2_with fail
    refine (HL.out _ H.out).mono ?_
    rintro e w1 ⟨rfl, m, rfl⟩
    go_wp2
    go_quiet (fail)
    go_wp2
    go_region
    all_goals
      go_wp2
      go_ret
      exact ⟨rfl, _, rfl⟩
  · have hcap1 : ¬ cap ≤ 1 := by omega
    rw [if_neg hcap]
    go_enter Try.func55, Try.ntmps55
    go_wp2_with fail
    refine (HL.out _ H.out).mono ?_
    rintro e w1 ⟨rfl, m, rfl⟩
    go_wp2
    go_quiet (fail)
    go_wp2
    go_region
    all_goals
      go_wp2
      go_ret
      exact ⟨rfl, _, rfl⟩

/-- A Mono at block g. -/
def MonoAt (w : World) (F : Nat → Prop) (g : Nat) (high : Bool) (come left : Int) (l : List (Int × Int)) : Prop :=
  F g ∧ (∀ k, F k → k < w.heap.size) ∧ ∃ v, MonoBlk w g high come left v ∧ RowQ w 0 101 2 v l.length (kc l) ∧ v.ownBlock ≠ some g ∧ ∀ k, v.ownBlock = some k → F k
theorem MonoAt.keep {w w' : World} {F : Nat → Prop} {g : Nat} {high : Bool} {come left : Int} {l : List (Int × Int)} (h : MonoAt w F g high come left l) (hk : ∀ k, F k → w'.heap[k]? = w.heap[k]?) (hs : w.heap.size ≤ w'.heap.size) : MonoAt w' F g high come left l := by
  obtain ⟨h1, h2, v, h3, h4, h5, h6⟩ := h
  exact ⟨h1, fun k hk' => Nat.lt_of_lt_of_le (h2 k hk') hs, v, (hk g h1).trans h3, h4.keep (fun k hk' => hk k (h6 k hk')), h5, h6⟩

theorem mono_Put_at (F : Nat → Prop) (g : Nat) (high : Bool) (come left v : Int) (l : List (Int × Int)) (w : World) (hm : MonoAt w F g high come left l) (h0 : 0 ≤ come) (h2 : come ≤ 4611686018427387904) (hl : l.length ≤ 4294967296) :
    Calls Try.prog 36 #[.pointer (some ⟨g, 0, none⟩), .int .i64 v] w fun e w' => e = .returned (.tuple #[]) ∧ ∃ F', Ext F F' w w' ∧ Fr F w w' ∧ MonoAt w' F' g high (come + 1) left (l.take (mcut high v l l.length) ++ [(v, come)]) := by
  obtain ⟨hg, hF, v0, hb, hq, hne, hown⟩ := hm
  have key : ∀ w', MonoPut w w' g 0 high (come + 1) left (l.take (mcut high v l l.length) ++ [(v, come)]) v0 → ∃ F', Ext F F' w w' ∧ Fr F w w' ∧ MonoAt w' F' g high (come + 1) left (l.take (mcut high v l l.length) ++ [(v, come)]) := by
    rintro w' ⟨h, off, cap, w1, hq1, hgr, hor, rfl⟩
    have hgs := hF g hg
    have hblk : w1.heap[g]? = _ := (hgr.block g hgs (fun e => hne e.symm)).trans hb
    have hh : h < w1.heap.size := (hq1.lt h rfl).2
    have hhg : h ≠ g := by rintro rfl; exact hor.elim hne (fun x => by omega)
    refine ⟨fun k => F k ∨ k = h, ?_, ?_, .inl hg, ?_, .slice (some ⟨h, off, none⟩) (l.take (mcut high v l l.length) ++ [(v, come)]).length cap, ?_, ?_, ?_, ?_⟩
    · intro k hk
      rcases hk with hk | rfl
      · exact .inl hk
      · rcases hor with e | e
        · exact .inl (hown _ e)
        · exact .inr ⟨e, by simpa [World.setCell] using hh⟩
    · exact ((Fr.grown hgr hown).setCell (.inl hg) _).setCell (.inl hg) _
    · intro k hk
      simp only [World.size_setCell]
      rcases hk with hk | rfl
      · exact Nat.lt_of_lt_of_le (hF k hk) hgr.size
      · exact hh
    · have := hb_set (hb_set hblk 3 (.slice (some ⟨h, off, none⟩) (l.take (mcut high v l l.length) ++ [(v, come)]).length cap)) 1 (.int .i64 (come + 1))
      simpa [MonoBlk] using this
    · refine hq1.keep fun k hk => ?_
      have : k = h := by simpa [Value.ownBlock] using hk.symm
      subst this
      rw [Below.heap_setCell _ _ _ _ (by exact hhg), Below.heap_setCell _ _ _ _ (by exact hhg)]
    · simpa [Value.ownBlock] using hhg
    · intro k hk
      exact .inr (by simpa [Value.ownBlock] using hk.symm)
  rcases hq.2 with ⟨rfl, hn⟩ | ⟨h, off, cap, cur, rfl, _, hh, hnc, hcm, hcs, hr⟩
  · obtain rfl : l = [] := List.eq_nil_of_length_eq_zero hn
    refine (mono_Put_none g 0 high come left v w hb (Nat.zero_le _) h0 h2).mono ?_
    rintro e w' ⟨rfl, hp⟩
    exact ⟨rfl, key w' hp⟩
  · refine (mono_Put_some g 0 h off cap high come left v l w hb hq (by simpa [Value.ownBlock] using hne) (Nat.zero_le _) h0 h2 hl hnc hcm (fun j u hj => by rw [hb_cell hh]; exact hr j u hj)).mono ?_
    rintro e w' ⟨rfl, hp⟩
    exact ⟨rfl, key w' hp⟩

theorem mono_Take_at (F : Nat → Prop) (g : Nat) (high : Bool) (come left : Int) (x : Int × Int) (l : List (Int × Int)) (w : World) (hm : MonoAt w F g high come left (x :: l)) (h0 : 0 ≤ left) (h1 : left < come) (h2 : come ≤ 4611686018427387904) :
    Calls Try.prog 55 #[.pointer (some ⟨g, 0, none⟩)] w fun e w' => e = .returned (.bool true) ∧ Fr F w w' ∧ MonoAt w' F g high come (left + 1) (if x.2 = left then l else x :: l) := by
  obtain ⟨hg, hF, v0, hb, hq, hne, hown⟩ := hm
  rcases hq.2 with ⟨rfl, hn⟩ | ⟨h, off, cap, cur, rfl, hbase, hh, hnc, hcm, hcs, hr⟩
  · simp at hn
  · have hgk := kc_get (x :: l) 0 x rfl
    have hc1 : w.cell? ⟨h, off + 1, none⟩ = some (.int .i64 x.2) := by rw [hb_cell hh]; exact hr 1 _ hgk.2
    have hhg : h ≠ g := by simpa [Value.ownBlock] using hne
    have hhF : F h := hown h rfl
    by_cases hx : x.2 = left
    · rw [if_pos hx]
      refine (mono_Take_drop g h off (x :: l).length cap high come left w hb (by simp) hnc hcm h0 h1 h2 (by rw [hc1, hx])).mono ?_
      rintro e w' ⟨rfl, m, rfl⟩
      refine ⟨rfl, (((Fr.refl F w).setCell (.inl hg) _).setCell (.inl hg) _).drewN _, hg, by simpa [World.setCell] using hF, (if cap = 1 then .slice (some ⟨h, off, none⟩) 0 0 else .slice (some ⟨h, off + 1 * 2, none⟩) ((x :: l).length - 1) (cap - 1)), ?_, ?_, ?_, ?_⟩
      · have := hb_set (hb_set hb 3 (if cap = 1 then .slice (some ⟨h, off, none⟩) 0 0 else .slice (some ⟨h, off + 1 * 2, none⟩) ((x :: l).length - 1) (cap - 1))) 2 (.int .i64 (left + 1))
        exact this
      · have hkeep : ∀ {v : Value} {n xs}, RowQ w 0 101 2 v n xs → v.ownBlock = some h → RowQ (((w.setCell ⟨g, 3, none⟩ (if cap = 1 then .slice (some ⟨h, off, none⟩) 0 0 else .slice (some ⟨h, off + 1 * 2, none⟩) ((x :: l).length - 1) (cap - 1))).setCell ⟨g, 2, none⟩ (.int .i64 (left + 1))).drewN m) 0 101 2 v n xs := by
          intro v n xs hv he
          refine RowQ.drewN (hv.keep fun k hk => ?_) m
          have : k = h := by rw [he] at hk; simpa using hk.symm
          subst this
          rw [Below.heap_setCell _ _ _ _ (by exact hhg), Below.heap_setCell _ _ _ _ (by exact hhg)]
        by_cases hcap : cap = 1
        · have hl0 : l = [] := by
            cases l with
            | nil => rfl
            | cons a b => simp at hnc; omega
          subst hl0
          rw [if_pos hcap] at *
          exact hkeep hq.empty rfl
        · rw [if_neg hcap] at *
          have := hq.drop (k := 1) (by simp)
          rw [kc_drop] at this
          exact hkeep this rfl
      · split <;> simpa [Value.ownBlock] using hhg
      · intro k hk
        have : k = h := by split at hk <;> simpa [Value.ownBlock] using hk.symm
        subst this
        exact hhF
    · rw [if_neg hx]
      refine (mono_Take_keep g h off (x :: l).length cap high come left x.2 w hb (by simp) h0 h1 h2 hc1 hx).mono ?_
      rintro e w' ⟨rfl, m, rfl⟩
      refine ⟨rfl, ((Fr.refl F w).setCell (.inl hg) _).drewN _, hg, by simpa [World.setCell] using hF, .slice (some ⟨h, off, none⟩) (x :: l).length cap, ?_, ?_, hne, hown⟩
      · have := hb_set hb 2 (.int .i64 (left + 1))
        exact this
      · refine RowQ.drewN (hq.keep fun k hk => ?_) m
        have : k = h := by simpa [Value.ownBlock] using hk.symm
        subst this
        rw [Below.heap_setCell _ _ _ _ (by exact hhg)]
end Go.Proofs.Ytfhhdlpglfjdgaa
