/- Contracts of package window: Read. -/
import Derived.Test.YtfhhdlpglfjdgaaWinG
set_option linter.unusedVariables false
set_option linter.unusedSimpArgs false
namespace Go.Proofs.Ytfhhdlpglfjdgaa
open Go.RowKit

theorem WinAt.come {w : World} {F : Nat → Prop} {g : Nat} {T : WT} {clock : Int} {begun : Bool} {N : Int} {l : List (Int × Int)} (h : WinAt w F g T clock begun N l) (t : Int) (ht : stale begun clock t = false) :
    Calls Try.prog 23 #[.pointer (some ⟨g, 0, none⟩), .int .i64 t] w fun e w' => e = .returned (.int .i64 0) ∧ Fr F w w' ∧ WinAt w' F g T t true N l := by
  obtain ⟨r, F1, F0, h1, h2, h3, h4, h5⟩ := h
  have hg := h2.at.1
  refine (win_come_st F0 g r T clock N _ t begun _ _ w h2 ht).mono ?_
  rintro e w' ⟨rfl, hf, hr⟩
  exact ⟨rfl, hf.mono (fun k hk => by subst hk; exact (h4 _).2 (.inr hg)), r, F1, F0, h1.keep (fun k hk => hf.block k (h1.2.1 k hk) (by rintro rfl; exact h3 _ hk hg)) hf.size, hr, h3, h4, h5⟩

/-- In the midst of Read: the box of the result lies at b. -/
structure ReadMid (F : Nat → Prop) (w wx : World) (F' : Nat → Prop) (g : Nat) (T : WT) (t N : Int) (l : List (Int × Int)) (a b : Int) : Prop where
  fr : Fr F w wx
  ext : Ext F F' w wx
  win : WinAt wx F' g T t true N l
  blk : wx.heap[w.heap.size]? = some (.cells #[.int .i64 a, .int .i64 b] 43 (0, 0))
  out : ¬ F' w.heap.size
theorem ReadMid.below {F : Nat → Prop} {w wx wy : World} {F' : Nat → Prop} {g : Nat} {T : WT} {t N : Int} {l : List (Int × Int)} {a b : Int} (h : ReadMid F w wx F' g T t N l a b) (hb : Below wx.heap.size wx wy) : ReadMid F w wy F' g T t N l a b :=
  ⟨h.fr.trans (Fr.ofBelow (F := F') hb) h.ext, fun k hk => (h.ext k hk).imp id (fun h => ⟨h.1, Nat.lt_of_lt_of_le h.2 hb.size⟩), h.win.below hb, hb_below' h.blk hb, h.out⟩
theorem ReadMid.store {F : Nat → Prop} {w wx : World} {F' : Nat → Prop} {g : Nat} {T : WT} {t N : Int} {l : List (Int × Int)} {a b c d : Int} (h : ReadMid F w wx F' g T t N l a b) :
    ReadMid F w ((wx.setCell ⟨w.heap.size, 0, none⟩ (.int .i64 c)).setCell ⟨w.heap.size, 1, none⟩ (.int .i64 d)) F' g T t N l c d := by
  refine ⟨(h.fr.setCell (p := ⟨w.heap.size, 0, none⟩) (.inr (Nat.le_refl _)) _).setCell (p := ⟨w.heap.size, 1, none⟩) (.inr (Nat.le_refl _)) _, ?_, h.win.keep (fun k hk => ?_) (by simp only [sz_set]; exact Nat.le_refl _), two_set h.blk _ _, h.out⟩
  · intro k hk
    simp only [sz_set]
    exact h.ext k hk
  · have hne : k ≠ w.heap.size := by rintro rfl; exact h.out hk
    rw [Below.heap_setCell _ _ _ _ (by exact hne), Below.heap_setCell _ _ _ _ (by exact hne)]

theorem ring_Len_at (F : Nat → Prop) (g : Nat) (l : List (Int × Int)) (w : World) (hr : RingAt w F g l) : Calls Try.prog 25 #[.pointer (some ⟨g, 0, none⟩)] w fun e w' => e = .returned (.int .i64 l.length) ∧ w' = w := by
  obtain ⟨_, _, frm, L, v, hb, _⟩ := hr
  exact ring_Len g 4096 frm l.length v w hb

theorem wide_Fit_st (g o : Nat) (s : Int) (w : World) (hw : WideAt w g o s) (hs : I128 s) :
    Calls Try.prog 26 #[.pointer (some ⟨g, o, none⟩)] w fun e w' => e = .returned (.tuple #[.int .i64 (if fitB s then s else 0), .bool (fitB s)]) ∧ Below w.heap.size w w' := by
  by_cases h : I64 s
  · have e : fitB s = true := by unfold fitB; unfold I64 at h; simpa using h
    rw [e, if_pos rfl]
    exact wide_Fit_yes g o s w hw h
  · have e : fitB s = false := by unfold fitB; unfold I64 at h; simpa using h
    rw [e, if_neg (by simp)]
    exact wide_Fit_no g o s w hw h hs
theorem wide_Mean_st (g o : Nat) (s : Int) (l : List Int) (w : World) (hw : WideAt w g o s) (hs : s = sumI l) (hl : ∀ x ∈ l, I64 x) (hn : l.length ≤ 4096) :
    Calls Try.prog 29 #[.pointer (some ⟨g, o, none⟩), .int .i64 l.length] w fun e w' => e = .returned (.tuple #[.int .i64 (if l = [] then 0 else sumI l / l.length), .bool (decide (l ≠ []))]) ∧ Below w.heap.size w w' := by
  subst hs
  obtain ⟨b1, b2⟩ := sumI_bd l hl
  rcases l with _ | ⟨x, l⟩
  · refine (wide_Mean_none g o ((([] : List Int).length : Nat) : Int) w (by simp)).mono ?_
    rintro e w' ⟨rfl, rfl⟩
    exact ⟨rfl, Below.refl _ _⟩
  · rw [if_neg (by simp)]
    have h1 : 1 ≤ (((x :: l).length : Nat) : Int) := by simp; omega
    refine (wide_Mean g o _ _ w hw ?_ h1 (by omega) (mean_bd _ _ h1 b1 b2)).mono ?_
    · unfold I128
      have h2 : (((x :: l).length : Nat) : Int) ≤ 4096 := by omega
      constructor
      · have := Int.mul_le_mul_of_nonneg_left h2 (show (0 : Int) ≤ 9223372036854775808 by omega); omega
      · have := Int.mul_le_mul_of_nonneg_left h2 (show (0 : Int) ≤ 9223372036854775807 by omega); omega
    · rintro e w' ⟨rfl, hw⟩
      exact ⟨by simp, hw⟩

set_option maxRecDepth 100000 in
set_option maxHeartbeats 3200000 in
theorem win_Read (F : Nat → Prop) (g : Nat) (T : WT) (clock N t : Int) (begun : Bool) (l : List (Int × Int)) (w : World) (hr : WinAt w F g T clock begun N l) (hT : T.right = true) (hN : N ≤ 4611686018427387904) (ht : stale begun clock t = false) :
    Calls Try.prog 12 #[.pointer (some ⟨g, 0, none⟩), .int .i64 t] w fun e w' => e = .returned (.tuple #[.agg #[.int .i64 (winRead T (vals (fresh t T.s l))).1, .int .i64 (winRead T (vals (fresh t T.s l))).2], .int .i64 0]) ∧ Fr F w w' ∧ ∃ F', Ext F F' w w' ∧ WinAt w' F' g T t true N (fresh t T.s l) := by
  have HR := Lib.hid hr
  have HT := Lib.hid hT
  have HN := Lib.hid hN
  have Ht := Lib.hid ht
  clear hr hT hN ht
  go_enter Try.func12, Try.ntmps12
  go_wp2_with fail
  refine ((HR.out.below (below1 w _)).come t Ht.out).mono ?_
  rintro e w1 ⟨rfl, hf1, hw1⟩
  have HW1 := Lib.hid hw1
  have hnF : ¬ F w.heap.size := fun h => Nat.lt_irrefl _ (HR.out.lt _ h)
  have hb1 := hf1.blk (hb_new w _) hnF
  have hF1 : Fr F w w1 := (Fr.ofBelow (F := F) (below1 w _)).trans hf1 (Ext.refl _ _ _)
  have hs1 : w.heap.size + 1 ≤ w1.heap.size := by simpa using hf1.size
  have HB1 := Lib.hid hb1
  have HF1 := Lib.hid hF1
  have HnF := Lib.hid hnF
  clear hw1 hb1 hF1 hf1 hnF
  go_wp2_with fail
  refine (win_expire F g T t N true l w1 HW1.out HN.out).mono ?_
  rintro e w2 ⟨rfl, hf2, F', hE2, hw2⟩
  have hmid : ReadMid F w w2 F' g T t N (fresh t T.s l) 0 0 := by
    refine ⟨HF1.out.trans hf2 (Ext.refl _ _ _), fun k hk => (hE2 k hk).imp id (fun h => ⟨by omega, h.2⟩), hw2, hf2.blk HB1.out HnF.out, ?_⟩
    intro h
    rcases hE2 _ h with h | h
    · exact HnF.out h
    · omega
  clear hf2 hE2 hw2 HW1 HB1 HF1 HnF hs1
  obtain ⟨l', hl'⟩ : ∃ l', l' = fresh t T.s l := ⟨_, rfl⟩
  rw [← hl'] at hmid
  have Hl' := Lib.hid hl'
  clear hl' HR
  obtain ⟨r, F1, F0, hring, hrest, hdis, hF', hxs⟩ := hmid.win
  obtain ⟨_, _, _, hblk⟩ := hrest.at
  have c0 := hb_cell hblk 0
  have c2 := hb_cell hblk 2
  have c4 := hb_cell hblk 4
  simp only [List.getElem?_toArray, List.getElem?_cons_zero, List.getElem?_cons_succ] at c0 c2 c4
  have hlen := hring.len
  have HMid := Lib.hid hmid
  have HRing := Lib.hid hring
  have HRest := Lib.hid hrest
  have Hxs := Lib.hid hxs
  have Hlen := Lib.hid hlen
  clear hmid hring hrest hdis hF' hxs hblk hlen
  go_wp2_with fail
  refine (ring_Len_at F1 r l' w2 HRing.out).mono ?_
  rintro e w3 ⟨rfl, rfl⟩
  have ha : T.a = 1 ∨ T.a = 2 ∨ T.a = 3 ∨ T.a = 4 ∨ T.a = 5 ∨ T.a = 6 := by
    have := HT.out
    simp only [WT.right, decide_eq_true_eq] at this
    omega
  obtain ⟨a, hTa⟩ : ∃ a, a = T.a := ⟨_, rfl⟩
  rw [← hTa] at ha c2
  have HTa := Lib.hid hTa
  clear hTa
  rcases ha with rfl | rfl | rfl | rfl | rfl | rfl
  · obtain ⟨v, hv⟩ : ∃ v, v = (if fitB (sumI (vals l')) then sumI (vals l') else 0) := ⟨_, rfl⟩
    obtain ⟨ok, hok⟩ : ∃ ok, ok = (fitB (sumI (vals l'))) := ⟨_, rfl⟩
    have h128 : I128 (sumI (vals l')) := by
      have hxs : ∀ y ∈ vals l', I64 y := by intro y hy; obtain ⟨z, hz, rfl⟩ := List.mem_map.1 hy; exact (Hxs.out z hz).2
      obtain ⟨b1, b2⟩ := sumI_bd (vals l') hxs
      have := Hlen.out
      have h3 : ((vals l').length : Int) ≤ 4096 := by simp [vals]; omega
      unfold I128
      constructor
      · have := Int.mul_le_mul_of_nonneg_left h3 (show (0 : Int) ≤ 9223372036854775808 by omega); omega
      · have := Int.mul_le_mul_of_nonneg_left h3 (show (0 : Int) ≤ 9223372036854775807 by omega); omega
    have HM3 := HMid
    have hC := wide_Fit_st g 7 _ w3 HRest.out.wide h128
    rw [← hv, ← hok] at hC
    obtain ⟨X, hX⟩ : ∃ X, X = (if ok then 0 else (3 : Int)) := ⟨_, rfl⟩
    obtain ⟨Y, hY⟩ : ∃ Y, Y = (if ok then v else (0 : Int)) := ⟨_, rfl⟩
    have hTo := fun w => win_told v 3 ok w
    rw [← hX, ← hY] at hTo
    have HC := Lib.hid hC
    have HTo := Lib.hid hTo
    have Hv := Lib.hid hv
    have Hok := Lib.hid hok
    have HX := Lib.hid hX
    have HY := Lib.hid hY
    clear h128 hC hTo hv hok hX hY
    go_wp2_with fail
    refine HC.out.mono ?_
    rintro e w4 ⟨rfl, hb4⟩
    have HB4 := Lib.hid hb4
    clear hb4
    go_wp2_with fail
    refine (HTo.out w4).mono ?_
    rintro e w5 ⟨rfl, hb5⟩
    have hm5 := HM3.out.below (below_up HB4.out hb5)
    have hm6 := hm5.store (c := X) (d := Y)
    obtain ⟨q0, q1, q2, q3⟩ := hb2 hm5.blk
    obtain ⟨y0, y1, _, _⟩ := hb2 hm6.blk
    have HM6 := Lib.hid hm6
    clear hm5 hm6 hb5
    go_wp2_with fail
    refine bodyPost_ret (v := .tuple #[.agg #[.int .i64 X, .int .i64 Y], .int .i64 0]) (by simp [results, Try.results12, y0, y1, go_sem]) rfl ⟨?_, HM6.out.fr, F', HM6.out.ext, by rw [← Hl'.out]; exact HM6.out.win⟩
    rw [← Hl'.out]
    have e1 : winRead T (vals l') = (X, Y) := by
      rw [HX.out, HY.out, Hv.out, Hok.out]
      unfold winRead
      rw [← HTa.out]
      cases fitB (sumI (vals l')) <;> simp
    rw [e1]
  · obtain ⟨v, hv⟩ : ∃ v, v = (if vals l' = [] then 0 else sumI (vals l') / (vals l').length) := ⟨_, rfl⟩
    obtain ⟨ok, hok⟩ : ∃ ok, ok = (decide (vals l' ≠ [])) := ⟨_, rfl⟩
    have hxs : ∀ y ∈ vals l', I64 y := by intro y hy; obtain ⟨z, hz, rfl⟩ := List.mem_map.1 hy; exact (Hxs.out z hz).2
    have hvl : (vals l').length ≤ 4096 := by have := Hlen.out; simp [vals]; omega
    have hvn : (vals l').length = l'.length := by simp [vals]
    have HM3 := HMid
    have hC := wide_Mean_st g 7 _ (vals l') w3 HRest.out.wide rfl hxs hvl
    rw [← hv, ← hok] at hC
    obtain ⟨X, hX⟩ : ∃ X, X = (if ok then 0 else (1 : Int)) := ⟨_, rfl⟩
    obtain ⟨Y, hY⟩ : ∃ Y, Y = (if ok then v else (0 : Int)) := ⟨_, rfl⟩
    have hTo := fun w => win_told v 1 ok w
    rw [← hX, ← hY] at hTo
    rw [hvn] at hC
    have HC := Lib.hid hC
    have HTo := Lib.hid hTo
    have Hv := Lib.hid hv
    have Hok := Lib.hid hok
    have HX := Lib.hid hX
    have HY := Lib.hid hY
    clear hxs hvl hvn hC hTo hv hok hX hY
    go_wp2_with fail
    refine HC.out.mono ?_
    rintro e w4 ⟨rfl, hb4⟩
    have HB4 := Lib.hid hb4
    clear hb4
    go_wp2_with fail
    refine (HTo.out w4).mono ?_
    rintro e w5 ⟨rfl, hb5⟩
    have hm5 := HM3.out.below (below_up HB4.out hb5)
    have hm6 := hm5.store (c := X) (d := Y)
    obtain ⟨q0, q1, q2, q3⟩ := hb2 hm5.blk
    obtain ⟨y0, y1, _, _⟩ := hb2 hm6.blk
    have HM6 := Lib.hid hm6
    clear hm5 hm6 hb5
    go_wp2_with fail
    refine bodyPost_ret (v := .tuple #[.agg #[.int .i64 X, .int .i64 Y], .int .i64 0]) (by simp [results, Try.results12, y0, y1, go_sem]) rfl ⟨?_, HM6.out.fr, F', HM6.out.ext, by rw [← Hl'.out]; exact HM6.out.win⟩
    rw [← Hl'.out]
    have e1 : winRead T (vals l') = (X, Y) := by
      rw [HX.out, HY.out, Hv.out, Hok.out]
      unfold winRead
      rw [← HTa.out]
      by_cases h : vals l' = [] <;> simp [h]
    rw [e1]
  · obtain ⟨v, hv⟩ : ∃ v, v = (if vals l' = [] then 0 else mbest (decide (T.a = 4)) (vals l')) := ⟨_, rfl⟩
    obtain ⟨ok, hok⟩ : ∃ ok, ok = (decide (vals l' ≠ [])) := ⟨_, rfl⟩
    obtain ⟨best, F2, c9, hb9, _⟩ := HRest.out.best
    have HM3 := HMid
    have hC := mono_Best_st F2 T.a N best (vals l') w3 hb9 (by rw [← HTa.out]; decide) HN.out
    rw [← hv, ← hok] at hC
    obtain ⟨X, hX⟩ : ∃ X, X = (if ok then 0 else (1 : Int)) := ⟨_, rfl⟩
    obtain ⟨Y, hY⟩ : ∃ Y, Y = (if ok then v else (0 : Int)) := ⟨_, rfl⟩
    have hTo := fun w => win_told v 1 ok w
    rw [← hX, ← hY] at hTo
    have HC := Lib.hid hC
    have HTo := Lib.hid hTo
    have Hv := Lib.hid hv
    have Hok := Lib.hid hok
    have HX := Lib.hid hX
    have HY := Lib.hid hY
    clear hb9 hC hTo hv hok hX hY
    go_wp2_with fail
    refine HC.out.mono ?_
    rintro e w4 ⟨rfl, hb4⟩
    have HB4 := Lib.hid hb4
    clear hb4
    go_wp2_with fail
    refine (HTo.out w4).mono ?_
    rintro e w5 ⟨rfl, hb5⟩
    have hm5 := HM3.out.below (below_up HB4.out hb5)
    have hm6 := hm5.store (c := X) (d := Y)
    obtain ⟨q0, q1, q2, q3⟩ := hb2 hm5.blk
    obtain ⟨y0, y1, _, _⟩ := hb2 hm6.blk
    have HM6 := Lib.hid hm6
    clear hm5 hm6 hb5
    go_wp2_with fail
    refine bodyPost_ret (v := .tuple #[.agg #[.int .i64 X, .int .i64 Y], .int .i64 0]) (by simp [results, Try.results12, y0, y1, go_sem]) rfl ⟨?_, HM6.out.fr, F', HM6.out.ext, by rw [← Hl'.out]; exact HM6.out.win⟩
    rw [← Hl'.out]
    have e1 : winRead T (vals l') = (X, Y) := by
      rw [HX.out, HY.out, Hv.out, Hok.out]
      unfold winRead
      rw [← HTa.out]
      by_cases h : vals l' = [] <;> simp [h]
    rw [e1]
  · obtain ⟨v, hv⟩ : ∃ v, v = (if vals l' = [] then 0 else mbest (decide (T.a = 4)) (vals l')) := ⟨_, rfl⟩
    obtain ⟨ok, hok⟩ : ∃ ok, ok = (decide (vals l' ≠ [])) := ⟨_, rfl⟩
    obtain ⟨best, F2, c9, hb9, _⟩ := HRest.out.best
    have HM3 := HMid
    have hC := mono_Best_st F2 T.a N best (vals l') w3 hb9 (by rw [← HTa.out]; decide) HN.out
    rw [← hv, ← hok] at hC
    obtain ⟨X, hX⟩ : ∃ X, X = (if ok then 0 else (1 : Int)) := ⟨_, rfl⟩
    obtain ⟨Y, hY⟩ : ∃ Y, Y = (if ok then v else (0 : Int)) := ⟨_, rfl⟩
    have hTo := fun w => win_told v 1 ok w
    rw [← hX, ← hY] at hTo
    have HC := Lib.hid hC
    have HTo := Lib.hid hTo
    have Hv := Lib.hid hv
    have Hok := Lib.hid hok
    have HX := Lib.hid hX
    have HY := Lib.hid hY
    clear hb9 hC hTo hv hok hX hY
    go_wp2_with fail
    refine HC.out.mono ?_
    rintro e w4 ⟨rfl, hb4⟩
    have HB4 := Lib.hid hb4
    clear hb4
    go_wp2_with fail
    refine (HTo.out w4).mono ?_
    rintro e w5 ⟨rfl, hb5⟩
    have hm5 := HM3.out.below (below_up HB4.out hb5)
    have hm6 := hm5.store (c := X) (d := Y)
    obtain ⟨q0, q1, q2, q3⟩ := hb2 hm5.blk
    obtain ⟨y0, y1, _, _⟩ := hb2 hm6.blk
    have HM6 := Lib.hid hm6
    clear hm5 hm6 hb5
    go_wp2_with fail
    refine bodyPost_ret (v := .tuple #[.agg #[.int .i64 X, .int .i64 Y], .int .i64 0]) (by simp [results, Try.results12, y0, y1, go_sem]) rfl ⟨?_, HM6.out.fr, F', HM6.out.ext, by rw [← Hl'.out]; exact HM6.out.win⟩
    rw [← Hl'.out]
    have e1 : winRead T (vals l') = (X, Y) := by
      rw [HX.out, HY.out, Hv.out, Hok.out]
      unfold winRead
      rw [← HTa.out]
      by_cases h : vals l' = [] <;> simp [h]
    rw [e1]
  · have hW := fun w => fix_Whole l'.length w (by have := Hlen.out; unfold I64; omega)
    have HW := Lib.hid hW
    have HM3 := HMid
    obtain ⟨Y, hY⟩ : ∃ Y, Y = fWhole l'.length := ⟨_, rfl⟩
    rw [← hY] at HW
    have HY := Lib.hid hY
    clear hW hY
    go_wp2_with fail
    refine (HW.out _).mono ?_
    rintro e w5 ⟨rfl, hb5⟩
    have hm5 := HM3.out.below hb5
    have hm6 := hm5.store (c := 0) (d := Y)
    obtain ⟨q0, q1, q2, q3⟩ := hb2 hm5.blk
    obtain ⟨y0, y1, _, _⟩ := hb2 hm6.blk
    have HM6 := Lib.hid hm6
    clear hm5 hm6 hb5
    go_wp2_with fail
    refine bodyPost_ret (v := .tuple #[.agg #[.int .i64 0, .int .i64 Y], .int .i64 0]) (by simp [results, Try.results12, y0, y1, go_sem]) rfl ⟨?_, HM6.out.fr, F', HM6.out.ext, by rw [← Hl'.out]; exact HM6.out.win⟩
    rw [← Hl'.out]
    have e1 : winRead T (vals l') = (0, Y) := by
      rw [HY.out]
      unfold winRead
      rw [← HTa.out]
      simp [vals]
    rw [e1]
  · obtain ⟨v, hv⟩ : ∃ v, v = (if vals l' = [] then 0 else (srt (vals l')).getD (rankK (vals l').length T.p).toNat 0) := ⟨_, rfl⟩
    obtain ⟨ok, hok⟩ : ∃ ok, ok = (decide (vals l' ≠ [])) := ⟨_, rfl⟩
    obtain ⟨order, F3, c10, hb9, _⟩ := HRest.out.order
    have hvl : (vals l').length ≤ 4096 := by have := Hlen.out; simp [vals]; omega
    have hp : 1 ≤ T.p ∧ T.p ≤ 100000000 := by
      have h1 := HT.out
      have h2 := HTa.out
      simp only [WT.right, decide_eq_true_eq] at h1
      omega
    have HM3 := HMid
    have hC := fun (W : World) (hW : Below w3.heap.size w3 W) => rank_By_st F3 T.a T.p order (vals l') W (hb9.keep (fun k hk => hW.block k (hb9.lt k hk)) hW.size) HTa.out.symm hvl hp.1 hp.2
    simp only [← hv, ← hok] at hC
    obtain ⟨X, hX⟩ : ∃ X, X = (if ok then 0 else (1 : Int)) := ⟨_, rfl⟩
    obtain ⟨Y, hY⟩ : ∃ Y, Y = (if ok then v else (0 : Int)) := ⟨_, rfl⟩
    have hTo := fun w => win_told v 1 ok w
    rw [← hX, ← hY] at hTo
    have HC := Lib.hid hC
    have HTo := Lib.hid hTo
    have Hv := Lib.hid hv
    have Hok := Lib.hid hok
    have HX := Lib.hid hX
    have HY := Lib.hid hY
    clear hb9 hvl hp hC hTo hv hok hX hY
    go_upto_region 16 with fail
    go_cut [12, 13] (fun x y wx => x = .int .i64 v ∧ y = .bool ok ∧ Below w3.heap.size w3 wx)
    case first =>
      have HC' : Hid (∀ W, Below w3.heap.size w3 W → Calls Try.prog 30 #[order, .int .i64 T.p] W fun e w' => e = .returned (.tuple #[.int .i64 v, .bool ok]) ∧ Below w3.heap.size w3 w') := Lib.hid (fun W hW => (HC.out W hW).mono (fun e w' h => ⟨h.1, hW.trans (h.2.mono hW.size)⟩))
      go_region_with (first | (refine (HC'.out _ ?hbb).mono ?_; (case hbb => first | exact Below.refl _ _ | exact (Below.refl _ _).drew); rintro e w4 ⟨rfl, hb4⟩))
      all_goals go_wp2_with fail
      all_goals go_meet
      all_goals first | exact ⟨rfl, rfl, hb4⟩ | exact ⟨rfl, rfl, hb4.drew⟩
    case rest =>
    obtain ⟨rfl, rfl, hb4⟩ := hcut
    have HB4 := Lib.hid hb4
    clear hb4
    go_wp2_with fail
    refine (HTo.out _).mono ?_
    rintro e w5 ⟨rfl, hb5⟩
    have hm5 := HM3.out.below (below_up HB4.out hb5)
    have hm6 := hm5.store (c := X) (d := Y)
    obtain ⟨q0, q1, q2, q3⟩ := hb2 hm5.blk
    obtain ⟨y0, y1, _, _⟩ := hb2 hm6.blk
    have HM6 := Lib.hid hm6
    clear hm5 hm6 hb5
    go_wp2_with fail
    refine bodyPost_ret (v := .tuple #[.agg #[.int .i64 X, .int .i64 Y], .int .i64 0]) (by simp [results, Try.results12, y0, y1, go_sem]) rfl ⟨?_, HM6.out.fr, F', HM6.out.ext, by rw [← Hl'.out]; exact HM6.out.win⟩
    rw [← Hl'.out]
    have e1 : winRead T (vals l') = (X, Y) := by
      rw [HX.out, HY.out, Hv.out, Hok.out]
      unfold winRead
      rw [← HTa.out]
      by_cases h : vals l' = [] <;> simp [h]
    rw [e1]
end Go.Proofs.Ytfhhdlpglfjdgaa
