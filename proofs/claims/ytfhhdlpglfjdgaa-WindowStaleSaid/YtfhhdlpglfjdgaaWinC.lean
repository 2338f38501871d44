/- Contracts of package window: gone. -/
import Derived.Test.YtfhhdlpglfjdgaaWinB
set_option linter.unusedVariables false
set_option linter.unusedSimpArgs false
namespace Go.Proofs.Ytfhhdlpglfjdgaa
open Go.RowKit

theorem WinBlk.wide {w : World} {g : Nat} {ring : Value} {T : WT} {clock : Int} {begun : Bool} {s : Int} {best order : Value} (h : WinBlk w g ring T clock begun s best order) : WideAt w g 7 s :=
  ⟨hb_cell h 7, hb_cell h 8, hb_free h 7, hb_free h 8⟩
theorem WinRest.wide {w : World} {F : Nat → Prop} {g r : Nat} {T : WT} {clock : Int} {begun : Bool} {N s : Int} {l m : List Int} (h : WinRest w F g r T clock begun N s l m) : WideAt w g 7 s := by
  obtain ⟨_, _, _, _, h, _⟩ := h
  exact h.wide
theorem WinRest.sum {w w' : World} {F : Nat → Prop} {g r : Nat} {T : WT} {clock : Int} {begun : Bool} {N s s' : Int} {l m : List Int} (h : WinRest w F g r T clock begun N s l m) (hw : WideTurned w w' g 7 s') :
    Fr F w w' ∧ WinRest w' F g r T clock begun N s' l m := by
  have hF := h.lt
  obtain ⟨best, order, F2, F3, h1, h2, h3, h4, h5, h6, h7⟩ := h
  obtain ⟨w1, hb, rfl⟩ := hw
  have hg := (h7 g).2 (.inl rfl)
  have hfr : Fr F w ((w1.setCell ⟨g, 7, none⟩ (.int .u64 (wLo s'))).setCell ⟨g, 7 + 1, none⟩ (.int .u64 (wHi s'))) := ((Fr.ofBelow hb).setCell (p := ⟨g, 7, none⟩) (.inl hg) _).setCell (p := ⟨g, 7 + 1, none⟩) (.inl hg) _
  have key : ∀ k, k < w.heap.size → k ≠ g → ((w1.setCell ⟨g, 7, none⟩ (.int .u64 (wLo s'))).setCell ⟨g, 7 + 1, none⟩ (.int .u64 (wHi s'))).heap[k]? = w.heap[k]? := by
    intro k hk hne
    rw [Below.heap_setCell _ _ _ _ (by exact hne), Below.heap_setCell _ _ _ _ (by exact hne)]
    exact hb.block k hk
  refine ⟨hfr, best, order, F2, F3, ?_, h2.keep (fun k hk => key k (h2.lt k hk) (by rintro rfl; exact h4 hk)) hfr.size, h3.keep (fun k hk => key k (h3.lt k hk) (by rintro rfl; exact h5 hk)) hfr.size, h4, h5, h6, h7⟩
  simpa [WinBlk] using hb_set (hb_set (hb_below' h1 hb) 7 (.int .u64 (wLo s'))) (7 + 1) (.int .u64 (wHi s'))
theorem WinRest.best {w : World} {F : Nat → Prop} {g r : Nat} {T : WT} {clock : Int} {begun : Bool} {N s : Int} {l m : List Int} (h : WinRest w F g r T clock begun N s l m) :
    ∃ best F2, w.cell? ⟨g, 9, none⟩ = some best ∧ MonoSt w F2 T.a N best l ∧
      ∀ (w' : World) (F2' : Nat → Prop) (N' : Int) (l' : List Int), Fr F2 w w' → Ext F2 F2' w w' → MonoSt w' F2' T.a N' best l' → Fr F w w' ∧ ∃ F', Ext F F' w w' ∧ WinRest w' F' g r T clock begun N' s l' m := by
  obtain ⟨best, order, F2, F3, h1, h2, h3, h4, h5, h6, h7⟩ := h
  refine ⟨best, F2, hb_cell h1 9, h2, fun w' F2' N' l' hf he hm => ⟨hf.mono (fun k hk => (h7 k).2 (.inr (.inl hk))), fun k => k = g ∨ F2' k ∨ F3 k, ?_, best, order, F2', F3, hf.blk h1 h4, hm, h3.keep (fun k hk => hf.block k (h3.lt k hk) (fun h => h6 k h hk)) hf.size, ?_, h5, ?_, fun k => Iff.rfl⟩⟩
  · rintro k (rfl | hk | hk)
    · exact .inl ((h7 k).2 (.inl rfl))
    · exact (he k hk).imp (fun h => (h7 k).2 (.inr (.inl h))) id
    · exact .inl ((h7 k).2 (.inr (.inr hk)))
  · intro hk
    rcases he g hk with h | h
    · exact h4 h
    · have := hb_lt h1; omega
  · intro k hk hk3
    rcases he k hk with h | h
    · exact h6 k h hk3
    · have := h3.lt k hk3; omega
theorem WinRest.order {w : World} {F : Nat → Prop} {g r : Nat} {T : WT} {clock : Int} {begun : Bool} {N s : Int} {l m : List Int} (h : WinRest w F g r T clock begun N s l m) :
    ∃ order F3, w.cell? ⟨g, 10, none⟩ = some order ∧ RankSt w F3 T.a order m ∧
      ∀ (w' : World) (F3' : Nat → Prop) (m' : List Int), Fr F3 w w' → Ext F3 F3' w w' → RankSt w' F3' T.a order m' → Fr F w w' ∧ ∃ F', Ext F F' w w' ∧ WinRest w' F' g r T clock begun N s l m' := by
  obtain ⟨best, order, F2, F3, h1, h2, h3, h4, h5, h6, h7⟩ := h
  refine ⟨order, F3, hb_cell h1 10, h3, fun w' F3' m' hf he hm => ⟨hf.mono (fun k hk => (h7 k).2 (.inr (.inr hk))), fun k => k = g ∨ F2 k ∨ F3' k, ?_, best, order, F2, F3', hf.blk h1 h5, h2.keep (fun k hk => hf.block k (h2.lt k hk) (fun h => h6 k hk h)) hf.size, hm, h4, ?_, ?_, fun k => Iff.rfl⟩⟩
  · rintro k (rfl | hk | hk)
    · exact .inl ((h7 k).2 (.inl rfl))
    · exact .inl ((h7 k).2 (.inr (.inl hk)))
    · exact (he k hk).imp (fun h => (h7 k).2 (.inr (.inr h))) id
  · intro hk
    rcases he g hk with h | h
    · exact h5 h
    · have := hb_lt h1; omega
  · intro k hk hk3
    rcases he k hk3 with h | h
    · exact h6 k hk h
    · have := h2.lt k hk; omega

set_option maxRecDepth 100000 in
set_option maxHeartbeats 1600000 in
theorem win_gone (F : Nat → Prop) (g r : Nat) (T : WT) (clock N s t x : Int) (begun : Bool) (l m : List Int) (w : World) (hr : WinRest w F g r T clock begun N s (x :: l) (x :: m)) (hN : N ≤ 4611686018427387904) (hm : m.length ≤ 4096) (hx : I64 x) :
    Calls Try.prog 34 #[.pointer (some ⟨g, 0, none⟩), .agg #[.int .i64 t, .int .i64 x]] w fun e w' => e = .returned (.tuple #[]) ∧ Fr F w w' ∧ ∃ F', Ext F F' w w' ∧ WinRest w' F' g r T clock begun N (s - x) l m := by
  have HR := Lib.hid hr
  have Hx := Lib.hid hx
  have HN := Lib.hid hN
  have Hm := Lib.hid hm
  have hg : g < w.heap.size := hr.lt g (by obtain ⟨_, _, _, _, _, _, _, _, _, _, h⟩ := hr; exact (h g).2 (.inl rfl))
  clear hr hx hN hm
  go_enter Try.func34, Try.ntmps34
  go_wp2_with fail
  refine wp_region_tail 5 (by kernel_rfl) (by kernel_rfl) (fun W HW => ?_)
  have s0 := drew_blk HW (hb_new w (.cells #[.int .i64 t, .int .i64 x] 50))
  obtain ⟨_, v1, _, _⟩ := hb2 s0
  have hBW : Below w.heap.size w W := by rw [HW.out]; exact (below1 _ _).drew
  have hW : WinRest W F g r T clock begun N s (x :: l) (x :: m) := HR.out.keep (fun k hk => hBW.block k (HR.out.lt k hk)) hBW.size
  have HS := Lib.hid s0
  have HWR := Lib.hid hW
  have HB := Lib.hid hBW
  clear s0 hBW hW
  simp only [List.take_succ_cons, List.take_zero, List.drop_succ_cons, List.drop_zero]
  repeat still_step
  refine wpStill_nil ?_
  go_wp2_with fail
  clear v1
  refine (wide_Take g 7 s x W HWR.out.wide Hx.out).mono ?_
  rintro e w2 ⟨rfl, hwt⟩
  obtain ⟨hf2, hr2⟩ := HWR.out.sum hwt
  have hnF : ¬ F w.heap.size := fun h => Nat.lt_irrefl _ (HR.out.lt _ h)
  have s2 := hf2.blk HS.out hnF
  obtain ⟨best, F2, c9, hm2, hstep⟩ := hr2.best
  have HF2 := Lib.hid hf2
  have HR2 := Lib.hid hr2
  have HS2 := Lib.hid s2
  have HM2 := Lib.hid hm2
  have Hstep := Lib.hid hstep
  have HnF := Lib.hid hnF
  clear hwt hf2 hr2 s2 hm2 hstep hnF
  go_wp2_with fail
  refine (mono_Take_st F2 T.a N x best l w2 HM2.out HN.out).mono ?_
  rintro e w3 ⟨⟨b3, rfl⟩, hf3, hm3⟩
  obtain ⟨hF3, F', hE3, hr3⟩ := Hstep.out w3 F2 N l hf3 (Ext.refl _ _ _) hm3
  have s3 := hF3.blk HS2.out HnF.out
  have HF3 := Lib.hid hF3
  have HE3 := Lib.hid hE3
  have HR3 := Lib.hid hr3
  have HS3 := Lib.hid s3
  clear c9 hf3 hm3 hF3 hE3 hr3 s3
  go_wp2_with fail
  refine wp_region_tail 6 (by kernel_rfl) (by kernel_rfl) (fun W3 HW3 => ?_)
  have s4 := drew_blk HW3 HS3.out
  obtain ⟨_, v1, _, _⟩ := hb2 s4
  have hr4 : WinRest W3 F' g r T clock begun N (s - x) l (x :: m) := HR3.out.keep (fun k _ => by rw [HW3.out]; rfl) (by rw [HW3.out]; exact Nat.le_refl _)
  obtain ⟨order, F3, c10, hm4, hstep⟩ := hr4.order
  have HM4 := Lib.hid hm4
  have Hstep4 := Lib.hid hstep
  clear s4 hr4 hm4 hstep
  simp only [List.take_succ_cons, List.take_zero, List.drop_succ_cons, List.drop_zero]
  repeat still_step
  refine wpStill_nil ?_
  go_wp2_with fail
  refine (rank_Take_st F3 T.a x order m W3 HM4.out Hm.out).mono ?_
  rintro e w5 ⟨⟨b5, rfl⟩, hf5, F3', hE5, hm5⟩
  obtain ⟨hF5, F'', hE5', hr5⟩ := Hstep4.out w5 F3' m hf5 hE5 hm5
  go_wp2_with fail
  have h0 : Fr F w W := Fr.ofBelow HB.out
  have h1 : Fr F w w2 := h0.trans HF2.out (Ext.refl _ _ _)
  have h2 : Fr F w w3 := h1.trans HF3.out (Ext.refl _ _ _)
  have e2 : Ext F F' w w3 := by
    intro k hk
    exact (HE3.out k hk).imp id (fun h => ⟨Nat.le_trans h1.size h.1, h.2⟩)
  have h3 : Fr F w W3 := by rw [HW3.out]; exact h2.drewN 1
  have e3 : Ext F F' w W3 := by rw [HW3.out]; exact e2
  exact bodyPost_end (v := .tuple #[]) (results_none rfl _ _ _) rfl ⟨rfl, h3.trans hF5 e3, F'', e3.trans hE5' h3.size hF5.size, hr5⟩
end Go.Proofs.Ytfhhdlpglfjdgaa
