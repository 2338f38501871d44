/- Contracts of package ring at samples, told by footprints: Push into a full one. -/
import Derived.Test.YtfhhdlpglfjdgaaRingE
set_option linter.unusedVariables false
set_option linter.unusedSimpArgs false
namespace Go.Proofs.Ytfhhdlpglfjdgaa
open Go.RowKit

set_option maxRecDepth 100000 in
set_option maxHeartbeats 3200000 in
theorem ring_Push_full (F : Nat → Prop) (g : Nat) (y : Int × Int) (l : List (Int × Int)) (x : Int × Int) (w : World) (hr : RingAt w F g (y :: l)) (hlen : (y :: l).length = 4096) :
    Calls Try.prog 33 #[.pointer (some ⟨g, 0, none⟩), .agg #[.int .i64 x.1, .int .i64 x.2]] w fun e w' => e = .returned (.tuple #[.agg #[.int .i64 y.1, .int .i64 y.2], .bool true]) ∧ Fr F w w' ∧ ∃ F', Ext F F' w w' ∧ RingAt w' F' g (l ++ [x]) := by
  have HR := Lib.hid hr
  have hg : g < w.heap.size := hr.2.1 g hr.1
  have hl : l.length < 4096 := by simp at hlen; omega
  have Hl := Lib.hid hl
  clear hr hl
  go_enter Try.func33, Try.ntmps33
  go_wp2_with fail
  obtain ⟨W, hW⟩ : ∃ W, W = (w.alloc (.cells #[.int .i64 x.1, .int .i64 x.2] 50)).alloc (.cells #[.int .i64 0, .int .i64 0] 50) := ⟨_, rfl⟩
  have hWs : W.heap.size = w.heap.size + 2 := by rw [hW]; simp
  have hBW : Below w.heap.size w W := by rw [hW]; exact below2 _ _ _
  have v0 : W.heap[w.heap.size]? = some (.cells #[.int .i64 x.1, .int .i64 x.2] 50 (0, 0)) := by rw [hW]; exact hb_alloc (hb_new _ _) _
  have o0 : W.heap[w.heap.size + 1]? = some (.cells #[.int .i64 0, .int .i64 0] 50 (0, 0)) := by rw [hW]; have := hb_new (w.alloc (.cells #[.int .i64 x.1, .int .i64 x.2] 50)) (.cells #[.int .i64 0, .int .i64 0] 50); simpa using this
  have hRW : RingAt W F g (y :: l) := HR.out.keep (fun k hk => hBW.block k (HR.out.2.1 k hk)) (by omega)
  rw [← hW]
  have HV := Lib.hid v0
  have HO := Lib.hid o0
  have HBW := Lib.hid hBW
  have HRW := Lib.hid hRW
  have HWs := Lib.hid hWs
  clear v0 o0 hBW hRW hWs hW
  obtain ⟨hgF, hFs, frm, L, v, hblk, hrest⟩ := HRW.out
  obtain ⟨n, hn⟩ : ∃ n, n = (y :: l).length := ⟨_, rfl⟩
  rw [← hn] at hblk
  have ht : ((n : Int) == 4096) = true := by rw [hn, hlen]; rfl
  have hni : (n : Int) = 4096 := by omega
  clear hn hlen
  refine (ring_Room g 4096 frm n v W hblk).mono ?_
  rintro e w1 ⟨rfl, rfl⟩
  have c0 := hblk.cells.1
  have c2 := hblk.cells.2.2.1
  clear hblk hrest
  go_wp2_with fail
  go_quiet (fail)
  clear c0 c2 ht
  go_wp2_with fail
  have hD : ∀ n, RingAt (w1.drewN n) F g (y :: l) := fun n => HRW.out.keep (fun k _ => rfl) (Nat.le_refl _)
  refine (ring_Drop_at F g y l (w1.drewN _) (hD _)).mono ?_
  rintro e w2 ⟨rfl, hfr2, hr2⟩
  have v2 : w2.heap[w.heap.size]? = some (.cells #[.int .i64 x.1, .int .i64 x.2] 50 (0, 0)) := hfr2.blk (hb_drewN HV.out _) (fun h => by have := HR.out.2.1 _ h; omega)
  have o2 : w2.heap[w.heap.size + 1]? = some (.cells #[.int .i64 0, .int .i64 0] 50 (0, 0)) := hfr2.blk (hb_drewN HO.out _) (fun h => by have := HR.out.2.1 _ h; omega)
  have hF2 : Fr F w w2 := (Fr.ofBelow (F := F) (below_up HBW.out (below_drewN _ _))).trans hfr2 (Ext.refl _ _ _)
  have hs2 : w.heap.size + 2 ≤ w2.heap.size := by have := hfr2.size; have h3 := HWs.out; simpa [h3] using this
  obtain ⟨o0, o1, of0, of1⟩ := hb2 o2
  have HV2 := Lib.hid v2
  have HO2 := Lib.hid o2
  have HF2 := Lib.hid hF2
  have Hs2 := Lib.hid hs2
  have HR2 := Lib.hid hr2
  clear hD hfr2 v2 o2 hF2 hs2 hr2
  go_wp2_with fail
  have w20 := two_set HO2.out (.int .i64 y.1) (.int .i64 y.2)
  have ho2 : ¬ F (w.heap.size + 1) := fun h => by have := HR.out.2.1 _ h; omega
  have hv2 : ¬ F w.heap.size := fun h => by have := HR.out.2.1 _ h; omega
  have hr2 : RingAt ((w2.setCell ⟨w.heap.size + 1, 0, none⟩ (.int .i64 y.1)).setCell ⟨w.heap.size + 1, 1, none⟩ (.int .i64 y.2)) F g l :=
    HR2.out.keep (fun k hk => by rw [Below.heap_setCell _ _ _ _ (by rintro rfl; exact ho2 hk), Below.heap_setCell _ _ _ _ (by rintro rfl; exact ho2 hk)]) (by simp only [sz_set]; exact Nat.le_refl _)
  have hv2' := hb_far (hb_far HV2.out (a := ⟨w.heap.size + 1, 0, none⟩) (by exact (Nat.ne_of_lt (Nat.lt_succ_self _))) (.int .i64 y.1)) (a := ⟨w.heap.size + 1, 1, none⟩) (by exact (Nat.ne_of_lt (Nat.lt_succ_self _))) (.int .i64 y.2)
  have hF2' := ((HF2.out).setCell (p := ⟨w.heap.size + 1, 0, none⟩) (.inr (Nat.le_succ _)) (.int .i64 y.1)).setCell (p := ⟨w.heap.size + 1, 1, none⟩) (.inr (Nat.le_succ _)) (.int .i64 y.2)
  refine (ring_grow_at F g l _ hr2 Hl.out).mono ?_
  rintro e w3 ⟨rfl, hfr, F', hE, hroom⟩
  have v3 := hfr.blk hv2' hv2
  have o3 := hfr.blk w20 ho2
  have hF3 : Fr F w w3 := hF2'.trans hfr (Ext.refl _ _ _)
  have hE3 : Ext F F' w w3 := by
    intro k hk
    rcases hE k hk with h | ⟨h1, h2⟩
    · exact .inl h
    · simp only [sz_set] at h1
      exact .inr ⟨by have := Hs2.out; omega, h2⟩
  have hnF : ∀ k, F' k → k ≠ w.heap.size ∧ k ≠ w.heap.size + 1 := by
    intro k hk
    rcases hE k hk with h | ⟨h1, h2⟩
    · have := HR.out.2.1 k h; omega
    · simp only [sz_set] at h1
      have := Hs2.out
      omega
  have HF3 := Lib.hid hF3
  have HE3 := Lib.hid hE3
  have HnF := Lib.hid hnF
  obtain ⟨hgF', hFs', frm3, L3, h3, cur, hblk, hhF, hne, hh, hcs, hf, hll, hL4, hc⟩ := hroom
  have Hc := Lib.hid hc
  have Hcs := Lib.hid hcs
  have HFs' := Lib.hid hFs'
  have HhF := Lib.hid hhF
  have HgF' := Lib.hid hgF'
  have HV3 := Lib.hid v3
  have HO3 := Lib.hid o3
  clear hfr hE v3 o3 hF3 hE3 hnF hc hcs hFs' hhF hgF' hFs w20 hr2 hv2' hF2' o0 o1 of0 of1 ho2 hv2
  go_wp2_with fail
  refine wp_region_tail 21 (by kernel_rfl) (by kernel_rfl) (fun W6 HW6 => ?_)
  have hg6 : RingBlk W6 g 4096 frm3 l.length (.slice (some ⟨h3, 0, none⟩) L3 L3) := drew_blk HW6 hblk
  have hh6 := drew_blk HW6 hh
  have hv6 := drew_blk HW6 HV3.out
  have ho6 := drew_blk HW6 HO3.out
  have k1 := hg6.cells.2.1
  have k2 := hg6.cells.2.2.1
  have k3 := hg6.cells.2.2.2
  have j2 := hg6.free.2.2.1
  obtain ⟨v0, v1, _, _⟩ := hb2 hv6
  obtain ⟨o0, o1, of0, of1⟩ := hb2 ho6
  obtain ⟨hw3, hw4, hw5⟩ := mod_facts frm3 l.length L3 (by omega) hL4 (by omega) (by omega)
  obtain ⟨p, hp⟩ : ∃ p, p = (frm3 + l.length) % L3 := ⟨_, rfl⟩
  have hpL : p < L3 := by rw [hp]; exact Nat.mod_lt _ (by omega)
  rw [← hp] at hw4 hw5
  obtain ⟨y0, hy0⟩ : ∃ y, cur[p * 2]? = some y := ⟨_, Array.getElem?_eq_getElem (by have := Hcs.out; omega)⟩
  obtain ⟨y1, hy1⟩ : ∃ y, cur[p * 2 + 1]? = some y := ⟨_, Array.getElem?_eq_getElem (by have := Hcs.out; omega)⟩
  have q0 := (hb_cell hh6 (p * 2)).trans hy0
  have q1 := (hb_cell hh6 (p * 2 + 1)).trans hy1
  have r0 := hb_free hh6 (p * 2)
  have r1 := hb_free hh6 (p * 2 + 1)
  have hpi0 : (0 : Int) ≤ (p : Int) := by omega
  have hpi1 : (p : Int) < (L3 : Int) := by omega
  have hL1 : ((L3 : Int) == 0) = false := by simp; omega
  have hLz : ¬ L3 = 0 := by omega
  have hwn : IntKind.i64.wrap ((l.length : Int) + 1) = (l.length : Int) + 1 := IntWalk.i64_in _ (by have := Hl.out; omega)
  obtain ⟨hne1, hne2⟩ := HnF.out h3 HhF.out
  have hne3 : g ≠ w.heap.size := by omega
  have hne4 : g ≠ w.heap.size + 1 := by omega
  have HG6 := Lib.hid hg6
  have HH6 := Lib.hid hh6
  have HO6 := Lib.hid ho6
  have Hp := Lib.hid hp
  clear hblk hh hg6 hh6 hv6 ho6 hp hy0 hy1
  simp only [List.take_succ_cons, List.take_zero, List.drop_succ_cons, List.drop_zero]
  repeat still_step
  refine wpStill_nil ?_
  go_wp2_with fail
  obtain ⟨z1, z2, z3⟩ := push_fin (x := x) (a := .int .i64 y.1) (b := .int .i64 y.2) HF3.out HE3.out (fun k hk => (HnF.out k hk).2) (Nat.le_succ _) hne hf hll hL4 Hc.out Hcs.out HFs'.out HhF.out HgF'.out HW6.out HG6.out HH6.out HO6.out Hp.out
  obtain ⟨y0, y1, _, _⟩ := hb2 z1
  exact bodyPost_ret (v := .tuple #[.agg #[.int .i64 y.1, .int .i64 y.2], .bool true]) (by simp [results, Try.results33, y0, y1, go_sem]) rfl ⟨rfl, z2, z3⟩
end Go.Proofs.Ytfhhdlpglfjdgaa
