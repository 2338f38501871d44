/- Contracts of package ring at samples, told by footprints: Push. -/
import Derived.Test.YtfhhdlpglfjdgaaRingD
set_option linter.unusedVariables false
set_option linter.unusedSimpArgs false
namespace Go.Proofs.Ytfhhdlpglfjdgaa
open Go.RowKit

theorem Fr.blk {F : Nat → Prop} {w w' : World} (h : Fr F w w') {b : Nat} {o : Obj} (hb : w.heap[b]? = some o) (hn : ¬ F b) : w'.heap[b]? = some o := (h.block b (hb_lt hb) hn).trans hb
theorem drewN_eq {w W : World} {n : Nat} (h : W = w.drewN n) {b : Nat} {o : Obj} (c : w.heap[b]? = some o) : W.heap[b]? = some o := by subst h; exact c

theorem sz_set (w : World) (a : Addr) (v : Value) : (w.setCell a v).heap.size = w.heap.size := by simp [World.setCell]

/-- What Push has laid in the end. -/
theorem push_fin {F F' : Nat → Prop} {w w3 W6 : World} {g h3 frm3 L3 p o : Nat} {l : List (Int × Int)} {x : Int × Int} {cur : Array Value} {a b c d : Value}
    (HF3 : Fr F w w3) (HE3 : Ext F F' w w3) (HnF : ∀ k, F' k → k ≠ o) (ho : w.heap.size ≤ o) (hne : h3 ≠ g) (hf : frm3 < L3) (hll : l.length < L3) (hL4 : L3 ≤ 4096) (Hc : RingCells cur frm3 L3 l) (Hcs : cur.size = L3 * 2)
    (HFs' : ∀ k, F' k → k < w3.heap.size) (HhF : F' h3) (HgF' : F' g) (HW6 : W6 = w3.drew) (HG6 : RingBlk W6 g 4096 frm3 l.length (.slice (some ⟨h3, 0, none⟩) L3 L3)) (HH6 : W6.heap[h3]? = some (.cells cur 50 (0, 0)))
    (HO6 : W6.heap[o]? = some (.cells #[c, d] 50 (0, 0))) (Hp : p = (frm3 + l.length) % L3) :
    (let Wf := ((((W6.setCell ⟨h3, p * 2, none⟩ (.int .i64 x.1)).setCell ⟨h3, p * 2 + 1, none⟩ (.int .i64 x.2)).setCell ⟨g, 2, none⟩ (.int .i64 ((l.length : Int) + 1))).setCell ⟨o, 0, none⟩ a).setCell ⟨o, 1, none⟩ b
    Wf.heap[o]? = some (.cells #[a, b] 50 (0, 0)) ∧ Fr F w Wf ∧ ∃ F', Ext F F' w Wf ∧ RingAt Wf F' g (l ++ [x])) := by
  have ng := HnF g HgF'
  have nh := HnF h3 HhF
  have e1 : RingBlk (((((W6.setCell ⟨h3, p * 2, none⟩ (.int .i64 x.1)).setCell ⟨h3, p * 2 + 1, none⟩ (.int .i64 x.2)).setCell ⟨g, 2, none⟩ (.int .i64 ((l.length : Int) + 1))).setCell ⟨o, 0, none⟩ a).setCell ⟨o, 1, none⟩ b) g 4096 frm3 (l ++ [x]).length (.slice (some ⟨h3, 0, none⟩) L3 L3) := by
    have := hb_far (hb_far (hb_set (hb_far (hb_far HG6 (a := ⟨h3, p * 2, none⟩) (by exact fun e => hne e.symm) (.int .i64 x.1)) (a := ⟨h3, p * 2 + 1, none⟩) (by exact fun e => hne e.symm) (.int .i64 x.2)) 2 (.int .i64 ((l.length : Int) + 1))) (a := ⟨o, 0, none⟩) (by exact ng) a) (a := ⟨o, 1, none⟩) (by exact ng) b
    simpa [RingBlk] using this
  have e2 := hb_far (hb_far (hb_far (hb_set (hb_set HH6 (p * 2) (.int .i64 x.1)) (p * 2 + 1) (.int .i64 x.2)) (a := ⟨g, 2, none⟩) (by exact hne) (.int .i64 ((l.length : Int) + 1))) (a := ⟨o, 0, none⟩) (by exact nh) a) (a := ⟨o, 1, none⟩) (by exact nh) b
  have e3 := two_set (hb_far (hb_far (hb_far HO6 (a := ⟨h3, p * 2, none⟩) (by exact fun e => nh e.symm) (.int .i64 x.1)) (a := ⟨h3, p * 2 + 1, none⟩) (by exact fun e => nh e.symm) (.int .i64 x.2)) (a := ⟨g, 2, none⟩) (by exact fun e => ng e.symm) (.int .i64 ((l.length : Int) + 1))) a b
  subst HW6
  have cl : ∀ k, F' k → F k ∨ w.heap.size ≤ k := fun k hk => (HE3 k hk).imp id (fun h => h.1)
  refine ⟨e3, ?_, F', ?_, HgF', ?_, frm3, L3, _, e1, .inr ⟨h3, _, rfl, HhF, hne, e2, ?_, hf, ?_, hL4, ?_⟩⟩
  · exact (((((HF3.drewN 1).setCell (p := ⟨h3, p * 2, none⟩) (cl _ HhF) _).setCell (p := ⟨h3, p * 2 + 1, none⟩) (cl _ HhF) _).setCell (p := ⟨g, 2, none⟩) (cl _ HgF') _).setCell (p := ⟨o, 0, none⟩) (.inr ho) _).setCell (p := ⟨o, 1, none⟩) (.inr ho) _
  · intro k hk
    have := HE3 k hk
    simp only [sz_set]
    exact this
  · intro k hk
    have := HFs' k hk
    simp only [sz_set]
    exact this
  · simpa using Hcs
  · simp; omega
  · rw [Hp]; exact Hc.push Hcs hf hll

set_option maxRecDepth 100000 in
set_option maxHeartbeats 3200000 in
theorem ring_Push_more (F : Nat → Prop) (g : Nat) (l : List (Int × Int)) (x : Int × Int) (w : World) (hr : RingAt w F g l) (hl : l.length < 4096) :
    Calls Try.prog 33 #[.pointer (some ⟨g, 0, none⟩), .agg #[.int .i64 x.1, .int .i64 x.2]] w fun e w' => e = .returned (.tuple #[.agg #[.int .i64 0, .int .i64 0], .bool false]) ∧ Fr F w w' ∧ ∃ F', Ext F F' w w' ∧ RingAt w' F' g (l ++ [x]) := by
  have HR := Lib.hid hr
  have hg : g < w.heap.size := hr.2.1 g hr.1
  have ht : ((l.length : Int) == 4096) = false := by simp; omega
  have hni : ¬ (l.length : Int) = 4096 := by omega
  have Hl := Lib.hid hl
  clear hr hl
  go_enter Try.func33, Try.ntmps33
  go_wp2_with fail
  obtain ⟨W, hW⟩ : ∃ W, W = (w.alloc (.cells #[.int .i64 x.1, .int .i64 x.2] 50)).alloc (.cells #[.int .i64 0, .int .i64 0] 50) := ⟨_, rfl⟩
  have hWs : W.heap.size = w.heap.size + 2 := by rw [hW]; simp
  have hBW : Below w.heap.size w W := by rw [hW]; exact below2 _ _ _
  have v0 : W.heap[w.heap.size]? = some (.cells #[.int .i64 x.1, .int .i64 x.2] 50 (0, 0)) := by rw [hW]; exact hb_alloc (hb_new _ _) _
  have o0 : W.heap[w.heap.size + 1]? = some (.cells #[.int .i64 0, .int .i64 0] 50 (0, 0)) := by rw [hW]; have := hb_new (w.alloc (.cells #[.int .i64 x.1, .int .i64 x.2] 50)) (.cells #[.int .i64 0, .int .i64 0] 50); simpa using this
  have hRW : RingAt W F g l := HR.out.keep (fun k hk => hBW.block k (HR.out.2.1 k hk)) (by omega)
  rw [← hW]
  have HV := Lib.hid v0
  have HO := Lib.hid o0
  have HBW := Lib.hid hBW
  have HRW := Lib.hid hRW
  have HWs := Lib.hid hWs
  clear v0 o0 hBW hRW hWs hW
  obtain ⟨hgF, hFs, frm, L, v, hblk, hrest⟩ := HRW.out
  refine (ring_Room g 4096 frm l.length v W hblk).mono ?_
  rintro e w1 ⟨rfl, rfl⟩
  have c0 := hblk.cells.1
  have c2 := hblk.cells.2.2.1
  clear hblk hrest
  go_wp2_with fail
  go_quiet (fail)
  clear c0 c2 ht
  go_wp2_with fail
  have hD : ∀ n, RingAt (w1.drewN n) F g l := fun n => HRW.out.keep (fun k _ => rfl) (Nat.le_refl _)
  refine (ring_grow_at F g l _ (hD _) Hl.out).mono ?_
  rintro e w3 ⟨rfl, hfr, F', hE, hroom⟩
  have v3 : w3.heap[w.heap.size]? = some (.cells #[.int .i64 x.1, .int .i64 x.2] 50 (0, 0)) := hfr.blk (hb_drewN HV.out _) (fun h => by have := HR.out.2.1 _ h; omega)
  have o3 : w3.heap[w.heap.size + 1]? = some (.cells #[.int .i64 0, .int .i64 0] 50 (0, 0)) := hfr.blk (hb_drewN HO.out _) (fun h => by have := HR.out.2.1 _ h; omega)
  have hF3 : Fr F w w3 := (Fr.ofBelow (F := F) (below_up HBW.out (below_drewN _ _))).trans hfr (Ext.refl _ _ _)
  have hE3 : Ext F F' w w3 := by
    intro k hk
    rcases hE k hk with h | ⟨h1, h2⟩
    · exact .inl h
    · exact .inr ⟨by have := HWs.out; have : w.heap.size + 2 ≤ k := by rw [← this]; exact h1
                     omega, h2⟩
  have hnF : ∀ k, F' k → k ≠ w.heap.size ∧ k ≠ w.heap.size + 1 := by
    intro k hk
    rcases hE k hk with h | ⟨h1, h2⟩
    · have := HR.out.2.1 k h; omega
    · have := HWs.out
      have : w.heap.size + 2 ≤ k := by rw [← this]; exact h1
      omega
  have HF3 := Lib.hid hF3
  have HE3 := Lib.hid hE3
  have HnF := Lib.hid hnF
  obtain ⟨hgF', hFs', frm3, L3, h3, cur, hblk, hhF, hne, hh, hcs, hf, hll, hL4, hc⟩ := hroom
  have Hc := Lib.hid hc
  have Hcs := Lib.hid hcs
  have HFs' := Lib.hid hFs'
  have HhF := Lib.hid hhF
  have HgF' := Lib.hid hgF'
  have HV3 := Lib.hid v3
  have HO3 := Lib.hid o3
  clear hfr hE v3 o3 hF3 hE3 hnF hc hcs hFs' hhF hgF' hFs
  go_wp2_with fail
  refine wp_region_tail 21 (by kernel_rfl) (by kernel_rfl) (fun W6 HW6 => ?_)
  have hg6 : RingBlk W6 g 4096 frm3 l.length (.slice (some ⟨h3, 0, none⟩) L3 L3) := drew_blk HW6 hblk
  have hh6 := drew_blk HW6 hh
  have hv6 := drew_blk HW6 HV3.out
  have ho6 := drew_blk HW6 HO3.out
  have k1 := hg6.cells.2.1
  have k2 := hg6.cells.2.2.1
  have k3 := hg6.cells.2.2.2
  have j2 := hg6.free.2.2.1
  obtain ⟨v0, v1, _, _⟩ := hb2 hv6
  obtain ⟨o0, o1, of0, of1⟩ := hb2 ho6
  obtain ⟨hw3, hw4, hw5⟩ := mod_facts frm3 l.length L3 (by omega) hL4 (by omega) (by omega)
  obtain ⟨p, hp⟩ : ∃ p, p = (frm3 + l.length) % L3 := ⟨_, rfl⟩
  have hpL : p < L3 := by rw [hp]; exact Nat.mod_lt _ (by omega)
  rw [← hp] at hw4 hw5
  obtain ⟨y0, hy0⟩ : ∃ y, cur[p * 2]? = some y := ⟨_, Array.getElem?_eq_getElem (by have := Hcs.out; omega)⟩
  obtain ⟨y1, hy1⟩ : ∃ y, cur[p * 2 + 1]? = some y := ⟨_, Array.getElem?_eq_getElem (by have := Hcs.out; omega)⟩
  have q0 := (hb_cell hh6 (p * 2)).trans hy0
  have q1 := (hb_cell hh6 (p * 2 + 1)).trans hy1
  have r0 := hb_free hh6 (p * 2)
  have r1 := hb_free hh6 (p * 2 + 1)
  have hpi0 : (0 : Int) ≤ (p : Int) := by omega
  have hpi1 : (p : Int) < (L3 : Int) := by omega
  have hL1 : ((L3 : Int) == 0) = false := by simp; omega
  have hLz : ¬ L3 = 0 := by omega
  have hwn : IntKind.i64.wrap ((l.length : Int) + 1) = (l.length : Int) + 1 := IntWalk.i64_in _ (by have := Hl.out; omega)
  obtain ⟨hne1, hne2⟩ := HnF.out h3 HhF.out
  have hne3 : g ≠ w.heap.size := by omega
  have hne4 : g ≠ w.heap.size + 1 := by omega
  have HG6 := Lib.hid hg6
  have HH6 := Lib.hid hh6
  have HO6 := Lib.hid ho6
  have Hp := Lib.hid hp
  clear hblk hh hg6 hh6 hv6 ho6 hp hy0 hy1
  simp only [List.take_succ_cons, List.take_zero, List.drop_succ_cons, List.drop_zero]
  repeat still_step
  refine wpStill_nil ?_
  go_wp2_with fail
  obtain ⟨z1, z2, z3⟩ := push_fin (x := x) (a := .int .i64 0) (b := .int .i64 0) HF3.out HE3.out (fun k hk => (HnF.out k hk).2) (Nat.le_succ _) hne hf hll hL4 Hc.out Hcs.out HFs'.out HhF.out HgF'.out HW6.out HG6.out HH6.out HO6.out Hp.out
  obtain ⟨y0, y1, _, _⟩ := hb2 z1
  exact bodyPost_ret (v := .tuple #[.agg #[.int .i64 0, .int .i64 0], .bool false]) (by simp [results, Try.results33, y0, y1, go_sem]) rfl ⟨rfl, z2, z3⟩
end Go.Proofs.Ytfhhdlpglfjdgaa
