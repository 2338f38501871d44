/- Contracts of package ring at samples: grow. -/
import Derived.Test.YtfhhdlpglfjdgaaRingB
set_option linter.unusedVariables false
set_option linter.unusedSimpArgs false
namespace Go.Proofs.Ytfhhdlpglfjdgaa
open Go.RowKit

/-- Where the samples lie in a ring's array. -/
def RingCells (cur : Array Value) (frm L : Nat) (l : List (Int × Int)) : Prop :=
  ∀ (i : Nat) (x : Int × Int), l[i]? = some x → cur[(frm + i) % L * 2]? = some (.int .i64 x.1) ∧ cur[(frm + i) % L * 2 + 1]? = some (.int .i64 x.2)

set_option maxHeartbeats 800000 in
theorem ring_grow_not (g room frm n L : Nat) (A : Option Addr) (w : World) (hr : RingBlk w g room frm n (.slice A L L)) (hn : n < L) :
    Calls Try.prog 53 #[.pointer (some ⟨g, 0, none⟩)] w fun e w' => e = .returned (.tuple #[]) ∧ ∃ m, w' = w.drewN m := by
  have c2 := hr.cells.2.2.1
  have c3 := hr.cells.2.2.2
  have ht : decide ((n : Int) < (L : Int)) = true := by simp; omega
  have hni : (n : Int) < (L : Int) := by omega
  clear hr
  go_enter Try.func53, Try.ntmps53
  go_wp2_with fail
  go_quiet (fail)
  go_wp2
  exact bodyPost_ret (v := .tuple #[]) (results_none rfl _ _ _) rfl ⟨rfl, _, rfl⟩

theorem Try.infos : (Try.prog.info? 50).map (fun i => (i.zero, i.size, i.bytes)) = some (some (.agg #[.int .i64 0, .int .i64 0]), 2, 16) := by kernel_rfl

/-- The room of a ring that grows. -/
def ringCap (L : Nat) : Nat := min 4096 (2 * L + 4)

/-- In the loop: k of the samples have gone over. -/
def GrowInv (w wr : World) (g h frm n L c k : Nat) (A : Option Addr) (cur : Array Value) (l : List (Int × Int)) : Prop :=
  RingBlk wr g 4096 frm n (.slice A L L) ∧ (L = 0 ∨ A = some ⟨h, 0, none⟩ ∧ h < w.heap.size ∧ wr.heap[h]? = some (.cells cur 50 (0, 0))) ∧ Below w.heap.size w wr ∧
    ∃ cu : Array Value, wr.heap[w.heap.size]? = some (.cells cu 50 (0, 0)) ∧ cu.size = c * 2 ∧ ∀ (i : Nat) (x : Int × Int), i < k → l[i]? = some x → cu[i * 2]? = some (.int .i64 x.1) ∧ cu[i * 2 + 1]? = some (.int .i64 x.2)

theorem GrowInv.step {w wr : World} {g h frm n L c k : Nat} {A : Option Addr} {cur : Array Value} {l : List (Int × Int)} {x : Int × Int} (hi : GrowInv w wr g h frm n L c k A cur l) (hx : l[k]? = some x) (hk : k < c) (hg : g < w.heap.size) {W : World} (HW : W = wr.drew) :
    GrowInv w ((W.setCell ⟨w.heap.size, k * 2, none⟩ (.int .i64 x.1)).setCell ⟨w.heap.size, k * 2 + 1, none⟩ (.int .i64 x.2)) g h frm n L c (k + 1) A cur l := by
  obtain ⟨h1, h2, h3, cu, h4, h5, h6⟩ := hi
  subst HW
  refine ⟨hb_far (hb_far (World.drew_blk_of h1) (by simp; omega) _) (by simp; omega) _, h2.imp id (fun ⟨a, b, h2⟩ => ⟨a, b, hb_far (hb_far (World.drew_blk_of h2) (by simp; omega) _) (by simp; omega) _⟩), (h3.drew.setCell (Nat.le_refl _) _).setCell (Nat.le_refl _) _, _, hb_set (hb_set (World.drew_blk_of h4) _ _) _ _, by simp [h5], fun i y hik hy => ?_⟩
  simp only [Array.getElem?_setIfInBounds, Array.size_setIfInBounds]
  rcases Nat.lt_or_ge i k with hlt | hge
  · obtain ⟨a, b⟩ := h6 i y hlt hy
    rw [if_neg (by omega), if_neg (by omega), if_neg (by omega), if_neg (by omega)]
    exact ⟨a, b⟩
  · obtain rfl : i = k := by omega
    rw [hx] at hy
    obtain rfl : x = y := by simpa using hy
    rw [if_neg (by omega), if_pos rfl, if_pos (by omega), if_pos rfl, if_pos (by omega)]
    exact ⟨rfl, rfl⟩
theorem GrowInv.fin {w wr : World} {g h frm n L c : Nat} {A : Option Addr} {cur : Array Value} {l : List (Int × Int)} (hi : GrowInv w wr g h frm n L c n A cur l) (hl : l.length = n) (hn : n ≤ c) (hg : g < w.heap.size) :
    RingBlk ((wr.setCell ⟨g, 3, none⟩ (.slice (some ⟨w.heap.size, 0, none⟩) c c)).setCell ⟨g, 1, none⟩ (.int .i64 0)) g 4096 0 n (.slice (some ⟨w.heap.size, 0, none⟩) c c) ∧ Fr (fun k => k = g) w ((wr.setCell ⟨g, 3, none⟩ (.slice (some ⟨w.heap.size, 0, none⟩) c c)).setCell ⟨g, 1, none⟩ (.int .i64 0)) ∧
      w.heap.size < ((wr.setCell ⟨g, 3, none⟩ (.slice (some ⟨w.heap.size, 0, none⟩) c c)).setCell ⟨g, 1, none⟩ (.int .i64 0)).heap.size ∧
      ∃ cu : Array Value, ((wr.setCell ⟨g, 3, none⟩ (.slice (some ⟨w.heap.size, 0, none⟩) c c)).setCell ⟨g, 1, none⟩ (.int .i64 0)).heap[w.heap.size]? = some (.cells cu 50 (0, 0)) ∧ cu.size = c * 2 ∧ RingCells cu 0 c l := by
  obtain ⟨h1, h2, h3, cu, h4, h5, h6⟩ := hi
  refine ⟨by simpa [RingBlk] using hb_set (hb_set h1 3 (.slice (some ⟨w.heap.size, 0, none⟩) c c)) 1 (.int .i64 0), ((Fr.ofBelow (F := fun k => k = g) h3).setCell (p := ⟨g, 3, none⟩) (.inl rfl) _).setCell (p := ⟨g, 1, none⟩) (.inl rfl) _, ?_, cu, hb_far (hb_far h4 (by simp; omega) _) (by simp; omega) _, h5, fun i x hx => ?_⟩
  · simpa [World.setCell] using hb_lt h4
  · have hlt := (List.getElem?_eq_some_iff.1 hx).1
    rw [Nat.zero_add, Nat.mod_eq_of_lt (by omega)]
    exact h6 i x (by omega) hx

set_option maxRecDepth 100000 in
set_option maxHeartbeats 3200000 in
theorem ring_grow_raw (g hB frm n L c : Nat) (A : Option Addr) (cur Z : Array Value) (l : List (Int × Int)) (w : World) (hr : RingBlk w g 4096 frm n (.slice A L L)) (hb : L = 0 ∨ A = some ⟨hB, 0, none⟩ ∧ hB < w.heap.size ∧ w.heap[hB]? = some (.cells cur 50 (0, 0)))
    (hL : L < 4096) (hn : n = L) (hf : 0 < L → frm < L) (hl : l.length = n) (hcs : cur.size = L * 2) (hcell : RingCells cur frm L l) (hc : c = ringCap L) (hZ : Z.size = c * 2)
    (hmk : ∀ w, (Instr.makeSlice 32 (.int .i64 (min 4096 (2 * (L : Int) + 4))) (.int .i64 (min 4096 (2 * (L : Int) + 4)))).run Try.prog w = .ok (.slice (some ⟨w.heap.size, 0, none⟩) c c) (w.alloc (.cells Z 50))) :
    Calls Try.prog 53 #[.pointer (some ⟨g, 0, none⟩)] w fun e w' => e = .returned (.tuple #[]) ∧
      RingBlk w' g 4096 0 n (.slice (some ⟨w.heap.size, 0, none⟩) c c) ∧ Fr (fun k => k = g) w w' ∧ w.heap.size < w'.heap.size ∧ ∃ cu : Array Value, w'.heap[w.heap.size]? = some (.cells cu 50 (0, 0)) ∧ cu.size = c * 2 ∧ RingCells cu 0 c l := by
  have c0 := hr.cells.1
  have c1 := hr.cells.2.1
  have c2 := hr.cells.2.2.1
  have c3 := hr.cells.2.2.2
  have hg := hb_lt hr
  have H := Lib.hid hr
  have HB := Lib.hid hb
  have HC := Lib.hid hcell
  have HZ := Lib.hid hZ
  have Hcs := Lib.hid hcs
  have Hl := Lib.hid hl
  have ht : decide ((n : Int) < (L : Int)) = false := by simp; omega
  have hni : ¬ (n : Int) < (L : Int) := by omega
  have hw1 : IntKind.i64.wrap (2 * (L : Int)) = 2 * (L : Int) := IntWalk.i64_in _ (by omega)
  have hw2 : IntKind.i64.wrap (2 * (L : Int) + 4) = 2 * (L : Int) + 4 := IntWalk.i64_in _ (by omega)
  have Hn := Lib.hid hn
  have Hf := Lib.hid hf
  have Hc := Lib.hid hc
  clear hr hb hcell hZ hcs hl hn hc hf
  by_cases hcc : 4096 ≤ 2 * (L : Int) + 4
  · rw [show min 4096 (2 * (L : Int) + 4) = 4096 by omega] at hmk
    go_enter Try.func53, Try.ntmps53
    go_wp2_with fail
    go_quiet (fail)
    go_wp2_with fail
    refine wp_region_tail 12 (by kernel_rfl) (by kernel_rfl) (fun W HW => ?_)
    have e0 := drew_cell HW c0
    have e3 := drew_cell HW c3
    have e2 := drew_cell HW c2
    have hWs : W.heap.size = w.heap.size := by rw [HW.out]; rfl
    have hBW : Below w.heap.size w W := by rw [HW.out]; exact below_up (below_drewN w _) (Below.refl _ _).drew
    have gW := drew_blk HW (hb_drewN H.out _)
    have bW : L = 0 ∨ A = some ⟨hB, 0, none⟩ ∧ hB < w.heap.size ∧ (W.alloc (.cells Z 50)).heap[hB]? = some (.cells cur 50 (0, 0)) := HB.out.imp id (fun ⟨a, b, h⟩ => ⟨a, b, hb_alloc (drew_blk HW (hb_drewN h _)) _⟩)
    have zW := hb_new W (.cells Z 50)
    rw [hWs] at zW
    have hI0 : GrowInv w (W.alloc (.cells Z 50)) g hB frm n L c 0 A cur l := ⟨hb_alloc gW _, bW, hBW.alloc (by omega) _, Z, zW, HZ.out, fun i x hi => by omega⟩
    have HI0 := Lib.hid hI0
    clear hBW gW bW zW hI0
    simp only [List.take_succ_cons, List.take_zero, List.drop_succ_cons, List.drop_zero]
    repeat still_step
    refine wpStill_nil ?_
    go_wp2_with fail
    clear e0 e2 e3 c0 c1 c2 c3 hmk hWs
    go_loopw [31] (fun i wr => ∃ k : Nat, i = .int .i64 k ∧ k ≤ n ∧ Hid (GrowInv w wr g hB frm n L c k A cur l)) (fun i _ => n - (intOf i).toNat)
    case atStart => exact ⟨0, rfl, Nat.zero_le _, HI0.out⟩
    case round =>
      obtain ⟨k, rfl, hk, HI⟩ := hrel
      have hnn := Hn.out
      have hcL : L < c := by rw [Hc.out]; unfold ringCap; omega
      have hcM : c ≤ 4096 := by rw [Hc.out]; unfold ringCap; omega
      by_cases hkn : k < n
      · obtain ⟨x, hx⟩ : ∃ x, l[k]? = some x := ⟨l[k]'(by rw [Hl.out]; exact hkn), List.getElem?_eq_getElem _⟩
        have hL0 : 0 < L := by omega
        obtain ⟨i1, i2, i3, cu, i4, i5, i6⟩ := HI.out
        obtain h0 | ⟨rfl, hh, i2⟩ := i2
        · omega
        obtain ⟨x0, x1⟩ := HC.out k x hx
        have hf := Hf.out hL0
        obtain ⟨hw3, hw4, hw5⟩ := mod_facts frm k L hL0 (by omega) (by omega) (by omega)
        obtain ⟨p, hp⟩ : ∃ p, p = (frm + k) % L := ⟨_, rfl⟩
        have hpL : p < L := by rw [hp]; exact Nat.mod_lt _ hL0
        rw [← hp] at x0 x1 hw4 hw5
        have k1 := hb_cell i1 1
        have k3 := hb_cell i1 3
        simp only [List.getElem?_toArray, List.getElem?_cons_zero, List.getElem?_cons_succ] at k1 k3
        have d0 := (hb_cell i2 (p * 2)).trans x0
        have d1 := (hb_cell i2 (p * 2 + 1)).trans x1
        obtain ⟨y0, hy0⟩ : ∃ y, cu[k * 2]? = some y := ⟨_, Array.getElem?_eq_getElem (by omega)⟩
        obtain ⟨y1, hy1⟩ : ∃ y, cu[k * 2 + 1]? = some y := ⟨_, Array.getElem?_eq_getElem (by omega)⟩
        have q0 := (hb_cell i4 (k * 2)).trans hy0
        have q1 := (hb_cell i4 (k * 2 + 1)).trans hy1
        have r0 := hb_free i4 (k * 2)
        have r1 := hb_free i4 (k * 2 + 1)
        have hki0 : (0 : Int) ≤ (k : Int) := by omega
        have hki1 : (k : Int) < (c : Int) := by omega
        have hpi0 : (0 : Int) ≤ (p : Int) := by omega
        have hpi1 : (p : Int) < (L : Int) := by omega
        have hL1 : ((L : Int) == 0) = false := by simp; omega
        have hLz : ¬ L = 0 := by omega
        have Hx := Lib.hid hx
        have Hnn := Lib.hid hnn
        clear i1 i2 i3 i4 i5 i6 x0 x1 hp hy0 hy1 hx hnn hf
        go_wp2_with fail
        refine wp_region_tail 21 (by kernel_rfl) (by kernel_rfl) (fun W5 HW5 => ?_)
        have k1 := drew_cell HW5 k1
        have k3 := drew_cell HW5 k3
        have d0 := drew_cell HW5 d0
        have d1 := drew_cell HW5 d1
        have q0 := drew_cell HW5 q0
        have q1 := drew_cell HW5 q1
        have r0 := drew_free HW5 r0
        have r1 := drew_free HW5 r1
        simp only [List.take_succ_cons, List.take_zero, List.drop_succ_cons, List.drop_zero]
        repeat still_step
        refine wpStill_nil ?_
        go_wp2_with fail
        go_roundw
        case rel => exact ⟨k + 1, by go_num, by omega, HI.out.step Hx.out (by have := Hnn.out; omega) hg HW5.out⟩
        case measure => simp [intOf]; omega
      · obtain rfl : k = n := by omega
        obtain ⟨i1, i2, i3, cu, i4, i5, i6⟩ := HI.out
        have k1 := hb_cell i1 1
        have k3 := hb_cell i1 3
        have j1 := hb_free i1 1
        have j3 := hb_free i1 3
        simp only [List.getElem?_toArray, List.getElem?_cons_zero, List.getElem?_cons_succ] at k1 k3
        have Hnn := Lib.hid hnn
        clear i1 i2 i3 i4 i5 i6 hnn
        go_wp2_with fail
        exact bodyPost_end (v := .tuple #[]) (results_none rfl _ _ _) rfl ⟨rfl, HI.out.fin Hl.out (by have := Hnn.out; omega) hg⟩
  · rw [show min 4096 (2 * (L : Int) + 4) = 2 * (L : Int) + 4 by omega] at hmk
    go_enter Try.func53, Try.ntmps53
    go_wp2_with fail
    go_quiet (fail)
    go_wp2_with fail
    refine wp_region_tail 12 (by kernel_rfl) (by kernel_rfl) (fun W HW => ?_)
    have e0 := drew_cell HW c0
    have e3 := drew_cell HW c3
    have e2 := drew_cell HW c2
    have hWs : W.heap.size = w.heap.size := by rw [HW.out]; rfl
    have hBW : Below w.heap.size w W := by rw [HW.out]; exact below_up (below_drewN w _) (Below.refl _ _).drew
    have gW := drew_blk HW (hb_drewN H.out _)
    have bW : L = 0 ∨ A = some ⟨hB, 0, none⟩ ∧ hB < w.heap.size ∧ (W.alloc (.cells Z 50)).heap[hB]? = some (.cells cur 50 (0, 0)) := HB.out.imp id (fun ⟨a, b, h⟩ => ⟨a, b, hb_alloc (drew_blk HW (hb_drewN h _)) _⟩)
    have zW := hb_new W (.cells Z 50)
    rw [hWs] at zW
    have hI0 : GrowInv w (W.alloc (.cells Z 50)) g hB frm n L c 0 A cur l := ⟨hb_alloc gW _, bW, hBW.alloc (by omega) _, Z, zW, HZ.out, fun i x hi => by omega⟩
    have HI0 := Lib.hid hI0
    clear hBW gW bW zW hI0
    simp only [List.take_succ_cons, List.take_zero, List.drop_succ_cons, List.drop_zero]
    repeat still_step
    refine wpStill_nil ?_
    go_wp2_with fail
    clear e0 e2 e3 c0 c1 c2 c3 hmk hWs
    go_loopw [31] (fun i wr => ∃ k : Nat, i = .int .i64 k ∧ k ≤ n ∧ Hid (GrowInv w wr g hB frm n L c k A cur l)) (fun i _ => n - (intOf i).toNat)
    case atStart => exact ⟨0, rfl, Nat.zero_le _, HI0.out⟩
    case round =>
      obtain ⟨k, rfl, hk, HI⟩ := hrel
      have hnn := Hn.out
      have hcL : L < c := by rw [Hc.out]; unfold ringCap; omega
      have hcM : c ≤ 4096 := by rw [Hc.out]; unfold ringCap; omega
      by_cases hkn : k < n
      · obtain ⟨x, hx⟩ : ∃ x, l[k]? = some x := ⟨l[k]'(by rw [Hl.out]; exact hkn), List.getElem?_eq_getElem _⟩
        have hL0 : 0 < L := by omega
        obtain ⟨i1, i2, i3, cu, i4, i5, i6⟩ := HI.out
        obtain h0 | ⟨rfl, hh, i2⟩ := i2
        · omega
        obtain ⟨x0, x1⟩ := HC.out k x hx
        have hf := Hf.out hL0
        obtain ⟨hw3, hw4, hw5⟩ := mod_facts frm k L hL0 (by omega) (by omega) (by omega)
        obtain ⟨p, hp⟩ : ∃ p, p = (frm + k) % L := ⟨_, rfl⟩
        have hpL : p < L := by rw [hp]; exact Nat.mod_lt _ hL0
        rw [← hp] at x0 x1 hw4 hw5
        have k1 := hb_cell i1 1
        have k3 := hb_cell i1 3
        simp only [List.getElem?_toArray, List.getElem?_cons_zero, List.getElem?_cons_succ] at k1 k3
        have d0 := (hb_cell i2 (p * 2)).trans x0
        have d1 := (hb_cell i2 (p * 2 + 1)).trans x1
        obtain ⟨y0, hy0⟩ : ∃ y, cu[k * 2]? = some y := ⟨_, Array.getElem?_eq_getElem (by omega)⟩
        obtain ⟨y1, hy1⟩ : ∃ y, cu[k * 2 + 1]? = some y := ⟨_, Array.getElem?_eq_getElem (by omega)⟩
        have q0 := (hb_cell i4 (k * 2)).trans hy0
        have q1 := (hb_cell i4 (k * 2 + 1)).trans hy1
        have r0 := hb_free i4 (k * 2)
        have r1 := hb_free i4 (k * 2 + 1)
        have hki0 : (0 : Int) ≤ (k : Int) := by omega
        have hki1 : (k : Int) < (c : Int) := by omega
        have hpi0 : (0 : Int) ≤ (p : Int) := by omega
        have hpi1 : (p : Int) < (L : Int) := by omega
        have hL1 : ((L : Int) == 0) = false := by simp; omega
        have hLz : ¬ L = 0 := by omega
        have Hx := Lib.hid hx
        have Hnn := Lib.hid hnn
        clear i1 i2 i3 i4 i5 i6 x0 x1 hp hy0 hy1 hx hnn hf
        go_wp2_with fail
        refine wp_region_tail 21 (by kernel_rfl) (by kernel_rfl) (fun W5 HW5 => ?_)
        have k1 := drew_cell HW5 k1
        have k3 := drew_cell HW5 k3
        have d0 := drew_cell HW5 d0
        have d1 := drew_cell HW5 d1
        have q0 := drew_cell HW5 q0
        have q1 := drew_cell HW5 q1
        have r0 := drew_free HW5 r0
        have r1 := drew_free HW5 r1
        simp only [List.take_succ_cons, List.take_zero, List.drop_succ_cons, List.drop_zero]
        repeat still_step
        refine wpStill_nil ?_
        go_wp2_with fail
        go_roundw
        case rel => exact ⟨k + 1, by go_num, by omega, HI.out.step Hx.out (by have := Hnn.out; omega) hg HW5.out⟩
        case measure => simp [intOf]; omega
      · obtain rfl : k = n := by omega
        obtain ⟨i1, i2, i3, cu, i4, i5, i6⟩ := HI.out
        have k1 := hb_cell i1 1
        have k3 := hb_cell i1 3
        have j1 := hb_free i1 1
        have j3 := hb_free i1 3
        simp only [List.getElem?_toArray, List.getElem?_cons_zero, List.getElem?_cons_succ] at k1 k3
        have Hnn := Lib.hid hnn
        clear i1 i2 i3 i4 i5 i6 hnn
        go_wp2_with fail
        exact bodyPost_end (v := .tuple #[]) (results_none rfl _ _ _) rfl ⟨rfl, HI.out.fin Hl.out (by have := Hnn.out; omega) hg⟩
end Go.Proofs.Ytfhhdlpglfjdgaa
