/- Contracts of package ring at samples: Drop. -/
import Derived.Test.YtfhhdlpglfjdgaaRingA
set_option linter.unusedVariables false
set_option linter.unusedSimpArgs false
namespace Go.Proofs.Ytfhhdlpglfjdgaa
open Go.RowKit

theorem World.drew_blk_of {w : World} {b : Nat} {o : Obj} (h : w.heap[b]? = some o) : w.drew.heap[b]? = some o := h
theorem mod_facts (a b L : Nat) (hL : 0 < L) (hL1 : L ≤ 4096) (ha : a ≤ 4096) (hb : b ≤ 4096) : IntKind.i64.wrap ((a : Int) + (b : Int)) = (a : Int) + (b : Int) ∧ ((a : Int) + (b : Int)) % (L : Int) = (((a + b) % L : Nat) : Int) ∧ ((a : Int) + (b : Int)).tmod (L : Int) = (((a + b) % L : Nat) : Int) := by
  have h1 : ((a : Int) + (b : Int)) % (L : Int) = (((a + b) % L : Nat) : Int) := by simp
  exact ⟨IntWalk.i64_in _ (by omega), h1, by rw [Int.tmod_eq_emod_of_nonneg (by omega)]; exact h1⟩

set_option maxRecDepth 100000 in
set_option maxHeartbeats 3200000 in
theorem ring_Drop_raw (g h room frm n L p : Nat) (t x : Int) (cur : Array Value) (w : World) (hr : RingBlk w g room frm (n + 1) (.slice (some ⟨h, 0, none⟩) L L)) (hb : w.heap[h]? = some (.cells cur 50 (0, 0))) (hgh : h ≠ g)
    (hL : L ≤ 4096) (hn : n + 1 ≤ L) (hf : frm < L) (hp : p = (frm + 1) % L) (d0 : cur[frm * 2]? = some (.int .i64 t)) (d1 : cur[frm * 2 + 1]? = some (.int .i64 x)) :
    Calls Try.prog 42 #[.pointer (some ⟨g, 0, none⟩)] w fun e w' => e = .returned (.tuple #[.agg #[.int .i64 t, .int .i64 x], .bool true]) ∧
      RingBlk w' g room p n (.slice (some ⟨h, 0, none⟩) L L) ∧ w'.heap[h]? = some (.cells ((cur.setIfInBounds (frm * 2) (.int .i64 0)).setIfInBounds (frm * 2 + 1) (.int .i64 0)) 50 (0, 0)) ∧ Fr (fun k => k = g ∨ k = h) w w' := by
  have hLn := fun w h' => ring_Len g room frm (n + 1) (.slice (some ⟨h, 0, none⟩) L L) w h'
  have c3 := hr.cells.2.2.2
  have c1 := hr.cells.2.1
  have hg := hb_lt hr
  have hh := hb_lt hb
  have HL := Lib.hid hLn
  have H := Lib.hid hr
  have HB := Lib.hid hb
  have hpL : p < L := by rw [hp]; exact Nat.mod_lt _ (by omega)
  obtain ⟨hw1, hw2, hw3⟩ := mod_facts frm 1 L (by omega) hL (by omega) (by omega)
  rw [← hp] at hw2 hw3
  rw [show ((1 : Nat) : Int) = 1 from rfl] at hw1 hw2 hw3
  have hL1 : ((L : Int) == 0) = false := by simp; omega
  have hL0 : ¬ (L = 0) := by omega
  have hn1 : ((n + 1 : Nat) : Int) ≠ 0 := by omega
  have hn2 : (((n + 1 : Nat) : Int) == 0) = false := by simp; omega
  have hfi0 : (0 : Int) ≤ (frm : Int) := by omega
  have hfi1 : (frm : Int) < (L : Int) := by omega
  have Hp := Lib.hid hp
  clear hLn hr hb hp
  go_enter Try.func42, Try.ntmps42
  go_wp2_with fail
  refine (HL.out _ (hb_alloc H.out _)).mono ?_
  rintro e w1 ⟨rfl, rfl⟩
  go_wp2_with fail
  obtain ⟨W, hW⟩ : ∃ W, W = w.alloc (.cells #[.int .i64 0, .int .i64 0] 50) := ⟨_, rfl⟩
  have e3 := cell_alloc (o := (.cells #[.int .i64 0, .int .i64 0] 50)) hg c3
  have e1 := cell_alloc (o := (.cells #[.int .i64 0, .int .i64 0] 50)) hg c1
  have kb := hb_alloc HB.out (.cells #[.int .i64 0, .int .i64 0] 50)
  rw [← hW] at e3 e1 kb
  have k0 := (hb_cell kb (frm * 2)).trans d0
  have k1 := (hb_cell kb (frm * 2 + 1)).trans d1
  have kf0 := hb_free kb (frm * 2)
  have kf1 := hb_free kb (frm * 2 + 1)
  have m2 := hb_new w (.cells #[.int .i64 0, .int .i64 0] 50)
  rw [← hW] at m2
  obtain ⟨m20, m21, n20, n21⟩ := hb2 m2
  have gb := hb_alloc H.out (.cells #[.int .i64 0, .int .i64 0] 50)
  rw [← hW] at gb
  have hBW : Below w.heap.size w W := by rw [hW]; exact below1 _ _
  have hne1 : w.heap.size ≠ h := by omega
  have hne2 : w.heap.size ≠ g := by omega
  rw [← hW]
  have KB := Lib.hid kb
  have M2 := Lib.hid m2
  have GB := Lib.hid gb
  have HBW := Lib.hid hBW
  have hne1 : w.heap.size ≠ h := by omega
  have hne2 : w.heap.size ≠ g := by omega
  clear c1 c3 d0 d1 kb m2 gb hBW hW
  go_region
  clear e3 e1 k0 k1 kf0 kf1 m20 m21 n20 n21
  go_wp2_with fail
  refine wp_region_tail 14 (by kernel_rfl) (by kernel_rfl) (fun W2 HW2 => ?_)
  have gb := drew_blk HW2 (hb_far (hb_far (hb_far (hb_far (World.drew_blk_of GB.out) (by exact fun e => hne2 e.symm) _) (by exact fun e => hne2 e.symm) _) (by exact fun e => hgh e.symm) _) (by exact fun e => hgh e.symm) _)
  have kb := drew_blk HW2 (hb_set (hb_set (hb_far (hb_far (World.drew_blk_of KB.out) (by exact fun e => hne1 e.symm) _) (by exact fun e => hne1 e.symm) _) (frm * 2) _) (frm * 2 + 1) _)
  have mb := drew_blk HW2 (hb_far (hb_far (two_set (World.drew_blk_of M2.out) _ _) (by exact hne1) _) (by exact hne1) _)
  have c1 := hb_cell gb 1
  have c2 := hb_cell gb 2
  have c3 := hb_cell gb 3
  have f1 := hb_free gb 1
  have f2 := hb_free gb 2
  simp only [List.getElem?_toArray, List.getElem?_cons_zero, List.getElem?_cons_succ] at c1 c2 c3
  obtain ⟨m20, m21, n20, n21⟩ := hb2 mb
  have HB2 := Lib.hid gb
  have KB2 := Lib.hid kb
  have MB2 := Lib.hid mb
  clear gb kb mb
  simp only [List.take_succ_cons, List.take_zero, List.drop_succ_cons, List.drop_zero]
  repeat still_step
  refine wpStill_nil ?_
  go_wp2_with fail
  have gF := hb_far (hb_far (hb_set (hb_set HB2.out 1 (.int .i64 p)) 2 (.int .i64 n)) (a := ⟨w.heap.size, 0, none⟩) (by exact fun e => hne2 e.symm) (.int .i64 t)) (a := ⟨w.heap.size, 1, none⟩) (by exact fun e => hne2 e.symm) (.int .i64 x)
  have kF := hb_far (hb_far (hb_far (hb_far KB2.out (a := ⟨g, 1, none⟩) (by exact hgh) (.int .i64 p)) (a := ⟨g, 2, none⟩) (by exact hgh) (.int .i64 n)) (a := ⟨w.heap.size, 0, none⟩) (by exact fun e => hne1 e.symm) (.int .i64 t)) (a := ⟨w.heap.size, 1, none⟩) (by exact fun e => hne1 e.symm) (.int .i64 x)
  have mF := two_set (hb_far (hb_far MB2.out (a := ⟨g, 1, none⟩) (by exact hne2) (.int .i64 p)) (a := ⟨g, 2, none⟩) (by exact hne2) (.int .i64 n)) (.int .i64 t) (.int .i64 x)
  obtain ⟨q0, q1, _, _⟩ := hb2 mF
  refine bodyPost_ret (v := .tuple #[.agg #[.int .i64 t, .int .i64 x], .bool true]) (by simp [results, Try.results42, q0, q1, go_sem]) rfl ⟨rfl, gF, kF, ?_⟩
  have h0 : Fr (fun k => k = g ∨ k = h) w W := Fr.ofBelow HBW.out
  have h1 : Fr (fun k => k = g ∨ k = h) w W.drew := h0.drewN 1
  have h2 := (((h1.setCell (p := ⟨w.heap.size, 0, none⟩) (.inr (Nat.le_refl _)) (.int .i64 t)).setCell (p := ⟨w.heap.size, 1, none⟩) (.inr (Nat.le_refl _)) (.int .i64 x)).setCell (p := ⟨h, frm * 2, none⟩) (.inl (.inr rfl)) (.int .i64 0)).setCell (p := ⟨h, frm * 2 + 1, none⟩) (.inl (.inr rfl)) (.int .i64 0)
  have h3 : Fr (fun k => k = g ∨ k = h) w W2 := by rw [HW2.out]; exact h2.drewN 1
  exact (((h3.setCell (.inl (.inl rfl)) _).setCell (.inl (.inl rfl)) _).setCell (.inr (Nat.le_refl _)) _).setCell (.inr (Nat.le_refl _)) _
end Go.Proofs.Ytfhhdlpglfjdgaa
