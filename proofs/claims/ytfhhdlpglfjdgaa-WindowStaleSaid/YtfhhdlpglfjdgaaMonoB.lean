/- Contracts of package mono: Put and Take. -/
import Derived.Test.YtfhhdlpglfjdgaaMonoA
set_option linter.unusedVariables false
set_option linter.unusedSimpArgs false
namespace Go.Proofs.Ytfhhdlpglfjdgaa
open Go.RowKit

/-- Does an elder number stay ahead of v? -/
def mbeats (high : Bool) (old v : Int) : Bool := if high then decide (v < old) else decide (old < v)
/-- How many of the first n stay. -/
def mcut (high : Bool) (v : Int) (l : List (Int × Int)) : Nat → Nat
  | 0 => 0
  | n + 1 => if mbeats high (l.getD n (0, 0)).1 v then n + 1 else mcut high v l n
theorem mcut_le (high : Bool) (v : Int) (l : List (Int × Int)) : ∀ n, mcut high v l n ≤ n
  | 0 => Nat.le_refl _
  | n + 1 => by
    have := mcut_le high v l n
    unfold mcut
    split <;> omega

theorem mono_Put_nil (v : Int) (w : World) : Calls Try.prog 36 #[.pointer none, .int .i64 v] w fun e w' => e = .returned (.tuple #[]) ∧ w' = w := by
  go_enter Try.func36, Try.ntmps36
  go_step3
  go_wp2
  rw [Exit.noGoto_ret]
  exact bodyPost_ret (v := .tuple #[]) (results_none rfl _ _ _) rfl ⟨rfl, rfl⟩
theorem mono_Take_nil (w : World) : Calls Try.prog 55 #[.pointer none] w fun e w' => e = .returned (.bool false) ∧ w' = w := by
  have hL := mono_Len_nil
  have HL := Lib.hid hL
  clear hL
  go_enter Try.func55, Try.ntmps55
  go_wp2_with fail
  refine (HL.out _).mono ?_
  rintro e w1 ⟨rfl, rfl⟩
  go_wp2
  go_ret
  exact ⟨rfl, rfl⟩

theorem Try.infok : (Try.prog.info? 101).map (fun i => (i.zero, i.size, i.bytes)) = some (some (.agg #[.int .i64 0, .int .i64 0]), 2, 16) := by kernel_rfl

/-- Behind the cut: what is kept, and the new one, in a row. -/
def MonoPut (w w' : World) (g base : Nat) (high : Bool) (come left : Int) (l : List (Int × Int)) (v0 : Value) : Prop :=
  ∃ h off cap w1, RowQ w1 base 101 2 (.slice (some ⟨h, off, none⟩) l.length cap) l.length (kc l) ∧ w.grownBy w1 v0.ownBlock ∧ (v0.ownBlock = some h ∨ w.heap.size ≤ h) ∧
    w' = (w1.setCell ⟨g, 3, none⟩ (.slice (some ⟨h, off, none⟩) l.length cap)).setCell ⟨g, 1, none⟩ (.int .i64 come)

theorem grown_alloc_drew {w w1 : World} {o : Obj} {row : Option Nat} (h : (w.alloc o).drew.grownBy w1 row) : w.grownBy w1 row :=
  ⟨h.os, h.tape, h.output, by have := h.size; simp at this; omega, fun k hk hne => (h.block k (by simp; omega) hne).trans (Below.heap_alloc w o k hk)⟩
theorem MonoPut.mk' {w w1 : World} {g base k h off cap cap0 : Nat} {A : Option Addr} {high : Bool} {come left v : Int} {l : List (Int × Int)} {v0 : Value} {o : Obj} (hk : k ≤ l.length) (hcut : mcut high v l l.length = k)
    (HQ : RowQ w1 base 101 2 (.slice (some ⟨h, off, none⟩) (k + 1) cap) (k + 1) (kc (l.take k) ++ [.int .i64 v, .int .i64 come])) (HG : (w.alloc o).drew.grownBy w1 (Value.slice A k cap0).ownBlock)
    (HO : (Value.slice A k cap0).ownBlock = some h ∨ (w.alloc o).drew.heap.size ≤ h) (hv : (Value.slice A k cap0).ownBlock = v0.ownBlock) :
    MonoPut w ((w1.setCell ⟨g, 3, none⟩ (.slice (some ⟨h, off, none⟩) (k + 1) cap)).setCell ⟨g, 1, none⟩ (.int .i64 (come + 1))) g base high (come + 1) left (l.take (mcut high v l l.length) ++ [(v, come)]) v0 := by
  rw [hcut]
  have e : (l.take k ++ [(v, come)]).length = k + 1 := by simp; omega
  rw [hv] at HG HO
  refine ⟨h, off, cap, w1, ?_, grown_alloc_drew HG, HO.imp id (fun h => by simp at h; omega), by rw [e]⟩
  rw [e, kc_append]
  exact HQ

set_option maxHeartbeats 4000000 in
theorem mono_Put_none (g base : Nat) (high : Bool) (come left v : Int) (w : World) (hm : MonoBlk w g high come left (.slice none 0 0)) 
    (hbase : base ≤ w.heap.size) (h0 : 0 ≤ come) (h2 : come ≤ 4611686018427387904) :
    Calls Try.prog 36 #[.pointer (some ⟨g, 0, none⟩), .int .i64 v] w fun e w' => e = .returned (.tuple #[]) ∧ MonoPut w w' g base high (come + 1) left (([] : List (Int × Int)).take (mcut high v [] 0) ++ [(v, come)]) (.slice none 0 0) := by
  have hq : RowQ w base 101 2 (.slice none 0 0) 0 (kc []) := RowQ.nil _ _ _ _
  have hne : (Value.slice none 0 0).ownBlock ≠ some g := by simp [Value.ownBlock]
  have c0 := hb_cell hm 0
  have c1 := hb_cell hm 1
  have c3 := hb_cell hm 3
  have f1 := hb_free hm 1
  have f3 := hb_free hm 3
  have hg := hb_lt hm
  simp only [List.getElem?_toArray, List.getElem?_cons_zero, List.getElem?_cons_succ] at c0 c1 c3
  have Hq := Lib.hid hq
  have Hne := Lib.hid hne
  obtain ⟨i0, hi, hz0, hz1, hz2⟩ := info_parts Try.infok
  have Hi := Lib.hid hi
  have Hz0 := Lib.hid hz0
  have Hz1 := Lib.hid hz1
  have Hz2 := Lib.hid hz2
  clear hq hm hne hi hz0 hz1 hz2
  go_enter Try.func36, Try.ntmps36
  go_step3
  go_wp2_with fail
  go_step3
  go_wp2_with fail
  go_loop [4] (fun n => n = .int .i64 0) (fun n => 0)
  case atStart => rfl
  case round =>
    subst hrel
    have hrow := Hq.out.take (k := 0) (Nat.le_refl _)
    rw [kc_take] at hrow
    have Hr := Lib.hid hrow
    have hne' : some g ≠ (Value.slice none 0 0).ownBlock := fun e => Hne.out e.symm
    have Hne' := Lib.hid hne'
    clear hrow hne'
    go_wp2_with fail
    go_region_law (refine step_append_q rfl (.tmp 52) (.tmp 59) 81 rfl 101 i0 _ 2 16 Try.underlying81 Hi.out Hz0.out Hz1.out Hz2.out rfl (by decide) base (.slice none 0 0) 0 _ rfl (Hr.out.drew.alloc _) (by simp; omega) ⟨w.heap.size, 0, none⟩ 1 1 [.int .i64 v, .int .i64 come] rfl rfl (news2 _ _ _ _) (one2 _ _ _ _) (by decide) (by unfold maxLen; omega) (by omega) ?_; intro h' off' cap' w1 hq1 hgr hor hlt'; have d1 := grown_cell hgr (b := g) (o := 1) (cell_alloc hg c1) Hne'.out; have d3 := grown_cell hgr (b := g) (o := 3) (cell_alloc hg c3) Hne'.out; have e1 := grown_free hgr (b := g) (o := 1) (by simp; omega) (free_alloc hg f1) Hne'.out; have e3 := grown_free hgr (b := g) (o := 3) (by simp; omega) (free_alloc hg f3) Hne'.out; have HQ := Lib.hid hq1; have HG := Lib.hid hgr; have HO := Lib.hid hor; clear hq1 hgr hor)
    all_goals
      go_wp2_with fail
      unfold Exit.noGoto
      exact bodyPost_end (v := .tuple #[]) (results_none rfl _ _ _) rfl ⟨rfl, MonoPut.mk' (k := 0) (A := none) (cap0 := 0) (Nat.zero_le _) rfl HQ.out HG.out HO.out rfl⟩

set_option maxHeartbeats 4000000 in
theorem mono_Put_some (g base h off cap : Nat) (high : Bool) (come left v : Int) (l : List (Int × Int)) (w : World) (hm : MonoBlk w g high come left (.slice (some ⟨h, off, none⟩) l.length cap)) (hq : RowQ w base 101 2 (.slice (some ⟨h, off, none⟩) l.length cap) l.length (kc l)) (hgh : h ≠ g)
    (hbase : base ≤ w.heap.size) (h0 : 0 ≤ come) (h2 : come ≤ 4611686018427387904) (hl : l.length ≤ 4294967296) (hnc : l.length ≤ cap) (hcm : cap ≤ maxLen) (hcell : ∀ j u, (kc l)[j]? = some u → w.cell? ⟨h, off + j, none⟩ = some u) :
    Calls Try.prog 36 #[.pointer (some ⟨g, 0, none⟩), .int .i64 v] w fun e w' => e = .returned (.tuple #[]) ∧ MonoPut w w' g base high (come + 1) left (l.take (mcut high v l l.length) ++ [(v, come)]) (.slice (some ⟨h, off, none⟩) l.length cap) := by
  have hne : (Value.slice (some ⟨h, off, none⟩) l.length cap).ownBlock ≠ some g := by simpa [Value.ownBlock] using hgh
  have c0 := hb_cell hm 0
  have c1 := hb_cell hm 1
  have c3 := hb_cell hm 3
  have f1 := hb_free hm 1
  have f3 := hb_free hm 3
  have hg := hb_lt hm
  simp only [List.getElem?_toArray, List.getElem?_cons_zero, List.getElem?_cons_succ] at c0 c1 c3
  have Hq := Lib.hid hq
  have Hne := Lib.hid hne
  obtain ⟨i0, hi, hz0, hz1, hz2⟩ := info_parts Try.infok
  have Hi := Lib.hid hi
  have Hz0 := Lib.hid hz0
  have Hz1 := Lib.hid hz1
  have Hz2 := Lib.hid hz2
  have Hc := Lib.hid hcell
  clear hq hm hne hi hz0 hz1 hz2 hcell hgh
  go_enter Try.func36, Try.ntmps36
  go_step3
  go_wp2_with fail
  go_step3
  go_wp2_with fail
  go_loop [4] (fun n => ∃ k : Nat, n = .int .i64 k ∧ k ≤ l.length ∧ Hid (mcut high v l l.length = mcut high v l k)) (fun n => (intOf n).toNat)
  case atStart => exact ⟨l.length, rfl, Nat.le_refl _, rfl⟩
  case round =>
    obtain ⟨k, rfl, hk, Hk⟩ := hrel
    rcases Nat.eq_zero_or_pos k with rfl | hp
    · have Hcut : Hid (mcut high v l l.length = 0) := Hk.out
      have hrow := Hq.out.take (k := 0) (by omega)
      rw [kc_take] at hrow
      have Hr := Lib.hid hrow
      have hne' : some g ≠ (Value.slice (some ⟨h, off, none⟩) 0 cap).ownBlock := fun e => Hne.out e.symm
      have Hne' := Lib.hid hne'
      clear hrow hne'
      go_wp2_with fail
      go_region_law (refine step_append_q rfl (.tmp 52) (.tmp 59) 81 rfl 101 i0 _ 2 16 Try.underlying81 Hi.out Hz0.out Hz1.out Hz2.out rfl (by decide) base (.slice (some ⟨h, off, none⟩) 0 cap) 0 _ rfl (Hr.out.drew.alloc _) (by simp; omega) ⟨w.heap.size, 0, none⟩ 1 1 [.int .i64 v, .int .i64 come] rfl rfl (news2 _ _ _ _) (one2 _ _ _ _) (by decide) (by unfold maxLen; omega) (by omega) ?_; intro h' off' cap' w1 hq1 hgr hor hlt'; have d1 := grown_cell hgr (b := g) (o := 1) (cell_alloc hg c1) Hne'.out; have d3 := grown_cell hgr (b := g) (o := 3) (cell_alloc hg c3) Hne'.out; have e1 := grown_free hgr (b := g) (o := 1) (by simp; omega) (free_alloc hg f1) Hne'.out; have e3 := grown_free hgr (b := g) (o := 3) (by simp; omega) (free_alloc hg f3) Hne'.out; have HQ := Lib.hid hq1; have HG := Lib.hid hgr; have HO := Lib.hid hor; clear hq1 hgr hor)
      all_goals
        go_wp2_with fail
        unfold Exit.noGoto
        exact bodyPost_end (v := .tuple #[]) (results_none rfl _ _ _) rfl ⟨rfl, MonoPut.mk' (k := 0) (A := (some ⟨h, off, none⟩)) (cap0 := cap) (by omega) (Hcut.out) HQ.out HG.out HO.out rfl⟩
    · obtain ⟨m, rfl⟩ : ∃ m, k = m + 1 := ⟨k - 1, by omega⟩
      obtain ⟨x, hx⟩ : ∃ x, l[m]? = some x := ⟨l[m]'(by omega), List.getElem?_eq_getElem (by omega)⟩
      have co := Hc.out _ _ (kc_get l m x hx).1
      have hgd : (l.getD m (0, 0)).1 = x.1 := by simp [List.getD, hx]
      have hstep : mcut high v l (m + 1) = if mbeats high x.1 v then m + 1 else mcut high v l m := by rw [← hgd]; rfl
      have Hst := Lib.hid hstep
      clear hx hgd hstep
      cases high
      · by_cases hbt : x.1 < v
        · have Hcut : Hid (mcut false v l l.length = m + 1) := Hk.out.trans (Hst.out.trans (if_pos (by simp [mbeats]; omega)))
          have hrow := Hq.out.take (k := (m + 1)) (by omega)
          rw [kc_take] at hrow
          have Hr := Lib.hid hrow
          have hne' : some g ≠ (Value.slice (some ⟨h, off, none⟩) (m + 1) cap).ownBlock := fun e => Hne.out e.symm
          have Hne' := Lib.hid hne'
          have hsl : ((m : Int) + 1) ≤ (cap : Int) := by omega
          have hsl0 : (0 : Int) ≤ ((m : Int) + 1) := by omega
          clear hrow hne'
          go_wp2_with fail
          go_region_law (refine step_append_q rfl (.tmp 52) (.tmp 59) 81 rfl 101 i0 _ 2 16 Try.underlying81 Hi.out Hz0.out Hz1.out Hz2.out rfl (by decide) base (.slice (some ⟨h, off, none⟩) (m + 1) cap) (m + 1) _ rfl (Hr.out.drew.alloc _) (by simp; omega) ⟨w.heap.size, 0, none⟩ 1 1 [.int .i64 v, .int .i64 come] rfl rfl (news2 _ _ _ _) (one2 _ _ _ _) (by decide) (by unfold maxLen; omega) (by omega) ?_; intro h' off' cap' w1 hq1 hgr hor hlt'; have d1 := grown_cell hgr (b := g) (o := 1) (cell_alloc hg c1) Hne'.out; have d3 := grown_cell hgr (b := g) (o := 3) (cell_alloc hg c3) Hne'.out; have e1 := grown_free hgr (b := g) (o := 1) (by simp; omega) (free_alloc hg f1) Hne'.out; have e3 := grown_free hgr (b := g) (o := 3) (by simp; omega) (free_alloc hg f3) Hne'.out; have HQ := Lib.hid hq1; have HG := Lib.hid hgr; have HO := Lib.hid hor; clear hq1 hgr hor)
          all_goals
            go_wp2_with fail
            unfold Exit.noGoto
            exact bodyPost_end (v := .tuple #[]) (results_none rfl _ _ _) rfl ⟨rfl, MonoPut.mk' (k := (m + 1)) (A := (some ⟨h, off, none⟩)) (cap0 := cap) (by omega) (Hcut.out) HQ.out HG.out HO.out rfl⟩
        · go_wp2_with fail
          go_round
          case rel => exact ⟨m, rfl, by omega, Hk.out.trans (Hst.out.trans (if_neg (by simp [mbeats]; omega)))⟩
          case measure => simp [intOf]
      · by_cases hbt : v < x.1
        · have Hcut : Hid (mcut true v l l.length = m + 1) := Hk.out.trans (Hst.out.trans (if_pos (by simp [mbeats]; omega)))
          have hrow := Hq.out.take (k := (m + 1)) (by omega)
          rw [kc_take] at hrow
          have Hr := Lib.hid hrow
          have hne' : some g ≠ (Value.slice (some ⟨h, off, none⟩) (m + 1) cap).ownBlock := fun e => Hne.out e.symm
          have Hne' := Lib.hid hne'
          have hsl : ((m : Int) + 1) ≤ (cap : Int) := by omega
          have hsl0 : (0 : Int) ≤ ((m : Int) + 1) := by omega
          clear hrow hne'
          go_wp2_with fail
          go_region_law (refine step_append_q rfl (.tmp 52) (.tmp 59) 81 rfl 101 i0 _ 2 16 Try.underlying81 Hi.out Hz0.out Hz1.out Hz2.out rfl (by decide) base (.slice (some ⟨h, off, none⟩) (m + 1) cap) (m + 1) _ rfl (Hr.out.drew.alloc _) (by simp; omega) ⟨w.heap.size, 0, none⟩ 1 1 [.int .i64 v, .int .i64 come] rfl rfl (news2 _ _ _ _) (one2 _ _ _ _) (by decide) (by unfold maxLen; omega) (by omega) ?_; intro h' off' cap' w1 hq1 hgr hor hlt'; have d1 := grown_cell hgr (b := g) (o := 1) (cell_alloc hg c1) Hne'.out; have d3 := grown_cell hgr (b := g) (o := 3) (cell_alloc hg c3) Hne'.out; have e1 := grown_free hgr (b := g) (o := 1) (by simp; omega) (free_alloc hg f1) Hne'.out; have e3 := grown_free hgr (b := g) (o := 3) (by simp; omega) (free_alloc hg f3) Hne'.out; have HQ := Lib.hid hq1; have HG := Lib.hid hgr; have HO := Lib.hid hor; clear hq1 hgr hor)
          all_goals
            go_wp2_with fail
            unfold Exit.noGoto
            exact bodyPost_end (v := .tuple #[]) (results_none rfl _ _ _) rfl ⟨rfl, MonoPut.mk' (k := (m + 1)) (A := (some ⟨h, off, none⟩)) (cap0 := cap) (by omega) (Hcut.out) HQ.out HG.out HO.out rfl⟩
        · go_wp2_with fail
          go_round
          case rel => exact ⟨m, rfl, by omega, Hk.out.trans (Hst.out.trans (if_neg (by simp [mbeats]; omega)))⟩
          case measure => simp [intOf]
end Go.Proofs.Ytfhhdlpglfjdgaa
