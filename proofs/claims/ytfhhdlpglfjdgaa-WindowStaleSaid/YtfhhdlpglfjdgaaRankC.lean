/- Contracts of package rank: Put. -/
import Derived.Test.YtfhhdlpglfjdgaaRankB
set_option linter.unusedVariables false
set_option linter.unusedSimpArgs false
namespace Go.Proofs.Ytfhhdlpglfjdgaa
open Go.RowKit

theorem Try.infoi : (Try.prog.info? 2).map (fun i => (i.zero, i.size, i.bytes)) = some (some (.int .i64 0), 1, 8) := by kernel_rfl
theorem Try.sizei : (Try.prog.info? 2).map (·.size) = some 1 := by kernel_rfl

/-- v put in at place i. -/
def insI (l : List Int) (i : Nat) (v : Int) : List Int := l.take i ++ v :: l.drop i
theorem insI_length (l : List Int) (i : Nat) (v : Int) (h : i ≤ l.length) : (insI l i v).length = l.length + 1 := by simp [insI]; omega
theorem splice_get {α : Type} (L : List α) (off : Nat) (cs : List α) (h : off + cs.length ≤ L.length) (k : Nat) : (splice L off cs)[k]? = if off ≤ k ∧ k < off + cs.length then cs[k - off]? else L[k]? := by
  unfold splice
  rw [List.getElem?_append, List.length_take, Nat.min_eq_left (by omega)]
  split
  · rename_i h1
    rw [if_neg (by omega), List.getElem?_take, if_pos h1]
  · rename_i h1
    rw [List.getElem?_append]
    split
    · rename_i h2
      rw [if_pos (by omega)]
    · rename_i h2
      rw [if_neg (by omega), List.getElem?_drop]
      congr 1
      omega

theorem ins_cells (cur : Array Value) (off i : Nat) (l : List Int) (v : Int) (hi : i ≤ l.length) (hs : off + (l.length + 1) ≤ cur.size)
    (hc : ∀ j u, (nl l ++ [.int .i64 0])[j]? = some u → cur[off + j]? = some u) :
    ∀ j u, (nl (insI l i v))[j]? = some u → ((splice cur.toList (off + (i + 1)) (nl (l.drop i))).toArray.setIfInBounds (off + i) (.int .i64 v))[off + j]? = some u := by
  intro j u hj
  have hlen : (nl (l.drop i)).length = l.length - i := by rw [nl_length, List.length_drop]
  have hsp : off + (i + 1) + (nl (l.drop i)).length ≤ cur.toList.length := by rw [hlen]; simp; omega
  have hj0 := (List.getElem?_eq_some_iff.1 hj).1
  rw [nl_length, insI_length l i v hi] at hj0
  rw [Array.getElem?_setIfInBounds]
  simp only [List.getElem?_toArray, List.size_toArray, length_splice _ _ _ hsp]
  rcases Nat.lt_trichotomy j i with h | h | h
  · rw [if_neg (by omega), splice_get _ _ _ hsp, if_neg (by omega)]
    have := hc j u (by
      rw [List.getElem?_append_left (by rw [nl_length]; omega)]
      unfold nl insI at *
      rw [List.map_append, List.getElem?_append_left (by simp; omega), List.map_take, List.getElem?_take, if_pos h] at hj
      exact hj)
    simpa using this
  · subst h
    rw [if_pos rfl, if_pos (by simp; omega)]
    unfold nl insI at hj
    rw [List.map_append, List.getElem?_append_right (by simp; omega), List.map_cons] at hj
    have e0 : j - (List.map (Value.int .i64) (List.take j l)).length = 0 := by simp; omega
    rw [e0] at hj
    exact hj
  · rw [if_neg (by omega), splice_get _ _ _ hsp, if_pos (by omega)]
    unfold nl insI at *
    rw [List.map_append, List.getElem?_append_right (by simp; omega), List.map_cons] at hj
    have e0 : j - (List.map (Value.int .i64) (List.take i l)).length = (j - i - 1) + 1 := by simp; omega
    rw [e0, List.getElem?_cons_succ] at hj
    rw [show off + j - (off + (i + 1)) = j - i - 1 by omega]
    exact hj

/-- The row behind a Put. -/
def RankPut (w w' : World) (g : Nat) (l : List Int) (v0 : Value) : Prop :=
  ∃ h off cap, RankBlk w' g (.slice (some ⟨h, off, none⟩) l.length cap) ∧ RowQ w' 0 2 1 (.slice (some ⟨h, off, none⟩) l.length cap) l.length (nl l) ∧ (v0.ownBlock = some h ∨ w.heap.size ≤ h) ∧ h ≠ g ∧ h < w'.heap.size ∧ Fr (fun k => k = g ∨ v0.ownBlock = some k ∨ k = h) w w'

theorem rank_put_fin {w w2 w4 : World} {g h off cap cap' i : Nat} {A : Option Addr} {cur : Array Value} {l : List Int} {v : Int} {n0 : Nat} {o : Obj} (hi : i ≤ l.length) (hg : g < w.heap.size) (hhg : h ≠ g) (hlt : h < w2.heap.size) (hn : l.length + 1 ≤ cap') (hcm : cap' ≤ maxLen) (hcs : off + cap' * 1 ≤ cur.size)
    (HO : (Value.slice A n0 cap).ownBlock = some h ∨ w.heap.size + 1 ≤ h) (HG : (w.alloc o).grownBy w2 (Value.slice A n0 cap).ownBlock)
    (M3 : (w2.setCell ⟨g, 0, none⟩ (.slice (some ⟨h, off, none⟩) (l.length + 1) cap')).heap[g]? = some (.cells #[.slice (some ⟨h, off, none⟩) (l.length + 1) cap'] 86 (0, 0)))
    (Hrd : ∀ j u, (nl l ++ [.int .i64 0])[j]? = some u → cur[off + j]? = some u)
    (HG4 : (w2.setCell ⟨g, 0, none⟩ (.slice (some ⟨h, off, none⟩) (l.length + 1) cap')).drew.grownBy w4 (some h))
    (HH4 : w4.heap[h]? = some (.cells (splice cur.toList (off + (i + 1)) (nl (l.drop i))).toArray 2 (0, 0))) :
    RankPut w (w4.setCell ⟨h, off + i, none⟩ (.int .i64 v)) g (insI l i v) (Value.slice A n0 cap) := by
  have hlen := insI_length l i v hi
  have hg2 : g < w2.heap.size := by have := HG.size; simp at this; omega
  have m4 : w4.heap[g]? = _ := (HG4.block g (by simpa using hg2) (by simp; exact fun e => hhg e.symm)).trans M3
  have hsp : off + (i + 1) + (nl (l.drop i)).length ≤ cur.toList.length := by rw [nl_length, List.length_drop]; simp; omega
  refine ⟨h, off, cap', ?_, ⟨by rw [nl_length, hlen]; omega, .inr ⟨h, off, cap', _, by rw [hlen], Nat.zero_le _, hb_set HH4 (off + i) (.int .i64 v), by omega, hcm, ?_, ?_⟩⟩, HO.imp id (fun x => by omega), hhg, ?_, ?_⟩
  · rw [hlen]
    exact hb_far m4 (by exact fun e => hhg e.symm) _
  · simp only [Array.size_setIfInBounds, List.size_toArray, length_splice _ _ _ hsp]
    simpa using hcs
  · exact ins_cells cur off i l v hi (by omega) Hrd
  · have := HG4.size
    simp [World.setCell] at this ⊢
    omega
  · have h1 : Fr (fun k => k = g ∨ (Value.slice A n0 cap).ownBlock = some k ∨ k = h) w w2 :=
      ⟨HG.os, HG.tape, HG.output, by have := HG.size; simp at this; omega, fun k hk hne => (HG.block k (by simp; omega) (fun e => hne (.inr (.inl e.symm)))).trans (Below.heap_alloc w o k hk)⟩
    have h2 := (h1.setCell (p := ⟨g, 0, none⟩) (.inl (.inl rfl)) (.slice (some ⟨h, off, none⟩) (l.length + 1) cap'))
    have h3 : Fr (fun k => k = g ∨ (Value.slice A n0 cap).ownBlock = some k ∨ k = h) w w4 :=
      ⟨HG4.os.trans h2.os, HG4.tape.trans h2.tape, HG4.output.trans h2.output, Nat.le_trans h2.size HG4.size, fun k hk hne => (HG4.block k (Nat.lt_of_lt_of_le hk h2.size) (fun e => hne (.inr (.inr (by simpa using e))))).trans (h2.block k hk hne)⟩
    exact h3.setCell (.inl (.inr (.inr rfl))) _

set_option maxRecDepth 100000 in
set_option maxHeartbeats 4000000 in
theorem rank_Put (g : Nat) (v : Int) (l : List Int) (v0 : Value) (w : World) (hm : RankBlk w g v0) (hq : RowQ w 0 2 1 v0 l.length (nl l)) (hne : v0.ownBlock ≠ some g) (hr : Rise l) (hl : l.length ≤ 4294967295) :
    Calls Try.prog 37 #[.pointer (some ⟨g, 0, none⟩), .int .i64 v] w fun e w' => e = .returned (.tuple #[]) ∧ RankPut w w' g (insI l (lb l v) v) v0 := by
  obtain ⟨A, cap, rfl, hnc, hcm, hnone, hsome⟩ := hq.form
  have h1 := fun w hs => slices_BinarySearch A cap l v (decide (l[lb l v]? = some v)) w (by omega) hr hs (fun h => (hnone h).1) rfl
  have hbs : ∀ ad, A = some ad → ∃ g off, ad = ⟨g, off, none⟩ ∧ ∀ (j : Nat) (x : Int), l[j]? = some x → w.cell? ⟨g, off + j, none⟩ = some (.int .i64 x) := by
    intro ad had
    obtain ⟨h, off, e, _, _, hc, _⟩ := hsome ad had
    exact ⟨h, off, e, fun j x hx => hc j _ (nl_get l j x hx)⟩
  have c0 := hb_cell hm 0
  have f0 := hb_free hm 0
  simp only [List.getElem?_toArray, List.getElem?_cons_zero] at c0
  have hg := hb_lt hm
  have hle := lb_le l v
  have H1 := Lib.hid h1
  have Hbs := Lib.hid hbs
  have Hq := Lib.hid hq
  have hne' : some g ≠ (Value.slice A l.length cap).ownBlock := fun e => hne e.symm
  have Hne := Lib.hid hne'
  obtain ⟨i0, hi, hz0, hz1, hz2⟩ := info_parts Try.infoi
  have Hi := Lib.hid hi
  have Hz0 := Lib.hid hz0
  have Hz1 := Lib.hid hz1
  have Hz2 := Lib.hid hz2
  have Hm := Lib.hid hm
  clear h1 hbs hq hne hne' hi hz0 hz1 hz2 hm hsome hr hnone
  go_enter Try.func37, Try.ntmps37
  go_wp2_with fail
  refine (H1.out _ Hbs.out).mono ?_
  rintro e w1 ⟨rfl, rfl⟩
  go_wp2_with (at_builtin; refine wpList_append_q rfl (.tmp 21) (.tmp 22) 84 rfl 2 i0 _ 1 8 Try.underlying84 Hi.out Hz0.out Hz1.out Hz2.out rfl (by decide) 0 (.slice A l.length cap) l.length _ rfl (Hq.out.alloc _) (Nat.zero_le _) ⟨w1.heap.size, 0, none⟩ 1 1 [.int .i64 0] rfl rfl (news1 _ _ _) (one1 _ _) (by decide) (by unfold maxLen; omega) (by omega) ?_)
  intro hB off cap' w2 hq2 hgr hor hlt2
  have hhg : hB ≠ g := by
    rintro rfl
    rcases hor with e | e
    · exact Hne.out e.symm
    · omega
  have m2 : w2.heap[g]? = _ := (hgr.block g (by simp; omega) Hne.out).trans (hb_alloc Hm.out _)
  have d0 := hb_cell m2 0
  have e0 := hb_free m2 0
  simp only [List.getElem?_toArray, List.getElem?_cons_zero] at d0
  have hcur : ∃ cur, w2.heap[hB]? = some (.cells cur 2 (0, 0)) ∧ l.length + 1 ≤ cap' ∧ cap' ≤ maxLen ∧ off + cap' * 1 ≤ cur.size ∧ ∀ j u, (nl l ++ [.int .i64 0])[j]? = some u → cur[off + j]? = some u := by
    rcases hq2.2 with ⟨hv, h0⟩ | ⟨h', off', cap'', cur, hv, hb, hh, hn, hc, hs, hr⟩
    · omega
    · simp at hv
      obtain ⟨⟨rfl, rfl⟩, rfl⟩ := hv
      exact ⟨cur, hh, hn, hc, hs, hr⟩
  obtain ⟨cur, hh2, hn2, hcm2, hcs2, hrd⟩ := hcur
  have m3 : (w2.setCell ⟨g, 0, none⟩ (.slice (some ⟨hB, off, none⟩) (l.length + 1) cap')).heap[g]? = some (.cells #[.slice (some ⟨hB, off, none⟩) (l.length + 1) cap'] 86 (0, 0)) := by simpa using hb_set m2 0 (.slice (some ⟨hB, off, none⟩) (l.length + 1) cap')
  have hh3 : (w2.setCell ⟨g, 0, none⟩ (.slice (some ⟨hB, off, none⟩) (l.length + 1) cap')).heap[hB]? = some (.cells cur.toList.toArray 2 (0, 0)) := by rw [Array.toArray_toList]; exact hb_far hh2 (by exact hhg) _
  have hg2 : g < w2.heap.size := hb_lt m2
  have M3 := Lib.hid m3
  have HH3 := Lib.hid hh3
  have HO := Lib.hid hor
  have Hrd := Lib.hid hrd
  have HG := Lib.hid hgr
  have hi0 : (0 : Int) ≤ (lb l v : Int) + 1 := by omega
  have hi1 : (lb l v : Int) + 1 ≤ (l.length : Int) + 1 := by omega
  have hi2 : (lb l v : Int) ≤ (l.length : Int) + 1 := by omega
  have hi3 : ((lb l v : Int) + 1).toNat = lb l v + 1 := by omega
  have hw : IntKind.i64.wrap ((lb l v : Int) + 1) = (lb l v : Int) + 1 := IntWalk.i64_in _ (by omega)
  have hca : ¬ cap' = lb l v := by omega
  unfold maxLen at hcm2
  clear hq2 hgr hor m2 hh2 m3 hh3 hrd
  go_wp2_with fail
  by_cases hil : lb l v < l.length
  · have hcb : ¬ cap' = lb l v + 1 := by omega
    have Hlen : Hid ((nl (l.drop (lb l v))).length = l.length - lb l v) := by show _ = _; rw [nl_length, List.length_drop]
    have Hsrc : Hid (∀ j u, (nl (l.drop (lb l v)))[j]? = some u → (w2.setCell ⟨g, 0, none⟩ (.slice (some ⟨hB, off, none⟩) (l.length + 1) cap')).cell? ((⟨hB, off + lb l v, none⟩ : Addr).add j) = some u) := by
      intro j u hj
      have : (⟨hB, off + lb l v, none⟩ : Addr).add j = ⟨hB, off + (lb l v + j), none⟩ := by unfold Addr.add; split <;> simp_all [Nat.add_assoc]
      rw [this, hb_cell HH3.out, Array.toArray_toList]
      refine Hrd.out _ _ ?_
      have hjl := (List.getElem?_eq_some_iff.1 hj).1
      rw [Hlen.out] at hjl
      rw [List.getElem?_append_left (by rw [nl_length]; omega)]
      unfold nl at hj ⊢
      rw [List.map_drop, List.getElem?_drop] at hj
      exact hj
    have Hone : Hid (∀ u ∈ nl (l.drop (lb l v)), u.oneCell' = true) := by
      intro u hu
      obtain ⟨x, _, rfl⟩ := List.mem_map.1 hu
      rfl
    have Hfit : Hid (off + (lb l v + 1) + (nl (l.drop (lb l v))).length ≤ cur.toList.length) := by
      show _ ≤ _
      rw [Hlen.out]; simp; omega
    go_region_law (refine step_copy_g rfl (.tmp 32) (.tmp 38) 84 84 rfl 2 Try.underlying84 Try.sizei _ _ _ _ _ _ rfl rfl hB (off + (lb l v + 1)) cur.toList 2 HH3.out (nl (l.drop (lb l v))) (by rw [Hlen.out]; show _ = min _ _; omega) (fun _ => ⟨rfl, _, rfl, Hsrc.out⟩) Hfit.out Hone.out ?_; intro w4 hg4 hh4; have d4 := grown_cell hg4 (hb_cell M3.out 0) (by simp; exact fun e => hhg e.symm); have HG4 := Lib.hid hg4; have HH4 := Lib.hid hh4; clear hg4 hh4)
    all_goals
      obtain ⟨y, hy⟩ : ∃ y, w4.cell? ⟨hB, off + lb l v, none⟩ = some y := by
        rw [hb_cell HH4.out]
        exact ⟨_, Array.getElem?_eq_getElem (by simp only [List.size_toArray, length_splice _ _ _ Hfit.out]; simp; omega)⟩
      have fy := hb_free HH4.out (off + lb l v)
      go_wp2_with fail
    all_goals
      exact bodyPost_end (v := .tuple #[]) (results_none rfl _ _ _) rfl ⟨rfl, rank_put_fin hle hg hhg hlt2 hn2 (by unfold maxLen; omega) hcs2 HO.out HG.out M3.out Hrd.out HG4.out HH4.out⟩
  · have hlv : l.length ≤ lb l v := by omega
    have Hlen : Hid ((nl (l.drop (lb l v))).length = l.length - lb l v) := by show _ = _; rw [nl_length, List.length_drop]
    have Hsrc : Hid (∀ j u, (nl (l.drop (lb l v)))[j]? = some u → (w2.setCell ⟨g, 0, none⟩ (.slice (some ⟨hB, off, none⟩) (l.length + 1) cap')).cell? ((⟨hB, off + lb l v, none⟩ : Addr).add j) = some u) := by
      intro j u hj
      have : (⟨hB, off + lb l v, none⟩ : Addr).add j = ⟨hB, off + (lb l v + j), none⟩ := by unfold Addr.add; split <;> simp_all [Nat.add_assoc]
      rw [this, hb_cell HH3.out, Array.toArray_toList]
      refine Hrd.out _ _ ?_
      have hjl := (List.getElem?_eq_some_iff.1 hj).1
      rw [Hlen.out] at hjl
      rw [List.getElem?_append_left (by rw [nl_length]; omega)]
      unfold nl at hj ⊢
      rw [List.map_drop, List.getElem?_drop] at hj
      exact hj
    have Hone : Hid (∀ u ∈ nl (l.drop (lb l v)), u.oneCell' = true) := by
      intro u hu
      obtain ⟨x, _, rfl⟩ := List.mem_map.1 hu
      rfl
    have Hfit : Hid (off + (lb l v + 1) + (nl (l.drop (lb l v))).length ≤ cur.toList.length) := by
      show _ ≤ _
      rw [Hlen.out]; simp; omega
    go_region_law (refine step_copy_g rfl (.tmp 32) (.tmp 38) 84 84 rfl 2 Try.underlying84 Try.sizei _ _ _ _ _ _ rfl rfl hB (off + (lb l v + 1)) cur.toList 2 HH3.out (nl (l.drop (lb l v))) (by rw [Hlen.out]; show _ = min _ _; omega) (fun hp => absurd hp (by rw [Hlen.out]; omega)) Hfit.out Hone.out ?_; intro w4 hg4 hh4; have d4 := grown_cell hg4 (hb_cell M3.out 0) (by simp; exact fun e => hhg e.symm); have HG4 := Lib.hid hg4; have HH4 := Lib.hid hh4; clear hg4 hh4)
    all_goals
      obtain ⟨y, hy⟩ : ∃ y, w4.cell? ⟨hB, off + lb l v, none⟩ = some y := by
        rw [hb_cell HH4.out]
        exact ⟨_, Array.getElem?_eq_getElem (by simp only [List.size_toArray, length_splice _ _ _ Hfit.out]; simp; omega)⟩
      have fy := hb_free HH4.out (off + lb l v)
      go_wp2_with fail
    all_goals
      exact bodyPost_end (v := .tuple #[]) (results_none rfl _ _ _) rfl ⟨rfl, rank_put_fin hle hg hhg hlt2 hn2 (by unfold maxLen; omega) hcs2 HO.out HG.out M3.out Hrd.out HG4.out HH4.out⟩
end Go.Proofs.Ytfhhdlpglfjdgaa
