/- Contracts of package rank: Take; told by footprints. -/
import Derived.Test.YtfhhdlpglfjdgaaRankC
set_option linter.unusedVariables false
set_option linter.unusedSimpArgs false
namespace Go.Proofs.Ytfhhdlpglfjdgaa
open Go.RowKit

/-- The one at place i struck. -/
def delI (l : List Int) (i : Nat) : List Int := l.take i ++ l.drop (i + 1)
theorem delI_length (l : List Int) (i : Nat) (h : i < l.length) : (delI l i).length + 1 = l.length := by simp [delI]; omega

theorem del_cells (cur : Array Value) (off i : Nat) (l : List Int) (hi : i < l.length) (hs : off + l.length ≤ cur.size) (hc : ∀ j u, (nl l)[j]? = some u → cur[off + j]? = some u) :
    ∀ j u, (nl (delI l i))[j]? = some u → (splice cur.toList (off + i) (nl (l.drop (i + 1)))).toArray[off + j]? = some u := by
  intro j u hj
  have hlen : (nl (l.drop (i + 1))).length = l.length - (i + 1) := by rw [nl_length, List.length_drop]
  have hsp : off + i + (nl (l.drop (i + 1))).length ≤ cur.toList.length := by rw [hlen]; simp; omega
  have hj0 := (List.getElem?_eq_some_iff.1 hj).1
  have hd := delI_length l i hi
  rw [nl_length] at hj0
  simp only [List.getElem?_toArray]
  rw [splice_get _ _ _ hsp]
  unfold nl delI at hj
  rw [List.map_append] at hj
  rcases Nat.lt_or_ge j i with h | h
  · rw [if_neg (by omega)]
    rw [List.getElem?_append_left (by simp; omega), List.map_take, List.getElem?_take, if_pos h] at hj
    have := hc j u hj
    simpa using this
  · rw [if_pos (by rw [hlen]; omega)]
    rw [List.getElem?_append_right (by simp; omega)] at hj
    have e0 : j - (List.map (Value.int .i64) (List.take i l)).length = j - i := by simp; omega
    rw [e0] at hj
    rw [show off + j - (off + i) = j - i by omega]
    exact hj

theorem rank_take_fin {w w4 : World} {g h off cap i m : Nat} {cur : Array Value} {l : List Int} (hi : i < l.length) (hm : i + m + 1 = l.length) (hg : g < w.heap.size) (hhg : h ≠ g) (hlt : h < w.heap.size) (hn : l.length ≤ cap) (hcm : cap ≤ maxLen) (hcs : off + cap * 1 ≤ cur.size)
    (M : RankBlk w g (.slice (some ⟨h, off, none⟩) l.length cap)) (Hrd : ∀ j u, (nl l)[j]? = some u → cur[off + j]? = some u)
    (HG4 : w.drew.grownBy w4 (some h)) (HH4 : w4.heap[h]? = some (.cells (splice cur.toList (off + i) (nl (l.drop (i + 1)))).toArray 2 (0, 0))) :
    RankPut w (w4.setCell ⟨g, 0, none⟩ (.slice (some ⟨h, off, none⟩) (i + m) cap)) g (delI l i) (.slice (some ⟨h, off, none⟩) l.length cap) := by
  have hlen := delI_length l i hi
  have m4 : w4.heap[g]? = _ := (HG4.block g (by simpa using hg) (by simp; exact fun e => hhg e.symm)).trans M
  have hlen2 : (nl (l.drop (i + 1))).length = l.length - (i + 1) := by rw [nl_length, List.length_drop]
  have hsp : off + i + (nl (l.drop (i + 1))).length ≤ cur.toList.length := by rw [hlen2]; simp; omega
  have e : (delI l i).length = i + m := by omega
  refine ⟨h, off, cap, ?_, ⟨by rw [nl_length]; omega, .inr ⟨h, off, cap, _, by rw [e], Nat.zero_le _, hb_far HH4 (by exact hhg) _, by omega, hcm, ?_, del_cells cur off i l hi (by omega) Hrd⟩⟩, .inl rfl, hhg, ?_, ?_⟩
  · rw [e]
    simpa [RankBlk] using hb_set m4 0 (.slice (some ⟨h, off, none⟩) (i + m) cap)
  · simp only [List.size_toArray, length_splice _ _ _ hsp]
    simpa using hcs
  · have := HG4.size
    simp [World.setCell] at this ⊢
    omega
  · have h3 : Fr (fun k => k = g ∨ (Value.slice (some ⟨h, off, none⟩) l.length cap).ownBlock = some k ∨ k = h) w w4 :=
      ⟨HG4.os, HG4.tape, HG4.output, HG4.size, fun k hk hne => HG4.block k hk (fun e => hne (.inr (.inr (by simpa using e))))⟩
    exact h3.setCell (.inl (.inl rfl)) _

set_option maxRecDepth 100000 in
set_option maxHeartbeats 4000000 in
theorem rank_Take (g hB off cap : Nat) (v : Int) (l : List Int) (w : World) (hm : RankBlk w g (.slice (some ⟨hB, off, none⟩) l.length cap)) (hq : RowQ w 0 2 1 (.slice (some ⟨hB, off, none⟩) l.length cap) l.length (nl l)) (hhg : hB ≠ g) (hr : Rise l) (hl : l.length ≤ 4294967295) (hfd : l[lb l v]? = some v) :
    Calls Try.prog 56 #[.pointer (some ⟨g, 0, none⟩), .int .i64 v] w fun e w' => e = .returned (.bool true) ∧ RankPut w w' g (delI l (lb l v)) (.slice (some ⟨hB, off, none⟩) l.length cap) := by
  have hle : lb l v < l.length := (List.getElem?_eq_some_iff.1 hfd).1
  obtain ⟨cur, hh, hnc, hcm, hcs, hrd⟩ : ∃ cur, w.heap[hB]? = some (.cells cur 2 (0, 0)) ∧ l.length ≤ cap ∧ cap ≤ maxLen ∧ off + cap * 1 ≤ cur.size ∧ ∀ j u, (nl l)[j]? = some u → cur[off + j]? = some u := by
    rcases hq.2 with ⟨hv, h0⟩ | ⟨h', off', cap'', cur, hv, hb, hh, hn, hc, hs, hr⟩
    · simp at hv
    · simp at hv
      obtain ⟨⟨rfl, rfl⟩, rfl⟩ := hv
      exact ⟨cur, hh, hn, hc, hs, hr⟩
  have h1 := fun w hs => slices_BinarySearch (some ⟨hB, off, none⟩) cap l v true w (by omega) hr hs (fun h => by simp at h) (by simp [hfd])
  have hbs : ∀ ad, some (⟨hB, off, none⟩ : Addr) = some ad → ∃ g off, ad = ⟨g, off, none⟩ ∧ ∀ (j : Nat) (x : Int), l[j]? = some x → w.cell? ⟨g, off + j, none⟩ = some (.int .i64 x) := by
    intro ad had
    exact ⟨hB, off, by simpa using had.symm, fun j x hx => by rw [hb_cell hh]; exact hrd j _ (nl_get l j x hx)⟩
  have c0 := hb_cell hm 0
  have f0 := hb_free hm 0
  simp only [List.getElem?_toArray, List.getElem?_cons_zero] at c0
  have hg := hb_lt hm
  have hltB := hb_lt hh
  have H1 := Lib.hid h1
  have Hbs := Lib.hid hbs
  have HH : Hid (w.heap[hB]? = some (.cells cur.toList.toArray 2 (0, 0))) := by show _ = _; rw [Array.toArray_toList]; exact hh
  have Hm := Lib.hid hm
  have Hrd := Lib.hid hrd
  obtain ⟨m, hmm⟩ : ∃ m, lb l v + m + 1 = l.length := ⟨l.length - lb l v - 1, by omega⟩
  have Hlen : Hid ((nl (l.drop (lb l v + 1))).length = m) := by show _ = _; rw [nl_length, List.length_drop]; omega
  have hi0 : (0 : Int) ≤ (lb l v : Int) + 1 := by omega
  have hi1 : (lb l v : Int) + 1 ≤ (l.length : Int) := by omega
  have hi2 : (lb l v : Int) ≤ (l.length : Int) := by omega
  have hi3 : ((lb l v : Int) + 1).toNat = lb l v + 1 := by omega
  have hw : IntKind.i64.wrap ((lb l v : Int) + 1) = (lb l v : Int) + 1 := IntWalk.i64_in _ (by omega)
  have hj0 : (0 : Int) ≤ (lb l v : Int) + (m : Int) := by omega
  have hj1 : (lb l v : Int) + (m : Int) ≤ (cap : Int) := by omega
  have hj3 : ((lb l v : Int) + (m : Int)).toNat = lb l v + m := by omega
  have hw2 : IntKind.i64.wrap ((lb l v : Int) + (m : Int)) = (lb l v : Int) + (m : Int) := IntWalk.i64_in _ (by omega)
  have hca : ¬ cap = lb l v := by omega
  have Hsrc : Hid (∀ j u, (nl (l.drop (lb l v + 1)))[j]? = some u → w.cell? ((⟨hB, off + (lb l v + 1), none⟩ : Addr).add j) = some u) := by
    intro j u hj
    have : (⟨hB, off + (lb l v + 1), none⟩ : Addr).add j = ⟨hB, off + (lb l v + 1 + j), none⟩ := by unfold Addr.add; split <;> simp_all [Nat.add_assoc]
    rw [this, hb_cell hh]
    refine hrd _ _ ?_
    unfold nl at hj ⊢
    rw [List.map_drop, List.getElem?_drop] at hj
    exact hj
  have Hone : Hid (∀ u ∈ nl (l.drop (lb l v + 1)), u.oneCell' = true) := by
    intro u hu
    obtain ⟨x, _, rfl⟩ := List.mem_map.1 hu
    rfl
  have Hfit : Hid (off + lb l v + (nl (l.drop (lb l v + 1))).length ≤ cur.toList.length) := by
    show _ ≤ _
    rw [Hlen.out]; simp; omega
  have Hmm := Lib.hid hmm
  have Hle := Lib.hid hle
  clear h1 hbs hm hr hq hfd hh hrd hmm
  unfold maxLen at hcm
  by_cases hil : cap = lb l v + 1
  · have hm0 : m = 0 := by have := Hmm.out; omega
    subst hil
    have hm1 : (m : Int) ≤ 1 := by omega
    have hm2 : (lb l v : Int) + (m : Int) ≤ (lb l v : Int) + 1 := by omega
    have Hm0 := Lib.hid hm0
    clear hm0
    go_enter Try.func56, Try.ntmps56
    go_wp2_with fail
    refine (H1.out _ Hbs.out).mono ?_
    rintro e w1 ⟨rfl, rfl⟩
    go_wp2_with fail
    go_region_law (refine step_copy_g rfl (.tmp 30) (.tmp 37) 84 84 rfl 2 Try.underlying84 Try.sizei _ _ _ _ _ _ rfl rfl hB (off + lb l v) cur.toList 2 HH.out (nl (l.drop (lb l v + 1))) (by rw [Hlen.out]; have := Hmm.out; show _ = min _ _; omega) (fun hp => absurd hp (by rw [Hlen.out, Hm0.out]; omega)) Hfit.out Hone.out ?_; rw [Hlen.out]; intro w4 hg4 hh4; have d4 := grown_cell hg4 (hb_cell Hm.out 0) (by simp; exact fun e => hhg e.symm); have e4 := grown_free hg4 (b := g) (o := 0) hg f0 (by simp; exact fun e => hhg e.symm); have HG4 := Lib.hid hg4; have HH4 := Lib.hid hh4; clear hg4 hh4)
    all_goals
      go_wp2_with fail
    all_goals
      go_ret
      exact ⟨rfl, rank_take_fin Hle.out Hmm.out hg hhg hltB hnc (by unfold maxLen; omega) hcs Hm.out Hrd.out HG4.out HH4.out⟩
  · skip
    go_enter Try.func56, Try.ntmps56
    go_wp2_with fail
    refine (H1.out _ Hbs.out).mono ?_
    rintro e w1 ⟨rfl, rfl⟩
    go_wp2_with fail
    go_region_law (refine step_copy_g rfl (.tmp 30) (.tmp 37) 84 84 rfl 2 Try.underlying84 Try.sizei _ _ _ _ _ _ rfl rfl hB (off + lb l v) cur.toList 2 HH.out (nl (l.drop (lb l v + 1))) (by rw [Hlen.out]; have := Hmm.out; show _ = min _ _; omega) (fun _ => ⟨rfl, _, rfl, Hsrc.out⟩) Hfit.out Hone.out ?_; rw [Hlen.out]; intro w4 hg4 hh4; have d4 := grown_cell hg4 (hb_cell Hm.out 0) (by simp; exact fun e => hhg e.symm); have e4 := grown_free hg4 (b := g) (o := 0) hg f0 (by simp; exact fun e => hhg e.symm); have HG4 := Lib.hid hg4; have HH4 := Lib.hid hh4; clear hg4 hh4)
    all_goals
      go_wp2_with fail
    all_goals
      go_ret
      exact ⟨rfl, rank_take_fin Hle.out Hmm.out hg hhg hltB hnc (by unfold maxLen; omega) hcs Hm.out Hrd.out HG4.out HH4.out⟩

/-! By footprints. -/
def RankAt (w : World) (F : Nat → Prop) (g : Nat) (l : List Int) : Prop :=
  F g ∧ (∀ k, F k → k < w.heap.size) ∧ ∃ v, RankBlk w g v ∧ RowQ w 0 2 1 v l.length (nl l) ∧ v.ownBlock ≠ some g ∧ ∀ k, v.ownBlock = some k → F k
theorem RankAt.keep {w w' : World} {F : Nat → Prop} {g : Nat} {l : List Int} (h : RankAt w F g l) (hk : ∀ k, F k → w'.heap[k]? = w.heap[k]?) (hs : w.heap.size ≤ w'.heap.size) : RankAt w' F g l := by
  obtain ⟨h1, h2, v, h3, h4, h5, h6⟩ := h
  exact ⟨h1, fun k hk' => Nat.lt_of_lt_of_le (h2 k hk') hs, v, (hk g h1).trans h3, h4.keep (fun k hk' => hk k (h6 k hk')), h5, h6⟩
theorem RankPut.at_ {w w' : World} {F : Nat → Prop} {g : Nat} {l : List Int} {v0 : Value} (h : RankPut w w' g l v0) (hg : F g) (hF : ∀ k, F k → k < w.heap.size) (hown : ∀ k, v0.ownBlock = some k → F k) :
    ∃ F', Ext F F' w w' ∧ Fr F w w' ∧ RankAt w' F' g l := by
  obtain ⟨h, off, cap, hb, hq, hor, hhg, hlt, hfr⟩ := h
  refine ⟨fun k => F k ∨ k = h, ?_, ?_, .inl hg, ?_, .slice (some ⟨h, off, none⟩) l.length cap, hb, hq, by simpa [Value.ownBlock] using hhg, fun k hk => .inr (by simpa [Value.ownBlock] using hk.symm)⟩
  · intro k hk
    rcases hk with hk | rfl
    · exact .inl hk
    · rcases hor with e | e
      · exact .inl (hown _ e)
      · exact .inr ⟨e, hlt⟩
  · refine ⟨hfr.os, hfr.tape, hfr.output, hfr.size, fun k hk hn => hfr.block k hk (fun hc => ?_)⟩
    rcases hc with rfl | hc | rfl
    · exact hn hg
    · exact hn (hown _ hc)
    · rcases hor with e | e
      · exact hn (hown _ e)
      · omega
  · intro k hk
    rcases hk with hk | rfl
    · exact Nat.lt_of_lt_of_le (hF k hk) hfr.size
    · exact hlt

theorem rank_Put_at (F : Nat → Prop) (g : Nat) (v : Int) (l : List Int) (w : World) (hm : RankAt w F g l) (hr : Rise l) (hl : l.length ≤ 4294967295) :
    Calls Try.prog 37 #[.pointer (some ⟨g, 0, none⟩), .int .i64 v] w fun e w' => e = .returned (.tuple #[]) ∧ ∃ F', Ext F F' w w' ∧ Fr F w w' ∧ RankAt w' F' g (insI l (lb l v) v) := by
  obtain ⟨hg, hF, v0, hb, hq, hne, hown⟩ := hm
  refine (rank_Put g v l v0 w hb hq hne hr hl).mono ?_
  rintro e w' ⟨rfl, hp⟩
  exact ⟨rfl, hp.at_ hg hF hown⟩
theorem rank_Take_at (F : Nat → Prop) (g : Nat) (v : Int) (l : List Int) (w : World) (hm : RankAt w F g l) (hr : Rise l) (hl : l.length ≤ 4294967295) (hfd : l[lb l v]? = some v) :
    Calls Try.prog 56 #[.pointer (some ⟨g, 0, none⟩), .int .i64 v] w fun e w' => e = .returned (.bool true) ∧ ∃ F', Ext F F' w w' ∧ Fr F w w' ∧ RankAt w' F' g (delI l (lb l v)) := by
  obtain ⟨hg, hF, v0, hb, hq, hne, hown⟩ := hm
  rcases hq.2 with ⟨rfl, hn⟩ | ⟨h, off, cap, cur, rfl, _, hh, _⟩
  · obtain rfl : l = [] := List.eq_nil_of_length_eq_zero hn
    simp at hfd
  · refine (rank_Take g h off cap v l w hb hq (by simpa [Value.ownBlock] using hne) hr hl hfd).mono ?_
    rintro e w' ⟨rfl, hp⟩
    exact ⟨rfl, hp.at_ hg hF hown⟩
theorem rank_By_at (F : Nat → Prop) (g : Nat) (l : List Int) (p x : Int) (w : World) (hm : RankAt w F g l) (hl : l.length ≤ 4294967295) (hn : 0 < l.length) (hp : 1 ≤ p) (hp1 : p ≤ 100000000) (hx : l[(rankK l.length p).toNat]? = some x) :
    Calls Try.prog 30 #[.pointer (some ⟨g, 0, none⟩), .int .i64 p] w fun e w' => e = .returned (.tuple #[.int .i64 x, .bool true]) ∧ Below w.heap.size w w' := by
  obtain ⟨hg, hF, v0, hb, hq, hne, hown⟩ := hm
  rcases hq.2 with ⟨rfl, h0⟩ | ⟨h, off, cap, cur, rfl, _, hh, _, _, _, hr⟩
  · omega
  · exact rank_By g h off l.length cap p x w hb hn (by omega) hp hp1 (by rw [hb_cell hh]; exact hr _ _ (nl_get l _ x hx))
theorem rank_By_at_none (F : Nat → Prop) (g : Nat) (p : Int) (w : World) (hm : RankAt w F g []) :
    Calls Try.prog 30 #[.pointer (some ⟨g, 0, none⟩), .int .i64 p] w fun e w' => e = .returned (.tuple #[.int .i64 0, .bool false]) ∧ w' = w := by
  obtain ⟨hg, hF, v0, hb, hq, hne, hown⟩ := hm
  obtain ⟨A, cap, rfl, _⟩ := hq.form
  exact rank_By_none g A cap p w hb
end Go.Proofs.Ytfhhdlpglfjdgaa
