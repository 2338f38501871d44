/- Contracts of package window: Put. -/
import Derived.Test.YtfhhdlpglfjdgaaWinC
import Derived.Test.YtfhhdlpglfjdgaaRingF
set_option linter.unusedVariables false
set_option linter.unusedSimpArgs false
namespace Go.Proofs.Ytfhhdlpglfjdgaa
open Go.RowKit

def pushOld (l : List (Int × Int)) : Int × Int := if l.length = 4096 then l.headD (0, 0) else (0, 0)
def pushL (l : List (Int × Int)) (x : Int × Int) : List (Int × Int) := if l.length = 4096 then l.tail ++ [x] else l ++ [x]
def isFull (l : List (Int × Int)) : Bool := decide (l.length = 4096)
theorem ring_Push_at (F : Nat → Prop) (g : Nat) (l : List (Int × Int)) (x : Int × Int) (w : World) (hr : RingAt w F g l) :
    Calls Try.prog 33 #[.pointer (some ⟨g, 0, none⟩), .agg #[.int .i64 x.1, .int .i64 x.2]] w fun e w' => e = .returned (.tuple #[.agg #[.int .i64 (pushOld l).1, .int .i64 (pushOld l).2], .bool (isFull l)]) ∧ Fr F w w' ∧ ∃ F', Ext F F' w w' ∧ RingAt w' F' g (pushL l x) := by
  by_cases h : l.length = 4096
  · obtain ⟨y, r, rfl⟩ := List.exists_cons_of_ne_nil (l := l) (by rintro rfl; simp at h)
    have e1 : pushOld (y :: r) = y := by unfold pushOld; rw [if_pos h]; rfl
    have e2 : pushL (y :: r) x = r ++ [x] := by unfold pushL; rw [if_pos h]; rfl
    have e3 : isFull (y :: r) = true := by unfold isFull; simpa using h
    rw [e1, e2, e3]
    exact ring_Push_full F g y r x w hr h
  · have e1 : pushOld l = (0, 0) := by unfold pushOld; rw [if_neg h]
    have e2 : pushL l x = l ++ [x] := by unfold pushL; rw [if_neg h]
    have e3 : isFull l = false := by unfold isFull; simpa using h
    rw [e1, e2, e3]
    exact ring_Push_more F g l x w hr (by have := hr.len; omega)

theorem WinRest.at {w : World} {F : Nat → Prop} {g r : Nat} {T : WT} {clock : Int} {begun : Bool} {N s : Int} {l m : List Int} (h : WinRest w F g r T clock begun N s l m) : F g ∧ ∃ best order, WinBlk w g (.pointer (some ⟨r, 0, none⟩)) T clock begun s best order := by
  obtain ⟨best, order, F2, F3, h1, h2, h3, h4, h5, h6, h7⟩ := h
  exact ⟨(h7 g).2 (.inl rfl), best, order, h1⟩
theorem WinRest.clock {w : World} {F : Nat → Prop} {g r : Nat} {T : WT} {clock : Int} {begun : Bool} {N s : Int} {l m : List Int} (h : WinRest w F g r T clock begun N s l m) (t : Int) :
    WinRest ((w.setCell ⟨g, 5, none⟩ (.int .i64 t)).setCell ⟨g, 6, none⟩ (.bool true)) F g r T t true N s l m := by
  obtain ⟨best, order, F2, F3, h1, h2, h3, h4, h5, h6, h7⟩ := h
  have key : ∀ k, k ≠ g → ((w.setCell ⟨g, 5, none⟩ (.int .i64 t)).setCell ⟨g, 6, none⟩ (.bool true)).heap[k]? = w.heap[k]? := by
    intro k hne
    rw [Below.heap_setCell _ _ _ _ (by exact hne), Below.heap_setCell _ _ _ _ (by exact hne)]
  refine ⟨best, order, F2, F3, ?_, h2.keep (fun k hk => key k (by rintro rfl; exact h4 hk)) (by simp only [sz_set]; exact Nat.le_refl _), h3.keep (fun k hk => key k (by rintro rfl; exact h5 hk)) (by simp only [sz_set]; exact Nat.le_refl _), h4, h5, h6, h7⟩
  simpa [WinBlk] using hb_set (hb_set h1 5 (.int .i64 t)) 6 (.bool true)
theorem win_come_st (F : Nat → Prop) (g r : Nat) (T : WT) (clock N s t : Int) (begun : Bool) (l m : List Int) (w : World) (hr : WinRest w F g r T clock begun N s l m) (ht : stale begun clock t = false) :
    Calls Try.prog 23 #[.pointer (some ⟨g, 0, none⟩), .int .i64 t] w fun e w' => e = .returned (.int .i64 0) ∧ Fr (fun k => k = g) w w' ∧ WinRest w' F g r T t true N s l m := by
  obtain ⟨hg, best, order, hb⟩ := hr.at
  refine (win_come_on g r T clock t s begun best order w hb ht).mono ?_
  rintro e w' ⟨rfl, rfl⟩
  exact ⟨rfl, ((Fr.refl (fun k => k = g) w).setCell (p := ⟨g, 5, none⟩) (.inl rfl) _).setCell (p := ⟨g, 6, none⟩) (.inl rfl) _, hr.clock t⟩

theorem hb_new' (w : World) (o : Obj) : (w.alloc o).drew.heap[w.heap.size]? = some o := hb_new w o
/-- A window. -/
def vals (l : List (Int × Int)) : List Int := l.map Prod.snd
def WinAt (w : World) (F : Nat → Prop) (g : Nat) (T : WT) (clock : Int) (begun : Bool) (N : Int) (l : List (Int × Int)) : Prop :=
  ∃ r F1 F0, RingAt w F1 r l ∧ WinRest w F0 g r T clock begun N (sumI (vals l)) (vals l) (vals l) ∧ (∀ k, F1 k → ¬ F0 k) ∧ (∀ k, F k ↔ F1 k ∨ F0 k) ∧ ∀ x ∈ l, I64 x.1 ∧ I64 x.2

/-- Behind the ring's Push: the oldest one, boxed. -/
def PutCut (F1 : Nat → Prop) (w1 : World) (r : Nat) (l : List (Int × Int)) (x : Int × Int) (o b : Value) (wx : World) : Prop :=
  ∃ (ob : Nat) (F1' : Nat → Prop), o = .pointer (some ⟨ob, 0, none⟩) ∧ b = .bool (isFull l) ∧ w1.heap.size ≤ ob ∧ wx.heap[ob]? = some (.cells #[.int .i64 (pushOld l).1, .int .i64 (pushOld l).2] 50 (0, 0)) ∧ Fr F1 w1 wx ∧ Ext F1 F1' w1 wx ∧ ¬ F1' ob ∧ RingAt wx F1' r (pushL l x)
theorem PutCut.late {F1 F1' : Nat → Prop} {w1 w2 : World} {r : Nat} {l : List (Int × Int)} {x : Int × Int} (hf : Fr F1 w1.drew w2) (hE : Ext F1 F1' w1.drew w2) (hr : RingAt w2 F1' r (pushL l x)) :
    PutCut F1 w1 r l x (.pointer (some ⟨w2.heap.size, 0, none⟩)) (.bool (isFull l)) (w2.alloc (.cells #[.int .i64 (pushOld l).1, .int .i64 (pushOld l).2] 50)) := by
  have h0 : Fr F1 w1 w1.drew := (Fr.refl F1 w1).drewN 1
  have hF : Fr F1 w1 w2 := h0.trans hf (Ext.refl _ _ _)
  refine ⟨_, F1', rfl, rfl, hF.size, hb_new _ _, hF.trans (Fr.ofBelow (F := F1) (below1 w2 _)) (Ext.refl _ _ _), ?_, fun h => Nat.lt_irrefl _ (hr.2.1 _ h), hr.keep (fun k hk => (below1 w2 _).block k (hr.2.1 k hk)) (below1 w2 _).size⟩
  intro k hk
  exact (hE k hk).imp id (fun h => ⟨h.1, Nat.lt_of_lt_of_le h.2 (below1 w2 _).size⟩)
theorem PutCut.early {F1 F1' : Nat → Prop} {w1 w2 W' : World} {r : Nat} {l : List (Int × Int)} {x : Int × Int} {u v : Value} (hW : Below w1.heap.size w1 W') (hs : w1.heap.size < W'.heap.size) (hF1 : ¬ F1 w1.heap.size) (hf : Fr F1 W' w2) (hE : Ext F1 F1' W' w2) (hr : RingAt w2 F1' r (pushL l x)) (hz : w2.heap[w1.heap.size]? = some (.cells #[u, v] 50 (0, 0))) :
    PutCut F1 w1 r l x (.pointer (some ⟨w1.heap.size, 0, none⟩)) (.bool (isFull l)) ((w2.setCell ⟨w1.heap.size, 0, none⟩ (.int .i64 (pushOld l).1)).setCell ⟨w1.heap.size, 1, none⟩ (.int .i64 (pushOld l).2)) := by
  have hF : Fr F1 w1 w2 := (Fr.ofBelow (F := F1) hW).trans hf (Ext.refl _ _ _)
  have hn : ¬ F1' w1.heap.size := by
    intro h
    rcases hE _ h with h | h
    · exact hF1 h
    · omega
  refine ⟨_, F1', rfl, rfl, Nat.le_refl _, two_set hz _ _, (hF.setCell (p := ⟨w1.heap.size, 0, none⟩) (.inr (Nat.le_refl _)) _).setCell (p := ⟨w1.heap.size, 1, none⟩) (.inr (Nat.le_refl _)) _, ?_, hn, hr.keep (fun k hk => ?_) (by simp only [sz_set]; exact Nat.le_refl _)⟩
  · intro k hk
    simp only [sz_set]
    exact (hE k hk).imp id (fun h => ⟨Nat.le_trans hW.size h.1, h.2⟩)
  · have hne : k ≠ w1.heap.size := by rintro rfl; exact hn hk
    rw [Below.heap_setCell _ _ _ _ (by exact hne), Below.heap_setCell _ _ _ _ (by exact hne)]

/-- In the midst of Put: the ring is done; s, l, m: what is worked out so far. -/
structure WinMid (F : Nat → Prop) (w wx : World) (F1 F0 : Nat → Prop) (g r : Nat) (T : WT) (clock N s : Int) (l m : List Int) (rl : List (Int × Int)) (x : Int × Int) : Prop where
  fr : Fr F w wx
  ext : Ext F (fun k => F1 k ∨ F0 k) w wx
  dis : ∀ k, F1 k → ¬ F0 k
  ring : RingAt wx F1 r rl
  rest : WinRest wx F0 g r T clock true N s l m
  old : w.heap.size < wx.heap.size
  blk : wx.heap[w.heap.size]? = some (.cells #[.int .i64 x.1, .int .i64 x.2] 50 (0, 0))
  out : ¬ F0 w.heap.size
theorem WinMid.step {F : Nat → Prop} {w wx wy : World} {F1 F0 F0' : Nat → Prop} {g r : Nat} {T : WT} {clock N s N' s' : Int} {l m l' m' : List Int} {rl : List (Int × Int)} {x : Int × Int} (h : WinMid F w wx F1 F0 g r T clock N s l m rl x)
    (hf : Fr F0 wx wy) (he : Ext F0 F0' wx wy) (hr : WinRest wy F0' g r T clock true N' s' l' m') : WinMid F w wy F1 F0' g r T clock N' s' l' m' rl x := by
  have hs := h.fr.size
  have ho := h.old
  refine ⟨h.fr.trans (hf.mono (F' := fun k => F1 k ∨ F0 k) (fun k hk => .inr hk)) h.ext, ?_, ?_, h.ring.keep (fun k hk => hf.block k (h.ring.2.1 k hk) (h.dis k hk)) hf.size, hr, Nat.lt_of_lt_of_le h.old hf.size, hf.blk h.blk h.out, ?_⟩
  · intro k hk
    have hs2 := hf.size
    rcases hk with hk | hk
    · rcases h.ext k (.inl hk) with h1 | h1
      · exact .inl h1
      · exact .inr ⟨h1.1, by omega⟩
    · rcases he k hk with h1 | h1
      · rcases h.ext k (.inr h1) with h2 | h2
        · exact .inl h2
        · exact .inr ⟨h2.1, by omega⟩
      · exact .inr ⟨by omega, h1.2⟩
  · intro k hk hk0
    rcases he k hk0 with h1 | h1
    · exact h.dis k hk h1
    · have := h.ring.2.1 k hk; omega
  · intro hk
    rcases he _ hk with h1 | h1
    · exact h.out h1
    · omega
theorem WinMid.drew {F : Nat → Prop} {w wx W : World} {F1 F0 : Nat → Prop} {g r : Nat} {T : WT} {clock N s : Int} {l m : List Int} {rl : List (Int × Int)} {x : Int × Int} (h : WinMid F w wx F1 F0 g r T clock N s l m rl x) (hW : Hid (W = wx.drew)) :
    WinMid F w W F1 F0 g r T clock N s l m rl x := by
  rw [hW.out]
  exact h.step ((Fr.refl F0 wx).drewN 1) (Ext.refl _ _ _) (h.rest.keep (fun k _ => rfl) (Nat.le_refl _))
def popL (l : List (Int × Int)) : List (Int × Int) := if l.length = 4096 then l.tail else l
theorem pushL_pop (l : List (Int × Int)) (x : Int × Int) : pushL l x = popL l ++ [x] := by unfold pushL popL; split <;> rfl
theorem popL_lt (l : List (Int × Int)) (h : l.length ≤ 4096) : (popL l).length < 4096 := by
  unfold popL
  split
  · simp; omega
  · omega
theorem popL_sub (l : List (Int × Int)) (x : Int × Int) (h : x ∈ popL l) : x ∈ l := by
  unfold popL at h
  split at h
  · exact List.mem_of_mem_tail h
  · exact h

set_option maxRecDepth 100000 in
set_option maxHeartbeats 3200000 in
theorem win_Put (F : Nat → Prop) (g : Nat) (T : WT) (clock N : Int) (begun : Bool) (l : List (Int × Int)) (x : Int × Int) (w : World) (hr : WinAt w F g T clock begun N l) (hN : N ≤ 4611686018427387904) (hx : I64 x.1 ∧ I64 x.2) (ht : stale begun clock x.1 = false) :
    Calls Try.prog 14 #[.pointer (some ⟨g, 0, none⟩), .agg #[.int .i64 x.1, .int .i64 x.2]] w fun e w' => e = .returned (.int .i64 0) ∧ Fr F w w' ∧ ∃ F', Ext F F' w w' ∧ WinAt w' F' g T x.1 true (N + 1) (pushL l x) := by
  obtain ⟨r, F1, F0, hring, hrest, hdis, hF, hxs⟩ := hr
  have HRing := Lib.hid hring
  have HRest := Lib.hid hrest
  have Hdis := Lib.hid hdis
  have HF := Lib.hid hF
  have Hxs := Lib.hid hxs
  have Hx := Lib.hid hx
  have HN := Lib.hid hN
  have Ht := Lib.hid ht
  have hg : g < w.heap.size := hrest.lt g hrest.at.1
  clear hring hrest hdis hF hxs hx hN ht
  go_enter Try.func14, Try.ntmps14
  go_wp2_with fail
  have hR1 : WinRest (w.alloc (.cells #[.int .i64 x.1, .int .i64 x.2] 50)) F0 g r T clock begun N (sumI (vals l)) (vals l) (vals l) := HRest.out.keep (fun k hk => (below1 w _).block k (HRest.out.lt k hk)) (below1 w _).size
  refine (win_come_st F0 g r T clock N _ x.1 begun _ _ _ hR1 Ht.out).mono ?_
  rintro e w1 ⟨rfl, hf1, hr1⟩
  have hring1 : RingAt w1 F1 r l := HRing.out.keep (fun k hk => by
    have := HRing.out.2.1 k hk
    rw [hf1.block k (by simp; omega) (by rintro rfl; exact Hdis.out _ hk HRest.out.at.1), (below1 w _).block k this]) (Nat.le_trans (below1 w _).size hf1.size)
  have s1 := hf1.blk (hb_new w _) (fun h => by omega)
  have hF1 : Fr (fun k => k = g) w w1 := (Fr.ofBelow (below1 w _)).trans hf1 (Ext.refl _ _ _)
  have hs1 : w.heap.size + 1 ≤ w1.heap.size := by simpa using hf1.size
  have HR1 := Lib.hid hr1
  have HRing1 := Lib.hid hring1
  have HS1 := Lib.hid s1
  have HF1 := Lib.hid hF1
  have Hs1 := Lib.hid hs1
  clear hR1 hf1 hr1 hring1 s1 hF1 hs1
  go_upto_region 4 with fail
  go_cut [6, 7] (fun o b wx => PutCut F1 w1 r l x o b wx)
  case first =>
    obtain ⟨_, best, order, hblk⟩ := HR1.out.at
    have c0 := hb_cell hblk 0
    simp only [List.getElem?_toArray, List.getElem?_cons_zero] at c0
    obtain ⟨v0, v1, _, _⟩ := hb2 HS1.out
    have hP : ∀ W', Below w1.heap.size w1 W' → Calls Try.prog 33 #[.pointer (some ⟨r, 0, none⟩), .agg #[.int .i64 x.1, .int .i64 x.2]] W' fun e w' => e = .returned (.tuple #[.agg #[.int .i64 (pushOld l).1, .int .i64 (pushOld l).2], .bool (isFull l)]) ∧ (∀ k o, W'.heap[k]? = some o → w1.heap.size ≤ k → w'.heap[k]? = some o) ∧ Fr F1 W' w' ∧ ∃ F', Ext F1 F' W' w' ∧ RingAt w' F' r (pushL l x) := by
      intro W' hb
      refine (ring_Push_at F1 r l x W' (HRing1.out.keep (fun k hk => hb.block k (HRing1.out.2.1 k hk)) hb.size)).mono ?_
      rintro e w' ⟨rfl, h1, h2⟩
      exact ⟨rfl, fun k o ho hk => h1.blk ho (fun h => by have := HRing1.out.2.1 k h; omega), h1, h2⟩
    have HP := Lib.hid hP
    have hnF1 : ¬ F1 w1.heap.size := fun h => Nat.lt_irrefl _ (HRing1.out.2.1 _ h)
    have HnF1 := Lib.hid hnF1
    clear hnF1
    have hlt1 : w.heap.size < w1.heap.size := by have := Hs1.out; omega
    have hlt2 : g < w1.heap.size := by omega
    clear hblk hP
    go_region_with (first | (refine (HP.out _ ?hbb).mono ?_; (case hbb => first | exact Below.refl _ _ | exact below1 _ _ | exact (Below.refl _ _).drew | exact (below1 _ _).drew); rintro e w2 ⟨rfl, hk, hf, F1', hE, hr⟩; first | (have z := hk _ _ (hb_new _ _) (Nat.le_refl _); obtain ⟨z0, z1, z2, z3⟩ := hb2 z; have HZ := Lib.hid z; clear z) | (have z := hk _ _ (hb_new' _ _) (Nat.le_refl _); obtain ⟨z0, z1, z2, z3⟩ := hb2 z; have HZ := Lib.hid z; clear z) | skip))
    all_goals go_wp2_with fail
    all_goals go_meet
    all_goals first
      | exact PutCut.late hf hE hr
      | exact PutCut.early (below1 _ _) (by simp) HnF1.out hf hE hr HZ.out
      | exact PutCut.early (below1 _ _).drew (by simp) HnF1.out hf hE hr HZ.out
      | skip
  case rest =>
    obtain ⟨ob, F1', rfl, rfl, hob, hold, hf, hE, hn, hr⟩ := hcut
    have hlen := HRing.out.len
    have hgF := HRest.out.at.1
    have hc0 : WinMid F w wc F1' F0 g r T x.1 N (sumI (vals l)) (vals l) (vals l) (popL l ++ [x]) x := by
      have hF0 : ∀ k, F0 k → ¬ F1 k := fun k hk h => Hdis.out k h hk
      have h1 : WinRest wc F0 g r T x.1 true N (sumI (vals l)) (vals l) (vals l) := HR1.out.keep (fun k hk => hf.block k (HR1.out.lt k hk) (hF0 k hk)) hf.size
      have hs1 := Hs1.out
      have hn1 : ¬ F1 w.heap.size := fun h => Nat.lt_irrefl _ (HRing.out.2.1 _ h)
      have hn0 : ¬ F0 w.heap.size := fun h => Nat.lt_irrefl _ (HRest.out.lt _ h)
      refine ⟨(HF1.out.mono (F' := F) (fun k hk => by subst hk; exact (HF.out _).2 (.inr hgF))).trans (hf.mono (F' := F) (fun k hk => (HF.out _).2 (.inl hk))) (Ext.refl _ _ _), ?_, ?_, by rw [← pushL_pop]; exact hr, h1, by have := hf.size; omega, hf.blk HS1.out hn1, hn0⟩
      · intro k hk
        rcases hk with hk | hk
        · rcases hE k hk with h | h
          · exact .inl ((HF.out _).2 (.inl h))
          · exact .inr ⟨by omega, h.2⟩
        · exact .inl ((HF.out _).2 (.inr hk))
      · intro k hk hk0
        rcases hE k hk with h | h
        · exact Hdis.out k h hk0
        · have := HR1.out.lt k hk0; omega
    have hn0 : ¬ F0 ob := fun h => by have := HR1.out.lt _ h; omega
    have HOld := Lib.hid hold
    have HC0 := Lib.hid hc0
    have Hn0 := Lib.hid hn0
    have Hlen := Lib.hid hlen
    clear hob hold hf hE hn hr hc0 hn0 hlen hgF
    go_upto_if 24 with fail
    go_cut [7] (fun _ wx => ∃ F0', WinMid F w wx F1' F0' g r T x.1 N (sumI (vals (popL l))) (vals (popL l)) (vals (popL l)) (popL l ++ [x]) x)
    case first =>
      by_cases hfull : l.length = 4096
      · have hb : isFull l = true := by unfold isFull; simpa using hfull
        obtain ⟨y, rest, rfl⟩ := List.exists_cons_of_ne_nil (l := l) (by rintro rfl; simp at hfull)
        have e1 : pushOld (y :: rest) = y := by unfold pushOld; rw [if_pos hfull]; rfl
        have e2 : popL (y :: rest) = rest := by unfold popL; rw [if_pos hfull]; rfl
        have hold := HOld.out
        rw [e1] at hold
        obtain ⟨o0, o1, _, _⟩ := hb2 hold
        rw [hb]
        have hm : (vals rest).length ≤ 4096 := by simp [vals] at hfull ⊢; omega
        have hG : Calls Try.prog 34 #[.pointer (some ⟨g, 0, none⟩), .agg #[.int .i64 y.1, .int .i64 y.2]] wc fun e w' => e = .returned (.tuple #[]) ∧ Fr F0 wc w' ∧ ∃ F', Ext F0 F' wc w' ∧ WinRest w' F' g r T x.1 true N (sumI (vals (y :: rest)) - y.2) (vals rest) (vals rest) :=
          win_gone F0 g r T x.1 N _ y.1 y.2 true (vals rest) (vals rest) wc HC0.out.rest HN.out hm (Hxs.out y List.mem_cons_self).2
        have es : sumI (vals (y :: rest)) - y.2 = sumI (vals rest) := by simp only [vals, List.map_cons, sumI, List.foldr_cons]; omega
        rw [es] at hG
        have HG := Lib.hid hG
        have HE2 := Lib.hid e2
        clear hG es hm hold e1 e2 hfull hb
        go_wp2_with fail
        refine HG.out.mono ?_
        rintro e w3 ⟨rfl, hf3, F0', hE3, hr3⟩
        have hfin := HC0.out.step hf3 hE3 hr3
        go_wp2_with fail
        go_meet
        rw [HE2.out] at *
        exact ⟨F0', hfin⟩
      · have hb : isFull l = false := by unfold isFull; simpa using hfull
        have e2 : popL l = l := by unfold popL; rw [if_neg hfull]
        rw [hb]
        have HE2 := Lib.hid e2
        clear e2 hfull hb
        go_wp2_with fail
        go_meet
        rw [HE2.out]
        have := HC0.out
        rw [HE2.out] at this
        exact ⟨F0, this⟩
    case rest =>
      obtain ⟨F0', hmid⟩ := hcut
      have HM := Lib.hid hmid
      clear hmid
      clear HC0 HOld Hn0
      have hpl := popL_lt l Hlen.out
      have hvl : (vals (popL l)).length ≤ 4096 := by simp [vals]; omega
      have Hvl := Lib.hid hvl
      clear hpl hvl
      go_wp2_with fail
      refine wp_region_tail 5 (by kernel_rfl) (by kernel_rfl) (fun W5 HW5 => ?_)
      have hm5 := HM.out.drew HW5
      have v1 := hb_cell hm5.blk 1
      simp only [List.getElem?_toArray, List.getElem?_cons_zero, List.getElem?_cons_succ] at v1
      have HM5 := Lib.hid hm5
      clear hm5
      simp only [List.take_succ_cons, List.take_zero, List.drop_succ_cons, List.drop_zero]
      repeat still_step
      refine wpStill_nil ?_
      go_wp2_with fail
      clear v1
      refine (wide_Add g 7 _ x.2 W5 HM5.out.rest.wide Hx.out.2).mono ?_
      rintro e w6 ⟨rfl, hwt⟩
      obtain ⟨hf6, hr6⟩ := HM5.out.rest.sum hwt
      have hm6 := HM5.out.step hf6 (Ext.refl _ _ _) hr6
      have HM6 := Lib.hid hm6
      clear hwt hf6 hr6 hm6
      go_wp2_with fail
      refine wp_region_tail 6 (by kernel_rfl) (by kernel_rfl) (fun W7 HW7 => ?_)
      have hm7 := HM6.out.drew HW7
      have v1 := hb_cell hm7.blk 1
      simp only [List.getElem?_toArray, List.getElem?_cons_zero, List.getElem?_cons_succ] at v1
      obtain ⟨best, F2, c9, hb7, hst7⟩ := hm7.rest.best
      have HM7 := Lib.hid hm7
      have HB7 := Lib.hid hb7
      have Hst7 := Lib.hid hst7
      clear hm7 hb7 hst7
      simp only [List.take_succ_cons, List.take_zero, List.drop_succ_cons, List.drop_zero]
      repeat still_step
      refine wpStill_nil ?_
      go_wp2_with fail
      clear v1 c9
      refine (mono_Put_st F2 T.a N x.2 best _ W7 HB7.out HN.out Hvl.out).mono ?_
      rintro e w8 ⟨rfl, hf8, F2', hE8, hb8⟩
      obtain ⟨hF8, F0'', hE8', hr8⟩ := Hst7.out w8 F2' (N + 1) _ hf8 hE8 hb8
      have hm8 := HM7.out.step hF8 hE8' hr8
      have HM8 := Lib.hid hm8
      clear hf8 hE8 hb8 hF8 hE8' hr8 hm8
      go_wp2_with fail
      refine wp_region_tail 6 (by kernel_rfl) (by kernel_rfl) (fun W9 HW9 => ?_)
      have hm9 := HM8.out.drew HW9
      have v1 := hb_cell hm9.blk 1
      simp only [List.getElem?_toArray, List.getElem?_cons_zero, List.getElem?_cons_succ] at v1
      obtain ⟨order, F3, c10, ho9, hst9⟩ := hm9.rest.order
      have HM9 := Lib.hid hm9
      have HO9 := Lib.hid ho9
      have Hst9 := Lib.hid hst9
      clear hm9 ho9 hst9
      simp only [List.take_succ_cons, List.take_zero, List.drop_succ_cons, List.drop_zero]
      repeat still_step
      refine wpStill_nil ?_
      go_wp2_with fail
      clear v1 c10
      refine (rank_Put_st F3 T.a x.2 order _ W9 HO9.out Hvl.out).mono ?_
      rintro e wa ⟨rfl, hfa, F3', hEa, hoa⟩
      obtain ⟨hFa, F0a, hEa', hra⟩ := Hst9.out wa F3' _ hfa hEa hoa
      have hma := HM9.out.step hFa hEa' hra
      have HMA := Lib.hid hma
      clear hfa hEa hoa hFa hEa' hra hma
      go_wp2_with fail
      have hfin := HMA.out
      have ev : vals (popL l) ++ [x.2] = vals (popL l ++ [x]) := by simp [vals]
      have es : sumI (vals (popL l)) + x.2 = sumI (vals (popL l ++ [x])) := by rw [← ev, sumI_snoc]
      rw [ev, es] at hfin
      go_ret
      refine ⟨rfl, hfin.fr, fun k => F1' k ∨ F0a k, hfin.ext, r, F1', F0a, by rw [pushL_pop]; exact hfin.ring, by rw [pushL_pop]; exact hfin.rest, hfin.dis, fun k => Iff.rfl, ?_⟩
      intro y hy
      rw [pushL_pop] at hy
      rcases List.mem_append.1 hy with h | h
      · exact Hxs.out y (popL_sub l y h)
      · obtain rfl : y = x := by simpa using h
        exact Hx.out
end Go.Proofs.Ytfhhdlpglfjdgaa
