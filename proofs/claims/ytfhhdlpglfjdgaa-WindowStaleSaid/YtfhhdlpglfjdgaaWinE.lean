/- Contracts of package window: expire. -/
import Derived.Test.YtfhhdlpglfjdgaaWinD
set_option linter.unusedVariables false
set_option linter.unusedSimpArgs false
namespace Go.Proofs.Ytfhhdlpglfjdgaa
open Go.RowKit

theorem ring_At_at (F : Nat → Prop) (g i : Nat) (x : Int × Int) (l : List (Int × Int)) (w : World) (hr : RingAt w F g l) (hx : l[i]? = some x) :
    Calls Try.prog 41 #[.pointer (some ⟨g, 0, none⟩), .int .i64 i] w fun e w' => e = .returned (.tuple #[.agg #[.int .i64 x.1, .int .i64 x.2], .bool true]) ∧ Below w.heap.size w w' := by
  have hi := (List.getElem?_eq_some_iff.1 hx).1
  obtain ⟨hg, hF, frm, L, v, hb, ⟨_, _, rfl⟩ | ⟨b, cur, rfl, hbF, hne, hh, hcs, hf, hl, hL, hc⟩⟩ := hr
  · simp at hi
  · obtain ⟨c0, c1⟩ := hc i x hx
    exact ring_At (p := (frm + i) % L) (t := x.1) (x := x.2) (g := g) (h := b) (room := 4096) (frm := frm) (n := l.length) (i := i) (L := L) (w := w) hb hi hL hl hf rfl ((hb_cell hh _).trans c0) ((hb_cell hh _).trans c1)
theorem ring_At_end (F : Nat → Prop) (g : Nat) (w : World) (hr : RingAt w F g []) :
    Calls Try.prog 41 #[.pointer (some ⟨g, 0, none⟩), .int .i64 0] w fun e w' => e = .returned (.tuple #[.agg #[.int .i64 0, .int .i64 0], .bool false]) ∧ Below w.heap.size w w' := by
  obtain ⟨hg, hF, frm, L, v, hb, _⟩ := hr
  exact ring_At_none g 4096 frm 0 0 v w hb (Nat.le_refl _)

/-- Is a sample too old at a moment? -/
def expired (clock s : Int) (x : Int × Int) : Bool := !decide (IntKind.u64.wrap (IntKind.u64.wrap clock - IntKind.u64.wrap x.1) < IntKind.u64.wrap s)
def fresh (clock s : Int) (l : List (Int × Int)) : List (Int × Int) := l.dropWhile (expired clock s)
theorem fresh_nil (c s : Int) : fresh c s [] = [] := rfl
theorem fresh_old (c s : Int) (x : Int × Int) (l : List (Int × Int)) (h : expired c s x = true) : fresh c s (x :: l) = fresh c s l := by unfold fresh; rw [List.dropWhile_cons_of_pos h]
theorem fresh_new (c s : Int) (x : Int × Int) (l : List (Int × Int)) (h : expired c s x = false) : fresh c s (x :: l) = x :: l := by unfold fresh; rw [List.dropWhile_cons_of_neg (by simp [h])]

theorem WinAt.lt {w : World} {F : Nat → Prop} {g : Nat} {T : WT} {clock : Int} {begun : Bool} {N : Int} {l : List (Int × Int)} (h : WinAt w F g T clock begun N l) : ∀ k, F k → k < w.heap.size := by
  obtain ⟨r, F1, F0, h1, h2, h3, h4, h5⟩ := h
  intro k hk
  rcases (h4 k).1 hk with hk | hk
  · exact h1.2.1 k hk
  · exact h2.lt k hk
theorem WinAt.keep {w w' : World} {F : Nat → Prop} {g : Nat} {T : WT} {clock : Int} {begun : Bool} {N : Int} {l : List (Int × Int)} (h : WinAt w F g T clock begun N l) (hk : ∀ k, F k → w'.heap[k]? = w.heap[k]?) (hs : w.heap.size ≤ w'.heap.size) : WinAt w' F g T clock begun N l := by
  obtain ⟨r, F1, F0, h1, h2, h3, h4, h5⟩ := h
  exact ⟨r, F1, F0, h1.keep (fun k h => hk k ((h4 k).2 (.inl h))) hs, h2.keep (fun k h => hk k ((h4 k).2 (.inr h))) hs, h3, h4, h5⟩
theorem WinAt.below {w w' : World} {F : Nat → Prop} {g : Nat} {T : WT} {clock : Int} {begun : Bool} {N : Int} {l : List (Int × Int)} (h : WinAt w F g T clock begun N l) (hb : Below w.heap.size w w') : WinAt w' F g T clock begun N l :=
  h.keep (fun k hk => hb.block k (h.lt k hk)) hb.size

/-- In the loop of expire. -/
def ExpInv (w wr : World) (F : Nat → Prop) (g : Nat) (T : WT) (clock N : Int) (begun : Bool) (l l' : List (Int × Int)) : Prop :=
  fresh clock T.s l' = fresh clock T.s l ∧ Fr F w wr ∧ ∃ F', Ext F F' w wr ∧ WinAt wr F' g T clock begun N l'

theorem ExpInv.round {w wr w2 w3 : World} {F F' F1 F0 F0' : Nat → Prop} {g r : Nat} {T : WT} {clock N : Int} {begun : Bool} {x : Int × Int} {l l' : List (Int × Int)} (h : ExpInv w wr F g T clock N begun l (x :: l')) (hfe : Fr F w wr) (hE : Ext F F' w wr) (hx : expired clock T.s x = true)
    (hring : RingAt wr F1 r (x :: l')) (hrest : ∀ k, F0 k → k < wr.heap.size) (hdis : ∀ k, F1 k → ¬ F0 k) (hF' : ∀ k, F' k ↔ F1 k ∨ F0 k) (hxs : ∀ y ∈ x :: l', I64 y.1 ∧ I64 y.2) (hF2 : Fr F1 wr w2) (hr2 : RingAt w2 F1 r l') (hf3 : Fr F0 w2 w3) (hE3 : Ext F0 F0' w2 w3)
    (hr3 : WinRest w3 F0' g r T clock begun N (sumI (vals l')) (vals l') (vals l')) : ExpInv w w3 F g T clock N begun l l' := by
  have hs1 := hfe.size
  have hs2 := hF2.size
  have hs3 := hf3.size
  have hfr3 : Fr F' wr w3 := (hF2.mono (F' := F') (fun k hk => (hF' k).2 (.inl hk))).trans (hf3.mono (F' := F') (fun k hk => (hF' k).2 (.inr hk))) (Ext.refl _ _ _)
  refine ⟨(fresh_old _ _ _ _ hx).symm.trans h.1, hfe.trans hfr3 hE, fun k => F1 k ∨ F0' k, ?_, r, F1, F0', hr2.keep (fun k hk => hf3.block k (hr2.2.1 k hk) (hdis k hk)) hs3, hr3, ?_, fun k => Iff.rfl, fun y hy => hxs y (List.mem_cons_of_mem _ hy)⟩
  · intro k hk
    rcases hk with hk | hk
    · rcases hE k ((hF' k).2 (.inl hk)) with h1 | h1
      · exact .inl h1
      · exact .inr ⟨h1.1, by omega⟩
    · rcases hE3 k hk with h1 | h1
      · rcases hE k ((hF' k).2 (.inr h1)) with h2 | h2
        · exact .inl h2
        · exact .inr ⟨h2.1, by omega⟩
      · exact .inr ⟨by omega, h1.2⟩
  · intro k hk hk0
    rcases hE3 k hk0 with h1 | h1
    · exact hdis k hk h1
    · have := hr2.2.1 k hk
      omega
theorem ExpInv.stop {w wr w' : World} {F : Nat → Prop} {g : Nat} {T : WT} {clock N : Int} {begun : Bool} {l l' : List (Int × Int)} (h : ExpInv w wr F g T clock N begun l l') (hf : fresh clock T.s l' = l') (hb : Below wr.heap.size wr w') :
    Fr F w w' ∧ ∃ F', Ext F F' w w' ∧ WinAt w' F' g T clock begun N (fresh clock T.s l) := by
  obtain ⟨h1, h2, F', h3, h4⟩ := h
  have e : fresh clock T.s l = l' := h1.symm.trans hf
  rw [e]
  refine ⟨h2.trans (Fr.ofBelow (F := F') hb) h3, F', ?_, h4.below hb⟩
  intro k hk
  have := hb.size
  exact (h3 k hk).imp id (fun h => ⟨h.1, by omega⟩)

set_option maxRecDepth 100000 in
set_option maxHeartbeats 3200000 in
theorem win_expire (F : Nat → Prop) (g : Nat) (T : WT) (clock N : Int) (begun : Bool) (l : List (Int × Int)) (w : World) (hr : WinAt w F g T clock begun N l) (hN : N ≤ 4611686018427387904) :
    Calls Try.prog 24 #[.pointer (some ⟨g, 0, none⟩)] w fun e w' => e = .returned (.tuple #[]) ∧ Fr F w w' ∧ ∃ F', Ext F F' w w' ∧ WinAt w' F' g T clock begun N (fresh clock T.s l) := by
  have hI0 : ExpInv w w F g T clock N begun l l := ⟨rfl, Fr.refl _ _, F, Ext.refl _ _ _, hr⟩
  have HI0 := Lib.hid hI0
  have HN := Lib.hid hN
  clear hr hI0 hN
  go_enter Try.func24, Try.ntmps24
  go_wp2_with fail
  go_loopg [] l.length (fun k wr => ∃ l', k = l'.length ∧ Hid (ExpInv w wr F g T clock N begun l l'))
  case atStart => exact ⟨l, rfl, HI0⟩
  case round =>
    obtain ⟨l', rfl, HI⟩ := hrel
    obtain ⟨hfr, hF, F', hE, r, F1, F0, hring, hrest, hdis, hF', hxs⟩ := HI.out
    obtain ⟨hgF0, best, order, hblk⟩ := hrest.at
    have c0 := hb_cell hblk 0
    simp only [List.getElem?_toArray, List.getElem?_cons_zero, List.getElem?_cons_succ] at c0
    have HFE := Lib.hid (And.intro hF hE)
    have HRing := Lib.hid hring
    have HRest := Lib.hid hrest
    have Hdis := Lib.hid hdis
    have HF' := Lib.hid hF'
    have Hxs := Lib.hid hxs
    have Hblk := Lib.hid hblk
    clear hfr hF hE hring hrest hdis hF' hxs hblk hgF0
    rcases l' with _ | ⟨x, l'⟩
    · go_wp2_with fail
      refine (ring_At_end F1 r wr HRing.out).mono ?_
      rintro e w1 ⟨rfl, hb1⟩
      have HB1 := Lib.hid hb1
      clear hb1 c0
      go_wp2_with fail
      go_quiet (fail)
      go_wp2_with fail
      exact bodyPost_ret (v := .tuple #[]) (results_none rfl _ _ _) rfl ⟨rfl, HI.out.stop (fresh_nil _ _) (below_up (HB1.out.alloc HB1.out.size _) (below_drewN _ _))⟩
    · go_wp2_with fail
      refine (ring_At_at F1 r 0 x (x :: l') wr HRing.out rfl).mono ?_
      rintro e w1 ⟨rfl, hb1⟩
      have HB1 := Lib.hid hb1
      clear hb1 c0
      go_upto_region 1 with fail
      obtain ⟨W, hW⟩ : ∃ W, W = w1.alloc (.cells #[.int .i64 x.1, .int .i64 x.2] 50) := ⟨_, rfl⟩
      have hBW : Below wr.heap.size wr W := by rw [hW]; exact HB1.out.alloc HB1.out.size _
      have hs := hb_new w1 (.cells #[.int .i64 x.1, .int .i64 x.2] 50)
      rw [← hW] at hs
      rw [← hW]
      have hblk := hb_below' Hblk.out hBW
      have c3 := hb_cell hblk 3
      have c5 := hb_cell hblk 5
      have c0 := hb_cell hblk 0
      simp only [List.getElem?_toArray, List.getElem?_cons_zero, List.getElem?_cons_succ] at c0 c3 c5
      obtain ⟨s0, s1, _, _⟩ := hb2 hs
      have HBW := Lib.hid hBW
      have HS := Lib.hid hs
      obtain ⟨sb, hsb⟩ : ∃ sb, sb = w1.heap.size := ⟨_, rfl⟩
      rw [← hsb] at s0 s1 HS
      rw [← hsb]
      have hsbr : wr.heap.size ≤ sb := by rw [hsb]; exact HB1.out.size
      clear hBW hs hblk hW hsb HB1
      by_cases hx : expired clock T.s x = true
      · have hd : decide (IntKind.u64.wrap (IntKind.u64.wrap clock - IntKind.u64.wrap x.1) < IntKind.u64.wrap T.s) = false := by unfold expired at hx; simpa using hx
        have HX := Lib.hid hx
        clear hx
        go_wp2_with fail
        go_quiet (fail)
        go_wp2_with fail
        have hD : ∀ n, RingAt (W.drewN n) F1 r (x :: l') := fun n => HRing.out.keep (fun k hk => HBW.out.block k (HRing.out.2.1 k hk)) HBW.out.size
        refine (ring_Drop_at F1 r x l' (W.drewN _) (hD _)).mono ?_
        rintro e w2 ⟨rfl, hf2, hr2⟩
        have hn1 : ¬ F1 sb := fun h => by have := HRing.out.2.1 _ h; omega
        have hs2 := hf2.blk (hb_drewN HS.out _) hn1
        have hF2 : Fr F1 wr w2 := (Fr.ofBelow (F := F1) (below_up HBW.out (below_drewN _ _))).trans hf2 (Ext.refl _ _ _)
        have hrest2 : WinRest w2 F0 g r T clock begun N (sumI (vals (x :: l'))) (vals (x :: l')) (vals (x :: l')) := HRest.out.keep (fun k hk => hF2.block k (HRest.out.lt k hk) (fun h => Hdis.out k h hk)) hF2.size
        obtain ⟨z0, z1, _, _⟩ := hb2 hs2
        have hlen := HRing.out.len
        have hm : (vals l').length ≤ 4096 := by simp [vals] at hlen ⊢; omega
        have hG : Calls Try.prog 34 #[.pointer (some ⟨g, 0, none⟩), .agg #[.int .i64 x.1, .int .i64 x.2]] w2 fun e w' => e = .returned (.tuple #[]) ∧ Fr F0 w2 w' ∧ ∃ F', Ext F0 F' w2 w' ∧ WinRest w' F' g r T clock begun N (sumI (vals (x :: l')) - x.2) (vals l') (vals l') :=
          win_gone F0 g r T clock N _ x.1 x.2 begun (vals l') (vals l') w2 hrest2 HN.out hm (Hxs.out x List.mem_cons_self).2
        have es : sumI (vals (x :: l')) - x.2 = sumI (vals l') := by simp only [vals, List.map_cons, sumI, List.foldr_cons]; omega
        rw [es] at hG
        have HG := Lib.hid hG
        have HF2 := Lib.hid hF2
        have HR2 := Lib.hid hr2
        clear hD hf2 hs2 hF2 hrest2 hm hlen hG es hr2 c0 c3 c5 hd s0 s1
        go_wp2_with fail
        refine HG.out.mono ?_
        rintro e w3 ⟨rfl, hf3, F0', hE3, hr3⟩
        have hfin : ExpInv w w3 F g T clock N begun l l' := HI.out.round HFE.out.1 HFE.out.2 HX.out HRing.out HRest.out.lt Hdis.out HF'.out Hxs.out HF2.out HR2.out hf3 hE3 hr3
        have HFin := Lib.hid hfin
        clear hf3 hE3 hr3 hfin z0 z1
        go_wp2_with fail
        go_roundg l'.length
        case measure => simp
        case rel => exact ⟨l', rfl, HFin⟩
      · have hd : decide (IntKind.u64.wrap (IntKind.u64.wrap clock - IntKind.u64.wrap x.1) < IntKind.u64.wrap T.s) = true := by unfold expired at hx; simpa using hx
        have hx2 : expired clock T.s x = false := by simpa using hx
        have HX := Lib.hid hx2
        clear hx hx2
        go_wp2_with fail
        go_quiet (fail)
        go_wp2_with fail
        exact bodyPost_ret (v := .tuple #[]) (results_none rfl _ _ _) rfl ⟨rfl, HI.out.stop (fresh_new _ _ _ _ HX.out) (below_up HBW.out (below_drewN _ _))⟩
end Go.Proofs.Ytfhhdlpglfjdgaa
