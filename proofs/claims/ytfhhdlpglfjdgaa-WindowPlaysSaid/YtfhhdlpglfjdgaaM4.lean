/- Texts of mine, put together: WinE, WinF, WinG, WinH, WinI, LawA, LawB, LawC, RowStale. -/
import Derived.Test.YtfhhdlpglfjdgaaM3
import Derived.Test.YtfhhdlpglfjdgaaRows
import Derived.ProofKit
import Derived.Lib.SmallJoins
import Derived.Deep.Slices
import Derived.Deep.Strs
import Derived.SizedLaws
import Derived.ChangeOld
/- Contracts of package window: expire. -/
set_option linter.unusedVariables false
set_option linter.unusedSimpArgs false
namespace Go.Proofs.Ytfhhdlpglfjdgaa
open Go.RowKit

theorem ring_At_at (F : Nat → Prop) (g i : Nat) (x : Int × Int) (l : List (Int × Int)) (w : World) (hr : RingAt w F g l) (hx : l[i]? = some x) :
    Calls Try.prog 41 #[.pointer (some ⟨g, 0, none⟩), .int .i64 i] w fun e w' => e = .returned (.tuple #[.agg #[.int .i64 x.1, .int .i64 x.2], .bool true]) ∧ Below w.heap.size w w' := by
  have hi := (List.getElem?_eq_some_iff.1 hx).1
  obtain ⟨hg, hF, frm, L, v, hb, ⟨_, _, rfl⟩ | ⟨b, cur, rfl, hbF, hne, hh, hcs, hf, hl, hL, hc⟩⟩ := hr
  · simp at hi
  · obtain ⟨c0, c1⟩ := hc i x hx
    exact ring_At (p := (frm + i) % L) (t := x.1) (x := x.2) (g := g) (h := b) (room := 4096) (frm := frm) (n := l.length) (i := i) (L := L) (w := w) hb hi hL hl hf rfl ((hb_cell hh _).trans c0) ((hb_cell hh _).trans c1)
theorem ring_At_end (F : Nat → Prop) (g : Nat) (w : World) (hr : RingAt w F g []) :
    Calls Try.prog 41 #[.pointer (some ⟨g, 0, none⟩), .int .i64 0] w fun e w' => e = .returned (.tuple #[.agg #[.int .i64 0, .int .i64 0], .bool false]) ∧ Below w.heap.size w w' := by
  obtain ⟨hg, hF, frm, L, v, hb, _⟩ := hr
  exact ring_At_none g 4096 frm 0 0 v w hb (Nat.le_refl _)

/-- Is a sample too old at a moment? -/
def expired (clock s : Int) (x : Int × Int) : Bool := !decide (IntKind.u64.wrap (IntKind.u64.wrap clock - IntKind.u64.wrap x.1) < IntKind.u64.wrap s)
def fresh (clock s : Int) (l : List (Int × Int)) : List (Int × Int) := l.dropWhile (expired clock s)
theorem fresh_nil (c s : Int) : fresh c s [] = [] := rfl
theorem fresh_old (c s : Int) (x : Int × Int) (l : List (Int × Int)) (h : expired c s x = true) : fresh c s (x :: l) = fresh c s l := by unfold fresh; rw [List.dropWhile_cons_of_pos h]
theorem fresh_new (c s : Int) (x : Int × Int) (l : List (Int × Int)) (h : expired c s x = false) : fresh c s (x :: l) = x :: l := by unfold fresh; rw [List.dropWhile_cons_of_neg (by simp [h])]

theorem WinAt.lt {w : World} {F : Nat → Prop} {g : Nat} {T : WT} {clock : Int} {begun : Bool} {N : Int} {l : List (Int × Int)} (h : WinAt w F g T clock begun N l) : ∀ k, F k → k < w.heap.size := by
  obtain ⟨r, F1, F0, h1, h2, h3, h4, h5⟩ := h
  intro k hk
  rcases (h4 k).1 hk with hk | hk
  · exact h1.2.1 k hk
  · exact h2.lt k hk
theorem WinAt.keep {w w' : World} {F : Nat → Prop} {g : Nat} {T : WT} {clock : Int} {begun : Bool} {N : Int} {l : List (Int × Int)} (h : WinAt w F g T clock begun N l) (hk : ∀ k, F k → w'.heap[k]? = w.heap[k]?) (hs : w.heap.size ≤ w'.heap.size) : WinAt w' F g T clock begun N l := by
  obtain ⟨r, F1, F0, h1, h2, h3, h4, h5⟩ := h
  exact ⟨r, F1, F0, h1.keep (fun k h => hk k ((h4 k).2 (.inl h))) hs, h2.keep (fun k h => hk k ((h4 k).2 (.inr h))) hs, h3, h4, h5⟩
theorem WinAt.below {w w' : World} {F : Nat → Prop} {g : Nat} {T : WT} {clock : Int} {begun : Bool} {N : Int} {l : List (Int × Int)} (h : WinAt w F g T clock begun N l) (hb : Below w.heap.size w w') : WinAt w' F g T clock begun N l :=
  h.keep (fun k hk => hb.block k (h.lt k hk)) hb.size

/-- In the loop of expire. -/
def ExpInv (w wr : World) (F : Nat → Prop) (g : Nat) (T : WT) (clock N : Int) (begun : Bool) (l l' : List (Int × Int)) : Prop :=
  fresh clock T.s l' = fresh clock T.s l ∧ Fr F w wr ∧ ∃ F', Ext F F' w wr ∧ WinAt wr F' g T clock begun N l'

theorem ExpInv.round {w wr w2 w3 : World} {F F' F1 F0 F0' : Nat → Prop} {g r : Nat} {T : WT} {clock N : Int} {begun : Bool} {x : Int × Int} {l l' : List (Int × Int)} (h : ExpInv w wr F g T clock N begun l (x :: l')) (hfe : Fr F w wr) (hE : Ext F F' w wr) (hx : expired clock T.s x = true)
    (hring : RingAt wr F1 r (x :: l')) (hrest : ∀ k, F0 k → k < wr.heap.size) (hdis : ∀ k, F1 k → ¬ F0 k) (hF' : ∀ k, F' k ↔ F1 k ∨ F0 k) (hxs : ∀ y ∈ x :: l', I64 y.1 ∧ I64 y.2) (hF2 : Fr F1 wr w2) (hr2 : RingAt w2 F1 r l') (hf3 : Fr F0 w2 w3) (hE3 : Ext F0 F0' w2 w3)
    (hr3 : WinRest w3 F0' g r T clock begun N (sumI (vals l')) (vals l') (vals l')) : ExpInv w w3 F g T clock N begun l l' := by
  have hs1 := hfe.size
  have hs2 := hF2.size
  have hs3 := hf3.size
  have hfr3 : Fr F' wr w3 := (hF2.mono (F' := F') (fun k hk => (hF' k).2 (.inl hk))).trans (hf3.mono (F' := F') (fun k hk => (hF' k).2 (.inr hk))) (Ext.refl _ _ _)
  refine ⟨(fresh_old _ _ _ _ hx).symm.trans h.1, hfe.trans hfr3 hE, fun k => F1 k ∨ F0' k, ?_, r, F1, F0', hr2.keep (fun k hk => hf3.block k (hr2.2.1 k hk) (hdis k hk)) hs3, hr3, ?_, fun k => Iff.rfl, fun y hy => hxs y (List.mem_cons_of_mem _ hy)⟩
  · intro k hk
    rcases hk with hk | hk
    · rcases hE k ((hF' k).2 (.inl hk)) with h1 | h1
      · exact .inl h1
      · exact .inr ⟨h1.1, by omega⟩
    · rcases hE3 k hk with h1 | h1
      · rcases hE k ((hF' k).2 (.inr h1)) with h2 | h2
        · exact .inl h2
        · exact .inr ⟨h2.1, by omega⟩
      · exact .inr ⟨by omega, h1.2⟩
  · intro k hk hk0
    rcases hE3 k hk0 with h1 | h1
    · exact hdis k hk h1
    · have := hr2.2.1 k hk
      omega
theorem ExpInv.stop {w wr w' : World} {F : Nat → Prop} {g : Nat} {T : WT} {clock N : Int} {begun : Bool} {l l' : List (Int × Int)} (h : ExpInv w wr F g T clock N begun l l') (hf : fresh clock T.s l' = l') (hb : Below wr.heap.size wr w') :
    Fr F w w' ∧ ∃ F', Ext F F' w w' ∧ WinAt w' F' g T clock begun N (fresh clock T.s l) := by
  obtain ⟨h1, h2, F', h3, h4⟩ := h
  have e : fresh clock T.s l = l' := h1.symm.trans hf
  rw [e]
  refine ⟨h2.trans (Fr.ofBelow (F := F') hb) h3, F', ?_, h4.below hb⟩
  intro k hk
  have := hb.size
  exact (h3 k hk).imp id (fun h => ⟨h.1, by omega⟩)

set_option maxRecDepth 100000 in
set_option maxHeartbeats 3200000 in
theorem win_expire (F : Nat → Prop) (g : Nat) (T : WT) (clock N : Int) (begun : Bool) (l : List (Int × Int)) (w : World) (hr : WinAt w F g T clock begun N l) (hN : N ≤ 4611686018427387904) :
    Calls Try.prog 24 #[.pointer (some ⟨g, 0, none⟩)] w fun e w' => e = .returned (.tuple #[]) ∧ Fr F w w' ∧ ∃ F', Ext F F' w w' ∧ WinAt w' F' g T clock begun N (fresh clock T.s l) := by
  have hI0 : ExpInv w w F g T clock N begun l l := ⟨rfl, Fr.refl _ _, F, Ext.refl _ _ _, hr⟩
  have HI0 := Lib.hid hI0
  have HN := Lib.hid hN
  clear hr hI0 hN
  go_enter Try.func24, Try.ntmps24
  go_wp2_with fail
  go_loopg [] l.length (fun k wr => ∃ l', k = l'.length ∧ Hid (ExpInv w wr F g T clock N begun l l'))
  case atStart => exact ⟨l, rfl, HI0⟩
  case round =>
    obtain ⟨l', rfl, HI⟩ := hrel
    obtain ⟨hfr, hF, F', hE, r, F1, F0, hring, hrest, hdis, hF', hxs⟩ := HI.out
    obtain ⟨hgF0, best, order, hblk⟩ := hrest.at
    have c0 := hb_cell hblk 0
    simp only [List.getElem?_toArray, List.getElem?_cons_zero, List.getElem?_cons_succ] at c0
    have HFE := Lib.hid (And.intro hF hE)
    have HRing := Lib.hid hring
    have HRest := Lib.hid hrest
    have Hdis := Lib.hid hdis
    have HF' := Lib.hid hF'
    have Hxs := Lib.hid hxs
    have Hblk := Lib.hid hblk
    clear hfr hF hE hring hrest hdis hF' hxs hblk hgF0
    rcases l' with _ | ⟨x, l'⟩
    · go_wp2_with fail
      refine (ring_At_end F1 r wr HRing.out).mono ?_
      rintro e w1 ⟨rfl, hb1⟩
      have HB1 := Lib.hid hb1
      clear hb1 c0
      go_wp2_with fail
      go_quiet (fail)
      go_wp2_with fail
      exact bodyPost_ret (v := .tuple #[]) (results_none rfl _ _ _) rfl ⟨rfl, HI.out.stop (fresh_nil _ _) (below_up (HB1.out.alloc HB1.out.size _) (below_drewN _ _))⟩
    · go_wp2_with fail
      refine (ring_At_at F1 r 0 x (x :: l') wr HRing.out rfl).mono ?_
      rintro e w1 ⟨rfl, hb1⟩
      have HB1 := Lib.hid hb1
      clear hb1 c0
      go_upto_region 1 with fail
      obtain ⟨W, hW⟩ : ∃ W, W = w1.alloc (.cells #[.int .i64 x.1, .int .i64 x.2] 50) := ⟨_, rfl⟩
      have hBW : Below wr.heap.size wr W := by rw [hW]; exact HB1.out.alloc HB1.out.size _
      have hs := hb_new w1 (.cells #[.int .i64 x.1, .int .i64 x.2] 50)
      rw [← hW] at hs
      rw [← hW]
      have hblk := hb_below' Hblk.out hBW
      have c3 := hb_cell hblk 3
      have c5 := hb_cell hblk 5
      have c0 := hb_cell hblk 0
      simp only [List.getElem?_toArray, List.getElem?_cons_zero, List.getElem?_cons_succ] at c0 c3 c5
      obtain ⟨s0, s1, _, _⟩ := hb2 hs
      have HBW := Lib.hid hBW
      have HS := Lib.hid hs
      obtain ⟨sb, hsb⟩ : ∃ sb, sb = w1.heap.size := ⟨_, rfl⟩
      rw [← hsb] at s0 s1 HS
      rw [← hsb]
      have hsbr : wr.heap.size ≤ sb := by rw [hsb]; exact HB1.out.size
      clear hBW hs hblk hW hsb HB1
      by_cases hx : expired clock T.s x = true
      · have hd : decide (IntKind.u64.wrap (IntKind.u64.wrap clock - IntKind.u64.wrap x.1) < IntKind.u64.wrap T.s) = false := by unfold expired at hx; simpa using hx
        have HX := Lib.hid hx
        clear hx
        go_wp2_with fail
        go_quiet (fail)
        go_wp2_with fail
        have hD : ∀ n, RingAt (W.drewN n) F1 r (x :: l') := fun n => HRing.out.keep (fun k hk => HBW.out.block k (HRing.out.2.1 k hk)) HBW.out.size
        refine (ring_Drop_at F1 r x l' (W.drewN _) (hD _)).mono ?_
        rintro e w2 ⟨rfl, hf2, hr2⟩
        have hn1 : ¬ F1 sb := fun h => by have := HRing.out.2.1 _ h; omega
        have hs2 := hf2.blk (hb_drewN HS.out _) hn1
        have hF2 : Fr F1 wr w2 := (Fr.ofBelow (F := F1) (below_up HBW.out (below_drewN _ _))).trans hf2 (Ext.refl _ _ _)
        have hrest2 : WinRest w2 F0 g r T clock begun N (sumI (vals (x :: l'))) (vals (x :: l')) (vals (x :: l')) := HRest.out.keep (fun k hk => hF2.block k (HRest.out.lt k hk) (fun h => Hdis.out k h hk)) hF2.size
        obtain ⟨z0, z1, _, _⟩ := hb2 hs2
        have hlen := HRing.out.len
        have hm : (vals l').length ≤ 4096 := by simp [vals] at hlen ⊢; omega
        have hG : Calls Try.prog 34 #[.pointer (some ⟨g, 0, none⟩), .agg #[.int .i64 x.1, .int .i64 x.2]] w2 fun e w' => e = .returned (.tuple #[]) ∧ Fr F0 w2 w' ∧ ∃ F', Ext F0 F' w2 w' ∧ WinRest w' F' g r T clock begun N (sumI (vals (x :: l')) - x.2) (vals l') (vals l') :=
          win_gone F0 g r T clock N _ x.1 x.2 begun (vals l') (vals l') w2 hrest2 HN.out hm (Hxs.out x List.mem_cons_self).2
        have es : sumI (vals (x :: l')) - x.2 = sumI (vals l') := by simp only [vals, List.map_cons, sumI, List.foldr_cons]; omega
        rw [es] at hG
        have HG := Lib.hid hG
        have HF2 := Lib.hid hF2
        have HR2 := Lib.hid hr2
        clear hD hf2 hs2 hF2 hrest2 hm hlen hG es hr2 c0 c3 c5 hd s0 s1
        go_wp2_with fail
        refine HG.out.mono ?_
        rintro e w3 ⟨rfl, hf3, F0', hE3, hr3⟩
        have hfin : ExpInv w w3 F g T clock N begun l l' := HI.out.round HFE.out.1 HFE.out.2 HX.out HRing.out HRest.out.lt Hdis.out HF'.out Hxs.out HF2.out HR2.out hf3 hE3 hr3
        have HFin := Lib.hid hfin
        clear hf3 hE3 hr3 hfin z0 z1
        go_wp2_with fail
        go_roundg l'.length
        case measure => simp
        case rel => exact ⟨l', rfl, HFin⟩
      · have hd : decide (IntKind.u64.wrap (IntKind.u64.wrap clock - IntKind.u64.wrap x.1) < IntKind.u64.wrap T.s) = true := by unfold expired at hx; simpa using hx
        have hx2 : expired clock T.s x = false := by simpa using hx
        have HX := Lib.hid hx2
        clear hx hx2
        go_wp2_with fail
        go_quiet (fail)
        go_wp2_with fail
        exact bodyPost_ret (v := .tuple #[]) (results_none rfl _ _ _) rfl ⟨rfl, HI.out.stop (fresh_new _ _ _ _ HX.out) (below_up HBW.out (below_drewN _ _))⟩
end Go.Proofs.Ytfhhdlpglfjdgaa
/- Contracts of package window: told, Clock; Put, Read, Held that are refused. -/
set_option linter.unusedVariables false
set_option linter.unusedSimpArgs false
namespace Go.Proofs.Ytfhhdlpglfjdgaa
open Go.RowKit

theorem win_told (v why : Int) (ok : Bool) (w : World) : Calls Try.prog 27 #[.int .i64 v, .bool ok, .int .i64 why] w fun e w' => e = .returned (.agg #[.int .i64 (if ok then 0 else why), .int .i64 (if ok then v else 0)]) ∧ Below w.heap.size w w' := by
  go_enter Try.func27, Try.ntmps27
  cases ok
  · go_wp2
    exact bodyPost_ret (v := .agg #[.int .i64 why, .int .i64 0]) (by simp [results, Try.results27, go_sem]) rfl ⟨rfl, below1 _ _⟩
  · go_wp2
    exact bodyPost_ret (v := .agg #[.int .i64 0, .int .i64 v]) (by simp [results, Try.results27, go_sem]) rfl ⟨rfl, below1 _ _⟩

/-- A window that refuses a moment. -/
def Refuses (w : World) (p : Value) (t e : Int) : Prop :=
  ∀ w', Below w.heap.size w w' → Calls Try.prog 23 #[p, .int .i64 t] w' fun x w'' => x = .returned (.int .i64 e) ∧ w'' = w'
theorem refuses_nil (w : World) (t : Int) : Refuses w (.pointer none) t 4 := fun w' _ => win_come_nil t w'
theorem refuses_zero (w : World) (g : Nat) (t : Int) (hg : g < w.heap.size) (h : w.cell? ⟨g, 0, none⟩ = some (.pointer none)) : Refuses w (.pointer (some ⟨g, 0, none⟩)) t 4 :=
  fun w' hb => win_come_zero g t w' ((hb.cell (p := ⟨g, 0, none⟩) hg).trans h)
theorem refuses_stale {w : World} {F : Nat → Prop} {g : Nat} {T : WT} {clock N : Int} {l : List (Int × Int)} (h : WinAt w F g T clock true N l) (t : Int) (ht : t < clock) : Refuses w (.pointer (some ⟨g, 0, none⟩)) t 32 := by
  intro w' hb
  obtain ⟨r, F1, F0, h1, h2, _⟩ := h.below hb
  obtain ⟨_, best, order, hblk⟩ := h2.at
  exact win_come_stale g r T clock t _ best order w' hblk ht

theorem win_Put_no (p : Value) (t v e : Int) (w : World) (hr : Refuses w p t e) (he : e = 4 ∨ e = 32) :
    Calls Try.prog 14 #[p, .agg #[.int .i64 t, .int .i64 v]] w fun x w' => x = .returned (.int .i64 e) ∧ Below w.heap.size w w' := by
  have HR := Lib.hid hr
  clear hr
  rcases he with rfl | rfl
  all_goals
    go_enter Try.func14, Try.ntmps14
    go_wp2_with fail
    refine (HR.out _ (below1 _ _)).mono ?_
    rintro x w1 ⟨rfl, rfl⟩
    go_wp2_with fail
    go_ret
    exact ⟨rfl, below1 _ _⟩
theorem win_Read_no (p : Value) (t e : Int) (w : World) (hr : Refuses w p t e) (he : e = 4 ∨ e = 32) :
    Calls Try.prog 12 #[p, .int .i64 t] w fun x w' => x = .returned (.tuple #[.agg #[.int .i64 0, .int .i64 0], .int .i64 e]) ∧ Below w.heap.size w w' := by
  have HR := Lib.hid hr
  clear hr
  rcases he with rfl | rfl
  · go_enter Try.func12, Try.ntmps12
    go_wp2_with fail
    refine (HR.out _ (below1 _ _)).mono ?_
    rintro x w1 ⟨rfl, rfl⟩
    go_wp2_with fail
    exact bodyPost_ret (v := .tuple #[.agg #[.int .i64 0, .int .i64 0], .int .i64 4]) (by simp [results, Try.results12, go_sem]) rfl ⟨rfl, below1 _ _⟩
  · go_enter Try.func12, Try.ntmps12
    go_wp2_with fail
    refine (HR.out _ (below1 _ _)).mono ?_
    rintro x w1 ⟨rfl, rfl⟩
    go_wp2_with fail
    exact bodyPost_ret (v := .tuple #[.agg #[.int .i64 0, .int .i64 0], .int .i64 32]) (by simp [results, Try.results12, go_sem]) rfl ⟨rfl, below1 _ _⟩
theorem win_Held_no (p : Value) (t e : Int) (w : World) (hr : Refuses w p t e) (he : e = 4 ∨ e = 32) :
    Calls Try.prog 13 #[p, .int .i64 t] w fun x w' => x = .returned (.tuple #[.slice none 0 0, .int .i64 e]) ∧ w' = w := by
  have HR := Lib.hid hr
  clear hr
  rcases he with rfl | rfl
  all_goals
    go_enter Try.func13, Try.ntmps13
    go_wp2_with fail
    refine (HR.out _ (Below.refl _ _)).mono ?_
    rintro x w1 ⟨rfl, rfl⟩
    go_wp2_with fail
    go_ret2
    exact ⟨rfl, rfl⟩

theorem win_Clock_nil (w : World) : Calls Try.prog 11 #[.pointer none] w fun e w' => e = .returned (.tuple #[.int .i64 0, .bool false]) ∧ w' = w := by
  have h1 := win_none_nil
  have H1 := Lib.hid h1
  clear h1
  go_enter Try.func11, Try.ntmps11
  go_wp2_with fail
  refine (H1.out _).mono ?_
  rintro e w1 ⟨rfl, rfl⟩
  go_wp2
  go_ret2
  exact ⟨rfl, rfl⟩
theorem win_Clock_zero (g : Nat) (w : World) (h : w.cell? ⟨g, 0, none⟩ = some (.pointer none)) : Calls Try.prog 11 #[.pointer (some ⟨g, 0, none⟩)] w fun e w' => e = .returned (.tuple #[.int .i64 0, .bool false]) ∧ w' = w := by
  have h1 := fun w h => win_none g none w h
  have H1 := Lib.hid h1
  clear h1
  go_enter Try.func11, Try.ntmps11
  go_wp2_with fail
  refine (H1.out _ h).mono ?_
  rintro e w1 ⟨rfl, rfl⟩
  go_wp2
  go_ret2
  exact ⟨rfl, rfl⟩
theorem win_Clock {F : Nat → Prop} {g : Nat} {T : WT} {clock N : Int} {begun : Bool} {l : List (Int × Int)} (w : World) (h : WinAt w F g T clock begun N l) :
    Calls Try.prog 11 #[.pointer (some ⟨g, 0, none⟩)] w fun e w' => e = .returned (.tuple #[.int .i64 clock, .bool begun]) ∧ Below w.heap.size w w' := by
  obtain ⟨r, F1, F0, h1, h2, _⟩ := h
  obtain ⟨_, best, order, hblk⟩ := h2.at
  have c0 := hb_cell hblk 0
  have c5 := hb_cell hblk 5
  have c6 := hb_cell hblk 6
  simp only [List.getElem?_toArray, List.getElem?_cons_zero, List.getElem?_cons_succ] at c0 c5 c6
  have h1 := fun w h => win_none g (some ⟨r, 0, none⟩) w h
  have H1 := Lib.hid h1
  clear h1 hblk h2
  go_enter Try.func11, Try.ntmps11
  go_wp2_with fail
  refine (H1.out _ c0).mono ?_
  rintro e w1 ⟨rfl, rfl⟩
  go_wp2_with fail
  go_quiet (fail)
  go_wp2_with fail
  go_ret2
  exact ⟨rfl, below_drewN _ _⟩
end Go.Proofs.Ytfhhdlpglfjdgaa
/- Contracts of package window: Read. -/
set_option linter.unusedVariables false
set_option linter.unusedSimpArgs false
namespace Go.Proofs.Ytfhhdlpglfjdgaa
open Go.RowKit

/-- The numbers of a list, rising. -/
def srt (l : List Int) : List Int := l.foldr (fun v acc => insI acc (lb acc v) v) []
theorem srt_rise : ∀ l, Rise (srt l)
  | [] => fun i j x y _ hx => by simp [srt] at hx
  | v :: r => (srt_rise r).ins v
theorem srt_perm : ∀ l, (srt l).Perm l
  | [] => List.Perm.refl _
  | v :: r => (insI_perm (srt r) _ v).trans ((List.perm_append_singleton v _).trans ((srt_perm r).cons v))
theorem srt_eq {L l : List Int} (h : Rise L) (hp : L.Perm l) : L = srt l :=
  (hp.trans (srt_perm l).symm).eq_of_pairwise (le := (· ≤ ·)) (fun a b _ _ h1 h2 => Int.le_antisymm h1 h2) (Rise.pair.1 h) (Rise.pair.1 (srt_rise l))
theorem srt_length (l : List Int) : (srt l).length = l.length := (srt_perm l).length_eq

theorem sumI_bd : ∀ (l : List Int), (∀ x ∈ l, I64 x) → -9223372036854775808 * (l.length : Int) ≤ sumI l ∧ sumI l ≤ 9223372036854775807 * (l.length : Int)
  | [], _ => by simp [sumI]
  | v :: r, h => by
    have h1 := sumI_bd r (fun x hx => h x (List.mem_cons_of_mem _ hx))
    have h2 := h v List.mem_cons_self
    have e : sumI (v :: r) = v + sumI r := rfl
    unfold I64 at h2
    rw [e, List.length_cons]
    omega
theorem mean_bd (s n : Int) (hn : 1 ≤ n) (h1 : -9223372036854775808 * n ≤ s) (h2 : s ≤ 9223372036854775807 * n) : I64 (s / n) := by
  unfold I64
  constructor
  · exact Int.le_ediv_of_mul_le (by omega) h1
  · exact Int.ediv_le_of_le_mul (by omega) h2

/-- What a window of the terms T tells of the values l: a reason, a number. -/
def winRead (T : WT) (l : List Int) : Int × Int :=
  if T.a = 1 then (if fitB (sumI l) then (0, sumI l) else (3, 0))
  else if T.a = 5 then (0, fWhole l.length)
  else if T.a = 2 then (if l = [] then (1, 0) else (0, sumI l / l.length))
  else if T.a = 6 then (if l = [] then (1, 0) else (0, (srt l).getD (rankK l.length T.p).toNat 0))
  else (if l = [] then (1, 0) else (0, mbest (decide (T.a = 4)) l))

theorem mono_Best_st (F : Nat → Prop) (a N : Int) (v : Value) (l : List Int) (w : World) (hm : MonoSt w F a N v l) (ha : a = 3 ∨ a = 4) (hN : N ≤ 4611686018427387904) :
    Calls Try.prog 31 #[v] w fun e w' => e = .returned (.tuple #[.int .i64 (if l = [] then 0 else mbest (decide (a = 4)) l), .bool (decide (l ≠ []))]) ∧ Below w.heap.size w w' := by
  rcases hm with ⟨_, b, come, rfl, ⟨hbF, hF, v, hb, hq, hne, hown⟩, h1, h2⟩ | ⟨hn, _⟩
  · rcases l with _ | ⟨x, l⟩
    · simp only [List.length_nil] at hb
      rw [show come - ((0 : Nat) : Int) = come by omega] at hb
      exact mono_Best_none b _ come v w hb (by simpa using h1) (by omega)
    · have hmn := mq_ne (decide (a = 4)) (x :: l) (come - (x :: l).length) (by simp)
      obtain ⟨y, r, hy⟩ := List.exists_cons_of_ne_nil hmn
      have hbest : mbest (decide (a = 4)) (x :: l) = y.1 := by
        unfold mbest
        rw [mq_fst _ _ 0 (come - (x :: l).length), hy]
        rfl
      rw [hy] at hq
      rcases hq.2 with ⟨_, h0⟩ | ⟨h, off, cap, cur, rfl, hbase, hh, hnc, hcm, hcs, hr⟩
      · simp at h0
      · have c0 : w.cell? ⟨h, off, none⟩ = some (.int .i64 y.1) := by
          rw [hb_cell hh]
          exact hr 0 _ (by simp [kc])
        rw [if_neg (by simp), hbest]
        refine (mono_Best_some b h off (y :: r).length cap (decide (a = 4)) come (come - (x :: l).length) y.1 w hb (by simp only [List.length_cons] at h1 ⊢; omega) (by simp only [List.length_cons]; omega) (by omega) (by simp) c0).mono ?_
        rintro e w' ⟨rfl, hw⟩
        exact ⟨by simp, hw⟩
  · exact absurd ha hn
theorem rank_By_st (F : Nat → Prop) (a p : Int) (v : Value) (l : List Int) (w : World) (hm : RankSt w F a v l) (ha : a = 6) (hl : l.length ≤ 4096) (hp : 1 ≤ p) (hp1 : p ≤ 100000000) :
    Calls Try.prog 30 #[v, .int .i64 p] w fun e w' => e = .returned (.tuple #[.int .i64 (if l = [] then 0 else (srt l).getD (rankK l.length p).toNat 0), .bool (decide (l ≠ []))]) ∧ Below w.heap.size w w' := by
  rcases hm with ⟨_, b, L, rfl, hm, hr, hpm⟩ | ⟨hn, _⟩
  · obtain rfl := srt_eq hr hpm
    rcases l with _ | ⟨x, l⟩
    · refine (rank_By_at_none F b p w hm).mono ?_
      rintro e w' ⟨rfl, rfl⟩
      exact ⟨rfl, Below.refl _ _⟩
    · have hlen := srt_length (x :: l)
      have hk := rankK_bd (x :: l).length p (by simp) hp hp1
      have hx : (srt (x :: l))[(rankK (srt (x :: l)).length p).toNat]? = some ((srt (x :: l)).getD (rankK (x :: l).length p).toNat 0) := by
        rw [hlen, List.getD_eq_getElem?_getD, List.getElem?_eq_getElem (by rw [hlen]; omega)]
        rfl
      rw [if_neg (by simp)]
      refine (rank_By_at F b _ p _ w hm (by rw [hlen]; omega) (by rw [hlen]; simp) hp hp1 hx).mono ?_
      rintro e w' ⟨rfl, hw⟩
      exact ⟨by simp, hw⟩
  · exact absurd ha hn
end Go.Proofs.Ytfhhdlpglfjdgaa
/- Contracts of package window: Read. -/
set_option linter.unusedVariables false
set_option linter.unusedSimpArgs false
namespace Go.Proofs.Ytfhhdlpglfjdgaa
open Go.RowKit

theorem WinAt.come {w : World} {F : Nat → Prop} {g : Nat} {T : WT} {clock : Int} {begun : Bool} {N : Int} {l : List (Int × Int)} (h : WinAt w F g T clock begun N l) (t : Int) (ht : stale begun clock t = false) :
    Calls Try.prog 23 #[.pointer (some ⟨g, 0, none⟩), .int .i64 t] w fun e w' => e = .returned (.int .i64 0) ∧ Fr F w w' ∧ WinAt w' F g T t true N l := by
  obtain ⟨r, F1, F0, h1, h2, h3, h4, h5⟩ := h
  have hg := h2.at.1
  refine (win_come_st F0 g r T clock N _ t begun _ _ w h2 ht).mono ?_
  rintro e w' ⟨rfl, hf, hr⟩
  exact ⟨rfl, hf.mono (fun k hk => by subst hk; exact (h4 _).2 (.inr hg)), r, F1, F0, h1.keep (fun k hk => hf.block k (h1.2.1 k hk) (by rintro rfl; exact h3 _ hk hg)) hf.size, hr, h3, h4, h5⟩

/-- In the midst of Read: the box of the result lies at b. -/
structure ReadMid (F : Nat → Prop) (w wx : World) (F' : Nat → Prop) (g : Nat) (T : WT) (t N : Int) (l : List (Int × Int)) (a b : Int) : Prop where
  fr : Fr F w wx
  ext : Ext F F' w wx
  win : WinAt wx F' g T t true N l
  blk : wx.heap[w.heap.size]? = some (.cells #[.int .i64 a, .int .i64 b] 43 (0, 0))
  out : ¬ F' w.heap.size
theorem ReadMid.below {F : Nat → Prop} {w wx wy : World} {F' : Nat → Prop} {g : Nat} {T : WT} {t N : Int} {l : List (Int × Int)} {a b : Int} (h : ReadMid F w wx F' g T t N l a b) (hb : Below wx.heap.size wx wy) : ReadMid F w wy F' g T t N l a b :=
  ⟨h.fr.trans (Fr.ofBelow (F := F') hb) h.ext, fun k hk => (h.ext k hk).imp id (fun h => ⟨h.1, Nat.lt_of_lt_of_le h.2 hb.size⟩), h.win.below hb, hb_below' h.blk hb, h.out⟩
theorem ReadMid.store {F : Nat → Prop} {w wx : World} {F' : Nat → Prop} {g : Nat} {T : WT} {t N : Int} {l : List (Int × Int)} {a b c d : Int} (h : ReadMid F w wx F' g T t N l a b) :
    ReadMid F w ((wx.setCell ⟨w.heap.size, 0, none⟩ (.int .i64 c)).setCell ⟨w.heap.size, 1, none⟩ (.int .i64 d)) F' g T t N l c d := by
  refine ⟨(h.fr.setCell (p := ⟨w.heap.size, 0, none⟩) (.inr (Nat.le_refl _)) _).setCell (p := ⟨w.heap.size, 1, none⟩) (.inr (Nat.le_refl _)) _, ?_, h.win.keep (fun k hk => ?_) (by simp only [sz_set]; exact Nat.le_refl _), two_set h.blk _ _, h.out⟩
  · intro k hk
    simp only [sz_set]
    exact h.ext k hk
  · have hne : k ≠ w.heap.size := by rintro rfl; exact h.out hk
    rw [Below.heap_setCell _ _ _ _ (by exact hne), Below.heap_setCell _ _ _ _ (by exact hne)]

theorem ring_Len_at (F : Nat → Prop) (g : Nat) (l : List (Int × Int)) (w : World) (hr : RingAt w F g l) : Calls Try.prog 25 #[.pointer (some ⟨g, 0, none⟩)] w fun e w' => e = .returned (.int .i64 l.length) ∧ w' = w := by
  obtain ⟨_, _, frm, L, v, hb, _⟩ := hr
  exact ring_Len g 4096 frm l.length v w hb

theorem wide_Fit_st (g o : Nat) (s : Int) (w : World) (hw : WideAt w g o s) (hs : I128 s) :
    Calls Try.prog 26 #[.pointer (some ⟨g, o, none⟩)] w fun e w' => e = .returned (.tuple #[.int .i64 (if fitB s then s else 0), .bool (fitB s)]) ∧ Below w.heap.size w w' := by
  by_cases h : I64 s
  · have e : fitB s = true := by unfold fitB; unfold I64 at h; simpa using h
    rw [e, if_pos rfl]
    exact wide_Fit_yes g o s w hw h
  · have e : fitB s = false := by unfold fitB; unfold I64 at h; simpa using h
    rw [e, if_neg (by simp)]
    exact wide_Fit_no g o s w hw h hs
theorem wide_Mean_st (g o : Nat) (s : Int) (l : List Int) (w : World) (hw : WideAt w g o s) (hs : s = sumI l) (hl : ∀ x ∈ l, I64 x) (hn : l.length ≤ 4096) :
    Calls Try.prog 29 #[.pointer (some ⟨g, o, none⟩), .int .i64 l.length] w fun e w' => e = .returned (.tuple #[.int .i64 (if l = [] then 0 else sumI l / l.length), .bool (decide (l ≠ []))]) ∧ Below w.heap.size w w' := by
  subst hs
  obtain ⟨b1, b2⟩ := sumI_bd l hl
  rcases l with _ | ⟨x, l⟩
  · refine (wide_Mean_none g o ((([] : List Int).length : Nat) : Int) w (by simp)).mono ?_
    rintro e w' ⟨rfl, rfl⟩
    exact ⟨rfl, Below.refl _ _⟩
  · rw [if_neg (by simp)]
    have h1 : 1 ≤ (((x :: l).length : Nat) : Int) := by simp; omega
    refine (wide_Mean g o _ _ w hw ?_ h1 (by omega) (mean_bd _ _ h1 b1 b2)).mono ?_
    · unfold I128
      have h2 : (((x :: l).length : Nat) : Int) ≤ 4096 := by omega
      constructor
      · have := Int.mul_le_mul_of_nonneg_left h2 (show (0 : Int) ≤ 9223372036854775808 by omega); omega
      · have := Int.mul_le_mul_of_nonneg_left h2 (show (0 : Int) ≤ 9223372036854775807 by omega); omega
    · rintro e w' ⟨rfl, hw⟩
      exact ⟨by simp, hw⟩

set_option maxRecDepth 100000 in
set_option maxHeartbeats 3200000 in
theorem win_Read (F : Nat → Prop) (g : Nat) (T : WT) (clock N t : Int) (begun : Bool) (l : List (Int × Int)) (w : World) (hr : WinAt w F g T clock begun N l) (hT : T.right = true) (hN : N ≤ 4611686018427387904) (ht : stale begun clock t = false) :
    Calls Try.prog 12 #[.pointer (some ⟨g, 0, none⟩), .int .i64 t] w fun e w' => e = .returned (.tuple #[.agg #[.int .i64 (winRead T (vals (fresh t T.s l))).1, .int .i64 (winRead T (vals (fresh t T.s l))).2], .int .i64 0]) ∧ Fr F w w' ∧ ∃ F', Ext F F' w w' ∧ WinAt w' F' g T t true N (fresh t T.s l) := by
  have HR := Lib.hid hr
  have HT := Lib.hid hT
  have HN := Lib.hid hN
  have Ht := Lib.hid ht
  clear hr hT hN ht
  go_enter Try.func12, Try.ntmps12
  go_wp2_with fail
  refine ((HR.out.below (below1 w _)).come t Ht.out).mono ?_
  rintro e w1 ⟨rfl, hf1, hw1⟩
  have HW1 := Lib.hid hw1
  have hnF : ¬ F w.heap.size := fun h => Nat.lt_irrefl _ (HR.out.lt _ h)
  have hb1 := hf1.blk (hb_new w _) hnF
  have hF1 : Fr F w w1 := (Fr.ofBelow (F := F) (below1 w _)).trans hf1 (Ext.refl _ _ _)
  have hs1 : w.heap.size + 1 ≤ w1.heap.size := by simpa using hf1.size
  have HB1 := Lib.hid hb1
  have HF1 := Lib.hid hF1
  have HnF := Lib.hid hnF
  clear hw1 hb1 hF1 hf1 hnF
  go_wp2_with fail
  refine (win_expire F g T t N true l w1 HW1.out HN.out).mono ?_
  rintro e w2 ⟨rfl, hf2, F', hE2, hw2⟩
  have hmid : ReadMid F w w2 F' g T t N (fresh t T.s l) 0 0 := by
    refine ⟨HF1.out.trans hf2 (Ext.refl _ _ _), fun k hk => (hE2 k hk).imp id (fun h => ⟨by omega, h.2⟩), hw2, hf2.blk HB1.out HnF.out, ?_⟩
    intro h
    rcases hE2 _ h with h | h
    · exact HnF.out h
    · omega
  clear hf2 hE2 hw2 HW1 HB1 HF1 HnF hs1
  obtain ⟨l', hl'⟩ : ∃ l', l' = fresh t T.s l := ⟨_, rfl⟩
  rw [← hl'] at hmid
  have Hl' := Lib.hid hl'
  clear hl' HR
  obtain ⟨r, F1, F0, hring, hrest, hdis, hF', hxs⟩ := hmid.win
  obtain ⟨_, _, _, hblk⟩ := hrest.at
  have c0 := hb_cell hblk 0
  have c2 := hb_cell hblk 2
  have c4 := hb_cell hblk 4
  simp only [List.getElem?_toArray, List.getElem?_cons_zero, List.getElem?_cons_succ] at c0 c2 c4
  have hlen := hring.len
  have HMid := Lib.hid hmid
  have HRing := Lib.hid hring
  have HRest := Lib.hid hrest
  have Hxs := Lib.hid hxs
  have Hlen := Lib.hid hlen
  clear hmid hring hrest hdis hF' hxs hblk hlen
  go_wp2_with fail
  refine (ring_Len_at F1 r l' w2 HRing.out).mono ?_
  rintro e w3 ⟨rfl, rfl⟩
  have ha : T.a = 1 ∨ T.a = 2 ∨ T.a = 3 ∨ T.a = 4 ∨ T.a = 5 ∨ T.a = 6 := by
    have := HT.out
    simp only [WT.right, decide_eq_true_eq] at this
    omega
  obtain ⟨a, hTa⟩ : ∃ a, a = T.a := ⟨_, rfl⟩
  rw [← hTa] at ha c2
  have HTa := Lib.hid hTa
  clear hTa
  rcases ha with rfl | rfl | rfl | rfl | rfl | rfl
  · obtain ⟨v, hv⟩ : ∃ v, v = (if fitB (sumI (vals l')) then sumI (vals l') else 0) := ⟨_, rfl⟩
    obtain ⟨ok, hok⟩ : ∃ ok, ok = (fitB (sumI (vals l'))) := ⟨_, rfl⟩
    have h128 : I128 (sumI (vals l')) := by
      have hxs : ∀ y ∈ vals l', I64 y := by intro y hy; obtain ⟨z, hz, rfl⟩ := List.mem_map.1 hy; exact (Hxs.out z hz).2
      obtain ⟨b1, b2⟩ := sumI_bd (vals l') hxs
      have := Hlen.out
      have h3 : ((vals l').length : Int) ≤ 4096 := by simp [vals]; omega
      unfold I128
      constructor
      · have := Int.mul_le_mul_of_nonneg_left h3 (show (0 : Int) ≤ 9223372036854775808 by omega); omega
      · have := Int.mul_le_mul_of_nonneg_left h3 (show (0 : Int) ≤ 9223372036854775807 by omega); omega
    have HM3 := HMid
    have hC := wide_Fit_st g 7 _ w3 HRest.out.wide h128
    rw [← hv, ← hok] at hC
    obtain ⟨X, hX⟩ : ∃ X, X = (if ok then 0 else (3 : Int)) := ⟨_, rfl⟩
    obtain ⟨Y, hY⟩ : ∃ Y, Y = (if ok then v else (0 : Int)) := ⟨_, rfl⟩
    have hTo := fun w => win_told v 3 ok w
    rw [← hX, ← hY] at hTo
    have HC := Lib.hid hC
    have HTo := Lib.hid hTo
    have Hv := Lib.hid hv
    have Hok := Lib.hid hok
    have HX := Lib.hid hX
    have HY := Lib.hid hY
    clear h128 hC hTo hv hok hX hY
    go_wp2_with fail
    refine HC.out.mono ?_
    rintro e w4 ⟨rfl, hb4⟩
    have HB4 := Lib.hid hb4
    clear hb4
    go_wp2_with fail
    refine (HTo.out w4).mono ?_
    rintro e w5 ⟨rfl, hb5⟩
    have hm5 := HM3.out.below (below_up HB4.out hb5)
    have hm6 := hm5.store (c := X) (d := Y)
    obtain ⟨q0, q1, q2, q3⟩ := hb2 hm5.blk
    obtain ⟨y0, y1, _, _⟩ := hb2 hm6.blk
    have HM6 := Lib.hid hm6
    clear hm5 hm6 hb5
    go_wp2_with fail
    refine bodyPost_ret (v := .tuple #[.agg #[.int .i64 X, .int .i64 Y], .int .i64 0]) (by simp [results, Try.results12, y0, y1, go_sem]) rfl ⟨?_, HM6.out.fr, F', HM6.out.ext, by rw [← Hl'.out]; exact HM6.out.win⟩
    rw [← Hl'.out]
    have e1 : winRead T (vals l') = (X, Y) := by
      rw [HX.out, HY.out, Hv.out, Hok.out]
      unfold winRead
      rw [← HTa.out]
      cases fitB (sumI (vals l')) <;> simp
    rw [e1]
  · obtain ⟨v, hv⟩ : ∃ v, v = (if vals l' = [] then 0 else sumI (vals l') / (vals l').length) := ⟨_, rfl⟩
    obtain ⟨ok, hok⟩ : ∃ ok, ok = (decide (vals l' ≠ [])) := ⟨_, rfl⟩
    have hxs : ∀ y ∈ vals l', I64 y := by intro y hy; obtain ⟨z, hz, rfl⟩ := List.mem_map.1 hy; exact (Hxs.out z hz).2
    have hvl : (vals l').length ≤ 4096 := by have := Hlen.out; simp [vals]; omega
    have hvn : (vals l').length = l'.length := by simp [vals]
    have HM3 := HMid
    have hC := wide_Mean_st g 7 _ (vals l') w3 HRest.out.wide rfl hxs hvl
    rw [← hv, ← hok] at hC
    obtain ⟨X, hX⟩ : ∃ X, X = (if ok then 0 else (1 : Int)) := ⟨_, rfl⟩
    obtain ⟨Y, hY⟩ : ∃ Y, Y = (if ok then v else (0 : Int)) := ⟨_, rfl⟩
    have hTo := fun w => win_told v 1 ok w
    rw [← hX, ← hY] at hTo
    rw [hvn] at hC
    have HC := Lib.hid hC
    have HTo := Lib.hid hTo
    have Hv := Lib.hid hv
    have Hok := Lib.hid hok
    have HX := Lib.hid hX
    have HY := Lib.hid hY
    clear hxs hvl hvn hC hTo hv hok hX hY
    go_wp2_with fail
    refine HC.out.mono ?_
    rintro e w4 ⟨rfl, hb4⟩
    have HB4 := Lib.hid hb4
    clear hb4
    go_wp2_with fail
    refine (HTo.out w4).mono ?_
    rintro e w5 ⟨rfl, hb5⟩
    have hm5 := HM3.out.below (below_up HB4.out hb5)
    have hm6 := hm5.store (c := X) (d := Y)
    obtain ⟨q0, q1, q2, q3⟩ := hb2 hm5.blk
    obtain ⟨y0, y1, _, _⟩ := hb2 hm6.blk
    have HM6 := Lib.hid hm6
    clear hm5 hm6 hb5
    go_wp2_with fail
    refine bodyPost_ret (v := .tuple #[.agg #[.int .i64 X, .int .i64 Y], .int .i64 0]) (by simp [results, Try.results12, y0, y1, go_sem]) rfl ⟨?_, HM6.out.fr, F', HM6.out.ext, by rw [← Hl'.out]; exact HM6.out.win⟩
    rw [← Hl'.out]
    have e1 : winRead T (vals l') = (X, Y) := by
      rw [HX.out, HY.out, Hv.out, Hok.out]
      unfold winRead
      rw [← HTa.out]
      by_cases h : vals l' = [] <;> simp [h]
    rw [e1]
  · obtain ⟨v, hv⟩ : ∃ v, v = (if vals l' = [] then 0 else mbest (decide (T.a = 4)) (vals l')) := ⟨_, rfl⟩
    obtain ⟨ok, hok⟩ : ∃ ok, ok = (decide (vals l' ≠ [])) := ⟨_, rfl⟩
    obtain ⟨best, F2, c9, hb9, _⟩ := HRest.out.best
    have HM3 := HMid
    have hC := mono_Best_st F2 T.a N best (vals l') w3 hb9 (by rw [← HTa.out]; decide) HN.out
    rw [← hv, ← hok] at hC
    obtain ⟨X, hX⟩ : ∃ X, X = (if ok then 0 else (1 : Int)) := ⟨_, rfl⟩
    obtain ⟨Y, hY⟩ : ∃ Y, Y = (if ok then v else (0 : Int)) := ⟨_, rfl⟩
    have hTo := fun w => win_told v 1 ok w
    rw [← hX, ← hY] at hTo
    have HC := Lib.hid hC
    have HTo := Lib.hid hTo
    have Hv := Lib.hid hv
    have Hok := Lib.hid hok
    have HX := Lib.hid hX
    have HY := Lib.hid hY
    clear hb9 hC hTo hv hok hX hY
    go_wp2_with fail
    refine HC.out.mono ?_
    rintro e w4 ⟨rfl, hb4⟩
    have HB4 := Lib.hid hb4
    clear hb4
    go_wp2_with fail
    refine (HTo.out w4).mono ?_
    rintro e w5 ⟨rfl, hb5⟩
    have hm5 := HM3.out.below (below_up HB4.out hb5)
    have hm6 := hm5.store (c := X) (d := Y)
    obtain ⟨q0, q1, q2, q3⟩ := hb2 hm5.blk
    obtain ⟨y0, y1, _, _⟩ := hb2 hm6.blk
    have HM6 := Lib.hid hm6
    clear hm5 hm6 hb5
    go_wp2_with fail
    refine bodyPost_ret (v := .tuple #[.agg #[.int .i64 X, .int .i64 Y], .int .i64 0]) (by simp [results, Try.results12, y0, y1, go_sem]) rfl ⟨?_, HM6.out.fr, F', HM6.out.ext, by rw [← Hl'.out]; exact HM6.out.win⟩
    rw [← Hl'.out]
    have e1 : winRead T (vals l') = (X, Y) := by
      rw [HX.out, HY.out, Hv.out, Hok.out]
      unfold winRead
      rw [← HTa.out]
      by_cases h : vals l' = [] <;> simp [h]
    rw [e1]
  · obtain ⟨v, hv⟩ : ∃ v, v = (if vals l' = [] then 0 else mbest (decide (T.a = 4)) (vals l')) := ⟨_, rfl⟩
    obtain ⟨ok, hok⟩ : ∃ ok, ok = (decide (vals l' ≠ [])) := ⟨_, rfl⟩
    obtain ⟨best, F2, c9, hb9, _⟩ := HRest.out.best
    have HM3 := HMid
    have hC := mono_Best_st F2 T.a N best (vals l') w3 hb9 (by rw [← HTa.out]; decide) HN.out
    rw [← hv, ← hok] at hC
    obtain ⟨X, hX⟩ : ∃ X, X = (if ok then 0 else (1 : Int)) := ⟨_, rfl⟩
    obtain ⟨Y, hY⟩ : ∃ Y, Y = (if ok then v else (0 : Int)) := ⟨_, rfl⟩
    have hTo := fun w => win_told v 1 ok w
    rw [← hX, ← hY] at hTo
    have HC := Lib.hid hC
    have HTo := Lib.hid hTo
    have Hv := Lib.hid hv
    have Hok := Lib.hid hok
    have HX := Lib.hid hX
    have HY := Lib.hid hY
    clear hb9 hC hTo hv hok hX hY
    go_wp2_with fail
    refine HC.out.mono ?_
    rintro e w4 ⟨rfl, hb4⟩
    have HB4 := Lib.hid hb4
    clear hb4
    go_wp2_with fail
    refine (HTo.out w4).mono ?_
    rintro e w5 ⟨rfl, hb5⟩
    have hm5 := HM3.out.below (below_up HB4.out hb5)
    have hm6 := hm5.store (c := X) (d := Y)
    obtain ⟨q0, q1, q2, q3⟩ := hb2 hm5.blk
    obtain ⟨y0, y1, _, _⟩ := hb2 hm6.blk
    have HM6 := Lib.hid hm6
    clear hm5 hm6 hb5
    go_wp2_with fail
    refine bodyPost_ret (v := .tuple #[.agg #[.int .i64 X, .int .i64 Y], .int .i64 0]) (by simp [results, Try.results12, y0, y1, go_sem]) rfl ⟨?_, HM6.out.fr, F', HM6.out.ext, by rw [← Hl'.out]; exact HM6.out.win⟩
    rw [← Hl'.out]
    have e1 : winRead T (vals l') = (X, Y) := by
      rw [HX.out, HY.out, Hv.out, Hok.out]
      unfold winRead
      rw [← HTa.out]
      by_cases h : vals l' = [] <;> simp [h]
    rw [e1]
  · have hW := fun w => fix_Whole l'.length w (by have := Hlen.out; unfold I64; omega)
    have HW := Lib.hid hW
    have HM3 := HMid
    obtain ⟨Y, hY⟩ : ∃ Y, Y = fWhole l'.length := ⟨_, rfl⟩
    rw [← hY] at HW
    have HY := Lib.hid hY
    clear hW hY
    go_wp2_with fail
    refine (HW.out _).mono ?_
    rintro e w5 ⟨rfl, hb5⟩
    have hm5 := HM3.out.below hb5
    have hm6 := hm5.store (c := 0) (d := Y)
    obtain ⟨q0, q1, q2, q3⟩ := hb2 hm5.blk
    obtain ⟨y0, y1, _, _⟩ := hb2 hm6.blk
    have HM6 := Lib.hid hm6
    clear hm5 hm6 hb5
    go_wp2_with fail
    refine bodyPost_ret (v := .tuple #[.agg #[.int .i64 0, .int .i64 Y], .int .i64 0]) (by simp [results, Try.results12, y0, y1, go_sem]) rfl ⟨?_, HM6.out.fr, F', HM6.out.ext, by rw [← Hl'.out]; exact HM6.out.win⟩
    rw [← Hl'.out]
    have e1 : winRead T (vals l') = (0, Y) := by
      rw [HY.out]
      unfold winRead
      rw [← HTa.out]
      simp [vals]
    rw [e1]
  · obtain ⟨v, hv⟩ : ∃ v, v = (if vals l' = [] then 0 else (srt (vals l')).getD (rankK (vals l').length T.p).toNat 0) := ⟨_, rfl⟩
    obtain ⟨ok, hok⟩ : ∃ ok, ok = (decide (vals l' ≠ [])) := ⟨_, rfl⟩
    obtain ⟨order, F3, c10, hb9, _⟩ := HRest.out.order
    have hvl : (vals l').length ≤ 4096 := by have := Hlen.out; simp [vals]; omega
    have hp : 1 ≤ T.p ∧ T.p ≤ 100000000 := by
      have h1 := HT.out
      have h2 := HTa.out
      simp only [WT.right, decide_eq_true_eq] at h1
      omega
    have HM3 := HMid
    have hC := fun (W : World) (hW : Below w3.heap.size w3 W) => rank_By_st F3 T.a T.p order (vals l') W (hb9.keep (fun k hk => hW.block k (hb9.lt k hk)) hW.size) HTa.out.symm hvl hp.1 hp.2
    simp only [← hv, ← hok] at hC
    obtain ⟨X, hX⟩ : ∃ X, X = (if ok then 0 else (1 : Int)) := ⟨_, rfl⟩
    obtain ⟨Y, hY⟩ : ∃ Y, Y = (if ok then v else (0 : Int)) := ⟨_, rfl⟩
    have hTo := fun w => win_told v 1 ok w
    rw [← hX, ← hY] at hTo
    have HC := Lib.hid hC
    have HTo := Lib.hid hTo
    have Hv := Lib.hid hv
    have Hok := Lib.hid hok
    have HX := Lib.hid hX
    have HY := Lib.hid hY
    clear hb9 hvl hp hC hTo hv hok hX hY
    go_upto_region 16 with fail
    go_cut [12, 13] (fun x y wx => x = .int .i64 v ∧ y = .bool ok ∧ Below w3.heap.size w3 wx)
    case first =>
      have HC' : Hid (∀ W, Below w3.heap.size w3 W → Calls Try.prog 30 #[order, .int .i64 T.p] W fun e w' => e = .returned (.tuple #[.int .i64 v, .bool ok]) ∧ Below w3.heap.size w3 w') := Lib.hid (fun W hW => (HC.out W hW).mono (fun e w' h => ⟨h.1, hW.trans (h.2.mono hW.size)⟩))
      go_region_with (first | (refine (HC'.out _ ?hbb).mono ?_; (case hbb => first | exact Below.refl _ _ | exact (Below.refl _ _).drew); rintro e w4 ⟨rfl, hb4⟩))
      all_goals go_wp2_with fail
      all_goals go_meet
      all_goals first | exact ⟨rfl, rfl, hb4⟩ | exact ⟨rfl, rfl, hb4.drew⟩
    case rest =>
    obtain ⟨rfl, rfl, hb4⟩ := hcut
    have HB4 := Lib.hid hb4
    clear hb4
    go_wp2_with fail
    refine (HTo.out _).mono ?_
    rintro e w5 ⟨rfl, hb5⟩
    have hm5 := HM3.out.below (below_up HB4.out hb5)
    have hm6 := hm5.store (c := X) (d := Y)
    obtain ⟨q0, q1, q2, q3⟩ := hb2 hm5.blk
    obtain ⟨y0, y1, _, _⟩ := hb2 hm6.blk
    have HM6 := Lib.hid hm6
    clear hm5 hm6 hb5
    go_wp2_with fail
    refine bodyPost_ret (v := .tuple #[.agg #[.int .i64 X, .int .i64 Y], .int .i64 0]) (by simp [results, Try.results12, y0, y1, go_sem]) rfl ⟨?_, HM6.out.fr, F', HM6.out.ext, by rw [← Hl'.out]; exact HM6.out.win⟩
    rw [← Hl'.out]
    have e1 : winRead T (vals l') = (X, Y) := by
      rw [HX.out, HY.out, Hv.out, Hok.out]
      unfold winRead
      rw [← HTa.out]
      by_cases h : vals l' = [] <;> simp [h]
    rw [e1]
end Go.Proofs.Ytfhhdlpglfjdgaa
/- Contracts of package window: New. -/
set_option linter.unusedVariables false
set_option linter.unusedSimpArgs false
namespace Go.Proofs.Ytfhhdlpglfjdgaa
open Go.RowKit

theorem win_New_no (T : WT) (w : World) (hT : T.right = false) :
    Calls Try.prog 7 #[.agg #[.int .i64 T.m, .int .i64 T.a, .int .i64 T.s, .int .i64 T.p]] w fun e w' => e = .returned (.tuple #[.pointer none, .int .i64 3]) ∧ Below w.heap.size w w' := by
  have h1 := fun w => win_Right T w
  rw [hT] at h1
  have H1 := Lib.hid h1
  clear h1
  go_enter Try.func7, Try.ntmps7
  go_wp2_with fail
  refine (H1.out _).mono ?_
  rintro e w1 ⟨rfl, hb⟩
  go_wp2
  go_ret2
  exact ⟨rfl, below_up (below1 _ _) hb⟩

/-- The block of a new window. -/
def newCells (r : Nat) (T : WT) (best order : Value) : Array Value := #[.pointer (some ⟨r, 0, none⟩), .int .i64 T.m, .int .i64 T.a, .int .i64 T.s, .int .i64 T.p, .int .i64 0, .bool false, .int .u64 0, .int .u64 0, best, order]

/-- What New leaves, where neither mono nor rank is asked. -/
theorem New.fin {w W : World} {r : Nat} {T : WT} {a : Int} (ha : a = T.a) (hwr : w.heap.size ≤ r) (hr : W.heap[r]? = some (.cells #[.int .i64 4096, .int .i64 0, .int .i64 0, .slice none 0 0] 80 (0, 0))) (hB : Below w.heap.size w W) (hs : W.heap.size = r + 1) (h3 : ¬ (a = 3 ∨ a = 4)) (h6 : ¬ a = 6) :
    ∃ g F, Ending.returned (.tuple #[.pointer (some ⟨W.heap.size, 0, none⟩), .int .i64 0]) = .returned (.tuple #[.pointer (some ⟨g, 0, none⟩), .int .i64 0]) ∧ Below w.heap.size w (W.alloc (.cells #[.pointer (some ⟨r, 0, none⟩), .int .i64 T.m, .int .i64 a, .int .i64 T.s, .int .i64 T.p, .int .i64 0, .bool false, .int .u64 0, .int .u64 0, .pointer none, .pointer none] 60)) ∧
      WinAt (W.alloc (.cells #[.pointer (some ⟨r, 0, none⟩), .int .i64 T.m, .int .i64 a, .int .i64 T.s, .int .i64 T.p, .int .i64 0, .bool false, .int .u64 0, .int .u64 0, .pointer none, .pointer none] 60)) F g T 0 false 0 [] ∧ ∀ k, F k → w.heap.size ≤ k := by
  subst ha
  refine ⟨W.heap.size, fun k => k = r ∨ k = W.heap.size, rfl, hB.alloc (by omega) _, ⟨r, fun k => k = r, fun k => k = W.heap.size, ⟨rfl, ?_, 0, 0, .slice none 0 0, hb_alloc hr _, .inl ⟨rfl, rfl, rfl⟩⟩, ⟨.pointer none, .pointer none, fun _ => False, fun _ => False, hb_new _ _, .inr ⟨h3, rfl, fun _ h => h⟩, .inr ⟨h6, rfl, fun _ h => h⟩, fun h => h, fun h => h, fun _ h => h.elim, fun k => by simp⟩, ?_, fun k => Iff.rfl, ?_⟩, ?_⟩
  · rintro k rfl; simp; omega
  · rintro k rfl; omega
  · intro x hx; simp at hx
  · rintro k (rfl | rfl) <;> omega

theorem New.mono {w W : World} {r : Nat} {T : WT} {a : Int} (ha : a = T.a) (hwr : w.heap.size ≤ r) (hr : W.heap[r]? = some (.cells #[.int .i64 4096, .int .i64 0, .int .i64 0, .slice none 0 0] 80 (0, 0))) (hB : Below w.heap.size w W) (hs : W.heap.size = r + 1) {high : Bool} (h3 : a = 3 ∨ a = 4) (h4 : high = decide (a = 4)) (h6 : ¬ a = 6) :
    ∃ g F, Ending.returned (.tuple #[.pointer (some ⟨W.heap.size, 0, none⟩), .int .i64 0]) = .returned (.tuple #[.pointer (some ⟨g, 0, none⟩), .int .i64 0]) ∧ Below w.heap.size w ((W.alloc (.cells #[.pointer (some ⟨r, 0, none⟩), .int .i64 T.m, .int .i64 a, .int .i64 T.s, .int .i64 T.p, .int .i64 0, .bool false, .int .u64 0, .int .u64 0, (.pointer (some ⟨W.heap.size + 1, 0, none⟩)), (.pointer none)] 60)).alloc (.cells #[.bool high, .int .i64 0, .int .i64 0, .slice none 0 0] 83)) ∧
      WinAt ((W.alloc (.cells #[.pointer (some ⟨r, 0, none⟩), .int .i64 T.m, .int .i64 a, .int .i64 T.s, .int .i64 T.p, .int .i64 0, .bool false, .int .u64 0, .int .u64 0, (.pointer (some ⟨W.heap.size + 1, 0, none⟩)), (.pointer none)] 60)).alloc (.cells #[.bool high, .int .i64 0, .int .i64 0, .slice none 0 0] 83)) F g T 0 false 0 [] ∧ ∀ k, F k → w.heap.size ≤ k := by
  have hn := hb_new (W.alloc (.cells #[.pointer (some ⟨r, 0, none⟩), .int .i64 T.m, .int .i64 a, .int .i64 T.s, .int .i64 T.p, .int .i64 0, .bool false, .int .u64 0, .int .u64 0, (.pointer (some ⟨W.heap.size + 1, 0, none⟩)), (.pointer none)] 60)) (.cells #[.bool high, .int .i64 0, .int .i64 0, .slice none 0 0] 83)
  simp only [World.size_alloc] at hn
  subst ha
  refine ⟨W.heap.size, fun k => k = r ∨ (k = W.heap.size ∨ k = W.heap.size + 1), rfl, (hB.alloc (by omega) _).alloc (by simp; omega) _, ⟨r, fun k => k = r, fun k => k = W.heap.size ∨ k = W.heap.size + 1, ⟨rfl, ?_, 0, 0, .slice none 0 0, hb_alloc (hb_alloc hr _) _, .inl ⟨rfl, rfl, rfl⟩⟩, ⟨(.pointer (some ⟨W.heap.size + 1, 0, none⟩)), (.pointer none), (fun k => k = W.heap.size + 1), (fun _ => False), hb_alloc (hb_new _ _) _, .inl ⟨h3, W.heap.size + 1, 0, rfl, ⟨rfl, by rintro k rfl; simp, .slice none 0 0, by rw [← h4]; exact hn, RowQ.nil _ _ _ _, by simp [Value.ownBlock], by simp [Value.ownBlock]⟩, by simp [vals], Int.le_refl _⟩, .inr ⟨h6, rfl, fun _ h => h⟩, ?_, ?_, ?_, fun k => by simp⟩, ?_, fun k => Iff.rfl, ?_⟩, ?_⟩
  · rintro k rfl; simp; omega
  · intro h; (try exact h); (try omega)
  · intro h; (try exact h); (try omega)
  · intro k h h'; first | exact h.elim | exact h'.elim
  · rintro k rfl; omega
  · intro x hx; simp at hx
  · rintro k (rfl | rfl | rfl) <;> omega

theorem New.rank {w W : World} {r : Nat} {T : WT} {a : Int} (ha : a = T.a) (hwr : w.heap.size ≤ r) (hr : W.heap[r]? = some (.cells #[.int .i64 4096, .int .i64 0, .int .i64 0, .slice none 0 0] 80 (0, 0))) (hB : Below w.heap.size w W) (hs : W.heap.size = r + 1) (h3 : ¬ (a = 3 ∨ a = 4)) (h6 : a = 6) :
    ∃ g F, Ending.returned (.tuple #[.pointer (some ⟨W.heap.size, 0, none⟩), .int .i64 0]) = .returned (.tuple #[.pointer (some ⟨g, 0, none⟩), .int .i64 0]) ∧ Below w.heap.size w ((W.alloc (.cells #[.pointer (some ⟨r, 0, none⟩), .int .i64 T.m, .int .i64 a, .int .i64 T.s, .int .i64 T.p, .int .i64 0, .bool false, .int .u64 0, .int .u64 0, (.pointer none), (.pointer (some ⟨W.heap.size + 1, 0, none⟩))] 60)).alloc (.cells #[.slice none 0 0] 86)) ∧
      WinAt ((W.alloc (.cells #[.pointer (some ⟨r, 0, none⟩), .int .i64 T.m, .int .i64 a, .int .i64 T.s, .int .i64 T.p, .int .i64 0, .bool false, .int .u64 0, .int .u64 0, (.pointer none), (.pointer (some ⟨W.heap.size + 1, 0, none⟩))] 60)).alloc (.cells #[.slice none 0 0] 86)) F g T 0 false 0 [] ∧ ∀ k, F k → w.heap.size ≤ k := by
  have hn := hb_new (W.alloc (.cells #[.pointer (some ⟨r, 0, none⟩), .int .i64 T.m, .int .i64 a, .int .i64 T.s, .int .i64 T.p, .int .i64 0, .bool false, .int .u64 0, .int .u64 0, (.pointer none), (.pointer (some ⟨W.heap.size + 1, 0, none⟩))] 60)) (.cells #[.slice none 0 0] 86)
  simp only [World.size_alloc] at hn
  subst ha
  refine ⟨W.heap.size, fun k => k = r ∨ (k = W.heap.size ∨ k = W.heap.size + 1), rfl, (hB.alloc (by omega) _).alloc (by simp; omega) _, ⟨r, fun k => k = r, fun k => k = W.heap.size ∨ k = W.heap.size + 1, ⟨rfl, ?_, 0, 0, .slice none 0 0, hb_alloc (hb_alloc hr _) _, .inl ⟨rfl, rfl, rfl⟩⟩, ⟨(.pointer none), (.pointer (some ⟨W.heap.size + 1, 0, none⟩)), (fun _ => False), (fun k => k = W.heap.size + 1), hb_alloc (hb_new _ _) _, .inr ⟨h3, rfl, fun _ h => h⟩, .inl ⟨h6, W.heap.size + 1, [], rfl, ⟨rfl, by rintro k rfl; simp, .slice none 0 0, hn, RowQ.nil _ _ _ _, by simp [Value.ownBlock], by simp [Value.ownBlock]⟩, fun i j x y _ hx => by simp at hx, List.Perm.refl _⟩, ?_, ?_, ?_, fun k => by simp⟩, ?_, fun k => Iff.rfl, ?_⟩, ?_⟩
  · rintro k rfl; simp; omega
  · intro h; (try exact h); (try omega)
  · intro h; (try exact h); (try omega)
  · intro k h h'; first | exact h.elim | exact h'.elim
  · rintro k rfl; omega
  · intro x hx; simp at hx
  · rintro k (rfl | rfl | rfl) <;> omega

set_option maxRecDepth 100000 in
set_option maxHeartbeats 1600000 in
theorem win_New (T : WT) (w : World) (hT : T.right = true) :
    Calls Try.prog 7 #[.agg #[.int .i64 T.m, .int .i64 T.a, .int .i64 T.s, .int .i64 T.p]] w fun e w' => ∃ g F, e = .returned (.tuple #[.pointer (some ⟨g, 0, none⟩), .int .i64 0]) ∧ Below w.heap.size w w' ∧ WinAt w' F g T 0 false 0 [] ∧ ∀ k, F k → w.heap.size ≤ k := by
  have h1 := fun w => win_Right T w
  rw [hT] at h1
  have H1 := Lib.hid h1
  have HT := Lib.hid hT
  clear h1 hT
  go_enter Try.func7, Try.ntmps7
  go_wp2_with fail
  refine (H1.out _).mono ?_
  rintro e w1 ⟨rfl, hb1⟩
  have hBW : Below w.heap.size w w1 := below_up (below1 _ _) hb1
  have hs := hb_below' (hb_new w (.cells #[.int .i64 T.m, .int .i64 T.a, .int .i64 T.s, .int .i64 T.p] 23)) hb1
  have HBW := Lib.hid hBW
  have HS := Lib.hid hs
  have hlt : w.heap.size < w1.heap.size := hb_lt hs
  have k0 := hb_cell hs 0
  have k1 := hb_cell hs 1
  have k2 := hb_cell hs 2
  have k3 := hb_cell hs 3
  simp only [List.getElem?_toArray, List.getElem?_cons_zero, List.getElem?_cons_succ] at k0 k1 k2 k3
  have ha : T.a = 1 ∨ T.a = 2 ∨ T.a = 3 ∨ T.a = 4 ∨ T.a = 5 ∨ T.a = 6 := by
    have := HT.out
    simp only [WT.right, decide_eq_true_eq] at this
    omega
  obtain ⟨a, hTa⟩ : ∃ a, a = T.a := ⟨_, rfl⟩
  have HTa := Lib.hid hTa
  clear hBW hs hb1
  rw [← hTa] at k1 ha
  clear hTa
  go_wp2_with fail
  refine (ring_New w1).mono ?_
  rintro e w1' ⟨rfl, rfl⟩
  obtain ⟨W, hW⟩ : ∃ W, W = w1.alloc (.cells #[.int .i64 4096, .int .i64 0, .int .i64 0, .slice none 0 0] 80) := ⟨_, rfl⟩
  have d0 : W.cell? ⟨w.heap.size, 0, none⟩ = some (.int .i64 T.m) := by rw [hW]; exact cell_alloc hlt k0
  have d1 : W.cell? ⟨w.heap.size, 1, none⟩ = some (.int .i64 a) := by rw [hW]; exact cell_alloc hlt k1
  have d2 : W.cell? ⟨w.heap.size, 2, none⟩ = some (.int .i64 T.s) := by rw [hW]; exact cell_alloc hlt k2
  have d3 : W.cell? ⟨w.heap.size, 3, none⟩ = some (.int .i64 T.p) := by rw [hW]; exact cell_alloc hlt k3
  have hWs : W.heap.size = w1.heap.size + 1 := by rw [hW]; simp
  have hr : W.heap[w1.heap.size]? = some (.cells #[.int .i64 4096, .int .i64 0, .int .i64 0, .slice none 0 0] 80 (0, 0)) := by rw [hW]; exact hb_new _ _
  have hB : Below w.heap.size w W := by rw [hW]; exact HBW.out.alloc (by omega) _
  obtain ⟨r, hrn⟩ : ∃ r, r = w1.heap.size := ⟨_, rfl⟩
  have hlt2 : w.heap.size < W.heap.size := by omega
  have hwr : w.heap.size ≤ r := by omega
  rw [← hW]
  rw [← hrn] at hr hWs
  rw [← hrn]
  have Hr := Lib.hid hr
  have HB := Lib.hid hB
  have HWs := Lib.hid hWs
  clear hr hB hWs hW hrn k0 k1 k2 k3 HS HBW hlt
  rcases ha with rfl | rfl | rfl | rfl | rfl | rfl
  · go_wp2_with fail
    go_ret2
    exact New.fin HTa.out hwr Hr.out HB.out HWs.out (by omega) (by omega)
  · go_wp2_with fail
    go_ret2
    exact New.fin HTa.out hwr Hr.out HB.out HWs.out (by omega) (by omega)
  · go_wp2_with fail
    refine (mono_New false _).mono ?_
    rintro e w5 ⟨rfl, rfl⟩
    go_wp2_with fail
    go_ret2
    exact New.mono HTa.out hwr Hr.out HB.out HWs.out (by omega) (by decide) (by omega)
  · go_wp2_with fail
    refine (mono_New true _).mono ?_
    rintro e w5 ⟨rfl, rfl⟩
    go_wp2_with fail
    go_ret2
    exact New.mono HTa.out hwr Hr.out HB.out HWs.out (by omega) (by decide) (by omega)
  · go_wp2_with fail
    go_ret2
    exact New.fin HTa.out hwr Hr.out HB.out HWs.out (by omega) (by omega)
  · go_wp2_with fail
    refine (rank_New _).mono ?_
    rintro e w5 ⟨rfl, rfl⟩
    go_wp2_with fail
    go_ret2
    exact New.rank HTa.out hwr Hr.out HB.out HWs.out (by omega) (by omega)
end Go.Proofs.Ytfhhdlpglfjdgaa
/- The laws of chapter 08: awake. -/
set_option linter.unusedVariables false
set_option linter.unusedSimpArgs false
namespace Go.Proofs.Ytfhhdlpglfjdgaa
open Go.RowKit

theorem Fr.below {F : Nat → Prop} {a b : World} {B : Nat} (h : Fr F a b) (hF : ∀ k, F k → B ≤ k) (hB : B ≤ a.heap.size) : Below B a b :=
  ⟨h.os, h.tape, h.output, h.size, fun k hk => h.block k (by omega) (fun hf => by have := hF k hf; omega)⟩
theorem awake_fresh : winRead ⟨0, 1, 10, 0⟩ (vals (fresh 10 10 (pushL (pushL [] (0, 5)) (4, 6)))) = (0, 6) := by decide

set_option maxRecDepth 100000 in
set_option maxHeartbeats 1600000 in
theorem law_awake (w : World) : Calls Try.prog 6 #[] w fun e w' => e = .returned (.bool true) ∧ Below w.heap.size w w' := by
  have h1 := fun w => win_New ⟨0, 1, 10, 0⟩ w (by decide)
  have H1 := Lib.hid h1
  clear h1
  go_enter Try.func6, Try.ntmps6
  go_wp2_with fail
  refine (H1.out w).mono ?_
  rintro e w1 ⟨g, F, rfl, hb1, hw1, hF⟩
  have h2 := win_Put F g ⟨0, 1, 10, 0⟩ 0 0 false [] (0, 5) w1 hw1 (by decide) (by unfold I64; decide) rfl
  have H2 := Lib.hid h2
  have HB1 := Lib.hid hb1
  have HF := Lib.hid hF
  clear h2 hb1 hw1 hF
  go_wp2_with fail
  refine H2.out.mono ?_
  rintro e w2 ⟨rfl, hf2, F2, hE2, hw2⟩
  have h3 := win_Put F2 g ⟨0, 1, 10, 0⟩ 0 1 true (pushL [] (0, 5)) (4, 6) w2 hw2 (by decide) (by unfold I64; decide) rfl
  have H3 := Lib.hid h3
  have HF2 := Lib.hid hf2
  have HE2 := Lib.hid hE2
  clear h3 hf2 hE2 hw2 H2
  go_wp2_with fail
  refine H3.out.mono ?_
  rintro e w3 ⟨rfl, hf3, F3, hE3, hw3⟩
  have h4 := win_Read F3 g ⟨0, 1, 10, 0⟩ 4 2 10 true (pushL (pushL [] (0, 5)) (4, 6)) w3 hw3 (by decide) (by decide) rfl
  rw [awake_fresh] at h4
  have H4 := Lib.hid h4
  have HF3 := Lib.hid hf3
  have HE3 := Lib.hid hE3
  clear h4 hf3 hE3 hw3 H3
  go_wp2_with fail
  refine H4.out.mono ?_
  rintro e w4 ⟨rfl, hf4, _⟩
  have HF4 := Lib.hid hf4
  clear hf4 H4
  go_wp2_with fail
  go_ret
  refine ⟨rfl, ?_⟩
  have hs1 := HB1.out.size
  have f3 : Fr F w1 w3 := HF2.out.trans HF3.out HE2.out
  have f4 : Fr F w1 w4 := f3.trans HF4.out (HE2.out.trans HE3.out HF2.out.size HF3.out.size)
  have b4 : Below w.heap.size w w4 := HB1.out.trans (f4.below HF.out hs1)
  exact b4.alloc b4.size _
end Go.Proofs.Ytfhhdlpglfjdgaa
/- The laws of chapter 08: WindowNil. -/
set_option linter.unusedVariables false
set_option linter.unusedSimpArgs false
namespace Go.Proofs.Ytfhhdlpglfjdgaa
open Go.RowKit

/-- A world that is w but for new blocks and draws. -/
structure BelowOf (w : World) where
  world : World
  below : Below w.heap.size w world
instance (w : World) : Nonempty (BelowOf w) := ⟨⟨w, Below.refl _ _⟩⟩
/-- A region that draws, whose operations read old blocks and whose callees make new ones at most: one walk of the text's order. -/
theorem wp_region_calm {P : Program} {id : Nat} {Q : Exit → Act → World → Prop} {a : Act} {w : World} {l : List Oper} (hm : P.follows .mixedOrders = true) (hB : Region.lexB .any l.toArray = true)
    (h : wpQuiet P l.toArray (fun W => ∃ x : BelowOf w, W = x.world) (fun a' => ∀ w', (∃ x : BelowOf w, w' = x.world) → Q .normal a' w') l a) : (Code.region id l.toArray true).wp P Q a w :=
  wp_region_quiet (C := fun W => ∃ x : BelowOf w, W = x.world) hm hB ⟨⟨_, (Below.refl _ _).drew⟩, rfl⟩ (by simpa using h)

/-- The zero window. -/
def zeroWin : Array Value := #[.pointer none, .int .i64 0, .int .i64 0, .int .i64 0, .int .i64 0, .int .i64 0, .bool false, .int .u64 0, .int .u64 0, .pointer none, .pointer none]
/-- What lies in memory at the loop of WindowNil. -/
structure NilMem (w wr : World) (s z : Nat) (t v : Int) : Prop where
  below : Below w.heap.size w wr
  samp : wr.heap[w.heap.size]? = some (.cells #[.int .i64 t, .int .i64 v] 50 (0, 0))
  list : wr.heap[s]? = some (.cells #[.pointer none, .pointer (some ⟨z, 0, none⟩)] 26 (0, 0))
  zero : wr.heap[z]? = some (.cells zeroWin 60 (0, 0))
theorem NilMem.on {w wr wx : World} {s z : Nat} {t v : Int} (h : NilMem w wr s z t v) (hb : Below wr.heap.size wr wx) : NilMem w wx s z t v :=
  ⟨below_up h.below hb, hb_below' h.samp hb, hb_below' h.list hb, hb_below' h.zero hb⟩
/-- The i-th window of the list. -/
def nilPtr (z : Nat) (i : Nat) : Value := if i = 0 then .pointer none else .pointer (some ⟨z, 0, none⟩)
theorem NilMem.refuses {w wr : World} {s z : Nat} {t v : Int} (h : NilMem w wr s z t v) (i : Nat) : Refuses wr (nilPtr z i) t 4 := by
  unfold nilPtr
  split
  · exact refuses_nil wr t
  · exact refuses_zero wr z t (hb_lt h.zero) (hb_cell h.zero 0)
theorem NilMem.clock {w wr : World} {s z : Nat} {t v : Int} (h : NilMem w wr s z t v) (i : Nat) : Calls Try.prog 11 #[nilPtr z i] wr fun e w' => e = .returned (.tuple #[.int .i64 0, .bool false]) ∧ w' = wr := by
  unfold nilPtr
  split
  · exact win_Clock_nil wr
  · exact win_Clock_zero z wr (hb_cell h.zero 0)

/-- A box of a result, laid behind or ahead of the call. -/
def NilCut (wr : World) (o e : Value) (wx : World) : Prop := ∃ ob : Nat, o = .pointer (some ⟨ob, 0, none⟩) ∧ e = .int .i64 4 ∧ Below wr.heap.size wr wx ∧ wx.heap[ob]? = some (.cells #[.int .i64 0, .int .i64 0] 43 (0, 0))
theorem NilCut.late {wr w2 : World} (hb : Below wr.heap.size wr w2) : NilCut wr (.pointer (some ⟨w2.heap.size, 0, none⟩)) (.int .i64 4) (w2.alloc (.cells #[.int .i64 0, .int .i64 0] 43)) :=
  ⟨_, rfl, rfl, hb.alloc hb.size _, hb_new _ _⟩
theorem NilCut.early {wr w2 : World} {u x : Value} (hb : Below wr.heap.size wr w2) (hz : w2.heap[wr.heap.size]? = some (.cells #[u, x] 43 (0, 0))) :
    NilCut wr (.pointer (some ⟨wr.heap.size, 0, none⟩)) (.int .i64 4) ((w2.setCell ⟨wr.heap.size, 0, none⟩ (.int .i64 0)).setCell ⟨wr.heap.size, 1, none⟩ (.int .i64 0)) :=
  ⟨_, rfl, rfl, (hb.setCell (Nat.le_refl _) _).setCell (Nat.le_refl _) _, two_set hz _ _⟩

set_option maxRecDepth 100000 in
set_option maxHeartbeats 3200000 in
theorem law_WindowNil (t v : Int) (w : World) : Calls Try.prog 5 #[.agg #[.int .i64 t, .int .i64 v]] w fun e w' => e = .returned (.bool true) ∧ Below w.heap.size w w' := by
  have h1 := law_awake
  have H1 := Lib.hid h1
  clear h1
  go_enter Try.func5, Try.ntmps5
  go_wp2_with fail
  refine (H1.out _).mono ?_
  rintro e w1 ⟨rfl, hb1⟩
  have hs1 := hb_below' (hb_new w (.cells #[.int .i64 t, .int .i64 v] 50)) hb1
  have hB1 : Below w.heap.size w w1 := below_up (below1 _ _) hb1
  have HS1 := Lib.hid hs1
  have HB1 := Lib.hid hB1
  clear hs1 hB1 hb1
  go_wp2_with fail
  have hM0 : NilMem w ((w1.alloc (.cells zeroWin 60)).alloc (.cells #[.pointer none, .pointer (some ⟨w1.heap.size, 0, none⟩)] 26)) (w1.heap.size + 1) w1.heap.size t v := by
    refine ⟨(HB1.out.alloc HB1.out.size _).alloc (by have := HB1.out.size; simp; omega) _, hb_alloc (hb_alloc HS1.out _) _, ?_, hb_alloc (hb_new _ _) _⟩
    have := hb_new (w1.alloc (.cells zeroWin 60)) (.cells #[.pointer none, .pointer (some ⟨w1.heap.size, 0, none⟩)] 26)
    simpa using this
  have HM0 := Lib.hid hM0
  clear hM0
  obtain ⟨z, hz⟩ : ∃ z, z = w1.heap.size := ⟨_, rfl⟩
  obtain ⟨s, hs⟩ : ∃ s, s = w1.heap.size + 1 := ⟨_, rfl⟩
  unfold zeroWin at HM0
  generalize hWW : (w1.alloc (.cells #[.pointer none, .int .i64 0, .int .i64 0, .int .i64 0, .int .i64 0, .int .i64 0, .bool false, .int .u64 0, .int .u64 0, .pointer none, .pointer none] 60)).alloc (.cells #[.pointer none, .pointer (some ⟨w1.heap.size, 0, none⟩)] 26) = WW at *
  rw [← hs] at HM0 ⊢
  rw [← hz] at HM0 ⊢
  clear hWW hz hs HS1 HB1 H1
  go_loopg [5] 2 (fun k i wr => ∃ n : Nat, k = 2 - n ∧ n ≤ 2 ∧ i = .int .i64 n ∧ Hid (NilMem w wr s z t v))
  case atStart => exact ⟨0, rfl, by omega, rfl, HM0⟩
  case round =>
    obtain ⟨n, rfl, hn, rfl, HM⟩ := hrel
    clear HM0
    rcases Nat.lt_or_ge n 2 with hlt | hge
    · have hn0 : (0 : Int) ≤ (n : Int) := by omega
      have hn1 : (n : Int) < 2 := by omega
      have hd : decide ((n : Int) < 2) = true := by simpa using hn1
      go_upto_region 8 with fail
      have hp : wr.cell? ⟨s, n, none⟩ = some (nilPtr z n) := by
        rw [hb_cell HM.out.list]
        unfold nilPtr
        rcases Nat.eq_zero_or_pos n with rfl | h
        · rfl
        · obtain rfl : n = 1 := by omega
          rfl
      obtain ⟨p, hpe⟩ : ∃ p, p = nilPtr z n := ⟨_, rfl⟩
      have href : Refuses wr p t 4 := by rw [hpe]; exact HM.out.refuses n
      have hclk : ∀ w', Below wr.heap.size wr w' → Calls Try.prog 11 #[p] w' fun e w'' => e = .returned (.tuple #[.int .i64 0, .bool false]) ∧ w'' = w' := by intro w' hb; rw [hpe]; exact (HM.out.on hb).clock n
      rw [← hpe] at hp
      have HRef := Lib.hid href
      have HClk := Lib.hid hclk
      have HP := Lib.hid hp
      clear href hclk hp hpe
      have hsw : s < wr.heap.size := hb_lt HM.out.list
      have hww : w.heap.size < wr.heap.size := hb_lt HM.out.samp
      go_cut [6, 7] (fun o e wx => NilCut wr o e wx)
      case first =>
        obtain ⟨x0, x1, _, _⟩ := hb2 HM.out.samp
        have hp := HP.out
        have hRd : ∀ W', Below wr.heap.size wr W' → Calls Try.prog 12 #[p, .int .i64 t] W' fun e w' => e = .returned (.tuple #[.agg #[.int .i64 0, .int .i64 0], .int .i64 4]) ∧ Below wr.heap.size wr w' ∧ (∀ (k : Nat) (o : Obj), W'.heap[k]? = some o → w'.heap[k]? = some o) := by
          intro W' hb
          refine (win_Read_no p t 4 W' (fun w'' h => HRef.out w'' (below_up hb h)) (.inl rfl)).mono ?_
          rintro e w' ⟨rfl, h⟩
          exact ⟨rfl, below_up hb h, fun k o ho => hb_below' ho h⟩
        have HRd := Lib.hid hRd
        clear hRd
        go_region_with (first | (refine (HRd.out _ ?hbb).mono ?_; (case hbb => first | exact Below.refl _ _ | exact below1 _ _ | exact (Below.refl _ _).drew | exact (below1 _ _).drew); rintro e w2 ⟨rfl, hb2x, hk⟩; first | (have zz := hk _ _ (hb_new _ _); obtain ⟨z0, z1, z2, z3⟩ := hb2 zz; have HZ := Lib.hid zz; clear zz) | (have zz := hk _ _ (hb_new' _ _); obtain ⟨z0, z1, z2, z3⟩ := hb2 zz; have HZ := Lib.hid zz; clear zz) | skip))
        all_goals go_wp2_with fail
        all_goals go_meet
        all_goals first
          | exact NilCut.late hb2x
          | exact NilCut.early hb2x HZ.out
          | skip
      case rest =>
        obtain ⟨ob, rfl, rfl, hb8, hob⟩ := hcut
        obtain ⟨w8, hw8⟩ : ∃ w8, w8 = wc := ⟨_, rfl⟩
        subst hw8
        have HM8 := Lib.hid (HM.out.on hb8)
        have HB8 := Lib.hid hb8
        have HOB := Lib.hid hob
        have HP8 := Lib.hid ((hb8.cell (p := ⟨s, n, none⟩) hsw).trans HP.out)
        clear hb8 hob
        go_upto_region 9 with fail
        go_cut [8, 9] (fun l e wx => l = .slice none 0 0 ∧ e = .int .i64 4 ∧ Below w8.heap.size w8 wx)
        case first =>
          obtain ⟨x0, x1, _, _⟩ := hb2 HM8.out.samp
          have hp := HP8.out
          have hHd : ∀ W', Below w8.heap.size w8 W' → Calls Try.prog 13 #[p, .int .i64 t] W' fun e w' => e = .returned (.tuple #[.slice none 0 0, .int .i64 4]) ∧ w' = W' :=
            fun W' hb => win_Held_no p t 4 W' (fun w'' h => HRef.out w'' (below_up HB8.out (below_up hb h))) (.inl rfl)
          have HHd := Lib.hid hHd
          clear hHd
          go_region_with (first | (refine (HHd.out _ ?hbb).mono ?_; (case hbb => first | exact Below.refl _ _ | exact (Below.refl _ _).drew); rintro e w2 ⟨rfl, rfl⟩))
          all_goals go_wp2_with fail
          all_goals go_meet
          all_goals first
            | exact ⟨rfl, rfl, (Below.refl _ _).drew⟩
            | exact ⟨rfl, rfl, Below.refl _ _⟩
            | skip
        case rest =>
          obtain ⟨rfl, rfl, hb9⟩ := hcut
          obtain ⟨w9, hw9⟩ : ∃ w9, w9 = wc := ⟨_, rfl⟩
          subst hw9
          have HM9 := Lib.hid (HM8.out.on hb9)
          have HB9 := Lib.hid (below_up HB8.out hb9)
          have HOB9 := Lib.hid (hb_below' HOB.out hb9)
          have hp9 := (hb9.cell (p := ⟨s, n, none⟩) (hb_lt HM8.out.list)).trans HP8.out
          have HP9 := Lib.hid hp9
          clear hb9
          go_wp2_with fail
          refine (HClk.out _ HB9.out).mono ?_
          rintro e w10 ⟨rfl, rfl⟩
          clear hp9
          go_upto_region 11 with fail
          go_cut [83] (fun b wx => b = .bool false ∧ Below w10.heap.size w10 wx)
          case first =>
            obtain ⟨x0, x1, _, _⟩ := hb2 HM9.out.samp
            obtain ⟨o0, o1, _, _⟩ := hb2 HOB9.out
            have hp := HP9.out
            have F0 : ∀ W : BelowOf w10, W.world.cell? ⟨s, n, none⟩ = some p := fun W => (W.below.cell (p := ⟨s, n, none⟩) (hb_lt HM9.out.list)).trans hp
            have F1 : ∀ W : BelowOf w10, W.world.cell? ⟨w.heap.size, 0, none⟩ = some (.int .i64 t) := fun W => (W.below.cell (p := ⟨w.heap.size, 0, none⟩) (hb_lt HM9.out.samp)).trans x0
            have F2 : ∀ W : BelowOf w10, W.world.cell? ⟨w.heap.size, 1, none⟩ = some (.int .i64 v) := fun W => (W.below.cell (p := ⟨w.heap.size, 1, none⟩) (hb_lt HM9.out.samp)).trans x1
            have F3 : ∀ W : BelowOf w10, W.world.cell? ⟨ob, 0, none⟩ = some (.int .i64 0) := fun W => (W.below.cell (p := ⟨ob, 0, none⟩) (hb_lt HOB9.out)).trans o0
            have F4 : ∀ W : BelowOf w10, W.world.cell? ⟨ob, 1, none⟩ = some (.int .i64 0) := fun W => (W.below.cell (p := ⟨ob, 1, none⟩) (hb_lt HOB9.out)).trans o1
            have hPt : ∀ W : BelowOf w10, Calls Try.prog 14 #[p, .agg #[.int .i64 t, .int .i64 v]] W.world fun e w' => e = .returned (.int .i64 4) ∧ ∃ y : BelowOf w10, w' = y.world := by
              intro W
              refine (win_Put_no p t v 4 W.world (fun w'' h => HRef.out w'' (below_up HB9.out (below_up W.below h))) (.inl rfl)).mono ?_
              rintro e w' ⟨rfl, h⟩
              exact ⟨rfl, ⟨_, below_up W.below h⟩, rfl⟩
            have HPt := Lib.hid hPt
            clear hPt
            refine wp_region_calm (by kernel_rfl) (by kernel_rfl) ?_
            repeat (open BigFrame in go_big_quiet_step (exact HPt.out _))
            refine wpQuiet_nil ?_
            intro w' hw'
            obtain ⟨⟨wx, hbx⟩, rfl⟩ := hw'
            go_wp2_with fail
            go_meet
            exact ⟨rfl, hbx⟩
          case rest =>
            obtain ⟨rfl, hb11⟩ := hcut
            have HM11 := Lib.hid (HM9.out.on hb11)
            clear hb11
            go_wp2_with fail
            go_roundg (2 - (n + 1))
            case measure => omega
            case rel => exact ⟨n + 1, rfl, by omega, by go_num, HM11⟩
    · obtain rfl : n = 2 := by omega
      go_wp2_with fail
      go_ret
      exact ⟨rfl, HM.out.below⟩
end Go.Proofs.Ytfhhdlpglfjdgaa
/- The laws of chapter 08: WindowStale, walked. -/
set_option linter.unusedVariables false
set_option linter.unusedSimpArgs false
namespace Go.Proofs.Ytfhhdlpglfjdgaa
open Go.RowKit

/-- A script, as it lies in memory: kind, time, value of each step. -/
def OpsAt (w : World) (a : Option Addr) (ops : List (Int × Int × Int)) : Prop :=
  ops = [] ∨ ∃ b off, a = some ⟨b, off, none⟩ ∧ b < w.heap.size ∧ ∀ i k t v, ops[i]? = some (k, t, v) → w.cell? ⟨b, off + i * 3, none⟩ = some (.int .i64 k) ∧ w.cell? ⟨b, off + i * 3 + 1, none⟩ = some (.int .i64 t) ∧ w.cell? ⟨b, off + i * 3 + 2, none⟩ = some (.int .i64 v)

/-- Two windows of the same terms, apart from one another and from what was there; boxes that are kept. -/
def Two (w0 wr : World) (T : WT) (ga gb : Nat) (ca : Int) (ba : Bool) (Na : Int) (la : List (Int × Int)) (cb : Int) (bb : Bool) (Nb : Int) (lb : List (Int × Int)) (bx : List (Nat × Obj)) : Prop :=
  ∃ Fa Fb, WinAt wr Fa ga T ca ba Na la ∧ WinAt wr Fb gb T cb bb Nb lb ∧ (∀ k, Fa k → ¬ Fb k) ∧ (∀ k, Fa k → w0.heap.size ≤ k) ∧ (∀ k, Fb k → w0.heap.size ≤ k) ∧ Below w0.heap.size w0 wr ∧ ∀ p ∈ bx, wr.heap[p.1]? = some p.2 ∧ ¬ Fa p.1 ∧ ¬ Fb p.1
section
variable {w0 wr wx : World} {T : WT} {ga gb : Nat} {ca : Int} {ba : Bool} {Na : Int} {la : List (Int × Int)} {cb : Int} {bb : Bool} {Nb : Int} {lb : List (Int × Int)} {bx : List (Nat × Obj)}
theorem Two.below (h : Two w0 wr T ga gb ca ba Na la cb bb Nb lb bx) : Below w0.heap.size w0 wr := by
  obtain ⟨Fa, Fb, h1, h2, h3, h4, h5, h6, h7⟩ := h; exact h6
theorem Two.on (h : Two w0 wr T ga gb ca ba Na la cb bb Nb lb bx) (hb : Below wr.heap.size wr wx) : Two w0 wx T ga gb ca ba Na la cb bb Nb lb bx := by
  obtain ⟨Fa, Fb, h1, h2, h3, h4, h5, h6, h7⟩ := h
  exact ⟨Fa, Fb, h1.below hb, h2.below hb, h3, h4, h5, below_up h6 hb, fun p hp => ⟨hb_below' (h7 p hp).1 hb, (h7 p hp).2⟩⟩
theorem Two.push (h : Two w0 wr T ga gb ca ba Na la cb bb Nb lb bx) (o : Obj) : Two w0 (wr.alloc o) T ga gb ca ba Na la cb bb Nb lb ((wr.heap.size, o) :: bx) := by
  obtain ⟨Fa, Fb, h1, h2, h3, h4, h5, h6, h7⟩ := h.on (below1 wr o)
  obtain ⟨Fa0, Fb0, k1, k2, k3, k4, k5, k6, k7⟩ := h
  refine ⟨Fa0, Fb0, k1.below (below1 wr o), k2.below (below1 wr o), k3, k4, k5, h6, fun p hp => ?_⟩
  rcases List.mem_cons.1 hp with rfl | hp
  · exact ⟨hb_new _ _, fun h => Nat.lt_irrefl _ (k1.lt _ h), fun h => Nat.lt_irrefl _ (k2.lt _ h)⟩
  · exact ⟨hb_alloc (k7 p hp).1 _, (k7 p hp).2⟩
theorem Two.drop (h : Two w0 wr T ga gb ca ba Na la cb bb Nb lb bx) : Two w0 wr T ga gb ca ba Na la cb bb Nb lb [] := by
  obtain ⟨Fa, Fb, h1, h2, h3, h4, h5, h6, h7⟩ := h
  exact ⟨Fa, Fb, h1, h2, h3, h4, h5, h6, fun p hp => by simp at hp⟩
theorem Two.box (h : Two w0 wr T ga gb ca ba Na la cb bb Nb lb bx) {b : Nat} {o : Obj} (hp : (b, o) ∈ bx) : wr.heap[b]? = some o := by
  obtain ⟨Fa, Fb, h1, h2, h3, h4, h5, h6, h7⟩ := h
  exact (h7 _ hp).1
theorem Two.left {F F' : Nat → Prop} {ca' : Int} {ba' : Bool} {Na' : Int} {la' : List (Int × Int)} (h1 : WinAt wr F ga T ca ba Na la) {Fb : Nat → Prop} (h2 : WinAt wr Fb gb T cb bb Nb lb) (h3 : ∀ k, F k → ¬ Fb k) (h4 : ∀ k, F k → w0.heap.size ≤ k) (h5 : ∀ k, Fb k → w0.heap.size ≤ k)
    (h6 : Below w0.heap.size w0 wr) (h7 : ∀ p ∈ bx, wr.heap[p.1]? = some p.2 ∧ ¬ F p.1 ∧ ¬ Fb p.1) (hf : Fr F wr wx) (hE : Ext F F' wr wx) (hw : WinAt wx F' ga T ca' ba' Na' la') : Two w0 wx T ga gb ca' ba' Na' la' cb bb Nb lb bx := by
  have hs := h6.size
  refine ⟨F', Fb, hw, h2.keep (fun k hk => hf.block k (h2.lt k hk) (fun h => h3 k h hk)) hf.size, ?_, ?_, h5, h6.trans (hf.below h4 hs), ?_⟩
  · intro k hk hb
    rcases hE k hk with h | h
    · exact h3 k h hb
    · have := h2.lt k hb; omega
  · intro k hk
    rcases hE k hk with h | h
    · exact h4 k h
    · omega
  · intro p hp
    refine ⟨hf.blk (h7 p hp).1 (h7 p hp).2.1, fun h => ?_, (h7 p hp).2.2⟩
    rcases hE _ h with h | h
    · exact (h7 p hp).2.1 h
    · have := hb_lt (h7 p hp).1; omega
theorem Two.swap (h : Two w0 wr T ga gb ca ba Na la cb bb Nb lb bx) : Two w0 wr T gb ga cb bb Nb lb ca ba Na la bx := by
  obtain ⟨Fa, Fb, h1, h2, h3, h4, h5, h6, h7⟩ := h
  exact ⟨Fb, Fa, h2, h1, fun k hk h => h3 k h hk, h5, h4, h6, fun p hp => ⟨(h7 p hp).1, (h7 p hp).2.2, (h7 p hp).2.1⟩⟩
theorem Two.put (h : Two w0 wr T ga gb ca ba Na la cb bb Nb lb bx) (x : Int × Int) (hN : Na ≤ 4611686018427387904) (hx : I64 x.1 ∧ I64 x.2) (ht : stale ba ca x.1 = false) :
    Calls Try.prog 14 #[.pointer (some ⟨ga, 0, none⟩), .agg #[.int .i64 x.1, .int .i64 x.2]] wr fun e w' => e = .returned (.int .i64 0) ∧ Two w0 w' T ga gb x.1 true (Na + 1) (pushL la x) cb bb Nb lb bx := by
  obtain ⟨Fa, Fb, h1, h2, h3, h4, h5, h6, h7⟩ := h
  refine (win_Put Fa ga T ca Na ba la x wr h1 hN hx ht).mono ?_
  rintro e w' ⟨rfl, hf, F', hE, hw⟩
  exact ⟨rfl, Two.left h1 h2 h3 h4 h5 h6 h7 hf hE hw⟩
theorem Two.read (h : Two w0 wr T ga gb ca ba Na la cb bb Nb lb bx) (t : Int) (hT : T.right = true) (hN : Na ≤ 4611686018427387904) (ht : stale ba ca t = false) :
    Calls Try.prog 12 #[.pointer (some ⟨ga, 0, none⟩), .int .i64 t] wr fun e w' => e = .returned (.tuple #[.agg #[.int .i64 (winRead T (vals (fresh t T.s la))).1, .int .i64 (winRead T (vals (fresh t T.s la))).2], .int .i64 0]) ∧ Two w0 w' T ga gb t true Na (fresh t T.s la) cb bb Nb lb bx := by
  obtain ⟨Fa, Fb, h1, h2, h3, h4, h5, h6, h7⟩ := h
  refine (win_Read Fa ga T ca Na t ba la wr h1 hT hN ht).mono ?_
  rintro e w' ⟨rfl, hf, F', hE, hw⟩
  exact ⟨rfl, Two.left h1 h2 h3 h4 h5 h6 h7 hf hE hw⟩
theorem Two.clock (h : Two w0 wr T ga gb ca ba Na la cb bb Nb lb bx) :
    Calls Try.prog 11 #[.pointer (some ⟨ga, 0, none⟩)] wr fun e w' => e = .returned (.tuple #[.int .i64 ca, .bool ba]) ∧ Two w0 w' T ga gb ca ba Na la cb bb Nb lb bx := by
  have h0 := h
  obtain ⟨Fa, Fb, h1, h2, h3, h4, h5, h6, h7⟩ := h
  refine (win_Clock wr h1).mono ?_
  rintro e w' ⟨rfl, hb⟩
  exact ⟨rfl, h0.on hb⟩
theorem Two.refuses (h : Two w0 wr T ga gb ca true Na la cb bb Nb lb bx) (t : Int) (ht : t < ca) : Refuses wr (.pointer (some ⟨ga, 0, none⟩)) t 32 := by
  obtain ⟨Fa, Fb, h1, h2, h3, h4, h5, h6, h7⟩ := h
  exact refuses_stale h1 t ht
theorem Two.read_no (h : Two w0 wr T ga gb ca true Na la cb bb Nb lb bx) (t : Int) (ht : t < ca) :
    Calls Try.prog 12 #[.pointer (some ⟨ga, 0, none⟩), .int .i64 t] wr fun e w' => e = .returned (.tuple #[.agg #[.int .i64 0, .int .i64 0], .int .i64 32]) ∧ Two w0 w' T ga gb ca true Na la cb bb Nb lb bx :=
  (win_Read_no _ t 32 wr (h.refuses t ht) (.inr rfl)).mono fun _ _ hh => ⟨hh.1, h.on hh.2⟩
theorem Two.held_no (h : Two w0 wr T ga gb ca true Na la cb bb Nb lb bx) (t : Int) (ht : t < ca) :
    Calls Try.prog 13 #[.pointer (some ⟨ga, 0, none⟩), .int .i64 t] wr fun e w' => e = .returned (.tuple #[.slice none 0 0, .int .i64 32]) ∧ Two w0 w' T ga gb ca true Na la cb bb Nb lb bx :=
  (win_Held_no _ t 32 wr (h.refuses t ht) (.inr rfl)).mono fun _ w' hh => ⟨hh.1, by obtain ⟨_, rfl⟩ := hh; exact h⟩
theorem Two.put_no (h : Two w0 wr T ga gb ca true Na la cb bb Nb lb bx) (t v : Int) (ht : t < ca) :
    Calls Try.prog 14 #[.pointer (some ⟨ga, 0, none⟩), .agg #[.int .i64 t, .int .i64 v]] wr fun e w' => e = .returned (.int .i64 32) ∧ Two w0 w' T ga gb ca true Na la cb bb Nb lb bx :=
  (win_Put_no _ t v 32 wr (h.refuses t ht) (.inr rfl)).mono fun _ _ hh => ⟨hh.1, h.on hh.2⟩
end
/-- Three cells of one block. -/
theorem hb3 {w : World} {b : Nat} {x y z : Value} {t : TypeId} (h : w.heap[b]? = some (.cells #[x, y, z] t (0, 0))) : w.cell? ⟨b, 0, none⟩ = some x ∧ w.cell? ⟨b, 1, none⟩ = some y ∧ w.cell? ⟨b, 2, none⟩ = some z :=
  ⟨hb_cell h 0, hb_cell h 1, hb_cell h 2⟩

set_option maxRecDepth 100000 in
set_option maxHeartbeats 1600000 in
theorem law_WindowStale_no (T : WT) (a : Option Addr) (n cap : Nat) (w : World) (hT : T.right = false) :
    Calls Try.prog 4 #[.agg #[.int .i64 T.m, .int .i64 T.a, .int .i64 T.s, .int .i64 T.p], .slice a n cap] w fun e w' => e = .returned (.bool true) ∧ Below w.heap.size w w' := by
  have h1 := law_awake
  have H1 := Lib.hid h1
  have h2 := fun w => win_New_no T w hT
  have H2 := Lib.hid h2
  clear h1 h2 hT
  obtain ⟨m, ag, s, p⟩ := T
  go_enter Try.func4, Try.ntmps4
  go_wp2_with fail
  refine (H1.out _).mono ?_
  rintro e w1 ⟨rfl, hb1⟩
  have hs1 := hb_below' (hb_new w (.cells #[.int .i64 m, .int .i64 ag, .int .i64 s, .int .i64 p] 23)) hb1
  have hB1 : Below w.heap.size w w1 := below_up (below1 _ _) hb1
  have k0 := hb_cell hs1 0
  have k1 := hb_cell hs1 1
  have k2 := hb_cell hs1 2
  have k3 := hb_cell hs1 3
  simp only [List.getElem?_toArray, List.getElem?_cons_zero, List.getElem?_cons_succ] at k0 k1 k2 k3
  have HS1 := Lib.hid hs1
  have HB1 := Lib.hid hB1
  clear hs1 hB1 hb1
  go_wp2_with fail
  refine (H2.out _).mono ?_
  rintro e w2 ⟨rfl, hb2x⟩
  have hs2 := hb_below' HS1.out hb2x
  have k0 := hb_cell hs2 0
  have k1 := hb_cell hs2 1
  have k2 := hb_cell hs2 2
  have k3 := hb_cell hs2 3
  simp only [List.getElem?_toArray, List.getElem?_cons_zero, List.getElem?_cons_succ] at k0 k1 k2 k3
  have HB2 := Lib.hid (below_up HB1.out hb2x)
  clear hs2 hb2x
  go_wp2_with fail
  refine (H2.out _).mono ?_
  rintro e w3 ⟨rfl, hb3x⟩
  have HB3 := Lib.hid (below_up HB2.out hb3x)
  clear hb3x
  go_wp2_with fail
  go_ret
  exact ⟨rfl, HB3.out⟩
set_option maxRecDepth 100000 in
set_option maxHeartbeats 6400000 in
theorem law_WindowStale (T : WT) (a : Option Addr) (cap : Nat) (ops : List (Int × Int × Int)) (w : World) (hT : T.right = true) (hO : OpsAt w a ops) (hn : ops.length ≤ 4611686018427387904) (h64 : ∀ k t v, (k, t, v) ∈ ops → I64 t ∧ I64 v) :
    Calls Try.prog 4 #[.agg #[.int .i64 T.m, .int .i64 T.a, .int .i64 T.s, .int .i64 T.p], .slice a ops.length cap] w fun e w' => e = .returned (.bool true) ∧ Below w.heap.size w w' := by
  have h1 := law_awake
  have H1 := Lib.hid h1
  have h2 := fun w => win_New T w hT
  have H2 := Lib.hid h2
  have HT := Lib.hid hT
  have HO := Lib.hid hO
  have H64 := Lib.hid h64
  obtain ⟨len, hlen⟩ : ∃ len, len = ops.length := ⟨_, rfl⟩
  rw [← hlen] at hn ⊢
  have Hlen := Lib.hid hlen
  clear h1 h2 hT hO h64 hlen
  obtain ⟨m, hm⟩ : ∃ m, m = T.m := ⟨_, rfl⟩
  obtain ⟨ag, hag⟩ : ∃ m, m = T.a := ⟨_, rfl⟩
  obtain ⟨s, hs⟩ : ∃ m, m = T.s := ⟨_, rfl⟩
  obtain ⟨p, hp⟩ : ∃ m, m = T.p := ⟨_, rfl⟩
  rw [← hm, ← hag, ← hs, ← hp] at H2 ⊢
  clear hm hag hs hp
  go_enter Try.func4, Try.ntmps4
  go_wp2_with fail
  refine (H1.out _).mono ?_
  rintro e w1 ⟨rfl, hb1⟩
  have hs1 := hb_below' (hb_new w (.cells #[.int .i64 m, .int .i64 ag, .int .i64 s, .int .i64 p] 23)) hb1
  have hB1 : Below w.heap.size w w1 := below_up (below1 _ _) hb1
  have k0 := hb_cell hs1 0
  have k1 := hb_cell hs1 1
  have k2 := hb_cell hs1 2
  have k3 := hb_cell hs1 3
  simp only [List.getElem?_toArray, List.getElem?_cons_zero, List.getElem?_cons_succ] at k0 k1 k2 k3
  have HS1 := Lib.hid hs1
  have HB1 := Lib.hid hB1
  clear hs1 hB1 hb1
  go_wp2_with fail
  refine (H2.out _).mono ?_
  rintro e w2 ⟨ga, Fa, rfl, hb2x, hwa, hFa⟩
  have hs2 := hb_below' HS1.out hb2x
  have k0 := hb_cell hs2 0
  have k1 := hb_cell hs2 1
  have k2 := hb_cell hs2 2
  have k3 := hb_cell hs2 3
  simp only [List.getElem?_toArray, List.getElem?_cons_zero, List.getElem?_cons_succ] at k0 k1 k2 k3
  have HB2 := Lib.hid (below_up HB1.out hb2x)
  have HWa := Lib.hid hwa
  have HFa := Lib.hid (show ∀ k, Fa k → w.heap.size ≤ k from fun k hk => Nat.le_trans HB1.out.size (hFa k hk))
  clear hs2 hb2x hwa hFa
  go_wp2_with fail
  refine (H2.out _).mono ?_
  rintro e w3 ⟨gb, Fb, rfl, hb3x, hwb, hFb⟩
  have hT0 : Two w w3 T ga gb 0 false 0 [] 0 false 0 [] [] :=
    ⟨Fa, Fb, HWa.out.below hb3x, hwb, fun k hk h => by have := HWa.out.lt k hk; have := hFb k h; omega, HFa.out, fun k hk => Nat.le_trans HB2.out.size (hFb k hk), below_up HB2.out hb3x, fun p hp => by simp at hp⟩
  have HT0 := Lib.hid hT0
  clear hb3x hwb hFb hT0 HWa HFa HB2 HB1 HS1 k0 k1 k2 k3 H1 H2
  go_wp2_with fail
  go_loopg [9] len (fun k i wr => ∃ (n : Nat) (c : Int) (b : Bool) (N : Int) (l : List (Int × Int)), k = len - n ∧ n ≤ len ∧ i = .int .i64 n ∧ N ≤ n ∧ Hid (Two w wr T ga gb c b N l c b N l []))
  case atStart => exact ⟨0, 0, false, 0, [], rfl, by omega, rfl, by omega, HT0⟩
  case round =>
    obtain ⟨n, c, b, N, l, rfl, hnl, rfl, hN, HM⟩ := hrel
    clear HT0
    rcases Nat.lt_or_ge n len with hlt | hge
    · have hn0 : (0 : Int) ≤ (n : Int) := by omega
      have hn1 : (n : Int) < (len : Int) := by omega
      have hd : decide ((n : Int) < (len : Int)) = true := by simpa using hn1
      have hN2 : N ≤ 4611686018427387904 := by omega
      obtain ⟨⟨k, t, v⟩, hx⟩ : ∃ x, ops[n]? = some x := ⟨_, List.getElem?_eq_getElem (by rw [← Hlen.out]; exact hlt)⟩
      have hmem := List.mem_of_getElem? hx
      obtain ⟨ht64, hv64⟩ := H64.out k t v hmem
      obtain ⟨bo, off, rfl, hbo, hcs⟩ := HO.out.resolve_left (fun h => by rw [h] at hx; simp at hx)
      obtain ⟨d0, d1, d2⟩ := hcs n k t v hx
      have d0 := (HM.out.below.cell (p := ⟨bo, off + n * 3, none⟩) hbo).trans d0
      have d1 := (HM.out.below.cell (p := ⟨bo, off + n * 3 + 1, none⟩) hbo).trans d1
      have d2 := (HM.out.below.cell (p := ⟨bo, off + n * 3 + 2, none⟩) hbo).trans d2
      have HN2 := Lib.hid hN2
      have Ht64 := Lib.hid ht64
      have Hv64 := Lib.hid hv64
      clear hN2 ht64 hv64 hcs hbo hx hmem
      go_wp2_with fail
      have hM1 := HM.out.push (.cells #[.int .i64 k, .int .i64 t, .int .i64 v] 37)
      obtain ⟨ob, hob⟩ : ∃ ob, ob = wr.heap.size := ⟨_, rfl⟩
      rw [← hob] at hM1
      refine hM1.swap.clock.mono ?_
      rintro e w4 ⟨rfl, hM2⟩
      obtain ⟨o0, o1, o2⟩ := hb3 (hM2.box (b := ob) List.mem_cons_self)
      have HM2 := Lib.hid hM2.swap
      rw [← hob]
      clear hM1 hM2 hob d0 d1 d2
      by_cases hst : stale b c t = true
      · obtain ⟨rfl, hlt2⟩ : b = true ∧ t < c := by simpa [stale] using hst
        have hd2 : decide (t < c) = true := by simpa using hlt2
        clear hst
        go_wp2_with fail
        refine (HM2.out.read_no t hlt2).mono ?_
        rintro e w5 ⟨rfl, hM5⟩
        have HM6 := Lib.hid (hM5.push (.cells #[.int .i64 0, .int .i64 0] 43))
        have hobx : ob < w5.heap.size := hb_lt (hM5.box (b := ob) List.mem_cons_self)
        obtain ⟨o0, o1, o2⟩ := hb3 (hM5.box (b := ob) List.mem_cons_self)
        clear hM5
        go_wp2_with fail
        have hM6 := HM6.out
        obtain ⟨xb, hxb⟩ : ∃ xb, xb = w5.heap.size := ⟨_, rfl⟩
        rw [← hxb] at hM6 ⊢
        clear hxb HM6 hobx
        refine (hM6.held_no t hlt2).mono ?_
        rintro e w7 ⟨rfl, hM7⟩
        obtain ⟨o0, o1, o2⟩ := hb3 (hM7.box (b := ob) (List.mem_cons_of_mem _ List.mem_cons_self))
        obtain ⟨x0, x1, _, _⟩ := hb2 (hM7.box (b := xb) List.mem_cons_self)
        have HM7 := Lib.hid hM7
        clear hM6 hM7
        go_wp2_with fail
        refine (HM7.out.put_no t v hlt2).mono ?_
        rintro e w8 ⟨rfl, hM8⟩
        obtain ⟨o0, o1, o2⟩ := hb3 (hM8.box (b := ob) (List.mem_cons_of_mem _ List.mem_cons_self))
        obtain ⟨x0, x1, _, _⟩ := hb2 (hM8.box (b := xb) List.mem_cons_self)
        have HM8 := Lib.hid hM8
        clear hM8 HM7
        go_wp2_with fail
        go_roundg (len - (n + 1))
        case measure => omega
        case rel => exact ⟨n + 1, c, true, N, l, rfl, by omega, by go_num, by omega, Lib.hid HM8.out.drop⟩
      · have hst2 : stale b c t = false := by simpa using hst
        have Hst := Lib.hid hst2
        have hfork : b = false ∨ (b = true ∧ ¬ t < c) := by
          cases b
          · exact .inl rfl
          · exact .inr ⟨rfl, by simpa [stale] using hst2⟩
        clear hst hst2
        by_cases hk : k = 1
        · subst hk
          rcases hfork with rfl | ⟨rfl, hnl2⟩
          all_goals (try have hd2 : decide (t < c) = false := by simpa using hnl2)
          all_goals
            go_wp2_with fail
            have hM4 := HM2.out.push (.cells #[.int .i64 t, .int .i64 v] 50)
            obtain ⟨sb, hsb⟩ : ∃ sb, sb = w4.heap.size := ⟨_, rfl⟩
            rw [← hsb] at hM4 ⊢
            clear hsb
            refine (hM4.put (t, v) HN2.out ⟨Ht64.out, Hv64.out⟩ Hst.out).mono ?_
            rintro e w5 ⟨rfl, hM5⟩
            obtain ⟨s0, s1, _, _⟩ := hb2 (hM5.box (b := sb) List.mem_cons_self)
            have HM5 := Lib.hid hM5
            clear hM4 hM5
            go_wp2_with fail
            refine (HM5.out.swap.put (t, v) HN2.out ⟨Ht64.out, Hv64.out⟩ Hst.out).mono ?_
            rintro e w6 ⟨rfl, hM6⟩
            have HM6 := Lib.hid hM6
            clear hM6 HM5
            go_wp2_with fail
            go_roundg (len - (n + 1))
            case measure => omega
            case rel => exact ⟨n + 1, t, true, N + 1, _, rfl, by omega, by go_num, by omega, Lib.hid HM6.out.swap.drop⟩
        · have hk1 : (k == 1) = false := by simpa using hk
          rcases hfork with rfl | ⟨rfl, hnl2⟩
          all_goals (try have hd2 : decide (t < c) = false := by simpa using hnl2)
          all_goals
            go_wp2_with fail
            obtain ⟨A, hA⟩ : ∃ A, A = (winRead T (vals (fresh t T.s l))).1 := ⟨_, rfl⟩
            obtain ⟨B, hB⟩ : ∃ B, B = (winRead T (vals (fresh t T.s l))).2 := ⟨_, rfl⟩
            have hC := HM2.out.read t HT.out HN2.out Hst.out
            rw [← hA, ← hB] at hC
            refine hC.mono ?_
            rintro e w5 ⟨rfl, hM5⟩
            have HA := Lib.hid hA
            have HB := Lib.hid hB
            clear hC hA hB
            obtain ⟨o0, o1, o2⟩ := hb3 (hM5.box (b := ob) List.mem_cons_self)
            have hobx : ob < w5.heap.size := hb_lt (hM5.box (b := ob) List.mem_cons_self)
            have HM6 := Lib.hid (hM5.push (.cells #[.int .i64 A, .int .i64 B] 43))
            clear hM5 HM2
            go_wp2_with fail
            have hM6 := HM6.out
            obtain ⟨xb, hxb⟩ : ∃ xb, xb = w5.heap.size := ⟨_, rfl⟩
            rw [← hxb] at hM6 ⊢
            clear hxb HM6 hobx
            have hC := hM6.swap.read t HT.out HN2.out Hst.out
            rw [← HA.out, ← HB.out] at hC
            refine hC.mono ?_
            rintro e w7 ⟨rfl, hM7⟩
            obtain ⟨x0, x1, _, _⟩ := hb2 (hM7.box (b := xb) List.mem_cons_self)
            have hxx : xb < w7.heap.size := hb_lt (hM7.box (b := xb) List.mem_cons_self)
            have HM8 := Lib.hid (hM7.push (.cells #[.int .i64 A, .int .i64 B] 43))
            clear hC hM6 hM7
            go_wp2_with fail
            go_roundg (len - (n + 1))
            case measure => omega
            case rel => exact ⟨n + 1, t, true, N, _, rfl, by omega, by go_num, by omega, Lib.hid HM8.out.swap.drop⟩
    · obtain rfl : n = len := by omega
      go_wp2_with fail
      go_ret
      exact ⟨rfl, HM.out.below⟩
end Go.Proofs.Ytfhhdlpglfjdgaa
/- WindowStale: a window that was handed stale samples and questions answers as one that was not; the row over law_WindowStale. No condition. -/
namespace Go.Proofs.Ytfhhdlpglfjdgaa
open Go.ChangeShapes Go.WideShapes Go.ChangeAt Go.RowKit Go.Joins Go.Deep
set_option linter.unusedVariables false

theorem I64.ofWf {n : Int} (h : (Lit.int .i64 n).wf = true) : I64 n := by
  simp only [Lit.wf, IntKind.min, IntKind.max, IntKind.signed, IntKind.bits, Bool.and_eq_true, decide_eq_true_eq, if_true] at h
  unfold I64; omega
theorem cellsOp : Try.prog.cellsOf 37 = 3 := by kernel_rfl
theorem cellsInt : Try.prog.cellsOf 3 = 1 := by kernel_rfl
theorem cellsI64 : Try.prog.cellsOf 2 = 1 := by kernel_rfl
theorem bytesOp : Try.prog.bytesOf 37 = 24 := by kernel_rfl
theorem len3 {l : List Value} (h : l.length = 3) : ∃ a b c, l = [a, b, c] := by
  match l, h with
  | [a, b, c], _ => exact ⟨a, b, c, rfl⟩
/-- A script, read as data, opened. -/
theorem ops_open {H : Type} {enc : TypeId × Value → H} {w : World} {spare : Nat → Bool} {held : Bool} {fuel : Nat} {a : Option Addr} {len cap : Nat} {x : DataW H × List MemPlace}
    (hf : DataW.trod enc Try.prog w 0 spare held fuel 24 [.slice a len cap] = some x) :
    ∃ ops : List (Int × Int × Int), ops.length = len ∧ OpsAt w a ops ∧ (∀ k t v, (k, t, v) ∈ ops → I64 k ∧ I64 t ∧ I64 v) ∧ (len = 0 ∨ ∃ elems rest, x.1 = .slice elems rest ∧ elems.length = len) := by
  rcases open_slice Try.underlying24 hf with ⟨hcs, _⟩ | ⟨a', len', cap', m, n, D, Pl, hcs, _, hl, hm, hmm, hx, hel⟩
  · simp only [List.cons.injEq, Value.slice.injEq, and_true] at hcs
    obtain ⟨rfl, rfl, rfl⟩ := hcs
    exact ⟨[], rfl, .inl rfl, fun _ _ _ h => by simp at h, .inl rfl⟩
  · simp only [List.cons.injEq, Value.slice.injEq, and_true] at hcs
    obtain ⟨rfl, rfl, rfl⟩ := hcs
    have hlm : len ≤ m := by rw [hmm]; split <;> omega
    rw [cellsOp] at hel
    have h1 : ∀ i, i < len → ∃ y : Int × Int × Int, (I64 y.1 ∧ I64 y.2.1 ∧ I64 y.2.2) ∧ ∃ cs : List Value, cs = [.int .i64 y.1, .int .i64 y.2.1, .int .i64 y.2.2] ∧ ∀ j, j < 3 → w.cell? ((a'.add (i * 3)).add j) = cs[j]? := by
      intro i hi
      obtain ⟨cs, hc, ht⟩ := hel i (by omega)
      obtain ⟨_, hlen, hcell⟩ := World.cells?_some hc
      obtain ⟨y0, y1, y2, n', _, _, t0, t1, t2⟩ := trod_struct3 Try.underlying37 ht
      obtain ⟨c0, c1, c2, rfl⟩ := len3 hlen
      simp only [cellsInt, cellsI64, List.drop_zero, List.drop_succ_cons, List.take_succ_cons, List.take_zero] at t0 t1 t2
      obtain ⟨k, e0, _, w0⟩ := DataW.trod_int Try.underlying3 t0
      obtain ⟨t, e1, _, w1⟩ := DataW.trod_int Try.underlying2 t1
      obtain ⟨v, e2, _, w2⟩ := DataW.trod_int Try.underlying2 t2
      simp only [List.cons.injEq, and_true] at e0 e1 e2
      subst e0 e1 e2
      exact ⟨(k, t, v), ⟨I64.ofWf w0, I64.ofWf w1, I64.ofWf w2⟩, _, rfl, hcell⟩
    obtain ⟨f, hfu⟩ := choose_lt h1
    have hget : ∀ (i : Nat) (y : Int × Int × Int), ((List.range len).map f)[i]? = some y → i < len ∧ f i = y := by
      intro i y h
      rw [List.getElem?_map] at h
      have hi : i < len := by
        rcases Nat.lt_or_ge i len with h' | h'
        · exact h'
        · rw [List.getElem?_eq_none (by simpa using h')] at h; simp at h
      rw [List.getElem?_range hi] at h
      exact ⟨hi, by simpa using h⟩
    refine ⟨(List.range len).map f, by simp, ?_, ?_, .inr ⟨_, _, by rw [hx], by simp⟩⟩
    · by_cases h0 : len = 0
      · subst h0; exact .inl rfl
      · right
        obtain ⟨_, cs, hcs, hc⟩ := hfu 0 (by omega)
        have hc0 := hc 0 (by omega)
        rw [hcs] at hc0
        obtain ⟨b, off, spot⟩ := a'
        have hspot : spot = none := by simpa [Addr.add] using World.cell?_spot hc0
        subst hspot
        refine ⟨b, off, rfl, ?_, ?_⟩
        · exact World.block_lt_of_cell? _ _ hc0
        · intro i k t v hi
          obtain ⟨hi, he⟩ := hget i _ hi
          obtain ⟨_, cs, hcs, hc⟩ := hfu i hi
          rw [he] at hcs
          subst hcs
          have g0 := hc 0 (by omega)
          have g1 := hc 1 (by omega)
          have g2 := hc 2 (by omega)
          rw [Go.WideShapes.add_plain, Go.WideShapes.add_plain] at g0 g1 g2
          exact ⟨g0, g1, g2⟩
    · intro k t v h
      obtain ⟨i, hi⟩ := List.mem_iff_getElem?.1 h
      obtain ⟨hi, he⟩ := hget i _ hi
      have := (hfu i hi).1
      rw [he] at this
      exact this
end Go.Proofs.Ytfhhdlpglfjdgaa
namespace Go.Proofs.Ytfhhdlpglfjdgaa.windowStale
open Go.ChangeShapes Go.WideShapes Go.ChangeAt Go.RowKit Go.Joins Go.Deep
set_option linter.unusedVariables false
theorem own : ownKnob Try.prog.godebug = none := by kernel_rfl
theorem laidOut : laidOutB Try.prog = true := by kernel_rfl
theorem cellsW : Try.prog.cellsOf 23 = 4 := by kernel_rfl
set_option maxRecDepth 100000 in
theorem lifted (os : Os) (started : os.Started) (H : Type) (enc : TypeId × Value → H) :
    ReturnsInHanded {} Try.checked os 4 .any (Rows.windowStaleSpec.pre6 enc Try.prog Try.f4 Rows.windowStaleRow.domain false) (Rows.windowStaleSpec.post enc Try.prog Try.f4 false true false false) := by
  refine returnsInHanded_of_change_sized (C := Try.checked) own started (by kernel_rfl) Try.func4
    (ChangeSpec.witness6 (enc := enc) (C := Try.checked) false ⟨#[], #[.agg #[.int .i64 0, .int .i64 0, .int .i64 0, .int .i64 0], .slice none 0 0], []⟩ 8 (by kernel_rfl) (by kernel_rfl) (by kernel_rfl) (by kernel_rfl)) ?_
  intro W base args ds gs before hval0 hW hcnd hsz0 _
  have hsz : (DataW.weightsEach Try.prog (Try.f4.params.toList ++ Rows.windowStaleSpec.plain.varTypes Try.prog) (ds ++ gs)).all (· ≤ reachBytes) = true := hsz0
  have hval : ∀ (j : Nat) t v, Try.f4.params[j]? = some t → args[j]? = some v → Value.okWide Try.prog W .any base t v := hval0
  have hW' := hW
  obtain ⟨p, q, hA0, hV, rfl, hfz, hnd⟩ := hW
  have hA : DataW.TrodAll enc Try.prog W 0 (fun _ => true) true Try.f4.params.toList args.toList ds p := hA0
  rw [Try.params4] at hA hval hsz
  obtain ⟨v0, v1, d0, d1, p0, p1, rfl, rfl, rfl, h0, h1⟩ := trodAll_two hA
  obtain ⟨rfl, rfl⟩ := trodVars_none hV
  have k0 := h0
  have k1 := h1
  have lt0 : ∀ x ∈ p0, x.block < W.heap.size := by obtain ⟨m, hm⟩ := k0; exact DataW.trod_lt m _ _ _ hm
  have lt1 : ∀ x ∈ p1, x.block < W.heap.size := by obtain ⟨m, hm⟩ := k1; exact DataW.trod_lt m _ _ _ hm
  obtain ⟨c0, c1, c2, c3, y0, y1, y2, y3, m, rfl, _, _, hy0, hy1, hy2, hy3⟩ := open_agg4 Try.underlying23 (by kernel_rfl) cellsW (hval 0 23 v0 rfl rfl) h0
  obtain ⟨a0, e0, _, _⟩ := DataW.trod_int Try.underlying3 hy0
  obtain ⟨a1, e1, _, _⟩ := DataW.trod_int Try.underlying3 hy1
  obtain ⟨a2, e2, _, _⟩ := DataW.trod_int Try.underlying2 hy2
  obtain ⟨a3, e3, _, _⟩ := DataW.trod_int Try.underlying2 hy3
  simp at e0 e1 e2 e3
  subst e0 e1 e2 e3
  obtain ⟨a, len, cap, rfl⟩ := okWide_slice Try.underlying24 (hval 1 24 v1 rfl rfl)
  obtain ⟨fuel, hf⟩ := h1
  obtain ⟨ops, hlen, hops, h64, hd⟩ := ops_open (by simpa [Value.cells] using hf)
  have hbound : ops.length ≤ 4611686018427387904 := by
    rcases hd with hd | ⟨elems, rest, hd, he⟩
    · omega
    · simp only at hd
      subst hd
      have z := sized_slice hsz (j := 1) (t := 24) rfl rfl Try.underlying24
      rw [bytesOp, he] at z
      have : reachBytes = 140737488351232 := rfl
      omega
  subst hlen
  clear hA0 hval0 hy0 hy1 hy2 hy3 hsz0 hsz
  have hwalk : Calls Try.prog 4 #[.agg #[.int .i64 a0, .int .i64 a1, .int .i64 a2, .int .i64 a3], .slice a ops.length cap] W fun e w' => e = .returned (.bool true) ∧ Below W.heap.size W w' := by
    cases hT : WT.right ⟨a0, a1, a2, a3⟩
    · exact law_WindowStale_no ⟨a0, a1, a2, a3⟩ a ops.length cap W hT
    · exact law_WindowStale ⟨a0, a1, a2, a3⟩ a cap ops W hT hops hbound (fun k t v h => (h64 k t v h).2)
  refine hwalk.mono fun e W' ⟨he, bel⟩ => ?_
  subst he
  exact ⟨_, rfl, _, _, _, [], _, [], hW', trodAll_mk1 (shut_bool Try.underlying4 _), trodAll_mk2 (Below.trod laidOut (by kernel_rfl) (of_decide_eq_true (by kernel_rfl)) k0 bel lt0) (Below.trod laidOut (by kernel_rfl) (of_decide_eq_true (by kernel_rfl)) k1 bel lt1), rfl, bel.frame _, fun h => by cases h⟩
theorem over : Rows.windowStaleRow.holds Try.pinned (OpenSpec.ofChange Rows.windowStaleSpec) :=
  OpenClaim.holds_of_wide 4 Try.f4 rfl rfl rfl rfl rfl rfl rfl ⟨rfl, rfl, rfl, rfl, rfl⟩ rfl rfl rfl rfl rfl (by kernel_rfl) Try.func4 (by kernel_rfl)
    (of_decide_eq_true (by kernel_rfl)) (by unfold Func.isWrapper; first | (rw [if_pos (by decide +kernel)]; kernel_rfl) | (rw [if_neg (by decide +kernel)]; exact ⟨rfl, rfl⟩))
    (fun os started H enc _ => lifted os started H enc)
theorem proved : Rows.WindowStaleSaid := over
end Go.Proofs.Ytfhhdlpglfjdgaa.windowStale
namespace Go.Proofs.Ytfhhdlpglfjdgaa
theorem windowStale_holds : Rows.WindowStaleSaid := windowStale.proved
end Go.Proofs.Ytfhhdlpglfjdgaa
