/- The laws of chapter 08: WindowNil. -/
import Derived.Test.YtfhhdlpglfjdgaaLawA
set_option linter.unusedVariables false
set_option linter.unusedSimpArgs false
namespace Go.Proofs.Ytfhhdlpglfjdgaa
open Go.RowKit

/-- A world that is w but for new blocks and draws. -/
structure BelowOf (w : World) where
  world : World
  below : Below w.heap.size w world
instance (w : World) : Nonempty (BelowOf w) := ⟨⟨w, Below.refl _ _⟩⟩
/-- A region that draws, whose operations read old blocks and whose callees make new ones at most: one walk of the text's order. -/
theorem wp_region_calm {P : Program} {id : Nat} {Q : Exit → Act → World → Prop} {a : Act} {w : World} {l : List Oper} (hm : P.follows .mixedOrders = true) (hB : Region.lexB .any l.toArray = true)
    (h : wpQuiet P l.toArray (fun W => ∃ x : BelowOf w, W = x.world) (fun a' => ∀ w', (∃ x : BelowOf w, w' = x.world) → Q .normal a' w') l a) : (Code.region id l.toArray true).wp P Q a w :=
  wp_region_quiet (C := fun W => ∃ x : BelowOf w, W = x.world) hm hB ⟨⟨_, (Below.refl _ _).drew⟩, rfl⟩ (by simpa using h)

/-- The zero window. -/
def zeroWin : Array Value := #[.pointer none, .int .i64 0, .int .i64 0, .int .i64 0, .int .i64 0, .int .i64 0, .bool false, .int .u64 0, .int .u64 0, .pointer none, .pointer none]
/-- What lies in memory at the loop of WindowNil. -/
structure NilMem (w wr : World) (s z : Nat) (t v : Int) : Prop where
  below : Below w.heap.size w wr
  samp : wr.heap[w.heap.size]? = some (.cells #[.int .i64 t, .int .i64 v] 50 (0, 0))
  list : wr.heap[s]? = some (.cells #[.pointer none, .pointer (some ⟨z, 0, none⟩)] 26 (0, 0))
  zero : wr.heap[z]? = some (.cells zeroWin 60 (0, 0))
theorem NilMem.on {w wr wx : World} {s z : Nat} {t v : Int} (h : NilMem w wr s z t v) (hb : Below wr.heap.size wr wx) : NilMem w wx s z t v :=
  ⟨below_up h.below hb, hb_below' h.samp hb, hb_below' h.list hb, hb_below' h.zero hb⟩
/-- The i-th window of the list. -/
def nilPtr (z : Nat) (i : Nat) : Value := if i = 0 then .pointer none else .pointer (some ⟨z, 0, none⟩)
theorem NilMem.refuses {w wr : World} {s z : Nat} {t v : Int} (h : NilMem w wr s z t v) (i : Nat) : Refuses wr (nilPtr z i) t 4 := by
  unfold nilPtr
  split
  · exact refuses_nil wr t
  · exact refuses_zero wr z t (hb_lt h.zero) (hb_cell h.zero 0)
theorem NilMem.clock {w wr : World} {s z : Nat} {t v : Int} (h : NilMem w wr s z t v) (i : Nat) : Calls Try.prog 11 #[nilPtr z i] wr fun e w' => e = .returned (.tuple #[.int .i64 0, .bool false]) ∧ w' = wr := by
  unfold nilPtr
  split
  · exact win_Clock_nil wr
  · exact win_Clock_zero z wr (hb_cell h.zero 0)

/-- A box of a result, laid behind or ahead of the call. -/
def NilCut (wr : World) (o e : Value) (wx : World) : Prop := ∃ ob : Nat, o = .pointer (some ⟨ob, 0, none⟩) ∧ e = .int .i64 4 ∧ Below wr.heap.size wr wx ∧ wx.heap[ob]? = some (.cells #[.int .i64 0, .int .i64 0] 43 (0, 0))
theorem NilCut.late {wr w2 : World} (hb : Below wr.heap.size wr w2) : NilCut wr (.pointer (some ⟨w2.heap.size, 0, none⟩)) (.int .i64 4) (w2.alloc (.cells #[.int .i64 0, .int .i64 0] 43)) :=
  ⟨_, rfl, rfl, hb.alloc hb.size _, hb_new _ _⟩
theorem NilCut.early {wr w2 : World} {u x : Value} (hb : Below wr.heap.size wr w2) (hz : w2.heap[wr.heap.size]? = some (.cells #[u, x] 43 (0, 0))) :
    NilCut wr (.pointer (some ⟨wr.heap.size, 0, none⟩)) (.int .i64 4) ((w2.setCell ⟨wr.heap.size, 0, none⟩ (.int .i64 0)).setCell ⟨wr.heap.size, 1, none⟩ (.int .i64 0)) :=
  ⟨_, rfl, rfl, (hb.setCell (Nat.le_refl _) _).setCell (Nat.le_refl _) _, two_set hz _ _⟩

set_option maxRecDepth 100000 in
set_option maxHeartbeats 3200000 in
theorem law_WindowNil (t v : Int) (w : World) : Calls Try.prog 5 #[.agg #[.int .i64 t, .int .i64 v]] w fun e w' => e = .returned (.bool true) ∧ Below w.heap.size w w' := by
  have h1 := law_awake
  have H1 := Lib.hid h1
  clear h1
  go_enter Try.func5, Try.ntmps5
  go_wp2_with fail
  refine (H1.out _).mono ?_
  rintro e w1 ⟨rfl, hb1⟩
  have hs1 := hb_below' (hb_new w (.cells #[.int .i64 t, .int .i64 v] 50)) hb1
  have hB1 : Below w.heap.size w w1 := below_up (below1 _ _) hb1
  have HS1 := Lib.hid hs1
  have HB1 := Lib.hid hB1
  clear hs1 hB1 hb1
  go_wp2_with fail
  have hM0 : NilMem w ((w1.alloc (.cells zeroWin 60)).alloc (.cells #[.pointer none, .pointer (some ⟨w1.heap.size, 0, none⟩)] 26)) (w1.heap.size + 1) w1.heap.size t v := by
    refine ⟨(HB1.out.alloc HB1.out.size _).alloc (by have := HB1.out.size; simp; omega) _, hb_alloc (hb_alloc HS1.out _) _, ?_, hb_alloc (hb_new _ _) _⟩
    have := hb_new (w1.alloc (.cells zeroWin 60)) (.cells #[.pointer none, .pointer (some ⟨w1.heap.size, 0, none⟩)] 26)
    simpa using this
  have HM0 := Lib.hid hM0
  clear hM0
  obtain ⟨z, hz⟩ : ∃ z, z = w1.heap.size := ⟨_, rfl⟩
  obtain ⟨s, hs⟩ : ∃ s, s = w1.heap.size + 1 := ⟨_, rfl⟩
  unfold zeroWin at HM0
  generalize hWW : (w1.alloc (.cells #[.pointer none, .int .i64 0, .int .i64 0, .int .i64 0, .int .i64 0, .int .i64 0, .bool false, .int .u64 0, .int .u64 0, .pointer none, .pointer none] 60)).alloc (.cells #[.pointer none, .pointer (some ⟨w1.heap.size, 0, none⟩)] 26) = WW at *
  rw [← hs] at HM0 ⊢
  rw [← hz] at HM0 ⊢
  clear hWW hz hs HS1 HB1 H1
  go_loopg [5] 2 (fun k i wr => ∃ n : Nat, k = 2 - n ∧ n ≤ 2 ∧ i = .int .i64 n ∧ Hid (NilMem w wr s z t v))
  case atStart => exact ⟨0, rfl, by omega, rfl, HM0⟩
  case round =>
    obtain ⟨n, rfl, hn, rfl, HM⟩ := hrel
    clear HM0
    rcases Nat.lt_or_ge n 2 with hlt | hge
    · have hn0 : (0 : Int) ≤ (n : Int) := by omega
      have hn1 : (n : Int) < 2 := by omega
      have hd : decide ((n : Int) < 2) = true := by simpa using hn1
      go_upto_region 8 with fail
      have hp : wr.cell? ⟨s, n, none⟩ = some (nilPtr z n) := by
        rw [hb_cell HM.out.list]
        unfold nilPtr
        rcases Nat.eq_zero_or_pos n with rfl | h
        · rfl
        · obtain rfl : n = 1 := by omega
          rfl
      obtain ⟨p, hpe⟩ : ∃ p, p = nilPtr z n := ⟨_, rfl⟩
      have href : Refuses wr p t 4 := by rw [hpe]; exact HM.out.refuses n
      have hclk : ∀ w', Below wr.heap.size wr w' → Calls Try.prog 11 #[p] w' fun e w'' => e = .returned (.tuple #[.int .i64 0, .bool false]) ∧ w'' = w' := by intro w' hb; rw [hpe]; exact (HM.out.on hb).clock n
      rw [← hpe] at hp
      have HRef := Lib.hid href
      have HClk := Lib.hid hclk
      have HP := Lib.hid hp
      clear href hclk hp hpe
      have hsw : s < wr.heap.size := hb_lt HM.out.list
      have hww : w.heap.size < wr.heap.size := hb_lt HM.out.samp
      go_cut [6, 7] (fun o e wx => NilCut wr o e wx)
      case first =>
        obtain ⟨x0, x1, _, _⟩ := hb2 HM.out.samp
        have hp := HP.out
        have hRd : ∀ W', Below wr.heap.size wr W' → Calls Try.prog 12 #[p, .int .i64 t] W' fun e w' => e = .returned (.tuple #[.agg #[.int .i64 0, .int .i64 0], .int .i64 4]) ∧ Below wr.heap.size wr w' ∧ (∀ (k : Nat) (o : Obj), W'.heap[k]? = some o → w'.heap[k]? = some o) := by
          intro W' hb
          refine (win_Read_no p t 4 W' (fun w'' h => HRef.out w'' (below_up hb h)) (.inl rfl)).mono ?_
          rintro e w' ⟨rfl, h⟩
          exact ⟨rfl, below_up hb h, fun k o ho => hb_below' ho h⟩
        have HRd := Lib.hid hRd
        clear hRd
        go_region_with (first | (refine (HRd.out _ ?hbb).mono ?_; (case hbb => first | exact Below.refl _ _ | exact below1 _ _ | exact (Below.refl _ _).drew | exact (below1 _ _).drew); rintro e w2 ⟨rfl, hb2x, hk⟩; first | (have zz := hk _ _ (hb_new _ _); obtain ⟨z0, z1, z2, z3⟩ := hb2 zz; have HZ := Lib.hid zz; clear zz) | (have zz := hk _ _ (hb_new' _ _); obtain ⟨z0, z1, z2, z3⟩ := hb2 zz; have HZ := Lib.hid zz; clear zz) | skip))
        all_goals go_wp2_with fail
        all_goals go_meet
        all_goals first
          | exact NilCut.late hb2x
          | exact NilCut.early hb2x HZ.out
          | skip
      case rest =>
        obtain ⟨ob, rfl, rfl, hb8, hob⟩ := hcut
        obtain ⟨w8, hw8⟩ : ∃ w8, w8 = wc := ⟨_, rfl⟩
        subst hw8
        have HM8 := Lib.hid (HM.out.on hb8)
        have HB8 := Lib.hid hb8
        have HOB := Lib.hid hob
        have HP8 := Lib.hid ((hb8.cell (p := ⟨s, n, none⟩) hsw).trans HP.out)
        clear hb8 hob
        go_upto_region 9 with fail
        go_cut [8, 9] (fun l e wx => l = .slice none 0 0 ∧ e = .int .i64 4 ∧ Below w8.heap.size w8 wx)
        case first =>
          obtain ⟨x0, x1, _, _⟩ := hb2 HM8.out.samp
          have hp := HP8.out
          have hHd : ∀ W', Below w8.heap.size w8 W' → Calls Try.prog 13 #[p, .int .i64 t] W' fun e w' => e = .returned (.tuple #[.slice none 0 0, .int .i64 4]) ∧ w' = W' :=
            fun W' hb => win_Held_no p t 4 W' (fun w'' h => HRef.out w'' (below_up HB8.out (below_up hb h))) (.inl rfl)
          have HHd := Lib.hid hHd
          clear hHd
          go_region_with (first | (refine (HHd.out _ ?hbb).mono ?_; (case hbb => first | exact Below.refl _ _ | exact (Below.refl _ _).drew); rintro e w2 ⟨rfl, rfl⟩))
          all_goals go_wp2_with fail
          all_goals go_meet
          all_goals first
            | exact ⟨rfl, rfl, (Below.refl _ _).drew⟩
            | exact ⟨rfl, rfl, Below.refl _ _⟩
            | skip
        case rest =>
          obtain ⟨rfl, rfl, hb9⟩ := hcut
          obtain ⟨w9, hw9⟩ : ∃ w9, w9 = wc := ⟨_, rfl⟩
          subst hw9
          have HM9 := Lib.hid (HM8.out.on hb9)
          have HB9 := Lib.hid (below_up HB8.out hb9)
          have HOB9 := Lib.hid (hb_below' HOB.out hb9)
          have hp9 := (hb9.cell (p := ⟨s, n, none⟩) (hb_lt HM8.out.list)).trans HP8.out
          have HP9 := Lib.hid hp9
          clear hb9
          go_wp2_with fail
          refine (HClk.out _ HB9.out).mono ?_
          rintro e w10 ⟨rfl, rfl⟩
          clear hp9
          go_upto_region 11 with fail
          go_cut [83] (fun b wx => b = .bool false ∧ Below w10.heap.size w10 wx)
          case first =>
            obtain ⟨x0, x1, _, _⟩ := hb2 HM9.out.samp
            obtain ⟨o0, o1, _, _⟩ := hb2 HOB9.out
            have hp := HP9.out
            have F0 : ∀ W : BelowOf w10, W.world.cell? ⟨s, n, none⟩ = some p := fun W => (W.below.cell (p := ⟨s, n, none⟩) (hb_lt HM9.out.list)).trans hp
            have F1 : ∀ W : BelowOf w10, W.world.cell? ⟨w.heap.size, 0, none⟩ = some (.int .i64 t) := fun W => (W.below.cell (p := ⟨w.heap.size, 0, none⟩) (hb_lt HM9.out.samp)).trans x0
            have F2 : ∀ W : BelowOf w10, W.world.cell? ⟨w.heap.size, 1, none⟩ = some (.int .i64 v) := fun W => (W.below.cell (p := ⟨w.heap.size, 1, none⟩) (hb_lt HM9.out.samp)).trans x1
            have F3 : ∀ W : BelowOf w10, W.world.cell? ⟨ob, 0, none⟩ = some (.int .i64 0) := fun W => (W.below.cell (p := ⟨ob, 0, none⟩) (hb_lt HOB9.out)).trans o0
            have F4 : ∀ W : BelowOf w10, W.world.cell? ⟨ob, 1, none⟩ = some (.int .i64 0) := fun W => (W.below.cell (p := ⟨ob, 1, none⟩) (hb_lt HOB9.out)).trans o1
            have hPt : ∀ W : BelowOf w10, Calls Try.prog 14 #[p, .agg #[.int .i64 t, .int .i64 v]] W.world fun e w' => e = .returned (.int .i64 4) ∧ ∃ y : BelowOf w10, w' = y.world := by
              intro W
              refine (win_Put_no p t v 4 W.world (fun w'' h => HRef.out w'' (below_up HB9.out (below_up W.below h))) (.inl rfl)).mono ?_
              rintro e w' ⟨rfl, h⟩
              exact ⟨rfl, ⟨_, below_up W.below h⟩, rfl⟩
            have HPt := Lib.hid hPt
            clear hPt
            refine wp_region_calm (by kernel_rfl) (by kernel_rfl) ?_
            repeat (open BigFrame in go_big_quiet_step (exact HPt.out _))
            refine wpQuiet_nil ?_
            intro w' hw'
            obtain ⟨⟨wx, hbx⟩, rfl⟩ := hw'
            go_wp2_with fail
            go_meet
            exact ⟨rfl, hbx⟩
          case rest =>
            obtain ⟨rfl, hb11⟩ := hcut
            have HM11 := Lib.hid (HM9.out.on hb11)
            clear hb11
            go_wp2_with fail
            go_roundg (2 - (n + 1))
            case measure => omega
            case rel => exact ⟨n + 1, rfl, by omega, by go_num, HM11⟩
    · obtain rfl : n = 2 := by omega
      go_wp2_with fail
      go_ret
      exact ⟨rfl, HM.out.below⟩
end Go.Proofs.Ytfhhdlpglfjdgaa
