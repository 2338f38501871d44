/- The laws of chapter 08: WindowStale, walked. -/
import Derived.Test.YtfhhdlpglfjdgaaLawB
set_option linter.unusedVariables false
set_option linter.unusedSimpArgs false
namespace Go.Proofs.Ytfhhdlpglfjdgaa
open Go.RowKit

/-- A script, as it lies in memory: kind, time, value of each step. -/
def OpsAt (w : World) (a : Option Addr) (ops : List (Int × Int × Int)) : Prop :=
  ops = [] ∨ ∃ b off, a = some ⟨b, off, none⟩ ∧ b < w.heap.size ∧ ∀ i k t v, ops[i]? = some (k, t, v) → w.cell? ⟨b, off + i * 3, none⟩ = some (.int .i64 k) ∧ w.cell? ⟨b, off + i * 3 + 1, none⟩ = some (.int .i64 t) ∧ w.cell? ⟨b, off + i * 3 + 2, none⟩ = some (.int .i64 v)

/-- Two windows of the same terms, apart from one another and from what was there; boxes that are kept. -/
def Two (w0 wr : World) (T : WT) (ga gb : Nat) (ca : Int) (ba : Bool) (Na : Int) (la : List (Int × Int)) (cb : Int) (bb : Bool) (Nb : Int) (lb : List (Int × Int)) (bx : List (Nat × Obj)) : Prop :=
  ∃ Fa Fb, WinAt wr Fa ga T ca ba Na la ∧ WinAt wr Fb gb T cb bb Nb lb ∧ (∀ k, Fa k → ¬ Fb k) ∧ (∀ k, Fa k → w0.heap.size ≤ k) ∧ (∀ k, Fb k → w0.heap.size ≤ k) ∧ Below w0.heap.size w0 wr ∧ ∀ p ∈ bx, wr.heap[p.1]? = some p.2 ∧ ¬ Fa p.1 ∧ ¬ Fb p.1
section
variable {w0 wr wx : World} {T : WT} {ga gb : Nat} {ca : Int} {ba : Bool} {Na : Int} {la : List (Int × Int)} {cb : Int} {bb : Bool} {Nb : Int} {lb : List (Int × Int)} {bx : List (Nat × Obj)}
theorem Two.below (h : Two w0 wr T ga gb ca ba Na la cb bb Nb lb bx) : Below w0.heap.size w0 wr := by
  obtain ⟨Fa, Fb, h1, h2, h3, h4, h5, h6, h7⟩ := h; exact h6
theorem Two.on (h : Two w0 wr T ga gb ca ba Na la cb bb Nb lb bx) (hb : Below wr.heap.size wr wx) : Two w0 wx T ga gb ca ba Na la cb bb Nb lb bx := by
  obtain ⟨Fa, Fb, h1, h2, h3, h4, h5, h6, h7⟩ := h
  exact ⟨Fa, Fb, h1.below hb, h2.below hb, h3, h4, h5, below_up h6 hb, fun p hp => ⟨hb_below' (h7 p hp).1 hb, (h7 p hp).2⟩⟩
theorem Two.push (h : Two w0 wr T ga gb ca ba Na la cb bb Nb lb bx) (o : Obj) : Two w0 (wr.alloc o) T ga gb ca ba Na la cb bb Nb lb ((wr.heap.size, o) :: bx) := by
  obtain ⟨Fa, Fb, h1, h2, h3, h4, h5, h6, h7⟩ := h.on (below1 wr o)
  obtain ⟨Fa0, Fb0, k1, k2, k3, k4, k5, k6, k7⟩ := h
  refine ⟨Fa0, Fb0, k1.below (below1 wr o), k2.below (below1 wr o), k3, k4, k5, h6, fun p hp => ?_⟩
  rcases List.mem_cons.1 hp with rfl | hp
  · exact ⟨hb_new _ _, fun h => Nat.lt_irrefl _ (k1.lt _ h), fun h => Nat.lt_irrefl _ (k2.lt _ h)⟩
  · exact ⟨hb_alloc (k7 p hp).1 _, (k7 p hp).2⟩
theorem Two.drop (h : Two w0 wr T ga gb ca ba Na la cb bb Nb lb bx) : Two w0 wr T ga gb ca ba Na la cb bb Nb lb [] := by
  obtain ⟨Fa, Fb, h1, h2, h3, h4, h5, h6, h7⟩ := h
  exact ⟨Fa, Fb, h1, h2, h3, h4, h5, h6, fun p hp => by simp at hp⟩
theorem Two.box (h : Two w0 wr T ga gb ca ba Na la cb bb Nb lb bx) {b : Nat} {o : Obj} (hp : (b, o) ∈ bx) : wr.heap[b]? = some o := by
  obtain ⟨Fa, Fb, h1, h2, h3, h4, h5, h6, h7⟩ := h
  exact (h7 _ hp).1
theorem Two.left {F F' : Nat → Prop} {ca' : Int} {ba' : Bool} {Na' : Int} {la' : List (Int × Int)} (h1 : WinAt wr F ga T ca ba Na la) {Fb : Nat → Prop} (h2 : WinAt wr Fb gb T cb bb Nb lb) (h3 : ∀ k, F k → ¬ Fb k) (h4 : ∀ k, F k → w0.heap.size ≤ k) (h5 : ∀ k, Fb k → w0.heap.size ≤ k)
    (h6 : Below w0.heap.size w0 wr) (h7 : ∀ p ∈ bx, wr.heap[p.1]? = some p.2 ∧ ¬ F p.1 ∧ ¬ Fb p.1) (hf : Fr F wr wx) (hE : Ext F F' wr wx) (hw : WinAt wx F' ga T ca' ba' Na' la') : Two w0 wx T ga gb ca' ba' Na' la' cb bb Nb lb bx := by
  have hs := h6.size
  refine ⟨F', Fb, hw, h2.keep (fun k hk => hf.block k (h2.lt k hk) (fun h => h3 k h hk)) hf.size, ?_, ?_, h5, h6.trans (hf.below h4 hs), ?_⟩
  · intro k hk hb
    rcases hE k hk with h | h
    · exact h3 k h hb
    · have := h2.lt k hb; omega
  · intro k hk
    rcases hE k hk with h | h
    · exact h4 k h
    · omega
  · intro p hp
    refine ⟨hf.blk (h7 p hp).1 (h7 p hp).2.1, fun h => ?_, (h7 p hp).2.2⟩
    rcases hE _ h with h | h
    · exact (h7 p hp).2.1 h
    · have := hb_lt (h7 p hp).1; omega
theorem Two.swap (h : Two w0 wr T ga gb ca ba Na la cb bb Nb lb bx) : Two w0 wr T gb ga cb bb Nb lb ca ba Na la bx := by
  obtain ⟨Fa, Fb, h1, h2, h3, h4, h5, h6, h7⟩ := h
  exact ⟨Fb, Fa, h2, h1, fun k hk h => h3 k h hk, h5, h4, h6, fun p hp => ⟨(h7 p hp).1, (h7 p hp).2.2, (h7 p hp).2.1⟩⟩
theorem Two.put (h : Two w0 wr T ga gb ca ba Na la cb bb Nb lb bx) (x : Int × Int) (hN : Na ≤ 4611686018427387904) (hx : I64 x.1 ∧ I64 x.2) (ht : stale ba ca x.1 = false) :
    Calls Try.prog 14 #[.pointer (some ⟨ga, 0, none⟩), .agg #[.int .i64 x.1, .int .i64 x.2]] wr fun e w' => e = .returned (.int .i64 0) ∧ Two w0 w' T ga gb x.1 true (Na + 1) (pushL la x) cb bb Nb lb bx := by
  obtain ⟨Fa, Fb, h1, h2, h3, h4, h5, h6, h7⟩ := h
  refine (win_Put Fa ga T ca Na ba la x wr h1 hN hx ht).mono ?_
  rintro e w' ⟨rfl, hf, F', hE, hw⟩
  exact ⟨rfl, Two.left h1 h2 h3 h4 h5 h6 h7 hf hE hw⟩
theorem Two.read (h : Two w0 wr T ga gb ca ba Na la cb bb Nb lb bx) (t : Int) (hT : T.right = true) (hN : Na ≤ 4611686018427387904) (ht : stale ba ca t = false) :
    Calls Try.prog 12 #[.pointer (some ⟨ga, 0, none⟩), .int .i64 t] wr fun e w' => e = .returned (.tuple #[.agg #[.int .i64 (winRead T (vals (fresh t T.s la))).1, .int .i64 (winRead T (vals (fresh t T.s la))).2], .int .i64 0]) ∧ Two w0 w' T ga gb t true Na (fresh t T.s la) cb bb Nb lb bx := by
  obtain ⟨Fa, Fb, h1, h2, h3, h4, h5, h6, h7⟩ := h
  refine (win_Read Fa ga T ca Na t ba la wr h1 hT hN ht).mono ?_
  rintro e w' ⟨rfl, hf, F', hE, hw⟩
  exact ⟨rfl, Two.left h1 h2 h3 h4 h5 h6 h7 hf hE hw⟩
theorem Two.clock (h : Two w0 wr T ga gb ca ba Na la cb bb Nb lb bx) :
    Calls Try.prog 11 #[.pointer (some ⟨ga, 0, none⟩)] wr fun e w' => e = .returned (.tuple #[.int .i64 ca, .bool ba]) ∧ Two w0 w' T ga gb ca ba Na la cb bb Nb lb bx := by
  have h0 := h
  obtain ⟨Fa, Fb, h1, h2, h3, h4, h5, h6, h7⟩ := h
  refine (win_Clock wr h1).mono ?_
  rintro e w' ⟨rfl, hb⟩
  exact ⟨rfl, h0.on hb⟩
theorem Two.refuses (h : Two w0 wr T ga gb ca true Na la cb bb Nb lb bx) (t : Int) (ht : t < ca) : Refuses wr (.pointer (some ⟨ga, 0, none⟩)) t 32 := by
  obtain ⟨Fa, Fb, h1, h2, h3, h4, h5, h6, h7⟩ := h
  exact refuses_stale h1 t ht
theorem Two.read_no (h : Two w0 wr T ga gb ca true Na la cb bb Nb lb bx) (t : Int) (ht : t < ca) :
    Calls Try.prog 12 #[.pointer (some ⟨ga, 0, none⟩), .int .i64 t] wr fun e w' => e = .returned (.tuple #[.agg #[.int .i64 0, .int .i64 0], .int .i64 32]) ∧ Two w0 w' T ga gb ca true Na la cb bb Nb lb bx :=
  (win_Read_no _ t 32 wr (h.refuses t ht) (.inr rfl)).mono fun _ _ hh => ⟨hh.1, h.on hh.2⟩
theorem Two.held_no (h : Two w0 wr T ga gb ca true Na la cb bb Nb lb bx) (t : Int) (ht : t < ca) :
    Calls Try.prog 13 #[.pointer (some ⟨ga, 0, none⟩), .int .i64 t] wr fun e w' => e = .returned (.tuple #[.slice none 0 0, .int .i64 32]) ∧ Two w0 w' T ga gb ca true Na la cb bb Nb lb bx :=
  (win_Held_no _ t 32 wr (h.refuses t ht) (.inr rfl)).mono fun _ w' hh => ⟨hh.1, by obtain ⟨_, rfl⟩ := hh; exact h⟩
theorem Two.put_no (h : Two w0 wr T ga gb ca true Na la cb bb Nb lb bx) (t v : Int) (ht : t < ca) :
    Calls Try.prog 14 #[.pointer (some ⟨ga, 0, none⟩), .agg #[.int .i64 t, .int .i64 v]] wr fun e w' => e = .returned (.int .i64 32) ∧ Two w0 w' T ga gb ca true Na la cb bb Nb lb bx :=
  (win_Put_no _ t v 32 wr (h.refuses t ht) (.inr rfl)).mono fun _ _ hh => ⟨hh.1, h.on hh.2⟩
end
/-- Three cells of one block. -/
theorem hb3 {w : World} {b : Nat} {x y z : Value} {t : TypeId} (h : w.heap[b]? = some (.cells #[x, y, z] t (0, 0))) : w.cell? ⟨b, 0, none⟩ = some x ∧ w.cell? ⟨b, 1, none⟩ = some y ∧ w.cell? ⟨b, 2, none⟩ = some z :=
  ⟨hb_cell h 0, hb_cell h 1, hb_cell h 2⟩

set_option maxRecDepth 100000 in
set_option maxHeartbeats 1600000 in
theorem law_WindowStale_no (T : WT) (a : Option Addr) (n cap : Nat) (w : World) (hT : T.right = false) :
    Calls Try.prog 4 #[.agg #[.int .i64 T.m, .int .i64 T.a, .int .i64 T.s, .int .i64 T.p], .slice a n cap] w fun e w' => e = .returned (.bool true) ∧ Below w.heap.size w w' := by
  have h1 := law_awake
  have H1 := Lib.hid h1
  have h2 := fun w => win_New_no T w hT
  have H2 := Lib.hid h2
  clear h1 h2 hT
  obtain ⟨m, ag, s, p⟩ := T
  go_enter Try.func4, Try.ntmps4
  go_wp2_with fail
  refine (H1.out _).mono ?_
  rintro e w1 ⟨rfl, hb1⟩
  have hs1 := hb_below' (hb_new w (.cells #[.int .i64 m, .int .i64 ag, .int .i64 s, .int .i64 p] 23)) hb1
  have hB1 : Below w.heap.size w w1 := below_up (below1 _ _) hb1
  have k0 := hb_cell hs1 0
  have k1 := hb_cell hs1 1
  have k2 := hb_cell hs1 2
  have k3 := hb_cell hs1 3
  simp only [List.getElem?_toArray, List.getElem?_cons_zero, List.getElem?_cons_succ] at k0 k1 k2 k3
  have HS1 := Lib.hid hs1
  have HB1 := Lib.hid hB1
  clear hs1 hB1 hb1
  go_wp2_with fail
  refine (H2.out _).mono ?_
  rintro e w2 ⟨rfl, hb2x⟩
  have hs2 := hb_below' HS1.out hb2x
  have k0 := hb_cell hs2 0
  have k1 := hb_cell hs2 1
  have k2 := hb_cell hs2 2
  have k3 := hb_cell hs2 3
  simp only [List.getElem?_toArray, List.getElem?_cons_zero, List.getElem?_cons_succ] at k0 k1 k2 k3
  have HB2 := Lib.hid (below_up HB1.out hb2x)
  clear hs2 hb2x
  go_wp2_with fail
  refine (H2.out _).mono ?_
  rintro e w3 ⟨rfl, hb3x⟩
  have HB3 := Lib.hid (below_up HB2.out hb3x)
  clear hb3x
  go_wp2_with fail
  go_ret
  exact ⟨rfl, HB3.out⟩
set_option maxRecDepth 100000 in
set_option maxHeartbeats 6400000 in
theorem law_WindowStale (T : WT) (a : Option Addr) (cap : Nat) (ops : List (Int × Int × Int)) (w : World) (hT : T.right = true) (hO : OpsAt w a ops) (hn : ops.length ≤ 4611686018427387904) (h64 : ∀ k t v, (k, t, v) ∈ ops → I64 t ∧ I64 v) :
    Calls Try.prog 4 #[.agg #[.int .i64 T.m, .int .i64 T.a, .int .i64 T.s, .int .i64 T.p], .slice a ops.length cap] w fun e w' => e = .returned (.bool true) ∧ Below w.heap.size w w' := by
  have h1 := law_awake
  have H1 := Lib.hid h1
  have h2 := fun w => win_New T w hT
  have H2 := Lib.hid h2
  have HT := Lib.hid hT
  have HO := Lib.hid hO
  have H64 := Lib.hid h64
  obtain ⟨len, hlen⟩ : ∃ len, len = ops.length := ⟨_, rfl⟩
  rw [← hlen] at hn ⊢
  have Hlen := Lib.hid hlen
  clear h1 h2 hT hO h64 hlen
  obtain ⟨m, hm⟩ : ∃ m, m = T.m := ⟨_, rfl⟩
  obtain ⟨ag, hag⟩ : ∃ m, m = T.a := ⟨_, rfl⟩
  obtain ⟨s, hs⟩ : ∃ m, m = T.s := ⟨_, rfl⟩
  obtain ⟨p, hp⟩ : ∃ m, m = T.p := ⟨_, rfl⟩
  rw [← hm, ← hag, ← hs, ← hp] at H2 ⊢
  clear hm hag hs hp
  go_enter Try.func4, Try.ntmps4
  go_wp2_with fail
  refine (H1.out _).mono ?_
  rintro e w1 ⟨rfl, hb1⟩
  have hs1 := hb_below' (hb_new w (.cells #[.int .i64 m, .int .i64 ag, .int .i64 s, .int .i64 p] 23)) hb1
  have hB1 : Below w.heap.size w w1 := below_up (below1 _ _) hb1
  have k0 := hb_cell hs1 0
  have k1 := hb_cell hs1 1
  have k2 := hb_cell hs1 2
  have k3 := hb_cell hs1 3
  simp only [List.getElem?_toArray, List.getElem?_cons_zero, List.getElem?_cons_succ] at k0 k1 k2 k3
  have HS1 := Lib.hid hs1
  have HB1 := Lib.hid hB1
  clear hs1 hB1 hb1
  go_wp2_with fail
  refine (H2.out _).mono ?_
  rintro e w2 ⟨ga, Fa, rfl, hb2x, hwa, hFa⟩
  have hs2 := hb_below' HS1.out hb2x
  have k0 := hb_cell hs2 0
  have k1 := hb_cell hs2 1
  have k2 := hb_cell hs2 2
  have k3 := hb_cell hs2 3
  simp only [List.getElem?_toArray, List.getElem?_cons_zero, List.getElem?_cons_succ] at k0 k1 k2 k3
  have HB2 := Lib.hid (below_up HB1.out hb2x)
  have HWa := Lib.hid hwa
  have HFa := Lib.hid (show ∀ k, Fa k → w.heap.size ≤ k from fun k hk => Nat.le_trans HB1.out.size (hFa k hk))
  clear hs2 hb2x hwa hFa
  go_wp2_with fail
  refine (H2.out _).mono ?_
  rintro e w3 ⟨gb, Fb, rfl, hb3x, hwb, hFb⟩
  have hT0 : Two w w3 T ga gb 0 false 0 [] 0 false 0 [] [] :=
    ⟨Fa, Fb, HWa.out.below hb3x, hwb, fun k hk h => by have := HWa.out.lt k hk; have := hFb k h; omega, HFa.out, fun k hk => Nat.le_trans HB2.out.size (hFb k hk), below_up HB2.out hb3x, fun p hp => by simp at hp⟩
  have HT0 := Lib.hid hT0
  clear hb3x hwb hFb hT0 HWa HFa HB2 HB1 HS1 k0 k1 k2 k3 H1 H2
  go_wp2_with fail
  go_loopg [9] len (fun k i wr => ∃ (n : Nat) (c : Int) (b : Bool) (N : Int) (l : List (Int × Int)), k = len - n ∧ n ≤ len ∧ i = .int .i64 n ∧ N ≤ n ∧ Hid (Two w wr T ga gb c b N l c b N l []))
  case atStart => exact ⟨0, 0, false, 0, [], rfl, by omega, rfl, by omega, HT0⟩
  case round =>
    obtain ⟨n, c, b, N, l, rfl, hnl, rfl, hN, HM⟩ := hrel
    clear HT0
    rcases Nat.lt_or_ge n len with hlt | hge
    · have hn0 : (0 : Int) ≤ (n : Int) := by omega
      have hn1 : (n : Int) < (len : Int) := by omega
      have hd : decide ((n : Int) < (len : Int)) = true := by simpa using hn1
      have hN2 : N ≤ 4611686018427387904 := by omega
      obtain ⟨⟨k, t, v⟩, hx⟩ : ∃ x, ops[n]? = some x := ⟨_, List.getElem?_eq_getElem (by rw [← Hlen.out]; exact hlt)⟩
      have hmem := List.mem_of_getElem? hx
      obtain ⟨ht64, hv64⟩ := H64.out k t v hmem
      obtain ⟨bo, off, rfl, hbo, hcs⟩ := HO.out.resolve_left (fun h => by rw [h] at hx; simp at hx)
      obtain ⟨d0, d1, d2⟩ := hcs n k t v hx
      have d0 := (HM.out.below.cell (p := ⟨bo, off + n * 3, none⟩) hbo).trans d0
      have d1 := (HM.out.below.cell (p := ⟨bo, off + n * 3 + 1, none⟩) hbo).trans d1
      have d2 := (HM.out.below.cell (p := ⟨bo, off + n * 3 + 2, none⟩) hbo).trans d2
      have HN2 := Lib.hid hN2
      have Ht64 := Lib.hid ht64
      have Hv64 := Lib.hid hv64
      clear hN2 ht64 hv64 hcs hbo hx hmem
      go_wp2_with fail
      have hM1 := HM.out.push (.cells #[.int .i64 k, .int .i64 t, .int .i64 v] 37)
      obtain ⟨ob, hob⟩ : ∃ ob, ob = wr.heap.size := ⟨_, rfl⟩
      rw [← hob] at hM1
      refine hM1.swap.clock.mono ?_
      rintro e w4 ⟨rfl, hM2⟩
      obtain ⟨o0, o1, o2⟩ := hb3 (hM2.box (b := ob) List.mem_cons_self)
      have HM2 := Lib.hid hM2.swap
      rw [← hob]
      clear hM1 hM2 hob d0 d1 d2
      by_cases hst : stale b c t = true
      · obtain ⟨rfl, hlt2⟩ : b = true ∧ t < c := by simpa [stale] using hst
        have hd2 : decide (t < c) = true := by simpa using hlt2
        clear hst
        go_wp2_with fail
        refine (HM2.out.read_no t hlt2).mono ?_
        rintro e w5 ⟨rfl, hM5⟩
        have HM6 := Lib.hid (hM5.push (.cells #[.int .i64 0, .int .i64 0] 43))
        have hobx : ob < w5.heap.size := hb_lt (hM5.box (b := ob) List.mem_cons_self)
        obtain ⟨o0, o1, o2⟩ := hb3 (hM5.box (b := ob) List.mem_cons_self)
        clear hM5
        go_wp2_with fail
        have hM6 := HM6.out
        obtain ⟨xb, hxb⟩ : ∃ xb, xb = w5.heap.size := ⟨_, rfl⟩
        rw [← hxb] at hM6 ⊢
        clear hxb HM6 hobx
        refine (hM6.held_no t hlt2).mono ?_
        rintro e w7 ⟨rfl, hM7⟩
        obtain ⟨o0, o1, o2⟩ := hb3 (hM7.box (b := ob) (List.mem_cons_of_mem _ List.mem_cons_self))
        obtain ⟨x0, x1, _, _⟩ := hb2 (hM7.box (b := xb) List.mem_cons_self)
        have HM7 := Lib.hid hM7
        clear hM6 hM7
        go_wp2_with fail
        refine (HM7.out.put_no t v hlt2).mono ?_
        rintro e w8 ⟨rfl, hM8⟩
        obtain ⟨o0, o1, o2⟩ := hb3 (hM8.box (b := ob) (List.mem_cons_of_mem _ List.mem_cons_self))
        obtain ⟨x0, x1, _, _⟩ := hb2 (hM8.box (b := xb) List.mem_cons_self)
        have HM8 := Lib.hid hM8
        clear hM8 HM7
        go_wp2_with fail
        go_roundg (len - (n + 1))
        case measure => omega
        case rel => exact ⟨n + 1, c, true, N, l, rfl, by omega, by go_num, by omega, Lib.hid HM8.out.drop⟩
      · have hst2 : stale b c t = false := by simpa using hst
        have Hst := Lib.hid hst2
        have hfork : b = false ∨ (b = true ∧ ¬ t < c) := by
          cases b
          · exact .inl rfl
          · exact .inr ⟨rfl, by simpa [stale] using hst2⟩
        clear hst hst2
        by_cases hk : k = 1
        · subst hk
          rcases hfork with rfl | ⟨rfl, hnl2⟩
          all_goals (try have hd2 : decide (t < c) = false := by simpa using hnl2)
          all_goals
            go_wp2_with fail
            have hM4 := HM2.out.push (.cells #[.int .i64 t, .int .i64 v] 50)
            obtain ⟨sb, hsb⟩ : ∃ sb, sb = w4.heap.size := ⟨_, rfl⟩
            rw [← hsb] at hM4 ⊢
            clear hsb
            refine (hM4.put (t, v) HN2.out ⟨Ht64.out, Hv64.out⟩ Hst.out).mono ?_
            rintro e w5 ⟨rfl, hM5⟩
            obtain ⟨s0, s1, _, _⟩ := hb2 (hM5.box (b := sb) List.mem_cons_self)
            have HM5 := Lib.hid hM5
            clear hM4 hM5
            go_wp2_with fail
            refine (HM5.out.swap.put (t, v) HN2.out ⟨Ht64.out, Hv64.out⟩ Hst.out).mono ?_
            rintro e w6 ⟨rfl, hM6⟩
            have HM6 := Lib.hid hM6
            clear hM6 HM5
            go_wp2_with fail
            go_roundg (len - (n + 1))
            case measure => omega
            case rel => exact ⟨n + 1, t, true, N + 1, _, rfl, by omega, by go_num, by omega, Lib.hid HM6.out.swap.drop⟩
        · have hk1 : (k == 1) = false := by simpa using hk
          rcases hfork with rfl | ⟨rfl, hnl2⟩
          all_goals (try have hd2 : decide (t < c) = false := by simpa using hnl2)
          all_goals
            go_wp2_with fail
            obtain ⟨A, hA⟩ : ∃ A, A = (winRead T (vals (fresh t T.s l))).1 := ⟨_, rfl⟩
            obtain ⟨B, hB⟩ : ∃ B, B = (winRead T (vals (fresh t T.s l))).2 := ⟨_, rfl⟩
            have hC := HM2.out.read t HT.out HN2.out Hst.out
            rw [← hA, ← hB] at hC
            refine hC.mono ?_
            rintro e w5 ⟨rfl, hM5⟩
            have HA := Lib.hid hA
            have HB := Lib.hid hB
            clear hC hA hB
            obtain ⟨o0, o1, o2⟩ := hb3 (hM5.box (b := ob) List.mem_cons_self)
            have hobx : ob < w5.heap.size := hb_lt (hM5.box (b := ob) List.mem_cons_self)
            have HM6 := Lib.hid (hM5.push (.cells #[.int .i64 A, .int .i64 B] 43))
            clear hM5 HM2
            go_wp2_with fail
            have hM6 := HM6.out
            obtain ⟨xb, hxb⟩ : ∃ xb, xb = w5.heap.size := ⟨_, rfl⟩
            rw [← hxb] at hM6 ⊢
            clear hxb HM6 hobx
            have hC := hM6.swap.read t HT.out HN2.out Hst.out
            rw [← HA.out, ← HB.out] at hC
            refine hC.mono ?_
            rintro e w7 ⟨rfl, hM7⟩
            obtain ⟨x0, x1, _, _⟩ := hb2 (hM7.box (b := xb) List.mem_cons_self)
            have hxx : xb < w7.heap.size := hb_lt (hM7.box (b := xb) List.mem_cons_self)
            have HM8 := Lib.hid (hM7.push (.cells #[.int .i64 A, .int .i64 B] 43))
            clear hC hM6 hM7
            go_wp2_with fail
            go_roundg (len - (n + 1))
            case measure => omega
            case rel => exact ⟨n + 1, t, true, N, _, rfl, by omega, by go_num, by omega, Lib.hid HM8.out.swap.drop⟩
    · obtain rfl : n = len := by omega
      go_wp2_with fail
      go_ret
      exact ⟨rfl, HM.out.below⟩
end Go.Proofs.Ytfhhdlpglfjdgaa
