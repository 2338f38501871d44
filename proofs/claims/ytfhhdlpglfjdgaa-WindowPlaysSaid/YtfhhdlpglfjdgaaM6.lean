/- WindowPlays: whatever samples come and whenever it is asked, a window of any terms says what all of its samples, looked through anew, say; the row over law_WindowPlays. No condition. -/
import Derived.Test.YtfhhdlpglfjdgaaM5
import Derived.Test.YtfhhdlpglfjdgaaM4
/- Contracts of chapter 08's reference: Read. -/
set_option linter.unusedVariables false
set_option linter.unusedSimpArgs false
namespace Go.Proofs.Ytfhhdlpglfjdgaa
open Go.RowKit Go.Proofs.YtfhhdlpglfjdgaaW.PrintWords Go.Proofs.YtfhhdlpglfjdgaaW.PrintLast Go.Proofs.YtfhhdlpglfjdgaaW.PrintMore Go.Proofs.Ytfhhdlpglfjdgaa.PWindowPlays

theorem hb4 {w : World} {b : Nat} {x y z u : Value} {t : TypeId} (h : w.heap[b]? = some (.cells #[x, y, z, u] t (0, 0))) : w.cell? ⟨b, 0, none⟩ = some x ∧ w.cell? ⟨b, 1, none⟩ = some y ∧ w.cell? ⟨b, 2, none⟩ = some z ∧ w.cell? ⟨b, 3, none⟩ = some u :=
  ⟨hb_cell h 0, hb_cell h 1, hb_cell h 2, hb_cell h 3⟩
/-- The terms and the answer's box, in the midst of the reference's Read. -/
structure RdBox (w wx : World) (T : WT) : Prop where
  below : Below w.heap.size w wx
  term : wx.heap[w.heap.size]? = some (.cells #[.int .i64 T.m, .int .i64 T.a, .int .i64 T.s, .int .i64 T.p] 23 (0, 0))
  res : wx.heap[w.heap.size + 1]? = some (.cells #[.int .i64 0, .int .i64 0] 43 (0, 0))
theorem RdBox.on {w wx wy : World} {T : WT} (h : RdBox w wx T) (hb : Below wx.heap.size wx wy) : RdBox w wy T := ⟨below_up h.below hb, hb_below' h.term hb, hb_below' h.res hb⟩
theorem RdBox.fin {w wx : World} {T : WT} (h : RdBox w wx T) (u v : Value) : Below w.heap.size w ((wx.setCell ⟨w.heap.size + 1, 0, none⟩ u).setCell ⟨w.heap.size + 1, 1, none⟩ v) := (h.below.setCell (by simp) _).setCell (by simp) _
theorem RdBox.cells {w wx : World} {T : WT} (h : RdBox w wx T) : w.heap.size + 1 < wx.heap.size ∧ wx.cell? ⟨w.heap.size, 0, none⟩ = some (.int .i64 T.m) ∧ wx.cell? ⟨w.heap.size, 1, none⟩ = some (.int .i64 T.a) ∧ wx.cell? ⟨w.heap.size, 2, none⟩ = some (.int .i64 T.s) ∧ wx.cell? ⟨w.heap.size, 3, none⟩ = some (.int .i64 T.p) ∧
    wx.cell? ⟨w.heap.size + 1, 0, none⟩ = some (.int .i64 0) ∧ wx.cell? ⟨w.heap.size + 1, 1, none⟩ = some (.int .i64 0) ∧ wx.frozen? ⟨w.heap.size + 1, 0, none⟩ = false ∧ wx.frozen? ⟨w.heap.size + 1, 1, none⟩ = false := by
  obtain ⟨a, b, c, d⟩ := hb4 h.term
  obtain ⟨x, y, z, u⟩ := hb2 h.res
  exact ⟨hb_lt h.res, a, b, c, d, x, y, z, u⟩
theorem isum_eq (l : List Int) : isum l = sumI l := rfl

theorem ref_Fit_calls (w : World) (base : Nat) (b : Bool) (d : List Int) (v : Value) (h : BigV w base b d v) (hl : d.length < 1000000000) :
    Calls Try.prog 62 #[.agg #[.bool b, v]] w fun e w' => ∃ (x : Int) (ok : Bool), e = .returned (.tuple #[.int .i64 x, .bool ok]) ∧ Below w.heap.size w w' ∧ ok = fitB (big b d) ∧ (ok = true → x = big b d) := by
  obtain ⟨⟨x, ok⟩, h1, h2, h3⟩ := ref_Fit (p := b) h.1 hl
  obtain ⟨k, hk⟩ := h1.rounds
  obtain ⟨A, c, rfl, hc, hC⟩ := Kd.R_reads h.2
  refine (capstanref01_Fit.calls k b A c d x ok w hC hc hk).mono ?_
  rintro e w' ⟨rfl, hB⟩
  exact ⟨x, ok, rfl, hB, h2, h3⟩
theorem ref_Mean_calls (w : World) (base : Nat) (b : Bool) (d : List Int) (v : Value) (n : Int) (h : BigV w base b d v) (hl : d.length < 100000000) (hn : 1 ≤ n) (hn1 : n ≤ 9223372036854775807) (h64 : I64 (big b d / n)) :
    Calls Try.prog 63 #[.agg #[.bool b, v], .int .i64 n] w fun e w' => e = .returned (.tuple #[.int .i64 (big b d / n), .bool true]) ∧ Below w.heap.size w w' := by
  obtain ⟨k, hk⟩ := (ref_Mean b n h.1 hn hn1 hl h64.1 h64.2).rounds
  obtain ⟨A, c, rfl, hc, hC⟩ := Kd.R_reads h.2
  refine (capstanref01_Mean.calls k b A c d n _ _ w hC hc hk).mono ?_
  rintro e w' ⟨rfl, hB⟩
  exact ⟨rfl, hB⟩

set_option maxRecDepth 100000 in
set_option maxHeartbeats 6400000 in
theorem ref_Read_calls (T : WT) (A : Option Addr) (c : Nat) (l : List S50) (t : Int) (w : World) (hC : Kd.C k50 w A l.length l) (hc : l.length ≤ c) (h64 : ∀ x ∈ l, -9223372036854775808 ≤ x.f0 ∧ x.f0 ≤ t ∧ I64 x.f1) (ht : t ≤ 9223372036854775807) (hT : T.right = true) (hl : l.length < 8796093022208) :
    Calls Try.prog 39 #[.agg #[.int .i64 T.m, .int .i64 T.a, .int .i64 T.s, .int .i64 T.p], .slice A l.length c, .int .i64 t] w fun e w' => e = .returned (.agg #[.int .i64 (winRead T ((holdR l t T.s).map (·.f1))).1, .int .i64 (winRead T ((holdR l t T.s).map (·.f1))).2]) ∧ Below w.heap.size w w' := by
  have hTr : 1 ≤ T.s ∧ T.s ≤ 604800 ∧ (T.a = 1 ∨ T.a = 2 ∨ T.a = 3 ∨ T.a = 4 ∨ T.a = 5 ∨ T.a = 6) ∧ (T.a = 6 → 1 ≤ T.p ∧ T.p ≤ 100000000) := by
    simp only [WT.right, decide_eq_true_eq] at hT
    omega
  have hh := ref_Held l t T.s (fun x hx => ⟨(h64 x hx).1, (h64 x hx).2.1⟩) ht hTr.1 hTr.2.1 hl
  obtain ⟨k1, hk1⟩ := hh.rounds
  obtain ⟨r, hr⟩ : ∃ r, r = holdR l t T.s := ⟨_, rfl⟩
  rw [← hr] at hk1 ⊢
  have hrl : r.length ≤ 4096 := by
    rw [hr]
    unfold holdR
    refine Nat.le_trans (List.length_filter_le _ _) ?_
    rw [List.length_drop]; omega
  have hr64 : ∀ y ∈ r.map (·.f1), I64 y := by
    intro y hy
    obtain ⟨x, hx, rfl⟩ := List.mem_map.1 hy
    rw [hr] at hx
    exact (h64 x (List.mem_of_mem_drop (List.mem_filter.1 hx).1)).2.2
  clear hr hh h64 ht hl
  obtain ⟨k2, hk2⟩ := (ref_values r (by omega)).rounds
  obtain ⟨V, hV⟩ : ∃ V, V = r.map (·.f1) := ⟨_, rfl⟩
  have hVl : V.length = r.length := by rw [hV]; simp
  rw [← hV] at hk2 hr64 ⊢
  have HC := Lib.hid hC
  have Hc := Lib.hid hc
  have HTr := Lib.hid hTr
  have HK1 := Lib.hid hk1
  have HK2 := Lib.hid hk2
  have H64 := Lib.hid hr64
  have HVl := Lib.hid hVl
  have Hrl := Lib.hid hrl
  clear hC hc hT hTr hk1 hk2 hr64 hVl hrl hV
  obtain ⟨m, a, s, p⟩ := T
  go_enter Try.func39, Try.ntmps39
  go_wp2_with fail
  have hM : RdBox w ((w.alloc (.cells #[.int .i64 m, .int .i64 a, .int .i64 s, .int .i64 p] 23)).alloc (.cells #[.int .i64 0, .int .i64 0] 43)) ⟨m, a, s, p⟩ :=
    ⟨below2 _ _ _, hb_alloc (hb_new _ _) _, by simpa using hb_new (w.alloc (.cells #[.int .i64 m, .int .i64 a, .int .i64 s, .int .i64 p] 23)) (.cells #[.int .i64 0, .int .i64 0] 43)⟩
  refine (capstanref08_Held.calls k1 A c l t s r _ (Kd.C_alloc (Kd.C_alloc HC.out _) _) Hc.out HK1.out).mono ?_
  rintro e w3 ⟨vh, rfl, hR, hB⟩
  have hM3 := hM.on hB
  obtain ⟨A1, c1, rfl, hc1, hC1⟩ := Kd.R_reads hR
  have HM3 := Lib.hid hM3
  clear hM hB hR hM3
  go_wp2_with fail
  refine (capstanref08_values.calls k2 A1 c1 r V w3 hC1 hc1 HK2.out).mono ?_
  rintro e w4 ⟨vv, rfl, hR, hB⟩
  have hM4 := HM3.out.on hB
  obtain ⟨A2, c2, rfl, hc2, hC2⟩ := Kd.R_reads hR
  have HM4 := Lib.hid hM4
  have HC2 := Lib.hid hC2
  have Hc2 := Lib.hid hc2
  clear hB hR hM4 HM3 hC1 hc1 hC2 hc2
  go_wp2_with fail
  refine (ref_Total_calls A2 c2 V w4 HC2.out Hc2.out (fun x hx => H64.out x hx) (by have := HVl.out; have := Hrl.out; omega)).mono ?_
  rintro e w5 ⟨rb, d, vd, rfl, hBV, hB, hv, hdl⟩
  have hM5 := HM4.out.on hB
  obtain ⟨A3, c3, rfl⟩ := Kd.R_slice hBV.2
  have HC5 := Lib.hid (Kd.C_below HC2.out hB)
  have HV := Lib.hid hBV
  have HM6 := Lib.hid (hM5.on (below1 w5 (.cells #[.bool rb, .slice A3 d.length c3] 110)))
  have HVal := Lib.hid (hv.trans (isum_eq V))
  have Hdl := Lib.hid (show d.length < 100000000 by have := HVl.out; have := Hrl.out; omega)
  obtain ⟨z0, z1, z2, z3, z4, z5, z6, z7, z8⟩ := hM5.cells
  simp only at z1 z2 z3 z4
  have z9 : w.heap.size < w5.heap.size := by omega
  have HM5 := Lib.hid hM5
  clear hM5 hB hBV hv hdl HM4
  have ha : a = 1 ∨ a = 2 ∨ a = 3 ∨ a = 4 ∨ a = 5 ∨ a = 6 := HTr.out.2.2.1
  have hVempty : Hid ((V = [] ↔ V.length = 0) ∧ V.length ≤ 4096) := Lib.hid ⟨by simp, by have := HVl.out; have := Hrl.out; omega⟩
  obtain ⟨n, hn⟩ : ∃ n, n = V.length := ⟨_, rfl⟩
  have Hn := Lib.hid hn
  rw [← hn] at HC2 HC5 ⊢
  have hHV : Hid (BigV (w5.alloc (.cells #[.bool rb, .slice A3 d.length c3] 110)) w4.heap.size rb d (.slice A3 d.length c3)) := Lib.hid (HV.out.below (below1 _ _))
  have HC6 := Lib.hid (Kd.C_alloc HC5.out (.cells #[.bool rb, .slice A3 d.length c3] 110))
  clear hn HV HC5 HC2
  rcases ha with rfl | rfl | rfl | rfl | rfl | rfl
  · go_wp2_with fail
    refine (ref_Fit_calls _ w4.heap.size rb d _ hHV.out (by have := Hdl.out; omega)).mono ?_
    rintro e w7 ⟨x, ok, rfl, hB7, hok, hx⟩
    have hM7 := HM6.out.on hB7
    obtain ⟨z0, z1, z2, z3, z4, z5, z6, z7, z8⟩ := hM7.cells
    simp only at z1 z2 z3 z4
    have z9 : w.heap.size < w7.heap.size := by omega
    have HM7 := Lib.hid hM7
    have Hok := Lib.hid hok
    have Hx := Lib.hid hx
    clear hM7 hB7 hok hx
    cases ok
    · have HE : Hid (winRead ⟨m, 1, s, p⟩ V = (3, 0)) := Lib.hid (by unfold winRead; rw [if_pos rfl, ← HVal.out, ← Hok.out]; rfl)
      go_wp2
      refine bodyPost_ret (v := .agg #[.int .i64 3, .int .i64 0]) (results_cell_row rfl _ _ (w.heap.size + 1) 43 #[.int .i64 3, .int .i64 0] (0, 0) _ rfl (two_set HM7.out.res _ _) Try.underlying43 rfl (by kernel_rfl)) rfl ⟨by rw [HE.out], HM7.out.fin _ _⟩
    · obtain rfl := Hx.out rfl
      have HE : Hid (winRead ⟨m, 1, s, p⟩ V = (0, big rb d)) := Lib.hid (by unfold winRead; rw [if_pos rfl, ← HVal.out, ← Hok.out]; rfl)
      go_wp2
      refine bodyPost_ret (v := .agg #[.int .i64 0, .int .i64 (big rb d)]) (results_cell_row rfl _ _ (w.heap.size + 1) 43 #[.int .i64 0, .int .i64 (big rb d)] (0, 0) _ rfl (two_set HM7.out.res _ _) Try.underlying43 rfl (by kernel_rfl)) rfl ⟨by rw [HE.out], HM7.out.fin _ _⟩
  · skip
    by_cases h0 : n = 0
    · subst h0
      have HE : Hid (winRead ⟨m, 2, s, p⟩ V = (1, 0)) := Lib.hid (by
        have hz : V = [] := hVempty.out.1.2 Hn.out.symm
        unfold winRead
        simp [hz])
      go_wp2
      refine bodyPost_ret (v := .agg #[.int .i64 1, .int .i64 0]) (results_cell_row rfl _ _ (w.heap.size + 1) 43 #[.int .i64 1, .int .i64 0] (0, 0) _ rfl (hb_alloc (two_set HM5.out.res _ _) _) Try.underlying43 rfl (by kernel_rfl)) rfl ⟨by rw [HE.out], (HM5.out.fin _ _).alloc (HM5.out.fin _ _).size _⟩
    · have hz : ¬ V = [] := fun h => h0 (by rw [Hn.out, h]; rfl)
      have hn1 : ((n : Int) == 0) = false := by simpa using h0
      have hbd := sumI_bd V H64.out
      rw [← Hn.out] at hbd
      have h64 : I64 (big rb d / n) := by rw [HVal.out]; exact mean_bd _ _ (by omega) hbd.1 hbd.2
      have hC := ref_Mean_calls _ w4.heap.size rb d _ n hHV.out Hdl.out (by omega) (by have := hVempty.out.2; rw [← Hn.out] at this; omega) h64
      obtain ⟨q, hq⟩ : ∃ q, q = big rb d / n := ⟨_, rfl⟩
      have HE : Hid (winRead ⟨m, 2, s, p⟩ V = (0, q)) := Lib.hid (by rw [hq, HVal.out, Hn.out]; unfold winRead; simp [hz])
      rw [← hq] at hC
      have HCC := Lib.hid hC
      clear hz hbd h64 hC hq h0
      go_wp2_with fail
      refine HCC.out.mono ?_
      rintro e w7 ⟨rfl, hB7⟩
      have hM7 := HM6.out.on hB7
      obtain ⟨z0, z1, z2, z3, z4, z5, z6, z7, z8⟩ := hM7.cells
      simp only at z1 z2 z3 z4
      have z9 : w.heap.size < w7.heap.size := by omega
      have HM7 := Lib.hid hM7
      clear hM7 hB7
      go_wp2
      refine bodyPost_ret (v := .agg #[.int .i64 0, .int .i64 q]) (results_cell_row rfl _ _ (w.heap.size + 1) 43 #[.int .i64 0, .int .i64 q] (0, 0) _ rfl (two_set HM7.out.res _ _) Try.underlying43 rfl (by kernel_rfl)) rfl ⟨by rw [HE.out], HM7.out.fin _ _⟩
  · skip
    by_cases h0 : n = 0
    · subst h0
      have HE : Hid (winRead ⟨m, 3, s, p⟩ V = (1, 0)) := Lib.hid (by
        have hz : V = [] := hVempty.out.1.2 Hn.out.symm
        unfold winRead
        simp [hz])
      go_wp2
      refine bodyPost_ret (v := .agg #[.int .i64 1, .int .i64 0]) (results_cell_row rfl _ _ (w.heap.size + 1) 43 #[.int .i64 1, .int .i64 0] (0, 0) _ rfl (hb_alloc (two_set HM5.out.res _ _) _) Try.underlying43 rfl (by kernel_rfl)) rfl ⟨by rw [HE.out], (HM5.out.fin _ _).alloc (HM5.out.fin _ _).size _⟩
    · have hz : ¬ V = [] := fun h => h0 (by rw [Hn.out, h]; rfl)
      have hn1 : ((n : Int) == 0) = false := by simpa using h0
      obtain ⟨k3, hk3⟩ := (ref_Best false V hz (by have := hVempty.out.2; omega)).rounds
      obtain ⟨q, hq⟩ : ∃ q, q = mbest false V := ⟨_, rfl⟩
      have HE : Hid (winRead ⟨m, 3, s, p⟩ V = (0, q)) := Lib.hid (by rw [hq]; unfold winRead; simp [hz])
      rw [← hq] at hk3
      have HK3 := Lib.hid hk3
      have hC := capstanref06_Best.calls k3 false A2 c2 V q true _ (by have := HC6.out; rw [Hn.out] at this; exact this) Hc2.out HK3.out
      rw [← Hn.out] at hC
      have HCC := Lib.hid hC
      clear hz hq h0 hk3 hC
      go_wp2_with fail
      refine HCC.out.mono ?_
      rintro e w7 ⟨rfl, hD7⟩
      have hM7 := HM6.out.on hD7.below
      obtain ⟨z0, z1, z2, z3, z4, z5, z6, z7, z8⟩ := hM7.cells
      simp only at z1 z2 z3 z4
      have z9 : w.heap.size < w7.heap.size := by omega
      have HM7 := Lib.hid hM7
      clear hM7 hD7
      go_wp2
      refine bodyPost_ret (v := .agg #[.int .i64 0, .int .i64 q]) (results_cell_row rfl _ _ (w.heap.size + 1) 43 #[.int .i64 0, .int .i64 q] (0, 0) _ rfl (two_set HM7.out.res _ _) Try.underlying43 rfl (by kernel_rfl)) rfl ⟨by rw [HE.out], HM7.out.fin _ _⟩
  · skip
    by_cases h0 : n = 0
    · subst h0
      have HE : Hid (winRead ⟨m, 4, s, p⟩ V = (1, 0)) := Lib.hid (by
        have hz : V = [] := hVempty.out.1.2 Hn.out.symm
        unfold winRead
        simp [hz])
      go_wp2
      refine bodyPost_ret (v := .agg #[.int .i64 1, .int .i64 0]) (results_cell_row rfl _ _ (w.heap.size + 1) 43 #[.int .i64 1, .int .i64 0] (0, 0) _ rfl (hb_alloc (two_set HM5.out.res _ _) _) Try.underlying43 rfl (by kernel_rfl)) rfl ⟨by rw [HE.out], (HM5.out.fin _ _).alloc (HM5.out.fin _ _).size _⟩
    · have hz : ¬ V = [] := fun h => h0 (by rw [Hn.out, h]; rfl)
      have hn1 : ((n : Int) == 0) = false := by simpa using h0
      obtain ⟨k3, hk3⟩ := (ref_Best true V hz (by have := hVempty.out.2; omega)).rounds
      obtain ⟨q, hq⟩ : ∃ q, q = mbest true V := ⟨_, rfl⟩
      have HE : Hid (winRead ⟨m, 4, s, p⟩ V = (0, q)) := Lib.hid (by rw [hq]; unfold winRead; simp [hz])
      rw [← hq] at hk3
      have HK3 := Lib.hid hk3
      have hC := capstanref06_Best.calls k3 true A2 c2 V q true _ (by have := HC6.out; rw [Hn.out] at this; exact this) Hc2.out HK3.out
      rw [← Hn.out] at hC
      have HCC := Lib.hid hC
      clear hz hq h0 hk3 hC
      go_wp2_with fail
      refine HCC.out.mono ?_
      rintro e w7 ⟨rfl, hD7⟩
      have hM7 := HM6.out.on hD7.below
      obtain ⟨z0, z1, z2, z3, z4, z5, z6, z7, z8⟩ := hM7.cells
      simp only at z1 z2 z3 z4
      have z9 : w.heap.size < w7.heap.size := by omega
      have HM7 := Lib.hid hM7
      clear hM7 hD7
      go_wp2
      refine bodyPost_ret (v := .agg #[.int .i64 0, .int .i64 q]) (results_cell_row rfl _ _ (w.heap.size + 1) 43 #[.int .i64 0, .int .i64 q] (0, 0) _ rfl (two_set HM7.out.res _ _) Try.underlying43 rfl (by kernel_rfl)) rfl ⟨by rw [HE.out], HM7.out.fin _ _⟩
  · have HE : Hid (winRead ⟨m, 5, s, p⟩ V = (0, (n : Int) * 1000000)) := Lib.hid (by
      have hf : fWhole V.length = (n : Int) * 1000000 := by
        unfold fWhole heldI
        have := hVempty.out.2
        rw [← Hn.out] at this ⊢
        rw [if_neg (by omega), if_neg (by omega)]
      unfold winRead
      rw [if_neg (by simp), if_pos rfl, hf])
    have hnb : (n : Int) ≤ 4096 := by have := hVempty.out.2; rw [← Hn.out] at this; omega
    have hnn : (0 : Int) ≤ (n : Int) := by omega
    go_wp2
    refine bodyPost_ret (v := .agg #[.int .i64 0, .int .i64 ((n : Int) * 1000000)]) (results_cell_row rfl _ _ (w.heap.size + 1) 43 #[.int .i64 0, .int .i64 ((n : Int) * 1000000)] (0, 0) _ rfl (hb_alloc (two_set HM5.out.res _ _) _) Try.underlying43 rfl (by kernel_rfl)) rfl ⟨by rw [HE.out], (HM5.out.fin _ _).alloc (HM5.out.fin _ _).size _⟩
  · skip
    by_cases h0 : n = 0
    · subst h0
      have HE : Hid (winRead ⟨m, 6, s, p⟩ V = (1, 0)) := Lib.hid (by
        have hz : V = [] := hVempty.out.1.2 Hn.out.symm
        unfold winRead
        simp [hz])
      go_wp2
      refine bodyPost_ret (v := .agg #[.int .i64 1, .int .i64 0]) (results_cell_row rfl _ _ (w.heap.size + 1) 43 #[.int .i64 1, .int .i64 0] (0, 0) _ rfl (hb_alloc (two_set HM5.out.res _ _) _) Try.underlying43 rfl (by kernel_rfl)) rfl ⟨by rw [HE.out], (HM5.out.fin _ _).alloc (HM5.out.fin _ _).size _⟩
    · have hz : ¬ V = [] := fun h => h0 (by rw [Hn.out, h]; rfl)
      have hn1 : ((n : Int) == 0) = false := by simpa using h0
      have hp := HTr.out.2.2.2 rfl
      obtain ⟨k3, hk3⟩ := (ref_By V p (by rw [← Hn.out]; omega) hp.1 hp.2 hVempty.out.2).rounds
      obtain ⟨q, hq⟩ : ∃ q, q = (srt V).getD (rankK V.length p).toNat 0 := ⟨_, rfl⟩
      have HE : Hid (winRead ⟨m, 6, s, p⟩ V = (0, q)) := Lib.hid (by rw [hq]; unfold winRead; simp [hz])
      rw [← hq] at hk3
      have HK3 := Lib.hid hk3
      have hC := capstanref07_By.calls k3 A2 c2 V p q true _ (by have := HC6.out; rw [Hn.out] at this; exact this) Hc2.out HK3.out
      rw [← Hn.out] at hC
      have HCC := Lib.hid hC
      clear hz hq h0 hk3 hC hp
      go_wp2_with fail
      refine HCC.out.mono ?_
      rintro e w7 ⟨rfl, hD7⟩
      have hM7 := HM6.out.on hD7.below
      obtain ⟨z0, z1, z2, z3, z4, z5, z6, z7, z8⟩ := hM7.cells
      simp only at z1 z2 z3 z4
      have z9 : w.heap.size < w7.heap.size := by omega
      have HM7 := Lib.hid hM7
      clear hM7 hD7
      go_wp2
      refine bodyPost_ret (v := .agg #[.int .i64 0, .int .i64 q]) (results_cell_row rfl _ _ (w.heap.size + 1) 43 #[.int .i64 0, .int .i64 q] (0, 0) _ rfl (two_set HM7.out.res _ _) Try.underlying43 rfl (by kernel_rfl)) rfl ⟨by rw [HE.out], HM7.out.fin _ _⟩
end Go.Proofs.Ytfhhdlpglfjdgaa
/- Plain laws of WindowPlays: what the ring holds, and what the reference holds of all samples. No program in sight. -/
set_option linter.unusedVariables false
set_option linter.unusedSimpArgs false
namespace Go.Proofs.Ytfhhdlpglfjdgaa
open Go.RowKit Go.Proofs.YtfhhdlpglfjdgaaW.PrintWords Go.Proofs.YtfhhdlpglfjdgaaW.PrintLast Go.Proofs.YtfhhdlpglfjdgaaW.PrintMore Go.Proofs.Ytfhhdlpglfjdgaa.PWindowPlays

def toS (x : Int × Int) : S50 := ⟨x.1, x.2⟩
def last4096 {α : Type} (l : List α) : List α := l.drop (l.length - 4096)
theorem last_len {α : Type} (l : List α) : (last4096 l).length ≤ 4096 := by unfold last4096; rw [List.length_drop]; omega
theorem last_short {α : Type} (l : List α) (h : (last4096 l).length < 4096) : last4096 l = l := by
  unfold last4096 at *
  rw [List.length_drop] at h
  rw [show l.length - 4096 = 0 by omega, List.drop_zero]
theorem last_snoc_short {α : Type} (l : List α) (x : α) (h : (last4096 l).length < 4096) : last4096 (l ++ [x]) = last4096 l ++ [x] := by
  have h1 := last_short l h
  rw [h1] at h ⊢
  unfold last4096
  rw [List.length_append, List.length_singleton, show l.length + 1 - 4096 = 0 by omega, List.drop_zero]
theorem last_snoc_full {α : Type} (l : List α) (x : α) (h : (last4096 l).length = 4096) : last4096 (l ++ [x]) = (last4096 l).tail ++ [x] := by
  unfold last4096 at *
  rw [List.length_drop] at h
  rw [List.length_append, List.length_singleton, show l.length + 1 - 4096 = (l.length - 4096) + 1 by omega, List.drop_append_of_le_length (by omega), List.tail_drop]
/-- What the ring holds, of all samples that were taken. -/
structure PlayI (s c : Int) (b : Bool) (l : List (Int × Int)) (all : List S50) : Prop where
  sort : all.Pairwise (fun x y => x.f0 ≤ y.f0)
  top : ∀ x ∈ all, b = true ∧ x.f0 ≤ c
  i64 : ∀ x ∈ all, I64 x.f0 ∧ I64 x.f1
  held : ∃ pre, pre ++ l.map toS = last4096 all ∧ ∀ x ∈ pre, s ≤ c - x.f0
theorem PlayI.nil (s : Int) : PlayI s 0 false [] [] := ⟨List.Pairwise.nil, fun _ h => by simp at h, fun _ h => by simp at h, [], rfl, fun _ h => by simp at h⟩
theorem PlayI.later {s c : Int} {b : Bool} {l : List (Int × Int)} {all : List S50} (h : PlayI s c b l all) (t : Int) (ht : stale b c t = false) : PlayI s t true l all := by
  have key : all ≠ [] → c ≤ t := by
    intro hne
    obtain ⟨x, r, rfl⟩ := List.exists_cons_of_ne_nil hne
    obtain ⟨rfl, _⟩ := h.top x List.mem_cons_self
    simpa [stale] using ht
  have hne : ∀ x ∈ all, all ≠ [] := fun x hx e => by rw [e] at hx; simp at hx
  obtain ⟨pre, h1, h2⟩ := h.held
  refine ⟨h.sort, fun x hx => ⟨rfl, by have := (h.top x hx).2; have := key (hne x hx); omega⟩, h.i64, pre, h1, fun x hx => ?_⟩
  have hx' : x ∈ all := by
    have : x ∈ last4096 all := by rw [← h1]; exact List.mem_append_left _ hx
    exact List.mem_of_mem_drop this
  have := h2 x hx
  have := key (hne x hx')
  omega
theorem PlayI.put {s c : Int} {b : Bool} {l : List (Int × Int)} {all : List S50} (h : PlayI s c b l all) (x : Int × Int) (hx : I64 x.1 ∧ I64 x.2) (ht : stale b c x.1 = false) : PlayI s x.1 true (pushL l x) (all ++ [toS x]) := by
  have h' := h.later x.1 ht
  obtain ⟨h1, h2, h3, pre, h4, h5⟩ := h'
  refine ⟨?_, ?_, ?_, ?_⟩
  · rw [List.pairwise_append]
    exact ⟨h1, List.pairwise_singleton _ _, fun a ha b hb => by simp at hb; subst hb; exact (h2 a ha).2⟩
  · intro y hy
    rcases List.mem_append.1 hy with hy | hy
    · exact h2 y hy
    · simp at hy; subst hy; exact ⟨rfl, Int.le_refl _⟩
  · intro y hy
    rcases List.mem_append.1 hy with hy | hy
    · exact h3 y hy
    · simp at hy; subst hy; exact hx
  · have hlen := last_len all
    rw [← h4, List.length_append, List.length_map] at hlen
    by_cases hf : (last4096 all).length = 4096
    · rw [last_snoc_full all _ hf]
      by_cases hl : l.length = 4096
      · have hp : pre = [] := List.length_eq_zero_iff.1 (by omega)
        subst hp
        refine ⟨[], ?_, fun y hy => by simp at hy⟩
        unfold pushL
        rw [if_pos hl, ← h4, List.nil_append, List.nil_append, List.map_append, List.map_tail]
        rfl
      · rw [← h4, List.length_append, List.length_map] at hf
        obtain ⟨p, pre', rfl⟩ := List.exists_cons_of_ne_nil (l := pre) (by rintro rfl; simp at hf; omega)
        refine ⟨pre', ?_, fun y hy => h5 y (List.mem_cons_of_mem _ hy)⟩
        unfold pushL
        rw [if_neg hl, ← h4, List.map_append, List.cons_append, List.tail_cons, List.append_assoc]
        rfl
    · have hf' : (last4096 all).length < 4096 := by have := last_len all; omega
      rw [last_snoc_short all _ hf']
      rw [← h4, List.length_append, List.length_map] at hf'
      refine ⟨pre, ?_, h5⟩
      unfold pushL
      rw [if_neg (by omega), ← h4, List.map_append, List.append_assoc]
      rfl
theorem expired_iff (c s : Int) (x : Int × Int) (hc : I64 c) (hx : I64 x.1) (h : x.1 ≤ c) (hs : 1 ≤ s) (hs1 : s ≤ 604800) : expired c s x = !decide (c - x.1 < s) := by
  unfold expired
  unfold I64 at hc hx
  have e : IntKind.u64.wrap (IntKind.u64.wrap c - IntKind.u64.wrap x.1) = c - x.1 := by
    rw [IntKind.wrap_u64, IntKind.wrap_u64, IntKind.wrap_u64]
    omega
  rw [e, u64_in (by omega) (by omega)]
theorem fresh_filter (c s : Int) (hc : I64 c) (hs : 1 ≤ s) (hs1 : s ≤ 604800) : ∀ (l : List (Int × Int)), l.Pairwise (fun x y => x.1 ≤ y.1) → (∀ x ∈ l, I64 x.1 ∧ x.1 ≤ c) →
    ∃ pre, pre ++ fresh c s l = l ∧ (∀ x ∈ pre, s ≤ c - x.1) ∧ fresh c s l = l.filter (fun x => decide (c - x.1 < s))
  | [], _, _ => ⟨[], rfl, fun _ h => by simp at h, rfl⟩
  | x :: l, hp, hl => by
    have hx := hl x List.mem_cons_self
    have he := expired_iff c s x hc hx.1 hx.2 hs hs1
    by_cases hb : c - x.1 < s
    · have e1 : expired c s x = false := by rw [he]; simp [hb]
      have hall : ∀ y ∈ l, c - y.1 < s := fun y hy => by
        have := (List.pairwise_cons.1 hp).1 y hy
        omega
      refine ⟨[], ?_, fun _ h => by simp at h, ?_⟩
      · rw [fresh_new _ _ _ _ e1]; rfl
      · rw [fresh_new _ _ _ _ e1, List.filter_cons_of_pos (by simpa using hb), List.filter_eq_self.2 (fun y hy => by simpa using hall y hy)]
    · have e1 : expired c s x = true := by rw [he]; simp [hb]
      obtain ⟨pre, h1, h2, h3⟩ := fresh_filter c s hc hs hs1 l (List.pairwise_cons.1 hp).2 (fun y hy => hl y (List.mem_cons_of_mem _ hy))
      refine ⟨x :: pre, ?_, ?_, ?_⟩
      · rw [fresh_old _ _ _ _ e1, List.cons_append, h1]
      · intro y hy
        rcases List.mem_cons.1 hy with rfl | hy
        · omega
        · exact h2 y hy
      · rw [fresh_old _ _ _ _ e1, h3, List.filter_cons_of_neg (by simpa using hb)]
theorem PlayI.read {s c : Int} {b : Bool} {l : List (Int × Int)} {all : List S50} (h : PlayI s c b l all) (t : Int) (ht : stale b c t = false) (h64 : I64 t) (hs : 1 ≤ s) (hs1 : s ≤ 604800) :
    PlayI s t true (fresh t s l) all ∧ (fresh t s l).map toS = holdR all t s := by
  have h' := h.later t ht
  obtain ⟨h1, h2, h3, pre, h4, h5⟩ := h'
  have hsub : ∀ x ∈ l, toS x ∈ all := fun x hx => by
    have : toS x ∈ last4096 all := by rw [← h4]; exact List.mem_append_right _ (List.mem_map_of_mem hx)
    exact List.mem_of_mem_drop this
  have hsl : l.Pairwise (fun x y => x.1 ≤ y.1) := by
    have hd : (last4096 all).Pairwise (fun x y => x.f0 ≤ y.f0) := h1.sublist (List.drop_sublist _ _)
    rw [← h4, List.pairwise_append] at hd
    exact (List.pairwise_map (f := toS) (R := fun x y => x.f0 ≤ y.f0)).1 hd.2.1
  obtain ⟨pr, k1, k2, k3⟩ := fresh_filter t s h64 hs hs1 l hsl (fun x hx => ⟨(h3 _ (hsub x hx)).1, (h2 _ (hsub x hx)).2⟩)
  refine ⟨⟨h1, h2, h3, pre ++ pr.map toS, ?_, ?_⟩, ?_⟩
  · rw [← h4, List.append_assoc, ← List.map_append, k1]
  · intro x hx
    rcases List.mem_append.1 hx with hx | hx
    · exact h5 x hx
    · obtain ⟨y, hy, rfl⟩ := List.mem_map.1 hx
      exact k2 y hy
  · show _ = (last4096 all).filter (inSpan t s)
    rw [← h4, List.filter_append]
    have e1 : pre.filter (inSpan t s) = [] := List.filter_eq_nil_iff.2 (fun x hx => by have := h5 x hx; unfold inSpan; simp; omega)
    rw [e1, List.nil_append, k3, List.filter_map]
    rfl
end Go.Proofs.Ytfhhdlpglfjdgaa
/- Contracts of package ring and window: List; Held that answers. -/
set_option linter.unusedVariables false
set_option linter.unusedSimpArgs false
namespace Go.Proofs.Ytfhhdlpglfjdgaa
open Go.RowKit Go.Proofs.YtfhhdlpglfjdgaaW.PrintWords Go.Proofs.YtfhhdlpglfjdgaaW.PrintLast Go.Proofs.YtfhhdlpglfjdgaaW.PrintMore Go.Proofs.Ytfhhdlpglfjdgaa.PWindowPlays

set_option maxRecDepth 100000 in
set_option maxHeartbeats 3200000 in
theorem ring_List_at (F : Nat → Prop) (g : Nat) (l : List (Int × Int)) (w : World) (hr : RingAt w F g l) :
    Calls Try.prog 32 #[.pointer (some ⟨g, 0, none⟩)] w fun e w' => ∃ v, e = .returned v ∧ Kd.R k50 50 w' w.heap.size (fun _ => True) v (l.map toS) ∧ Below w.heap.size w w' := by
  have HR := Lib.hid hr
  have hlen := hr.len
  obtain ⟨len, hL⟩ : ∃ len, len = l.length := ⟨_, rfl⟩
  have HL := Lib.hid hL
  rw [← hL] at hlen
  have hLn := ring_Len_at F g l w hr
  rw [← hL] at hLn
  have HLn := Lib.hid hLn
  clear hr hL hLn
  go_enter Try.func32, Try.ntmps32
  go_wp2_with fail
  refine HLn.out.mono ?_
  rintro e w1 ⟨rfl, rfl⟩
  clear HLn
  go_wp2_with fail
  go_loopg [3, 9] len (fun k v3 v9 wr => ∃ i : Nat, k = len - i ∧ i ≤ len ∧ v9 = .int .i64 i ∧ Hid (Kd.R k50 50 wr w1.heap.size (fun _ => True) v3 ((l.take i).map toS)) ∧ Hid (Below w1.heap.size w1 wr))
  case atStart => exact ⟨0, rfl, by omega, rfl, Lib.hid (by simpa using Kd.R_nil _ _ _ _ _), Lib.hid (Below.refl _ _)⟩
  case round =>
    obtain ⟨i, rfl, hi, rfl, HV, HB⟩ := hrel
    rcases Nat.lt_or_ge i len with hlt | hge
    · have hn0 : (0 : Int) ≤ (i : Int) := by omega
      have hn1 : (i : Int) < (len : Int) := by omega
      have hd : decide ((i : Int) < (len : Int)) = true := by simpa using hn1
      obtain ⟨⟨t, x⟩, hx⟩ : ∃ y, l[i]? = some y := ⟨_, List.getElem?_eq_getElem (by rw [← HL.out]; exact hlt)⟩
      have hC := ring_At_at F g i (t, x) l wr (HR.out.keep (fun k hk => HB.out.block k (HR.out.2.1 k hk)) HB.out.size) hx
      have HC := Lib.hid hC
      have hEq : (l.take i).map toS ++ [toS (t, x)] = (l.take (i + 1)).map toS := by
        have h1 : i < l.length := by rw [← HL.out]; exact hlt
        rw [List.take_succ_eq_append_getElem h1, List.map_append]
        rw [List.getElem?_eq_getElem h1] at hx
        simp only [Option.some.injEq] at hx
        rw [hx]
        rfl
      have HEq := Lib.hid hEq
      have hll : ((l.take i).map toS).length ≤ 4096 := by rw [List.length_map, List.length_take]; omega
      have HLL := Lib.hid hll
      clear hC hEq hx hll
      go_wp2_with fail
      refine HC.out.mono ?_
      rintro e w2 ⟨rfl, hb2⟩
      have HB2 := Lib.hid (below_up HB.out hb2)
      have HV2 := Lib.hid (Kd.R_below HV.out hb2)
      clear hb2 HC HB HV
      go_wp2_with (first | ((with_reducible refine gate_builtin (b := .append) (xs := #[.tmp 18, .tmp 20]) rfl ?_); at_builtin; refine Kd.R_append k50 (w0 := w1) w1.heap.size rfl (.tmp 18) (.tmp 20) 32 50 (.agg #[(.int .i64 0), (.int .i64 0)]) 16 rfl Try.underlying32 info50 rfl (by decide) (by omega) u3 ((l.take i).map toS) (toS (t, x)) [.int .i64 t, .int .i64 x] (fun _ => True) (fun _ => False) rfl ?aX ?aP (fun _ hk => hk.elim) ?aF ?aO ?aB ?aS ?aL ?_; (case aX => go_simp); (case aP => exact k50_mkM _ _ _ _); (case aB => exact (by repeat (first | (with_reducible first | exact HB2.out | apply below_alloc) | exact HB2.out))); (case aF => exact (fun _ _ => trivial)); (case aO => exact (by (with_reducible repeat (first | apply Kd.R_alloc | apply Kd.R_drewN | apply Kd.R_drew)); exact HV2.out)); (case aS => exact (below_size (by repeat (first | (with_reducible first | exact HB2.out | apply below_alloc) | exact HB2.out)))); (case aL => have := HLL.out; omega); intro v179 w7 ho hb hg hat; rw [HEq.out] at ho; have n1_ := Lib.hid hb; have n2_ := Lib.hid ho; clear ho hb hg hat))
      go_roundg (len - (i + 1))
      case measure => omega
      case rel => exact ⟨i + 1, rfl, by omega, by go_num, n2_, n1_⟩
    · obtain rfl : i = len := by omega
      have h1 := HV.out
      rw [List.take_of_length_le (by rw [← HL.out]; exact Nat.le_refl _)] at h1
      have H1 := Lib.hid h1
      clear h1
      go_wp2
      go_ret
      exact ⟨_, rfl, H1.out, HB.out⟩

set_option maxRecDepth 100000 in
set_option maxHeartbeats 3200000 in
theorem win_Held (F : Nat → Prop) (g : Nat) (T : WT) (clock N t : Int) (begun : Bool) (l : List (Int × Int)) (w : World) (hr : WinAt w F g T clock begun N l) (hN : N ≤ 4611686018427387904) (ht : stale begun clock t = false) :
    Calls Try.prog 13 #[.pointer (some ⟨g, 0, none⟩), .int .i64 t] w fun e w' => ∃ v, e = .returned (.tuple #[v, .int .i64 0]) ∧ Fr F w w' ∧ ∃ F', Ext F F' w w' ∧ WinAt w' F' g T t true N (fresh t T.s l) ∧ Kd.R k50 50 w' w.heap.size (fun k => ¬ F' k) v ((fresh t T.s l).map toS) := by
  have HR := Lib.hid hr
  have HN := Lib.hid hN
  have Ht := Lib.hid ht
  clear hr hN ht
  go_enter Try.func13, Try.ntmps13
  go_wp2_with fail
  refine (HR.out.come t Ht.out).mono ?_
  rintro e w1 ⟨rfl, hf1, hw1⟩
  have HW1 := Lib.hid hw1
  have HF1 := Lib.hid hf1
  clear hw1 hf1
  go_wp2_with fail
  refine (win_expire F g T t N true l w1 HW1.out HN.out).mono ?_
  rintro e w2 ⟨rfl, hf2, F', hE2, hw2⟩
  have hF : Fr F w w2 := HF1.out.trans hf2 (Ext.refl _ _ _)
  have hE : Ext F F' w w2 := (Ext.refl F w w1).trans hE2 HF1.out.size hf2.size
  have HF := Lib.hid hF
  have HE := Lib.hid hE
  have HW2 := Lib.hid hw2
  obtain ⟨r, Fa, F0, hring, hrest, hdis, hFF, hxs⟩ := hw2
  obtain ⟨_, _, _, hblk⟩ := hrest.at
  have c0 := hb_cell hblk 0
  simp only [List.getElem?_toArray, List.getElem?_cons_zero] at c0
  have HRing := Lib.hid hring
  clear hF hE hE2 hf2 hring hrest hdis hFF hxs hblk HF1 HW1
  go_wp2_with fail
  refine (ring_List_at Fa r _ w2 HRing.out).mono ?_
  rintro e w3 ⟨v, rfl, hR, hB⟩
  have HB := Lib.hid hB
  have HV := Lib.hid hR
  clear hR hB
  go_wp2_with fail
  go_ret2
  refine ⟨v, rfl, HF.out.trans (Fr.ofBelow (F := F') HB.out) HE.out, F', fun k hk => (HE.out k hk).imp id (fun h => ⟨h.1, Nat.lt_of_lt_of_le h.2 HB.out.size⟩), HW2.out.below HB.out, ?_⟩
  have h1 := Kd.R_bound HV.out
  refine Kd.R_mono (Kd.R_lower h1 HF.out.size) (fun k hk => ?_)
  intro hk'
  have := HW2.out.lt k hk'
  omega
end Go.Proofs.Ytfhhdlpglfjdgaa
/- Contracts of chapter 08's reference: the methods of its window. -/
set_option linter.unusedVariables false
set_option linter.unusedSimpArgs false
namespace Go.Proofs.Ytfhhdlpglfjdgaa
open Go.RowKit Go.Proofs.YtfhhdlpglfjdgaaW.PrintWords Go.Proofs.YtfhhdlpglfjdgaaW.PrintLast Go.Proofs.YtfhhdlpglfjdgaaW.PrintMore Go.Proofs.Ytfhhdlpglfjdgaa.PWindowPlays

def RefBlk (w : World) (g : Nat) (T : WT) (v : Value) (c : Int) (b : Bool) : Prop :=
  w.heap[g]? = some (.cells #[.int .i64 T.m, .int .i64 T.a, .int .i64 T.s, .int .i64 T.p, v, .int .i64 c, .bool b] 34 (0, 0))
theorem RefBlk.clock {w : World} {g : Nat} {T : WT} {v : Value} {c : Int} {b : Bool} (h : RefBlk w g T v c b) (t : Int) : RefBlk ((w.setCell ⟨g, 5, none⟩ (.int .i64 t)).setCell ⟨g, 6, none⟩ (.bool true)) g T v t true := by
  simpa [RefBlk] using hb_set (hb_set h 5 (.int .i64 t)) 6 (.bool true)
theorem refw_come_stale (g : Nat) (T : WT) (v : Value) (c t : Int) (w : World) (h : RefBlk w g T v c true) (ht : t < c) :
    Calls Try.prog 38 #[.pointer (some ⟨g, 0, none⟩), .int .i64 t] w fun e w' => e = .returned (.int .i64 32) ∧ w' = w := by
  have c5 := hb_cell h 5
  have c6 := hb_cell h 6
  simp only [List.getElem?_toArray, List.getElem?_cons_zero, List.getElem?_cons_succ] at c5 c6
  have hd : decide (t < c) = true := by simpa using ht
  clear h
  go_enter Try.func38, Try.ntmps38
  go_wp2
  go_ret
  exact ⟨rfl, rfl⟩
theorem refw_come_on (g : Nat) (T : WT) (v : Value) (c t : Int) (b : Bool) (w : World) (h : RefBlk w g T v c b) (ht : stale b c t = false) :
    Calls Try.prog 38 #[.pointer (some ⟨g, 0, none⟩), .int .i64 t] w fun e w' => e = .returned (.int .i64 0) ∧ w' = (w.setCell ⟨g, 5, none⟩ (.int .i64 t)).setCell ⟨g, 6, none⟩ (.bool true) := by
  have c5 := hb_cell h 5
  have c6 := hb_cell h 6
  have f5 := hb_free h 5
  have f6 := hb_free h 6
  simp only [List.getElem?_toArray, List.getElem?_cons_zero, List.getElem?_cons_succ] at c5 c6
  clear h
  go_enter Try.func38, Try.ntmps38
  cases b
  · go_wp2
    go_ret
    exact ⟨rfl, rfl⟩
  · have hd : decide (t < c) = false := by simpa [stale] using ht
    have hd1 : ¬ t < c := by simpa [stale] using ht
    go_wp2
    go_ret
    exact ⟨rfl, rfl⟩
theorem refw_Put_stale (g : Nat) (T : WT) (v : Value) (c t x : Int) (w : World) (h : RefBlk w g T v c true) (ht : t < c) :
    Calls Try.prog 18 #[.pointer (some ⟨g, 0, none⟩), .agg #[.int .i64 t, .int .i64 x]] w fun e w' => e = .returned (.int .i64 32) ∧ Below w.heap.size w w' := by
  have h1 := refw_come_stale g T v c t _ (hb_alloc h (.cells #[.int .i64 t, .int .i64 x] 50)) ht
  have H1 := Lib.hid h1
  clear h1 h
  go_enter Try.func18, Try.ntmps18
  go_wp2_with fail
  refine H1.out.mono ?_
  rintro e w1 ⟨rfl, rfl⟩
  go_wp2
  go_ret
  exact ⟨rfl, below1 _ _⟩

/-- The reference's window: its block, and the row of all samples, in blocks of ok. -/
structure RefAt (w0 w : World) (ok : Nat → Prop) (g : Nat) (T : WT) (v : Value) (all : List S50) (c : Int) (b : Bool) : Prop where
  below : Below w0.heap.size w0 w
  blk : RefBlk w g T v c b
  base : w0.heap.size ≤ g
  row : Kd.R k50 50 w w0.heap.size ok v all
  room : ∀ k, w.heap.size ≤ k → ok k
theorem RefAt.on {w0 w wx : World} {ok : Nat → Prop} {g : Nat} {T : WT} {v : Value} {all : List S50} {c : Int} {b : Bool} (h : RefAt w0 w ok g T v all c b) (hb : Below w.heap.size w wx) : RefAt w0 wx ok g T v all c b :=
  ⟨below_up h.below hb, hb_below' h.blk hb, h.base, Kd.R_below h.row hb, fun k hk => h.room k (Nat.le_trans hb.size hk)⟩
theorem RefAt.clock {w0 w : World} {ok : Nat → Prop} {g : Nat} {T : WT} {v : Value} {all : List S50} {c : Int} {b : Bool} (h : RefAt w0 w ok g T v all c b) (t : Int) : RefAt w0 ((w.setCell ⟨g, 5, none⟩ (.int .i64 t)).setCell ⟨g, 6, none⟩ (.bool true)) ok g T v all t true := by
  have h1 := h.row
  have hr1 := Kd.R_far (p := ⟨g, 5, none⟩) (Kd.R_types h1 h.blk (by decide)) (fun _ hk => hk.2) (.int .i64 t)
  have hr2 := Kd.R_far (p := ⟨g, 6, none⟩) hr1 (fun _ hk => hk.2) (.bool true)
  exact ⟨(h.below.setCell h.base _).setCell h.base _, h.blk.clock t, h.base, Kd.R_mono hr2 (fun _ hk => hk.1), fun k hk => h.room k (by simpa using hk)⟩

/-- append to a row, as one step of a region that draws (its else left open). -/
theorem R_append_law {P : Program} {ops : Array Oper} {o : Oper} {a : Act} {Q : Exit → Act → World → Prop} {Kc : Act → World → Prop} {E : Prop} {α : Type} (d : Kd α) {w0 W : World} (base : Nat) (hg : o.guard = none) (s x : Operand) (t e : TypeId) (z : Value) (bytes : Nat)
    (ho : o.op = .call { callee := .builtin .append, args := #[s, x], argTypes := #[t, t] })
    (ht : P.underlying t = some (.slice e)) (hinfo : (P.info? e).map (fun i => (i.zero, i.size, i.bytes)) = some (some z, d.sz, bytes)) (hz : z.cells.size = d.sz) (hs0 : 0 < d.sz) (hb0 : 0 < bytes)
    (v : Value) (xs : List α) (p : α) (cs : List Value) (ok okp : Nat → Prop) (hs : a.eval s = v) (hx : a.eval x = .slice (some ⟨W.heap.size, 0, none⟩) 1 1) (hp : d.M W base okp p cs) (hokp : ∀ k, okp k → ok k ∧ some k ≠ v.ownBlock) (hfresh : ∀ k, W.heap.size ≤ k → ok k)
    (HO : d.R e W base ok v xs) (HB : Below base w0 W) (hbase : base ≤ W.heap.size) (hl : (xs.length + 1) * bytes ≤ 140737488355328)
    {W' : World} (hW : W' = W.alloc (.cells cs.toArray e))
    (h : ∀ v1 w1, d.R e w1 base ok v1 (xs ++ [p]) → Below base w0 w1 → W.grownBy w1 v.ownBlock → (v1.ownBlock = v.ownBlock ∨ ∃ b, v1.ownBlock = some b ∧ W.heap.size ≤ b) → Kc (a.put o.dst v1) w1) :
    if Region.wanted o (yielded ops a.tmps) = true then Oper.wp P o a W' Kc Q else E := by
  subst hW
  have hw : Region.wanted o (yielded ops a.tmps) = true := by unfold Region.wanted; rw [hg]
  rw [if_pos hw]
  have := Kd.R_append_step (P := P) (ops := ops) (o := o) (a := a) (Q := Q) (Kc := Kc) d (w0 := w0) (W := W) base hw s x t e z bytes ho ht hinfo hz hs0 hb0 v xs p cs ok okp hs hx hp hokp hfresh HO HB hbase hl h
  rw [if_pos hw] at this
  exact this

theorem RefAt.box {w0 w : World} {ok : Nat → Prop} {g k : Nat} {T : WT} {v : Value} {all : List S50} {c : Int} {b : Bool} {cs : Array Value} (h : RefAt w0 w ok g T v all c b) (hb : w.heap[k]? = some (.cells cs 43 (0, 0))) (hk : w0.heap.size ≤ k) (hne : g ≠ k) (u u' : Value) :
    RefAt w0 ((w.setCell ⟨k, 0, none⟩ u).setCell ⟨k, 1, none⟩ u') ok g T v all c b := by
  have hr1 := Kd.R_far (p := ⟨k, 0, none⟩) (Kd.R_types h.row hb (by decide)) (fun _ hk => hk.2) u
  have hr2 := Kd.R_far (p := ⟨k, 1, none⟩) hr1 (fun _ hk => hk.2) u'
  exact ⟨(h.below.setCell hk _).setCell hk _, hb_far (hb_far h.blk hne _) hne _, h.base, Kd.R_mono hr2 (fun _ hk => hk.1), fun j hj => h.room j (by simpa using hj)⟩
theorem refw_Put_fin {w0 w w1 w7 : World} {ok : Nat → Prop} {g : Nat} {T : WT} {v v1 : Value} {all : List S50} {t y : Int} (hF : Fr (fun k => k = g ∨ some k = v.ownBlock) w w1) (hA : RefAt w0 w1 ok g T v all t true)
    (hO : Kd.R k50 50 w7 w0.heap.size ok v1 (all ++ [toS (t, y)])) (hG : w1.drew.grownBy w7 v.ownBlock) (hB : Below w0.heap.size w0 w7) (hne : some g ≠ v.ownBlock) :
    Ending.returned (.int .i64 0) = .returned (.int .i64 0) ∧ Fr (fun k => k = g ∨ some k = v.ownBlock) w (w7.setCell ⟨g, 4, none⟩ v1) ∧ ∃ v', RefAt w0 (w7.setCell ⟨g, 4, none⟩ v1) ok g T v' (all ++ [toS (t, y)]) t true := by
  have h7 : RefBlk w7 g T v t true := (hG.block g (hb_lt hA.blk) hne).trans hA.blk
  have hF1 : Fr (fun k => k = g ∨ some k = v.ownBlock) w1 w7 := ((Fr.refl _ w1).drewN 1).trans (Fr.grown hG (fun k hk => .inr hk.symm)) (Ext.refl _ _ _)
  have hs : w1.heap.size ≤ w7.heap.size := hG.size
  refine ⟨rfl, (hF.trans hF1 (Ext.refl _ _ _)).setCell (p := ⟨g, 4, none⟩) (.inl (.inl rfl)) _, v1, hB.setCell hA.base _, ?_, hA.base, ?_, fun k hk => hA.room k (Nat.le_trans hs (by simpa using hk))⟩
  · simpa [RefBlk] using hb_set h7 4 v1
  · exact Kd.R_mono (Kd.R_far (p := ⟨g, 4, none⟩) (Kd.R_types hO h7 (by decide)) (fun _ hk => hk.2) v1) (fun _ hk => hk.1)

set_option maxRecDepth 100000 in
set_option maxHeartbeats 3200000 in
theorem refw_Put (w0 : World) (ok : Nat → Prop) (g : Nat) (T : WT) (v : Value) (all : List S50) (c : Int) (b : Bool) (x : Int × Int) (w : World) (h : RefAt w0 w ok g T v all c b) (ht : stale b c x.1 = false) (hl : all.length < 8000000000000) :
    Calls Try.prog 18 #[.pointer (some ⟨g, 0, none⟩), .agg #[.int .i64 x.1, .int .i64 x.2]] w fun e w' => e = .returned (.int .i64 0) ∧ Fr (fun k => k = g ∨ some k = v.ownBlock) w w' ∧ ∃ v', RefAt w0 w' ok g T v' (all ++ [toS x]) x.1 true := by
  obtain ⟨t, y⟩ := x
  have hA1 := h.on (below1 w (.cells #[.int .i64 t, .int .i64 y] 50))
  have h1 := refw_come_on g T v c t b _ hA1.blk ht
  have H1 := Lib.hid h1
  have HA2 := Lib.hid (hA1.clock t)
  have Hl := Lib.hid hl
  have HA := Lib.hid h
  have hgs : g < w.heap.size := hb_lt h.blk
  clear h1 h ht hl hA1
  go_enter Try.func18, Try.ntmps18
  go_wp2_with fail
  refine H1.out.mono ?_
  rintro e w1 ⟨rfl, hw1⟩
  have hbx : w1.heap[w.heap.size]? = some (.cells #[.int .i64 t, .int .i64 y] 50 (0, 0)) := by
    rw [hw1]
    exact hb_far (hb_far (hb_new w _) (by simp; omega) _) (by simp; omega) _
  have hA2 := HA2.out
  rw [← hw1] at hA2
  have hfr : Fr (fun k => k = g ∨ some k = v.ownBlock) w w1 := by
    rw [hw1]
    exact (((Fr.ofBelow (below1 w _)).setCell (p := ⟨g, 5, none⟩) (.inl (.inl rfl)) _).setCell (p := ⟨g, 6, none⟩) (.inl (.inl rfl)) _)
  have hw1s : w.heap.size < w1.heap.size := hb_lt hbx
  have hgs1 : g < w1.heap.size := hb_lt hA2.blk
  obtain ⟨b0, b1, _, _⟩ := hb2 hbx
  obtain ⟨A, n, hv⟩ := Kd.R_slice hA2.row
  have c4 := hb_cell hA2.blk 4
  have f4 := hb_free hA2.blk 4
  simp only [List.getElem?_toArray, List.getElem?_cons_zero, List.getElem?_cons_succ] at c4
  have hne : some g ≠ v.ownBlock := Kd.R_ne hA2.row hA2.blk (by decide)
  have HA1 := Lib.hid hA2
  have HFr := Lib.hid hfr
  have Hne := Lib.hid hne
  subst hv
  clear hw1 hA2 hfr hbx HA2 H1 HA hne
  go_wp2_with fail
  go_region_law (refine R_append_law k50 (w0 := w0) (W := w1.drew) w0.heap.size rfl (.tmp 16) (.tmp 18) 32 50 (.agg #[(.int .i64 0), (.int .i64 0)]) 16 rfl Try.underlying32 info50 rfl (by decide) (by omega) (.slice A all.length n) all (toS (t, y)) [.int .i64 t, .int .i64 y] ok (fun _ => False) rfl rfl ?aP (fun _ hk => hk.elim) ?aF ?aO ?aB ?aS ?aL rfl ?_; (case aP => exact k50_mkM _ _ _ _); (case aB => exact HA1.out.below.drew); (case aF => exact HA1.out.room); (case aO => exact Kd.R_drew HA1.out.row); (case aS => exact HA1.out.below.size); (case aL => have := Hl.out; omega); intro v1 w7 ho hb hg hat; obtain ⟨A1, n1, hv1⟩ := Kd.R_slice ho; subst hv1; have d4 := grown_cell hg (b := g) (o := 4) c4 Hne.out; have e4 := grown_free hg (b := g) (o := 4) hgs1 f4 Hne.out; have HO := Lib.hid ho; have HG := Lib.hid hg; have HB := Lib.hid hb; clear ho hg hb)
  all_goals
    go_wp2_with fail
    go_ret
    have hO := HO.out
    rw [show (all ++ [toS (t, y)]).length = all.length + 1 by simp] at hO
    exact refw_Put_fin HFr.out HA1.out hO HG.out HB.out Hne.out
/-- Tells of a sample that is asked about at a moment. -/
def sampOk (all : List S50) (t : Int) : Prop := ∀ x ∈ all, -9223372036854775808 ≤ x.f0 ∧ x.f0 ≤ t ∧ I64 x.f1
theorem refw_Read_stale (g : Nat) (T : WT) (v : Value) (c t : Int) (w : World) (h : RefBlk w g T v c true) (ht : t < c) :
    Calls Try.prog 19 #[.pointer (some ⟨g, 0, none⟩), .int .i64 t] w fun e w' => e = .returned (.tuple #[.agg #[.int .i64 0, .int .i64 0], .int .i64 32]) ∧ Below w.heap.size w w' := by
  have h1 := refw_come_stale g T v c t _ (hb_alloc h (.cells #[.int .i64 0, .int .i64 0] 43)) ht
  have H1 := Lib.hid h1
  clear h1 h
  go_enter Try.func19, Try.ntmps19
  go_wp2_with fail
  refine H1.out.mono ?_
  rintro e w1 ⟨rfl, rfl⟩
  go_wp2
  exact bodyPost_ret (v := .tuple #[.agg #[.int .i64 0, .int .i64 0], .int .i64 32]) (by simp [results, Try.results19, go_sem]) rfl ⟨rfl, below1 _ _⟩

set_option maxRecDepth 100000 in
set_option maxHeartbeats 3200000 in
theorem refw_Read (w0 : World) (ok : Nat → Prop) (g : Nat) (T : WT) (v : Value) (all : List S50) (c : Int) (b : Bool) (t : Int) (w : World) (h : RefAt w0 w ok g T v all c b) (ht : stale b c t = false) (hT : T.right = true) (h64 : sampOk all t) (ht64 : t ≤ 9223372036854775807) (hl : all.length < 8000000000000) :
    Calls Try.prog 19 #[.pointer (some ⟨g, 0, none⟩), .int .i64 t] w fun e w' => e = .returned (.tuple #[.agg #[.int .i64 (winRead T ((holdR all t T.s).map (·.f1))).1, .int .i64 (winRead T ((holdR all t T.s).map (·.f1))).2], .int .i64 0]) ∧ Fr (fun k => k = g) w w' ∧ RefAt w0 w' ok g T v all t true := by
  have hA1 := h.on (below1 w (.cells #[.int .i64 0, .int .i64 0] 43))
  have h1 := refw_come_on g T v c t b _ hA1.blk ht
  have H1 := Lib.hid h1
  have HA2 := Lib.hid (hA1.clock t)
  have hgs : g < w.heap.size := hb_lt h.blk
  obtain ⟨X, hX⟩ : ∃ X, X = (winRead T ((holdR all t T.s).map (·.f1))).1 := ⟨_, rfl⟩
  obtain ⟨Y, hY⟩ : ∃ Y, Y = (winRead T ((holdR all t T.s).map (·.f1))).2 := ⟨_, rfl⟩
  have hRd := fun (A : Option Addr) (n : Nat) (W : World) (hC : Kd.C k50 W A all.length all) (hc : all.length ≤ n) => ref_Read_calls T A n all t W hC hc h64 ht64 hT (by omega)
  rw [← hX, ← hY] at hRd ⊢
  have HRd := Lib.hid hRd
  have HBase := Lib.hid h.below.size
  clear h1 h ht hl hA1 hRd h64 ht64 hT hX hY
  go_enter Try.func19, Try.ntmps19
  go_wp2_with fail
  refine H1.out.mono ?_
  rintro e w1 ⟨rfl, hw1⟩
  have hbx : w1.heap[w.heap.size]? = some (.cells #[.int .i64 0, .int .i64 0] 43 (0, 0)) := by
    rw [hw1]
    exact hb_far (hb_far (hb_new w _) (by simp; omega) _) (by simp; omega) _
  have hA2 := HA2.out
  rw [← hw1] at hA2
  have hfr : Fr (fun k => k = g) w w1 := by
    rw [hw1]
    exact (((Fr.ofBelow (F := fun k => k = g) (below1 w _)).setCell (p := ⟨g, 5, none⟩) (.inl rfl) _).setCell (p := ⟨g, 6, none⟩) (.inl rfl) _)
  have hw1s : w.heap.size < w1.heap.size := hb_lt hbx
  have hgs1 : g < w1.heap.size := hb_lt hA2.blk
  obtain ⟨A, n, hv, hn, hC⟩ := Kd.R_reads hA2.row
  have c0 := hb_cell hA2.blk 0
  have c1 := hb_cell hA2.blk 1
  have c2 := hb_cell hA2.blk 2
  have c3 := hb_cell hA2.blk 3
  have c4 := hb_cell hA2.blk 4
  simp only [List.getElem?_toArray, List.getElem?_cons_zero, List.getElem?_cons_succ] at c0 c1 c2 c3 c4
  have hRd2 : ∀ W, Below w1.heap.size w1 W → Calls Try.prog 39 #[.agg #[.int .i64 T.m, .int .i64 T.a, .int .i64 T.s, .int .i64 T.p], .slice A all.length n, .int .i64 t] W fun e w' => e = .returned (.agg #[.int .i64 X, .int .i64 Y]) ∧ Hid (Below w1.heap.size w1 w') ∧ w'.cell? ⟨w.heap.size, 0, none⟩ = some (.int .i64 0) ∧ w'.cell? ⟨w.heap.size, 1, none⟩ = some (.int .i64 0) ∧ w'.frozen? ⟨w.heap.size, 0, none⟩ = false ∧ w'.frozen? ⟨w.heap.size, 1, none⟩ = false := by
    intro W hW
    refine (HRd.out A n W (Kd.C_below hC hW) hn).mono ?_
    rintro e w' ⟨rfl, hB⟩
    have hB2 := below_up hW hB
    obtain ⟨z0, z1, z2, z3⟩ := hb2 (hb_below' hbx hB2)
    exact ⟨rfl, Lib.hid hB2, z0, z1, z2, z3⟩
  have HRd2 := Lib.hid hRd2
  have HA1 := Lib.hid hA2
  have HFr := Lib.hid hfr
  have HBx := Lib.hid hbx
  subst hv
  clear hw1 hA2 hfr hbx HA2 H1 hRd2 HRd hC hn
  go_wp2_with fail
  go_region_with (first | (refine (HRd2.out _ ?hbb).mono ?_; (case hbb => first | exact Below.refl _ _ | exact (Below.refl _ _).drew); rintro e w2 ⟨rfl, HB2, y0, y1, y2, y3⟩))
  all_goals
    go_wp2_with fail
    have hz := two_set (hb_below' HBx.out HB2.out) (.int .i64 X) (.int .i64 Y)
    obtain ⟨r0, r1, _, _⟩ := hb2 hz
    refine bodyPost_ret (v := .tuple #[.agg #[.int .i64 X, .int .i64 Y], .int .i64 0]) (by simp [results, Try.results19, r0, r1, go_sem]) rfl ⟨rfl, ?_, ?_⟩
    · exact ((HFr.out.trans (Fr.ofBelow (F := fun k => k = g) HB2.out) (Ext.refl _ _ _)).setCell (p := ⟨w.heap.size, 0, none⟩) (.inr (Nat.le_refl _)) _).setCell (p := ⟨w.heap.size, 1, none⟩) (.inr (Nat.le_refl _)) _
    · exact (HA1.out.on HB2.out).box (hb_below' HBx.out HB2.out) HBase.out (by omega) _ _
end Go.Proofs.Ytfhhdlpglfjdgaa
/- WindowPlays: the two windows side by side; one step. -/
set_option linter.unusedVariables false
set_option linter.unusedSimpArgs false
namespace Go.Proofs.Ytfhhdlpglfjdgaa
open Go.RowKit Go.Proofs.YtfhhdlpglfjdgaaW.PrintWords Go.Proofs.YtfhhdlpglfjdgaaW.PrintLast Go.Proofs.YtfhhdlpglfjdgaaW.PrintMore Go.Proofs.Ytfhhdlpglfjdgaa.PWindowPlays

/-- Two lists that are the same. -/
theorem ref_Same (l : List S50) (hl : l.length < 4611686018427387904) : Ev (fun k => capstanref08_SameSamples.f k l l) true := by
  have key : ∀ (m i : Nat), l.length - i = m → i ≤ l.length → Ev (fun k => capstanref08_SameSamples.l0 k l l (i : Int)) true := by
    intro m
    induction m with
    | zero =>
      intro i hm hi
      refine Ev.step (f := fun _ => some true) (fun k => ?_) (Ev.now _)
      rw [capstanref08_SameSamples.l0, if_neg (by omega)]
    | succ m ih =>
      intro i hm hi
      refine Ev.step (fun k => ?_) (ih (i + 1) (by omega) (by omega))
      rw [capstanref08_SameSamples.l0, if_pos (by omega), if_pos (by omega), if_pos (by omega), if_neg (by simp), w64 (by omega) (by omega)]
      rfl
  refine Ev.congr (fun k => ?_) (key _ 0 rfl (by omega))
  unfold capstanref08_SameSamples.f
  rw [if_pos rfl]
  rfl

/-- The window and the reference's, apart from one another; boxes that are kept. -/
def Pair (w0 wr : World) (T : WT) (ga gr : Nat) (c : Int) (b : Bool) (N : Int) (l : List (Int × Int)) (all : List S50) (cr : Int) (br : Bool) (bx : List (Nat × Obj)) : Prop :=
  ∃ Fa v, WinAt wr Fa ga T c b N l ∧ (∀ k, Fa k → w0.heap.size ≤ k) ∧ RefAt w0 wr (fun k => ¬ Fa k ∧ ∀ p ∈ bx, k ≠ p.1) gr T v all cr br ∧ ¬ Fa gr ∧ ∀ p ∈ bx, wr.heap[p.1]? = some p.2 ∧ ¬ Fa p.1 ∧ p.1 ≠ gr
section
variable {w0 wr wx : World} {T : WT} {ga gr : Nat} {c : Int} {b : Bool} {N : Int} {l : List (Int × Int)} {all : List S50} {cr : Int} {br : Bool} {bx : List (Nat × Obj)}
theorem Pair.below (h : Pair w0 wr T ga gr c b N l all cr br bx) : Below w0.heap.size w0 wr := by
  obtain ⟨Fa, v, h1, h2, h3, h4, h5⟩ := h; exact h3.below
theorem Pair.on (h : Pair w0 wr T ga gr c b N l all cr br bx) (hb : Below wr.heap.size wr wx) : Pair w0 wx T ga gr c b N l all cr br bx := by
  obtain ⟨Fa, v, h1, h2, h3, h4, h5⟩ := h
  exact ⟨Fa, v, h1.below hb, h2, h3.on hb, h4, fun p hp => ⟨hb_below' (h5 p hp).1 hb, (h5 p hp).2⟩⟩
theorem RefAt.mono {ok ok' : Nat → Prop} {v : Value} (h : RefAt w0 wr ok gr T v all cr br) (hk : ∀ k, k < wr.heap.size → ok k → ok' k) (hr : ∀ k, wr.heap.size ≤ k → ok' k) : RefAt w0 wr ok' gr T v all cr br :=
  ⟨h.below, h.blk, h.base, Kd.R_mono (Kd.R_bound h.row) (fun k hk' => hk k hk'.2.2.1 hk'.1), hr⟩
theorem Pair.push (h : Pair w0 wr T ga gr c b N l all cr br bx) (o : Obj) : Pair w0 (wr.alloc o) T ga gr c b N l all cr br ((wr.heap.size, o) :: bx) := by
  obtain ⟨Fa, v, h1, h2, h3, h4, h5⟩ := h
  have hg : gr < wr.heap.size := hb_lt h3.blk
  have h3' := h3.mono (ok' := fun k => k < wr.heap.size → (¬ Fa k ∧ ∀ p ∈ bx, k ≠ p.1)) (fun k _ hk _ => hk) (fun k hk hk' => by omega)
  refine ⟨Fa, v, h1.below (below1 wr o), h2, ?_, h4, fun p hp => ?_⟩
  · have h6 := h3.on (below1 wr o)
    refine ⟨h6.below, h6.blk, h6.base, ?_, ?_⟩
    · have h7 := Kd.R_alloc (Kd.R_mono (Kd.R_bound h3.row) (ok' := fun k => (¬ Fa k ∧ ∀ p ∈ (wr.heap.size, o) :: bx, k ≠ p.1)) (fun k hk => ⟨hk.1.1, fun p hp => by
        rcases List.mem_cons.1 hp with rfl | hp
        · have := hk.2.2.1; simp only; omega
        · exact hk.1.2 p hp⟩)) o
      exact h7
    · intro k hk
      have hk' : wr.heap.size + 1 ≤ k := by simpa using hk
      refine ⟨fun h => by have := h1.lt k h; omega, fun p hp => ?_⟩
      rcases List.mem_cons.1 hp with rfl | hp
      · simp only; omega
      · have := hb_lt (h5 p hp).1; omega
  · rcases List.mem_cons.1 hp with rfl | hp
    · exact ⟨hb_new _ _, fun h => Nat.lt_irrefl _ (h1.lt _ h), by simp only; omega⟩
    · exact ⟨hb_alloc (h5 p hp).1 _, (h5 p hp).2⟩
theorem Pair.drop (h : Pair w0 wr T ga gr c b N l all cr br bx) : Pair w0 wr T ga gr c b N l all cr br [] := by
  obtain ⟨Fa, v, h1, h2, h3, h4, h5⟩ := h
  exact ⟨Fa, v, h1, h2, h3.mono (fun k _ hk => ⟨hk.1, fun p hp => by simp at hp⟩) (fun k hk => ⟨fun h => by have := h1.lt k h; omega, fun p hp => by simp at hp⟩), h4, fun p hp => by simp at hp⟩
theorem Pair.box (h : Pair w0 wr T ga gr c b N l all cr br bx) {k : Nat} {o : Obj} (hp : (k, o) ∈ bx) : wr.heap[k]? = some o := by
  obtain ⟨Fa, v, h1, h2, h3, h4, h5⟩ := h
  exact (h5 _ hp).1
/-- The window moves. -/
theorem Pair.prog {Fa F' : Nat → Prop} {v : Value} {c' : Int} {b' : Bool} {N' : Int} {l' : List (Int × Int)} (h1 : WinAt wr Fa ga T c b N l) (h2 : ∀ k, Fa k → w0.heap.size ≤ k) (h3 : RefAt w0 wr (fun k => ¬ Fa k ∧ ∀ p ∈ bx, k ≠ p.1) gr T v all cr br) (h4 : ¬ Fa gr)
    (h5 : ∀ p ∈ bx, wr.heap[p.1]? = some p.2 ∧ ¬ Fa p.1 ∧ p.1 ≠ gr) (hf : Fr Fa wr wx) (hE : Ext Fa F' wr wx) (hw : WinAt wx F' ga T c' b' N' l') : Pair w0 wx T ga gr c' b' N' l' all cr br bx := by
  have hg : gr < wr.heap.size := hb_lt h3.blk
  have hn : ∀ k, k < wr.heap.size → ¬ Fa k → ¬ F' k := fun k hk hn h => by
    rcases hE k h with h | h
    · exact hn h
    · omega
  refine ⟨F', v, hw, ?_, ⟨h3.below.trans (hf.below h2 h3.below.size), (hf.block gr hg h4).trans h3.blk, h3.base, ?_, ?_⟩, hn gr hg h4, fun p hp => ?_⟩
  · intro k hk
    rcases hE k hk with h | h
    · exact h2 k h
    · have := h3.below.size; omega
  · exact Kd.R_mono (Kd.R_step (Kd.R_bound h3.row) (fun k hk hlt => hf.block k hlt hk.1.1)) (fun k hk => ⟨hn k hk.2.2.1 hk.1.1, hk.1.2⟩)
  · intro k hk
    refine ⟨fun h => by have := hw.lt k h; omega, fun p hp => ?_⟩
    have := hb_lt (h5 p hp).1
    have := hf.size
    omega
  · exact ⟨hf.blk (h5 p hp).1 (h5 p hp).2.1, hn _ (hb_lt (h5 p hp).1) (h5 p hp).2.1, (h5 p hp).2.2⟩
/-- The reference's window moves. -/
theorem Pair.ref {Fa : Nat → Prop} {v v' : Value} {all' : List S50} {cr' : Int} {br' : Bool} (h1 : WinAt wr Fa ga T c b N l) (h2 : ∀ k, Fa k → w0.heap.size ≤ k) (h3 : RefAt w0 wr (fun k => ¬ Fa k ∧ ∀ p ∈ bx, k ≠ p.1) gr T v all cr br) (h4 : ¬ Fa gr)
    (h5 : ∀ p ∈ bx, wr.heap[p.1]? = some p.2 ∧ ¬ Fa p.1 ∧ p.1 ≠ gr) (hf : Fr (fun k => k = gr ∨ some k = v.ownBlock) wr wx) (hw : RefAt w0 wx (fun k => ¬ Fa k ∧ ∀ p ∈ bx, k ≠ p.1) gr T v' all' cr' br') : Pair w0 wx T ga gr c b N l all' cr' br' bx := by
  have hrow := h3.row.1
  refine ⟨Fa, v', h1.keep (fun k hk => hf.block k (h1.lt k hk) ?_) hf.size, h2, hw, h4, fun p hp => ⟨hf.blk (h5 p hp).1 ?_, (h5 p hp).2⟩⟩
  · rintro (rfl | h)
    · exact h4 hk
    · exact (hrow k h.symm).1 hk
  · rintro (h | h)
    · exact (h5 p hp).2.2 h
    · exact (hrow _ h.symm).2 p hp rfl
theorem Pair.put_a (h : Pair w0 wr T ga gr c b N l all cr br bx) (x : Int × Int) (hN : N ≤ 4611686018427387904) (hx : I64 x.1 ∧ I64 x.2) (ht : stale b c x.1 = false) :
    Calls Try.prog 14 #[.pointer (some ⟨ga, 0, none⟩), .agg #[.int .i64 x.1, .int .i64 x.2]] wr fun e w' => e = .returned (.int .i64 0) ∧ Pair w0 w' T ga gr x.1 true (N + 1) (pushL l x) all cr br bx := by
  obtain ⟨Fa, v, h1, h2, h3, h4, h5⟩ := h
  refine (win_Put Fa ga T c N b l x wr h1 hN hx ht).mono ?_
  rintro e w' ⟨rfl, hf, F', hE, hw⟩
  exact ⟨rfl, Pair.prog h1 h2 h3 h4 h5 hf hE hw⟩
theorem Pair.read_a (h : Pair w0 wr T ga gr c b N l all cr br bx) (t : Int) (hT : T.right = true) (hN : N ≤ 4611686018427387904) (ht : stale b c t = false) :
    Calls Try.prog 12 #[.pointer (some ⟨ga, 0, none⟩), .int .i64 t] wr fun e w' => e = .returned (.tuple #[.agg #[.int .i64 (winRead T (vals (fresh t T.s l))).1, .int .i64 (winRead T (vals (fresh t T.s l))).2], .int .i64 0]) ∧ Pair w0 w' T ga gr t true N (fresh t T.s l) all cr br bx := by
  obtain ⟨Fa, v, h1, h2, h3, h4, h5⟩ := h
  refine (win_Read Fa ga T c N t b l wr h1 hT hN ht).mono ?_
  rintro e w' ⟨rfl, hf, F', hE, hw⟩
  exact ⟨rfl, Pair.prog h1 h2 h3 h4 h5 hf hE hw⟩
theorem Pair.held_a (h : Pair w0 wr T ga gr c b N l all cr br bx) (t : Int) (hN : N ≤ 4611686018427387904) (ht : stale b c t = false) :
    Calls Try.prog 13 #[.pointer (some ⟨ga, 0, none⟩), .int .i64 t] wr fun e w' => ∃ v, e = .returned (.tuple #[v, .int .i64 0]) ∧ Pair w0 w' T ga gr t true N (fresh t T.s l) all cr br bx ∧ Kd.R k50 50 w' wr.heap.size (fun _ => True) v ((fresh t T.s l).map toS) := by
  obtain ⟨Fa, v, h1, h2, h3, h4, h5⟩ := h
  refine (win_Held Fa ga T c N t b l wr h1 hN ht).mono ?_
  rintro e w' ⟨va, rfl, hf, F', hE, hw, hR⟩
  exact ⟨va, rfl, Pair.prog h1 h2 h3 h4 h5 hf hE hw, Kd.R_mono hR (fun _ _ => trivial)⟩
theorem Pair.clock_a (h : Pair w0 wr T ga gr c b N l all cr br bx) :
    Calls Try.prog 11 #[.pointer (some ⟨ga, 0, none⟩)] wr fun e w' => e = .returned (.tuple #[.int .i64 c, .bool b]) ∧ Pair w0 w' T ga gr c b N l all cr br bx := by
  have h0 := h
  obtain ⟨Fa, v, h1, h2, h3, h4, h5⟩ := h
  refine (win_Clock wr h1).mono ?_
  rintro e w' ⟨rfl, hb⟩
  exact ⟨rfl, h0.on hb⟩
theorem Pair.refuses (h : Pair w0 wr T ga gr c true N l all cr br bx) (t : Int) (ht : t < c) : Refuses wr (.pointer (some ⟨ga, 0, none⟩)) t 32 := by
  obtain ⟨Fa, v, h1, h2, h3, h4, h5⟩ := h
  exact refuses_stale h1 t ht
theorem Pair.put_a_no (h : Pair w0 wr T ga gr c true N l all cr br bx) (t x : Int) (ht : t < c) :
    Calls Try.prog 14 #[.pointer (some ⟨ga, 0, none⟩), .agg #[.int .i64 t, .int .i64 x]] wr fun e w' => e = .returned (.int .i64 32) ∧ Pair w0 w' T ga gr c true N l all cr br bx :=
  (win_Put_no _ t x 32 wr (h.refuses t ht) (.inr rfl)).mono fun _ _ hh => ⟨hh.1, h.on hh.2⟩
theorem Pair.read_a_no (h : Pair w0 wr T ga gr c true N l all cr br bx) (t : Int) (ht : t < c) :
    Calls Try.prog 12 #[.pointer (some ⟨ga, 0, none⟩), .int .i64 t] wr fun e w' => e = .returned (.tuple #[.agg #[.int .i64 0, .int .i64 0], .int .i64 32]) ∧ Pair w0 w' T ga gr c true N l all cr br bx :=
  (win_Read_no _ t 32 wr (h.refuses t ht) (.inr rfl)).mono fun _ _ hh => ⟨hh.1, h.on hh.2⟩
theorem Pair.held_a_no (h : Pair w0 wr T ga gr c true N l all cr br bx) (t : Int) (ht : t < c) :
    Calls Try.prog 13 #[.pointer (some ⟨ga, 0, none⟩), .int .i64 t] wr fun e w' => e = .returned (.tuple #[.slice none 0 0, .int .i64 32]) ∧ Pair w0 w' T ga gr c true N l all cr br bx :=
  (win_Held_no _ t 32 wr (h.refuses t ht) (.inr rfl)).mono fun _ w' hh => ⟨hh.1, by obtain ⟨_, rfl⟩ := hh; exact h⟩
theorem Pair.put_r (h : Pair w0 wr T ga gr c b N l all cr br bx) (x : Int × Int) (ht : stale br cr x.1 = false) (hl : all.length < 8000000000000) :
    Calls Try.prog 18 #[.pointer (some ⟨gr, 0, none⟩), .agg #[.int .i64 x.1, .int .i64 x.2]] wr fun e w' => e = .returned (.int .i64 0) ∧ Pair w0 w' T ga gr c b N l (all ++ [toS x]) x.1 true bx := by
  obtain ⟨Fa, v, h1, h2, h3, h4, h5⟩ := h
  refine (refw_Put w0 _ gr T v all cr br x wr h3 ht hl).mono ?_
  rintro e w' ⟨rfl, hf, v', hw⟩
  exact ⟨rfl, Pair.ref h1 h2 h3 h4 h5 hf hw⟩
theorem Pair.put_r_no (h : Pair w0 wr T ga gr c b N l all cr true bx) (t x : Int) (ht : t < cr) :
    Calls Try.prog 18 #[.pointer (some ⟨gr, 0, none⟩), .agg #[.int .i64 t, .int .i64 x]] wr fun e w' => e = .returned (.int .i64 32) ∧ Pair w0 w' T ga gr c b N l all cr true bx := by
  have h0 := h
  obtain ⟨Fa, v, h1, h2, h3, h4, h5⟩ := h
  refine (refw_Put_stale gr T v cr t x wr h3.blk ht).mono ?_
  rintro e w' ⟨rfl, hb⟩
  exact ⟨rfl, h0.on hb⟩
theorem Pair.read_r (h : Pair w0 wr T ga gr c b N l all cr br bx) (t : Int) (ht : stale br cr t = false) (hT : T.right = true) (h64 : sampOk all t) (ht64 : t ≤ 9223372036854775807) (hl : all.length < 8000000000000) :
    Calls Try.prog 19 #[.pointer (some ⟨gr, 0, none⟩), .int .i64 t] wr fun e w' => e = .returned (.tuple #[.agg #[.int .i64 (winRead T ((holdR all t T.s).map (·.f1))).1, .int .i64 (winRead T ((holdR all t T.s).map (·.f1))).2], .int .i64 0]) ∧ Fr (fun k => k = gr) wr w' ∧ Pair w0 w' T ga gr c b N l all t true bx := by
  obtain ⟨Fa, v, h1, h2, h3, h4, h5⟩ := h
  refine (refw_Read w0 _ gr T v all cr br t wr h3 ht hT h64 ht64 hl).mono ?_
  rintro e w' ⟨rfl, hf, hw⟩
  exact ⟨rfl, hf, Pair.ref h1 h2 h3 h4 h5 (hf.mono (fun k hk => .inl hk)) hw⟩
theorem Pair.read_r_no (h : Pair w0 wr T ga gr c b N l all cr true bx) (t : Int) (ht : t < cr) :
    Calls Try.prog 19 #[.pointer (some ⟨gr, 0, none⟩), .int .i64 t] wr fun e w' => e = .returned (.tuple #[.agg #[.int .i64 0, .int .i64 0], .int .i64 32]) ∧ Pair w0 w' T ga gr c b N l all cr true bx := by
  have h0 := h
  obtain ⟨Fa, v, h1, h2, h3, h4, h5⟩ := h
  refine (refw_Read_stale gr T v cr t wr h3.blk ht).mono ?_
  rintro e w' ⟨rfl, hb⟩
  exact ⟨rfl, h0.on hb⟩
theorem Pair.cells_r (h : Pair w0 wr T ga gr c b N l all cr br bx) : ∃ v, RefBlk wr gr T v cr br ∧ gr < wr.heap.size ∧ w0.heap.size ≤ gr ∧ Kd.R k50 50 wr w0.heap.size (fun _ => True) v all := by
  obtain ⟨Fa, v, h1, h2, h3, h4, h5⟩ := h
  exact ⟨v, h3.blk, hb_lt h3.blk, h3.base, Kd.R_mono h3.row (fun _ _ => trivial)⟩
end
end Go.Proofs.Ytfhhdlpglfjdgaa
/- WindowPlays: one step of the script. -/
set_option linter.unusedVariables false
set_option linter.unusedSimpArgs false
namespace Go.Proofs.Ytfhhdlpglfjdgaa
open Go.RowKit Go.Proofs.YtfhhdlpglfjdgaaW.PrintWords Go.Proofs.YtfhhdlpglfjdgaaW.PrintLast Go.Proofs.YtfhhdlpglfjdgaaW.PrintMore Go.Proofs.Ytfhhdlpglfjdgaa.PWindowPlays

/-- What stands between two steps. -/
def Play (w0 wr : World) (T : WT) (ga gr : Nat) (n : Nat) (c : Int) (b : Bool) : Prop :=
  ∃ (N : Int) (l : List (Int × Int)) (all : List S50), Pair w0 wr T ga gr c b N l all c b [] ∧ PlayI T.s c b l all ∧ N ≤ n ∧ all.length ≤ n
theorem PlayI.ok {s c : Int} {b : Bool} {l : List (Int × Int)} {all : List S50} (h : PlayI s c b l all) (t : Int) (ht : stale b c t = false) : sampOk all t := by
  have h' := h.later t ht
  exact fun x hx => ⟨(h'.i64 x hx).1.1, (h'.top x hx).2, (h'.i64 x hx).2⟩
theorem vals_hold {l : List (Int × Int)} {all : List S50} {t s : Int} (h : l.map toS = holdR all t s) : (holdR all t s).map (·.f1) = vals l := by
  rw [← h, List.map_map]
  rfl

set_option maxRecDepth 100000 in
set_option maxHeartbeats 6400000 in
theorem step_put (w0 : World) (T : WT) (ga gr : Nat) (n : Nat) (c : Int) (b : Bool) (t v : Int) (w : World) (h : Play w0 w T ga gr n c b) (hT : T.right = true) (hn : n ≤ 7000000000000) (ht64 : I64 t) (hv64 : I64 v) :
    Calls Try.prog 10 #[.pointer (some ⟨ga, 0, none⟩), .pointer (some ⟨gr, 0, none⟩), .agg #[.int .i64 1, .int .i64 t, .int .i64 v]] w fun e w' => e = .returned (.bool true) ∧ ∃ c' b', Play w0 w' T ga gr (n + 1) c' b' := by
  obtain ⟨N, l, all, hP, hI, hN, hall⟩ := h
  have hs : 1 ≤ T.s ∧ T.s ≤ 604800 := by simp only [WT.right, decide_eq_true_eq] at hT; omega
  have HT := Lib.hid hT
  have HI := Lib.hid hI
  have HN := Lib.hid (show N ≤ 4611686018427387904 by omega)
  have HN2 := Lib.hid (show N + 1 ≤ ((n + 1 : Nat) : Int) ∧ N ≤ ((n + 1 : Nat) : Int) by omega)
  have Hall := Lib.hid (show all.length < 8000000000000 ∧ all.length + 1 ≤ n + 1 ∧ all.length ≤ n + 1 by omega)
  have Hs := Lib.hid hs
  have H64 := Lib.hid (And.intro ht64 hv64)
  have HP1 := Lib.hid (hP.push (.cells #[.int .i64 1, .int .i64 t, .int .i64 v] 37))
  have hww : w.heap.size < (w.alloc (.cells #[.int .i64 1, .int .i64 t, .int .i64 v] 37)).heap.size := by simp
  clear hT hI hN hall hs hn ht64 hv64 hP
  have hfork : b = true ∧ t < c ∨ stale b c t = false := by
    cases b
    · exact .inr rfl
    · by_cases h : t < c
      · exact .inl ⟨rfl, h⟩
      · exact .inr (by simpa [stale] using h)
  rcases hfork with ⟨rfl, hlt⟩ | hst
  · go_enter Try.func10, Try.ntmps10
    go_wp2_with fail
    have hp2 := HP1.out.push (.cells #[.int .i64 t, .int .i64 v] 50)
    rw [show (w.alloc (.cells #[.int .i64 1, .int .i64 t, .int .i64 v] 37)).heap.size = w.heap.size + 1 by simp] at hp2
    have HP2 := Lib.hid hp2
    clear hp2
    have HP2d := Lib.hid (HP2.out.on (Below.refl _ _).drew)
    go_region_with (first | (refine (HPr.out.put_a_no t v hlt).mono ?_; rintro e w5 ⟨rfl, hp1⟩; obtain ⟨y0, y1, _, _⟩ := hb2 (hp1.box List.mem_cons_self); have HPb := Lib.hid hp1; clear hp1) | (refine (HPa.out.put_r_no t v hlt).mono ?_; rintro e w5 ⟨rfl, hp1⟩; obtain ⟨y0, y1, _, _⟩ := hb2 (hp1.box List.mem_cons_self); have HPb := Lib.hid hp1; clear hp1) | (refine (HP2d.out.put_a_no t v hlt).mono ?_; rintro e w4 ⟨rfl, hp1⟩; obtain ⟨y0, y1, _, _⟩ := hb2 (hp1.box List.mem_cons_self); have HPa := Lib.hid hp1; clear hp1) | (refine (HP2.out.put_a_no t v hlt).mono ?_; rintro e w4 ⟨rfl, hp1⟩; obtain ⟨y0, y1, _, _⟩ := hb2 (hp1.box List.mem_cons_self); have HPa := Lib.hid hp1; clear hp1) | (refine (HP2d.out.put_r_no t v hlt).mono ?_; rintro e w4 ⟨rfl, hp1⟩; obtain ⟨y0, y1, _, _⟩ := hb2 (hp1.box List.mem_cons_self); have HPr := Lib.hid hp1; clear hp1) | (refine (HP2.out.put_r_no t v hlt).mono ?_; rintro e w4 ⟨rfl, hp1⟩; obtain ⟨y0, y1, _, _⟩ := hb2 (hp1.box List.mem_cons_self); have HPr := Lib.hid hp1; clear hp1))
    all_goals
      go_wp2_with fail
      go_ret
      exact ⟨rfl, c, true, N, l, all, HPb.out.drop, HI.out, HN2.out.2, Hall.out.2.2⟩
  · have Hst := Lib.hid hst
    have HI2 := Lib.hid (HI.out.put (t, v) H64.out hst)
    clear hst
    go_enter Try.func10, Try.ntmps10
    go_wp2_with fail
    have hp2 := HP1.out.push (.cells #[.int .i64 t, .int .i64 v] 50)
    rw [show (w.alloc (.cells #[.int .i64 1, .int .i64 t, .int .i64 v] 37)).heap.size = w.heap.size + 1 by simp] at hp2
    have HP2 := Lib.hid hp2
    clear hp2
    have HP2d := Lib.hid (HP2.out.on (Below.refl _ _).drew)
    go_region_with (first | (refine (HPr.out.put_a (t, v) HN.out H64.out Hst.out).mono ?_; rintro e w5 ⟨rfl, hp1⟩; obtain ⟨y0, y1, _, _⟩ := hb2 (hp1.box List.mem_cons_self); have HPb := Lib.hid hp1; clear hp1) | (refine (HPa.out.put_r (t, v) Hst.out Hall.out.1).mono ?_; rintro e w5 ⟨rfl, hp1⟩; obtain ⟨y0, y1, _, _⟩ := hb2 (hp1.box List.mem_cons_self); have HPb := Lib.hid hp1; clear hp1) | (refine (HP2d.out.put_a (t, v) HN.out H64.out Hst.out).mono ?_; rintro e w4 ⟨rfl, hp1⟩; obtain ⟨y0, y1, _, _⟩ := hb2 (hp1.box List.mem_cons_self); have HPa := Lib.hid hp1; clear hp1) | (refine (HP2.out.put_a (t, v) HN.out H64.out Hst.out).mono ?_; rintro e w4 ⟨rfl, hp1⟩; obtain ⟨y0, y1, _, _⟩ := hb2 (hp1.box List.mem_cons_self); have HPa := Lib.hid hp1; clear hp1) | (refine (HP2d.out.put_r (t, v) Hst.out Hall.out.1).mono ?_; rintro e w4 ⟨rfl, hp1⟩; obtain ⟨y0, y1, _, _⟩ := hb2 (hp1.box List.mem_cons_self); have HPr := Lib.hid hp1; clear hp1) | (refine (HP2.out.put_r (t, v) Hst.out Hall.out.1).mono ?_; rintro e w4 ⟨rfl, hp1⟩; obtain ⟨y0, y1, _, _⟩ := hb2 (hp1.box List.mem_cons_self); have HPr := Lib.hid hp1; clear hp1))
    all_goals
      go_wp2_with fail
      go_ret
      exact ⟨rfl, t, true, N + 1, _, _, HPb.out.drop, HI2.out, HN2.out.1, by have := Hall.out.2.1; simpa using this⟩
set_option maxRecDepth 100000 in
set_option maxHeartbeats 6400000 in
theorem step_read (w0 : World) (T : WT) (ga gr : Nat) (n : Nat) (c : Int) (b : Bool) (t v : Int) (w : World) (h : Play w0 w T ga gr n c b) (hT : T.right = true) (hn : n ≤ 7000000000000) (ht64 : I64 t) (hv64 : I64 v) :
    Calls Try.prog 10 #[.pointer (some ⟨ga, 0, none⟩), .pointer (some ⟨gr, 0, none⟩), .agg #[.int .i64 2, .int .i64 t, .int .i64 v]] w fun e w' => e = .returned (.bool true) ∧ ∃ c' b', Play w0 w' T ga gr (n + 1) c' b' := by
  obtain ⟨N, l, all, hP, hI, hN, hall⟩ := h
  have hs : 1 ≤ T.s ∧ T.s ≤ 604800 := by simp only [WT.right, decide_eq_true_eq] at hT; omega
  have HT := Lib.hid hT
  have HI := Lib.hid hI
  have HN := Lib.hid (show N ≤ 4611686018427387904 by omega)
  have HN2 := Lib.hid (show N + 1 ≤ ((n + 1 : Nat) : Int) ∧ N ≤ ((n + 1 : Nat) : Int) by omega)
  have Hall := Lib.hid (show all.length < 8000000000000 ∧ all.length + 1 ≤ n + 1 ∧ all.length ≤ n + 1 by omega)
  have Hs := Lib.hid hs
  have H64 := Lib.hid (And.intro ht64 hv64)
  have HP1 := Lib.hid (hP.push (.cells #[.int .i64 2, .int .i64 t, .int .i64 v] 37))
  have hww : w.heap.size < (w.alloc (.cells #[.int .i64 2, .int .i64 t, .int .i64 v] 37)).heap.size := by simp
  clear hT hI hN hall hs hn ht64 hv64 hP
  have hfork : b = true ∧ t < c ∨ stale b c t = false := by
    cases b
    · exact .inr rfl
    · by_cases h : t < c
      · exact .inl ⟨rfl, h⟩
      · exact .inr (by simpa [stale] using h)
  rcases hfork with ⟨rfl, hlt⟩ | hst
  · go_enter Try.func10, Try.ntmps10
    go_wp2_with fail
    refine (HP1.out.read_a_no t hlt).mono ?_
    rintro e w4 ⟨rfl, hp4⟩
    obtain ⟨o0, o1, o2⟩ := hb3 (hp4.box List.mem_cons_self)
    have hoo : w.heap.size < w4.heap.size := hb_lt (hp4.box List.mem_cons_self)
    have HP4 := Lib.hid (hp4.push (.cells #[.int .i64 0, .int .i64 0] 43))
    clear hp4
    go_wp2_with fail
    refine (HP4.out.read_r_no t hlt).mono ?_
    rintro e w5 ⟨rfl, hp5⟩
    obtain ⟨x0, x1, _, _⟩ := hb2 (hp5.box List.mem_cons_self)
    have hxx : w4.heap.size < w5.heap.size := hb_lt (hp5.box List.mem_cons_self)
    have HP5 := Lib.hid (hp5.push (.cells #[.int .i64 0, .int .i64 0] 43))
    clear hp5
    go_wp2_with fail
    go_ret
    exact ⟨rfl, c, true, N, l, all, HP5.out.drop, HI.out, HN2.out.2, Hall.out.2.2⟩
  · have Hst := Lib.hid hst
    have hrd := HI.out.read t hst H64.out.1 Hs.out.1 Hs.out.2
    have HI2 := Lib.hid hrd.1
    have HV := Lib.hid (vals_hold hrd.2)
    obtain ⟨X, hX⟩ : ∃ X, X = (winRead T (vals (fresh t T.s l))).1 := ⟨_, rfl⟩
    obtain ⟨Y, hY⟩ : ∃ Y, Y = (winRead T (vals (fresh t T.s l))).2 := ⟨_, rfl⟩
    have HX := Lib.hid hX
    have HY := Lib.hid hY
    have Hok := Lib.hid (HI.out.ok t hst)
    clear hst hrd hX hY
    go_enter Try.func10, Try.ntmps10
    go_wp2_with fail
    have hC := HP1.out.read_a t HT.out HN.out Hst.out
    rw [← HX.out, ← HY.out] at hC
    refine hC.mono ?_
    rintro e w4 ⟨rfl, hp4⟩
    obtain ⟨o0, o1, o2⟩ := hb3 (hp4.box List.mem_cons_self)
    have hoo : w.heap.size < w4.heap.size := hb_lt (hp4.box List.mem_cons_self)
    have HP4 := Lib.hid (hp4.push (.cells #[.int .i64 X, .int .i64 Y] 43))
    clear hp4 hC
    go_wp2_with fail
    have hC := HP4.out.read_r t Hst.out HT.out Hok.out H64.out.1.2 Hall.out.1
    rw [HV.out, ← HX.out, ← HY.out] at hC
    refine hC.mono ?_
    rintro e w5 ⟨rfl, _, hp5⟩
    obtain ⟨x0, x1, _, _⟩ := hb2 (hp5.box List.mem_cons_self)
    have hxx : w4.heap.size < w5.heap.size := hb_lt (hp5.box List.mem_cons_self)
    have HP5 := Lib.hid (hp5.push (.cells #[.int .i64 X, .int .i64 Y] 43))
    clear hp5 hC
    go_wp2_with fail
    go_ret
    exact ⟨rfl, t, true, N, _, all, HP5.out.drop, HI2.out, HN2.out.2, Hall.out.2.2⟩
set_option maxRecDepth 100000 in
set_option maxHeartbeats 6400000 in
theorem step_held (w0 : World) (T : WT) (ga gr : Nat) (n : Nat) (c : Int) (b : Bool) (t v : Int) (w : World) (h : Play w0 w T ga gr n c b) (hT : T.right = true) (hn : n ≤ 7000000000000) (ht64 : I64 t) (hv64 : I64 v) :
    Calls Try.prog 10 #[.pointer (some ⟨ga, 0, none⟩), .pointer (some ⟨gr, 0, none⟩), .agg #[.int .i64 3, .int .i64 t, .int .i64 v]] w fun e w' => e = .returned (.bool true) ∧ ∃ c' b', Play w0 w' T ga gr (n + 1) c' b' := by
  obtain ⟨N, l, all, hP, hI, hN, hall⟩ := h
  have hs : 1 ≤ T.s ∧ T.s ≤ 604800 := by simp only [WT.right, decide_eq_true_eq] at hT; omega
  have HT := Lib.hid hT
  have HI := Lib.hid hI
  have HN := Lib.hid (show N ≤ 4611686018427387904 by omega)
  have HN2 := Lib.hid (show N + 1 ≤ ((n + 1 : Nat) : Int) ∧ N ≤ ((n + 1 : Nat) : Int) by omega)
  have Hall := Lib.hid (show all.length < 8000000000000 ∧ all.length + 1 ≤ n + 1 ∧ all.length ≤ n + 1 by omega)
  have Hs := Lib.hid hs
  have H64 := Lib.hid (And.intro ht64 hv64)
  have HP1 := Lib.hid (hP.push (.cells #[.int .i64 3, .int .i64 t, .int .i64 v] 37))
  have hww : w.heap.size < (w.alloc (.cells #[.int .i64 3, .int .i64 t, .int .i64 v] 37)).heap.size := by simp
  clear hT hI hN hall hs hn ht64 hv64 hP
  have hfork : b = true ∧ t < c ∨ stale b c t = false := by
    cases b
    · exact .inr rfl
    · by_cases h : t < c
      · exact .inl ⟨rfl, h⟩
      · exact .inr (by simpa [stale] using h)
  rcases hfork with ⟨rfl, hlt⟩ | hst
  · go_enter Try.func10, Try.ntmps10
    go_wp2_with fail
    refine (HP1.out.held_a_no t hlt).mono ?_
    rintro e w4 ⟨rfl, hp4⟩
    obtain ⟨o0, o1, o2⟩ := hb3 (hp4.box List.mem_cons_self)
    have HP4 := Lib.hid hp4
    clear hp4
    go_wp2_with fail
    refine (HP4.out.read_r_no t hlt).mono ?_
    rintro e w5 ⟨rfl, hp5⟩
    have HP5 := Lib.hid (hp5.push (.cells #[.int .i64 0, .int .i64 0] 43))
    clear hp5
    go_wp2_with fail
    go_ret
    exact ⟨rfl, c, true, N, l, all, HP5.out.drop, HI.out, HN2.out.2, Hall.out.2.2⟩
  · have Hst := Lib.hid hst
    have hrd := HI.out.read t hst H64.out.1 Hs.out.1 Hs.out.2
    have HI2 := Lib.hid hrd.1
    have HV := Lib.hid hrd.2
    obtain ⟨X, hX⟩ : ∃ X, X = (winRead T ((holdR all t T.s).map (·.f1))).1 := ⟨_, rfl⟩
    obtain ⟨Y, hY⟩ : ∃ Y, Y = (winRead T ((holdR all t T.s).map (·.f1))).2 := ⟨_, rfl⟩
    have HX := Lib.hid hX
    have HY := Lib.hid hY
    have Hok := Lib.hid (HI.out.ok t hst)
    have hrl : (holdR all t T.s).length ≤ 4096 := by
      unfold holdR
      refine Nat.le_trans (List.length_filter_le _ _) ?_
      rw [List.length_drop]; omega
    have Hrl := Lib.hid hrl
    clear hst hrd hX hY hrl
    go_enter Try.func10, Try.ntmps10
    go_wp2_with fail
    refine (HP1.out.held_a t HN.out Hst.out).mono ?_
    rintro e w4 ⟨va, rfl, hp4, hR4⟩
    rw [HV.out] at hR4
    obtain ⟨A1, c1, rfl⟩ := Kd.R_slice hR4
    obtain ⟨o0, o1, o2⟩ := hb3 (hp4.box List.mem_cons_self)
    have HP4 := Lib.hid hp4
    have HR4 := Lib.hid hR4
    clear hp4 hR4
    go_wp2_with fail
    have hC := HP4.out.read_r t Hst.out HT.out Hok.out H64.out.1.2 Hall.out.1
    rw [← HX.out, ← HY.out] at hC
    refine hC.mono ?_
    rintro e w5 ⟨rfl, hf5, hp5⟩
    obtain ⟨v4, hb4x, _, _, _⟩ := HP4.out.cells_r
    have hR5 : Kd.R k50 50 w5 (w.alloc (.cells #[.int .i64 3, .int .i64 t, .int .i64 v] 37)).heap.size (fun _ => True) (.slice A1 (holdR all t T.s).length c1) (holdR all t T.s) :=
      Kd.R_mono (Kd.R_step (Kd.R_types HR4.out hb4x (by decide)) (fun k hk hlt => hf5.block k hlt hk.2)) (fun _ _ => trivial)
    have hp6 := hp5.push (.cells #[.int .i64 X, .int .i64 Y] 43)
    have hR6 := Kd.R_alloc hR5 (.cells #[.int .i64 X, .int .i64 Y] 43)
    have HP6 := Lib.hid hp6
    have HR6 := Lib.hid hR6
    clear hC hb4x HR4 HP4 hf5 hp5 hR5 hp6 hR6
    obtain ⟨gv, hgblk, hgs, hgb, hrow⟩ := HP6.out.cells_r
    obtain ⟨A3, c3, rfl, hc3, hC3⟩ := Kd.R_reads hrow
    obtain ⟨A5, c5, he5, hc5, hC5⟩ := Kd.R_reads HR6.out
    simp only [Value.slice.injEq] at he5
    obtain ⟨rfl, _, rfl⟩ := he5
    obtain ⟨k1, hk1⟩ := (ref_Held all t T.s (fun x hx => ⟨(Hok.out x hx).1, (Hok.out x hx).2.1⟩) H64.out.1.2 Hs.out.1 Hs.out.2 (by have := Hall.out.1; omega)).rounds
    obtain ⟨k2, hk2⟩ := (ref_Same (holdR all t T.s) (by have := Hrl.out; omega)).rounds
    obtain ⟨o0, o1, o2⟩ := hb3 (HP6.out.box (List.mem_cons_of_mem _ List.mem_cons_self))
    have q2 := hb_cell hgblk 2
    have q4 := hb_cell hgblk 4
    simp only [List.getElem?_toArray, List.getElem?_cons_zero, List.getElem?_cons_succ] at q2 q4
    obtain ⟨w6, hw6⟩ : ∃ w6, w6 = w5.alloc (.cells #[.int .i64 X, .int .i64 Y] 43) := ⟨_, rfl⟩
    have hH : ∀ W, Below w6.heap.size w6 W → Calls Try.prog 21 #[.slice A3 all.length c3, .int .i64 t, .int .i64 T.s] W fun e w' => ∃ A2 c2, e = .returned (.slice A2 (holdR all t T.s).length c2) ∧ Hid (Below w6.heap.size w6 w' ∧ (holdR all t T.s).length ≤ c2 ∧ Kd.C k50 w' A2 (holdR all t T.s).length (holdR all t T.s)) := by
      intro W hW
      rw [hw6] at hW
      refine (capstanref08_Held.calls k1 A3 c3 all t T.s _ W (Kd.C_below hC3 hW) hc3 hk1).mono ?_
      rintro e w' ⟨vh, rfl, hR, hB⟩
      obtain ⟨A2, c2, rfl, hc2, hC2⟩ := Kd.R_reads hR
      exact ⟨A2, c2, rfl, Lib.hid ⟨by rw [hw6]; exact below_up hW hB, hc2, hC2⟩⟩
    have hS : ∀ W A2 c2, (Below w6.heap.size w6 W ∧ (holdR all t T.s).length ≤ c2 ∧ Kd.C k50 W A2 (holdR all t T.s).length (holdR all t T.s)) → Calls Try.prog 20 #[.slice A1 (holdR all t T.s).length c1, .slice A2 (holdR all t T.s).length c2] W fun e w' => e = .returned (.bool true) ∧ Hid (Below w6.heap.size w6 w') := by
      rintro W A2 c2 ⟨hW, hc2, hC2⟩
      refine (capstanref08_SameSamples.calls k2 A1 c1 _ A2 c2 _ true W (Kd.C_below hC5 (by rw [hw6] at hW; exact hW)) hc5 hC2 hc2 hk2).mono ?_
      rintro e w' ⟨rfl, hD⟩
      exact ⟨rfl, Lib.hid (below_up hW hD.below)⟩
    have HH := Lib.hid hH
    have HS := Lib.hid hS
    have hP6 := HP6.out
    rw [← hw6] at o0 o1 o2 q2 q4 hP6 hgs
    have HP7 := Lib.hid hP6
    go_wp2_with fail
    rw [← hw6]
    clear hH hS hC3 hC5 hk1 hk2 hrow hgblk HR6 HP6 hw6 hP6 hc3 hc5
    go_region_with (first | (refine (HH.out _ ?hbb).mono ?_; (case hbb => first | exact Below.refl _ _ | exact (Below.refl _ _).drew); rintro e w7 ⟨A2, c2, rfl, HA⟩) | (refine (HS.out _ _ _ HA.out).mono ?_; rintro e w8 ⟨rfl, HB⟩))
    all_goals
      go_wp2_with fail
      go_ret
      exact ⟨rfl, t, true, N, _, all, (HP7.out.on HB.out).drop, HI2.out, HN2.out.2, Hall.out.2.2⟩
set_option maxRecDepth 100000 in
set_option maxHeartbeats 6400000 in
theorem step_none (w0 : World) (T : WT) (ga gr : Nat) (n : Nat) (c : Int) (b : Bool) (kd t v : Int) (w : World) (h : Play w0 w T ga gr n c b) (hT : T.right = true) (hn : n ≤ 7000000000000) (ht64 : I64 t) (hv64 : I64 v) (hk : kd ≠ 1 ∧ kd ≠ 2 ∧ kd ≠ 3) :
    Calls Try.prog 10 #[.pointer (some ⟨ga, 0, none⟩), .pointer (some ⟨gr, 0, none⟩), .agg #[.int .i64 kd, .int .i64 t, .int .i64 v]] w fun e w' => e = .returned (.bool true) ∧ ∃ c' b', Play w0 w' T ga gr (n + 1) c' b' := by
  obtain ⟨N, l, all, hP, hI, hN, hall⟩ := h
  have hs : 1 ≤ T.s ∧ T.s ≤ 604800 := by simp only [WT.right, decide_eq_true_eq] at hT; omega
  have HT := Lib.hid hT
  have HI := Lib.hid hI
  have HN := Lib.hid (show N ≤ 4611686018427387904 by omega)
  have HN2 := Lib.hid (show N + 1 ≤ ((n + 1 : Nat) : Int) ∧ N ≤ ((n + 1 : Nat) : Int) by omega)
  have Hall := Lib.hid (show all.length < 8000000000000 ∧ all.length + 1 ≤ n + 1 ∧ all.length ≤ n + 1 by omega)
  have Hs := Lib.hid hs
  have H64 := Lib.hid (And.intro ht64 hv64)
  have HP1 := Lib.hid (hP.push (.cells #[.int .i64 kd, .int .i64 t, .int .i64 v] 37))
  have hww : w.heap.size < (w.alloc (.cells #[.int .i64 kd, .int .i64 t, .int .i64 v] 37)).heap.size := by simp
  clear hT hI hN hall hs hn ht64 hv64 hP
  have hfork : b = true ∧ t < c ∨ stale b c t = false := by
    cases b
    · exact .inr rfl
    · by_cases h : t < c
      · exact .inl ⟨rfl, h⟩
      · exact .inr (by simpa [stale] using h)
  have hk1 : (kd == 1) = false := by simpa using hk.1
  have hk2 : (kd == 2) = false := by simpa using hk.2.1
  have hk3 : (kd == 3) = false := by simpa using hk.2.2
  clear hk hfork
  go_enter Try.func10, Try.ntmps10
  go_wp2
  go_ret
  exact ⟨rfl, c, b, N, l, all, HP1.out.drop, HI.out, HN2.out.2, Hall.out.2.2⟩
end Go.Proofs.Ytfhhdlpglfjdgaa
/- WindowPlays, walked. -/
set_option linter.unusedVariables false
set_option linter.unusedSimpArgs false
namespace Go.Proofs.Ytfhhdlpglfjdgaa
open Go.RowKit Go.Proofs.YtfhhdlpglfjdgaaW.PrintWords Go.Proofs.YtfhhdlpglfjdgaaW.PrintLast Go.Proofs.YtfhhdlpglfjdgaaW.PrintMore Go.Proofs.Ytfhhdlpglfjdgaa.PWindowPlays

theorem refw_Right_calls (T : WT) (w : World) : Calls Try.prog 8 #[.agg #[.int .i64 T.m, .int .i64 T.a, .int .i64 T.s, .int .i64 T.p]] w fun e w' => e = .returned (.bool T.right) ∧ Below w.heap.size w w' :=
  capstanref08_Right.calls 1 T.m T.a T.s T.p T.right w (ref_Right T 0)
theorem law_step (w0 : World) (T : WT) (ga gr : Nat) (n : Nat) (c : Int) (b : Bool) (kd t v : Int) (w : World) (h : Play w0 w T ga gr n c b) (hT : T.right = true) (hn : n ≤ 7000000000000) (ht64 : I64 t) (hv64 : I64 v) :
    Calls Try.prog 10 #[.pointer (some ⟨ga, 0, none⟩), .pointer (some ⟨gr, 0, none⟩), .agg #[.int .i64 kd, .int .i64 t, .int .i64 v]] w fun e w' => e = .returned (.bool true) ∧ ∃ c' b', Play w0 w' T ga gr (n + 1) c' b' := by
  by_cases h1 : kd = 1
  · subst h1; exact step_put w0 T ga gr n c b t v w h hT hn ht64 hv64
  · by_cases h2 : kd = 2
    · subst h2; exact step_read w0 T ga gr n c b t v w h hT hn ht64 hv64
    · by_cases h3 : kd = 3
      · subst h3; exact step_held w0 T ga gr n c b t v w h hT hn ht64 hv64
      · exact step_none w0 T ga gr n c b kd t v w h hT hn ht64 hv64 ⟨h1, h2, h3⟩
/-- The terms' box, behind calls. -/
def TermAt (w0 wx : World) (T : WT) : Prop := Below w0.heap.size w0 wx ∧ wx.heap[w0.heap.size]? = some (.cells #[.int .i64 T.m, .int .i64 T.a, .int .i64 T.s, .int .i64 T.p] 23 (0, 0))
theorem TermAt.on {w0 wx wy : World} {T : WT} (h : TermAt w0 wx T) (hb : Below wx.heap.size wx wy) : TermAt w0 wy T := ⟨below_up h.1 hb, hb_below' h.2 hb⟩

set_option maxRecDepth 100000 in
set_option maxHeartbeats 3200000 in
theorem law_WindowPlays_no (T : WT) (a : Option Addr) (n cap : Nat) (w : World) (hT : T.right = false) :
    Calls Try.prog 3 #[.agg #[.int .i64 T.m, .int .i64 T.a, .int .i64 T.s, .int .i64 T.p], .slice a n cap] w fun e w' => e = .returned (.bool true) ∧ Below w.heap.size w w' := by
  have h1 := law_awake
  have H1 := Lib.hid h1
  have h2 := fun w => win_New_no T w hT
  have h3 := fun w => refw_Right_calls T w
  have h4 := fun w => win_Right T w
  rw [hT] at h3 h4
  have H2 := Lib.hid h2
  have H3 := Lib.hid h3
  have H4 := Lib.hid h4
  have hT0 : TermAt w (w.alloc (.cells #[.int .i64 T.m, .int .i64 T.a, .int .i64 T.s, .int .i64 T.p] 23)) T := ⟨below1 _ _, hb_new _ _⟩
  have HT0 := Lib.hid hT0
  clear h1 h2 h3 h4 hT hT0
  obtain ⟨m, ag, s, p⟩ := T
  go_enter Try.func3, Try.ntmps3
  go_wp2_with fail
  refine (H1.out _).mono ?_
  rintro e w1 ⟨rfl, hb1⟩
  have hT1 := HT0.out.on hb1
  obtain ⟨k0, k1, k2, k3⟩ := hb4 hT1.2
  have HT1 := Lib.hid hT1
  clear hT1 hb1
  go_wp2_with fail
  refine (H2.out _).mono ?_
  rintro e w2 ⟨rfl, hb1⟩
  have hT1 := HT1.out.on hb1
  obtain ⟨k0, k1, k2, k3⟩ := hb4 hT1.2
  have HT2 := Lib.hid hT1
  clear hT1 hb1
  go_wp2_with fail
  refine (H3.out _).mono ?_
  rintro e w3 ⟨rfl, hb1⟩
  have hT1 := HT2.out.on hb1
  obtain ⟨k0, k1, k2, k3⟩ := hb4 hT1.2
  have HT3 := Lib.hid hT1
  clear hT1 hb1
  go_wp2_with fail
  refine (H4.out _).mono ?_
  rintro e w4 ⟨rfl, hb1⟩
  have HT4 := Lib.hid (HT3.out.on hb1)
  clear hb1
  go_wp2_with fail
  go_ret
  exact ⟨rfl, HT4.out.1⟩

set_option maxRecDepth 100000 in
set_option maxHeartbeats 6400000 in
theorem law_WindowPlays (T : WT) (a : Option Addr) (cap : Nat) (ops : List (Int × Int × Int)) (w : World) (hT : T.right = true) (hO : OpsAt w a ops) (hn : ops.length ≤ 6000000000000) (h64 : ∀ k t v, (k, t, v) ∈ ops → I64 t ∧ I64 v) :
    Calls Try.prog 3 #[.agg #[.int .i64 T.m, .int .i64 T.a, .int .i64 T.s, .int .i64 T.p], .slice a ops.length cap] w fun e w' => e = .returned (.bool true) ∧ Below w.heap.size w w' := by
  have h1 := law_awake
  have H1 := Lib.hid h1
  have h2 := fun w => win_New T w hT
  have h3 := fun w => refw_Right_calls T w
  have h4 := fun w => win_Right T w
  rw [hT] at h3 h4
  have H2 := Lib.hid h2
  have H3 := Lib.hid h3
  have H4 := Lib.hid h4
  have hT0 : TermAt w (w.alloc (.cells #[.int .i64 T.m, .int .i64 T.a, .int .i64 T.s, .int .i64 T.p] 23)) T := ⟨below1 _ _, hb_new _ _⟩
  have HT0 := Lib.hid hT0
  have HTr := Lib.hid hT
  have HO := Lib.hid hO
  have H64 := Lib.hid h64
  obtain ⟨len, hlen⟩ : ∃ len, len = ops.length := ⟨_, rfl⟩
  rw [← hlen] at hn ⊢
  have Hlen := Lib.hid hlen
  have hSt := fun (n : Nat) (c : Int) (b : Bool) (ga gr : Nat) (kd t v : Int) (W : World) h hn ht hv => law_step w T ga gr n c b kd t v W h hT hn ht hv
  have HSt := Lib.hid hSt
  clear h1 h2 h3 h4 hT hT0 hO h64 hlen hSt
  obtain ⟨m, hm⟩ : ∃ m, m = T.m := ⟨_, rfl⟩
  obtain ⟨ag, hag⟩ : ∃ m, m = T.a := ⟨_, rfl⟩
  obtain ⟨s, hs⟩ : ∃ m, m = T.s := ⟨_, rfl⟩
  obtain ⟨p, hp⟩ : ∃ m, m = T.p := ⟨_, rfl⟩
  have hE : T = ⟨m, ag, s, p⟩ := by cases T; simp_all
  have HE := Lib.hid hE
  rw [← hm, ← hag, ← hs, ← hp] at H2 H3 H4 HT0 ⊢
  clear hm hag hs hp hE
  go_enter Try.func3, Try.ntmps3
  go_wp2_with fail
  refine (H1.out _).mono ?_
  rintro e w1 ⟨rfl, hb1⟩
  have hT1 := HT0.out.on hb1
  obtain ⟨k0, k1, k2, k3⟩ := hb4 hT1.2
  rw [HE.out] at k0 k1 k2 k3
  simp only at k0 k1 k2 k3
  have HT1 := Lib.hid hT1
  clear hT1 hb1
  go_wp2_with fail
  refine (H2.out _).mono ?_
  rintro e w2 ⟨ga, Fa, rfl, hb1, hwa, hFa⟩
  have hT1 := HT1.out.on hb1
  obtain ⟨k0, k1, k2, k3⟩ := hb4 hT1.2
  rw [HE.out] at k0 k1 k2 k3
  simp only at k0 k1 k2 k3
  have HT2 := Lib.hid hT1
  have HFa := Lib.hid (show ∀ k, Fa k → w.heap.size ≤ k from fun k hk => Nat.le_trans HT1.out.1.size (hFa k hk))
  have HWa := Lib.hid hwa
  clear hT1 hb1 hFa hwa
  go_wp2_with fail
  refine (H3.out _).mono ?_
  rintro e w3 ⟨rfl, hb1⟩
  have hT1 := HT2.out.on hb1
  obtain ⟨k0, k1, k2, k3⟩ := hb4 hT1.2
  rw [HE.out] at k0 k1 k2 k3
  simp only at k0 k1 k2 k3
  have HT3 := Lib.hid hT1
  have HWa3 := Lib.hid (HWa.out.below hb1)
  clear hT1 hb1 HWa
  go_wp2_with fail
  refine (H4.out _).mono ?_
  rintro e w4 ⟨rfl, hb1⟩
  have hT1 := HT3.out.on hb1
  obtain ⟨k0, k1, k2, k3⟩ := hb4 hT1.2
  rw [HE.out] at k0 k1 k2 k3
  simp only at k0 k1 k2 k3
  have HT4 := Lib.hid hT1
  have HWa4 := Lib.hid (HWa3.out.below hb1)
  clear hT1 hb1 HWa3
  go_wp2_with fail
  have hP0 : Play w (w4.alloc (.cells #[.int .i64 m, .int .i64 ag, .int .i64 s, .int .i64 p, .slice none 0 0, .int .i64 0, .bool false] 34)) T ga w4.heap.size 0 0 false := by
    have hb := below1 w4 (.cells #[.int .i64 m, .int .i64 ag, .int .i64 s, .int .i64 p, .slice none 0 0, .int .i64 0, .bool false] 34)
    refine ⟨0, [], [], ⟨Fa, .slice none 0 0, HWa4.out.below hb, HFa.out, ⟨below_up HT4.out.1 hb, ?_, HT4.out.1.size, Kd.R_nil _ _ _ _ _, ?_⟩, ?_, fun p hp => by simp at hp⟩, PlayI.nil _, by simp, by simp⟩
    · rw [HE.out]
      exact hb_new _ _
    · intro k hk
      have hk' : w4.heap.size + 1 ≤ k := by simpa using hk
      exact ⟨fun h => by have := HWa4.out.lt k h; omega, fun p hp => by simp at hp⟩
    · exact fun h => Nat.lt_irrefl _ (HWa4.out.lt _ h)
  have HP0 := Lib.hid hP0
  obtain ⟨gr, hgr⟩ : ∃ gr, gr = w4.heap.size := ⟨_, rfl⟩
  generalize hW5 : w4.alloc (.cells #[.int .i64 m, .int .i64 ag, .int .i64 s, .int .i64 p, .slice none 0 0, .int .i64 0, .bool false] 34) = W5 at *
  rw [← hgr] at HP0 ⊢
  clear hP0 hgr hW5 HT0 HT1 HT2 HT3 HT4 HWa4 HFa H1 H2 H3 H4 k0 k1 k2 k3
  go_loopg [8] len (fun k v8 wr => ∃ (n : Nat) (c : Int) (b : Bool), k = len - n ∧ n ≤ len ∧ v8 = .int .i64 n ∧ Hid (Play w wr T ga gr n c b))
  case atStart => exact ⟨0, 0, false, rfl, by omega, rfl, HP0⟩
  case round =>
    obtain ⟨n, c, b, rfl, hnl, rfl, HP⟩ := hrel
    clear HP0
    have hbel : Below w.heap.size w wr := by obtain ⟨_, _, _, h, _⟩ := HP.out; exact h.below
    have HBel := Lib.hid hbel
    clear hbel
    rcases Nat.lt_or_ge n len with hlt | hge
    · have hn0 : (0 : Int) ≤ (n : Int) := by omega
      have hn1 : (n : Int) < (len : Int) := by omega
      have hd : decide ((n : Int) < (len : Int)) = true := by simpa using hn1
      obtain ⟨⟨k, t, v⟩, hx⟩ : ∃ x, ops[n]? = some x := ⟨_, List.getElem?_eq_getElem (by rw [← Hlen.out]; exact hlt)⟩
      have hmem := List.mem_of_getElem? hx
      obtain ⟨ht64, hv64⟩ := H64.out k t v hmem
      obtain ⟨bo, off, rfl, hbo, hcs⟩ := HO.out.resolve_left (fun h => by rw [h] at hx; simp at hx)
      obtain ⟨d0, d1, d2⟩ := hcs n k t v hx
      have d0 := (HBel.out.cell (p := ⟨bo, off + n * 3, none⟩) hbo).trans d0
      have d1 := (HBel.out.cell (p := ⟨bo, off + n * 3 + 1, none⟩) hbo).trans d1
      have d2 := (HBel.out.cell (p := ⟨bo, off + n * 3 + 2, none⟩) hbo).trans d2
      have hC := HSt.out n c b ga gr k t v wr HP.out (by omega) ht64 hv64
      have HC := Lib.hid hC
      clear ht64 hv64 hcs hbo hx hmem hC
      go_wp2_with fail
      refine HC.out.mono ?_
      rintro e w6 ⟨rfl, c', b', hP'⟩
      obtain ⟨N, l, all, hPr, hI, hN, hall⟩ := hP'
      have HPr := Lib.hid hPr
      have HI := Lib.hid hI
      have HN := Lib.hid hN
      have Hall := Lib.hid hall
      clear hPr hI hN hall HC HP HBel d0 d1 d2
      go_wp2_with fail
      refine HPr.out.clock_a.mono ?_
      rintro e w7 ⟨rfl, hP7⟩
      obtain ⟨gv, hblk, hgs, hgb, _⟩ := hP7.cells_r
      have q5 := hb_cell hblk 5
      have q6 := hb_cell hblk 6
      simp only [List.getElem?_toArray, List.getElem?_cons_zero, List.getElem?_cons_succ] at q5 q6
      have HP7 := Lib.hid hP7
      clear hP7 hblk HPr
      go_wp2_with fail
      go_roundg (len - (n + 1))
      case measure => omega
      case rel => exact ⟨n + 1, c', b', rfl, by omega, by go_num, Lib.hid ⟨N, l, all, HP7.out, HI.out, HN.out, Hall.out⟩⟩
    · obtain rfl : n = len := by omega
      go_wp2_with fail
      go_ret
      exact ⟨rfl, HBel.out⟩
end Go.Proofs.Ytfhhdlpglfjdgaa
namespace Go.Proofs.Ytfhhdlpglfjdgaa.windowPlays
open Go.ChangeShapes Go.WideShapes Go.ChangeAt Go.RowKit Go.Joins Go.Deep
set_option linter.unusedVariables false
theorem own : ownKnob Try.prog.godebug = none := by kernel_rfl
theorem laidOut : laidOutB Try.prog = true := by kernel_rfl
theorem cellsW : Try.prog.cellsOf 23 = 4 := by kernel_rfl
set_option maxRecDepth 100000 in
theorem lifted (os : Os) (started : os.Started) (H : Type) (enc : TypeId × Value → H) :
    ReturnsInHanded {} Try.checked os 3 .any (Rows.windowPlaysSpec.pre6 enc Try.prog Try.f3 Rows.windowPlaysRow.domain false) (Rows.windowPlaysSpec.post enc Try.prog Try.f3 false true false false) := by
  refine returnsInHanded_of_change_sized (C := Try.checked) own started (by kernel_rfl) Try.func3
    (ChangeSpec.witness6 (enc := enc) (C := Try.checked) false ⟨#[], #[.agg #[.int .i64 0, .int .i64 0, .int .i64 0, .int .i64 0], .slice none 0 0], []⟩ 8 (by kernel_rfl) (by kernel_rfl) (by kernel_rfl) (by kernel_rfl)) ?_
  intro W base args ds gs before hval0 hW hcnd hsz0 _
  have hsz : (DataW.weightsEach Try.prog (Try.f3.params.toList ++ Rows.windowPlaysSpec.plain.varTypes Try.prog) (ds ++ gs)).all (· ≤ reachBytes) = true := hsz0
  have hval : ∀ (j : Nat) t v, Try.f3.params[j]? = some t → args[j]? = some v → Value.okWide Try.prog W .any base t v := hval0
  have hW' := hW
  obtain ⟨p, q, hA0, hV, rfl, hfz, hnd⟩ := hW
  have hA : DataW.TrodAll enc Try.prog W 0 (fun _ => true) true Try.f3.params.toList args.toList ds p := hA0
  rw [Try.params3] at hA hval hsz
  obtain ⟨v0, v1, d0, d1, p0, p1, rfl, rfl, rfl, h0, h1⟩ := trodAll_two hA
  obtain ⟨rfl, rfl⟩ := trodVars_none hV
  have k0 := h0
  have k1 := h1
  have lt0 : ∀ x ∈ p0, x.block < W.heap.size := by obtain ⟨m, hm⟩ := k0; exact DataW.trod_lt m _ _ _ hm
  have lt1 : ∀ x ∈ p1, x.block < W.heap.size := by obtain ⟨m, hm⟩ := k1; exact DataW.trod_lt m _ _ _ hm
  obtain ⟨c0, c1, c2, c3, y0, y1, y2, y3, m, rfl, _, _, hy0, hy1, hy2, hy3⟩ := open_agg4 Try.underlying23 (by kernel_rfl) cellsW (hval 0 23 v0 rfl rfl) h0
  obtain ⟨a0, e0, _, _⟩ := DataW.trod_int Try.underlying3 hy0
  obtain ⟨a1, e1, _, _⟩ := DataW.trod_int Try.underlying3 hy1
  obtain ⟨a2, e2, _, _⟩ := DataW.trod_int Try.underlying2 hy2
  obtain ⟨a3, e3, _, _⟩ := DataW.trod_int Try.underlying2 hy3
  simp at e0 e1 e2 e3
  subst e0 e1 e2 e3
  obtain ⟨a, len, cap, rfl⟩ := okWide_slice Try.underlying24 (hval 1 24 v1 rfl rfl)
  obtain ⟨fuel, hf⟩ := h1
  obtain ⟨ops, hlen, hops, h64, hd⟩ := ops_open (by simpa [Value.cells] using hf)
  have hbound : ops.length ≤ 6000000000000 := by
    rcases hd with hd | ⟨elems, rest, hd, he⟩
    · omega
    · simp only at hd
      subst hd
      have z := sized_slice hsz (j := 1) (t := 24) rfl rfl Try.underlying24
      rw [bytesOp, he] at z
      have : reachBytes = 140737488351232 := rfl
      omega
  subst hlen
  clear hA0 hval0 hy0 hy1 hy2 hy3 hsz0 hsz
  have hwalk : Calls Try.prog 3 #[.agg #[.int .i64 a0, .int .i64 a1, .int .i64 a2, .int .i64 a3], .slice a ops.length cap] W fun e w' => e = .returned (.bool true) ∧ Below W.heap.size W w' := by
    cases hT : WT.right ⟨a0, a1, a2, a3⟩
    · exact law_WindowPlays_no ⟨a0, a1, a2, a3⟩ a ops.length cap W hT
    · exact law_WindowPlays ⟨a0, a1, a2, a3⟩ a cap ops W hT hops hbound (fun k t v h => (h64 k t v h).2)
  refine hwalk.mono fun e W' ⟨he, bel⟩ => ?_
  subst he
  exact ⟨_, rfl, _, _, _, [], _, [], hW', trodAll_mk1 (shut_bool Try.underlying4 _), trodAll_mk2 (Below.trod laidOut (by kernel_rfl) (of_decide_eq_true (by kernel_rfl)) k0 bel lt0) (Below.trod laidOut (by kernel_rfl) (of_decide_eq_true (by kernel_rfl)) k1 bel lt1), rfl, bel.frame _, fun h => by cases h⟩
theorem over : Rows.windowPlaysRow.holds Try.pinned (OpenSpec.ofChange Rows.windowPlaysSpec) :=
  OpenClaim.holds_of_wide 3 Try.f3 rfl rfl rfl rfl rfl rfl rfl ⟨rfl, rfl, rfl, rfl, rfl⟩ rfl rfl rfl rfl rfl (by kernel_rfl) Try.func3 (by kernel_rfl)
    (of_decide_eq_true (by kernel_rfl)) (by unfold Func.isWrapper; first | (rw [if_pos (by decide +kernel)]; kernel_rfl) | (rw [if_neg (by decide +kernel)]; exact ⟨rfl, rfl⟩))
    (fun os started H enc _ => lifted os started H enc)
theorem proved : Rows.WindowPlaysSaid := over
end Go.Proofs.Ytfhhdlpglfjdgaa.windowPlays
namespace Go.Proofs.Ytfhhdlpglfjdgaa
theorem windowPlays_holds : Rows.WindowPlaysSaid := windowPlays.proved
end Go.Proofs.Ytfhhdlpglfjdgaa
