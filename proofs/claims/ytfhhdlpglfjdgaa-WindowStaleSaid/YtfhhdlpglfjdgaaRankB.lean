/- Contracts of package rank. -/
import Derived.Test.YtfhhdlpglfjdgaaRankA
import Derived.Laws.CopyOwn
set_option linter.unusedVariables false
set_option linter.unusedSimpArgs false
namespace Go.Proofs.Ytfhhdlpglfjdgaa
open Go.RowKit

/-- A Rank that lies in block g. -/
def RankBlk (w : World) (g : Nat) (v : Value) : Prop := w.heap[g]? = some (.cells #[v] 86 (0, 0))

theorem rank_New (w : World) : Calls Try.prog 17 #[] w fun e w' => e = .returned (.pointer (some ⟨w.heap.size, 0, none⟩)) ∧ w' = w.alloc (.cells #[.slice none 0 0] 86) := by
  go_enter Try.func17, Try.ntmps17
  go_wp2
  go_ret
  exact ⟨rfl, rfl⟩
theorem rank_Len_nil (w : World) : Calls Try.prog 47 #[.pointer none] w fun e w' => e = .returned (.int .i64 0) ∧ w' = w := by
  go_enter Try.func47, Try.ntmps47
  go_wp2
  go_ret
  exact ⟨rfl, rfl⟩
theorem rank_Len (g : Nat) (A : Option Addr) (n cap : Nat) (w : World) (h : RankBlk w g (.slice A n cap)) : Calls Try.prog 47 #[.pointer (some ⟨g, 0, none⟩)] w fun e w' => e = .returned (.int .i64 n) ∧ w' = w := by
  have c0 := hb_cell h 0
  simp only [List.getElem?_toArray, List.getElem?_cons_zero] at c0
  clear h
  go_enter Try.func47, Try.ntmps47
  go_wp2
  go_ret
  exact ⟨rfl, rfl⟩
theorem rank_Put_nil (v : Int) (w : World) : Calls Try.prog 37 #[.pointer none, .int .i64 v] w fun e w' => e = .returned (.tuple #[]) ∧ w' = w := by
  go_enter Try.func37, Try.ntmps37
  go_wp2
  exact bodyPost_ret (v := .tuple #[]) (results_none rfl _ _ _) rfl ⟨rfl, rfl⟩
theorem rank_Take_nil (v : Int) (w : World) : Calls Try.prog 56 #[.pointer none, .int .i64 v] w fun e w' => e = .returned (.bool false) ∧ w' = w := by
  go_enter Try.func56, Try.ntmps56
  go_wp2
  go_ret
  exact ⟨rfl, rfl⟩

set_option maxHeartbeats 400000 in
theorem rank_At (g h off n cap k : Nat) (x : Int) (w : World) (hr : RankBlk w g (.slice (some ⟨h, off, none⟩) n cap)) (hk : k < n) (hn : n ≤ 4294967296) (hc : w.cell? ⟨h, off + k, none⟩ = some (.int .i64 x)) :
    Calls Try.prog 50 #[.pointer (some ⟨g, 0, none⟩), .int .i64 k] w fun e w' => e = .returned (.tuple #[.int .i64 x, .bool true]) ∧ w' = w := by
  have h1 := fun w h' => rank_Len g (some ⟨h, off, none⟩) n cap w h'
  have H1 := Lib.hid h1
  have Hr := Lib.hid hr
  have c0 := hb_cell hr 0
  simp only [List.getElem?_toArray, List.getElem?_cons_zero] at c0
  clear hr h1
  go_enter Try.func50, Try.ntmps50
  go_wp2_with fail
  refine (H1.out _ Hr.out).mono ?_
  rintro e w1 ⟨rfl, rfl⟩
  go_wp2
  go_ret2
  exact ⟨rfl, rfl⟩

/-- The place of the nearest rank: how many whole ones of n * p / 10^8 there are, rounded up, less one. -/
def rankK (n : Nat) (p : Int) : Int := (n * p + 99999999) / 100000000 - 1
theorem rankK_bd (n : Nat) (p : Int) (hn : 0 < n) (hp : 1 ≤ p) (hp1 : p ≤ 100000000) : 0 ≤ rankK n p ∧ rankK n p < n := by
  unfold rankK
  have h1 : 1 * 1 ≤ (n : Int) * p := Int.mul_le_mul (by omega) hp (by omega) (by omega)
  have h2 : (n : Int) * p ≤ n * 100000000 := Int.mul_le_mul_of_nonneg_left hp1 (by omega)
  generalize (n : Int) * p = X at *
  omega

set_option maxHeartbeats 800000 in
theorem rank_By_none (g : Nat) (A : Option Addr) (cap : Nat) (p : Int) (w : World) (hr : RankBlk w g (.slice A 0 cap)) :
    Calls Try.prog 30 #[.pointer (some ⟨g, 0, none⟩), .int .i64 p] w fun e w' => e = .returned (.tuple #[.int .i64 0, .bool false]) ∧ w' = w := by
  have h1 := fun w h' => rank_Len g A 0 cap w h'
  have H1 := Lib.hid h1
  have Hr := Lib.hid hr
  clear hr h1
  by_cases ha : p < 1
  · go_enter Try.func30, Try.ntmps30
    go_wp2
    go_ret2
    exact ⟨rfl, rfl⟩
  · by_cases hb : 100000000 < p
    · go_enter Try.func30, Try.ntmps30
      go_wp2
      go_ret2
      exact ⟨rfl, rfl⟩
    · go_enter Try.func30, Try.ntmps30
      go_wp2_with fail
      refine (H1.out _ Hr.out).mono ?_
      rintro e w1 ⟨rfl, rfl⟩
      go_wp2
      go_ret2
      exact ⟨rfl, rfl⟩

set_option maxHeartbeats 1600000 in
theorem rank_By (g h off n cap : Nat) (p x : Int) (w : World) (hr : RankBlk w g (.slice (some ⟨h, off, none⟩) n cap)) (hn : 0 < n) (hn1 : n ≤ 4294967296) (hp : 1 ≤ p) (hp1 : p ≤ 100000000)
    (hc : w.cell? ⟨h, off + (rankK n p).toNat, none⟩ = some (.int .i64 x)) :
    Calls Try.prog 30 #[.pointer (some ⟨g, 0, none⟩), .int .i64 p] w fun e w' => e = .returned (.tuple #[.int .i64 x, .bool true]) ∧ Below w.heap.size w w' := by
  have hkb := rankK_bd n p hn hp hp1
  obtain ⟨k, hk⟩ := Int.eq_ofNat_of_zero_le hkb.1
  have hkn : k < n := by have := hkb.2; rw [hk] at this; omega
  rw [hk, Int.toNat_natCast] at hc
  have hP1 : 1 * 1 ≤ p * (n : Int) := Int.mul_le_mul hp (by omega) (by omega) (by omega)
  have hP2 : p * (n : Int) ≤ 100000000 * (n : Int) := Int.mul_le_mul_of_nonneg_right hp1 (by omega)
  have hkq : (k : Int) = (p * (n : Int) + 99999999) / 100000000 - 1 := by rw [← hk]; unfold rankK; rw [Int.mul_comm]
  have h1 := fun w h' => rank_Len g (some ⟨h, off, none⟩) n cap w h'
  have h2 := fun w => mul64 p n w (by omega) (by omega) (by omega) (by omega)
  have e1 : p * (n : Int) / 18446744073709551616 = 0 := by omega
  have e2 : p * (n : Int) % 18446744073709551616 = p * (n : Int) := by omega
  rw [e1, e2] at h2
  have h3 := fun w => div64 0 (p * (n : Int)) 100000000 w (by omega) (by omega) (by omega) (by omega) (by omega)
  rw [show (0 : Int) * 18446744073709551616 + p * (n : Int) = p * (n : Int) by omega] at h3
  obtain ⟨P, hP⟩ : ∃ P, P = p * (n : Int) := ⟨_, rfl⟩
  rw [← hP] at h2 h3 hP1 hP2 hkq
  have h4 := fun w h' hc' => rank_At g h off n cap k x w h' hkn hn1 hc'
  have H1 := Lib.hid h1
  have H2 := Lib.hid h2
  have H3 := Lib.hid h3
  have H4 := Lib.hid h4
  have Hr := Lib.hid hr
  have Hc := Lib.hid hc
  have Hk := Lib.hid hkq
  have hn0 : ((n : Int) == 0) = false := by simp; omega
  have hq0 : 0 ≤ P / 100000000 := by omega
  have hq1 : P / 100000000 ≤ 4294967296 := by omega
  have hr0 : 0 ≤ P % 100000000 := by omega
  clear hr h1 h2 h3 h4 hc hk hP hkb hkq e1 e2 hP1 hP2
  by_cases hrest : 0 < P % 100000000
  · have ek : (P / 100000000 + 1 : Int) - 1 = k := by rw [Hk.out]; omega
    go_enter Try.func30, Try.ntmps30
    go_wp2_with fail
    refine (H1.out _ Hr.out).mono ?_
    rintro e w1 ⟨rfl, rfl⟩
    go_wp2_with fail
    refine (H1.out _ Hr.out).mono ?_
    rintro e w1 ⟨rfl, rfl⟩
    go_wp2_with fail
    refine (H2.out _).mono ?_
    rintro e w1 ⟨rfl, rfl⟩
    go_wp2_with fail
    refine (H3.out _).mono ?_
    rintro e w2 ⟨rfl, hb2⟩
    have Hb := Lib.hid hb2
    have r2 := hb_below' Hr.out hb2
    have c2 := (hb2.cell (p := ⟨h, off + k, none⟩) (World.block_lt_of_cell? _ _ Hc.out)).trans Hc.out
    have R2 := Lib.hid r2
    have C2 := Lib.hid c2
    clear hb2 r2 c2
    go_wp2_with fail
    refine (H4.out _ R2.out C2.out).mono ?_
    rintro e w3 ⟨rfl, rfl⟩
    go_wp2
    go_ret2
    exact ⟨rfl, Hb.out⟩
  · have ek : P / 100000000 - 1 = k := by rw [Hk.out]; omega
    go_enter Try.func30, Try.ntmps30
    go_wp2_with fail
    refine (H1.out _ Hr.out).mono ?_
    rintro e w1 ⟨rfl, rfl⟩
    go_wp2_with fail
    refine (H1.out _ Hr.out).mono ?_
    rintro e w1 ⟨rfl, rfl⟩
    go_wp2_with fail
    refine (H2.out _).mono ?_
    rintro e w1 ⟨rfl, rfl⟩
    go_wp2_with fail
    refine (H3.out _).mono ?_
    rintro e w2 ⟨rfl, hb2⟩
    have Hb := Lib.hid hb2
    have r2 := hb_below' Hr.out hb2
    have c2 := (hb2.cell (p := ⟨h, off + k, none⟩) (World.block_lt_of_cell? _ _ Hc.out)).trans Hc.out
    have R2 := Lib.hid r2
    have C2 := Lib.hid c2
    clear hb2 r2 c2
    go_wp2_with fail
    refine (H4.out _ R2.out C2.out).mono ?_
    rintro e w3 ⟨rfl, rfl⟩
    go_wp2
    go_ret2
    exact ⟨rfl, Hb.out⟩

/-- Cells moved, as one step of a region that draws. -/
theorem step_copy_g {P : Program} {ops : Array Oper} {o : Oper} {a : Act} {w : World} {K : Act → World → Prop} {Q : Exit → Act → World → Prop} {E : Prop} (hgd : o.guard = none) (d s : Operand) (dT sT : TypeId)
    (ho : o.op = .call { callee := .builtin .copy, args := #[d, s], argTypes := #[dT, sT] }) (elem : TypeId) (hu : P.underlying dT = some (.slice elem)) (hsz : (P.info? elem).map (·.size) = some 1)
    (dp sp : Option Addr) (dLen dCap sLen sCap : Nat) (hd : a.eval d = .slice dp dLen dCap) (hs : a.eval s = .slice sp sLen sCap)
    (g off : Nat) (cur : List Value) (t : TypeId) (hg : w.heap[g]? = some (.cells cur.toArray t (0, 0))) (cs : List Value) (hn : cs.length = Nat.min sLen dLen)
    (hpos : 0 < cs.length → dp = some ⟨g, off, none⟩ ∧ ∃ ad, sp = some ad ∧ ∀ j v, cs[j]? = some v → w.cell? (ad.add j) = some v)
    (hfit : off + cs.length ≤ cur.length) (h1 : ∀ v ∈ cs, v.oneCell' = true)
    (h : ∀ w', w.grownBy w' (some g) → w'.heap[g]? = some (.cells (splice cur off cs).toArray t (0, 0)) → K (a.put o.dst (.int .i64 cs.length)) w') :
    if Region.wanted o (yielded ops a.tmps) = true then Oper.wp P o a w K Q else E := by
  have hw : Region.wanted o (yielded ops a.tmps) = true := by simp [Region.wanted, hgd]
  rw [if_pos hw]
  by_cases h0 : cs.length = 0
  · obtain rfl : cs = [] := List.eq_nil_of_length_eq_zero h0
    have hrun := run_copy_none (P := P) w dT sT o.type elem dp sp dLen dCap sLen sCap hu hsz (by simpa using hn.symm)
    unfold Oper.wp
    simp [execOp, ho, resolve, invoke, builtin, hd, hs, hrun, Result.andThen]
    exact h w ⟨rfl, rfl, rfl, Nat.le_refl _, fun _ _ _ => rfl⟩ (by simpa [splice] using hg)
  · obtain ⟨rfl, ad, rfl, hsrc⟩ := hpos (by omega)
    have hrun := run_copy_row (P := P) w dT sT o.type elem g off dLen dCap ad sLen sCap cur.toArray t cs hu hsz hg hn hsrc (by simpa using hfit) h1
    unfold Oper.wp
    simp [execOp, ho, resolve, invoke, builtin, hd, hs, hrun, Result.andThen]
    exact h _ ⟨rfl, rfl, rfl, by simp [World.setRow], fun k hk hne => setRow_other w g k _ (fun e => hne (by rw [e]))⟩ (by simpa [splice] using setRow_heap w g _ _ t _ hg)
end Go.Proofs.Ytfhhdlpglfjdgaa
