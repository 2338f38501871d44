/- Texts of mine, put together: RankB, RankC, RankD, WinA, WinP, WinB, WinC, WinD. -/
import Derived.Test.YtfhhdlpglfjdgaaM2
import Derived.Laws.CopyOwn
import Derived.Test.YtfhhdlpglfjdgaaM1
/- Contracts of package rank. -/
set_option linter.unusedVariables false
set_option linter.unusedSimpArgs false
namespace Go.Proofs.Ytfhhdlpglfjdgaa
open Go.RowKit

/-- A Rank that lies in block g. -/
def RankBlk (w : World) (g : Nat) (v : Value) : Prop := w.heap[g]? = some (.cells #[v] 86 (0, 0))

theorem rank_New (w : World) : Calls Try.prog 17 #[] w fun e w' => e = .returned (.pointer (some ⟨w.heap.size, 0, none⟩)) ∧ w' = w.alloc (.cells #[.slice none 0 0] 86) := by
  go_enter Try.func17, Try.ntmps17
  go_wp2
  go_ret
  exact ⟨rfl, rfl⟩
theorem rank_Len_nil (w : World) : Calls Try.prog 47 #[.pointer none] w fun e w' => e = .returned (.int .i64 0) ∧ w' = w := by
  go_enter Try.func47, Try.ntmps47
  go_wp2
  go_ret
  exact ⟨rfl, rfl⟩
theorem rank_Len (g : Nat) (A : Option Addr) (n cap : Nat) (w : World) (h : RankBlk w g (.slice A n cap)) : Calls Try.prog 47 #[.pointer (some ⟨g, 0, none⟩)] w fun e w' => e = .returned (.int .i64 n) ∧ w' = w := by
  have c0 := hb_cell h 0
  simp only [List.getElem?_toArray, List.getElem?_cons_zero] at c0
  clear h
  go_enter Try.func47, Try.ntmps47
  go_wp2
  go_ret
  exact ⟨rfl, rfl⟩
theorem rank_Put_nil (v : Int) (w : World) : Calls Try.prog 37 #[.pointer none, .int .i64 v] w fun e w' => e = .returned (.tuple #[]) ∧ w' = w := by
  go_enter Try.func37, Try.ntmps37
  go_wp2
  exact bodyPost_ret (v := .tuple #[]) (results_none rfl _ _ _) rfl ⟨rfl, rfl⟩
theorem rank_Take_nil (v : Int) (w : World) : Calls Try.prog 56 #[.pointer none, .int .i64 v] w fun e w' => e = .returned (.bool false) ∧ w' = w := by
  go_enter Try.func56, Try.ntmps56
  go_wp2
  go_ret
  exact ⟨rfl, rfl⟩

set_option maxHeartbeats 400000 in
theorem rank_At (g h off n cap k : Nat) (x : Int) (w : World) (hr : RankBlk w g (.slice (some ⟨h, off, none⟩) n cap)) (hk : k < n) (hn : n ≤ 4294967296) (hc : w.cell? ⟨h, off + k, none⟩ = some (.int .i64 x)) :
    Calls Try.prog 50 #[.pointer (some ⟨g, 0, none⟩), .int .i64 k] w fun e w' => e = .returned (.tuple #[.int .i64 x, .bool true]) ∧ w' = w := by
  have h1 := fun w h' => rank_Len g (some ⟨h, off, none⟩) n cap w h'
  have H1 := Lib.hid h1
  have Hr := Lib.hid hr
  have c0 := hb_cell hr 0
  simp only [List.getElem?_toArray, List.getElem?_cons_zero] at c0
  clear hr h1
  go_enter Try.func50, Try.ntmps50
  go_wp2_with fail
  refine (H1.out _ Hr.out).mono ?_
  rintro e w1 ⟨rfl, rfl⟩
  go_wp2
  go_ret2
  exact ⟨rfl, rfl⟩

/-- The place of the nearest rank: how many whole ones of n * p / 10^8 there are, rounded up, less one. -/
def rankK (n : Nat) (p : Int) : Int := (n * p + 99999999) / 100000000 - 1
theorem rankK_bd (n : Nat) (p : Int) (hn : 0 < n) (hp : 1 ≤ p) (hp1 : p ≤ 100000000) : 0 ≤ rankK n p ∧ rankK n p < n := by
  unfold rankK
  have h1 : 1 * 1 ≤ (n : Int) * p := Int.mul_le_mul (by omega) hp (by omega) (by omega)
  have h2 : (n : Int) * p ≤ n * 100000000 := Int.mul_le_mul_of_nonneg_left hp1 (by omega)
  generalize (n : Int) * p = X at *
  omega

set_option maxHeartbeats 800000 in
theorem rank_By_none (g : Nat) (A : Option Addr) (cap : Nat) (p : Int) (w : World) (hr : RankBlk w g (.slice A 0 cap)) :
    Calls Try.prog 30 #[.pointer (some ⟨g, 0, none⟩), .int .i64 p] w fun e w' => e = .returned (.tuple #[.int .i64 0, .bool false]) ∧ w' = w := by
  have h1 := fun w h' => rank_Len g A 0 cap w h'
  have H1 := Lib.hid h1
  have Hr := Lib.hid hr
  clear hr h1
  by_cases ha : p < 1
  · go_enter Try.func30, Try.ntmps30
    go_wp2
    go_ret2
    exact ⟨rfl, rfl⟩
  · by_cases hb : 100000000 < p
    · go_enter Try.func30, Try.ntmps30
      go_wp2
      go_ret2
      exact ⟨rfl, rfl⟩
    · go_enter Try.func30, Try.ntmps30
      go_wp2_with fail
      refine (H1.out _ Hr.out).mono ?_
      rintro e w1 ⟨rfl, rfl⟩
      go_wp2
      go_ret2
      exact ⟨rfl, rfl⟩

set_option maxHeartbeats 1600000 in
theorem rank_By (g h off n cap : Nat) (p x : Int) (w : World) (hr : RankBlk w g (.slice (some ⟨h, off, none⟩) n cap)) (hn : 0 < n) (hn1 : n ≤ 4294967296) (hp : 1 ≤ p) (hp1 : p ≤ 100000000)
    (hc : w.cell? ⟨h, off + (rankK n p).toNat, none⟩ = some (.int .i64 x)) :
    Calls Try.prog 30 #[.pointer (some ⟨g, 0, none⟩), .int .i64 p] w fun e w' => e = .returned (.tuple #[.int .i64 x, .bool true]) ∧ Below w.heap.size w w' := by
  have hkb := rankK_bd n p hn hp hp1
  obtain ⟨k, hk⟩ := Int.eq_ofNat_of_zero_le hkb.1
  have hkn : k < n := by have := hkb.2; rw [hk] at this; omega
  rw [hk, Int.toNat_natCast] at hc
  have hP1 : 1 * 1 ≤ p * (n : Int) := Int.mul_le_mul hp (by omega) (by omega) (by omega)
  have hP2 : p * (n : Int) ≤ 100000000 * (n : Int) := Int.mul_le_mul_of_nonneg_right hp1 (by omega)
  have hkq : (k : Int) = (p * (n : Int) + 99999999) / 100000000 - 1 := by rw [← hk]; unfold rankK; rw [Int.mul_comm]
  have h1 := fun w h' => rank_Len g (some ⟨h, off, none⟩) n cap w h'
  have h2 := fun w => mul64 p n w (by omega) (by omega) (by omega) (by omega)
  have e1 : p * (n : Int) / 18446744073709551616 = 0 := by omega
  have e2 : p * (n : Int) % 18446744073709551616 = p * (n : Int) := by omega
  rw [e1, e2] at h2
  have h3 := fun w => div64 0 (p * (n : Int)) 100000000 w (by omega) (by omega) (by omega) (by omega) (by omega)
  rw [show (0 : Int) * 18446744073709551616 + p * (n : Int) = p * (n : Int) by omega] at h3
  obtain ⟨P, hP⟩ : ∃ P, P = p * (n : Int) := ⟨_, rfl⟩
  rw [← hP] at h2 h3 hP1 hP2 hkq
  have h4 := fun w h' hc' => rank_At g h off n cap k x w h' hkn hn1 hc'
  have H1 := Lib.hid h1
  have H2 := Lib.hid h2
  have H3 := Lib.hid h3
  have H4 := Lib.hid h4
  have Hr := Lib.hid hr
  have Hc := Lib.hid hc
  have Hk := Lib.hid hkq
  have hn0 : ((n : Int) == 0) = false := by simp; omega
  have hq0 : 0 ≤ P / 100000000 := by omega
  have hq1 : P / 100000000 ≤ 4294967296 := by omega
  have hr0 : 0 ≤ P % 100000000 := by omega
  clear hr h1 h2 h3 h4 hc hk hP hkb hkq e1 e2 hP1 hP2
  by_cases hrest : 0 < P % 100000000
  · have ek : (P / 100000000 + 1 : Int) - 1 = k := by rw [Hk.out]; omega
    go_enter Try.func30, Try.ntmps30
    go_wp2_with fail
    refine (H1.out _ Hr.out).mono ?_
    rintro e w1 ⟨rfl, rfl⟩
    go_wp2_with fail
    refine (H1.out _ Hr.out).mono ?_
    rintro e w1 ⟨rfl, rfl⟩
    go_wp2_with fail
    refine (H2.out _).mono ?_
    rintro e w1 ⟨rfl, rfl⟩
    go_wp2_with fail
    refine (H3.out _).mono ?_
    rintro e w2 ⟨rfl, hb2⟩
    have Hb := Lib.hid hb2
    have r2 := hb_below' Hr.out hb2
    have c2 := (hb2.cell (p := ⟨h, off + k, none⟩) (World.block_lt_of_cell? _ _ Hc.out)).trans Hc.out
    have R2 := Lib.hid r2
    have C2 := Lib.hid c2
    clear hb2 r2 c2
    go_wp2_with fail
    refine (H4.out _ R2.out C2.out).mono ?_
    rintro e w3 ⟨rfl, rfl⟩
    go_wp2
    go_ret2
    exact ⟨rfl, Hb.out⟩
  · have ek : P / 100000000 - 1 = k := by rw [Hk.out]; omega
    go_enter Try.func30, Try.ntmps30
    go_wp2_with fail
    refine (H1.out _ Hr.out).mono ?_
    rintro e w1 ⟨rfl, rfl⟩
    go_wp2_with fail
    refine (H1.out _ Hr.out).mono ?_
    rintro e w1 ⟨rfl, rfl⟩
    go_wp2_with fail
    refine (H2.out _).mono ?_
    rintro e w1 ⟨rfl, rfl⟩
    go_wp2_with fail
    refine (H3.out _).mono ?_
    rintro e w2 ⟨rfl, hb2⟩
    have Hb := Lib.hid hb2
    have r2 := hb_below' Hr.out hb2
    have c2 := (hb2.cell (p := ⟨h, off + k, none⟩) (World.block_lt_of_cell? _ _ Hc.out)).trans Hc.out
    have R2 := Lib.hid r2
    have C2 := Lib.hid c2
    clear hb2 r2 c2
    go_wp2_with fail
    refine (H4.out _ R2.out C2.out).mono ?_
    rintro e w3 ⟨rfl, rfl⟩
    go_wp2
    go_ret2
    exact ⟨rfl, Hb.out⟩

/-- Cells moved, as one step of a region that draws. -/
theorem step_copy_g {P : Program} {ops : Array Oper} {o : Oper} {a : Act} {w : World} {K : Act → World → Prop} {Q : Exit → Act → World → Prop} {E : Prop} (hgd : o.guard = none) (d s : Operand) (dT sT : TypeId)
    (ho : o.op = .call { callee := .builtin .copy, args := #[d, s], argTypes := #[dT, sT] }) (elem : TypeId) (hu : P.underlying dT = some (.slice elem)) (hsz : (P.info? elem).map (·.size) = some 1)
    (dp sp : Option Addr) (dLen dCap sLen sCap : Nat) (hd : a.eval d = .slice dp dLen dCap) (hs : a.eval s = .slice sp sLen sCap)
    (g off : Nat) (cur : List Value) (t : TypeId) (hg : w.heap[g]? = some (.cells cur.toArray t (0, 0))) (cs : List Value) (hn : cs.length = Nat.min sLen dLen)
    (hpos : 0 < cs.length → dp = some ⟨g, off, none⟩ ∧ ∃ ad, sp = some ad ∧ ∀ j v, cs[j]? = some v → w.cell? (ad.add j) = some v)
    (hfit : off + cs.length ≤ cur.length) (h1 : ∀ v ∈ cs, v.oneCell' = true)
    (h : ∀ w', w.grownBy w' (some g) → w'.heap[g]? = some (.cells (splice cur off cs).toArray t (0, 0)) → K (a.put o.dst (.int .i64 cs.length)) w') :
    if Region.wanted o (yielded ops a.tmps) = true then Oper.wp P o a w K Q else E := by
  have hw : Region.wanted o (yielded ops a.tmps) = true := by simp [Region.wanted, hgd]
  rw [if_pos hw]
  by_cases h0 : cs.length = 0
  · obtain rfl : cs = [] := List.eq_nil_of_length_eq_zero h0
    have hrun := run_copy_none (P := P) w dT sT o.type elem dp sp dLen dCap sLen sCap hu hsz (by simpa using hn.symm)
    unfold Oper.wp
    simp [execOp, ho, resolve, invoke, builtin, hd, hs, hrun, Result.andThen]
    exact h w ⟨rfl, rfl, rfl, Nat.le_refl _, fun _ _ _ => rfl⟩ (by simpa [splice] using hg)
  · obtain ⟨rfl, ad, rfl, hsrc⟩ := hpos (by omega)
    have hrun := run_copy_row (P := P) w dT sT o.type elem g off dLen dCap ad sLen sCap cur.toArray t cs hu hsz hg hn hsrc (by simpa using hfit) h1
    unfold Oper.wp
    simp [execOp, ho, resolve, invoke, builtin, hd, hs, hrun, Result.andThen]
    exact h _ ⟨rfl, rfl, rfl, by simp [World.setRow], fun k hk hne => setRow_other w g k _ (fun e => hne (by rw [e]))⟩ (by simpa [splice] using setRow_heap w g _ _ t _ hg)
end Go.Proofs.Ytfhhdlpglfjdgaa
/- Contracts of package rank: Put. -/
set_option linter.unusedVariables false
set_option linter.unusedSimpArgs false
namespace Go.Proofs.Ytfhhdlpglfjdgaa
open Go.RowKit

theorem Try.infoi : (Try.prog.info? 2).map (fun i => (i.zero, i.size, i.bytes)) = some (some (.int .i64 0), 1, 8) := by kernel_rfl
theorem Try.sizei : (Try.prog.info? 2).map (·.size) = some 1 := by kernel_rfl

/-- v put in at place i. -/
def insI (l : List Int) (i : Nat) (v : Int) : List Int := l.take i ++ v :: l.drop i
theorem insI_length (l : List Int) (i : Nat) (v : Int) (h : i ≤ l.length) : (insI l i v).length = l.length + 1 := by simp [insI]; omega
theorem splice_get {α : Type} (L : List α) (off : Nat) (cs : List α) (h : off + cs.length ≤ L.length) (k : Nat) : (splice L off cs)[k]? = if off ≤ k ∧ k < off + cs.length then cs[k - off]? else L[k]? := by
  unfold splice
  rw [List.getElem?_append, List.length_take, Nat.min_eq_left (by omega)]
  split
  · rename_i h1
    rw [if_neg (by omega), List.getElem?_take, if_pos h1]
  · rename_i h1
    rw [List.getElem?_append]
    split
    · rename_i h2
      rw [if_pos (by omega)]
    · rename_i h2
      rw [if_neg (by omega), List.getElem?_drop]
      congr 1
      omega

theorem ins_cells (cur : Array Value) (off i : Nat) (l : List Int) (v : Int) (hi : i ≤ l.length) (hs : off + (l.length + 1) ≤ cur.size)
    (hc : ∀ j u, (nl l ++ [.int .i64 0])[j]? = some u → cur[off + j]? = some u) :
    ∀ j u, (nl (insI l i v))[j]? = some u → ((splice cur.toList (off + (i + 1)) (nl (l.drop i))).toArray.setIfInBounds (off + i) (.int .i64 v))[off + j]? = some u := by
  intro j u hj
  have hlen : (nl (l.drop i)).length = l.length - i := by rw [nl_length, List.length_drop]
  have hsp : off + (i + 1) + (nl (l.drop i)).length ≤ cur.toList.length := by rw [hlen]; simp; omega
  have hj0 := (List.getElem?_eq_some_iff.1 hj).1
  rw [nl_length, insI_length l i v hi] at hj0
  rw [Array.getElem?_setIfInBounds]
  simp only [List.getElem?_toArray, List.size_toArray, length_splice _ _ _ hsp]
  rcases Nat.lt_trichotomy j i with h | h | h
  · rw [if_neg (by omega), splice_get _ _ _ hsp, if_neg (by omega)]
    have := hc j u (by
      rw [List.getElem?_append_left (by rw [nl_length]; omega)]
      unfold nl insI at *
      rw [List.map_append, List.getElem?_append_left (by simp; omega), List.map_take, List.getElem?_take, if_pos h] at hj
      exact hj)
    simpa using this
  · subst h
    rw [if_pos rfl, if_pos (by simp; omega)]
    unfold nl insI at hj
    rw [List.map_append, List.getElem?_append_right (by simp; omega), List.map_cons] at hj
    have e0 : j - (List.map (Value.int .i64) (List.take j l)).length = 0 := by simp; omega
    rw [e0] at hj
    exact hj
  · rw [if_neg (by omega), splice_get _ _ _ hsp, if_pos (by omega)]
    unfold nl insI at *
    rw [List.map_append, List.getElem?_append_right (by simp; omega), List.map_cons] at hj
    have e0 : j - (List.map (Value.int .i64) (List.take i l)).length = (j - i - 1) + 1 := by simp; omega
    rw [e0, List.getElem?_cons_succ] at hj
    rw [show off + j - (off + (i + 1)) = j - i - 1 by omega]
    exact hj

/-- The row behind a Put. -/
def RankPut (w w' : World) (g : Nat) (l : List Int) (v0 : Value) : Prop :=
  ∃ h off cap, RankBlk w' g (.slice (some ⟨h, off, none⟩) l.length cap) ∧ RowQ w' 0 2 1 (.slice (some ⟨h, off, none⟩) l.length cap) l.length (nl l) ∧ (v0.ownBlock = some h ∨ w.heap.size ≤ h) ∧ h ≠ g ∧ h < w'.heap.size ∧ Fr (fun k => k = g ∨ v0.ownBlock = some k ∨ k = h) w w'

theorem rank_put_fin {w w2 w4 : World} {g h off cap cap' i : Nat} {A : Option Addr} {cur : Array Value} {l : List Int} {v : Int} {n0 : Nat} {o : Obj} (hi : i ≤ l.length) (hg : g < w.heap.size) (hhg : h ≠ g) (hlt : h < w2.heap.size) (hn : l.length + 1 ≤ cap') (hcm : cap' ≤ maxLen) (hcs : off + cap' * 1 ≤ cur.size)
    (HO : (Value.slice A n0 cap).ownBlock = some h ∨ w.heap.size + 1 ≤ h) (HG : (w.alloc o).grownBy w2 (Value.slice A n0 cap).ownBlock)
    (M3 : (w2.setCell ⟨g, 0, none⟩ (.slice (some ⟨h, off, none⟩) (l.length + 1) cap')).heap[g]? = some (.cells #[.slice (some ⟨h, off, none⟩) (l.length + 1) cap'] 86 (0, 0)))
    (Hrd : ∀ j u, (nl l ++ [.int .i64 0])[j]? = some u → cur[off + j]? = some u)
    (HG4 : (w2.setCell ⟨g, 0, none⟩ (.slice (some ⟨h, off, none⟩) (l.length + 1) cap')).drew.grownBy w4 (some h))
    (HH4 : w4.heap[h]? = some (.cells (splice cur.toList (off + (i + 1)) (nl (l.drop i))).toArray 2 (0, 0))) :
    RankPut w (w4.setCell ⟨h, off + i, none⟩ (.int .i64 v)) g (insI l i v) (Value.slice A n0 cap) := by
  have hlen := insI_length l i v hi
  have hg2 : g < w2.heap.size := by have := HG.size; simp at this; omega
  have m4 : w4.heap[g]? = _ := (HG4.block g (by simpa using hg2) (by simp; exact fun e => hhg e.symm)).trans M3
  have hsp : off + (i + 1) + (nl (l.drop i)).length ≤ cur.toList.length := by rw [nl_length, List.length_drop]; simp; omega
  refine ⟨h, off, cap', ?_, ⟨by rw [nl_length, hlen]; omega, .inr ⟨h, off, cap', _, by rw [hlen], Nat.zero_le _, hb_set HH4 (off + i) (.int .i64 v), by omega, hcm, ?_, ?_⟩⟩, HO.imp id (fun x => by omega), hhg, ?_, ?_⟩
  · rw [hlen]
    exact hb_far m4 (by exact fun e => hhg e.symm) _
  · simp only [Array.size_setIfInBounds, List.size_toArray, length_splice _ _ _ hsp]
    simpa using hcs
  · exact ins_cells cur off i l v hi (by omega) Hrd
  · have := HG4.size
    simp [World.setCell] at this ⊢
    omega
  · have h1 : Fr (fun k => k = g ∨ (Value.slice A n0 cap).ownBlock = some k ∨ k = h) w w2 :=
      ⟨HG.os, HG.tape, HG.output, by have := HG.size; simp at this; omega, fun k hk hne => (HG.block k (by simp; omega) (fun e => hne (.inr (.inl e.symm)))).trans (Below.heap_alloc w o k hk)⟩
    have h2 := (h1.setCell (p := ⟨g, 0, none⟩) (.inl (.inl rfl)) (.slice (some ⟨h, off, none⟩) (l.length + 1) cap'))
    have h3 : Fr (fun k => k = g ∨ (Value.slice A n0 cap).ownBlock = some k ∨ k = h) w w4 :=
      ⟨HG4.os.trans h2.os, HG4.tape.trans h2.tape, HG4.output.trans h2.output, Nat.le_trans h2.size HG4.size, fun k hk hne => (HG4.block k (Nat.lt_of_lt_of_le hk h2.size) (fun e => hne (.inr (.inr (by simpa using e))))).trans (h2.block k hk hne)⟩
    exact h3.setCell (.inl (.inr (.inr rfl))) _

set_option maxRecDepth 100000 in
set_option maxHeartbeats 4000000 in
theorem rank_Put (g : Nat) (v : Int) (l : List Int) (v0 : Value) (w : World) (hm : RankBlk w g v0) (hq : RowQ w 0 2 1 v0 l.length (nl l)) (hne : v0.ownBlock ≠ some g) (hr : Rise l) (hl : l.length ≤ 4294967295) :
    Calls Try.prog 37 #[.pointer (some ⟨g, 0, none⟩), .int .i64 v] w fun e w' => e = .returned (.tuple #[]) ∧ RankPut w w' g (insI l (lb l v) v) v0 := by
  obtain ⟨A, cap, rfl, hnc, hcm, hnone, hsome⟩ := hq.form
  have h1 := fun w hs => slices_BinarySearch A cap l v (decide (l[lb l v]? = some v)) w (by omega) hr hs (fun h => (hnone h).1) rfl
  have hbs : ∀ ad, A = some ad → ∃ g off, ad = ⟨g, off, none⟩ ∧ ∀ (j : Nat) (x : Int), l[j]? = some x → w.cell? ⟨g, off + j, none⟩ = some (.int .i64 x) := by
    intro ad had
    obtain ⟨h, off, e, _, _, hc, _⟩ := hsome ad had
    exact ⟨h, off, e, fun j x hx => hc j _ (nl_get l j x hx)⟩
  have c0 := hb_cell hm 0
  have f0 := hb_free hm 0
  simp only [List.getElem?_toArray, List.getElem?_cons_zero] at c0
  have hg := hb_lt hm
  have hle := lb_le l v
  have H1 := Lib.hid h1
  have Hbs := Lib.hid hbs
  have Hq := Lib.hid hq
  have hne' : some g ≠ (Value.slice A l.length cap).ownBlock := fun e => hne e.symm
  have Hne := Lib.hid hne'
  obtain ⟨i0, hi, hz0, hz1, hz2⟩ := info_parts Try.infoi
  have Hi := Lib.hid hi
  have Hz0 := Lib.hid hz0
  have Hz1 := Lib.hid hz1
  have Hz2 := Lib.hid hz2
  have Hm := Lib.hid hm
  clear h1 hbs hq hne hne' hi hz0 hz1 hz2 hm hsome hr hnone
  go_enter Try.func37, Try.ntmps37
  go_wp2_with fail
  refine (H1.out _ Hbs.out).mono ?_
  rintro e w1 ⟨rfl, rfl⟩
  go_wp2_with (at_builtin; refine wpList_append_q rfl (.tmp 21) (.tmp 22) 84 rfl 2 i0 _ 1 8 Try.underlying84 Hi.out Hz0.out Hz1.out Hz2.out rfl (by decide) 0 (.slice A l.length cap) l.length _ rfl (Hq.out.alloc _) (Nat.zero_le _) ⟨w1.heap.size, 0, none⟩ 1 1 [.int .i64 0] rfl rfl (news1 _ _ _) (one1 _ _) (by decide) (by unfold maxLen; omega) (by omega) ?_)
  intro hB off cap' w2 hq2 hgr hor hlt2
  have hhg : hB ≠ g := by
    rintro rfl
    rcases hor with e | e
    · exact Hne.out e.symm
    · omega
  have m2 : w2.heap[g]? = _ := (hgr.block g (by simp; omega) Hne.out).trans (hb_alloc Hm.out _)
  have d0 := hb_cell m2 0
  have e0 := hb_free m2 0
  simp only [List.getElem?_toArray, List.getElem?_cons_zero] at d0
  have hcur : ∃ cur, w2.heap[hB]? = some (.cells cur 2 (0, 0)) ∧ l.length + 1 ≤ cap' ∧ cap' ≤ maxLen ∧ off + cap' * 1 ≤ cur.size ∧ ∀ j u, (nl l ++ [.int .i64 0])[j]? = some u → cur[off + j]? = some u := by
    rcases hq2.2 with ⟨hv, h0⟩ | ⟨h', off', cap'', cur, hv, hb, hh, hn, hc, hs, hr⟩
    · omega
    · simp at hv
      obtain ⟨⟨rfl, rfl⟩, rfl⟩ := hv
      exact ⟨cur, hh, hn, hc, hs, hr⟩
  obtain ⟨cur, hh2, hn2, hcm2, hcs2, hrd⟩ := hcur
  have m3 : (w2.setCell ⟨g, 0, none⟩ (.slice (some ⟨hB, off, none⟩) (l.length + 1) cap')).heap[g]? = some (.cells #[.slice (some ⟨hB, off, none⟩) (l.length + 1) cap'] 86 (0, 0)) := by simpa using hb_set m2 0 (.slice (some ⟨hB, off, none⟩) (l.length + 1) cap')
  have hh3 : (w2.setCell ⟨g, 0, none⟩ (.slice (some ⟨hB, off, none⟩) (l.length + 1) cap')).heap[hB]? = some (.cells cur.toList.toArray 2 (0, 0)) := by rw [Array.toArray_toList]; exact hb_far hh2 (by exact hhg) _
  have hg2 : g < w2.heap.size := hb_lt m2
  have M3 := Lib.hid m3
  have HH3 := Lib.hid hh3
  have HO := Lib.hid hor
  have Hrd := Lib.hid hrd
  have HG := Lib.hid hgr
  have hi0 : (0 : Int) ≤ (lb l v : Int) + 1 := by omega
  have hi1 : (lb l v : Int) + 1 ≤ (l.length : Int) + 1 := by omega
  have hi2 : (lb l v : Int) ≤ (l.length : Int) + 1 := by omega
  have hi3 : ((lb l v : Int) + 1).toNat = lb l v + 1 := by omega
  have hw : IntKind.i64.wrap ((lb l v : Int) + 1) = (lb l v : Int) + 1 := IntWalk.i64_in _ (by omega)
  have hca : ¬ cap' = lb l v := by omega
  unfold maxLen at hcm2
  clear hq2 hgr hor m2 hh2 m3 hh3 hrd
  go_wp2_with fail
  by_cases hil : lb l v < l.length
  · have hcb : ¬ cap' = lb l v + 1 := by omega
    have Hlen : Hid ((nl (l.drop (lb l v))).length = l.length - lb l v) := by show _ = _; rw [nl_length, List.length_drop]
    have Hsrc : Hid (∀ j u, (nl (l.drop (lb l v)))[j]? = some u → (w2.setCell ⟨g, 0, none⟩ (.slice (some ⟨hB, off, none⟩) (l.length + 1) cap')).cell? ((⟨hB, off + lb l v, none⟩ : Addr).add j) = some u) := by
      intro j u hj
      have : (⟨hB, off + lb l v, none⟩ : Addr).add j = ⟨hB, off + (lb l v + j), none⟩ := by unfold Addr.add; split <;> simp_all [Nat.add_assoc]
      rw [this, hb_cell HH3.out, Array.toArray_toList]
      refine Hrd.out _ _ ?_
      have hjl := (List.getElem?_eq_some_iff.1 hj).1
      rw [Hlen.out] at hjl
      rw [List.getElem?_append_left (by rw [nl_length]; omega)]
      unfold nl at hj ⊢
      rw [List.map_drop, List.getElem?_drop] at hj
      exact hj
    have Hone : Hid (∀ u ∈ nl (l.drop (lb l v)), u.oneCell' = true) := by
      intro u hu
      obtain ⟨x, _, rfl⟩ := List.mem_map.1 hu
      rfl
    have Hfit : Hid (off + (lb l v + 1) + (nl (l.drop (lb l v))).length ≤ cur.toList.length) := by
      show _ ≤ _
      rw [Hlen.out]; simp; omega
    go_region_law (refine step_copy_g rfl (.tmp 32) (.tmp 38) 84 84 rfl 2 Try.underlying84 Try.sizei _ _ _ _ _ _ rfl rfl hB (off + (lb l v + 1)) cur.toList 2 HH3.out (nl (l.drop (lb l v))) (by rw [Hlen.out]; show _ = min _ _; omega) (fun _ => ⟨rfl, _, rfl, Hsrc.out⟩) Hfit.out Hone.out ?_; intro w4 hg4 hh4; have d4 := grown_cell hg4 (hb_cell M3.out 0) (by simp; exact fun e => hhg e.symm); have HG4 := Lib.hid hg4; have HH4 := Lib.hid hh4; clear hg4 hh4)
    all_goals
      obtain ⟨y, hy⟩ : ∃ y, w4.cell? ⟨hB, off + lb l v, none⟩ = some y := by
        rw [hb_cell HH4.out]
        exact ⟨_, Array.getElem?_eq_getElem (by simp only [List.size_toArray, length_splice _ _ _ Hfit.out]; simp; omega)⟩
      have fy := hb_free HH4.out (off + lb l v)
      go_wp2_with fail
    all_goals
      exact bodyPost_end (v := .tuple #[]) (results_none rfl _ _ _) rfl ⟨rfl, rank_put_fin hle hg hhg hlt2 hn2 (by unfold maxLen; omega) hcs2 HO.out HG.out M3.out Hrd.out HG4.out HH4.out⟩
  · have hlv : l.length ≤ lb l v := by omega
    have Hlen : Hid ((nl (l.drop (lb l v))).length = l.length - lb l v) := by show _ = _; rw [nl_length, List.length_drop]
    have Hsrc : Hid (∀ j u, (nl (l.drop (lb l v)))[j]? = some u → (w2.setCell ⟨g, 0, none⟩ (.slice (some ⟨hB, off, none⟩) (l.length + 1) cap')).cell? ((⟨hB, off + lb l v, none⟩ : Addr).add j) = some u) := by
      intro j u hj
      have : (⟨hB, off + lb l v, none⟩ : Addr).add j = ⟨hB, off + (lb l v + j), none⟩ := by unfold Addr.add; split <;> simp_all [Nat.add_assoc]
      rw [this, hb_cell HH3.out, Array.toArray_toList]
      refine Hrd.out _ _ ?_
      have hjl := (List.getElem?_eq_some_iff.1 hj).1
      rw [Hlen.out] at hjl
      rw [List.getElem?_append_left (by rw [nl_length]; omega)]
      unfold nl at hj ⊢
      rw [List.map_drop, List.getElem?_drop] at hj
      exact hj
    have Hone : Hid (∀ u ∈ nl (l.drop (lb l v)), u.oneCell' = true) := by
      intro u hu
      obtain ⟨x, _, rfl⟩ := List.mem_map.1 hu
      rfl
    have Hfit : Hid (off + (lb l v + 1) + (nl (l.drop (lb l v))).length ≤ cur.toList.length) := by
      show _ ≤ _
      rw [Hlen.out]; simp; omega
    go_region_law (refine step_copy_g rfl (.tmp 32) (.tmp 38) 84 84 rfl 2 Try.underlying84 Try.sizei _ _ _ _ _ _ rfl rfl hB (off + (lb l v + 1)) cur.toList 2 HH3.out (nl (l.drop (lb l v))) (by rw [Hlen.out]; show _ = min _ _; omega) (fun hp => absurd hp (by rw [Hlen.out]; omega)) Hfit.out Hone.out ?_; intro w4 hg4 hh4; have d4 := grown_cell hg4 (hb_cell M3.out 0) (by simp; exact fun e => hhg e.symm); have HG4 := Lib.hid hg4; have HH4 := Lib.hid hh4; clear hg4 hh4)
    all_goals
      obtain ⟨y, hy⟩ : ∃ y, w4.cell? ⟨hB, off + lb l v, none⟩ = some y := by
        rw [hb_cell HH4.out]
        exact ⟨_, Array.getElem?_eq_getElem (by simp only [List.size_toArray, length_splice _ _ _ Hfit.out]; simp; omega)⟩
      have fy := hb_free HH4.out (off + lb l v)
      go_wp2_with fail
    all_goals
      exact bodyPost_end (v := .tuple #[]) (results_none rfl _ _ _) rfl ⟨rfl, rank_put_fin hle hg hhg hlt2 hn2 (by unfold maxLen; omega) hcs2 HO.out HG.out M3.out Hrd.out HG4.out HH4.out⟩
end Go.Proofs.Ytfhhdlpglfjdgaa
/- Contracts of package rank: Take; told by footprints. -/
set_option linter.unusedVariables false
set_option linter.unusedSimpArgs false
namespace Go.Proofs.Ytfhhdlpglfjdgaa
open Go.RowKit

/-- The one at place i struck. -/
def delI (l : List Int) (i : Nat) : List Int := l.take i ++ l.drop (i + 1)
theorem delI_length (l : List Int) (i : Nat) (h : i < l.length) : (delI l i).length + 1 = l.length := by simp [delI]; omega

theorem del_cells (cur : Array Value) (off i : Nat) (l : List Int) (hi : i < l.length) (hs : off + l.length ≤ cur.size) (hc : ∀ j u, (nl l)[j]? = some u → cur[off + j]? = some u) :
    ∀ j u, (nl (delI l i))[j]? = some u → (splice cur.toList (off + i) (nl (l.drop (i + 1)))).toArray[off + j]? = some u := by
  intro j u hj
  have hlen : (nl (l.drop (i + 1))).length = l.length - (i + 1) := by rw [nl_length, List.length_drop]
  have hsp : off + i + (nl (l.drop (i + 1))).length ≤ cur.toList.length := by rw [hlen]; simp; omega
  have hj0 := (List.getElem?_eq_some_iff.1 hj).1
  have hd := delI_length l i hi
  rw [nl_length] at hj0
  simp only [List.getElem?_toArray]
  rw [splice_get _ _ _ hsp]
  unfold nl delI at hj
  rw [List.map_append] at hj
  rcases Nat.lt_or_ge j i with h | h
  · rw [if_neg (by omega)]
    rw [List.getElem?_append_left (by simp; omega), List.map_take, List.getElem?_take, if_pos h] at hj
    have := hc j u hj
    simpa using this
  · rw [if_pos (by rw [hlen]; omega)]
    rw [List.getElem?_append_right (by simp; omega)] at hj
    have e0 : j - (List.map (Value.int .i64) (List.take i l)).length = j - i := by simp; omega
    rw [e0] at hj
    rw [show off + j - (off + i) = j - i by omega]
    exact hj

theorem rank_take_fin {w w4 : World} {g h off cap i m : Nat} {cur : Array Value} {l : List Int} (hi : i < l.length) (hm : i + m + 1 = l.length) (hg : g < w.heap.size) (hhg : h ≠ g) (hlt : h < w.heap.size) (hn : l.length ≤ cap) (hcm : cap ≤ maxLen) (hcs : off + cap * 1 ≤ cur.size)
    (M : RankBlk w g (.slice (some ⟨h, off, none⟩) l.length cap)) (Hrd : ∀ j u, (nl l)[j]? = some u → cur[off + j]? = some u)
    (HG4 : w.drew.grownBy w4 (some h)) (HH4 : w4.heap[h]? = some (.cells (splice cur.toList (off + i) (nl (l.drop (i + 1)))).toArray 2 (0, 0))) :
    RankPut w (w4.setCell ⟨g, 0, none⟩ (.slice (some ⟨h, off, none⟩) (i + m) cap)) g (delI l i) (.slice (some ⟨h, off, none⟩) l.length cap) := by
  have hlen := delI_length l i hi
  have m4 : w4.heap[g]? = _ := (HG4.block g (by simpa using hg) (by simp; exact fun e => hhg e.symm)).trans M
  have hlen2 : (nl (l.drop (i + 1))).length = l.length - (i + 1) := by rw [nl_length, List.length_drop]
  have hsp : off + i + (nl (l.drop (i + 1))).length ≤ cur.toList.length := by rw [hlen2]; simp; omega
  have e : (delI l i).length = i + m := by omega
  refine ⟨h, off, cap, ?_, ⟨by rw [nl_length]; omega, .inr ⟨h, off, cap, _, by rw [e], Nat.zero_le _, hb_far HH4 (by exact hhg) _, by omega, hcm, ?_, del_cells cur off i l hi (by omega) Hrd⟩⟩, .inl rfl, hhg, ?_, ?_⟩
  · rw [e]
    simpa [RankBlk] using hb_set m4 0 (.slice (some ⟨h, off, none⟩) (i + m) cap)
  · simp only [List.size_toArray, length_splice _ _ _ hsp]
    simpa using hcs
  · have := HG4.size
    simp [World.setCell] at this ⊢
    omega
  · have h3 : Fr (fun k => k = g ∨ (Value.slice (some ⟨h, off, none⟩) l.length cap).ownBlock = some k ∨ k = h) w w4 :=
      ⟨HG4.os, HG4.tape, HG4.output, HG4.size, fun k hk hne => HG4.block k hk (fun e => hne (.inr (.inr (by simpa using e))))⟩
    exact h3.setCell (.inl (.inl rfl)) _

set_option maxRecDepth 100000 in
set_option maxHeartbeats 4000000 in
theorem rank_Take (g hB off cap : Nat) (v : Int) (l : List Int) (w : World) (hm : RankBlk w g (.slice (some ⟨hB, off, none⟩) l.length cap)) (hq : RowQ w 0 2 1 (.slice (some ⟨hB, off, none⟩) l.length cap) l.length (nl l)) (hhg : hB ≠ g) (hr : Rise l) (hl : l.length ≤ 4294967295) (hfd : l[lb l v]? = some v) :
    Calls Try.prog 56 #[.pointer (some ⟨g, 0, none⟩), .int .i64 v] w fun e w' => e = .returned (.bool true) ∧ RankPut w w' g (delI l (lb l v)) (.slice (some ⟨hB, off, none⟩) l.length cap) := by
  have hle : lb l v < l.length := (List.getElem?_eq_some_iff.1 hfd).1
  obtain ⟨cur, hh, hnc, hcm, hcs, hrd⟩ : ∃ cur, w.heap[hB]? = some (.cells cur 2 (0, 0)) ∧ l.length ≤ cap ∧ cap ≤ maxLen ∧ off + cap * 1 ≤ cur.size ∧ ∀ j u, (nl l)[j]? = some u → cur[off + j]? = some u := by
    rcases hq.2 with ⟨hv, h0⟩ | ⟨h', off', cap'', cur, hv, hb, hh, hn, hc, hs, hr⟩
    · simp at hv
    · simp at hv
      obtain ⟨⟨rfl, rfl⟩, rfl⟩ := hv
      exact ⟨cur, hh, hn, hc, hs, hr⟩
  have h1 := fun w hs => slices_BinarySearch (some ⟨hB, off, none⟩) cap l v true w (by omega) hr hs (fun h => by simp at h) (by simp [hfd])
  have hbs : ∀ ad, some (⟨hB, off, none⟩ : Addr) = some ad → ∃ g off, ad = ⟨g, off, none⟩ ∧ ∀ (j : Nat) (x : Int), l[j]? = some x → w.cell? ⟨g, off + j, none⟩ = some (.int .i64 x) := by
    intro ad had
    exact ⟨hB, off, by simpa using had.symm, fun j x hx => by rw [hb_cell hh]; exact hrd j _ (nl_get l j x hx)⟩
  have c0 := hb_cell hm 0
  have f0 := hb_free hm 0
  simp only [List.getElem?_toArray, List.getElem?_cons_zero] at c0
  have hg := hb_lt hm
  have hltB := hb_lt hh
  have H1 := Lib.hid h1
  have Hbs := Lib.hid hbs
  have HH : Hid (w.heap[hB]? = some (.cells cur.toList.toArray 2 (0, 0))) := by show _ = _; rw [Array.toArray_toList]; exact hh
  have Hm := Lib.hid hm
  have Hrd := Lib.hid hrd
  obtain ⟨m, hmm⟩ : ∃ m, lb l v + m + 1 = l.length := ⟨l.length - lb l v - 1, by omega⟩
  have Hlen : Hid ((nl (l.drop (lb l v + 1))).length = m) := by show _ = _; rw [nl_length, List.length_drop]; omega
  have hi0 : (0 : Int) ≤ (lb l v : Int) + 1 := by omega
  have hi1 : (lb l v : Int) + 1 ≤ (l.length : Int) := by omega
  have hi2 : (lb l v : Int) ≤ (l.length : Int) := by omega
  have hi3 : ((lb l v : Int) + 1).toNat = lb l v + 1 := by omega
  have hw : IntKind.i64.wrap ((lb l v : Int) + 1) = (lb l v : Int) + 1 := IntWalk.i64_in _ (by omega)
  have hj0 : (0 : Int) ≤ (lb l v : Int) + (m : Int) := by omega
  have hj1 : (lb l v : Int) + (m : Int) ≤ (cap : Int) := by omega
  have hj3 : ((lb l v : Int) + (m : Int)).toNat = lb l v + m := by omega
  have hw2 : IntKind.i64.wrap ((lb l v : Int) + (m : Int)) = (lb l v : Int) + (m : Int) := IntWalk.i64_in _ (by omega)
  have hca : ¬ cap = lb l v := by omega
  have Hsrc : Hid (∀ j u, (nl (l.drop (lb l v + 1)))[j]? = some u → w.cell? ((⟨hB, off + (lb l v + 1), none⟩ : Addr).add j) = some u) := by
    intro j u hj
    have : (⟨hB, off + (lb l v + 1), none⟩ : Addr).add j = ⟨hB, off + (lb l v + 1 + j), none⟩ := by unfold Addr.add; split <;> simp_all [Nat.add_assoc]
    rw [this, hb_cell hh]
    refine hrd _ _ ?_
    unfold nl at hj ⊢
    rw [List.map_drop, List.getElem?_drop] at hj
    exact hj
  have Hone : Hid (∀ u ∈ nl (l.drop (lb l v + 1)), u.oneCell' = true) := by
    intro u hu
    obtain ⟨x, _, rfl⟩ := List.mem_map.1 hu
    rfl
  have Hfit : Hid (off + lb l v + (nl (l.drop (lb l v + 1))).length ≤ cur.toList.length) := by
    show _ ≤ _
    rw [Hlen.out]; simp; omega
  have Hmm := Lib.hid hmm
  have Hle := Lib.hid hle
  clear h1 hbs hm hr hq hfd hh hrd hmm
  unfold maxLen at hcm
  by_cases hil : cap = lb l v + 1
  · have hm0 : m = 0 := by have := Hmm.out; omega
    subst hil
    have hm1 : (m : Int) ≤ 1 := by omega
    have hm2 : (lb l v : Int) + (m : Int) ≤ (lb l v : Int) + 1 := by omega
    have Hm0 := Lib.hid hm0
    clear hm0
    go_enter Try.func56, Try.ntmps56
    go_wp2_with fail
    refine (H1.out _ Hbs.out).mono ?_
    rintro e w1 ⟨rfl, rfl⟩
    go_wp2_with fail
    go_region_law (refine step_copy_g rfl (.tmp 30) (.tmp 37) 84 84 rfl 2 Try.underlying84 Try.sizei _ _ _ _ _ _ rfl rfl hB (off + lb l v) cur.toList 2 HH.out (nl (l.drop (lb l v + 1))) (by rw [Hlen.out]; have := Hmm.out; show _ = min _ _; omega) (fun hp => absurd hp (by rw [Hlen.out, Hm0.out]; omega)) Hfit.out Hone.out ?_; rw [Hlen.out]; intro w4 hg4 hh4; have d4 := grown_cell hg4 (hb_cell Hm.out 0) (by simp; exact fun e => hhg e.symm); have e4 := grown_free hg4 (b := g) (o := 0) hg f0 (by simp; exact fun e => hhg e.symm); have HG4 := Lib.hid hg4; have HH4 := Lib.hid hh4; clear hg4 hh4)
    all_goals
      go_wp2_with fail
    all_goals
      go_ret
      exact ⟨rfl, rank_take_fin Hle.out Hmm.out hg hhg hltB hnc (by unfold maxLen; omega) hcs Hm.out Hrd.out HG4.out HH4.out⟩
  · skip
    go_enter Try.func56, Try.ntmps56
    go_wp2_with fail
    refine (H1.out _ Hbs.out).mono ?_
    rintro e w1 ⟨rfl, rfl⟩
    go_wp2_with fail
    go_region_law (refine step_copy_g rfl (.tmp 30) (.tmp 37) 84 84 rfl 2 Try.underlying84 Try.sizei _ _ _ _ _ _ rfl rfl hB (off + lb l v) cur.toList 2 HH.out (nl (l.drop (lb l v + 1))) (by rw [Hlen.out]; have := Hmm.out; show _ = min _ _; omega) (fun _ => ⟨rfl, _, rfl, Hsrc.out⟩) Hfit.out Hone.out ?_; rw [Hlen.out]; intro w4 hg4 hh4; have d4 := grown_cell hg4 (hb_cell Hm.out 0) (by simp; exact fun e => hhg e.symm); have e4 := grown_free hg4 (b := g) (o := 0) hg f0 (by simp; exact fun e => hhg e.symm); have HG4 := Lib.hid hg4; have HH4 := Lib.hid hh4; clear hg4 hh4)
    all_goals
      go_wp2_with fail
    all_goals
      go_ret
      exact ⟨rfl, rank_take_fin Hle.out Hmm.out hg hhg hltB hnc (by unfold maxLen; omega) hcs Hm.out Hrd.out HG4.out HH4.out⟩

/-! By footprints. -/
def RankAt (w : World) (F : Nat → Prop) (g : Nat) (l : List Int) : Prop :=
  F g ∧ (∀ k, F k → k < w.heap.size) ∧ ∃ v, RankBlk w g v ∧ RowQ w 0 2 1 v l.length (nl l) ∧ v.ownBlock ≠ some g ∧ ∀ k, v.ownBlock = some k → F k
theorem RankAt.keep {w w' : World} {F : Nat → Prop} {g : Nat} {l : List Int} (h : RankAt w F g l) (hk : ∀ k, F k → w'.heap[k]? = w.heap[k]?) (hs : w.heap.size ≤ w'.heap.size) : RankAt w' F g l := by
  obtain ⟨h1, h2, v, h3, h4, h5, h6⟩ := h
  exact ⟨h1, fun k hk' => Nat.lt_of_lt_of_le (h2 k hk') hs, v, (hk g h1).trans h3, h4.keep (fun k hk' => hk k (h6 k hk')), h5, h6⟩
theorem RankPut.at_ {w w' : World} {F : Nat → Prop} {g : Nat} {l : List Int} {v0 : Value} (h : RankPut w w' g l v0) (hg : F g) (hF : ∀ k, F k → k < w.heap.size) (hown : ∀ k, v0.ownBlock = some k → F k) :
    ∃ F', Ext F F' w w' ∧ Fr F w w' ∧ RankAt w' F' g l := by
  obtain ⟨h, off, cap, hb, hq, hor, hhg, hlt, hfr⟩ := h
  refine ⟨fun k => F k ∨ k = h, ?_, ?_, .inl hg, ?_, .slice (some ⟨h, off, none⟩) l.length cap, hb, hq, by simpa [Value.ownBlock] using hhg, fun k hk => .inr (by simpa [Value.ownBlock] using hk.symm)⟩
  · intro k hk
    rcases hk with hk | rfl
    · exact .inl hk
    · rcases hor with e | e
      · exact .inl (hown _ e)
      · exact .inr ⟨e, hlt⟩
  · refine ⟨hfr.os, hfr.tape, hfr.output, hfr.size, fun k hk hn => hfr.block k hk (fun hc => ?_)⟩
    rcases hc with rfl | hc | rfl
    · exact hn hg
    · exact hn (hown _ hc)
    · rcases hor with e | e
      · exact hn (hown _ e)
      · omega
  · intro k hk
    rcases hk with hk | rfl
    · exact Nat.lt_of_lt_of_le (hF k hk) hfr.size
    · exact hlt

theorem rank_Put_at (F : Nat → Prop) (g : Nat) (v : Int) (l : List Int) (w : World) (hm : RankAt w F g l) (hr : Rise l) (hl : l.length ≤ 4294967295) :
    Calls Try.prog 37 #[.pointer (some ⟨g, 0, none⟩), .int .i64 v] w fun e w' => e = .returned (.tuple #[]) ∧ ∃ F', Ext F F' w w' ∧ Fr F w w' ∧ RankAt w' F' g (insI l (lb l v) v) := by
  obtain ⟨hg, hF, v0, hb, hq, hne, hown⟩ := hm
  refine (rank_Put g v l v0 w hb hq hne hr hl).mono ?_
  rintro e w' ⟨rfl, hp⟩
  exact ⟨rfl, hp.at_ hg hF hown⟩
theorem rank_Take_at (F : Nat → Prop) (g : Nat) (v : Int) (l : List Int) (w : World) (hm : RankAt w F g l) (hr : Rise l) (hl : l.length ≤ 4294967295) (hfd : l[lb l v]? = some v) :
    Calls Try.prog 56 #[.pointer (some ⟨g, 0, none⟩), .int .i64 v] w fun e w' => e = .returned (.bool true) ∧ ∃ F', Ext F F' w w' ∧ Fr F w w' ∧ RankAt w' F' g (delI l (lb l v)) := by
  obtain ⟨hg, hF, v0, hb, hq, hne, hown⟩ := hm
  rcases hq.2 with ⟨rfl, hn⟩ | ⟨h, off, cap, cur, rfl, _, hh, _⟩
  · obtain rfl : l = [] := List.eq_nil_of_length_eq_zero hn
    simp at hfd
  · refine (rank_Take g h off cap v l w hb hq (by simpa [Value.ownBlock] using hne) hr hl hfd).mono ?_
    rintro e w' ⟨rfl, hp⟩
    exact ⟨rfl, hp.at_ hg hF hown⟩
theorem rank_By_at (F : Nat → Prop) (g : Nat) (l : List Int) (p x : Int) (w : World) (hm : RankAt w F g l) (hl : l.length ≤ 4294967295) (hn : 0 < l.length) (hp : 1 ≤ p) (hp1 : p ≤ 100000000) (hx : l[(rankK l.length p).toNat]? = some x) :
    Calls Try.prog 30 #[.pointer (some ⟨g, 0, none⟩), .int .i64 p] w fun e w' => e = .returned (.tuple #[.int .i64 x, .bool true]) ∧ Below w.heap.size w w' := by
  obtain ⟨hg, hF, v0, hb, hq, hne, hown⟩ := hm
  rcases hq.2 with ⟨rfl, h0⟩ | ⟨h, off, cap, cur, rfl, _, hh, _, _, _, hr⟩
  · omega
  · exact rank_By g h off l.length cap p x w hb hn (by omega) hp hp1 (by rw [hb_cell hh]; exact hr _ _ (nl_get l _ x hx))
theorem rank_By_at_none (F : Nat → Prop) (g : Nat) (p : Int) (w : World) (hm : RankAt w F g []) :
    Calls Try.prog 30 #[.pointer (some ⟨g, 0, none⟩), .int .i64 p] w fun e w' => e = .returned (.tuple #[.int .i64 0, .bool false]) ∧ w' = w := by
  obtain ⟨hg, hF, v0, hb, hq, hne, hown⟩ := hm
  obtain ⟨A, cap, rfl, _⟩ := hq.form
  exact rank_By_none g A cap p w hb
end Go.Proofs.Ytfhhdlpglfjdgaa
/- Contracts of package window: terms, none, come, Clock. -/
set_option linter.unusedVariables false
set_option linter.unusedSimpArgs false
namespace Go.Proofs.Ytfhhdlpglfjdgaa
open Go.RowKit

/-- A window's terms: metric, aggregate, span, rank. -/
structure WT where
  m : Int
  a : Int
  s : Int
  p : Int
def WT.right (t : WT) : Bool := decide (0 ≤ t.m ∧ 1 ≤ t.a ∧ t.a ≤ 6 ∧ 1 ≤ t.s ∧ t.s ≤ 604800 ∧ ((t.a = 6 ∧ 1 ≤ t.p ∧ t.p ≤ 100000000) ∨ (t.a ≠ 6 ∧ t.p = 0)))
/-- The block of a window. -/
def WinBlk (w : World) (g : Nat) (ring : Value) (t : WT) (clock : Int) (begun : Bool) (s : Int) (best order : Value) : Prop :=
  w.heap[g]? = some (.cells #[ring, .int .i64 t.m, .int .i64 t.a, .int .i64 t.s, .int .i64 t.p, .int .i64 clock, .bool begun, .int .u64 (wLo s), .int .u64 (wHi s), best, order] 60 (0, 0))

set_option maxHeartbeats 1600000 in
theorem win_Right (t : WT) (w : World) : Calls Try.prog 9 #[.agg #[.int .i64 t.m, .int .i64 t.a, .int .i64 t.s, .int .i64 t.p]] w fun e w' => e = .returned (.bool t.right) ∧ Below w.heap.size w w' := by
  obtain ⟨m, a, s, p⟩ := t
  show Calls Try.prog 9 #[.agg #[.int .i64 m, .int .i64 a, .int .i64 s, .int .i64 p]] w _
  go_enter Try.func9, Try.ntmps9
  go_wp2
  all_goals go_ret
  all_goals refine ⟨ret_bool (Bool.eq_iff_iff.2 ?_), below1 _ _⟩
  all_goals simp only [WT.right, decide_eq_true_eq, beq_iff_eq, beq_eq_false_iff_ne, ne_eq, Bool.false_eq_true, false_iff] at *
  all_goals omega

theorem win_none_nil (w : World) : Calls Try.prog 22 #[.pointer none] w fun e w' => e = .returned (.bool true) ∧ w' = w := by
  go_enter Try.func22, Try.ntmps22
  go_wp2
  go_ret
  exact ⟨rfl, rfl⟩
theorem win_none (g : Nat) (ring : Option Addr) (w : World) (h : w.cell? ⟨g, 0, none⟩ = some (.pointer ring)) :
    Calls Try.prog 22 #[.pointer (some ⟨g, 0, none⟩)] w fun e w' => e = .returned (.bool (ring == none)) ∧ w' = w := by
  go_enter Try.func22, Try.ntmps22
  rcases ring with _ | r
  · go_wp2
    go_ret
    exact ⟨rfl, rfl⟩
  · go_wp2
    go_ret
    exact ⟨rfl, rfl⟩

theorem win_come_nil (t : Int) (w : World) : Calls Try.prog 23 #[.pointer none, .int .i64 t] w fun e w' => e = .returned (.int .i64 4) ∧ w' = w := by
  have h1 := win_none_nil
  have H1 := Lib.hid h1
  clear h1
  go_enter Try.func23, Try.ntmps23
  go_wp2_with fail
  refine (H1.out _).mono ?_
  rintro e w1 ⟨rfl, rfl⟩
  go_wp2
  go_ret
  exact ⟨rfl, rfl⟩
theorem win_come_zero (g : Nat) (t : Int) (w : World) (h : w.cell? ⟨g, 0, none⟩ = some (.pointer none)) : Calls Try.prog 23 #[.pointer (some ⟨g, 0, none⟩), .int .i64 t] w fun e w' => e = .returned (.int .i64 4) ∧ w' = w := by
  have h1 := fun w h => win_none g none w h
  have H1 := Lib.hid h1
  clear h1
  go_enter Try.func23, Try.ntmps23
  go_wp2_with fail
  refine (H1.out _ h).mono ?_
  rintro e w1 ⟨rfl, rfl⟩
  go_wp2
  go_ret
  exact ⟨rfl, rfl⟩
/-- Is a moment stale? -/
def stale (begun : Bool) (clock t : Int) : Bool := begun && decide (t < clock)
theorem win_come_stale (g r : Nat) (T : WT) (clock t s : Int) (best order : Value) (w : World) (h : WinBlk w g (.pointer (some ⟨r, 0, none⟩)) T clock true s best order) (ht : t < clock) :
    Calls Try.prog 23 #[.pointer (some ⟨g, 0, none⟩), .int .i64 t] w fun e w' => e = .returned (.int .i64 32) ∧ w' = w := by
  have h1 := fun w h => win_none g (some ⟨r, 0, none⟩) w h
  have H1 := Lib.hid h1
  have c0 := hb_cell h 0
  have c5 := hb_cell h 5
  have c6 := hb_cell h 6
  simp only [List.getElem?_toArray, List.getElem?_cons_zero, List.getElem?_cons_succ] at c0 c5 c6
  have hd : decide (t < clock) = true := by simpa using ht
  clear h1 h
  go_enter Try.func23, Try.ntmps23
  go_wp2_with fail
  refine (H1.out _ c0).mono ?_
  rintro e w1 ⟨rfl, rfl⟩
  go_wp2
  go_ret
  exact ⟨rfl, rfl⟩
theorem win_come_on (g r : Nat) (T : WT) (clock t s : Int) (begun : Bool) (best order : Value) (w : World) (h : WinBlk w g (.pointer (some ⟨r, 0, none⟩)) T clock begun s best order) (ht : stale begun clock t = false) :
    Calls Try.prog 23 #[.pointer (some ⟨g, 0, none⟩), .int .i64 t] w fun e w' => e = .returned (.int .i64 0) ∧ w' = (w.setCell ⟨g, 5, none⟩ (.int .i64 t)).setCell ⟨g, 6, none⟩ (.bool true) := by
  have h1 := fun w h => win_none g (some ⟨r, 0, none⟩) w h
  have H1 := Lib.hid h1
  have c0 := hb_cell h 0
  have c5 := hb_cell h 5
  have c6 := hb_cell h 6
  have f5 := hb_free h 5
  have f6 := hb_free h 6
  simp only [List.getElem?_toArray, List.getElem?_cons_zero, List.getElem?_cons_succ] at c0 c5 c6
  clear h1 h
  go_enter Try.func23, Try.ntmps23
  go_wp2_with fail
  refine (H1.out _ c0).mono ?_
  rintro e w1 ⟨rfl, rfl⟩
  cases begun
  · go_wp2
    go_ret
    exact ⟨rfl, rfl⟩
  · have hd : decide (t < clock) = false := by simpa [stale] using ht
    have hd1 : ¬ t < clock := by simpa [stale] using ht
    go_wp2
    go_ret
    exact ⟨rfl, rfl⟩
end Go.Proofs.Ytfhhdlpglfjdgaa
/- Plain laws for windows: the kept queue of mono, the rising list of rank. No program in sight. -/
set_option linter.unusedVariables false
set_option linter.unusedSimpArgs false
namespace Go.Proofs.Ytfhhdlpglfjdgaa

/-- What mono keeps of a queue, with numbers from i on. -/
def mq (high : Bool) : Int → List Int → List (Int × Int)
  | _, [] => []
  | i, v :: r => if r.all (fun y => mbeats high v y) then (v, i) :: mq high (i + 1) r else mq high (i + 1) r
theorem mbeats_trans {high : Bool} {a b c : Int} (h : mbeats high a b = true) (k : mbeats high b c = true) : mbeats high a c = true := by
  unfold mbeats at *
  cases high <;> simp at * <;> omega
theorem mq_idx (high : Bool) : ∀ (l : List Int) (i : Int) (x : Int × Int), x ∈ mq high i l → i ≤ x.2
  | [], _, _, h => by simp [mq] at h
  | v :: r, i, x, h => by
    rw [mq] at h
    split at h
    · rcases List.mem_cons.1 h with rfl | h
      · exact Int.le_refl _
      · have := mq_idx high r (i + 1) x h; omega
    · have := mq_idx high r (i + 1) x h; omega
theorem mq_mem (high : Bool) : ∀ (l : List Int) (i : Int) (x : Int × Int), x ∈ mq high i l → x.1 ∈ l
  | [], _, _, h => by simp [mq] at h
  | v :: r, i, x, h => by
    rw [mq] at h
    split at h
    · rcases List.mem_cons.1 h with rfl | h
      · exact List.mem_cons_self
      · exact List.mem_cons_of_mem _ (mq_mem high r (i + 1) x h)
    · exact List.mem_cons_of_mem _ (mq_mem high r (i + 1) x h)
theorem mq_ne (high : Bool) : ∀ (l : List Int) (i : Int), l ≠ [] → mq high i l ≠ []
  | [], _, h => absurd rfl h
  | [v], i, _ => by simp [mq]
  | v :: u :: r, i, _ => by
    rw [mq]
    split
    · simp
    · exact mq_ne high (u :: r) (i + 1) (by simp)
theorem mq_length (high : Bool) : ∀ (l : List Int) (i : Int), (mq high i l).length ≤ l.length
  | [], _ => Nat.le_refl _
  | v :: r, i => by
    rw [mq]
    have := mq_length high r (i + 1)
    split <;> simp <;> omega
theorem mq_take (high : Bool) (v : Int) (r : List Int) (i : Int) (x : Int × Int) (l : List (Int × Int)) (h : mq high i (v :: r) = x :: l) : (if x.2 = i then l else x :: l) = mq high (i + 1) r := by
  rw [mq] at h
  split at h
  · simp only [List.cons.injEq] at h
    obtain ⟨rfl, rfl⟩ := h
    rw [if_pos rfl]
  · have := mq_idx high r (i + 1) x (by rw [h]; exact List.mem_cons_self)
    rw [if_neg (by omega), h]
theorem mq_snoc (high : Bool) (v : Int) : ∀ (l : List Int) (i : Int), mq high i (l ++ [v]) = (mq high i l).filter (fun x => mbeats high x.1 v) ++ [(v, i + l.length)]
  | [], i => by simp [mq]
  | u :: r, i => by
    rw [List.cons_append, mq, mq, mq_snoc high v r (i + 1), List.all_append]
    simp only [List.all_cons, List.all_nil, Bool.and_true, List.length_cons]
    have e : i + 1 + (r.length : Int) = i + ((r.length + 1 : Nat) : Int) := by omega
    by_cases h1 : (r.all fun y => mbeats high u y) = true
    · by_cases h2 : mbeats high u v = true
      · simp [h1, h2, e]
      · simp [h1, h2, e]
    · simp [h1, e]
theorem mq_chain (high : Bool) : ∀ (l : List Int) (i : Int), (mq high i l).Pairwise (fun a b => mbeats high a.1 b.1 = true)
  | [], _ => List.Pairwise.nil
  | v :: r, i => by
    rw [mq]
    split
    · rename_i h
      refine List.Pairwise.cons (fun x hx => ?_) (mq_chain high r (i + 1))
      exact List.all_eq_true.1 h x.1 (mq_mem high r (i + 1) x hx)
    · exact mq_chain high r (i + 1)
theorem mcut_filter (high : Bool) (v : Int) (l : List (Int × Int)) (h : l.Pairwise (fun a b => mbeats high a.1 b.1 = true)) : ∀ n, n ≤ l.length → (l.take n).filter (fun x => mbeats high x.1 v) = l.take (mcut high v l n)
  | 0, _ => by simp [mcut]
  | n + 1, hn => by
    have hg : l[n]? = some (l[n]'(by omega)) := List.getElem?_eq_getElem (by omega)
    have hd : l.getD n (0, 0) = l[n]'(by omega) := by simp [List.getD, hg]
    rw [mcut, hd]
    by_cases hb : mbeats high (l[n]'(by omega)).1 v = true
    · rw [if_pos hb, List.filter_eq_self]
      intro x hx
      obtain ⟨j, hj, rfl⟩ := List.mem_iff_getElem.1 hx
      rw [List.getElem_take]
      simp at hj
      rcases Nat.lt_or_ge j n with hlt | hge
      · exact mbeats_trans (List.pairwise_iff_getElem.1 h j n (by omega) (by omega) hlt) hb
      · obtain rfl : j = n := by omega
        exact hb
    · rw [if_neg hb, List.take_add_one, hg, List.filter_append, mcut_filter high v l h n (by omega)]
      simp [hb]
theorem mq_put (high : Bool) (v : Int) (l : List Int) (i : Int) : (mq high i l).take (mcut high v (mq high i l) (mq high i l).length) ++ [(v, i + l.length)] = mq high i (l ++ [v]) := by
  rw [mq_snoc, ← mcut_filter high v _ (mq_chain high l i) _ (Nat.le_refl _), List.take_length]
/-- The best of a queue: the first of what is kept. -/
def mbest (high : Bool) (l : List Int) : Int := ((mq high 0 l).map Prod.fst).headD 0
theorem mq_fst (high : Bool) : ∀ (l : List Int) (i j : Int), (mq high i l).map Prod.fst = (mq high j l).map Prod.fst
  | [], _, _ => rfl
  | v :: r, i, j => by
    rw [mq, mq]
    split
    · simp [mq_fst high r (i + 1) (j + 1)]
    · exact mq_fst high r (i + 1) (j + 1)

/-! The rising list. -/
theorem insI_perm (l : List Int) (i : Nat) (v : Int) : (insI l i v).Perm (l ++ [v]) := by
  unfold insI
  have h1 : (l.take i ++ v :: l.drop i).Perm (v :: (l.take i ++ l.drop i)) := List.perm_middle
  rw [List.take_append_drop] at h1
  exact h1.trans (List.perm_append_singleton v l).symm
theorem delI_perm (l : List Int) (i : Nat) (v : Int) (h : l[i]? = some v) : l.Perm (v :: delI l i) := by
  unfold delI
  obtain ⟨hi, rfl⟩ := List.getElem?_eq_some_iff.1 h
  have h1 : (l.take i ++ l[i] :: l.drop (i + 1)).Perm (l[i] :: (l.take i ++ l.drop (i + 1))) := List.perm_middle
  rw [← List.drop_eq_getElem_cons hi, List.take_append_drop] at h1
  exact h1
theorem Rise.pair {l : List Int} : Rise l ↔ l.Pairwise (· ≤ ·) := by
  rw [List.pairwise_iff_getElem]
  constructor
  · intro h i j hi hj hij
    exact h i j _ _ (Nat.le_of_lt hij) (List.getElem?_eq_getElem hi) (List.getElem?_eq_getElem hj)
  · intro h i j x y hij hx hy
    obtain ⟨hi, rfl⟩ := List.getElem?_eq_some_iff.1 hx
    obtain ⟨hj, rfl⟩ := List.getElem?_eq_some_iff.1 hy
    rcases Nat.lt_or_eq_of_le hij with h1 | rfl
    · exact h i j hi hj h1
    · exact Int.le_refl _
theorem Rise.ins {l : List Int} (h : Rise l) (v : Int) : Rise (insI l (lb l v) v) := by
  rw [Rise.pair]
  have hp := Rise.pair.1 h
  unfold insI
  rw [List.pairwise_append]
  refine ⟨hp.sublist (List.take_sublist _ _), ?_, ?_⟩
  · refine List.Pairwise.cons (fun x hx => ?_) (hp.sublist (List.drop_sublist _ _))
    obtain ⟨j, hj, rfl⟩ := List.mem_iff_getElem.1 hx
    rw [List.getElem_drop]
    have := lb_iff l v h (lb l v + j) _ (List.getElem?_eq_getElem (by simp at hj; omega))
    omega
  · intro x hx y hy
    obtain ⟨i, hi, rfl⟩ := List.mem_iff_getElem.1 hx
    rw [List.getElem_take]
    simp at hi
    have h1 := (lb_iff l v h i _ (List.getElem?_eq_getElem (by omega))).2 (by omega)
    rcases List.mem_cons.1 hy with rfl | hy
    · omega
    · obtain ⟨j, hj, rfl⟩ := List.mem_iff_getElem.1 hy
      rw [List.getElem_drop]
      have := lb_iff l v h (lb l v + j) _ (List.getElem?_eq_getElem (by simp at hj; omega))
      omega
theorem Rise.del {l : List Int} (h : Rise l) (i : Nat) : Rise (delI l i) := by
  rw [Rise.pair] at *
  refine h.sublist ?_
  unfold delI
  have := (List.Sublist.refl (l.take i)).append ((List.drop_sublist 1 (l.drop i)))
  rw [List.take_append_drop, List.drop_drop] at this
  exact this
theorem Rise.found {l : List Int} (h : Rise l) (v : Int) (hv : v ∈ l) : l[lb l v]? = some v := by
  obtain ⟨i, hi, rfl⟩ := List.mem_iff_getElem.1 hv
  have h1 : ¬ i < lb l l[i] := fun h1 => by
    have := (lb_iff l _ h i _ (List.getElem?_eq_getElem hi)).2 h1
    omega
  have h2 : lb l l[i] < l.length := by omega
  rw [List.getElem?_eq_getElem h2]
  have h3 := lb_iff l l[i] h (lb l l[i]) _ (List.getElem?_eq_getElem h2)
  have h4 := h (lb l l[i]) i _ _ (by omega) (List.getElem?_eq_getElem h2) (List.getElem?_eq_getElem hi)
  congr 1
  omega
end Go.Proofs.Ytfhhdlpglfjdgaa
/- Contracts of package window: what is worked out of the samples; gone. -/
set_option linter.unusedVariables false
set_option linter.unusedSimpArgs false
namespace Go.Proofs.Ytfhhdlpglfjdgaa
open Go.RowKit

/-- The mono of a window, or none. -/
def MonoSt (w : World) (F : Nat → Prop) (a N : Int) (v : Value) (l : List Int) : Prop :=
  ((a = 3 ∨ a = 4) ∧ ∃ b come, v = .pointer (some ⟨b, 0, none⟩) ∧ MonoAt w F b (decide (a = 4)) come (come - l.length) (mq (decide (a = 4)) (come - l.length) l) ∧ (l.length : Int) ≤ come ∧ come ≤ N) ∨
  (¬ (a = 3 ∨ a = 4) ∧ v = .pointer none ∧ ∀ k, ¬ F k)
/-- The rank of a window, or none. -/
def RankSt (w : World) (F : Nat → Prop) (a : Int) (v : Value) (l : List Int) : Prop :=
  (a = 6 ∧ ∃ b L, v = .pointer (some ⟨b, 0, none⟩) ∧ RankAt w F b L ∧ Rise L ∧ L.Perm l) ∨
  (¬ a = 6 ∧ v = .pointer none ∧ ∀ k, ¬ F k)
theorem MonoSt.keep {w w' : World} {F : Nat → Prop} {a N : Int} {v : Value} {l : List Int} (h : MonoSt w F a N v l) (hk : ∀ k, F k → w'.heap[k]? = w.heap[k]?) (hs : w.heap.size ≤ w'.heap.size) : MonoSt w' F a N v l := by
  rcases h with ⟨ha, b, come, hv, hm, h1⟩ | h
  · exact .inl ⟨ha, b, come, hv, hm.keep hk hs, h1⟩
  · exact .inr h
theorem RankSt.keep {w w' : World} {F : Nat → Prop} {a : Int} {v : Value} {l : List Int} (h : RankSt w F a v l) (hk : ∀ k, F k → w'.heap[k]? = w.heap[k]?) (hs : w.heap.size ≤ w'.heap.size) : RankSt w' F a v l := by
  rcases h with ⟨ha, b, L, hv, hm, h1⟩ | h
  · exact .inl ⟨ha, b, L, hv, hm.keep hk hs, h1⟩
  · exact .inr h
theorem MonoSt.lt {w : World} {F : Nat → Prop} {a N : Int} {v : Value} {l : List Int} (h : MonoSt w F a N v l) : ∀ k, F k → k < w.heap.size := by
  rcases h with ⟨ha, b, come, hv, hm, h1⟩ | ⟨_, _, h⟩
  · exact hm.2.1
  · exact fun k hk => absurd hk (h k)
theorem RankSt.lt {w : World} {F : Nat → Prop} {a : Int} {v : Value} {l : List Int} (h : RankSt w F a v l) : ∀ k, F k → k < w.heap.size := by
  rcases h with ⟨ha, b, L, hv, hm, h1⟩ | ⟨_, _, h⟩
  · exact hm.2.1
  · exact fun k hk => absurd hk (h k)

theorem mono_Take_st (F : Nat → Prop) (a N x : Int) (v : Value) (l : List Int) (w : World) (hm : MonoSt w F a N v (x :: l)) (hN : N ≤ 4611686018427387904) :
    Calls Try.prog 55 #[v] w fun e w' => (∃ b, e = .returned (.bool b)) ∧ Fr F w w' ∧ MonoSt w' F a N v l := by
  rcases hm with ⟨ha, b, come, rfl, hm, h1, h2⟩ | ⟨ha, rfl, hF⟩
  · obtain ⟨y, r, hy⟩ := List.exists_cons_of_ne_nil (mq_ne (decide (a = 4)) (x :: l) (come - (x :: l).length) (by simp))
    rw [hy] at hm
    simp only [List.length_cons] at h1 hm hy
    refine (mono_Take_at F b _ come _ y r w hm (by omega) (by omega) (by omega)).mono ?_
    rintro e w' ⟨rfl, hf, hm'⟩
    rw [mq_take _ _ _ _ _ _ hy, show come - ((l.length + 1 : Nat) : Int) + 1 = come - l.length by omega] at hm'
    exact ⟨⟨_, rfl⟩, hf, .inl ⟨ha, b, come, rfl, hm', by omega, h2⟩⟩
  · refine (mono_Take_nil w).mono ?_
    rintro e w' ⟨rfl, rfl⟩
    exact ⟨⟨_, rfl⟩, Fr.refl _ _, .inr ⟨ha, rfl, hF⟩⟩
theorem mono_Put_st (F : Nat → Prop) (a N x : Int) (v : Value) (l : List Int) (w : World) (hm : MonoSt w F a N v l) (hN : N ≤ 4611686018427387904) (hl : l.length ≤ 4096) :
    Calls Try.prog 36 #[v, .int .i64 x] w fun e w' => e = .returned (.tuple #[]) ∧ Fr F w w' ∧ ∃ F', Ext F F' w w' ∧ MonoSt w' F' a (N + 1) v (l ++ [x]) := by
  rcases hm with ⟨ha, b, come, rfl, hm, h1, h2⟩ | ⟨ha, rfl, hF⟩
  · have h3 := mq_length (decide (a = 4)) l (come - l.length)
    refine (mono_Put_at F b _ come _ x _ w hm (by omega) (by omega) (by omega)).mono ?_
    rintro e w' ⟨rfl, F', hE, hf, hm'⟩
    have e1 := mq_put (decide (a = 4)) x l (come - l.length)
    rw [show come - (l.length : Int) + l.length = come by omega] at e1
    rw [e1] at hm'
    have e2 : come - (l.length : Int) = (come + 1) - ((l ++ [x]).length : Nat) := by simp; omega
    rw [e2] at hm'
    exact ⟨rfl, hf, F', hE, .inl ⟨ha, b, come + 1, rfl, hm', by simp; omega, by omega⟩⟩
  · refine (mono_Put_nil x w).mono ?_
    rintro e w' ⟨rfl, rfl⟩
    exact ⟨rfl, Fr.refl _ _, F, Ext.refl _ _ _, .inr ⟨ha, rfl, hF⟩⟩
theorem rank_Take_st (F : Nat → Prop) (a x : Int) (v : Value) (l : List Int) (w : World) (hm : RankSt w F a v (x :: l)) (hl : l.length ≤ 4096) :
    Calls Try.prog 56 #[v, .int .i64 x] w fun e w' => (∃ b, e = .returned (.bool b)) ∧ Fr F w w' ∧ ∃ F', Ext F F' w w' ∧ RankSt w' F' a v l := by
  rcases hm with ⟨ha, b, L, rfl, hm, hr, hp⟩ | ⟨ha, rfl, hF⟩
  · have hlen := hp.length_eq
    simp only [List.length_cons] at hlen
    have hx := hr.found x (hp.mem_iff.2 List.mem_cons_self)
    refine (rank_Take_at F b x L w hm hr (by omega) hx).mono ?_
    rintro e w' ⟨rfl, F', hE, hf, hm'⟩
    exact ⟨⟨_, rfl⟩, hf, F', hE, .inl ⟨ha, b, _, rfl, hm', hr.del _, List.Perm.cons_inv ((delI_perm L _ x hx).symm.trans hp)⟩⟩
  · refine (rank_Take_nil x w).mono ?_
    rintro e w' ⟨rfl, rfl⟩
    exact ⟨⟨_, rfl⟩, Fr.refl _ _, F, Ext.refl _ _ _, .inr ⟨ha, rfl, hF⟩⟩
theorem rank_Put_st (F : Nat → Prop) (a x : Int) (v : Value) (l : List Int) (w : World) (hm : RankSt w F a v l) (hl : l.length ≤ 4096) :
    Calls Try.prog 37 #[v, .int .i64 x] w fun e w' => e = .returned (.tuple #[]) ∧ Fr F w w' ∧ ∃ F', Ext F F' w w' ∧ RankSt w' F' a v (l ++ [x]) := by
  rcases hm with ⟨ha, b, L, rfl, hm, hr, hp⟩ | ⟨ha, rfl, hF⟩
  · have hlen := hp.length_eq
    refine (rank_Put_at F b x L w hm hr (by omega)).mono ?_
    rintro e w' ⟨rfl, F', hE, hf, hm'⟩
    exact ⟨rfl, hf, F', hE, .inl ⟨ha, b, _, rfl, hm', hr.ins _, (insI_perm L _ x).trans (hp.append_right _)⟩⟩
  · refine (rank_Put_nil x w).mono ?_
    rintro e w' ⟨rfl, rfl⟩
    exact ⟨rfl, Fr.refl _ _, F, Ext.refl _ _ _, .inr ⟨ha, rfl, hF⟩⟩

/-- The sum. -/
def sumI (l : List Int) : Int := l.foldr (· + ·) 0
theorem sumI_snoc (l : List Int) (x : Int) : sumI (l ++ [x]) = sumI l + x := by
  induction l with
  | nil => simp [sumI]
  | cons a l ih => simp only [sumI, List.cons_append, List.foldr_cons] at *; omega
/-- A window but for its ring: s its sum, l what mono holds, m what rank holds. -/
def WinRest (w : World) (F : Nat → Prop) (g r : Nat) (T : WT) (clock : Int) (begun : Bool) (N s : Int) (l m : List Int) : Prop :=
  ∃ best order F2 F3, WinBlk w g (.pointer (some ⟨r, 0, none⟩)) T clock begun s best order ∧ MonoSt w F2 T.a N best l ∧ RankSt w F3 T.a order m ∧
    ¬ F2 g ∧ ¬ F3 g ∧ (∀ k, F2 k → ¬ F3 k) ∧ ∀ k, F k ↔ k = g ∨ F2 k ∨ F3 k
theorem WinRest.lt {w : World} {F : Nat → Prop} {g r : Nat} {T : WT} {clock : Int} {begun : Bool} {N s : Int} {l m : List Int} (h : WinRest w F g r T clock begun N s l m) : ∀ k, F k → k < w.heap.size := by
  obtain ⟨best, order, F2, F3, h1, h2, h3, h4, h5, h6, h7⟩ := h
  intro k hk
  rcases (h7 k).1 hk with rfl | hk | hk
  · exact hb_lt h1
  · exact h2.lt k hk
  · exact h3.lt k hk
theorem WinRest.keep {w w' : World} {F : Nat → Prop} {g r : Nat} {T : WT} {clock : Int} {begun : Bool} {N s : Int} {l m : List Int} (h : WinRest w F g r T clock begun N s l m) (hk : ∀ k, F k → w'.heap[k]? = w.heap[k]?) (hs : w.heap.size ≤ w'.heap.size) : WinRest w' F g r T clock begun N s l m := by
  obtain ⟨best, order, F2, F3, h1, h2, h3, h4, h5, h6, h7⟩ := h
  exact ⟨best, order, F2, F3, (hk g ((h7 g).2 (.inl rfl))).trans h1, h2.keep (fun k hk' => hk k ((h7 k).2 (.inr (.inl hk')))) hs, h3.keep (fun k hk' => hk k ((h7 k).2 (.inr (.inr hk')))) hs, h4, h5, h6, h7⟩
end Go.Proofs.Ytfhhdlpglfjdgaa
/- Contracts of package window: gone. -/
set_option linter.unusedVariables false
set_option linter.unusedSimpArgs false
namespace Go.Proofs.Ytfhhdlpglfjdgaa
open Go.RowKit

theorem WinBlk.wide {w : World} {g : Nat} {ring : Value} {T : WT} {clock : Int} {begun : Bool} {s : Int} {best order : Value} (h : WinBlk w g ring T clock begun s best order) : WideAt w g 7 s :=
  ⟨hb_cell h 7, hb_cell h 8, hb_free h 7, hb_free h 8⟩
theorem WinRest.wide {w : World} {F : Nat → Prop} {g r : Nat} {T : WT} {clock : Int} {begun : Bool} {N s : Int} {l m : List Int} (h : WinRest w F g r T clock begun N s l m) : WideAt w g 7 s := by
  obtain ⟨_, _, _, _, h, _⟩ := h
  exact h.wide
theorem WinRest.sum {w w' : World} {F : Nat → Prop} {g r : Nat} {T : WT} {clock : Int} {begun : Bool} {N s s' : Int} {l m : List Int} (h : WinRest w F g r T clock begun N s l m) (hw : WideTurned w w' g 7 s') :
    Fr F w w' ∧ WinRest w' F g r T clock begun N s' l m := by
  have hF := h.lt
  obtain ⟨best, order, F2, F3, h1, h2, h3, h4, h5, h6, h7⟩ := h
  obtain ⟨w1, hb, rfl⟩ := hw
  have hg := (h7 g).2 (.inl rfl)
  have hfr : Fr F w ((w1.setCell ⟨g, 7, none⟩ (.int .u64 (wLo s'))).setCell ⟨g, 7 + 1, none⟩ (.int .u64 (wHi s'))) := ((Fr.ofBelow hb).setCell (p := ⟨g, 7, none⟩) (.inl hg) _).setCell (p := ⟨g, 7 + 1, none⟩) (.inl hg) _
  have key : ∀ k, k < w.heap.size → k ≠ g → ((w1.setCell ⟨g, 7, none⟩ (.int .u64 (wLo s'))).setCell ⟨g, 7 + 1, none⟩ (.int .u64 (wHi s'))).heap[k]? = w.heap[k]? := by
    intro k hk hne
    rw [Below.heap_setCell _ _ _ _ (by exact hne), Below.heap_setCell _ _ _ _ (by exact hne)]
    exact hb.block k hk
  refine ⟨hfr, best, order, F2, F3, ?_, h2.keep (fun k hk => key k (h2.lt k hk) (by rintro rfl; exact h4 hk)) hfr.size, h3.keep (fun k hk => key k (h3.lt k hk) (by rintro rfl; exact h5 hk)) hfr.size, h4, h5, h6, h7⟩
  simpa [WinBlk] using hb_set (hb_set (hb_below' h1 hb) 7 (.int .u64 (wLo s'))) (7 + 1) (.int .u64 (wHi s'))
theorem WinRest.best {w : World} {F : Nat → Prop} {g r : Nat} {T : WT} {clock : Int} {begun : Bool} {N s : Int} {l m : List Int} (h : WinRest w F g r T clock begun N s l m) :
    ∃ best F2, w.cell? ⟨g, 9, none⟩ = some best ∧ MonoSt w F2 T.a N best l ∧
      ∀ (w' : World) (F2' : Nat → Prop) (N' : Int) (l' : List Int), Fr F2 w w' → Ext F2 F2' w w' → MonoSt w' F2' T.a N' best l' → Fr F w w' ∧ ∃ F', Ext F F' w w' ∧ WinRest w' F' g r T clock begun N' s l' m := by
  obtain ⟨best, order, F2, F3, h1, h2, h3, h4, h5, h6, h7⟩ := h
  refine ⟨best, F2, hb_cell h1 9, h2, fun w' F2' N' l' hf he hm => ⟨hf.mono (fun k hk => (h7 k).2 (.inr (.inl hk))), fun k => k = g ∨ F2' k ∨ F3 k, ?_, best, order, F2', F3, hf.blk h1 h4, hm, h3.keep (fun k hk => hf.block k (h3.lt k hk) (fun h => h6 k h hk)) hf.size, ?_, h5, ?_, fun k => Iff.rfl⟩⟩
  · rintro k (rfl | hk | hk)
    · exact .inl ((h7 k).2 (.inl rfl))
    · exact (he k hk).imp (fun h => (h7 k).2 (.inr (.inl h))) id
    · exact .inl ((h7 k).2 (.inr (.inr hk)))
  · intro hk
    rcases he g hk with h | h
    · exact h4 h
    · have := hb_lt h1; omega
  · intro k hk hk3
    rcases he k hk with h | h
    · exact h6 k h hk3
    · have := h3.lt k hk3; omega
theorem WinRest.order {w : World} {F : Nat → Prop} {g r : Nat} {T : WT} {clock : Int} {begun : Bool} {N s : Int} {l m : List Int} (h : WinRest w F g r T clock begun N s l m) :
    ∃ order F3, w.cell? ⟨g, 10, none⟩ = some order ∧ RankSt w F3 T.a order m ∧
      ∀ (w' : World) (F3' : Nat → Prop) (m' : List Int), Fr F3 w w' → Ext F3 F3' w w' → RankSt w' F3' T.a order m' → Fr F w w' ∧ ∃ F', Ext F F' w w' ∧ WinRest w' F' g r T clock begun N s l m' := by
  obtain ⟨best, order, F2, F3, h1, h2, h3, h4, h5, h6, h7⟩ := h
  refine ⟨order, F3, hb_cell h1 10, h3, fun w' F3' m' hf he hm => ⟨hf.mono (fun k hk => (h7 k).2 (.inr (.inr hk))), fun k => k = g ∨ F2 k ∨ F3' k, ?_, best, order, F2, F3', hf.blk h1 h5, h2.keep (fun k hk => hf.block k (h2.lt k hk) (fun h => h6 k hk h)) hf.size, hm, h4, ?_, ?_, fun k => Iff.rfl⟩⟩
  · rintro k (rfl | hk | hk)
    · exact .inl ((h7 k).2 (.inl rfl))
    · exact .inl ((h7 k).2 (.inr (.inl hk)))
    · exact (he k hk).imp (fun h => (h7 k).2 (.inr (.inr h))) id
  · intro hk
    rcases he g hk with h | h
    · exact h5 h
    · have := hb_lt h1; omega
  · intro k hk hk3
    rcases he k hk3 with h | h
    · exact h6 k hk h
    · have := h2.lt k hk; omega

set_option maxRecDepth 100000 in
set_option maxHeartbeats 1600000 in
theorem win_gone (F : Nat → Prop) (g r : Nat) (T : WT) (clock N s t x : Int) (begun : Bool) (l m : List Int) (w : World) (hr : WinRest w F g r T clock begun N s (x :: l) (x :: m)) (hN : N ≤ 4611686018427387904) (hm : m.length ≤ 4096) (hx : I64 x) :
    Calls Try.prog 34 #[.pointer (some ⟨g, 0, none⟩), .agg #[.int .i64 t, .int .i64 x]] w fun e w' => e = .returned (.tuple #[]) ∧ Fr F w w' ∧ ∃ F', Ext F F' w w' ∧ WinRest w' F' g r T clock begun N (s - x) l m := by
  have HR := Lib.hid hr
  have Hx := Lib.hid hx
  have HN := Lib.hid hN
  have Hm := Lib.hid hm
  have hg : g < w.heap.size := hr.lt g (by obtain ⟨_, _, _, _, _, _, _, _, _, _, h⟩ := hr; exact (h g).2 (.inl rfl))
  clear hr hx hN hm
  go_enter Try.func34, Try.ntmps34
  go_wp2_with fail
  refine wp_region_tail 5 (by kernel_rfl) (by kernel_rfl) (fun W HW => ?_)
  have s0 := drew_blk HW (hb_new w (.cells #[.int .i64 t, .int .i64 x] 50))
  obtain ⟨_, v1, _, _⟩ := hb2 s0
  have hBW : Below w.heap.size w W := by rw [HW.out]; exact (below1 _ _).drew
  have hW : WinRest W F g r T clock begun N s (x :: l) (x :: m) := HR.out.keep (fun k hk => hBW.block k (HR.out.lt k hk)) hBW.size
  have HS := Lib.hid s0
  have HWR := Lib.hid hW
  have HB := Lib.hid hBW
  clear s0 hBW hW
  simp only [List.take_succ_cons, List.take_zero, List.drop_succ_cons, List.drop_zero]
  repeat still_step
  refine wpStill_nil ?_
  go_wp2_with fail
  clear v1
  refine (wide_Take g 7 s x W HWR.out.wide Hx.out).mono ?_
  rintro e w2 ⟨rfl, hwt⟩
  obtain ⟨hf2, hr2⟩ := HWR.out.sum hwt
  have hnF : ¬ F w.heap.size := fun h => Nat.lt_irrefl _ (HR.out.lt _ h)
  have s2 := hf2.blk HS.out hnF
  obtain ⟨best, F2, c9, hm2, hstep⟩ := hr2.best
  have HF2 := Lib.hid hf2
  have HR2 := Lib.hid hr2
  have HS2 := Lib.hid s2
  have HM2 := Lib.hid hm2
  have Hstep := Lib.hid hstep
  have HnF := Lib.hid hnF
  clear hwt hf2 hr2 s2 hm2 hstep hnF
  go_wp2_with fail
  refine (mono_Take_st F2 T.a N x best l w2 HM2.out HN.out).mono ?_
  rintro e w3 ⟨⟨b3, rfl⟩, hf3, hm3⟩
  obtain ⟨hF3, F', hE3, hr3⟩ := Hstep.out w3 F2 N l hf3 (Ext.refl _ _ _) hm3
  have s3 := hF3.blk HS2.out HnF.out
  have HF3 := Lib.hid hF3
  have HE3 := Lib.hid hE3
  have HR3 := Lib.hid hr3
  have HS3 := Lib.hid s3
  clear c9 hf3 hm3 hF3 hE3 hr3 s3
  go_wp2_with fail
  refine wp_region_tail 6 (by kernel_rfl) (by kernel_rfl) (fun W3 HW3 => ?_)
  have s4 := drew_blk HW3 HS3.out
  obtain ⟨_, v1, _, _⟩ := hb2 s4
  have hr4 : WinRest W3 F' g r T clock begun N (s - x) l (x :: m) := HR3.out.keep (fun k _ => by rw [HW3.out]; rfl) (by rw [HW3.out]; exact Nat.le_refl _)
  obtain ⟨order, F3, c10, hm4, hstep⟩ := hr4.order
  have HM4 := Lib.hid hm4
  have Hstep4 := Lib.hid hstep
  clear s4 hr4 hm4 hstep
  simp only [List.take_succ_cons, List.take_zero, List.drop_succ_cons, List.drop_zero]
  repeat still_step
  refine wpStill_nil ?_
  go_wp2_with fail
  refine (rank_Take_st F3 T.a x order m W3 HM4.out Hm.out).mono ?_
  rintro e w5 ⟨⟨b5, rfl⟩, hf5, F3', hE5, hm5⟩
  obtain ⟨hF5, F'', hE5', hr5⟩ := Hstep4.out w5 F3' m hf5 hE5 hm5
  go_wp2_with fail
  have h0 : Fr F w W := Fr.ofBelow HB.out
  have h1 : Fr F w w2 := h0.trans HF2.out (Ext.refl _ _ _)
  have h2 : Fr F w w3 := h1.trans HF3.out (Ext.refl _ _ _)
  have e2 : Ext F F' w w3 := by
    intro k hk
    exact (HE3.out k hk).imp id (fun h => ⟨Nat.le_trans h1.size h.1, h.2⟩)
  have h3 : Fr F w W3 := by rw [HW3.out]; exact h2.drewN 1
  have e3 : Ext F F' w W3 := by rw [HW3.out]; exact e2
  exact bodyPost_end (v := .tuple #[]) (results_none rfl _ _ _) rfl ⟨rfl, h3.trans hF5 e3, F'', e3.trans hE5' h3.size hF5.size, hr5⟩
end Go.Proofs.Ytfhhdlpglfjdgaa
/- Contracts of package window: Put. -/
set_option linter.unusedVariables false
set_option linter.unusedSimpArgs false
namespace Go.Proofs.Ytfhhdlpglfjdgaa
open Go.RowKit

def pushOld (l : List (Int × Int)) : Int × Int := if l.length = 4096 then l.headD (0, 0) else (0, 0)
def pushL (l : List (Int × Int)) (x : Int × Int) : List (Int × Int) := if l.length = 4096 then l.tail ++ [x] else l ++ [x]
def isFull (l : List (Int × Int)) : Bool := decide (l.length = 4096)
theorem ring_Push_at (F : Nat → Prop) (g : Nat) (l : List (Int × Int)) (x : Int × Int) (w : World) (hr : RingAt w F g l) :
    Calls Try.prog 33 #[.pointer (some ⟨g, 0, none⟩), .agg #[.int .i64 x.1, .int .i64 x.2]] w fun e w' => e = .returned (.tuple #[.agg #[.int .i64 (pushOld l).1, .int .i64 (pushOld l).2], .bool (isFull l)]) ∧ Fr F w w' ∧ ∃ F', Ext F F' w w' ∧ RingAt w' F' g (pushL l x) := by
  by_cases h : l.length = 4096
  · obtain ⟨y, r, rfl⟩ := List.exists_cons_of_ne_nil (l := l) (by rintro rfl; simp at h)
    have e1 : pushOld (y :: r) = y := by unfold pushOld; rw [if_pos h]; rfl
    have e2 : pushL (y :: r) x = r ++ [x] := by unfold pushL; rw [if_pos h]; rfl
    have e3 : isFull (y :: r) = true := by unfold isFull; simpa using h
    rw [e1, e2, e3]
    exact ring_Push_full F g y r x w hr h
  · have e1 : pushOld l = (0, 0) := by unfold pushOld; rw [if_neg h]
    have e2 : pushL l x = l ++ [x] := by unfold pushL; rw [if_neg h]
    have e3 : isFull l = false := by unfold isFull; simpa using h
    rw [e1, e2, e3]
    exact ring_Push_more F g l x w hr (by have := hr.len; omega)

theorem WinRest.at {w : World} {F : Nat → Prop} {g r : Nat} {T : WT} {clock : Int} {begun : Bool} {N s : Int} {l m : List Int} (h : WinRest w F g r T clock begun N s l m) : F g ∧ ∃ best order, WinBlk w g (.pointer (some ⟨r, 0, none⟩)) T clock begun s best order := by
  obtain ⟨best, order, F2, F3, h1, h2, h3, h4, h5, h6, h7⟩ := h
  exact ⟨(h7 g).2 (.inl rfl), best, order, h1⟩
theorem WinRest.clock {w : World} {F : Nat → Prop} {g r : Nat} {T : WT} {clock : Int} {begun : Bool} {N s : Int} {l m : List Int} (h : WinRest w F g r T clock begun N s l m) (t : Int) :
    WinRest ((w.setCell ⟨g, 5, none⟩ (.int .i64 t)).setCell ⟨g, 6, none⟩ (.bool true)) F g r T t true N s l m := by
  obtain ⟨best, order, F2, F3, h1, h2, h3, h4, h5, h6, h7⟩ := h
  have key : ∀ k, k ≠ g → ((w.setCell ⟨g, 5, none⟩ (.int .i64 t)).setCell ⟨g, 6, none⟩ (.bool true)).heap[k]? = w.heap[k]? := by
    intro k hne
    rw [Below.heap_setCell _ _ _ _ (by exact hne), Below.heap_setCell _ _ _ _ (by exact hne)]
  refine ⟨best, order, F2, F3, ?_, h2.keep (fun k hk => key k (by rintro rfl; exact h4 hk)) (by simp only [sz_set]; exact Nat.le_refl _), h3.keep (fun k hk => key k (by rintro rfl; exact h5 hk)) (by simp only [sz_set]; exact Nat.le_refl _), h4, h5, h6, h7⟩
  simpa [WinBlk] using hb_set (hb_set h1 5 (.int .i64 t)) 6 (.bool true)
theorem win_come_st (F : Nat → Prop) (g r : Nat) (T : WT) (clock N s t : Int) (begun : Bool) (l m : List Int) (w : World) (hr : WinRest w F g r T clock begun N s l m) (ht : stale begun clock t = false) :
    Calls Try.prog 23 #[.pointer (some ⟨g, 0, none⟩), .int .i64 t] w fun e w' => e = .returned (.int .i64 0) ∧ Fr (fun k => k = g) w w' ∧ WinRest w' F g r T t true N s l m := by
  obtain ⟨hg, best, order, hb⟩ := hr.at
  refine (win_come_on g r T clock t s begun best order w hb ht).mono ?_
  rintro e w' ⟨rfl, rfl⟩
  exact ⟨rfl, ((Fr.refl (fun k => k = g) w).setCell (p := ⟨g, 5, none⟩) (.inl rfl) _).setCell (p := ⟨g, 6, none⟩) (.inl rfl) _, hr.clock t⟩

theorem hb_new' (w : World) (o : Obj) : (w.alloc o).drew.heap[w.heap.size]? = some o := hb_new w o
/-- A window. -/
def vals (l : List (Int × Int)) : List Int := l.map Prod.snd
def WinAt (w : World) (F : Nat → Prop) (g : Nat) (T : WT) (clock : Int) (begun : Bool) (N : Int) (l : List (Int × Int)) : Prop :=
  ∃ r F1 F0, RingAt w F1 r l ∧ WinRest w F0 g r T clock begun N (sumI (vals l)) (vals l) (vals l) ∧ (∀ k, F1 k → ¬ F0 k) ∧ (∀ k, F k ↔ F1 k ∨ F0 k) ∧ ∀ x ∈ l, I64 x.1 ∧ I64 x.2

/-- Behind the ring's Push: the oldest one, boxed. -/
def PutCut (F1 : Nat → Prop) (w1 : World) (r : Nat) (l : List (Int × Int)) (x : Int × Int) (o b : Value) (wx : World) : Prop :=
  ∃ (ob : Nat) (F1' : Nat → Prop), o = .pointer (some ⟨ob, 0, none⟩) ∧ b = .bool (isFull l) ∧ w1.heap.size ≤ ob ∧ wx.heap[ob]? = some (.cells #[.int .i64 (pushOld l).1, .int .i64 (pushOld l).2] 50 (0, 0)) ∧ Fr F1 w1 wx ∧ Ext F1 F1' w1 wx ∧ ¬ F1' ob ∧ RingAt wx F1' r (pushL l x)
theorem PutCut.late {F1 F1' : Nat → Prop} {w1 w2 : World} {r : Nat} {l : List (Int × Int)} {x : Int × Int} (hf : Fr F1 w1.drew w2) (hE : Ext F1 F1' w1.drew w2) (hr : RingAt w2 F1' r (pushL l x)) :
    PutCut F1 w1 r l x (.pointer (some ⟨w2.heap.size, 0, none⟩)) (.bool (isFull l)) (w2.alloc (.cells #[.int .i64 (pushOld l).1, .int .i64 (pushOld l).2] 50)) := by
  have h0 : Fr F1 w1 w1.drew := (Fr.refl F1 w1).drewN 1
  have hF : Fr F1 w1 w2 := h0.trans hf (Ext.refl _ _ _)
  refine ⟨_, F1', rfl, rfl, hF.size, hb_new _ _, hF.trans (Fr.ofBelow (F := F1) (below1 w2 _)) (Ext.refl _ _ _), ?_, fun h => Nat.lt_irrefl _ (hr.2.1 _ h), hr.keep (fun k hk => (below1 w2 _).block k (hr.2.1 k hk)) (below1 w2 _).size⟩
  intro k hk
  exact (hE k hk).imp id (fun h => ⟨h.1, Nat.lt_of_lt_of_le h.2 (below1 w2 _).size⟩)
theorem PutCut.early {F1 F1' : Nat → Prop} {w1 w2 W' : World} {r : Nat} {l : List (Int × Int)} {x : Int × Int} {u v : Value} (hW : Below w1.heap.size w1 W') (hs : w1.heap.size < W'.heap.size) (hF1 : ¬ F1 w1.heap.size) (hf : Fr F1 W' w2) (hE : Ext F1 F1' W' w2) (hr : RingAt w2 F1' r (pushL l x)) (hz : w2.heap[w1.heap.size]? = some (.cells #[u, v] 50 (0, 0))) :
    PutCut F1 w1 r l x (.pointer (some ⟨w1.heap.size, 0, none⟩)) (.bool (isFull l)) ((w2.setCell ⟨w1.heap.size, 0, none⟩ (.int .i64 (pushOld l).1)).setCell ⟨w1.heap.size, 1, none⟩ (.int .i64 (pushOld l).2)) := by
  have hF : Fr F1 w1 w2 := (Fr.ofBelow (F := F1) hW).trans hf (Ext.refl _ _ _)
  have hn : ¬ F1' w1.heap.size := by
    intro h
    rcases hE _ h with h | h
    · exact hF1 h
    · omega
  refine ⟨_, F1', rfl, rfl, Nat.le_refl _, two_set hz _ _, (hF.setCell (p := ⟨w1.heap.size, 0, none⟩) (.inr (Nat.le_refl _)) _).setCell (p := ⟨w1.heap.size, 1, none⟩) (.inr (Nat.le_refl _)) _, ?_, hn, hr.keep (fun k hk => ?_) (by simp only [sz_set]; exact Nat.le_refl _)⟩
  · intro k hk
    simp only [sz_set]
    exact (hE k hk).imp id (fun h => ⟨Nat.le_trans hW.size h.1, h.2⟩)
  · have hne : k ≠ w1.heap.size := by rintro rfl; exact hn hk
    rw [Below.heap_setCell _ _ _ _ (by exact hne), Below.heap_setCell _ _ _ _ (by exact hne)]

/-- In the midst of Put: the ring is done; s, l, m: what is worked out so far. -/
structure WinMid (F : Nat → Prop) (w wx : World) (F1 F0 : Nat → Prop) (g r : Nat) (T : WT) (clock N s : Int) (l m : List Int) (rl : List (Int × Int)) (x : Int × Int) : Prop where
  fr : Fr F w wx
  ext : Ext F (fun k => F1 k ∨ F0 k) w wx
  dis : ∀ k, F1 k → ¬ F0 k
  ring : RingAt wx F1 r rl
  rest : WinRest wx F0 g r T clock true N s l m
  old : w.heap.size < wx.heap.size
  blk : wx.heap[w.heap.size]? = some (.cells #[.int .i64 x.1, .int .i64 x.2] 50 (0, 0))
  out : ¬ F0 w.heap.size
theorem WinMid.step {F : Nat → Prop} {w wx wy : World} {F1 F0 F0' : Nat → Prop} {g r : Nat} {T : WT} {clock N s N' s' : Int} {l m l' m' : List Int} {rl : List (Int × Int)} {x : Int × Int} (h : WinMid F w wx F1 F0 g r T clock N s l m rl x)
    (hf : Fr F0 wx wy) (he : Ext F0 F0' wx wy) (hr : WinRest wy F0' g r T clock true N' s' l' m') : WinMid F w wy F1 F0' g r T clock N' s' l' m' rl x := by
  have hs := h.fr.size
  have ho := h.old
  refine ⟨h.fr.trans (hf.mono (F' := fun k => F1 k ∨ F0 k) (fun k hk => .inr hk)) h.ext, ?_, ?_, h.ring.keep (fun k hk => hf.block k (h.ring.2.1 k hk) (h.dis k hk)) hf.size, hr, Nat.lt_of_lt_of_le h.old hf.size, hf.blk h.blk h.out, ?_⟩
  · intro k hk
    have hs2 := hf.size
    rcases hk with hk | hk
    · rcases h.ext k (.inl hk) with h1 | h1
      · exact .inl h1
      · exact .inr ⟨h1.1, by omega⟩
    · rcases he k hk with h1 | h1
      · rcases h.ext k (.inr h1) with h2 | h2
        · exact .inl h2
        · exact .inr ⟨h2.1, by omega⟩
      · exact .inr ⟨by omega, h1.2⟩
  · intro k hk hk0
    rcases he k hk0 with h1 | h1
    · exact h.dis k hk h1
    · have := h.ring.2.1 k hk; omega
  · intro hk
    rcases he _ hk with h1 | h1
    · exact h.out h1
    · omega
theorem WinMid.drew {F : Nat → Prop} {w wx W : World} {F1 F0 : Nat → Prop} {g r : Nat} {T : WT} {clock N s : Int} {l m : List Int} {rl : List (Int × Int)} {x : Int × Int} (h : WinMid F w wx F1 F0 g r T clock N s l m rl x) (hW : Hid (W = wx.drew)) :
    WinMid F w W F1 F0 g r T clock N s l m rl x := by
  rw [hW.out]
  exact h.step ((Fr.refl F0 wx).drewN 1) (Ext.refl _ _ _) (h.rest.keep (fun k _ => rfl) (Nat.le_refl _))
def popL (l : List (Int × Int)) : List (Int × Int) := if l.length = 4096 then l.tail else l
theorem pushL_pop (l : List (Int × Int)) (x : Int × Int) : pushL l x = popL l ++ [x] := by unfold pushL popL; split <;> rfl
theorem popL_lt (l : List (Int × Int)) (h : l.length ≤ 4096) : (popL l).length < 4096 := by
  unfold popL
  split
  · simp; omega
  · omega
theorem popL_sub (l : List (Int × Int)) (x : Int × Int) (h : x ∈ popL l) : x ∈ l := by
  unfold popL at h
  split at h
  · exact List.mem_of_mem_tail h
  · exact h

set_option maxRecDepth 100000 in
set_option maxHeartbeats 3200000 in
theorem win_Put (F : Nat → Prop) (g : Nat) (T : WT) (clock N : Int) (begun : Bool) (l : List (Int × Int)) (x : Int × Int) (w : World) (hr : WinAt w F g T clock begun N l) (hN : N ≤ 4611686018427387904) (hx : I64 x.1 ∧ I64 x.2) (ht : stale begun clock x.1 = false) :
    Calls Try.prog 14 #[.pointer (some ⟨g, 0, none⟩), .agg #[.int .i64 x.1, .int .i64 x.2]] w fun e w' => e = .returned (.int .i64 0) ∧ Fr F w w' ∧ ∃ F', Ext F F' w w' ∧ WinAt w' F' g T x.1 true (N + 1) (pushL l x) := by
  obtain ⟨r, F1, F0, hring, hrest, hdis, hF, hxs⟩ := hr
  have HRing := Lib.hid hring
  have HRest := Lib.hid hrest
  have Hdis := Lib.hid hdis
  have HF := Lib.hid hF
  have Hxs := Lib.hid hxs
  have Hx := Lib.hid hx
  have HN := Lib.hid hN
  have Ht := Lib.hid ht
  have hg : g < w.heap.size := hrest.lt g hrest.at.1
  clear hring hrest hdis hF hxs hx hN ht
  go_enter Try.func14, Try.ntmps14
  go_wp2_with fail
  have hR1 : WinRest (w.alloc (.cells #[.int .i64 x.1, .int .i64 x.2] 50)) F0 g r T clock begun N (sumI (vals l)) (vals l) (vals l) := HRest.out.keep (fun k hk => (below1 w _).block k (HRest.out.lt k hk)) (below1 w _).size
  refine (win_come_st F0 g r T clock N _ x.1 begun _ _ _ hR1 Ht.out).mono ?_
  rintro e w1 ⟨rfl, hf1, hr1⟩
  have hring1 : RingAt w1 F1 r l := HRing.out.keep (fun k hk => by
    have := HRing.out.2.1 k hk
    rw [hf1.block k (by simp; omega) (by rintro rfl; exact Hdis.out _ hk HRest.out.at.1), (below1 w _).block k this]) (Nat.le_trans (below1 w _).size hf1.size)
  have s1 := hf1.blk (hb_new w _) (fun h => by omega)
  have hF1 : Fr (fun k => k = g) w w1 := (Fr.ofBelow (below1 w _)).trans hf1 (Ext.refl _ _ _)
  have hs1 : w.heap.size + 1 ≤ w1.heap.size := by simpa using hf1.size
  have HR1 := Lib.hid hr1
  have HRing1 := Lib.hid hring1
  have HS1 := Lib.hid s1
  have HF1 := Lib.hid hF1
  have Hs1 := Lib.hid hs1
  clear hR1 hf1 hr1 hring1 s1 hF1 hs1
  go_upto_region 4 with fail
  go_cut [6, 7] (fun o b wx => PutCut F1 w1 r l x o b wx)
  case first =>
    obtain ⟨_, best, order, hblk⟩ := HR1.out.at
    have c0 := hb_cell hblk 0
    simp only [List.getElem?_toArray, List.getElem?_cons_zero] at c0
    obtain ⟨v0, v1, _, _⟩ := hb2 HS1.out
    have hP : ∀ W', Below w1.heap.size w1 W' → Calls Try.prog 33 #[.pointer (some ⟨r, 0, none⟩), .agg #[.int .i64 x.1, .int .i64 x.2]] W' fun e w' => e = .returned (.tuple #[.agg #[.int .i64 (pushOld l).1, .int .i64 (pushOld l).2], .bool (isFull l)]) ∧ (∀ k o, W'.heap[k]? = some o → w1.heap.size ≤ k → w'.heap[k]? = some o) ∧ Fr F1 W' w' ∧ ∃ F', Ext F1 F' W' w' ∧ RingAt w' F' r (pushL l x) := by
      intro W' hb
      refine (ring_Push_at F1 r l x W' (HRing1.out.keep (fun k hk => hb.block k (HRing1.out.2.1 k hk)) hb.size)).mono ?_
      rintro e w' ⟨rfl, h1, h2⟩
      exact ⟨rfl, fun k o ho hk => h1.blk ho (fun h => by have := HRing1.out.2.1 k h; omega), h1, h2⟩
    have HP := Lib.hid hP
    have hnF1 : ¬ F1 w1.heap.size := fun h => Nat.lt_irrefl _ (HRing1.out.2.1 _ h)
    have HnF1 := Lib.hid hnF1
    clear hnF1
    have hlt1 : w.heap.size < w1.heap.size := by have := Hs1.out; omega
    have hlt2 : g < w1.heap.size := by omega
    clear hblk hP
    go_region_with (first | (refine (HP.out _ ?hbb).mono ?_; (case hbb => first | exact Below.refl _ _ | exact below1 _ _ | exact (Below.refl _ _).drew | exact (below1 _ _).drew); rintro e w2 ⟨rfl, hk, hf, F1', hE, hr⟩; first | (have z := hk _ _ (hb_new _ _) (Nat.le_refl _); obtain ⟨z0, z1, z2, z3⟩ := hb2 z; have HZ := Lib.hid z; clear z) | (have z := hk _ _ (hb_new' _ _) (Nat.le_refl _); obtain ⟨z0, z1, z2, z3⟩ := hb2 z; have HZ := Lib.hid z; clear z) | skip))
    all_goals go_wp2_with fail
    all_goals go_meet
    all_goals first
      | exact PutCut.late hf hE hr
      | exact PutCut.early (below1 _ _) (by simp) HnF1.out hf hE hr HZ.out
      | exact PutCut.early (below1 _ _).drew (by simp) HnF1.out hf hE hr HZ.out
      | skip
  case rest =>
    obtain ⟨ob, F1', rfl, rfl, hob, hold, hf, hE, hn, hr⟩ := hcut
    have hlen := HRing.out.len
    have hgF := HRest.out.at.1
    have hc0 : WinMid F w wc F1' F0 g r T x.1 N (sumI (vals l)) (vals l) (vals l) (popL l ++ [x]) x := by
      have hF0 : ∀ k, F0 k → ¬ F1 k := fun k hk h => Hdis.out k h hk
      have h1 : WinRest wc F0 g r T x.1 true N (sumI (vals l)) (vals l) (vals l) := HR1.out.keep (fun k hk => hf.block k (HR1.out.lt k hk) (hF0 k hk)) hf.size
      have hs1 := Hs1.out
      have hn1 : ¬ F1 w.heap.size := fun h => Nat.lt_irrefl _ (HRing.out.2.1 _ h)
      have hn0 : ¬ F0 w.heap.size := fun h => Nat.lt_irrefl _ (HRest.out.lt _ h)
      refine ⟨(HF1.out.mono (F' := F) (fun k hk => by subst hk; exact (HF.out _).2 (.inr hgF))).trans (hf.mono (F' := F) (fun k hk => (HF.out _).2 (.inl hk))) (Ext.refl _ _ _), ?_, ?_, by rw [← pushL_pop]; exact hr, h1, by have := hf.size; omega, hf.blk HS1.out hn1, hn0⟩
      · intro k hk
        rcases hk with hk | hk
        · rcases hE k hk with h | h
          · exact .inl ((HF.out _).2 (.inl h))
          · exact .inr ⟨by omega, h.2⟩
        · exact .inl ((HF.out _).2 (.inr hk))
      · intro k hk hk0
        rcases hE k hk with h | h
        · exact Hdis.out k h hk0
        · have := HR1.out.lt k hk0; omega
    have hn0 : ¬ F0 ob := fun h => by have := HR1.out.lt _ h; omega
    have HOld := Lib.hid hold
    have HC0 := Lib.hid hc0
    have Hn0 := Lib.hid hn0
    have Hlen := Lib.hid hlen
    clear hob hold hf hE hn hr hc0 hn0 hlen hgF
    go_upto_if 24 with fail
    go_cut [7] (fun _ wx => ∃ F0', WinMid F w wx F1' F0' g r T x.1 N (sumI (vals (popL l))) (vals (popL l)) (vals (popL l)) (popL l ++ [x]) x)
    case first =>
      by_cases hfull : l.length = 4096
      · have hb : isFull l = true := by unfold isFull; simpa using hfull
        obtain ⟨y, rest, rfl⟩ := List.exists_cons_of_ne_nil (l := l) (by rintro rfl; simp at hfull)
        have e1 : pushOld (y :: rest) = y := by unfold pushOld; rw [if_pos hfull]; rfl
        have e2 : popL (y :: rest) = rest := by unfold popL; rw [if_pos hfull]; rfl
        have hold := HOld.out
        rw [e1] at hold
        obtain ⟨o0, o1, _, _⟩ := hb2 hold
        rw [hb]
        have hm : (vals rest).length ≤ 4096 := by simp [vals] at hfull ⊢; omega
        have hG : Calls Try.prog 34 #[.pointer (some ⟨g, 0, none⟩), .agg #[.int .i64 y.1, .int .i64 y.2]] wc fun e w' => e = .returned (.tuple #[]) ∧ Fr F0 wc w' ∧ ∃ F', Ext F0 F' wc w' ∧ WinRest w' F' g r T x.1 true N (sumI (vals (y :: rest)) - y.2) (vals rest) (vals rest) :=
          win_gone F0 g r T x.1 N _ y.1 y.2 true (vals rest) (vals rest) wc HC0.out.rest HN.out hm (Hxs.out y List.mem_cons_self).2
        have es : sumI (vals (y :: rest)) - y.2 = sumI (vals rest) := by simp only [vals, List.map_cons, sumI, List.foldr_cons]; omega
        rw [es] at hG
        have HG := Lib.hid hG
        have HE2 := Lib.hid e2
        clear hG es hm hold e1 e2 hfull hb
        go_wp2_with fail
        refine HG.out.mono ?_
        rintro e w3 ⟨rfl, hf3, F0', hE3, hr3⟩
        have hfin := HC0.out.step hf3 hE3 hr3
        go_wp2_with fail
        go_meet
        rw [HE2.out] at *
        exact ⟨F0', hfin⟩
      · have hb : isFull l = false := by unfold isFull; simpa using hfull
        have e2 : popL l = l := by unfold popL; rw [if_neg hfull]
        rw [hb]
        have HE2 := Lib.hid e2
        clear e2 hfull hb
        go_wp2_with fail
        go_meet
        rw [HE2.out]
        have := HC0.out
        rw [HE2.out] at this
        exact ⟨F0, this⟩
    case rest =>
      obtain ⟨F0', hmid⟩ := hcut
      have HM := Lib.hid hmid
      clear hmid
      clear HC0 HOld Hn0
      have hpl := popL_lt l Hlen.out
      have hvl : (vals (popL l)).length ≤ 4096 := by simp [vals]; omega
      have Hvl := Lib.hid hvl
      clear hpl hvl
      go_wp2_with fail
      refine wp_region_tail 5 (by kernel_rfl) (by kernel_rfl) (fun W5 HW5 => ?_)
      have hm5 := HM.out.drew HW5
      have v1 := hb_cell hm5.blk 1
      simp only [List.getElem?_toArray, List.getElem?_cons_zero, List.getElem?_cons_succ] at v1
      have HM5 := Lib.hid hm5
      clear hm5
      simp only [List.take_succ_cons, List.take_zero, List.drop_succ_cons, List.drop_zero]
      repeat still_step
      refine wpStill_nil ?_
      go_wp2_with fail
      clear v1
      refine (wide_Add g 7 _ x.2 W5 HM5.out.rest.wide Hx.out.2).mono ?_
      rintro e w6 ⟨rfl, hwt⟩
      obtain ⟨hf6, hr6⟩ := HM5.out.rest.sum hwt
      have hm6 := HM5.out.step hf6 (Ext.refl _ _ _) hr6
      have HM6 := Lib.hid hm6
      clear hwt hf6 hr6 hm6
      go_wp2_with fail
      refine wp_region_tail 6 (by kernel_rfl) (by kernel_rfl) (fun W7 HW7 => ?_)
      have hm7 := HM6.out.drew HW7
      have v1 := hb_cell hm7.blk 1
      simp only [List.getElem?_toArray, List.getElem?_cons_zero, List.getElem?_cons_succ] at v1
      obtain ⟨best, F2, c9, hb7, hst7⟩ := hm7.rest.best
      have HM7 := Lib.hid hm7
      have HB7 := Lib.hid hb7
      have Hst7 := Lib.hid hst7
      clear hm7 hb7 hst7
      simp only [List.take_succ_cons, List.take_zero, List.drop_succ_cons, List.drop_zero]
      repeat still_step
      refine wpStill_nil ?_
      go_wp2_with fail
      clear v1 c9
      refine (mono_Put_st F2 T.a N x.2 best _ W7 HB7.out HN.out Hvl.out).mono ?_
      rintro e w8 ⟨rfl, hf8, F2', hE8, hb8⟩
      obtain ⟨hF8, F0'', hE8', hr8⟩ := Hst7.out w8 F2' (N + 1) _ hf8 hE8 hb8
      have hm8 := HM7.out.step hF8 hE8' hr8
      have HM8 := Lib.hid hm8
      clear hf8 hE8 hb8 hF8 hE8' hr8 hm8
      go_wp2_with fail
      refine wp_region_tail 6 (by kernel_rfl) (by kernel_rfl) (fun W9 HW9 => ?_)
      have hm9 := HM8.out.drew HW9
      have v1 := hb_cell hm9.blk 1
      simp only [List.getElem?_toArray, List.getElem?_cons_zero, List.getElem?_cons_succ] at v1
      obtain ⟨order, F3, c10, ho9, hst9⟩ := hm9.rest.order
      have HM9 := Lib.hid hm9
      have HO9 := Lib.hid ho9
      have Hst9 := Lib.hid hst9
      clear hm9 ho9 hst9
      simp only [List.take_succ_cons, List.take_zero, List.drop_succ_cons, List.drop_zero]
      repeat still_step
      refine wpStill_nil ?_
      go_wp2_with fail
      clear v1 c10
      refine (rank_Put_st F3 T.a x.2 order _ W9 HO9.out Hvl.out).mono ?_
      rintro e wa ⟨rfl, hfa, F3', hEa, hoa⟩
      obtain ⟨hFa, F0a, hEa', hra⟩ := Hst9.out wa F3' _ hfa hEa hoa
      have hma := HM9.out.step hFa hEa' hra
      have HMA := Lib.hid hma
      clear hfa hEa hoa hFa hEa' hra hma
      go_wp2_with fail
      have hfin := HMA.out
      have ev : vals (popL l) ++ [x.2] = vals (popL l ++ [x]) := by simp [vals]
      have es : sumI (vals (popL l)) + x.2 = sumI (vals (popL l ++ [x])) := by rw [← ev, sumI_snoc]
      rw [ev, es] at hfin
      go_ret
      refine ⟨rfl, hfin.fr, fun k => F1' k ∨ F0a k, hfin.ext, r, F1', F0a, by rw [pushL_pop]; exact hfin.ring, by rw [pushL_pop]; exact hfin.rest, hfin.dis, fun k => Iff.rfl, ?_⟩
      intro y hy
      rw [pushL_pop] at hy
      rcases List.mem_append.1 hy with h | h
      · exact Hxs.out y (popL_sub l y h)
      · obtain rfl : y = x := by simpa using h
        exact Hx.out
end Go.Proofs.Ytfhhdlpglfjdgaa
