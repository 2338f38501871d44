/- Contracts of package ring at samples, told by footprints: Drop, grow. -/
import Derived.Test.YtfhhdlpglfjdgaaRingC
import Derived.Laws.MakeOwn
set_option linter.unusedVariables false
set_option linter.unusedSimpArgs false
namespace Go.Proofs.Ytfhhdlpglfjdgaa
open Go.RowKit

theorem mod_two (a L : Nat) (h : a < 2 * L) : a % L = if a < L then a else a - L := by
  split
  · exact Nat.mod_eq_of_lt (by omega)
  · rw [Nat.mod_eq_sub_mod (by omega)]; exact Nat.mod_eq_of_lt (by omega)
theorem mod_apart (f i j L : Nat) (hf : f < L) (hi : i < j) (hj : j < L) : (f + i) % L ≠ (f + j) % L := by
  rw [mod_two _ _ (by omega), mod_two _ _ (by omega)]
  split <;> split <;> omega

theorem RingCells.drop {cur : Array Value} {frm L : Nat} {x : Int × Int} {l : List (Int × Int)} (h : RingCells cur frm L (x :: l)) (hf : frm < L) (hl : l.length + 1 ≤ L) (u v : Value) :
    RingCells ((cur.setIfInBounds (frm * 2) u).setIfInBounds (frm * 2 + 1) v) ((frm + 1) % L) L l := by
  intro i y hy
  have hi := (List.getElem?_eq_some_iff.1 hy).1
  have := h (i + 1) y (by simpa using hy)
  have e : ((frm + 1) % L + i) % L = (frm + (i + 1)) % L := by rw [Nat.mod_add_mod]; congr 1; omega
  have hne : (frm + (i + 1)) % L ≠ frm := by
    have := mod_apart frm 0 (i + 1) L hf (by omega) (by omega)
    rw [Nat.add_zero, Nat.mod_eq_of_lt hf] at this
    exact fun e => this e.symm
  rw [e]
  generalize (frm + (i + 1)) % L = q at *
  simp only [Array.getElem?_setIfInBounds]
  rw [if_neg (by omega), if_neg (by omega), if_neg (by omega), if_neg (by omega)]
  exact this
theorem RingCells.push {cur : Array Value} {frm L : Nat} {x : Int × Int} {l : List (Int × Int)} (h : RingCells cur frm L l) (hs : cur.size = L * 2) (hf : frm < L) (hl : l.length < L) :
    RingCells ((cur.setIfInBounds ((frm + l.length) % L * 2) (.int .i64 x.1)).setIfInBounds ((frm + l.length) % L * 2 + 1) (.int .i64 x.2)) frm L (l ++ [x]) := by
  intro i y hy
  have hq : (frm + l.length) % L < L := Nat.mod_lt _ (by omega)
  rw [List.getElem?_append] at hy
  simp only [Array.getElem?_setIfInBounds, Array.size_setIfInBounds]
  split at hy
  · rename_i hlt
    have := h i y hy
    have hne := mod_apart frm i l.length L hf hlt hl
    generalize (frm + i) % L = p at *
    generalize (frm + l.length) % L = q at *
    rw [if_neg (by omega), if_neg (by omega), if_neg (by omega), if_neg (by omega)]
    exact this
  · rename_i hge
    have hi : i = l.length := by
      have := (List.getElem?_eq_some_iff.1 hy).1
      simp at this
      omega
    subst hi
    simp at hy
    subst hy
    generalize (frm + l.length) % L = q at *
    rw [if_neg (by omega), if_pos rfl, if_pos (by omega), if_pos rfl, if_pos (by omega)]
    exact ⟨rfl, rfl⟩

/-- A ring of samples at block g. -/
def RingAt (w : World) (F : Nat → Prop) (g : Nat) (l : List (Int × Int)) : Prop :=
  F g ∧ (∀ k, F k → k < w.heap.size) ∧ ∃ frm L v, RingBlk w g 4096 frm l.length v ∧
    ((L = 0 ∧ v = .slice none 0 0 ∧ l = []) ∨
     (∃ h cur, v = .slice (some ⟨h, 0, none⟩) L L ∧ F h ∧ h ≠ g ∧ w.heap[h]? = some (.cells cur 50 (0, 0)) ∧ cur.size = L * 2 ∧ frm < L ∧ l.length ≤ L ∧ L ≤ 4096 ∧ RingCells cur frm L l))
/-- The same, with a place to spare. -/
def RingRoom (w : World) (F : Nat → Prop) (g : Nat) (l : List (Int × Int)) : Prop :=
  F g ∧ (∀ k, F k → k < w.heap.size) ∧ ∃ frm L h cur, RingBlk w g 4096 frm l.length (.slice (some ⟨h, 0, none⟩) L L) ∧ F h ∧ h ≠ g ∧ w.heap[h]? = some (.cells cur 50 (0, 0)) ∧ cur.size = L * 2 ∧ frm < L ∧ l.length < L ∧ L ≤ 4096 ∧ RingCells cur frm L l
theorem RingAt.len {w : World} {F : Nat → Prop} {g : Nat} {l : List (Int × Int)} (h : RingAt w F g l) : l.length ≤ 4096 := by
  obtain ⟨_, _, frm, L, v, _, h | ⟨_, _, _, _, _, _, _, _, h1, h2, _⟩⟩ := h
  · rw [h.2.2]; simp
  · omega
theorem RingAt.keep {w w' : World} {F : Nat → Prop} {g : Nat} {l : List (Int × Int)} (h : RingAt w F g l) (hk : ∀ k, F k → w'.heap[k]? = w.heap[k]?) (hs : w.heap.size ≤ w'.heap.size) : RingAt w' F g l := by
  obtain ⟨h1, h2, frm, L, v, h3, h4⟩ := h
  refine ⟨h1, fun k hk' => Nat.lt_of_lt_of_le (h2 k hk') hs, frm, L, v, (hk g h1).trans h3, h4.imp id ?_⟩
  rintro ⟨b, cur, e, hb, hne, hh, r⟩
  exact ⟨b, cur, e, hb, hne, (hk b hb).trans hh, r⟩
theorem RingRoom.keep {w w' : World} {F : Nat → Prop} {g : Nat} {l : List (Int × Int)} (h : RingRoom w F g l) (hk : ∀ k, F k → w'.heap[k]? = w.heap[k]?) (hs : w.heap.size ≤ w'.heap.size) : RingRoom w' F g l := by
  obtain ⟨h1, h2, frm, L, b, cur, h3, hb, hne, hh, r⟩ := h
  exact ⟨h1, fun k hk' => Nat.lt_of_lt_of_le (h2 k hk') hs, frm, L, b, cur, (hk g h1).trans h3, hb, hne, (hk b hb).trans hh, r⟩

theorem ring_Drop_at (F : Nat → Prop) (g : Nat) (x : Int × Int) (l : List (Int × Int)) (w : World) (hr : RingAt w F g (x :: l)) :
    Calls Try.prog 42 #[.pointer (some ⟨g, 0, none⟩)] w fun e w' => e = .returned (.tuple #[.agg #[.int .i64 x.1, .int .i64 x.2], .bool true]) ∧ Fr F w w' ∧ RingAt w' F g l := by
  obtain ⟨hg, hF, frm, L, v, hb, ⟨_, _, h⟩ | ⟨b, cur, rfl, hbF, hne, hh, hcs, hf, hl, hL, hc⟩⟩ := hr
  · simp at h
  · have h0 := hc 0 x rfl
    rw [Nat.add_zero, Nat.mod_eq_of_lt hf] at h0
    refine (ring_Drop_raw g b 4096 frm l.length L _ x.1 x.2 cur w hb hh hne hL (by simpa using hl) hf rfl h0.1 h0.2).mono ?_
    rintro e w' ⟨rfl, r1, r2, r3⟩
    refine ⟨rfl, r3.mono (by rintro k (rfl | rfl) <;> assumption), hg, fun k hk => Nat.lt_of_lt_of_le (hF k hk) r3.size, _, L, _, r1, .inr ⟨b, _, rfl, hbF, hne, r2, by simpa using hcs, Nat.mod_lt _ (by omega), by simp at hl; omega, hL, hc.drop hf (by simpa using hl) _ _⟩⟩

theorem ring_make (L c : Nat) (hc : c = ringCap L) (w : World) :
    (Instr.makeSlice 32 (.int .i64 (min 4096 (2 * (L : Int) + 4))) (.int .i64 (min 4096 (2 * (L : Int) + 4)))).run Try.prog w = .ok (.slice (some ⟨w.heap.size, 0, none⟩) c c) (w.alloc (.cells (madeCells (Value.agg #[.int .i64 0, .int .i64 0]).cells (c * 2)) 50)) := by
  obtain ⟨i, hi, hzz⟩ := Option.map_eq_some_iff.1 Try.infos
  simp only [Prod.mk.injEq] at hzz
  obtain ⟨hz, hs, hb⟩ := hzz
  have h1 : c ≤ 4096 := by rw [hc]; unfold ringCap; omega
  have h2 : min 4096 (2 * (L : Int) + 4) = (c : Int) := by rw [hc]; unfold ringCap; omega
  rw [h2]
  have := run_make (P := Try.prog) w 32 50 i _ (by kernel_rfl) hi hz .i64 .i64 c c (by omega) (by omega) (by rw [hb]; omega) (by omega)
  rw [hs] at this
  simpa using this

theorem ring_grow_at (F : Nat → Prop) (g : Nat) (l : List (Int × Int)) (w : World) (hr : RingAt w F g l) (hl : l.length < 4096) :
    Calls Try.prog 53 #[.pointer (some ⟨g, 0, none⟩)] w fun e w' => e = .returned (.tuple #[]) ∧ Fr F w w' ∧ ∃ F', Ext F F' w w' ∧ RingRoom w' F' g l := by
  obtain ⟨hg, hF, frm, L, v, hb, h⟩ := hr
  have key : ∀ (A : Option Addr) (hB : Nat) (cur : Array Value), v = .slice A L L → (L = 0 ∨ A = some ⟨hB, 0, none⟩ ∧ hB < w.heap.size ∧ w.heap[hB]? = some (.cells cur 50 (0, 0))) → L < 4096 → l.length = L → (0 < L → frm < L) → cur.size = L * 2 → RingCells cur frm L l →
      Calls Try.prog 53 #[.pointer (some ⟨g, 0, none⟩)] w fun e w' => e = .returned (.tuple #[]) ∧ Fr F w w' ∧ ∃ F', Ext F F' w w' ∧ RingRoom w' F' g l := by
    intro A hB cur hv h1 h2 h3 h4 h5 h6
    subst hv
    refine (ring_grow_raw g hB frm l.length L (ringCap L) A cur _ l w hb h1 h2 h3 h4 rfl h5 h6 rfl (by rw [size_madeCells]) (ring_make L _ rfl)).mono ?_
    rintro e w' ⟨rfl, r1, r2, r3, cu, r4, r5, r6⟩
    have hgs := hF g hg
    refine ⟨rfl, r2.mono (by rintro k rfl; exact hg), fun k => F k ∨ k = w.heap.size, ?_, .inl hg, ?_, 0, ringCap L, w.heap.size, cu, r1, .inr rfl, by omega, r4, r5, ?_, ?_, ?_, r6⟩
    · rintro k (h | rfl)
      · exact .inl h
      · exact .inr ⟨Nat.le_refl _, r3⟩
    · rintro k (h | rfl)
      · have := hF k h; omega
      · exact r3
    · unfold ringCap; omega
    · unfold ringCap; omega
    · unfold ringCap; omega
  rcases h with ⟨rfl, hv, hl0⟩ | ⟨b, cur, hv, hbF, hne, hh, hcs, hf, hll, hL, hc⟩
  · exact key none 0 #[] hv (.inl rfl) (by omega) (by simp [hl0]) (by omega) rfl (by intro i y hy; simp [hl0] at hy)
  · rcases Nat.lt_or_ge l.length L with h1 | h1
    · subst hv
      refine (ring_grow_not g 4096 frm l.length L _ w hb h1).mono ?_
      rintro e w' ⟨rfl, m, rfl⟩
      exact ⟨rfl, (Fr.refl F w).drewN m, F, Ext.refl _ _ _, hg, hF, frm, L, b, cur, hb_drewN hb m, hbF, hne, hb_drewN hh m, hcs, hf, h1, hL, hc⟩
    · exact key _ b cur hv (.inr ⟨rfl, hF b hbF, hh⟩) (by omega) (by omega) (fun _ => hf) hcs hc

end Go.Proofs.Ytfhhdlpglfjdgaa
