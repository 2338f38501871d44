/- Contracts of package window: what is worked out of the samples; gone. -/
import Derived.Test.YtfhhdlpglfjdgaaWinA
import Derived.Test.YtfhhdlpglfjdgaaWinP
set_option linter.unusedVariables false
set_option linter.unusedSimpArgs false
namespace Go.Proofs.Ytfhhdlpglfjdgaa
open Go.RowKit

/-- The mono of a window, or none. -/
def MonoSt (w : World) (F : Nat → Prop) (a N : Int) (v : Value) (l : List Int) : Prop :=
  ((a = 3 ∨ a = 4) ∧ ∃ b come, v = .pointer (some ⟨b, 0, none⟩) ∧ MonoAt w F b (decide (a = 4)) come (come - l.length) (mq (decide (a = 4)) (come - l.length) l) ∧ (l.length : Int) ≤ come ∧ come ≤ N) ∨
  (¬ (a = 3 ∨ a = 4) ∧ v = .pointer none ∧ ∀ k, ¬ F k)
/-- The rank of a window, or none. -/
def RankSt (w : World) (F : Nat → Prop) (a : Int) (v : Value) (l : List Int) : Prop :=
  (a = 6 ∧ ∃ b L, v = .pointer (some ⟨b, 0, none⟩) ∧ RankAt w F b L ∧ Rise L ∧ L.Perm l) ∨
  (¬ a = 6 ∧ v = .pointer none ∧ ∀ k, ¬ F k)
theorem MonoSt.keep {w w' : World} {F : Nat → Prop} {a N : Int} {v : Value} {l : List Int} (h : MonoSt w F a N v l) (hk : ∀ k, F k → w'.heap[k]? = w.heap[k]?) (hs : w.heap.size ≤ w'.heap.size) : MonoSt w' F a N v l := by
  rcases h with ⟨ha, b, come, hv, hm, h1⟩ | h
  · exact .inl ⟨ha, b, come, hv, hm.keep hk hs, h1⟩
  · exact .inr h
theorem RankSt.keep {w w' : World} {F : Nat → Prop} {a : Int} {v : Value} {l : List Int} (h : RankSt w F a v l) (hk : ∀ k, F k → w'.heap[k]? = w.heap[k]?) (hs : w.heap.size ≤ w'.heap.size) : RankSt w' F a v l := by
  rcases h with ⟨ha, b, L, hv, hm, h1⟩ | h
  · exact .inl ⟨ha, b, L, hv, hm.keep hk hs, h1⟩
  · exact .inr h
theorem MonoSt.lt {w : World} {F : Nat → Prop} {a N : Int} {v : Value} {l : List Int} (h : MonoSt w F a N v l) : ∀ k, F k → k < w.heap.size := by
  rcases h with ⟨ha, b, come, hv, hm, h1⟩ | ⟨_, _, h⟩
  · exact hm.2.1
  · exact fun k hk => absurd hk (h k)
theorem RankSt.lt {w : World} {F : Nat → Prop} {a : Int} {v : Value} {l : List Int} (h : RankSt w F a v l) : ∀ k, F k → k < w.heap.size := by
  rcases h with ⟨ha, b, L, hv, hm, h1⟩ | ⟨_, _, h⟩
  · exact hm.2.1
  · exact fun k hk => absurd hk (h k)

theorem mono_Take_st (F : Nat → Prop) (a N x : Int) (v : Value) (l : List Int) (w : World) (hm : MonoSt w F a N v (x :: l)) (hN : N ≤ 4611686018427387904) :
    Calls Try.prog 55 #[v] w fun e w' => (∃ b, e = .returned (.bool b)) ∧ Fr F w w' ∧ MonoSt w' F a N v l := by
  rcases hm with ⟨ha, b, come, rfl, hm, h1, h2⟩ | ⟨ha, rfl, hF⟩
  · obtain ⟨y, r, hy⟩ := List.exists_cons_of_ne_nil (mq_ne (decide (a = 4)) (x :: l) (come - (x :: l).length) (by simp))
    rw [hy] at hm
    simp only [List.length_cons] at h1 hm hy
    refine (mono_Take_at F b _ come _ y r w hm (by omega) (by omega) (by omega)).mono ?_
    rintro e w' ⟨rfl, hf, hm'⟩
    rw [mq_take _ _ _ _ _ _ hy, show come - ((l.length + 1 : Nat) : Int) + 1 = come - l.length by omega] at hm'
    exact ⟨⟨_, rfl⟩, hf, .inl ⟨ha, b, come, rfl, hm', by omega, h2⟩⟩
  · refine (mono_Take_nil w).mono ?_
    rintro e w' ⟨rfl, rfl⟩
    exact ⟨⟨_, rfl⟩, Fr.refl _ _, .inr ⟨ha, rfl, hF⟩⟩
theorem mono_Put_st (F : Nat → Prop) (a N x : Int) (v : Value) (l : List Int) (w : World) (hm : MonoSt w F a N v l) (hN : N ≤ 4611686018427387904) (hl : l.length ≤ 4096) :
    Calls Try.prog 36 #[v, .int .i64 x] w fun e w' => e = .returned (.tuple #[]) ∧ Fr F w w' ∧ ∃ F', Ext F F' w w' ∧ MonoSt w' F' a (N + 1) v (l ++ [x]) := by
  rcases hm with ⟨ha, b, come, rfl, hm, h1, h2⟩ | ⟨ha, rfl, hF⟩
  · have h3 := mq_length (decide (a = 4)) l (come - l.length)
    refine (mono_Put_at F b _ come _ x _ w hm (by omega) (by omega) (by omega)).mono ?_
    rintro e w' ⟨rfl, F', hE, hf, hm'⟩
    have e1 := mq_put (decide (a = 4)) x l (come - l.length)
    rw [show come - (l.length : Int) + l.length = come by omega] at e1
    rw [e1] at hm'
    have e2 : come - (l.length : Int) = (come + 1) - ((l ++ [x]).length : Nat) := by simp; omega
    rw [e2] at hm'
    exact ⟨rfl, hf, F', hE, .inl ⟨ha, b, come + 1, rfl, hm', by simp; omega, by omega⟩⟩
  · refine (mono_Put_nil x w).mono ?_
    rintro e w' ⟨rfl, rfl⟩
    exact ⟨rfl, Fr.refl _ _, F, Ext.refl _ _ _, .inr ⟨ha, rfl, hF⟩⟩
theorem rank_Take_st (F : Nat → Prop) (a x : Int) (v : Value) (l : List Int) (w : World) (hm : RankSt w F a v (x :: l)) (hl : l.length ≤ 4096) :
    Calls Try.prog 56 #[v, .int .i64 x] w fun e w' => (∃ b, e = .returned (.bool b)) ∧ Fr F w w' ∧ ∃ F', Ext F F' w w' ∧ RankSt w' F' a v l := by
  rcases hm with ⟨ha, b, L, rfl, hm, hr, hp⟩ | ⟨ha, rfl, hF⟩
  · have hlen := hp.length_eq
    simp only [List.length_cons] at hlen
    have hx := hr.found x (hp.mem_iff.2 List.mem_cons_self)
    refine (rank_Take_at F b x L w hm hr (by omega) hx).mono ?_
    rintro e w' ⟨rfl, F', hE, hf, hm'⟩
    exact ⟨⟨_, rfl⟩, hf, F', hE, .inl ⟨ha, b, _, rfl, hm', hr.del _, List.Perm.cons_inv ((delI_perm L _ x hx).symm.trans hp)⟩⟩
  · refine (rank_Take_nil x w).mono ?_
    rintro e w' ⟨rfl, rfl⟩
    exact ⟨⟨_, rfl⟩, Fr.refl _ _, F, Ext.refl _ _ _, .inr ⟨ha, rfl, hF⟩⟩
theorem rank_Put_st (F : Nat → Prop) (a x : Int) (v : Value) (l : List Int) (w : World) (hm : RankSt w F a v l) (hl : l.length ≤ 4096) :
    Calls Try.prog 37 #[v, .int .i64 x] w fun e w' => e = .returned (.tuple #[]) ∧ Fr F w w' ∧ ∃ F', Ext F F' w w' ∧ RankSt w' F' a v (l ++ [x]) := by
  rcases hm with ⟨ha, b, L, rfl, hm, hr, hp⟩ | ⟨ha, rfl, hF⟩
  · have hlen := hp.length_eq
    refine (rank_Put_at F b x L w hm hr (by omega)).mono ?_
    rintro e w' ⟨rfl, F', hE, hf, hm'⟩
    exact ⟨rfl, hf, F', hE, .inl ⟨ha, b, _, rfl, hm', hr.ins _, (insI_perm L _ x).trans (hp.append_right _)⟩⟩
  · refine (rank_Put_nil x w).mono ?_
    rintro e w' ⟨rfl, rfl⟩
    exact ⟨rfl, Fr.refl _ _, F, Ext.refl _ _ _, .inr ⟨ha, rfl, hF⟩⟩

/-- The sum. -/
def sumI (l : List Int) : Int := l.foldr (· + ·) 0
theorem sumI_snoc (l : List Int) (x : Int) : sumI (l ++ [x]) = sumI l + x := by
  induction l with
  | nil => simp [sumI]
  | cons a l ih => simp only [sumI, List.cons_append, List.foldr_cons] at *; omega
/-- A window but for its ring: s its sum, l what mono holds, m what rank holds. -/
def WinRest (w : World) (F : Nat → Prop) (g r : Nat) (T : WT) (clock : Int) (begun : Bool) (N s : Int) (l m : List Int) : Prop :=
  ∃ best order F2 F3, WinBlk w g (.pointer (some ⟨r, 0, none⟩)) T clock begun s best order ∧ MonoSt w F2 T.a N best l ∧ RankSt w F3 T.a order m ∧
    ¬ F2 g ∧ ¬ F3 g ∧ (∀ k, F2 k → ¬ F3 k) ∧ ∀ k, F k ↔ k = g ∨ F2 k ∨ F3 k
theorem WinRest.lt {w : World} {F : Nat → Prop} {g r : Nat} {T : WT} {clock : Int} {begun : Bool} {N s : Int} {l m : List Int} (h : WinRest w F g r T clock begun N s l m) : ∀ k, F k → k < w.heap.size := by
  obtain ⟨best, order, F2, F3, h1, h2, h3, h4, h5, h6, h7⟩ := h
  intro k hk
  rcases (h7 k).1 hk with rfl | hk | hk
  · exact hb_lt h1
  · exact h2.lt k hk
  · exact h3.lt k hk
theorem WinRest.keep {w w' : World} {F : Nat → Prop} {g r : Nat} {T : WT} {clock : Int} {begun : Bool} {N s : Int} {l m : List Int} (h : WinRest w F g r T clock begun N s l m) (hk : ∀ k, F k → w'.heap[k]? = w.heap[k]?) (hs : w.heap.size ≤ w'.heap.size) : WinRest w' F g r T clock begun N s l m := by
  obtain ⟨best, order, F2, F3, h1, h2, h3, h4, h5, h6, h7⟩ := h
  exact ⟨best, order, F2, F3, (hk g ((h7 g).2 (.inl rfl))).trans h1, h2.keep (fun k hk' => hk k ((h7 k).2 (.inr (.inl hk')))) hs, h3.keep (fun k hk' => hk k ((h7 k).2 (.inr (.inr hk')))) hs, h4, h5, h6, h7⟩
end Go.Proofs.Ytfhhdlpglfjdgaa
