/- Contracts of package window: Read. -/
import Derived.Test.YtfhhdlpglfjdgaaWinF
set_option linter.unusedVariables false
set_option linter.unusedSimpArgs false
namespace Go.Proofs.Ytfhhdlpglfjdgaa
open Go.RowKit

/-- The numbers of a list, rising. -/
def srt (l : List Int) : List Int := l.foldr (fun v acc => insI acc (lb acc v) v) []
theorem srt_rise : ∀ l, Rise (srt l)
  | [] => fun i j x y _ hx => by simp [srt] at hx
  | v :: r => (srt_rise r).ins v
theorem srt_perm : ∀ l, (srt l).Perm l
  | [] => List.Perm.refl _
  | v :: r => (insI_perm (srt r) _ v).trans ((List.perm_append_singleton v _).trans ((srt_perm r).cons v))
theorem srt_eq {L l : List Int} (h : Rise L) (hp : L.Perm l) : L = srt l :=
  (hp.trans (srt_perm l).symm).eq_of_pairwise (le := (· ≤ ·)) (fun a b _ _ h1 h2 => Int.le_antisymm h1 h2) (Rise.pair.1 h) (Rise.pair.1 (srt_rise l))
theorem srt_length (l : List Int) : (srt l).length = l.length := (srt_perm l).length_eq

theorem sumI_bd : ∀ (l : List Int), (∀ x ∈ l, I64 x) → -9223372036854775808 * (l.length : Int) ≤ sumI l ∧ sumI l ≤ 9223372036854775807 * (l.length : Int)
  | [], _ => by simp [sumI]
  | v :: r, h => by
    have h1 := sumI_bd r (fun x hx => h x (List.mem_cons_of_mem _ hx))
    have h2 := h v List.mem_cons_self
    have e : sumI (v :: r) = v + sumI r := rfl
    unfold I64 at h2
    rw [e, List.length_cons]
    omega
theorem mean_bd (s n : Int) (hn : 1 ≤ n) (h1 : -9223372036854775808 * n ≤ s) (h2 : s ≤ 9223372036854775807 * n) : I64 (s / n) := by
  unfold I64
  constructor
  · exact Int.le_ediv_of_mul_le (by omega) h1
  · exact Int.ediv_le_of_le_mul (by omega) h2

/-- What a window of the terms T tells of the values l: a reason, a number. -/
def winRead (T : WT) (l : List Int) : Int × Int :=
  if T.a = 1 then (if fitB (sumI l) then (0, sumI l) else (3, 0))
  else if T.a = 5 then (0, fWhole l.length)
  else if T.a = 2 then (if l = [] then (1, 0) else (0, sumI l / l.length))
  else if T.a = 6 then (if l = [] then (1, 0) else (0, (srt l).getD (rankK l.length T.p).toNat 0))
  else (if l = [] then (1, 0) else (0, mbest (decide (T.a = 4)) l))

theorem mono_Best_st (F : Nat → Prop) (a N : Int) (v : Value) (l : List Int) (w : World) (hm : MonoSt w F a N v l) (ha : a = 3 ∨ a = 4) (hN : N ≤ 4611686018427387904) :
    Calls Try.prog 31 #[v] w fun e w' => e = .returned (.tuple #[.int .i64 (if l = [] then 0 else mbest (decide (a = 4)) l), .bool (decide (l ≠ []))]) ∧ Below w.heap.size w w' := by
  rcases hm with ⟨_, b, come, rfl, ⟨hbF, hF, v, hb, hq, hne, hown⟩, h1, h2⟩ | ⟨hn, _⟩
  · rcases l with _ | ⟨x, l⟩
    · simp only [List.length_nil] at hb
      rw [show come - ((0 : Nat) : Int) = come by omega] at hb
      exact mono_Best_none b _ come v w hb (by simpa using h1) (by omega)
    · have hmn := mq_ne (decide (a = 4)) (x :: l) (come - (x :: l).length) (by simp)
      obtain ⟨y, r, hy⟩ := List.exists_cons_of_ne_nil hmn
      have hbest : mbest (decide (a = 4)) (x :: l) = y.1 := by
        unfold mbest
        rw [mq_fst _ _ 0 (come - (x :: l).length), hy]
        rfl
      rw [hy] at hq
      rcases hq.2 with ⟨_, h0⟩ | ⟨h, off, cap, cur, rfl, hbase, hh, hnc, hcm, hcs, hr⟩
      · simp at h0
      · have c0 : w.cell? ⟨h, off, none⟩ = some (.int .i64 y.1) := by
          rw [hb_cell hh]
          exact hr 0 _ (by simp [kc])
        rw [if_neg (by simp), hbest]
        refine (mono_Best_some b h off (y :: r).length cap (decide (a = 4)) come (come - (x :: l).length) y.1 w hb (by simp only [List.length_cons] at h1 ⊢; omega) (by simp only [List.length_cons]; omega) (by omega) (by simp) c0).mono ?_
        rintro e w' ⟨rfl, hw⟩
        exact ⟨by simp, hw⟩
  · exact absurd ha hn
theorem rank_By_st (F : Nat → Prop) (a p : Int) (v : Value) (l : List Int) (w : World) (hm : RankSt w F a v l) (ha : a = 6) (hl : l.length ≤ 4096) (hp : 1 ≤ p) (hp1 : p ≤ 100000000) :
    Calls Try.prog 30 #[v, .int .i64 p] w fun e w' => e = .returned (.tuple #[.int .i64 (if l = [] then 0 else (srt l).getD (rankK l.length p).toNat 0), .bool (decide (l ≠ []))]) ∧ Below w.heap.size w w' := by
  rcases hm with ⟨_, b, L, rfl, hm, hr, hpm⟩ | ⟨hn, _⟩
  · obtain rfl := srt_eq hr hpm
    rcases l with _ | ⟨x, l⟩
    · refine (rank_By_at_none F b p w hm).mono ?_
      rintro e w' ⟨rfl, rfl⟩
      exact ⟨rfl, Below.refl _ _⟩
    · have hlen := srt_length (x :: l)
      have hk := rankK_bd (x :: l).length p (by simp) hp hp1
      have hx : (srt (x :: l))[(rankK (srt (x :: l)).length p).toNat]? = some ((srt (x :: l)).getD (rankK (x :: l).length p).toNat 0) := by
        rw [hlen, List.getD_eq_getElem?_getD, List.getElem?_eq_getElem (by rw [hlen]; omega)]
        rfl
      rw [if_neg (by simp)]
      refine (rank_By_at F b _ p _ w hm (by rw [hlen]; omega) (by rw [hlen]; simp) hp hp1 hx).mono ?_
      rintro e w' ⟨rfl, hw⟩
      exact ⟨by simp, hw⟩
  · exact absurd ha hn
end Go.Proofs.Ytfhhdlpglfjdgaa
