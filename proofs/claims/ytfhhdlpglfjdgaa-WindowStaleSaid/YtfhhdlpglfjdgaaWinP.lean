/- Plain laws for windows: the kept queue of mono, the rising list of rank. No program in sight. -/
import Derived.Test.YtfhhdlpglfjdgaaRankD
import Derived.Test.YtfhhdlpglfjdgaaMonoC
set_option linter.unusedVariables false
set_option linter.unusedSimpArgs false
namespace Go.Proofs.Ytfhhdlpglfjdgaa

/-- What mono keeps of a queue, with numbers from i on. -/
def mq (high : Bool) : Int → List Int → List (Int × Int)
  | _, [] => []
  | i, v :: r => if r.all (fun y => mbeats high v y) then (v, i) :: mq high (i + 1) r else mq high (i + 1) r
theorem mbeats_trans {high : Bool} {a b c : Int} (h : mbeats high a b = true) (k : mbeats high b c = true) : mbeats high a c = true := by
  unfold mbeats at *
  cases high <;> simp at * <;> omega
theorem mq_idx (high : Bool) : ∀ (l : List Int) (i : Int) (x : Int × Int), x ∈ mq high i l → i ≤ x.2
  | [], _, _, h => by simp [mq] at h
  | v :: r, i, x, h => by
    rw [mq] at h
    split at h
    · rcases List.mem_cons.1 h with rfl | h
      · exact Int.le_refl _
      · have := mq_idx high r (i + 1) x h; omega
    · have := mq_idx high r (i + 1) x h; omega
theorem mq_mem (high : Bool) : ∀ (l : List Int) (i : Int) (x : Int × Int), x ∈ mq high i l → x.1 ∈ l
  | [], _, _, h => by simp [mq] at h
  | v :: r, i, x, h => by
    rw [mq] at h
    split at h
    · rcases List.mem_cons.1 h with rfl | h
      · exact List.mem_cons_self
      · exact List.mem_cons_of_mem _ (mq_mem high r (i + 1) x h)
    · exact List.mem_cons_of_mem _ (mq_mem high r (i + 1) x h)
theorem mq_ne (high : Bool) : ∀ (l : List Int) (i : Int), l ≠ [] → mq high i l ≠ []
  | [], _, h => absurd rfl h
  | [v], i, _ => by simp [mq]
  | v :: u :: r, i, _ => by
    rw [mq]
    split
    · simp
    · exact mq_ne high (u :: r) (i + 1) (by simp)
theorem mq_length (high : Bool) : ∀ (l : List Int) (i : Int), (mq high i l).length ≤ l.length
  | [], _ => Nat.le_refl _
  | v :: r, i => by
    rw [mq]
    have := mq_length high r (i + 1)
    split <;> simp <;> omega
theorem mq_take (high : Bool) (v : Int) (r : List Int) (i : Int) (x : Int × Int) (l : List (Int × Int)) (h : mq high i (v :: r) = x :: l) : (if x.2 = i then l else x :: l) = mq high (i + 1) r := by
  rw [mq] at h
  split at h
  · simp only [List.cons.injEq] at h
    obtain ⟨rfl, rfl⟩ := h
    rw [if_pos rfl]
  · have := mq_idx high r (i + 1) x (by rw [h]; exact List.mem_cons_self)
    rw [if_neg (by omega), h]
theorem mq_snoc (high : Bool) (v : Int) : ∀ (l : List Int) (i : Int), mq high i (l ++ [v]) = (mq high i l).filter (fun x => mbeats high x.1 v) ++ [(v, i + l.length)]
  | [], i => by simp [mq]
  | u :: r, i => by
    rw [List.cons_append, mq, mq, mq_snoc high v r (i + 1), List.all_append]
    simp only [List.all_cons, List.all_nil, Bool.and_true, List.length_cons]
    have e : i + 1 + (r.length : Int) = i + ((r.length + 1 : Nat) : Int) := by omega
    by_cases h1 : (r.all fun y => mbeats high u y) = true
    · by_cases h2 : mbeats high u v = true
      · simp [h1, h2, e]
      · simp [h1, h2, e]
    · simp [h1, e]
theorem mq_chain (high : Bool) : ∀ (l : List Int) (i : Int), (mq high i l).Pairwise (fun a b => mbeats high a.1 b.1 = true)
  | [], _ => List.Pairwise.nil
  | v :: r, i => by
    rw [mq]
    split
    · rename_i h
      refine List.Pairwise.cons (fun x hx => ?_) (mq_chain high r (i + 1))
      exact List.all_eq_true.1 h x.1 (mq_mem high r (i + 1) x hx)
    · exact mq_chain high r (i + 1)
theorem mcut_filter (high : Bool) (v : Int) (l : List (Int × Int)) (h : l.Pairwise (fun a b => mbeats high a.1 b.1 = true)) : ∀ n, n ≤ l.length → (l.take n).filter (fun x => mbeats high x.1 v) = l.take (mcut high v l n)
  | 0, _ => by simp [mcut]
  | n + 1, hn => by
    have hg : l[n]? = some (l[n]'(by omega)) := List.getElem?_eq_getElem (by omega)
    have hd : l.getD n (0, 0) = l[n]'(by omega) := by simp [List.getD, hg]
    rw [mcut, hd]
    by_cases hb : mbeats high (l[n]'(by omega)).1 v = true
    · rw [if_pos hb, List.filter_eq_self]
      intro x hx
      obtain ⟨j, hj, rfl⟩ := List.mem_iff_getElem.1 hx
      rw [List.getElem_take]
      simp at hj
      rcases Nat.lt_or_ge j n with hlt | hge
      · exact mbeats_trans (List.pairwise_iff_getElem.1 h j n (by omega) (by omega) hlt) hb
      · obtain rfl : j = n := by omega
        exact hb
    · rw [if_neg hb, List.take_add_one, hg, List.filter_append, mcut_filter high v l h n (by omega)]
      simp [hb]
theorem mq_put (high : Bool) (v : Int) (l : List Int) (i : Int) : (mq high i l).take (mcut high v (mq high i l) (mq high i l).length) ++ [(v, i + l.length)] = mq high i (l ++ [v]) := by
  rw [mq_snoc, ← mcut_filter high v _ (mq_chain high l i) _ (Nat.le_refl _), List.take_length]
/-- The best of a queue: the first of what is kept. -/
def mbest (high : Bool) (l : List Int) : Int := ((mq high 0 l).map Prod.fst).headD 0
theorem mq_fst (high : Bool) : ∀ (l : List Int) (i j : Int), (mq high i l).map Prod.fst = (mq high j l).map Prod.fst
  | [], _, _ => rfl
  | v :: r, i, j => by
    rw [mq, mq]
    split
    · simp [mq_fst high r (i + 1) (j + 1)]
    · exact mq_fst high r (i + 1) (j + 1)

/-! The rising list. -/
theorem insI_perm (l : List Int) (i : Nat) (v : Int) : (insI l i v).Perm (l ++ [v]) := by
  unfold insI
  have h1 : (l.take i ++ v :: l.drop i).Perm (v :: (l.take i ++ l.drop i)) := List.perm_middle
  rw [List.take_append_drop] at h1
  exact h1.trans (List.perm_append_singleton v l).symm
theorem delI_perm (l : List Int) (i : Nat) (v : Int) (h : l[i]? = some v) : l.Perm (v :: delI l i) := by
  unfold delI
  obtain ⟨hi, rfl⟩ := List.getElem?_eq_some_iff.1 h
  have h1 : (l.take i ++ l[i] :: l.drop (i + 1)).Perm (l[i] :: (l.take i ++ l.drop (i + 1))) := List.perm_middle
  rw [← List.drop_eq_getElem_cons hi, List.take_append_drop] at h1
  exact h1
theorem Rise.pair {l : List Int} : Rise l ↔ l.Pairwise (· ≤ ·) := by
  rw [List.pairwise_iff_getElem]
  constructor
  · intro h i j hi hj hij
    exact h i j _ _ (Nat.le_of_lt hij) (List.getElem?_eq_getElem hi) (List.getElem?_eq_getElem hj)
  · intro h i j x y hij hx hy
    obtain ⟨hi, rfl⟩ := List.getElem?_eq_some_iff.1 hx
    obtain ⟨hj, rfl⟩ := List.getElem?_eq_some_iff.1 hy
    rcases Nat.lt_or_eq_of_le hij with h1 | rfl
    · exact h i j hi hj h1
    · exact Int.le_refl _
theorem Rise.ins {l : List Int} (h : Rise l) (v : Int) : Rise (insI l (lb l v) v) := by
  rw [Rise.pair]
  have hp := Rise.pair.1 h
  unfold insI
  rw [List.pairwise_append]
  refine ⟨hp.sublist (List.take_sublist _ _), ?_, ?_⟩
  · refine List.Pairwise.cons (fun x hx => ?_) (hp.sublist (List.drop_sublist _ _))
    obtain ⟨j, hj, rfl⟩ := List.mem_iff_getElem.1 hx
    rw [List.getElem_drop]
    have := lb_iff l v h (lb l v + j) _ (List.getElem?_eq_getElem (by simp at hj; omega))
    omega
  · intro x hx y hy
    obtain ⟨i, hi, rfl⟩ := List.mem_iff_getElem.1 hx
    rw [List.getElem_take]
    simp at hi
    have h1 := (lb_iff l v h i _ (List.getElem?_eq_getElem (by omega))).2 (by omega)
    rcases List.mem_cons.1 hy with rfl | hy
    · omega
    · obtain ⟨j, hj, rfl⟩ := List.mem_iff_getElem.1 hy
      rw [List.getElem_drop]
      have := lb_iff l v h (lb l v + j) _ (List.getElem?_eq_getElem (by simp at hj; omega))
      omega
theorem Rise.del {l : List Int} (h : Rise l) (i : Nat) : Rise (delI l i) := by
  rw [Rise.pair] at *
  refine h.sublist ?_
  unfold delI
  have := (List.Sublist.refl (l.take i)).append ((List.drop_sublist 1 (l.drop i)))
  rw [List.take_append_drop, List.drop_drop] at this
  exact this
theorem Rise.found {l : List Int} (h : Rise l) (v : Int) (hv : v ∈ l) : l[lb l v]? = some v := by
  obtain ⟨i, hi, rfl⟩ := List.mem_iff_getElem.1 hv
  have h1 : ¬ i < lb l l[i] := fun h1 => by
    have := (lb_iff l _ h i _ (List.getElem?_eq_getElem hi)).2 h1
    omega
  have h2 : lb l l[i] < l.length := by omega
  rw [List.getElem?_eq_getElem h2]
  have h3 := lb_iff l l[i] h (lb l l[i]) _ (List.getElem?_eq_getElem h2)
  have h4 := h (lb l l[i]) i _ _ (by omega) (List.getElem?_eq_getElem h2) (List.getElem?_eq_getElem hi)
  congr 1
  omega
end Go.Proofs.Ytfhhdlpglfjdgaa
