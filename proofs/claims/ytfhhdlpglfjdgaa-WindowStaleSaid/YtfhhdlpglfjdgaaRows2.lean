/- Rows of the call's own that may begin inside their block; append to them. -/
import Derived.Test.YtfhhdlpglfjdgaaBase
import Derived.Deep.RegionLawGrows
set_option linter.unusedVariables false
set_option linter.unusedSimpArgs false
namespace Go.Proofs.Ytfhhdlpglfjdgaa
open Go.RowKit

def putL (cur : Array Value) : Nat → List Value → Array Value
  | _, [] => cur
  | o, v :: r => putL (cur.setIfInBounds o v) (o + 1) r
theorem putL_size : ∀ (vs : List Value) (o : Nat) (cur : Array Value), (putL cur o vs).size = cur.size
  | [], _, _ => rfl
  | v :: r, o, cur => by rw [putL, putL_size r]; simp
theorem putL_out : ∀ (vs : List Value) (o : Nat) (cur : Array Value) (k : Nat), k < o ∨ o + vs.length ≤ k → (putL cur o vs)[k]? = cur[k]?
  | [], _, _, _, _ => rfl
  | v :: r, o, cur, k, h => by
    rw [putL, putL_out r (o + 1) _ k (by simp at h; omega), Array.getElem?_setIfInBounds]
    rw [if_neg (by simp at h; omega)]
theorem putL_in : ∀ (vs : List Value) (o : Nat) (cur : Array Value) (j : Nat), j < vs.length → o + vs.length ≤ cur.size → (putL cur o vs)[o + j]? = vs[j]?
  | v :: r, o, cur, 0, h, hs => by
    show (putL (cur.setIfInBounds o v) (o + 1) r)[o]? = _
    rw [putL_out r (o + 1) _ o (by omega), Array.getElem?_setIfInBounds]
    simp at hs ⊢
    omega
  | v :: r, o, cur, j + 1, h, hs => by
    have := putL_in r (o + 1) (cur.setIfInBounds o v) j (by simpa using h) (by simp at hs ⊢; omega)
    rw [putL, show o + (j + 1) = o + 1 + j by omega, this]
    simp

theorem setCells_blk {e : TypeId} {fr : Nat × Nat} (b : Nat) : ∀ (vs : List Value) (o : Nat) (w : World) (cur : Array Value), w.heap[b]? = some (.cells cur e fr) → (w.setCells b o vs).heap[b]? = some (.cells (putL cur o vs) e fr)
  | [], _, _, _, h => h
  | v :: r, o, w, cur, h => by
    rw [World.setCells, putL]
    exact setCells_blk b r (o + 1) _ _ (hb_set h o v)
theorem setCells_grown (b : Nat) : ∀ (vs : List Value) (o : Nat) (w : World), w.grownBy (w.setCells b o vs) (some b)
  | [], _, w => ⟨rfl, rfl, rfl, Nat.le_refl _, fun _ _ _ => rfl⟩
  | v :: r, o, w => by
    have h := setCells_grown b r (o + 1) (w.setCell ⟨b, o, none⟩ v)
    rw [World.setCells]
    refine ⟨h.os, h.tape, h.output, by have := h.size; simpa [World.setCell] using this, fun k hk hne => ?_⟩
    rw [h.block k (by simpa [World.setCell] using hk) hne, Below.heap_setCell _ _ _ _ (fun e => hne (by rw [e]))]

/-- A row of the call's own, n elements of 'size' cells: nil, or it begins anywhere in a block from base on. -/
def RowQ (w : World) (base : Nat) (e : TypeId) (size : Nat) (v : Value) (n : Nat) (xs : List Value) : Prop :=
  xs.length = n * size ∧
  ((v = .slice none 0 0 ∧ n = 0) ∨
   ∃ g off cap cur, v = .slice (some ⟨g, off, none⟩) n cap ∧ base ≤ g ∧ w.heap[g]? = some (.cells cur e (0, 0)) ∧ n ≤ cap ∧ cap ≤ maxLen ∧ off + cap * size ≤ cur.size ∧ ∀ j u, xs[j]? = some u → cur[off + j]? = some u)

theorem RowQ.nil (w : World) (base : Nat) (e : TypeId) (size : Nat) : RowQ w base e size (.slice none 0 0) 0 [] := ⟨by simp, .inl ⟨rfl, rfl⟩⟩
theorem RowQ.ofOwn {w : World} {base : Nat} {e : TypeId} {size n : Nat} {v : Value} {xs : List Value} (h : w.ownsRow base e size v n xs) : RowQ w base e size v n xs := by
  obtain ⟨h1, h2⟩ := h
  refine ⟨h1, ?_⟩
  rcases h2 with h2 | ⟨g, cap, cur, rfl, hb, hh, hn, hc, hs, ht⟩
  · exact .inl h2
  · refine .inr ⟨g, 0, cap, cur, rfl, hb, hh, hn, hc, by omega, fun j u hj => ?_⟩
    rw [← ht, List.getElem?_take] at hj
    split at hj
    · simpa using hj
    · simp at hj
theorem RowQ.mono {w : World} {base base' : Nat} {e : TypeId} {size n : Nat} {v : Value} {xs : List Value} (h : RowQ w base e size v n xs) (hb : base' ≤ base) : RowQ w base' e size v n xs := by
  obtain ⟨h1, h2⟩ := h
  refine ⟨h1, ?_⟩
  rcases h2 with h2 | ⟨g, off, cap, cur, rfl, hb', r⟩
  · exact .inl h2
  · exact .inr ⟨g, off, cap, cur, rfl, by omega, r⟩
theorem RowQ.lt {w : World} {base : Nat} {e : TypeId} {size n : Nat} {v : Value} {xs : List Value} (h : RowQ w base e size v n xs) : ∀ k, v.ownBlock = some k → base ≤ k ∧ k < w.heap.size := by
  intro k hk
  rcases h.2 with ⟨rfl, _⟩ | ⟨g, off, cap, cur, rfl, hb, hh, _⟩
  · simp [Value.ownBlock] at hk
  · simp [Value.ownBlock] at hk
    subst hk
    exact ⟨hb, hb_lt hh⟩
/-- The row's block as it was: the row as it was. -/
theorem RowQ.keep {w w' : World} {base : Nat} {e : TypeId} {size n : Nat} {v : Value} {xs : List Value} (h : RowQ w base e size v n xs) (hk : ∀ k, v.ownBlock = some k → w'.heap[k]? = w.heap[k]?) : RowQ w' base e size v n xs := by
  obtain ⟨h1, h2⟩ := h
  refine ⟨h1, ?_⟩
  rcases h2 with h2 | ⟨g, off, cap, cur, rfl, hb, hh, r⟩
  · exact .inl h2
  · exact .inr ⟨g, off, cap, cur, rfl, hb, (hk g rfl).trans hh, r⟩
theorem RowQ.below {w w' : World} {base B : Nat} {e : TypeId} {size n : Nat} {v : Value} {xs : List Value} (h : RowQ w base e size v n xs) (hb : Below B w w') (hB : ∀ k, v.ownBlock = some k → k < B) : RowQ w' base e size v n xs :=
  h.keep fun k hk => hb.block k (hB k hk)
theorem RowQ.alloc {w : World} {base : Nat} {e : TypeId} {size n : Nat} {v : Value} {xs : List Value} (h : RowQ w base e size v n xs) (o : Obj) : RowQ (w.alloc o) base e size v n xs :=
  h.keep fun k hk => Below.heap_alloc w o k (h.lt k hk).2
theorem RowQ.drew {w : World} {base : Nat} {e : TypeId} {size n : Nat} {v : Value} {xs : List Value} (h : RowQ w base e size v n xs) : RowQ w.drew base e size v n xs := h
theorem RowQ.drewN {w : World} {base : Nat} {e : TypeId} {size n : Nat} {v : Value} {xs : List Value} (h : RowQ w base e size v n xs) (m : Nat) : RowQ (w.drewN m) base e size v n xs := h
/-- A block that is not the row's, behind an append. -/
theorem grown_cell {w w1 : World} {row : Option Nat} (hg : w.grownBy w1 row) {b o : Nat} {v : Value} (h : w.cell? ⟨b, o, none⟩ = some v) (hne : some b ≠ row) : w1.cell? ⟨b, o, none⟩ = some v := hg.cell h hne
theorem grown_free {w w1 : World} {row : Option Nat} (hg : w.grownBy w1 row) {b o : Nat} (hb : b < w.heap.size) (h : w.frozen? ⟨b, o, none⟩ = false) (hne : some b ≠ row) : w1.frozen? ⟨b, o, none⟩ = false :=
  (World.frozen?_of_block (a := ⟨b, o, none⟩) (hg.block b hb hne)).trans h
theorem RowQ.form {w : World} {base : Nat} {e : TypeId} {size n : Nat} {v : Value} {xs : List Value} (h : RowQ w base e size v n xs) : ∃ A cap, v = .slice A n cap ∧ n ≤ cap ∧ cap ≤ maxLen ∧ (A = none → n = 0 ∧ cap = 0) ∧
    ∀ ad, A = some ad → ∃ g off, ad = ⟨g, off, none⟩ ∧ base ≤ g ∧ g < w.heap.size ∧ (∀ j u, xs[j]? = some u → w.cell? ⟨g, off + j, none⟩ = some u) ∧ (∀ j, w.frozen? ⟨g, j, none⟩ = false) ∧ (∀ j, j < cap * size → (w.cell? ⟨g, off + j, none⟩).isSome = true) := by
  rcases h.2 with ⟨rfl, rfl⟩ | ⟨g, off, cap, cur, rfl, hb, hh, hn, hc, hs, hr⟩
  · exact ⟨none, 0, rfl, Nat.le_refl _, Nat.zero_le _, fun _ => ⟨rfl, rfl⟩, fun _ h => by simp at h⟩
  · refine ⟨_, cap, rfl, hn, hc, fun h => by simp at h, fun ad h => ⟨g, off, by simpa using h.symm, hb, hb_lt hh, fun j u hj => ?_, fun j => hb_free hh j, fun j hj => ?_⟩⟩
    · rw [hb_cell hh]; exact hr j u hj
    · rw [hb_cell hh, Array.getElem?_eq_getElem (by omega)]; rfl

theorem RowQ.take {w : World} {base : Nat} {e : TypeId} {size n cap k : Nat} {A : Option Addr} {xs : List Value} (h : RowQ w base e size (.slice A n cap) n xs) (hk : k ≤ n) : RowQ w base e size (.slice A k cap) k (xs.take (k * size)) := by
  obtain ⟨h1, h2⟩ := h
  refine ⟨by rw [List.length_take, h1]; exact Nat.min_eq_left (Nat.mul_le_mul_right size hk), ?_⟩
  rcases h2 with ⟨hv, h0⟩ | ⟨g, off, cap', cur, hv, hb, hh, hn, hc, hs, hr⟩
  · simp at hv
    obtain ⟨rfl, rfl, rfl⟩ := hv
    exact .inl ⟨by rw [show k = 0 by omega], by omega⟩
  · simp at hv
    obtain ⟨rfl, rfl⟩ := hv
    refine .inr ⟨g, off, cap, cur, rfl, hb, hh, by omega, hc, hs, fun j u hj => hr j u ?_⟩
    rw [List.getElem?_take] at hj
    split at hj
    · exact hj
    · simp at hj
/-- The first k elements struck. -/
theorem RowQ.drop {w : World} {base : Nat} {e : TypeId} {size n cap k g off : Nat} {xs : List Value} (h : RowQ w base e size (.slice (some ⟨g, off, none⟩) n cap) n xs) (hk : k ≤ n) :
    RowQ w base e size (.slice (some ⟨g, off + k * size, none⟩) (n - k) (cap - k)) (n - k) (xs.drop (k * size)) := by
  obtain ⟨h1, h2⟩ := h
  refine ⟨by rw [List.length_drop, h1, Nat.sub_mul], ?_⟩
  rcases h2 with ⟨hv, h0⟩ | ⟨g', off', cap', cur, hv, hb, hh, hn, hc, hs, hr⟩
  · simp at hv
  · simp at hv
    obtain ⟨⟨rfl, rfl⟩, rfl⟩ := hv
    have e1 : k * size ≤ cap * size := Nat.mul_le_mul_right size (by omega)
    refine .inr ⟨g, off + k * size, cap - k, cur, rfl, hb, hh, by omega, by omega, by rw [Nat.sub_mul]; omega, fun j u hj => ?_⟩
    rw [List.getElem?_drop] at hj
    rw [show off + k * size + j = off + (k * size + j) by omega]
    exact hr _ u hj
/-- Behind all of them: an empty row at the old place. -/
theorem RowQ.empty {w : World} {base : Nat} {e : TypeId} {size n cap g off : Nat} {xs : List Value} (h : RowQ w base e size (.slice (some ⟨g, off, none⟩) n cap) n xs) : RowQ w base e size (.slice (some ⟨g, off, none⟩) 0 0) 0 [] := by
  obtain ⟨h1, h2⟩ := h
  refine ⟨by simp, ?_⟩
  rcases h2 with ⟨hv, h0⟩ | ⟨g', off', cap', cur, hv, hb, hh, hn, hc, hs, hr⟩
  · simp at hv
  · simp at hv
    obtain ⟨⟨rfl, rfl⟩, rfl⟩ := hv
    exact .inr ⟨g, off, 0, cur, rfl, hb, hh, Nat.le_refl _, Nat.zero_le _, by omega, fun j u hj => by simp at hj⟩

/-- One new element, boxed. -/
theorem news1 (W : World) (x : Value) (t : TypeId) : ∀ (j : Nat) (u : Value), [x][j]? = some u → (W.alloc (.cells #[x] t)).cell? ((⟨W.heap.size, 0, none⟩ : Addr).add j) = some u := by
  intro j u h
  match j, h with
  | 0, h => simp at h; subst h; simp [Addr.add]
theorem news2 (W : World) (x y : Value) (t : TypeId) : ∀ (j : Nat) (u : Value), [x, y][j]? = some u → (W.alloc (.cells #[x, y] t)).cell? ((⟨W.heap.size, 0, none⟩ : Addr).add j) = some u := by
  intro j u h
  match j, h with
  | 0, h => simp at h; subst h; simp [Addr.add]
  | 1, h => simp at h; subst h; simp [Addr.add]
theorem one1 (k : IntKind) (a : Int) : ∀ u ∈ [Value.int k a], u.oneCell' = true := by
  intro u h
  simp at h
  subst h
  rfl
theorem one2 (k k' : IntKind) (a b : Int) : ∀ u ∈ [Value.int k a, Value.int k' b], u.oneCell' = true := by
  intro u h
  simp at h
  rcases h with rfl | rfl <;> rfl

/-- append TO A ROW OF THE CALL's OWN, as one step of a region that draws. -/
theorem step_append_q {P : Program} {ops : Array Oper} {o : Oper} {a : Act} {w : World} {K : Act → World → Prop} {Q : Exit → Act → World → Prop} {E : Prop}
    (hg : o.guard = none) (s x : Operand) (t : TypeId) (hop : o.op = Op.call { callee := Callee.builtin Builtin.append, args := #[s, x], argTypes := #[t, t] })
    (e : TypeId) (i : TypeInfo) (z : Value) (size bytes : Nat) (h1 : P.underlying t = some (.slice e)) (h2 : P.info? e = some i) (h3 : i.zero = some z) (h4 : i.size = size) (h5 : i.bytes = bytes) (h6 : z.cells.size = size) (h7 : 0 < size)
    (base : Nat) (v : Value) (n : Nat) (xs : List Value) (hs : a.eval s = v) (hq : RowQ w base e size v n xs) (hbase : base ≤ w.heap.size)
    (ad : Addr) (m c : Nat) (news : List Value) (hx : a.eval x = .slice (some ad) m c) (hn : news.length = m * size) (hc : ∀ j u, news[j]? = some u → w.cell? (ad.add j) = some u) (h1c : ∀ u ∈ news, u.oneCell' = true)
    (hm : 0 < m) (b1 : n + m ≤ maxLen) (b2 : (n + m) * bytes ≤ 140737488355328)
    (hK : ∀ g off cap w', RowQ w' base e size (.slice (some ⟨g, off, none⟩) (n + m) cap) (n + m) (xs ++ news) → w.grownBy w' v.ownBlock → (v.ownBlock = some g ∨ w.heap.size ≤ g) → g < w'.heap.size → K (a.put o.dst (.slice (some ⟨g, off, none⟩) (n + m) cap)) w') :
    if Region.wanted o (yielded ops a.tmps) = true then Oper.wp P o a w K Q else E := by
  have hgrow : ∀ (ao : Option Addr) (cap : Nat), v = .slice ao n cap → (ao = none → n = 0 ∧ cap = 0) → (∀ b, ao = some b → ∀ j u, xs[j]? = some u → w.cell? (b.add j) = some u) → cap < n + m → if Region.wanted o (yielded ops a.tmps) = true then Oper.wp P o a w K Q else E := by
    intro ao cap hv hnone hold hful
    refine step_append_grows hg s x t hop e i z size bytes h1 h2 h3 h4 h5 h6 h7 ao n cap xs (hs.trans hv) hnone hq.1 hold ad m c news hx hn hc h1c hful b1 b2 (fun v' w' hown hgr => ?_)
    have hq' := RowQ.ofOwn hown
    rcases hown.2 with ⟨_, h0⟩ | ⟨g, cap', cur, rfl, hb, hh, _⟩
    · omega
    · exact hK g 0 cap' w' (hq'.mono hbase) ⟨hgr.os, hgr.tape, hgr.output, hgr.size, fun k hk hne => hgr.block k hk (by simp)⟩ (.inr hb) (hb_lt hh)
  rcases hq.2 with ⟨hv, hn0⟩ | ⟨g, off, cap, cur, hv, hb, hh, hnc, hcm, hcs, hr⟩
  · subst hn0
    exact hgrow none 0 hv (fun _ => ⟨rfl, rfl⟩) (fun b h => by simp at h) (by omega)
  · by_cases hroom : n + m ≤ cap
    · have hsz : (n + m) * size ≤ cap * size := Nat.mul_le_mul_right size hroom
      rw [Nat.add_mul] at hsz
      refine step_append_room hg s x t hop e i size h1 h2 h4 g off n cap (hs.trans hv) ad m c news hx hn hc h1c hroom (fun j hj => ?_) ?_
      · rw [hb_cell hh, Array.getElem?_eq_getElem (by omega)]
        exact ⟨rfl, hb_free hh _⟩
      · have hblk := setCells_blk g news (off + n * size) w cur hh
        refine hK g off cap _ ⟨by rw [List.length_append, hq.1, hn, Nat.add_mul], .inr ⟨g, off, cap, _, rfl, hb, hblk, hroom, hcm, by rw [putL_size]; exact hcs, fun j u hj => ?_⟩⟩ ?_ (.inl ?_) (hb_lt hblk)
        · rw [List.getElem?_append] at hj
          split at hj
          · rename_i hlt
            rw [putL_out _ _ _ _ (by rw [hq.1] at hlt; omega)]
            exact hr j u hj
          · rename_i hge
            rw [hq.1] at hj hge
            have hj' : j - n * size < news.length := (List.getElem?_eq_some_iff.1 hj).1
            have := putL_in news (off + n * size) cur (j - n * size) hj' (by omega)
            rw [show off + n * size + (j - n * size) = off + j by omega] at this
            rw [this]; exact hj
        · rw [hv]; exact setCells_grown g news _ w
        · rw [hv]; rfl
    · refine hgrow (some ⟨g, off, none⟩) cap hv (fun h => by simp at h) (fun b hb j u hj => ?_) (by omega)
      obtain rfl : (⟨g, off, none⟩ : Addr) = b := by simpa using hb
      have : (⟨g, off, none⟩ : Addr).add j = ⟨g, off + j, none⟩ := by unfold Addr.add; split <;> simp_all
      rw [this, hb_cell hh]; exact hr j u hj
/-- The same in a region that keeps its order. -/
theorem wpList_append_q {P : Program} {ops : Array Oper} {rest : List Oper} {o : Oper} {a : Act} {w : World} {Q : Exit → Act → World → Prop}
    (hg : o.guard = none) (s x : Operand) (t : TypeId) (hop : o.op = Op.call { callee := Callee.builtin Builtin.append, args := #[s, x], argTypes := #[t, t] })
    (e : TypeId) (i : TypeInfo) (z : Value) (size bytes : Nat) (h1 : P.underlying t = some (.slice e)) (h2 : P.info? e = some i) (h3 : i.zero = some z) (h4 : i.size = size) (h5 : i.bytes = bytes) (h6 : z.cells.size = size) (h7 : 0 < size)
    (base : Nat) (v : Value) (n : Nat) (xs : List Value) (hs : a.eval s = v) (hq : RowQ w base e size v n xs) (hbase : base ≤ w.heap.size)
    (ad : Addr) (m c : Nat) (news : List Value) (hx : a.eval x = .slice (some ad) m c) (hn : news.length = m * size) (hc : ∀ j u, news[j]? = some u → w.cell? (ad.add j) = some u) (h1c : ∀ u ∈ news, u.oneCell' = true)
    (hm : 0 < m) (b1 : n + m ≤ maxLen) (b2 : (n + m) * bytes ≤ 140737488355328)
    (hK : ∀ g off cap w', RowQ w' base e size (.slice (some ⟨g, off, none⟩) (n + m) cap) (n + m) (xs ++ news) → w.grownBy w' v.ownBlock → (v.ownBlock = some g ∨ w.heap.size ≤ g) → g < w'.heap.size → wpList P ops Q rest (a.put o.dst (.slice (some ⟨g, off, none⟩) (n + m) cap)) w') :
    wpList P ops Q (o :: rest) a w :=
  wpList_step fun K hKK => step_append_q hg s x t hop e i z size bytes h1 h2 h3 h4 h5 h6 h7 base v n xs hs hq hbase ad m c news hx hn hc h1c hm b1 b2 (fun g off cap w' a1 a2 a3 a4 => hKK _ _ (hK g off cap w' a1 a2 a3 a4))
end Go.Proofs.Ytfhhdlpglfjdgaa
