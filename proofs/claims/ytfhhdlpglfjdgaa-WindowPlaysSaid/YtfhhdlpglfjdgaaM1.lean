/- Texts of mine, put together: Base, Rows2, Frame, RingA, RingB, RingC, RingD, RingE, RingF, MonoA, MonoB. -/
import Derived.Test.YtfhhdlpglfjdgaaProg
import Derived.WalkKit
import Derived.WalkSpells
import Derived.WalkLawsBesides
import Derived.KernelRfl
import Derived.Deep.QuietTactic
import Derived.BigQuiet
import Derived.Lib.Hide
import Derived.Deep.RegionWith
import Derived.Deep.RegionHeld3
import Derived.Deep.RegionLaw
import Derived.Deep.DeepCutAuto
import Derived.Deep.LoopGhost
import Derived.StillTailTactics
import Derived.Deep.RegionLawGrows
import Derived.Laws.MakeOwn
/- Words on blocks of memory, used by all walks of this seat. -/
set_option linter.unusedVariables false
set_option linter.unusedSimpArgs false
namespace Go.Proofs.Ytfhhdlpglfjdgaa
open Go.RowKit

theorem hb_lt {w : World} {b : Nat} {o : Obj} (h : w.heap[b]? = some o) : b < w.heap.size := (Array.getElem?_eq_some_iff.1 h).1
theorem hb_cell {w : World} {b : Nat} {cs : Array Value} {t : TypeId} {fr : Nat × Nat} (h : w.heap[b]? = some (.cells cs t fr)) (i : Nat) : w.cell? ⟨b, i, none⟩ = cs[i]? := by simp [World.cell?, h]
theorem hb_free {w : World} {b : Nat} {cs : Array Value} {t : TypeId} (h : w.heap[b]? = some (.cells cs t (0, 0))) (i : Nat) : w.frozen? ⟨b, i, none⟩ = false := by simp [World.frozen?, h]
theorem hb_new (w : World) (o : Obj) : (w.alloc o).heap[w.heap.size]? = some o := by show (w.heap.push o)[w.heap.size]? = some o; simp
theorem hb_alloc {w : World} {b : Nat} {o : Obj} (h : w.heap[b]? = some o) (p : Obj) : (w.alloc p).heap[b]? = some o := by
  rw [Below.heap_alloc w p b (hb_lt h)]; exact h
theorem hb_set {w : World} {b : Nat} {cs : Array Value} {t : TypeId} {fr : Nat × Nat} (h : w.heap[b]? = some (.cells cs t fr)) (i : Nat) (v : Value) : (w.setCell ⟨b, i, none⟩ v).heap[b]? = some (.cells (cs.setIfInBounds i v) t fr) := by
  simp [World.setCell, Array.getElem?_modify, h]
theorem hb_far {w : World} {b : Nat} {o : Obj} (h : w.heap[b]? = some o) {a : Addr} (hne : b ≠ a.block) (v : Value) : (w.setCell a v).heap[b]? = some o := by
  rw [Below.heap_setCell w a v b hne]; exact h
theorem hb_below {w w1 : World} {B b : Nat} {o : Obj} (h : w.heap[b]? = some o) (hb : Below B w w1) (hB : b < B) : w1.heap[b]? = some o := (hb.block b hB).trans h
theorem hb_below' {w w1 : World} {b : Nat} {o : Obj} (h : w.heap[b]? = some o) (hb : Below w.heap.size w w1) : w1.heap[b]? = some o := hb_below h hb (hb_lt h)
theorem hb_drewN {w : World} {b : Nat} {o : Obj} (h : w.heap[b]? = some o) (n : Nat) : (w.drewN n).heap[b]? = some o := h

/-- Blocks of the call's own, one behind the other. -/
theorem below1 (w : World) (o : Obj) : Below w.heap.size w (w.alloc o) := (Below.refl _ _).alloc (Nat.le_refl _) _
theorem below2 (w : World) (o p : Obj) : Below w.heap.size w ((w.alloc o).alloc p) := (below1 w o).alloc (by simp) _
theorem below3 (w : World) (o p q : Obj) : Below w.heap.size w (((w.alloc o).alloc p).alloc q) := (below2 w o p).alloc (by simp; omega) _
theorem below4 (w : World) (o p q r : Obj) : Below w.heap.size w ((((w.alloc o).alloc p).alloc q).alloc r) := (below3 w o p q).alloc (by simp; omega) _
theorem below_drewN (w : World) (n : Nat) : Below w.heap.size w (w.drewN n) := ⟨rfl, rfl, rfl, Nat.le_refl _, fun _ _ => rfl⟩
/-- One call behind what a function has laid. -/
theorem below_up {w w1 w2 : World} (h : Below w.heap.size w w1) (k : Below w1.heap.size w1 w2) : Below w.heap.size w w2 := h.trans (k.mono h.size)
theorem bcell {W w1 : World} (hb : Below W.heap.size W w1) : (∀ b o, b < W.heap.size → w1.cell? ⟨b, o, none⟩ = W.cell? ⟨b, o, none⟩) ∧ (∀ b o, b < W.heap.size → w1.frozen? ⟨b, o, none⟩ = W.frozen? ⟨b, o, none⟩) :=
  ⟨fun b o h => hb.cell (p := ⟨b, o, none⟩) h, fun b o h => hb.frozen (p := ⟨b, o, none⟩) h⟩

theorem ret_int {k : IntKind} {a b : Int} (h : a = b) : Ending.returned (.int k a) = .returned (.int k b) := by rw [h]
theorem ret_bool {a b : Bool} (h : a = b) : Ending.returned (.bool a) = .returned (.bool b) := by rw [h]
theorem ret_ib {k : IntKind} {a b : Int} {c d : Bool} (h : a = b) (h2 : c = d) : Ending.returned (.tuple #[.int k a, .bool c]) = .returned (.tuple #[.int k b, .bool d]) := by rw [h, h2]
theorem ret_agg2 {k : IntKind} {a b c d : Int} (h : a = c) (h2 : b = d) : Ending.returned (.agg #[.int k a, .int k b]) = .returned (.agg #[.int k c, .int k d]) := by rw [h, h2]
theorem ret_ii {k k' : IntKind} {a b c d : Int} (h : a = c) (h2 : b = d) : Ending.returned (.tuple #[.int k a, .int k' b]) = .returned (.tuple #[.int k c, .int k' d]) := by rw [h, h2]

/-- Two cells of one block, both stored. -/
theorem two_set {w : World} {b : Nat} {x y : Value} {t : TypeId} (h : w.heap[b]? = some (.cells #[x, y] t (0, 0))) (u v : Value) :
    ((w.setCell ⟨b, 0, none⟩ u).setCell ⟨b, 1, none⟩ v).heap[b]? = some (.cells #[u, v] t (0, 0)) := by
  simpa using hb_set (hb_set h 0 u) 1 v
/-- A block of two cells, cell by cell. -/
theorem hb2 {w : World} {b : Nat} {x y : Value} {t : TypeId} (h : w.heap[b]? = some (.cells #[x, y] t (0, 0))) :
    w.cell? ⟨b, 0, none⟩ = some x ∧ w.cell? ⟨b, 1, none⟩ = some y ∧ w.frozen? ⟨b, 0, none⟩ = false ∧ w.frozen? ⟨b, 1, none⟩ = false :=
  ⟨hb_cell h 0, hb_cell h 1, hb_free h 0, hb_free h 1⟩
theorem hb_size {w : World} {b n : Nat} {o : Obj} (h : w.heap[b]? = some o) (e : b = n) : w.heap[n]? = some o := e ▸ h
theorem cell_alloc {w : World} {o : Obj} {b i : Nat} {v : Value} (hb : b < w.heap.size) (h : w.cell? ⟨b, i, none⟩ = some v) : (w.alloc o).cell? ⟨b, i, none⟩ = some v := (World.cell?_alloc_lt w o ⟨b, i, none⟩ hb).trans h
theorem free_alloc {w : World} {o : Obj} {b i : Nat} (hb : b < w.heap.size) (h : w.frozen? ⟨b, i, none⟩ = false) : (w.alloc o).frozen? ⟨b, i, none⟩ = false := (World.frozen?_of_block (a := ⟨b, i, none⟩) (Below.heap_alloc w o b hb)).trans h
/-- A region that draws its order: all but a forced tail only reads. The world under a name. -/
theorem wp_region_tail {P : Program} {id : Nat} {Q : Exit → Act → World → Prop} {a : Act} {w : World} {l : List Oper} (n : Nat) (hm : P.follows .mixedOrders = true) (hB : Region.lexTailB .any l.toArray n = true)
    (h : ∀ W, Hid (W = w.drew) → wpStill P l.toArray W (fun a' => wpList P l.toArray Q (l.drop n) a' W) (l.take n) a) : (Code.region id l.toArray true).wp P Q a w :=
  wp_region_still_tail n hm hB (h _ rfl)
theorem drew_cell {w W : World} (h : Hid (W = w.drew)) {b i : Nat} {v : Value} (c : w.cell? ⟨b, i, none⟩ = some v) : W.cell? ⟨b, i, none⟩ = some v := by rw [h.out]; exact c
theorem drew_free {w W : World} (h : Hid (W = w.drew)) {b i : Nat} (c : w.frozen? ⟨b, i, none⟩ = false) : W.frozen? ⟨b, i, none⟩ = false := by rw [h.out]; exact c
theorem drew_blk {w W : World} (h : Hid (W = w.drew)) {b : Nat} {o : Obj} (c : w.heap[b]? = some o) : W.heap[b]? = some o := by rw [h.out]; exact c
theorem drew_below {w W : World} (h : Hid (W = w.drew)) : Below w.heap.size w W := by rw [h.out]; exact (Below.refl _ _).drew
end Go.Proofs.Ytfhhdlpglfjdgaa
/- Rows of the call's own that may begin inside their block; append to them. -/
set_option linter.unusedVariables false
set_option linter.unusedSimpArgs false
namespace Go.Proofs.Ytfhhdlpglfjdgaa
open Go.RowKit

def putL (cur : Array Value) : Nat → List Value → Array Value
  | _, [] => cur
  | o, v :: r => putL (cur.setIfInBounds o v) (o + 1) r
theorem putL_size : ∀ (vs : List Value) (o : Nat) (cur : Array Value), (putL cur o vs).size = cur.size
  | [], _, _ => rfl
  | v :: r, o, cur => by rw [putL, putL_size r]; simp
theorem putL_out : ∀ (vs : List Value) (o : Nat) (cur : Array Value) (k : Nat), k < o ∨ o + vs.length ≤ k → (putL cur o vs)[k]? = cur[k]?
  | [], _, _, _, _ => rfl
  | v :: r, o, cur, k, h => by
    rw [putL, putL_out r (o + 1) _ k (by simp at h; omega), Array.getElem?_setIfInBounds]
    rw [if_neg (by simp at h; omega)]
theorem putL_in : ∀ (vs : List Value) (o : Nat) (cur : Array Value) (j : Nat), j < vs.length → o + vs.length ≤ cur.size → (putL cur o vs)[o + j]? = vs[j]?
  | v :: r, o, cur, 0, h, hs => by
    show (putL (cur.setIfInBounds o v) (o + 1) r)[o]? = _
    rw [putL_out r (o + 1) _ o (by omega), Array.getElem?_setIfInBounds]
    simp at hs ⊢
    omega
  | v :: r, o, cur, j + 1, h, hs => by
    have := putL_in r (o + 1) (cur.setIfInBounds o v) j (by simpa using h) (by simp at hs ⊢; omega)
    rw [putL, show o + (j + 1) = o + 1 + j by omega, this]
    simp

theorem setCells_blk {e : TypeId} {fr : Nat × Nat} (b : Nat) : ∀ (vs : List Value) (o : Nat) (w : World) (cur : Array Value), w.heap[b]? = some (.cells cur e fr) → (w.setCells b o vs).heap[b]? = some (.cells (putL cur o vs) e fr)
  | [], _, _, _, h => h
  | v :: r, o, w, cur, h => by
    rw [World.setCells, putL]
    exact setCells_blk b r (o + 1) _ _ (hb_set h o v)
theorem setCells_grown (b : Nat) : ∀ (vs : List Value) (o : Nat) (w : World), w.grownBy (w.setCells b o vs) (some b)
  | [], _, w => ⟨rfl, rfl, rfl, Nat.le_refl _, fun _ _ _ => rfl⟩
  | v :: r, o, w => by
    have h := setCells_grown b r (o + 1) (w.setCell ⟨b, o, none⟩ v)
    rw [World.setCells]
    refine ⟨h.os, h.tape, h.output, by have := h.size; simpa [World.setCell] using this, fun k hk hne => ?_⟩
    rw [h.block k (by simpa [World.setCell] using hk) hne, Below.heap_setCell _ _ _ _ (fun e => hne (by rw [e]))]

/-- A row of the call's own, n elements of 'size' cells: nil, or it begins anywhere in a block from base on. -/
def RowQ (w : World) (base : Nat) (e : TypeId) (size : Nat) (v : Value) (n : Nat) (xs : List Value) : Prop :=
  xs.length = n * size ∧
  ((v = .slice none 0 0 ∧ n = 0) ∨
   ∃ g off cap cur, v = .slice (some ⟨g, off, none⟩) n cap ∧ base ≤ g ∧ w.heap[g]? = some (.cells cur e (0, 0)) ∧ n ≤ cap ∧ cap ≤ maxLen ∧ off + cap * size ≤ cur.size ∧ ∀ j u, xs[j]? = some u → cur[off + j]? = some u)

theorem RowQ.nil (w : World) (base : Nat) (e : TypeId) (size : Nat) : RowQ w base e size (.slice none 0 0) 0 [] := ⟨by simp, .inl ⟨rfl, rfl⟩⟩
theorem RowQ.ofOwn {w : World} {base : Nat} {e : TypeId} {size n : Nat} {v : Value} {xs : List Value} (h : w.ownsRow base e size v n xs) : RowQ w base e size v n xs := by
  obtain ⟨h1, h2⟩ := h
  refine ⟨h1, ?_⟩
  rcases h2 with h2 | ⟨g, cap, cur, rfl, hb, hh, hn, hc, hs, ht⟩
  · exact .inl h2
  · refine .inr ⟨g, 0, cap, cur, rfl, hb, hh, hn, hc, by omega, fun j u hj => ?_⟩
    rw [← ht, List.getElem?_take] at hj
    split at hj
    · simpa using hj
    · simp at hj
theorem RowQ.mono {w : World} {base base' : Nat} {e : TypeId} {size n : Nat} {v : Value} {xs : List Value} (h : RowQ w base e size v n xs) (hb : base' ≤ base) : RowQ w base' e size v n xs := by
  obtain ⟨h1, h2⟩ := h
  refine ⟨h1, ?_⟩
  rcases h2 with h2 | ⟨g, off, cap, cur, rfl, hb', r⟩
  · exact .inl h2
  · exact .inr ⟨g, off, cap, cur, rfl, by omega, r⟩
theorem RowQ.lt {w : World} {base : Nat} {e : TypeId} {size n : Nat} {v : Value} {xs : List Value} (h : RowQ w base e size v n xs) : ∀ k, v.ownBlock = some k → base ≤ k ∧ k < w.heap.size := by
  intro k hk
  rcases h.2 with ⟨rfl, _⟩ | ⟨g, off, cap, cur, rfl, hb, hh, _⟩
  · simp [Value.ownBlock] at hk
  · simp [Value.ownBlock] at hk
    subst hk
    exact ⟨hb, hb_lt hh⟩
/-- The row's block as it was: the row as it was. -/
theorem RowQ.keep {w w' : World} {base : Nat} {e : TypeId} {size n : Nat} {v : Value} {xs : List Value} (h : RowQ w base e size v n xs) (hk : ∀ k, v.ownBlock = some k → w'.heap[k]? = w.heap[k]?) : RowQ w' base e size v n xs := by
  obtain ⟨h1, h2⟩ := h
  refine ⟨h1, ?_⟩
  rcases h2 with h2 | ⟨g, off, cap, cur, rfl, hb, hh, r⟩
  · exact .inl h2
  · exact .inr ⟨g, off, cap, cur, rfl, hb, (hk g rfl).trans hh, r⟩
theorem RowQ.below {w w' : World} {base B : Nat} {e : TypeId} {size n : Nat} {v : Value} {xs : List Value} (h : RowQ w base e size v n xs) (hb : Below B w w') (hB : ∀ k, v.ownBlock = some k → k < B) : RowQ w' base e size v n xs :=
  h.keep fun k hk => hb.block k (hB k hk)
theorem RowQ.alloc {w : World} {base : Nat} {e : TypeId} {size n : Nat} {v : Value} {xs : List Value} (h : RowQ w base e size v n xs) (o : Obj) : RowQ (w.alloc o) base e size v n xs :=
  h.keep fun k hk => Below.heap_alloc w o k (h.lt k hk).2
theorem RowQ.drew {w : World} {base : Nat} {e : TypeId} {size n : Nat} {v : Value} {xs : List Value} (h : RowQ w base e size v n xs) : RowQ w.drew base e size v n xs := h
theorem RowQ.drewN {w : World} {base : Nat} {e : TypeId} {size n : Nat} {v : Value} {xs : List Value} (h : RowQ w base e size v n xs) (m : Nat) : RowQ (w.drewN m) base e size v n xs := h
/-- A block that is not the row's, behind an append. -/
theorem grown_cell {w w1 : World} {row : Option Nat} (hg : w.grownBy w1 row) {b o : Nat} {v : Value} (h : w.cell? ⟨b, o, none⟩ = some v) (hne : some b ≠ row) : w1.cell? ⟨b, o, none⟩ = some v := hg.cell h hne
theorem grown_free {w w1 : World} {row : Option Nat} (hg : w.grownBy w1 row) {b o : Nat} (hb : b < w.heap.size) (h : w.frozen? ⟨b, o, none⟩ = false) (hne : some b ≠ row) : w1.frozen? ⟨b, o, none⟩ = false :=
  (World.frozen?_of_block (a := ⟨b, o, none⟩) (hg.block b hb hne)).trans h
theorem RowQ.form {w : World} {base : Nat} {e : TypeId} {size n : Nat} {v : Value} {xs : List Value} (h : RowQ w base e size v n xs) : ∃ A cap, v = .slice A n cap ∧ n ≤ cap ∧ cap ≤ maxLen ∧ (A = none → n = 0 ∧ cap = 0) ∧
    ∀ ad, A = some ad → ∃ g off, ad = ⟨g, off, none⟩ ∧ base ≤ g ∧ g < w.heap.size ∧ (∀ j u, xs[j]? = some u → w.cell? ⟨g, off + j, none⟩ = some u) ∧ (∀ j, w.frozen? ⟨g, j, none⟩ = false) ∧ (∀ j, j < cap * size → (w.cell? ⟨g, off + j, none⟩).isSome = true) := by
  rcases h.2 with ⟨rfl, rfl⟩ | ⟨g, off, cap, cur, rfl, hb, hh, hn, hc, hs, hr⟩
  · exact ⟨none, 0, rfl, Nat.le_refl _, Nat.zero_le _, fun _ => ⟨rfl, rfl⟩, fun _ h => by simp at h⟩
  · refine ⟨_, cap, rfl, hn, hc, fun h => by simp at h, fun ad h => ⟨g, off, by simpa using h.symm, hb, hb_lt hh, fun j u hj => ?_, fun j => hb_free hh j, fun j hj => ?_⟩⟩
    · rw [hb_cell hh]; exact hr j u hj
    · rw [hb_cell hh, Array.getElem?_eq_getElem (by omega)]; rfl

theorem RowQ.take {w : World} {base : Nat} {e : TypeId} {size n cap k : Nat} {A : Option Addr} {xs : List Value} (h : RowQ w base e size (.slice A n cap) n xs) (hk : k ≤ n) : RowQ w base e size (.slice A k cap) k (xs.take (k * size)) := by
  obtain ⟨h1, h2⟩ := h
  refine ⟨by rw [List.length_take, h1]; exact Nat.min_eq_left (Nat.mul_le_mul_right size hk), ?_⟩
  rcases h2 with ⟨hv, h0⟩ | ⟨g, off, cap', cur, hv, hb, hh, hn, hc, hs, hr⟩
  · simp at hv
    obtain ⟨rfl, rfl, rfl⟩ := hv
    exact .inl ⟨by rw [show k = 0 by omega], by omega⟩
  · simp at hv
    obtain ⟨rfl, rfl⟩ := hv
    refine .inr ⟨g, off, cap, cur, rfl, hb, hh, by omega, hc, hs, fun j u hj => hr j u ?_⟩
    rw [List.getElem?_take] at hj
    split at hj
    · exact hj
    · simp at hj
/-- The first k elements struck. -/
theorem RowQ.drop {w : World} {base : Nat} {e : TypeId} {size n cap k g off : Nat} {xs : List Value} (h : RowQ w base e size (.slice (some ⟨g, off, none⟩) n cap) n xs) (hk : k ≤ n) :
    RowQ w base e size (.slice (some ⟨g, off + k * size, none⟩) (n - k) (cap - k)) (n - k) (xs.drop (k * size)) := by
  obtain ⟨h1, h2⟩ := h
  refine ⟨by rw [List.length_drop, h1, Nat.sub_mul], ?_⟩
  rcases h2 with ⟨hv, h0⟩ | ⟨g', off', cap', cur, hv, hb, hh, hn, hc, hs, hr⟩
  · simp at hv
  · simp at hv
    obtain ⟨⟨rfl, rfl⟩, rfl⟩ := hv
    have e1 : k * size ≤ cap * size := Nat.mul_le_mul_right size (by omega)
    refine .inr ⟨g, off + k * size, cap - k, cur, rfl, hb, hh, by omega, by omega, by rw [Nat.sub_mul]; omega, fun j u hj => ?_⟩
    rw [List.getElem?_drop] at hj
    rw [show off + k * size + j = off + (k * size + j) by omega]
    exact hr _ u hj
/-- Behind all of them: an empty row at the old place. -/
theorem RowQ.empty {w : World} {base : Nat} {e : TypeId} {size n cap g off : Nat} {xs : List Value} (h : RowQ w base e size (.slice (some ⟨g, off, none⟩) n cap) n xs) : RowQ w base e size (.slice (some ⟨g, off, none⟩) 0 0) 0 [] := by
  obtain ⟨h1, h2⟩ := h
  refine ⟨by simp, ?_⟩
  rcases h2 with ⟨hv, h0⟩ | ⟨g', off', cap', cur, hv, hb, hh, hn, hc, hs, hr⟩
  · simp at hv
  · simp at hv
    obtain ⟨⟨rfl, rfl⟩, rfl⟩ := hv
    exact .inr ⟨g, off, 0, cur, rfl, hb, hh, Nat.le_refl _, Nat.zero_le _, by omega, fun j u hj => by simp at hj⟩

/-- One new element, boxed. -/
theorem news1 (W : World) (x : Value) (t : TypeId) : ∀ (j : Nat) (u : Value), [x][j]? = some u → (W.alloc (.cells #[x] t)).cell? ((⟨W.heap.size, 0, none⟩ : Addr).add j) = some u := by
  intro j u h
  match j, h with
  | 0, h => simp at h; subst h; simp [Addr.add]
theorem news2 (W : World) (x y : Value) (t : TypeId) : ∀ (j : Nat) (u : Value), [x, y][j]? = some u → (W.alloc (.cells #[x, y] t)).cell? ((⟨W.heap.size, 0, none⟩ : Addr).add j) = some u := by
  intro j u h
  match j, h with
  | 0, h => simp at h; subst h; simp [Addr.add]
  | 1, h => simp at h; subst h; simp [Addr.add]
theorem one1 (k : IntKind) (a : Int) : ∀ u ∈ [Value.int k a], u.oneCell' = true := by
  intro u h
  simp at h
  subst h
  rfl
theorem one2 (k k' : IntKind) (a b : Int) : ∀ u ∈ [Value.int k a, Value.int k' b], u.oneCell' = true := by
  intro u h
  simp at h
  rcases h with rfl | rfl <;> rfl

/-- append TO A ROW OF THE CALL's OWN, as one step of a region that draws. -/
theorem step_append_q {P : Program} {ops : Array Oper} {o : Oper} {a : Act} {w : World} {K : Act → World → Prop} {Q : Exit → Act → World → Prop} {E : Prop}
    (hg : o.guard = none) (s x : Operand) (t : TypeId) (hop : o.op = Op.call { callee := Callee.builtin Builtin.append, args := #[s, x], argTypes := #[t, t] })
    (e : TypeId) (i : TypeInfo) (z : Value) (size bytes : Nat) (h1 : P.underlying t = some (.slice e)) (h2 : P.info? e = some i) (h3 : i.zero = some z) (h4 : i.size = size) (h5 : i.bytes = bytes) (h6 : z.cells.size = size) (h7 : 0 < size)
    (base : Nat) (v : Value) (n : Nat) (xs : List Value) (hs : a.eval s = v) (hq : RowQ w base e size v n xs) (hbase : base ≤ w.heap.size)
    (ad : Addr) (m c : Nat) (news : List Value) (hx : a.eval x = .slice (some ad) m c) (hn : news.length = m * size) (hc : ∀ j u, news[j]? = some u → w.cell? (ad.add j) = some u) (h1c : ∀ u ∈ news, u.oneCell' = true)
    (hm : 0 < m) (b1 : n + m ≤ maxLen) (b2 : (n + m) * bytes ≤ 140737488355328)
    (hK : ∀ g off cap w', RowQ w' base e size (.slice (some ⟨g, off, none⟩) (n + m) cap) (n + m) (xs ++ news) → w.grownBy w' v.ownBlock → (v.ownBlock = some g ∨ w.heap.size ≤ g) → g < w'.heap.size → K (a.put o.dst (.slice (some ⟨g, off, none⟩) (n + m) cap)) w') :
    if Region.wanted o (yielded ops a.tmps) = true then Oper.wp P o a w K Q else E := by
  have hgrow : ∀ (ao : Option Addr) (cap : Nat), v = .slice ao n cap → (ao = none → n = 0 ∧ cap = 0) → (∀ b, ao = some b → ∀ j u, xs[j]? = some u → w.cell? (b.add j) = some u) → cap < n + m → if Region.wanted o (yielded ops a.tmps) = true then Oper.wp P o a w K Q else E := by
    intro ao cap hv hnone hold hful
    refine step_append_grows hg s x t hop e i z size bytes h1 h2 h3 h4 h5 h6 h7 ao n cap xs (hs.trans hv) hnone hq.1 hold ad m c news hx hn hc h1c hful b1 b2 (fun v' w' hown hgr => ?_)
    have hq' := RowQ.ofOwn hown
    rcases hown.2 with ⟨_, h0⟩ | ⟨g, cap', cur, rfl, hb, hh, _⟩
    · omega
    · exact hK g 0 cap' w' (hq'.mono hbase) ⟨hgr.os, hgr.tape, hgr.output, hgr.size, fun k hk hne => hgr.block k hk (by simp)⟩ (.inr hb) (hb_lt hh)
  rcases hq.2 with ⟨hv, hn0⟩ | ⟨g, off, cap, cur, hv, hb, hh, hnc, hcm, hcs, hr⟩
  · subst hn0
    exact hgrow none 0 hv (fun _ => ⟨rfl, rfl⟩) (fun b h => by simp at h) (by omega)
  · by_cases hroom : n + m ≤ cap
    · have hsz : (n + m) * size ≤ cap * size := Nat.mul_le_mul_right size hroom
      rw [Nat.add_mul] at hsz
      refine step_append_room hg s x t hop e i size h1 h2 h4 g off n cap (hs.trans hv) ad m c news hx hn hc h1c hroom (fun j hj => ?_) ?_
      · rw [hb_cell hh, Array.getElem?_eq_getElem (by omega)]
        exact ⟨rfl, hb_free hh _⟩
      · have hblk := setCells_blk g news (off + n * size) w cur hh
        refine hK g off cap _ ⟨by rw [List.length_append, hq.1, hn, Nat.add_mul], .inr ⟨g, off, cap, _, rfl, hb, hblk, hroom, hcm, by rw [putL_size]; exact hcs, fun j u hj => ?_⟩⟩ ?_ (.inl ?_) (hb_lt hblk)
        · rw [List.getElem?_append] at hj
          split at hj
          · rename_i hlt
            rw [putL_out _ _ _ _ (by rw [hq.1] at hlt; omega)]
            exact hr j u hj
          · rename_i hge
            rw [hq.1] at hj hge
            have hj' : j - n * size < news.length := (List.getElem?_eq_some_iff.1 hj).1
            have := putL_in news (off + n * size) cur (j - n * size) hj' (by omega)
            rw [show off + n * size + (j - n * size) = off + j by omega] at this
            rw [this]; exact hj
        · rw [hv]; exact setCells_grown g news _ w
        · rw [hv]; rfl
    · refine hgrow (some ⟨g, off, none⟩) cap hv (fun h => by simp at h) (fun b hb j u hj => ?_) (by omega)
      obtain rfl : (⟨g, off, none⟩ : Addr) = b := by simpa using hb
      have : (⟨g, off, none⟩ : Addr).add j = ⟨g, off + j, none⟩ := by unfold Addr.add; split <;> simp_all
      rw [this, hb_cell hh]; exact hr j u hj
/-- The same in a region that keeps its order. -/
theorem wpList_append_q {P : Program} {ops : Array Oper} {rest : List Oper} {o : Oper} {a : Act} {w : World} {Q : Exit → Act → World → Prop}
    (hg : o.guard = none) (s x : Operand) (t : TypeId) (hop : o.op = Op.call { callee := Callee.builtin Builtin.append, args := #[s, x], argTypes := #[t, t] })
    (e : TypeId) (i : TypeInfo) (z : Value) (size bytes : Nat) (h1 : P.underlying t = some (.slice e)) (h2 : P.info? e = some i) (h3 : i.zero = some z) (h4 : i.size = size) (h5 : i.bytes = bytes) (h6 : z.cells.size = size) (h7 : 0 < size)
    (base : Nat) (v : Value) (n : Nat) (xs : List Value) (hs : a.eval s = v) (hq : RowQ w base e size v n xs) (hbase : base ≤ w.heap.size)
    (ad : Addr) (m c : Nat) (news : List Value) (hx : a.eval x = .slice (some ad) m c) (hn : news.length = m * size) (hc : ∀ j u, news[j]? = some u → w.cell? (ad.add j) = some u) (h1c : ∀ u ∈ news, u.oneCell' = true)
    (hm : 0 < m) (b1 : n + m ≤ maxLen) (b2 : (n + m) * bytes ≤ 140737488355328)
    (hK : ∀ g off cap w', RowQ w' base e size (.slice (some ⟨g, off, none⟩) (n + m) cap) (n + m) (xs ++ news) → w.grownBy w' v.ownBlock → (v.ownBlock = some g ∨ w.heap.size ≤ g) → g < w'.heap.size → wpList P ops Q rest (a.put o.dst (.slice (some ⟨g, off, none⟩) (n + m) cap)) w') :
    wpList P ops Q (o :: rest) a w :=
  wpList_step fun K hKK => step_append_q hg s x t hop e i z size bytes h1 h2 h3 h4 h5 h6 h7 base v n xs hs hq hbase ad m c news hx hn hc h1c hm b1 b2 (fun g off cap w' a1 a2 a3 a4 => hKK _ _ (hK g off cap w' a1 a2 a3 a4))
end Go.Proofs.Ytfhhdlpglfjdgaa
/- Frames: which blocks a call may turn; footprints: which blocks a thing lies in. -/
set_option linter.unusedVariables false
set_option linter.unusedSimpArgs false
namespace Go.Proofs.Ytfhhdlpglfjdgaa
open Go.RowKit

/-! Told by footprints: which blocks a thing lies in. -/

/-- w' is w but for the blocks of F, and for new ones. -/
structure Fr (F : Nat → Prop) (w w' : World) : Prop where
  os : w'.os = w.os
  tape : w'.tape = w.tape
  output : w'.output = w.output
  size : w.heap.size ≤ w'.heap.size
  block : ∀ k, k < w.heap.size → ¬ F k → w'.heap[k]? = w.heap[k]?
theorem Fr.refl (F : Nat → Prop) (w : World) : Fr F w w := ⟨rfl, rfl, rfl, Nat.le_refl _, fun _ _ _ => rfl⟩
theorem Fr.ofBelow {F : Nat → Prop} {w w' : World} (h : Below w.heap.size w w') : Fr F w w' := ⟨h.os, h.tape, h.output, h.size, fun k hk _ => h.block k hk⟩
/-- What the footprint may become. -/
def Ext (F F' : Nat → Prop) (w w' : World) : Prop := ∀ k, F' k → F k ∨ (w.heap.size ≤ k ∧ k < w'.heap.size)
theorem Ext.refl (F : Nat → Prop) (w w' : World) : Ext F F w w' := fun _ h => .inl h
theorem Ext.trans {F F' F'' : Nat → Prop} {a b c : World} (h : Ext F F' a b) (k : Ext F' F'' b c) (h1 : a.heap.size ≤ b.heap.size) (h2 : b.heap.size ≤ c.heap.size) : Ext F F'' a c := by
  intro x hx
  rcases k x hx with hx | ⟨a1, a2⟩
  · rcases h x hx with hx | ⟨b1, b2⟩
    · exact .inl hx
    · exact .inr ⟨b1, by omega⟩
  · exact .inr ⟨by omega, a2⟩
/-- One behind the other; the footprint has grown between them. -/
theorem Fr.trans {F F' : Nat → Prop} {a b c : World} (h : Fr F a b) (k : Fr F' b c) (e : Ext F F' a b) : Fr F a c :=
  ⟨k.os.trans h.os, k.tape.trans h.tape, k.output.trans h.output, Nat.le_trans h.size k.size, fun i hi hn => (k.block i (by have := h.size; omega) (fun hf => (e i hf).elim hn (fun x => by omega))).trans (h.block i hi hn)⟩
theorem Fr.mono {F F' : Nat → Prop} {a b : World} (h : Fr F a b) (hs : ∀ k, F k → F' k) : Fr F' a b := ⟨h.os, h.tape, h.output, h.size, fun i hi hn => h.block i hi (fun hf => hn (hs i hf))⟩
theorem Fr.setCell {F : Nat → Prop} {a b : World} (h : Fr F a b) {p : Addr} (hp : F p.block ∨ a.heap.size ≤ p.block) (v : Value) : Fr F a (b.setCell p v) :=
  ⟨h.os, h.tape, h.output, by have := h.size; simpa [World.setCell] using this, fun k hk hn => by
    rw [Below.heap_setCell _ _ _ _ (fun e => by subst e; exact hp.elim hn (fun x => by omega))]
    exact h.block k hk hn⟩
theorem Fr.drewN {F : Nat → Prop} {a b : World} (h : Fr F a b) (n : Nat) : Fr F a (b.drewN n) := ⟨h.os, h.tape, h.output, h.size, h.block⟩
theorem Fr.grown {F : Nat → Prop} {w w' : World} {row : Option Nat} (h : w.grownBy w' row) (hr : ∀ k, row = some k → F k) : Fr F w w' :=
  ⟨h.os, h.tape, h.output, h.size, fun k hk hn => h.block k hk (fun e => hn (hr k e.symm))⟩

end Go.Proofs.Ytfhhdlpglfjdgaa
/- Contracts of package ring at samples: what only reads. -/
set_option linter.unusedVariables false
set_option linter.unusedSimpArgs false
namespace Go.Proofs.Ytfhhdlpglfjdgaa
open Go.RowKit

/-- A Ring that lies in block g. -/
def RingBlk (w : World) (g : Nat) (room frm n : Nat) (v : Value) : Prop := w.heap[g]? = some (.cells #[.int .i64 room, .int .i64 frm, .int .i64 n, v] 80 (0, 0))
theorem RingBlk.cells {w : World} {g room frm n : Nat} {v : Value} (h : RingBlk w g room frm n v) : w.cell? ⟨g, 0, none⟩ = some (.int .i64 room) ∧ w.cell? ⟨g, 1, none⟩ = some (.int .i64 frm) ∧ w.cell? ⟨g, 2, none⟩ = some (.int .i64 n) ∧ w.cell? ⟨g, 3, none⟩ = some v :=
  ⟨hb_cell h 0, hb_cell h 1, hb_cell h 2, hb_cell h 3⟩
theorem RingBlk.free {w : World} {g room frm n : Nat} {v : Value} (h : RingBlk w g room frm n v) : w.frozen? ⟨g, 0, none⟩ = false ∧ w.frozen? ⟨g, 1, none⟩ = false ∧ w.frozen? ⟨g, 2, none⟩ = false ∧ w.frozen? ⟨g, 3, none⟩ = false :=
  ⟨hb_free h 0, hb_free h 1, hb_free h 2, hb_free h 3⟩

theorem ring_New (w : World) : Calls Try.prog 15 #[.int .i64 4096] w fun e w' => e = .returned (.tuple #[.pointer (some ⟨w.heap.size, 0, none⟩), .int .i64 0]) ∧ w' = w.alloc (.cells #[.int .i64 4096, .int .i64 0, .int .i64 0, .slice none 0 0] 80) := by
  go_enter Try.func15, Try.ntmps15
  go_wp2
  go_ret2
  exact ⟨rfl, rfl⟩
theorem ring_Room (g room frm n : Nat) (v : Value) (w : World) (h : RingBlk w g room frm n v) : Calls Try.prog 52 #[.pointer (some ⟨g, 0, none⟩)] w fun e w' => e = .returned (.int .i64 room) ∧ w' = w := by
  obtain ⟨c0, c1, c2, c3⟩ := h.cells
  clear h
  go_enter Try.func52, Try.ntmps52
  go_wp2
  go_ret
  exact ⟨rfl, rfl⟩
theorem ring_Len (g room frm n : Nat) (v : Value) (w : World) (h : RingBlk w g room frm n v) : Calls Try.prog 25 #[.pointer (some ⟨g, 0, none⟩)] w fun e w' => e = .returned (.int .i64 n) ∧ w' = w := by
  obtain ⟨c0, c1, c2, c3⟩ := h.cells
  clear h
  go_enter Try.func25, Try.ntmps25
  go_wp2
  go_ret
  exact ⟨rfl, rfl⟩

set_option maxHeartbeats 400000 in
theorem ring_At_none (g room frm n i : Nat) (v : Value) (w : World) (h : RingBlk w g room frm n v) (hi : n ≤ i) :
    Calls Try.prog 41 #[.pointer (some ⟨g, 0, none⟩), .int .i64 i] w fun e w' => e = .returned (.tuple #[.agg #[.int .i64 0, .int .i64 0], .bool false]) ∧ Below w.heap.size w w' := by
  have hL := fun w h => ring_Len g room frm n v w h
  have HL := Lib.hid hL
  have H := Lib.hid h
  clear hL h
  have hii : (n : Int) ≤ i := by omega
  go_enter Try.func41, Try.ntmps41
  go_wp2_with fail
  refine (HL.out _ (hb_alloc H.out _)).mono ?_
  rintro e w1 ⟨rfl, rfl⟩
  go_wp2
  exact bodyPost_ret (v := .tuple #[.agg #[.int .i64 0, .int .i64 0], .bool false]) (by simp [results, Try.results41, go_sem]) rfl ⟨rfl, below1 _ _⟩

set_option maxRecDepth 100000 in
set_option maxHeartbeats 1600000 in
theorem ring_At (g h room frm n i L p : Nat) (t x : Int) (w : World) (hr : RingBlk w g room frm n (.slice (some ⟨h, 0, none⟩) L L)) (hi : i < n) (hL : L ≤ 4096) (hn : n ≤ L) (hf : frm < L) (hp : p = (frm + i) % L)
    (d0 : w.cell? ⟨h, p * 2, none⟩ = some (.int .i64 t)) (d1 : w.cell? ⟨h, p * 2 + 1, none⟩ = some (.int .i64 x)) :
    Calls Try.prog 41 #[.pointer (some ⟨g, 0, none⟩), .int .i64 i] w fun e w' => e = .returned (.tuple #[.agg #[.int .i64 t, .int .i64 x], .bool true]) ∧ Below w.heap.size w w' := by
  have hLn := fun w h' => ring_Len g room frm n (.slice (some ⟨h, 0, none⟩) L L) w h'
  obtain ⟨c0, c1, c2, c3⟩ := hr.cells
  have HL := Lib.hid hLn
  have H := Lib.hid hr
  have hpL : p < L := by rw [hp]; exact Nat.mod_lt _ (by omega)
  have hp1 : ((frm : Int) + (i : Int)) % (L : Int) = (p : Int) := by rw [hp]; simp
  have hp2 : ((frm : Int) + (i : Int)).tmod (L : Int) = (p : Int) := by rw [Int.tmod_eq_emod_of_nonneg (by omega)]; exact hp1
  have hwi : IntKind.i64.wrap ((frm : Int) + (i : Int)) = (frm : Int) + (i : Int) := IntWalk.i64_in _ (by omega)
  have hL0 : ¬ (L = 0) := by omega
  have hL1 : ((L : Int) == 0) = false := by simp; omega
  have hpi0 : (0 : Int) ≤ (p : Int) := by omega
  have hpi1 : (p : Int) < (L : Int) := by omega
  have hg := hb_lt hr
  have hh := World.block_lt_of_cell? _ _ d0
  clear hLn hr hp
  go_enter Try.func41, Try.ntmps41
  go_wp2_with fail
  refine (HL.out _ (hb_alloc H.out _)).mono ?_
  rintro e w1 ⟨rfl, rfl⟩
  go_wp2_with fail
  refine wp_region_tail 18 (by kernel_rfl) (by kernel_rfl) (fun W HW => ?_)
  have e3 := drew_cell HW (cell_alloc hg c3)
  have e1 := drew_cell HW (cell_alloc hg c1)
  have k0 := drew_cell HW (cell_alloc hh d0)
  have k1 := drew_cell HW (cell_alloc hh d1)
  have m4 := drew_blk HW (hb_new w _)
  obtain ⟨m40, m41, n40, n41⟩ := hb2 m4
  have m4' := two_set m4 (.int .i64 t) (.int .i64 x)
  obtain ⟨r40, r41, _, _⟩ := hb2 m4'
  clear c0 c1 c2 c3 d0 d1 m4 m4'
  simp only [List.take_succ_cons, List.take_zero, List.drop_succ_cons, List.drop_zero]
  repeat still_step
  refine wpStill_nil ?_
  go_wp2_with fail
  exact bodyPost_ret (v := .tuple #[.agg #[.int .i64 t, .int .i64 x], .bool true]) (by simp [results, Try.results41, r40, r41, go_sem]) rfl ⟨rfl, ((below_up (below1 _ _) (drew_below HW)).setCell (Nat.le_refl _) _).setCell (Nat.le_refl _) _⟩
end Go.Proofs.Ytfhhdlpglfjdgaa
/- Contracts of package ring at samples: Drop. -/
set_option linter.unusedVariables false
set_option linter.unusedSimpArgs false
namespace Go.Proofs.Ytfhhdlpglfjdgaa
open Go.RowKit

theorem World.drew_blk_of {w : World} {b : Nat} {o : Obj} (h : w.heap[b]? = some o) : w.drew.heap[b]? = some o := h
theorem mod_facts (a b L : Nat) (hL : 0 < L) (hL1 : L ≤ 4096) (ha : a ≤ 4096) (hb : b ≤ 4096) : IntKind.i64.wrap ((a : Int) + (b : Int)) = (a : Int) + (b : Int) ∧ ((a : Int) + (b : Int)) % (L : Int) = (((a + b) % L : Nat) : Int) ∧ ((a : Int) + (b : Int)).tmod (L : Int) = (((a + b) % L : Nat) : Int) := by
  have h1 : ((a : Int) + (b : Int)) % (L : Int) = (((a + b) % L : Nat) : Int) := by simp
  exact ⟨IntWalk.i64_in _ (by omega), h1, by rw [Int.tmod_eq_emod_of_nonneg (by omega)]; exact h1⟩

set_option maxRecDepth 100000 in
set_option maxHeartbeats 3200000 in
theorem ring_Drop_raw (g h room frm n L p : Nat) (t x : Int) (cur : Array Value) (w : World) (hr : RingBlk w g room frm (n + 1) (.slice (some ⟨h, 0, none⟩) L L)) (hb : w.heap[h]? = some (.cells cur 50 (0, 0))) (hgh : h ≠ g)
    (hL : L ≤ 4096) (hn : n + 1 ≤ L) (hf : frm < L) (hp : p = (frm + 1) % L) (d0 : cur[frm * 2]? = some (.int .i64 t)) (d1 : cur[frm * 2 + 1]? = some (.int .i64 x)) :
    Calls Try.prog 42 #[.pointer (some ⟨g, 0, none⟩)] w fun e w' => e = .returned (.tuple #[.agg #[.int .i64 t, .int .i64 x], .bool true]) ∧
      RingBlk w' g room p n (.slice (some ⟨h, 0, none⟩) L L) ∧ w'.heap[h]? = some (.cells ((cur.setIfInBounds (frm * 2) (.int .i64 0)).setIfInBounds (frm * 2 + 1) (.int .i64 0)) 50 (0, 0)) ∧ Fr (fun k => k = g ∨ k = h) w w' := by
  have hLn := fun w h' => ring_Len g room frm (n + 1) (.slice (some ⟨h, 0, none⟩) L L) w h'
  have c3 := hr.cells.2.2.2
  have c1 := hr.cells.2.1
  have hg := hb_lt hr
  have hh := hb_lt hb
  have HL := Lib.hid hLn
  have H := Lib.hid hr
  have HB := Lib.hid hb
  have hpL : p < L := by rw [hp]; exact Nat.mod_lt _ (by omega)
  obtain ⟨hw1, hw2, hw3⟩ := mod_facts frm 1 L (by omega) hL (by omega) (by omega)
  rw [← hp] at hw2 hw3
  rw [show ((1 : Nat) : Int) = 1 from rfl] at hw1 hw2 hw3
  have hL1 : ((L : Int) == 0) = false := by simp; omega
  have hL0 : ¬ (L = 0) := by omega
  have hn1 : ((n + 1 : Nat) : Int) ≠ 0 := by omega
  have hn2 : (((n + 1 : Nat) : Int) == 0) = false := by simp; omega
  have hfi0 : (0 : Int) ≤ (frm : Int) := by omega
  have hfi1 : (frm : Int) < (L : Int) := by omega
  have Hp := Lib.hid hp
  clear hLn hr hb hp
  go_enter Try.func42, Try.ntmps42
  go_wp2_with fail
  refine (HL.out _ (hb_alloc H.out _)).mono ?_
  rintro e w1 ⟨rfl, rfl⟩
  go_wp2_with fail
  obtain ⟨W, hW⟩ : ∃ W, W = w.alloc (.cells #[.int .i64 0, .int .i64 0] 50) := ⟨_, rfl⟩
  have e3 := cell_alloc (o := (.cells #[.int .i64 0, .int .i64 0] 50)) hg c3
  have e1 := cell_alloc (o := (.cells #[.int .i64 0, .int .i64 0] 50)) hg c1
  have kb := hb_alloc HB.out (.cells #[.int .i64 0, .int .i64 0] 50)
  rw [← hW] at e3 e1 kb
  have k0 := (hb_cell kb (frm * 2)).trans d0
  have k1 := (hb_cell kb (frm * 2 + 1)).trans d1
  have kf0 := hb_free kb (frm * 2)
  have kf1 := hb_free kb (frm * 2 + 1)
  have m2 := hb_new w (.cells #[.int .i64 0, .int .i64 0] 50)
  rw [← hW] at m2
  obtain ⟨m20, m21, n20, n21⟩ := hb2 m2
  have gb := hb_alloc H.out (.cells #[.int .i64 0, .int .i64 0] 50)
  rw [← hW] at gb
  have hBW : Below w.heap.size w W := by rw [hW]; exact below1 _ _
  have hne1 : w.heap.size ≠ h := by omega
  have hne2 : w.heap.size ≠ g := by omega
  rw [← hW]
  have KB := Lib.hid kb
  have M2 := Lib.hid m2
  have GB := Lib.hid gb
  have HBW := Lib.hid hBW
  have hne1 : w.heap.size ≠ h := by omega
  have hne2 : w.heap.size ≠ g := by omega
  clear c1 c3 d0 d1 kb m2 gb hBW hW
  go_region
  clear e3 e1 k0 k1 kf0 kf1 m20 m21 n20 n21
  go_wp2_with fail
  refine wp_region_tail 14 (by kernel_rfl) (by kernel_rfl) (fun W2 HW2 => ?_)
  have gb := drew_blk HW2 (hb_far (hb_far (hb_far (hb_far (World.drew_blk_of GB.out) (by exact fun e => hne2 e.symm) _) (by exact fun e => hne2 e.symm) _) (by exact fun e => hgh e.symm) _) (by exact fun e => hgh e.symm) _)
  have kb := drew_blk HW2 (hb_set (hb_set (hb_far (hb_far (World.drew_blk_of KB.out) (by exact fun e => hne1 e.symm) _) (by exact fun e => hne1 e.symm) _) (frm * 2) _) (frm * 2 + 1) _)
  have mb := drew_blk HW2 (hb_far (hb_far (two_set (World.drew_blk_of M2.out) _ _) (by exact hne1) _) (by exact hne1) _)
  have c1 := hb_cell gb 1
  have c2 := hb_cell gb 2
  have c3 := hb_cell gb 3
  have f1 := hb_free gb 1
  have f2 := hb_free gb 2
  simp only [List.getElem?_toArray, List.getElem?_cons_zero, List.getElem?_cons_succ] at c1 c2 c3
  obtain ⟨m20, m21, n20, n21⟩ := hb2 mb
  have HB2 := Lib.hid gb
  have KB2 := Lib.hid kb
  have MB2 := Lib.hid mb
  clear gb kb mb
  simp only [List.take_succ_cons, List.take_zero, List.drop_succ_cons, List.drop_zero]
  repeat still_step
  refine wpStill_nil ?_
  go_wp2_with fail
  have gF := hb_far (hb_far (hb_set (hb_set HB2.out 1 (.int .i64 p)) 2 (.int .i64 n)) (a := ⟨w.heap.size, 0, none⟩) (by exact fun e => hne2 e.symm) (.int .i64 t)) (a := ⟨w.heap.size, 1, none⟩) (by exact fun e => hne2 e.symm) (.int .i64 x)
  have kF := hb_far (hb_far (hb_far (hb_far KB2.out (a := ⟨g, 1, none⟩) (by exact hgh) (.int .i64 p)) (a := ⟨g, 2, none⟩) (by exact hgh) (.int .i64 n)) (a := ⟨w.heap.size, 0, none⟩) (by exact fun e => hne1 e.symm) (.int .i64 t)) (a := ⟨w.heap.size, 1, none⟩) (by exact fun e => hne1 e.symm) (.int .i64 x)
  have mF := two_set (hb_far (hb_far MB2.out (a := ⟨g, 1, none⟩) (by exact hne2) (.int .i64 p)) (a := ⟨g, 2, none⟩) (by exact hne2) (.int .i64 n)) (.int .i64 t) (.int .i64 x)
  obtain ⟨q0, q1, _, _⟩ := hb2 mF
  refine bodyPost_ret (v := .tuple #[.agg #[.int .i64 t, .int .i64 x], .bool true]) (by simp [results, Try.results42, q0, q1, go_sem]) rfl ⟨rfl, gF, kF, ?_⟩
  have h0 : Fr (fun k => k = g ∨ k = h) w W := Fr.ofBelow HBW.out
  have h1 : Fr (fun k => k = g ∨ k = h) w W.drew := h0.drewN 1
  have h2 := (((h1.setCell (p := ⟨w.heap.size, 0, none⟩) (.inr (Nat.le_refl _)) (.int .i64 t)).setCell (p := ⟨w.heap.size, 1, none⟩) (.inr (Nat.le_refl _)) (.int .i64 x)).setCell (p := ⟨h, frm * 2, none⟩) (.inl (.inr rfl)) (.int .i64 0)).setCell (p := ⟨h, frm * 2 + 1, none⟩) (.inl (.inr rfl)) (.int .i64 0)
  have h3 : Fr (fun k => k = g ∨ k = h) w W2 := by rw [HW2.out]; exact h2.drewN 1
  exact (((h3.setCell (.inl (.inl rfl)) _).setCell (.inl (.inl rfl)) _).setCell (.inr (Nat.le_refl _)) _).setCell (.inr (Nat.le_refl _)) _
end Go.Proofs.Ytfhhdlpglfjdgaa
/- Contracts of package ring at samples: grow. -/
set_option linter.unusedVariables false
set_option linter.unusedSimpArgs false
namespace Go.Proofs.Ytfhhdlpglfjdgaa
open Go.RowKit

/-- Where the samples lie in a ring's array. -/
def RingCells (cur : Array Value) (frm L : Nat) (l : List (Int × Int)) : Prop :=
  ∀ (i : Nat) (x : Int × Int), l[i]? = some x → cur[(frm + i) % L * 2]? = some (.int .i64 x.1) ∧ cur[(frm + i) % L * 2 + 1]? = some (.int .i64 x.2)

set_option maxHeartbeats 800000 in
theorem ring_grow_not (g room frm n L : Nat) (A : Option Addr) (w : World) (hr : RingBlk w g room frm n (.slice A L L)) (hn : n < L) :
    Calls Try.prog 53 #[.pointer (some ⟨g, 0, none⟩)] w fun e w' => e = .returned (.tuple #[]) ∧ ∃ m, w' = w.drewN m := by
  have c2 := hr.cells.2.2.1
  have c3 := hr.cells.2.2.2
  have ht : decide ((n : Int) < (L : Int)) = true := by simp; omega
  have hni : (n : Int) < (L : Int) := by omega
  clear hr
  go_enter Try.func53, Try.ntmps53
  go_wp2_with fail
  go_quiet (fail)
  go_wp2
  exact bodyPost_ret (v := .tuple #[]) (results_none rfl _ _ _) rfl ⟨rfl, _, rfl⟩

theorem Try.infos : (Try.prog.info? 50).map (fun i => (i.zero, i.size, i.bytes)) = some (some (.agg #[.int .i64 0, .int .i64 0]), 2, 16) := by kernel_rfl

/-- The room of a ring that grows. -/
def ringCap (L : Nat) : Nat := min 4096 (2 * L + 4)

/-- In the loop: k of the samples have gone over. -/
def GrowInv (w wr : World) (g h frm n L c k : Nat) (A : Option Addr) (cur : Array Value) (l : List (Int × Int)) : Prop :=
  RingBlk wr g 4096 frm n (.slice A L L) ∧ (L = 0 ∨ A = some ⟨h, 0, none⟩ ∧ h < w.heap.size ∧ wr.heap[h]? = some (.cells cur 50 (0, 0))) ∧ Below w.heap.size w wr ∧
    ∃ cu : Array Value, wr.heap[w.heap.size]? = some (.cells cu 50 (0, 0)) ∧ cu.size = c * 2 ∧ ∀ (i : Nat) (x : Int × Int), i < k → l[i]? = some x → cu[i * 2]? = some (.int .i64 x.1) ∧ cu[i * 2 + 1]? = some (.int .i64 x.2)

theorem GrowInv.step {w wr : World} {g h frm n L c k : Nat} {A : Option Addr} {cur : Array Value} {l : List (Int × Int)} {x : Int × Int} (hi : GrowInv w wr g h frm n L c k A cur l) (hx : l[k]? = some x) (hk : k < c) (hg : g < w.heap.size) {W : World} (HW : W = wr.drew) :
    GrowInv w ((W.setCell ⟨w.heap.size, k * 2, none⟩ (.int .i64 x.1)).setCell ⟨w.heap.size, k * 2 + 1, none⟩ (.int .i64 x.2)) g h frm n L c (k + 1) A cur l := by
  obtain ⟨h1, h2, h3, cu, h4, h5, h6⟩ := hi
  subst HW
  refine ⟨hb_far (hb_far (World.drew_blk_of h1) (by simp; omega) _) (by simp; omega) _, h2.imp id (fun ⟨a, b, h2⟩ => ⟨a, b, hb_far (hb_far (World.drew_blk_of h2) (by simp; omega) _) (by simp; omega) _⟩), (h3.drew.setCell (Nat.le_refl _) _).setCell (Nat.le_refl _) _, _, hb_set (hb_set (World.drew_blk_of h4) _ _) _ _, by simp [h5], fun i y hik hy => ?_⟩
  simp only [Array.getElem?_setIfInBounds, Array.size_setIfInBounds]
  rcases Nat.lt_or_ge i k with hlt | hge
  · obtain ⟨a, b⟩ := h6 i y hlt hy
    rw [if_neg (by omega), if_neg (by omega), if_neg (by omega), if_neg (by omega)]
    exact ⟨a, b⟩
  · obtain rfl : i = k := by omega
    rw [hx] at hy
    obtain rfl : x = y := by simpa using hy
    rw [if_neg (by omega), if_pos rfl, if_pos (by omega), if_pos rfl, if_pos (by omega)]
    exact ⟨rfl, rfl⟩
theorem GrowInv.fin {w wr : World} {g h frm n L c : Nat} {A : Option Addr} {cur : Array Value} {l : List (Int × Int)} (hi : GrowInv w wr g h frm n L c n A cur l) (hl : l.length = n) (hn : n ≤ c) (hg : g < w.heap.size) :
    RingBlk ((wr.setCell ⟨g, 3, none⟩ (.slice (some ⟨w.heap.size, 0, none⟩) c c)).setCell ⟨g, 1, none⟩ (.int .i64 0)) g 4096 0 n (.slice (some ⟨w.heap.size, 0, none⟩) c c) ∧ Fr (fun k => k = g) w ((wr.setCell ⟨g, 3, none⟩ (.slice (some ⟨w.heap.size, 0, none⟩) c c)).setCell ⟨g, 1, none⟩ (.int .i64 0)) ∧
      w.heap.size < ((wr.setCell ⟨g, 3, none⟩ (.slice (some ⟨w.heap.size, 0, none⟩) c c)).setCell ⟨g, 1, none⟩ (.int .i64 0)).heap.size ∧
      ∃ cu : Array Value, ((wr.setCell ⟨g, 3, none⟩ (.slice (some ⟨w.heap.size, 0, none⟩) c c)).setCell ⟨g, 1, none⟩ (.int .i64 0)).heap[w.heap.size]? = some (.cells cu 50 (0, 0)) ∧ cu.size = c * 2 ∧ RingCells cu 0 c l := by
  obtain ⟨h1, h2, h3, cu, h4, h5, h6⟩ := hi
  refine ⟨by simpa [RingBlk] using hb_set (hb_set h1 3 (.slice (some ⟨w.heap.size, 0, none⟩) c c)) 1 (.int .i64 0), ((Fr.ofBelow (F := fun k => k = g) h3).setCell (p := ⟨g, 3, none⟩) (.inl rfl) _).setCell (p := ⟨g, 1, none⟩) (.inl rfl) _, ?_, cu, hb_far (hb_far h4 (by simp; omega) _) (by simp; omega) _, h5, fun i x hx => ?_⟩
  · simpa [World.setCell] using hb_lt h4
  · have hlt := (List.getElem?_eq_some_iff.1 hx).1
    rw [Nat.zero_add, Nat.mod_eq_of_lt (by omega)]
    exact h6 i x (by omega) hx

set_option maxRecDepth 100000 in
set_option maxHeartbeats 3200000 in
theorem ring_grow_raw (g hB frm n L c : Nat) (A : Option Addr) (cur Z : Array Value) (l : List (Int × Int)) (w : World) (hr : RingBlk w g 4096 frm n (.slice A L L)) (hb : L = 0 ∨ A = some ⟨hB, 0, none⟩ ∧ hB < w.heap.size ∧ w.heap[hB]? = some (.cells cur 50 (0, 0)))
    (hL : L < 4096) (hn : n = L) (hf : 0 < L → frm < L) (hl : l.length = n) (hcs : cur.size = L * 2) (hcell : RingCells cur frm L l) (hc : c = ringCap L) (hZ : Z.size = c * 2)
    (hmk : ∀ w, (Instr.makeSlice 32 (.int .i64 (min 4096 (2 * (L : Int) + 4))) (.int .i64 (min 4096 (2 * (L : Int) + 4)))).run Try.prog w = .ok (.slice (some ⟨w.heap.size, 0, none⟩) c c) (w.alloc (.cells Z 50))) :
    Calls Try.prog 53 #[.pointer (some ⟨g, 0, none⟩)] w fun e w' => e = .returned (.tuple #[]) ∧
      RingBlk w' g 4096 0 n (.slice (some ⟨w.heap.size, 0, none⟩) c c) ∧ Fr (fun k => k = g) w w' ∧ w.heap.size < w'.heap.size ∧ ∃ cu : Array Value, w'.heap[w.heap.size]? = some (.cells cu 50 (0, 0)) ∧ cu.size = c * 2 ∧ RingCells cu 0 c l := by
  have c0 := hr.cells.1
  have c1 := hr.cells.2.1
  have c2 := hr.cells.2.2.1
  have c3 := hr.cells.2.2.2
  have hg := hb_lt hr
  have H := Lib.hid hr
  have HB := Lib.hid hb
  have HC := Lib.hid hcell
  have HZ := Lib.hid hZ
  have Hcs := Lib.hid hcs
  have Hl := Lib.hid hl
  have ht : decide ((n : Int) < (L : Int)) = false := by simp; omega
  have hni : ¬ (n : Int) < (L : Int) := by omega
  have hw1 : IntKind.i64.wrap (2 * (L : Int)) = 2 * (L : Int) := IntWalk.i64_in _ (by omega)
  have hw2 : IntKind.i64.wrap (2 * (L : Int) + 4) = 2 * (L : Int) + 4 := IntWalk.i64_in _ (by omega)
  have Hn := Lib.hid hn
  have Hf := Lib.hid hf
  have Hc := Lib.hid hc
  clear hr hb hcell hZ hcs hl hn hc hf
  by_cases hcc : 4096 ≤ 2 * (L : Int) + 4
  · rw [show min 4096 (2 * (L : Int) + 4) = 4096 by omega] at hmk
    go_enter Try.func53, Try.ntmps53
    go_wp2_with fail
    go_quiet (fail)
    go_wp2_with fail
    refine wp_region_tail 12 (by kernel_rfl) (by kernel_rfl) (fun W HW => ?_)
    have e0 := drew_cell HW c0
    have e3 := drew_cell HW c3
    have e2 := drew_cell HW c2
    have hWs : W.heap.size = w.heap.size := by rw [HW.out]; rfl
    have hBW : Below w.heap.size w W := by rw [HW.out]; exact below_up (below_drewN w _) (Below.refl _ _).drew
    have gW := drew_blk HW (hb_drewN H.out _)
    have bW : L = 0 ∨ A = some ⟨hB, 0, none⟩ ∧ hB < w.heap.size ∧ (W.alloc (.cells Z 50)).heap[hB]? = some (.cells cur 50 (0, 0)) := HB.out.imp id (fun ⟨a, b, h⟩ => ⟨a, b, hb_alloc (drew_blk HW (hb_drewN h _)) _⟩)
    have zW := hb_new W (.cells Z 50)
    rw [hWs] at zW
    have hI0 : GrowInv w (W.alloc (.cells Z 50)) g hB frm n L c 0 A cur l := ⟨hb_alloc gW _, bW, hBW.alloc (by omega) _, Z, zW, HZ.out, fun i x hi => by omega⟩
    have HI0 := Lib.hid hI0
    clear hBW gW bW zW hI0
    simp only [List.take_succ_cons, List.take_zero, List.drop_succ_cons, List.drop_zero]
    repeat still_step
    refine wpStill_nil ?_
    go_wp2_with fail
    clear e0 e2 e3 c0 c1 c2 c3 hmk hWs
    go_loopw [31] (fun i wr => ∃ k : Nat, i = .int .i64 k ∧ k ≤ n ∧ Hid (GrowInv w wr g hB frm n L c k A cur l)) (fun i _ => n - (intOf i).toNat)
    case atStart => exact ⟨0, rfl, Nat.zero_le _, HI0.out⟩
    case round =>
      obtain ⟨k, rfl, hk, HI⟩ := hrel
      have hnn := Hn.out
      have hcL : L < c := by rw [Hc.out]; unfold ringCap; omega
      have hcM : c ≤ 4096 := by rw [Hc.out]; unfold ringCap; omega
      by_cases hkn : k < n
      · obtain ⟨x, hx⟩ : ∃ x, l[k]? = some x := ⟨l[k]'(by rw [Hl.out]; exact hkn), List.getElem?_eq_getElem _⟩
        have hL0 : 0 < L := by omega
        obtain ⟨i1, i2, i3, cu, i4, i5, i6⟩ := HI.out
        obtain h0 | ⟨rfl, hh, i2⟩ := i2
        · omega
        obtain ⟨x0, x1⟩ := HC.out k x hx
        have hf := Hf.out hL0
        obtain ⟨hw3, hw4, hw5⟩ := mod_facts frm k L hL0 (by omega) (by omega) (by omega)
        obtain ⟨p, hp⟩ : ∃ p, p = (frm + k) % L := ⟨_, rfl⟩
        have hpL : p < L := by rw [hp]; exact Nat.mod_lt _ hL0
        rw [← hp] at x0 x1 hw4 hw5
        have k1 := hb_cell i1 1
        have k3 := hb_cell i1 3
        simp only [List.getElem?_toArray, List.getElem?_cons_zero, List.getElem?_cons_succ] at k1 k3
        have d0 := (hb_cell i2 (p * 2)).trans x0
        have d1 := (hb_cell i2 (p * 2 + 1)).trans x1
        obtain ⟨y0, hy0⟩ : ∃ y, cu[k * 2]? = some y := ⟨_, Array.getElem?_eq_getElem (by omega)⟩
        obtain ⟨y1, hy1⟩ : ∃ y, cu[k * 2 + 1]? = some y := ⟨_, Array.getElem?_eq_getElem (by omega)⟩
        have q0 := (hb_cell i4 (k * 2)).trans hy0
        have q1 := (hb_cell i4 (k * 2 + 1)).trans hy1
        have r0 := hb_free i4 (k * 2)
        have r1 := hb_free i4 (k * 2 + 1)
        have hki0 : (0 : Int) ≤ (k : Int) := by omega
        have hki1 : (k : Int) < (c : Int) := by omega
        have hpi0 : (0 : Int) ≤ (p : Int) := by omega
        have hpi1 : (p : Int) < (L : Int) := by omega
        have hL1 : ((L : Int) == 0) = false := by simp; omega
        have hLz : ¬ L = 0 := by omega
        have Hx := Lib.hid hx
        have Hnn := Lib.hid hnn
        clear i1 i2 i3 i4 i5 i6 x0 x1 hp hy0 hy1 hx hnn hf
        go_wp2_with fail
        refine wp_region_tail 21 (by kernel_rfl) (by kernel_rfl) (fun W5 HW5 => ?_)
        have k1 := drew_cell HW5 k1
        have k3 := drew_cell HW5 k3
        have d0 := drew_cell HW5 d0
        have d1 := drew_cell HW5 d1
        have q0 := drew_cell HW5 q0
        have q1 := drew_cell HW5 q1
        have r0 := drew_free HW5 r0
        have r1 := drew_free HW5 r1
        simp only [List.take_succ_cons, List.take_zero, List.drop_succ_cons, List.drop_zero]
        repeat still_step
        refine wpStill_nil ?_
        go_wp2_with fail
        go_roundw
        case rel => exact ⟨k + 1, by go_num, by omega, HI.out.step Hx.out (by have := Hnn.out; omega) hg HW5.out⟩
        case measure => simp [intOf]; omega
      · obtain rfl : k = n := by omega
        obtain ⟨i1, i2, i3, cu, i4, i5, i6⟩ := HI.out
        have k1 := hb_cell i1 1
        have k3 := hb_cell i1 3
        have j1 := hb_free i1 1
        have j3 := hb_free i1 3
        simp only [List.getElem?_toArray, List.getElem?_cons_zero, List.getElem?_cons_succ] at k1 k3
        have Hnn := Lib.hid hnn
        clear i1 i2 i3 i4 i5 i6 hnn
        go_wp2_with fail
        exact bodyPost_end (v := .tuple #[]) (results_none rfl _ _ _) rfl ⟨rfl, HI.out.fin Hl.out (by have := Hnn.out; omega) hg⟩
  · rw [show min 4096 (2 * (L : Int) + 4) = 2 * (L : Int) + 4 by omega] at hmk
    go_enter Try.func53, Try.ntmps53
    go_wp2_with fail
    go_quiet (fail)
    go_wp2_with fail
    refine wp_region_tail 12 (by kernel_rfl) (by kernel_rfl) (fun W HW => ?_)
    have e0 := drew_cell HW c0
    have e3 := drew_cell HW c3
    have e2 := drew_cell HW c2
    have hWs : W.heap.size = w.heap.size := by rw [HW.out]; rfl
    have hBW : Below w.heap.size w W := by rw [HW.out]; exact below_up (below_drewN w _) (Below.refl _ _).drew
    have gW := drew_blk HW (hb_drewN H.out _)
    have bW : L = 0 ∨ A = some ⟨hB, 0, none⟩ ∧ hB < w.heap.size ∧ (W.alloc (.cells Z 50)).heap[hB]? = some (.cells cur 50 (0, 0)) := HB.out.imp id (fun ⟨a, b, h⟩ => ⟨a, b, hb_alloc (drew_blk HW (hb_drewN h _)) _⟩)
    have zW := hb_new W (.cells Z 50)
    rw [hWs] at zW
    have hI0 : GrowInv w (W.alloc (.cells Z 50)) g hB frm n L c 0 A cur l := ⟨hb_alloc gW _, bW, hBW.alloc (by omega) _, Z, zW, HZ.out, fun i x hi => by omega⟩
    have HI0 := Lib.hid hI0
    clear hBW gW bW zW hI0
    simp only [List.take_succ_cons, List.take_zero, List.drop_succ_cons, List.drop_zero]
    repeat still_step
    refine wpStill_nil ?_
    go_wp2_with fail
    clear e0 e2 e3 c0 c1 c2 c3 hmk hWs
    go_loopw [31] (fun i wr => ∃ k : Nat, i = .int .i64 k ∧ k ≤ n ∧ Hid (GrowInv w wr g hB frm n L c k A cur l)) (fun i _ => n - (intOf i).toNat)
    case atStart => exact ⟨0, rfl, Nat.zero_le _, HI0.out⟩
    case round =>
      obtain ⟨k, rfl, hk, HI⟩ := hrel
      have hnn := Hn.out
      have hcL : L < c := by rw [Hc.out]; unfold ringCap; omega
      have hcM : c ≤ 4096 := by rw [Hc.out]; unfold ringCap; omega
      by_cases hkn : k < n
      · obtain ⟨x, hx⟩ : ∃ x, l[k]? = some x := ⟨l[k]'(by rw [Hl.out]; exact hkn), List.getElem?_eq_getElem _⟩
        have hL0 : 0 < L := by omega
        obtain ⟨i1, i2, i3, cu, i4, i5, i6⟩ := HI.out
        obtain h0 | ⟨rfl, hh, i2⟩ := i2
        · omega
        obtain ⟨x0, x1⟩ := HC.out k x hx
        have hf := Hf.out hL0
        obtain ⟨hw3, hw4, hw5⟩ := mod_facts frm k L hL0 (by omega) (by omega) (by omega)
        obtain ⟨p, hp⟩ : ∃ p, p = (frm + k) % L := ⟨_, rfl⟩
        have hpL : p < L := by rw [hp]; exact Nat.mod_lt _ hL0
        rw [← hp] at x0 x1 hw4 hw5
        have k1 := hb_cell i1 1
        have k3 := hb_cell i1 3
        simp only [List.getElem?_toArray, List.getElem?_cons_zero, List.getElem?_cons_succ] at k1 k3
        have d0 := (hb_cell i2 (p * 2)).trans x0
        have d1 := (hb_cell i2 (p * 2 + 1)).trans x1
        obtain ⟨y0, hy0⟩ : ∃ y, cu[k * 2]? = some y := ⟨_, Array.getElem?_eq_getElem (by omega)⟩
        obtain ⟨y1, hy1⟩ : ∃ y, cu[k * 2 + 1]? = some y := ⟨_, Array.getElem?_eq_getElem (by omega)⟩
        have q0 := (hb_cell i4 (k * 2)).trans hy0
        have q1 := (hb_cell i4 (k * 2 + 1)).trans hy1
        have r0 := hb_free i4 (k * 2)
        have r1 := hb_free i4 (k * 2 + 1)
        have hki0 : (0 : Int) ≤ (k : Int) := by omega
        have hki1 : (k : Int) < (c : Int) := by omega
        have hpi0 : (0 : Int) ≤ (p : Int) := by omega
        have hpi1 : (p : Int) < (L : Int) := by omega
        have hL1 : ((L : Int) == 0) = false := by simp; omega
        have hLz : ¬ L = 0 := by omega
        have Hx := Lib.hid hx
        have Hnn := Lib.hid hnn
        clear i1 i2 i3 i4 i5 i6 x0 x1 hp hy0 hy1 hx hnn hf
        go_wp2_with fail
        refine wp_region_tail 21 (by kernel_rfl) (by kernel_rfl) (fun W5 HW5 => ?_)
        have k1 := drew_cell HW5 k1
        have k3 := drew_cell HW5 k3
        have d0 := drew_cell HW5 d0
        have d1 := drew_cell HW5 d1
        have q0 := drew_cell HW5 q0
        have q1 := drew_cell HW5 q1
        have r0 := drew_free HW5 r0
        have r1 := drew_free HW5 r1
        simp only [List.take_succ_cons, List.take_zero, List.drop_succ_cons, List.drop_zero]
        repeat still_step
        refine wpStill_nil ?_
        go_wp2_with fail
        go_roundw
        case rel => exact ⟨k + 1, by go_num, by omega, HI.out.step Hx.out (by have := Hnn.out; omega) hg HW5.out⟩
        case measure => simp [intOf]; omega
      · obtain rfl : k = n := by omega
        obtain ⟨i1, i2, i3, cu, i4, i5, i6⟩ := HI.out
        have k1 := hb_cell i1 1
        have k3 := hb_cell i1 3
        have j1 := hb_free i1 1
        have j3 := hb_free i1 3
        simp only [List.getElem?_toArray, List.getElem?_cons_zero, List.getElem?_cons_succ] at k1 k3
        have Hnn := Lib.hid hnn
        clear i1 i2 i3 i4 i5 i6 hnn
        go_wp2_with fail
        exact bodyPost_end (v := .tuple #[]) (results_none rfl _ _ _) rfl ⟨rfl, HI.out.fin Hl.out (by have := Hnn.out; omega) hg⟩
end Go.Proofs.Ytfhhdlpglfjdgaa
/- Contracts of package ring at samples, told by footprints: Drop, grow. -/
set_option linter.unusedVariables false
set_option linter.unusedSimpArgs false
namespace Go.Proofs.Ytfhhdlpglfjdgaa
open Go.RowKit

theorem mod_two (a L : Nat) (h : a < 2 * L) : a % L = if a < L then a else a - L := by
  split
  · exact Nat.mod_eq_of_lt (by omega)
  · rw [Nat.mod_eq_sub_mod (by omega)]; exact Nat.mod_eq_of_lt (by omega)
theorem mod_apart (f i j L : Nat) (hf : f < L) (hi : i < j) (hj : j < L) : (f + i) % L ≠ (f + j) % L := by
  rw [mod_two _ _ (by omega), mod_two _ _ (by omega)]
  split <;> split <;> omega

theorem RingCells.drop {cur : Array Value} {frm L : Nat} {x : Int × Int} {l : List (Int × Int)} (h : RingCells cur frm L (x :: l)) (hf : frm < L) (hl : l.length + 1 ≤ L) (u v : Value) :
    RingCells ((cur.setIfInBounds (frm * 2) u).setIfInBounds (frm * 2 + 1) v) ((frm + 1) % L) L l := by
  intro i y hy
  have hi := (List.getElem?_eq_some_iff.1 hy).1
  have := h (i + 1) y (by simpa using hy)
  have e : ((frm + 1) % L + i) % L = (frm + (i + 1)) % L := by rw [Nat.mod_add_mod]; congr 1; omega
  have hne : (frm + (i + 1)) % L ≠ frm := by
    have := mod_apart frm 0 (i + 1) L hf (by omega) (by omega)
    rw [Nat.add_zero, Nat.mod_eq_of_lt hf] at this
    exact fun e => this e.symm
  rw [e]
  generalize (frm + (i + 1)) % L = q at *
  simp only [Array.getElem?_setIfInBounds]
  rw [if_neg (by omega), if_neg (by omega), if_neg (by omega), if_neg (by omega)]
  exact this
theorem RingCells.push {cur : Array Value} {frm L : Nat} {x : Int × Int} {l : List (Int × Int)} (h : RingCells cur frm L l) (hs : cur.size = L * 2) (hf : frm < L) (hl : l.length < L) :
    RingCells ((cur.setIfInBounds ((frm + l.length) % L * 2) (.int .i64 x.1)).setIfInBounds ((frm + l.length) % L * 2 + 1) (.int .i64 x.2)) frm L (l ++ [x]) := by
  intro i y hy
  have hq : (frm + l.length) % L < L := Nat.mod_lt _ (by omega)
  rw [List.getElem?_append] at hy
  simp only [Array.getElem?_setIfInBounds, Array.size_setIfInBounds]
  split at hy
  · rename_i hlt
    have := h i y hy
    have hne := mod_apart frm i l.length L hf hlt hl
    generalize (frm + i) % L = p at *
    generalize (frm + l.length) % L = q at *
    rw [if_neg (by omega), if_neg (by omega), if_neg (by omega), if_neg (by omega)]
    exact this
  · rename_i hge
    have hi : i = l.length := by
      have := (List.getElem?_eq_some_iff.1 hy).1
      simp at this
      omega
    subst hi
    simp at hy
    subst hy
    generalize (frm + l.length) % L = q at *
    rw [if_neg (by omega), if_pos rfl, if_pos (by omega), if_pos rfl, if_pos (by omega)]
    exact ⟨rfl, rfl⟩

/-- A ring of samples at block g. -/
def RingAt (w : World) (F : Nat → Prop) (g : Nat) (l : List (Int × Int)) : Prop :=
  F g ∧ (∀ k, F k → k < w.heap.size) ∧ ∃ frm L v, RingBlk w g 4096 frm l.length v ∧
    ((L = 0 ∧ v = .slice none 0 0 ∧ l = []) ∨
     (∃ h cur, v = .slice (some ⟨h, 0, none⟩) L L ∧ F h ∧ h ≠ g ∧ w.heap[h]? = some (.cells cur 50 (0, 0)) ∧ cur.size = L * 2 ∧ frm < L ∧ l.length ≤ L ∧ L ≤ 4096 ∧ RingCells cur frm L l))
/-- The same, with a place to spare. -/
def RingRoom (w : World) (F : Nat → Prop) (g : Nat) (l : List (Int × Int)) : Prop :=
  F g ∧ (∀ k, F k → k < w.heap.size) ∧ ∃ frm L h cur, RingBlk w g 4096 frm l.length (.slice (some ⟨h, 0, none⟩) L L) ∧ F h ∧ h ≠ g ∧ w.heap[h]? = some (.cells cur 50 (0, 0)) ∧ cur.size = L * 2 ∧ frm < L ∧ l.length < L ∧ L ≤ 4096 ∧ RingCells cur frm L l
theorem RingAt.len {w : World} {F : Nat → Prop} {g : Nat} {l : List (Int × Int)} (h : RingAt w F g l) : l.length ≤ 4096 := by
  obtain ⟨_, _, frm, L, v, _, h | ⟨_, _, _, _, _, _, _, _, h1, h2, _⟩⟩ := h
  · rw [h.2.2]; simp
  · omega
theorem RingAt.keep {w w' : World} {F : Nat → Prop} {g : Nat} {l : List (Int × Int)} (h : RingAt w F g l) (hk : ∀ k, F k → w'.heap[k]? = w.heap[k]?) (hs : w.heap.size ≤ w'.heap.size) : RingAt w' F g l := by
  obtain ⟨h1, h2, frm, L, v, h3, h4⟩ := h
  refine ⟨h1, fun k hk' => Nat.lt_of_lt_of_le (h2 k hk') hs, frm, L, v, (hk g h1).trans h3, h4.imp id ?_⟩
  rintro ⟨b, cur, e, hb, hne, hh, r⟩
  exact ⟨b, cur, e, hb, hne, (hk b hb).trans hh, r⟩
theorem RingRoom.keep {w w' : World} {F : Nat → Prop} {g : Nat} {l : List (Int × Int)} (h : RingRoom w F g l) (hk : ∀ k, F k → w'.heap[k]? = w.heap[k]?) (hs : w.heap.size ≤ w'.heap.size) : RingRoom w' F g l := by
  obtain ⟨h1, h2, frm, L, b, cur, h3, hb, hne, hh, r⟩ := h
  exact ⟨h1, fun k hk' => Nat.lt_of_lt_of_le (h2 k hk') hs, frm, L, b, cur, (hk g h1).trans h3, hb, hne, (hk b hb).trans hh, r⟩

theorem ring_Drop_at (F : Nat → Prop) (g : Nat) (x : Int × Int) (l : List (Int × Int)) (w : World) (hr : RingAt w F g (x :: l)) :
    Calls Try.prog 42 #[.pointer (some ⟨g, 0, none⟩)] w fun e w' => e = .returned (.tuple #[.agg #[.int .i64 x.1, .int .i64 x.2], .bool true]) ∧ Fr F w w' ∧ RingAt w' F g l := by
  obtain ⟨hg, hF, frm, L, v, hb, ⟨_, _, h⟩ | ⟨b, cur, rfl, hbF, hne, hh, hcs, hf, hl, hL, hc⟩⟩ := hr
  · simp at h
  · have h0 := hc 0 x rfl
    rw [Nat.add_zero, Nat.mod_eq_of_lt hf] at h0
    refine (ring_Drop_raw g b 4096 frm l.length L _ x.1 x.2 cur w hb hh hne hL (by simpa using hl) hf rfl h0.1 h0.2).mono ?_
    rintro e w' ⟨rfl, r1, r2, r3⟩
    refine ⟨rfl, r3.mono (by rintro k (rfl | rfl) <;> assumption), hg, fun k hk => Nat.lt_of_lt_of_le (hF k hk) r3.size, _, L, _, r1, .inr ⟨b, _, rfl, hbF, hne, r2, by simpa using hcs, Nat.mod_lt _ (by omega), by simp at hl; omega, hL, hc.drop hf (by simpa using hl) _ _⟩⟩

theorem ring_make (L c : Nat) (hc : c = ringCap L) (w : World) :
    (Instr.makeSlice 32 (.int .i64 (min 4096 (2 * (L : Int) + 4))) (.int .i64 (min 4096 (2 * (L : Int) + 4)))).run Try.prog w = .ok (.slice (some ⟨w.heap.size, 0, none⟩) c c) (w.alloc (.cells (madeCells (Value.agg #[.int .i64 0, .int .i64 0]).cells (c * 2)) 50)) := by
  obtain ⟨i, hi, hzz⟩ := Option.map_eq_some_iff.1 Try.infos
  simp only [Prod.mk.injEq] at hzz
  obtain ⟨hz, hs, hb⟩ := hzz
  have h1 : c ≤ 4096 := by rw [hc]; unfold ringCap; omega
  have h2 : min 4096 (2 * (L : Int) + 4) = (c : Int) := by rw [hc]; unfold ringCap; omega
  rw [h2]
  have := run_make (P := Try.prog) w 32 50 i _ (by kernel_rfl) hi hz .i64 .i64 c c (by omega) (by omega) (by rw [hb]; omega) (by omega)
  rw [hs] at this
  simpa using this

theorem ring_grow_at (F : Nat → Prop) (g : Nat) (l : List (Int × Int)) (w : World) (hr : RingAt w F g l) (hl : l.length < 4096) :
    Calls Try.prog 53 #[.pointer (some ⟨g, 0, none⟩)] w fun e w' => e = .returned (.tuple #[]) ∧ Fr F w w' ∧ ∃ F', Ext F F' w w' ∧ RingRoom w' F' g l := by
  obtain ⟨hg, hF, frm, L, v, hb, h⟩ := hr
  have key : ∀ (A : Option Addr) (hB : Nat) (cur : Array Value), v = .slice A L L → (L = 0 ∨ A = some ⟨hB, 0, none⟩ ∧ hB < w.heap.size ∧ w.heap[hB]? = some (.cells cur 50 (0, 0))) → L < 4096 → l.length = L → (0 < L → frm < L) → cur.size = L * 2 → RingCells cur frm L l →
      Calls Try.prog 53 #[.pointer (some ⟨g, 0, none⟩)] w fun e w' => e = .returned (.tuple #[]) ∧ Fr F w w' ∧ ∃ F', Ext F F' w w' ∧ RingRoom w' F' g l := by
    intro A hB cur hv h1 h2 h3 h4 h5 h6
    subst hv
    refine (ring_grow_raw g hB frm l.length L (ringCap L) A cur _ l w hb h1 h2 h3 h4 rfl h5 h6 rfl (by rw [size_madeCells]) (ring_make L _ rfl)).mono ?_
    rintro e w' ⟨rfl, r1, r2, r3, cu, r4, r5, r6⟩
    have hgs := hF g hg
    refine ⟨rfl, r2.mono (by rintro k rfl; exact hg), fun k => F k ∨ k = w.heap.size, ?_, .inl hg, ?_, 0, ringCap L, w.heap.size, cu, r1, .inr rfl, by omega, r4, r5, ?_, ?_, ?_, r6⟩
    · rintro k (h | rfl)
      · exact .inl h
      · exact .inr ⟨Nat.le_refl _, r3⟩
    · rintro k (h | rfl)
      · have := hF k h; omega
      · exact r3
    · unfold ringCap; omega
    · unfold ringCap; omega
    · unfold ringCap; omega
  rcases h with ⟨rfl, hv, hl0⟩ | ⟨b, cur, hv, hbF, hne, hh, hcs, hf, hll, hL, hc⟩
  · exact key none 0 #[] hv (.inl rfl) (by omega) (by simp [hl0]) (by omega) rfl (by intro i y hy; simp [hl0] at hy)
  · rcases Nat.lt_or_ge l.length L with h1 | h1
    · subst hv
      refine (ring_grow_not g 4096 frm l.length L _ w hb h1).mono ?_
      rintro e w' ⟨rfl, m, rfl⟩
      exact ⟨rfl, (Fr.refl F w).drewN m, F, Ext.refl _ _ _, hg, hF, frm, L, b, cur, hb_drewN hb m, hbF, hne, hb_drewN hh m, hcs, hf, h1, hL, hc⟩
    · exact key _ b cur hv (.inr ⟨rfl, hF b hbF, hh⟩) (by omega) (by omega) (fun _ => hf) hcs hc

end Go.Proofs.Ytfhhdlpglfjdgaa
/- Contracts of package ring at samples, told by footprints: Push. -/
set_option linter.unusedVariables false
set_option linter.unusedSimpArgs false
namespace Go.Proofs.Ytfhhdlpglfjdgaa
open Go.RowKit

theorem Fr.blk {F : Nat → Prop} {w w' : World} (h : Fr F w w') {b : Nat} {o : Obj} (hb : w.heap[b]? = some o) (hn : ¬ F b) : w'.heap[b]? = some o := (h.block b (hb_lt hb) hn).trans hb
theorem drewN_eq {w W : World} {n : Nat} (h : W = w.drewN n) {b : Nat} {o : Obj} (c : w.heap[b]? = some o) : W.heap[b]? = some o := by subst h; exact c

theorem sz_set (w : World) (a : Addr) (v : Value) : (w.setCell a v).heap.size = w.heap.size := by simp [World.setCell]

/-- What Push has laid in the end. -/
theorem push_fin {F F' : Nat → Prop} {w w3 W6 : World} {g h3 frm3 L3 p o : Nat} {l : List (Int × Int)} {x : Int × Int} {cur : Array Value} {a b c d : Value}
    (HF3 : Fr F w w3) (HE3 : Ext F F' w w3) (HnF : ∀ k, F' k → k ≠ o) (ho : w.heap.size ≤ o) (hne : h3 ≠ g) (hf : frm3 < L3) (hll : l.length < L3) (hL4 : L3 ≤ 4096) (Hc : RingCells cur frm3 L3 l) (Hcs : cur.size = L3 * 2)
    (HFs' : ∀ k, F' k → k < w3.heap.size) (HhF : F' h3) (HgF' : F' g) (HW6 : W6 = w3.drew) (HG6 : RingBlk W6 g 4096 frm3 l.length (.slice (some ⟨h3, 0, none⟩) L3 L3)) (HH6 : W6.heap[h3]? = some (.cells cur 50 (0, 0)))
    (HO6 : W6.heap[o]? = some (.cells #[c, d] 50 (0, 0))) (Hp : p = (frm3 + l.length) % L3) :
    (let Wf := ((((W6.setCell ⟨h3, p * 2, none⟩ (.int .i64 x.1)).setCell ⟨h3, p * 2 + 1, none⟩ (.int .i64 x.2)).setCell ⟨g, 2, none⟩ (.int .i64 ((l.length : Int) + 1))).setCell ⟨o, 0, none⟩ a).setCell ⟨o, 1, none⟩ b
    Wf.heap[o]? = some (.cells #[a, b] 50 (0, 0)) ∧ Fr F w Wf ∧ ∃ F', Ext F F' w Wf ∧ RingAt Wf F' g (l ++ [x])) := by
  have ng := HnF g HgF'
  have nh := HnF h3 HhF
  have e1 : RingBlk (((((W6.setCell ⟨h3, p * 2, none⟩ (.int .i64 x.1)).setCell ⟨h3, p * 2 + 1, none⟩ (.int .i64 x.2)).setCell ⟨g, 2, none⟩ (.int .i64 ((l.length : Int) + 1))).setCell ⟨o, 0, none⟩ a).setCell ⟨o, 1, none⟩ b) g 4096 frm3 (l ++ [x]).length (.slice (some ⟨h3, 0, none⟩) L3 L3) := by
    have := hb_far (hb_far (hb_set (hb_far (hb_far HG6 (a := ⟨h3, p * 2, none⟩) (by exact fun e => hne e.symm) (.int .i64 x.1)) (a := ⟨h3, p * 2 + 1, none⟩) (by exact fun e => hne e.symm) (.int .i64 x.2)) 2 (.int .i64 ((l.length : Int) + 1))) (a := ⟨o, 0, none⟩) (by exact ng) a) (a := ⟨o, 1, none⟩) (by exact ng) b
    simpa [RingBlk] using this
  have e2 := hb_far (hb_far (hb_far (hb_set (hb_set HH6 (p * 2) (.int .i64 x.1)) (p * 2 + 1) (.int .i64 x.2)) (a := ⟨g, 2, none⟩) (by exact hne) (.int .i64 ((l.length : Int) + 1))) (a := ⟨o, 0, none⟩) (by exact nh) a) (a := ⟨o, 1, none⟩) (by exact nh) b
  have e3 := two_set (hb_far (hb_far (hb_far HO6 (a := ⟨h3, p * 2, none⟩) (by exact fun e => nh e.symm) (.int .i64 x.1)) (a := ⟨h3, p * 2 + 1, none⟩) (by exact fun e => nh e.symm) (.int .i64 x.2)) (a := ⟨g, 2, none⟩) (by exact fun e => ng e.symm) (.int .i64 ((l.length : Int) + 1))) a b
  subst HW6
  have cl : ∀ k, F' k → F k ∨ w.heap.size ≤ k := fun k hk => (HE3 k hk).imp id (fun h => h.1)
  refine ⟨e3, ?_, F', ?_, HgF', ?_, frm3, L3, _, e1, .inr ⟨h3, _, rfl, HhF, hne, e2, ?_, hf, ?_, hL4, ?_⟩⟩
  · exact (((((HF3.drewN 1).setCell (p := ⟨h3, p * 2, none⟩) (cl _ HhF) _).setCell (p := ⟨h3, p * 2 + 1, none⟩) (cl _ HhF) _).setCell (p := ⟨g, 2, none⟩) (cl _ HgF') _).setCell (p := ⟨o, 0, none⟩) (.inr ho) _).setCell (p := ⟨o, 1, none⟩) (.inr ho) _
  · intro k hk
    have := HE3 k hk
    simp only [sz_set]
    exact this
  · intro k hk
    have := HFs' k hk
    simp only [sz_set]
    exact this
  · simpa using Hcs
  · simp; omega
  · rw [Hp]; exact Hc.push Hcs hf hll

set_option maxRecDepth 100000 in
set_option maxHeartbeats 3200000 in
theorem ring_Push_more (F : Nat → Prop) (g : Nat) (l : List (Int × Int)) (x : Int × Int) (w : World) (hr : RingAt w F g l) (hl : l.length < 4096) :
    Calls Try.prog 33 #[.pointer (some ⟨g, 0, none⟩), .agg #[.int .i64 x.1, .int .i64 x.2]] w fun e w' => e = .returned (.tuple #[.agg #[.int .i64 0, .int .i64 0], .bool false]) ∧ Fr F w w' ∧ ∃ F', Ext F F' w w' ∧ RingAt w' F' g (l ++ [x]) := by
  have HR := Lib.hid hr
  have hg : g < w.heap.size := hr.2.1 g hr.1
  have ht : ((l.length : Int) == 4096) = false := by simp; omega
  have hni : ¬ (l.length : Int) = 4096 := by omega
  have Hl := Lib.hid hl
  clear hr hl
  go_enter Try.func33, Try.ntmps33
  go_wp2_with fail
  obtain ⟨W, hW⟩ : ∃ W, W = (w.alloc (.cells #[.int .i64 x.1, .int .i64 x.2] 50)).alloc (.cells #[.int .i64 0, .int .i64 0] 50) := ⟨_, rfl⟩
  have hWs : W.heap.size = w.heap.size + 2 := by rw [hW]; simp
  have hBW : Below w.heap.size w W := by rw [hW]; exact below2 _ _ _
  have v0 : W.heap[w.heap.size]? = some (.cells #[.int .i64 x.1, .int .i64 x.2] 50 (0, 0)) := by rw [hW]; exact hb_alloc (hb_new _ _) _
  have o0 : W.heap[w.heap.size + 1]? = some (.cells #[.int .i64 0, .int .i64 0] 50 (0, 0)) := by rw [hW]; have := hb_new (w.alloc (.cells #[.int .i64 x.1, .int .i64 x.2] 50)) (.cells #[.int .i64 0, .int .i64 0] 50); simpa using this
  have hRW : RingAt W F g l := HR.out.keep (fun k hk => hBW.block k (HR.out.2.1 k hk)) (by omega)
  rw [← hW]
  have HV := Lib.hid v0
  have HO := Lib.hid o0
  have HBW := Lib.hid hBW
  have HRW := Lib.hid hRW
  have HWs := Lib.hid hWs
  clear v0 o0 hBW hRW hWs hW
  obtain ⟨hgF, hFs, frm, L, v, hblk, hrest⟩ := HRW.out
  refine (ring_Room g 4096 frm l.length v W hblk).mono ?_
  rintro e w1 ⟨rfl, rfl⟩
  have c0 := hblk.cells.1
  have c2 := hblk.cells.2.2.1
  clear hblk hrest
  go_wp2_with fail
  go_quiet (fail)
  clear c0 c2 ht
  go_wp2_with fail
  have hD : ∀ n, RingAt (w1.drewN n) F g l := fun n => HRW.out.keep (fun k _ => rfl) (Nat.le_refl _)
  refine (ring_grow_at F g l _ (hD _) Hl.out).mono ?_
  rintro e w3 ⟨rfl, hfr, F', hE, hroom⟩
  have v3 : w3.heap[w.heap.size]? = some (.cells #[.int .i64 x.1, .int .i64 x.2] 50 (0, 0)) := hfr.blk (hb_drewN HV.out _) (fun h => by have := HR.out.2.1 _ h; omega)
  have o3 : w3.heap[w.heap.size + 1]? = some (.cells #[.int .i64 0, .int .i64 0] 50 (0, 0)) := hfr.blk (hb_drewN HO.out _) (fun h => by have := HR.out.2.1 _ h; omega)
  have hF3 : Fr F w w3 := (Fr.ofBelow (F := F) (below_up HBW.out (below_drewN _ _))).trans hfr (Ext.refl _ _ _)
  have hE3 : Ext F F' w w3 := by
    intro k hk
    rcases hE k hk with h | ⟨h1, h2⟩
    · exact .inl h
    · exact .inr ⟨by have := HWs.out; have : w.heap.size + 2 ≤ k := by rw [← this]; exact h1
                     omega, h2⟩
  have hnF : ∀ k, F' k → k ≠ w.heap.size ∧ k ≠ w.heap.size + 1 := by
    intro k hk
    rcases hE k hk with h | ⟨h1, h2⟩
    · have := HR.out.2.1 k h; omega
    · have := HWs.out
      have : w.heap.size + 2 ≤ k := by rw [← this]; exact h1
      omega
  have HF3 := Lib.hid hF3
  have HE3 := Lib.hid hE3
  have HnF := Lib.hid hnF
  obtain ⟨hgF', hFs', frm3, L3, h3, cur, hblk, hhF, hne, hh, hcs, hf, hll, hL4, hc⟩ := hroom
  have Hc := Lib.hid hc
  have Hcs := Lib.hid hcs
  have HFs' := Lib.hid hFs'
  have HhF := Lib.hid hhF
  have HgF' := Lib.hid hgF'
  have HV3 := Lib.hid v3
  have HO3 := Lib.hid o3
  clear hfr hE v3 o3 hF3 hE3 hnF hc hcs hFs' hhF hgF' hFs
  go_wp2_with fail
  refine wp_region_tail 21 (by kernel_rfl) (by kernel_rfl) (fun W6 HW6 => ?_)
  have hg6 : RingBlk W6 g 4096 frm3 l.length (.slice (some ⟨h3, 0, none⟩) L3 L3) := drew_blk HW6 hblk
  have hh6 := drew_blk HW6 hh
  have hv6 := drew_blk HW6 HV3.out
  have ho6 := drew_blk HW6 HO3.out
  have k1 := hg6.cells.2.1
  have k2 := hg6.cells.2.2.1
  have k3 := hg6.cells.2.2.2
  have j2 := hg6.free.2.2.1
  obtain ⟨v0, v1, _, _⟩ := hb2 hv6
  obtain ⟨o0, o1, of0, of1⟩ := hb2 ho6
  obtain ⟨hw3, hw4, hw5⟩ := mod_facts frm3 l.length L3 (by omega) hL4 (by omega) (by omega)
  obtain ⟨p, hp⟩ : ∃ p, p = (frm3 + l.length) % L3 := ⟨_, rfl⟩
  have hpL : p < L3 := by rw [hp]; exact Nat.mod_lt _ (by omega)
  rw [← hp] at hw4 hw5
  obtain ⟨y0, hy0⟩ : ∃ y, cur[p * 2]? = some y := ⟨_, Array.getElem?_eq_getElem (by have := Hcs.out; omega)⟩
  obtain ⟨y1, hy1⟩ : ∃ y, cur[p * 2 + 1]? = some y := ⟨_, Array.getElem?_eq_getElem (by have := Hcs.out; omega)⟩
  have q0 := (hb_cell hh6 (p * 2)).trans hy0
  have q1 := (hb_cell hh6 (p * 2 + 1)).trans hy1
  have r0 := hb_free hh6 (p * 2)
  have r1 := hb_free hh6 (p * 2 + 1)
  have hpi0 : (0 : Int) ≤ (p : Int) := by omega
  have hpi1 : (p : Int) < (L3 : Int) := by omega
  have hL1 : ((L3 : Int) == 0) = false := by simp; omega
  have hLz : ¬ L3 = 0 := by omega
  have hwn : IntKind.i64.wrap ((l.length : Int) + 1) = (l.length : Int) + 1 := IntWalk.i64_in _ (by have := Hl.out; omega)
  obtain ⟨hne1, hne2⟩ := HnF.out h3 HhF.out
  have hne3 : g ≠ w.heap.size := by omega
  have hne4 : g ≠ w.heap.size + 1 := by omega
  have HG6 := Lib.hid hg6
  have HH6 := Lib.hid hh6
  have HO6 := Lib.hid ho6
  have Hp := Lib.hid hp
  clear hblk hh hg6 hh6 hv6 ho6 hp hy0 hy1
  simp only [List.take_succ_cons, List.take_zero, List.drop_succ_cons, List.drop_zero]
  repeat still_step
  refine wpStill_nil ?_
  go_wp2_with fail
  obtain ⟨z1, z2, z3⟩ := push_fin (x := x) (a := .int .i64 0) (b := .int .i64 0) HF3.out HE3.out (fun k hk => (HnF.out k hk).2) (Nat.le_succ _) hne hf hll hL4 Hc.out Hcs.out HFs'.out HhF.out HgF'.out HW6.out HG6.out HH6.out HO6.out Hp.out
  obtain ⟨y0, y1, _, _⟩ := hb2 z1
  exact bodyPost_ret (v := .tuple #[.agg #[.int .i64 0, .int .i64 0], .bool false]) (by simp [results, Try.results33, y0, y1, go_sem]) rfl ⟨rfl, z2, z3⟩
end Go.Proofs.Ytfhhdlpglfjdgaa
/- Contracts of package ring at samples, told by footprints: Push into a full one. -/
set_option linter.unusedVariables false
set_option linter.unusedSimpArgs false
namespace Go.Proofs.Ytfhhdlpglfjdgaa
open Go.RowKit

set_option maxRecDepth 100000 in
set_option maxHeartbeats 3200000 in
theorem ring_Push_full (F : Nat → Prop) (g : Nat) (y : Int × Int) (l : List (Int × Int)) (x : Int × Int) (w : World) (hr : RingAt w F g (y :: l)) (hlen : (y :: l).length = 4096) :
    Calls Try.prog 33 #[.pointer (some ⟨g, 0, none⟩), .agg #[.int .i64 x.1, .int .i64 x.2]] w fun e w' => e = .returned (.tuple #[.agg #[.int .i64 y.1, .int .i64 y.2], .bool true]) ∧ Fr F w w' ∧ ∃ F', Ext F F' w w' ∧ RingAt w' F' g (l ++ [x]) := by
  have HR := Lib.hid hr
  have hg : g < w.heap.size := hr.2.1 g hr.1
  have hl : l.length < 4096 := by simp at hlen; omega
  have Hl := Lib.hid hl
  clear hr hl
  go_enter Try.func33, Try.ntmps33
  go_wp2_with fail
  obtain ⟨W, hW⟩ : ∃ W, W = (w.alloc (.cells #[.int .i64 x.1, .int .i64 x.2] 50)).alloc (.cells #[.int .i64 0, .int .i64 0] 50) := ⟨_, rfl⟩
  have hWs : W.heap.size = w.heap.size + 2 := by rw [hW]; simp
  have hBW : Below w.heap.size w W := by rw [hW]; exact below2 _ _ _
  have v0 : W.heap[w.heap.size]? = some (.cells #[.int .i64 x.1, .int .i64 x.2] 50 (0, 0)) := by rw [hW]; exact hb_alloc (hb_new _ _) _
  have o0 : W.heap[w.heap.size + 1]? = some (.cells #[.int .i64 0, .int .i64 0] 50 (0, 0)) := by rw [hW]; have := hb_new (w.alloc (.cells #[.int .i64 x.1, .int .i64 x.2] 50)) (.cells #[.int .i64 0, .int .i64 0] 50); simpa using this
  have hRW : RingAt W F g (y :: l) := HR.out.keep (fun k hk => hBW.block k (HR.out.2.1 k hk)) (by omega)
  rw [← hW]
  have HV := Lib.hid v0
  have HO := Lib.hid o0
  have HBW := Lib.hid hBW
  have HRW := Lib.hid hRW
  have HWs := Lib.hid hWs
  clear v0 o0 hBW hRW hWs hW
  obtain ⟨hgF, hFs, frm, L, v, hblk, hrest⟩ := HRW.out
  obtain ⟨n, hn⟩ : ∃ n, n = (y :: l).length := ⟨_, rfl⟩
  rw [← hn] at hblk
  have ht : ((n : Int) == 4096) = true := by rw [hn, hlen]; rfl
  have hni : (n : Int) = 4096 := by omega
  clear hn hlen
  refine (ring_Room g 4096 frm n v W hblk).mono ?_
  rintro e w1 ⟨rfl, rfl⟩
  have c0 := hblk.cells.1
  have c2 := hblk.cells.2.2.1
  clear hblk hrest
  go_wp2_with fail
  go_quiet (fail)
  clear c0 c2 ht
  go_wp2_with fail
  have hD : ∀ n, RingAt (w1.drewN n) F g (y :: l) := fun n => HRW.out.keep (fun k _ => rfl) (Nat.le_refl _)
  refine (ring_Drop_at F g y l (w1.drewN _) (hD _)).mono ?_
  rintro e w2 ⟨rfl, hfr2, hr2⟩
  have v2 : w2.heap[w.heap.size]? = some (.cells #[.int .i64 x.1, .int .i64 x.2] 50 (0, 0)) := hfr2.blk (hb_drewN HV.out _) (fun h => by have := HR.out.2.1 _ h; omega)
  have o2 : w2.heap[w.heap.size + 1]? = some (.cells #[.int .i64 0, .int .i64 0] 50 (0, 0)) := hfr2.blk (hb_drewN HO.out _) (fun h => by have := HR.out.2.1 _ h; omega)
  have hF2 : Fr F w w2 := (Fr.ofBelow (F := F) (below_up HBW.out (below_drewN _ _))).trans hfr2 (Ext.refl _ _ _)
  have hs2 : w.heap.size + 2 ≤ w2.heap.size := by have := hfr2.size; have h3 := HWs.out; simpa [h3] using this
  obtain ⟨o0, o1, of0, of1⟩ := hb2 o2
  have HV2 := Lib.hid v2
  have HO2 := Lib.hid o2
  have HF2 := Lib.hid hF2
  have Hs2 := Lib.hid hs2
  have HR2 := Lib.hid hr2
  clear hD hfr2 v2 o2 hF2 hs2 hr2
  go_wp2_with fail
  have w20 := two_set HO2.out (.int .i64 y.1) (.int .i64 y.2)
  have ho2 : ¬ F (w.heap.size + 1) := fun h => by have := HR.out.2.1 _ h; omega
  have hv2 : ¬ F w.heap.size := fun h => by have := HR.out.2.1 _ h; omega
  have hr2 : RingAt ((w2.setCell ⟨w.heap.size + 1, 0, none⟩ (.int .i64 y.1)).setCell ⟨w.heap.size + 1, 1, none⟩ (.int .i64 y.2)) F g l :=
    HR2.out.keep (fun k hk => by rw [Below.heap_setCell _ _ _ _ (by rintro rfl; exact ho2 hk), Below.heap_setCell _ _ _ _ (by rintro rfl; exact ho2 hk)]) (by simp only [sz_set]; exact Nat.le_refl _)
  have hv2' := hb_far (hb_far HV2.out (a := ⟨w.heap.size + 1, 0, none⟩) (by exact (Nat.ne_of_lt (Nat.lt_succ_self _))) (.int .i64 y.1)) (a := ⟨w.heap.size + 1, 1, none⟩) (by exact (Nat.ne_of_lt (Nat.lt_succ_self _))) (.int .i64 y.2)
  have hF2' := ((HF2.out).setCell (p := ⟨w.heap.size + 1, 0, none⟩) (.inr (Nat.le_succ _)) (.int .i64 y.1)).setCell (p := ⟨w.heap.size + 1, 1, none⟩) (.inr (Nat.le_succ _)) (.int .i64 y.2)
  refine (ring_grow_at F g l _ hr2 Hl.out).mono ?_
  rintro e w3 ⟨rfl, hfr, F', hE, hroom⟩
  have v3 := hfr.blk hv2' hv2
  have o3 := hfr.blk w20 ho2
  have hF3 : Fr F w w3 := hF2'.trans hfr (Ext.refl _ _ _)
  have hE3 : Ext F F' w w3 := by
    intro k hk
    rcases hE k hk with h | ⟨h1, h2⟩
    · exact .inl h
    · simp only [sz_set] at h1
      exact .inr ⟨by have := Hs2.out; omega, h2⟩
  have hnF : ∀ k, F' k → k ≠ w.heap.size ∧ k ≠ w.heap.size + 1 := by
    intro k hk
    rcases hE k hk with h | ⟨h1, h2⟩
    · have := HR.out.2.1 k h; omega
    · simp only [sz_set] at h1
      have := Hs2.out
      omega
  have HF3 := Lib.hid hF3
  have HE3 := Lib.hid hE3
  have HnF := Lib.hid hnF
  obtain ⟨hgF', hFs', frm3, L3, h3, cur, hblk, hhF, hne, hh, hcs, hf, hll, hL4, hc⟩ := hroom
  have Hc := Lib.hid hc
  have Hcs := Lib.hid hcs
  have HFs' := Lib.hid hFs'
  have HhF := Lib.hid hhF
  have HgF' := Lib.hid hgF'
  have HV3 := Lib.hid v3
  have HO3 := Lib.hid o3
  clear hfr hE v3 o3 hF3 hE3 hnF hc hcs hFs' hhF hgF' hFs w20 hr2 hv2' hF2' o0 o1 of0 of1 ho2 hv2
  go_wp2_with fail
  refine wp_region_tail 21 (by kernel_rfl) (by kernel_rfl) (fun W6 HW6 => ?_)
  have hg6 : RingBlk W6 g 4096 frm3 l.length (.slice (some ⟨h3, 0, none⟩) L3 L3) := drew_blk HW6 hblk
  have hh6 := drew_blk HW6 hh
  have hv6 := drew_blk HW6 HV3.out
  have ho6 := drew_blk HW6 HO3.out
  have k1 := hg6.cells.2.1
  have k2 := hg6.cells.2.2.1
  have k3 := hg6.cells.2.2.2
  have j2 := hg6.free.2.2.1
  obtain ⟨v0, v1, _, _⟩ := hb2 hv6
  obtain ⟨o0, o1, of0, of1⟩ := hb2 ho6
  obtain ⟨hw3, hw4, hw5⟩ := mod_facts frm3 l.length L3 (by omega) hL4 (by omega) (by omega)
  obtain ⟨p, hp⟩ : ∃ p, p = (frm3 + l.length) % L3 := ⟨_, rfl⟩
  have hpL : p < L3 := by rw [hp]; exact Nat.mod_lt _ (by omega)
  rw [← hp] at hw4 hw5
  obtain ⟨y0, hy0⟩ : ∃ y, cur[p * 2]? = some y := ⟨_, Array.getElem?_eq_getElem (by have := Hcs.out; omega)⟩
  obtain ⟨y1, hy1⟩ : ∃ y, cur[p * 2 + 1]? = some y := ⟨_, Array.getElem?_eq_getElem (by have := Hcs.out; omega)⟩
  have q0 := (hb_cell hh6 (p * 2)).trans hy0
  have q1 := (hb_cell hh6 (p * 2 + 1)).trans hy1
  have r0 := hb_free hh6 (p * 2)
  have r1 := hb_free hh6 (p * 2 + 1)
  have hpi0 : (0 : Int) ≤ (p : Int) := by omega
  have hpi1 : (p : Int) < (L3 : Int) := by omega
  have hL1 : ((L3 : Int) == 0) = false := by simp; omega
  have hLz : ¬ L3 = 0 := by omega
  have hwn : IntKind.i64.wrap ((l.length : Int) + 1) = (l.length : Int) + 1 := IntWalk.i64_in _ (by have := Hl.out; omega)
  obtain ⟨hne1, hne2⟩ := HnF.out h3 HhF.out
  have hne3 : g ≠ w.heap.size := by omega
  have hne4 : g ≠ w.heap.size + 1 := by omega
  have HG6 := Lib.hid hg6
  have HH6 := Lib.hid hh6
  have HO6 := Lib.hid ho6
  have Hp := Lib.hid hp
  clear hblk hh hg6 hh6 hv6 ho6 hp hy0 hy1
  simp only [List.take_succ_cons, List.take_zero, List.drop_succ_cons, List.drop_zero]
  repeat still_step
  refine wpStill_nil ?_
  go_wp2_with fail
  obtain ⟨z1, z2, z3⟩ := push_fin (x := x) (a := .int .i64 y.1) (b := .int .i64 y.2) HF3.out HE3.out (fun k hk => (HnF.out k hk).2) (Nat.le_succ _) hne hf hll hL4 Hc.out Hcs.out HFs'.out HhF.out HgF'.out HW6.out HG6.out HH6.out HO6.out Hp.out
  obtain ⟨y0, y1, _, _⟩ := hb2 z1
  exact bodyPost_ret (v := .tuple #[.agg #[.int .i64 y.1, .int .i64 y.2], .bool true]) (by simp [results, Try.results33, y0, y1, go_sem]) rfl ⟨rfl, z2, z3⟩
end Go.Proofs.Ytfhhdlpglfjdgaa
/- Contracts of package mono. -/
set_option linter.unusedVariables false
set_option linter.unusedSimpArgs false
namespace Go.Proofs.Ytfhhdlpglfjdgaa
open Go.RowKit

/-- A Mono that lies in block g. -/
def MonoBlk (w : World) (g : Nat) (high : Bool) (come left : Int) (v : Value) : Prop := w.heap[g]? = some (.cells #[.bool high, .int .i64 come, .int .i64 left, v] 83 (0, 0))

theorem mono_New (high : Bool) (w : World) :
    Calls Try.prog 16 #[.bool high] w fun e w' => e = .returned (.pointer (some ⟨w.heap.size, 0, none⟩)) ∧ w' = w.alloc (.cells #[.bool high, .int .i64 0, .int .i64 0, .slice none 0 0] 83) := by
  go_enter Try.func16, Try.ntmps16
  go_wp2
  go_ret
  exact ⟨rfl, rfl⟩

theorem mono_Len_nil (w : World) : Calls Try.prog 51 #[.pointer none] w fun e w' => e = .returned (.int .i64 0) ∧ w' = w := by
  go_enter Try.func51, Try.ntmps51
  go_wp2
  go_ret
  exact ⟨rfl, rfl⟩

theorem mono_Len (g : Nat) (high : Bool) (come left : Int) (v : Value) (w : World) (h : MonoBlk w g high come left v) (h0 : 0 ≤ left) (h1 : left ≤ come) (h2 : come ≤ 9223372036854775807) :
    Calls Try.prog 51 #[.pointer (some ⟨g, 0, none⟩)] w fun e w' => e = .returned (.int .i64 (come - left)) ∧ ∃ n, w' = w.drewN n := by
  have c1 := hb_cell h 1
  have c2 := hb_cell h 2
  simp only [List.getElem?_toArray, List.getElem?_cons_zero, List.getElem?_cons_succ] at c1 c2
  clear h
  go_enter Try.func51, Try.ntmps51
  go_wp2
  go_quiet (fail)
  go_wp2
  go_ret
  exact ⟨rfl, _, rfl⟩

/-- The cells of those that are kept: a number, and how many had come ahead of it. -/
def kc (l : List (Int × Int)) : List Value := l.flatMap fun x => [.int .i64 x.1, .int .i64 x.2]
theorem kc_length (l : List (Int × Int)) : (kc l).length = l.length * 2 := by
  induction l with
  | nil => rfl
  | cons a l ih => simp only [kc, List.flatMap_cons, List.length_append, List.length_cons, List.length_nil] at *; omega
theorem kc_append (l m : List (Int × Int)) : kc (l ++ m) = kc l ++ kc m := by simp [kc]
theorem kc_take (l : List (Int × Int)) (k : Nat) : (kc l).take (k * 2) = kc (l.take k) := by
  induction l generalizing k with
  | nil => simp [kc]
  | cons a l ih =>
    cases k with
    | zero => simp [kc]
    | succ k =>
      have := ih k
      simp only [kc, List.flatMap_cons, List.take_succ_cons] at *
      rw [show (k + 1) * 2 = k * 2 + 1 + 1 by omega]
      simp [this]
theorem kc_drop (l : List (Int × Int)) (k : Nat) : (kc l).drop (k * 2) = kc (l.drop k) := by
  induction l generalizing k with
  | nil => simp [kc]
  | cons a l ih =>
    cases k with
    | zero => simp [kc]
    | succ k =>
      have := ih k
      simp only [kc, List.flatMap_cons, List.drop_succ_cons] at *
      rw [show (k + 1) * 2 = k * 2 + 1 + 1 by omega]
      simp [this]
theorem kc_get (l : List (Int × Int)) (i : Nat) (x : Int × Int) (h : l[i]? = some x) : (kc l)[i * 2]? = some (.int .i64 x.1) ∧ (kc l)[i * 2 + 1]? = some (.int .i64 x.2) := by
  induction l generalizing i with
  | nil => simp at h
  | cons a l ih =>
    cases i with
    | zero => simp at h; subst h; simp [kc]
    | succ i =>
      have := ih i (by simpa using h)
      simp only [kc, List.flatMap_cons] at *
      rw [show (i + 1) * 2 = i * 2 + 1 + 1 by omega]
      simpa using this

set_option maxHeartbeats 400000 in
theorem mono_Best_none (g : Nat) (high : Bool) (come : Int) (v : Value) (w : World) (h : MonoBlk w g high come come v) (h0 : 0 ≤ come) (h2 : come ≤ 9223372036854775807) :
    Calls Try.prog 31 #[.pointer (some ⟨g, 0, none⟩)] w fun e w' => e = .returned (.tuple #[.int .i64 0, .bool false]) ∧ Below w.heap.size w w' := by
  have hL := fun w h => mono_Len g high come come v w h h0 (Int.le_refl _) h2
  have HL := Lib.hid hL
  have H := Lib.hid h
  clear hL h
  go_enter Try.func31, Try.ntmps31
  go_wp2_with fail
  refine (HL.out _ H.out).mono ?_
  rintro e w1 ⟨rfl, n, rfl⟩
  go_wp2
  go_ret2
  exact ⟨rfl, below_drewN _ _⟩

set_option maxHeartbeats 400000 in
theorem mono_Best_some (g h off n cap : Nat) (high : Bool) (come left b : Int) (w : World) (hm : MonoBlk w g high come left (.slice (some ⟨h, off, none⟩) n cap)) (h0 : 0 ≤ left) (h1 : left < come) (h2 : come ≤ 9223372036854775807)
    (hn : 0 < n) (hc : w.cell? ⟨h, off, none⟩ = some (.int .i64 b)) :
    Calls Try.prog 31 #[.pointer (some ⟨g, 0, none⟩)] w fun e w' => e = .returned (.tuple #[.int .i64 b, .bool true]) ∧ Below w.heap.size w w' := by
  have hL := fun w h' => mono_Len g high come left (.slice (some ⟨h, off, none⟩) n cap) w h' h0 (by omega) h2
  have c3 := hb_cell hm 3
  simp only [List.getElem?_toArray, List.getElem?_cons_zero, List.getElem?_cons_succ] at c3
  have HL := Lib.hid hL
  have H := Lib.hid hm
  have ht : (come - left == 0) = false := by simp; omega
  clear hL hm
  go_enter Try.func31, Try.ntmps31
  go_wp2_with fail
  refine (HL.out _ H.out).mono ?_
  rintro e w1 ⟨rfl, n, rfl⟩
  go_wp2
  go_ret2
  exact ⟨rfl, below_drewN _ _⟩
end Go.Proofs.Ytfhhdlpglfjdgaa
/- Contracts of package mono: Put and Take. -/
set_option linter.unusedVariables false
set_option linter.unusedSimpArgs false
namespace Go.Proofs.Ytfhhdlpglfjdgaa
open Go.RowKit

/-- Does an elder number stay ahead of v? -/
def mbeats (high : Bool) (old v : Int) : Bool := if high then decide (v < old) else decide (old < v)
/-- How many of the first n stay. -/
def mcut (high : Bool) (v : Int) (l : List (Int × Int)) : Nat → Nat
  | 0 => 0
  | n + 1 => if mbeats high (l.getD n (0, 0)).1 v then n + 1 else mcut high v l n
theorem mcut_le (high : Bool) (v : Int) (l : List (Int × Int)) : ∀ n, mcut high v l n ≤ n
  | 0 => Nat.le_refl _
  | n + 1 => by
    have := mcut_le high v l n
    unfold mcut
    split <;> omega

theorem mono_Put_nil (v : Int) (w : World) : Calls Try.prog 36 #[.pointer none, .int .i64 v] w fun e w' => e = .returned (.tuple #[]) ∧ w' = w := by
  go_enter Try.func36, Try.ntmps36
  go_step3
  go_wp2
  rw [Exit.noGoto_ret]
  exact bodyPost_ret (v := .tuple #[]) (results_none rfl _ _ _) rfl ⟨rfl, rfl⟩
theorem mono_Take_nil (w : World) : Calls Try.prog 55 #[.pointer none] w fun e w' => e = .returned (.bool false) ∧ w' = w := by
  have hL := mono_Len_nil
  have HL := Lib.hid hL
  clear hL
  go_enter Try.func55, Try.ntmps55
  go_wp2_with fail
  refine (HL.out _).mono ?_
  rintro e w1 ⟨rfl, rfl⟩
  go_wp2
  go_ret
  exact ⟨rfl, rfl⟩

theorem Try.infok : (Try.prog.info? 101).map (fun i => (i.zero, i.size, i.bytes)) = some (some (.agg #[.int .i64 0, .int .i64 0]), 2, 16) := by kernel_rfl

/-- Behind the cut: what is kept, and the new one, in a row. -/
def MonoPut (w w' : World) (g base : Nat) (high : Bool) (come left : Int) (l : List (Int × Int)) (v0 : Value) : Prop :=
  ∃ h off cap w1, RowQ w1 base 101 2 (.slice (some ⟨h, off, none⟩) l.length cap) l.length (kc l) ∧ w.grownBy w1 v0.ownBlock ∧ (v0.ownBlock = some h ∨ w.heap.size ≤ h) ∧
    w' = (w1.setCell ⟨g, 3, none⟩ (.slice (some ⟨h, off, none⟩) l.length cap)).setCell ⟨g, 1, none⟩ (.int .i64 come)

theorem grown_alloc_drew {w w1 : World} {o : Obj} {row : Option Nat} (h : (w.alloc o).drew.grownBy w1 row) : w.grownBy w1 row :=
  ⟨h.os, h.tape, h.output, by have := h.size; simp at this; omega, fun k hk hne => (h.block k (by simp; omega) hne).trans (Below.heap_alloc w o k hk)⟩
theorem MonoPut.mk' {w w1 : World} {g base k h off cap cap0 : Nat} {A : Option Addr} {high : Bool} {come left v : Int} {l : List (Int × Int)} {v0 : Value} {o : Obj} (hk : k ≤ l.length) (hcut : mcut high v l l.length = k)
    (HQ : RowQ w1 base 101 2 (.slice (some ⟨h, off, none⟩) (k + 1) cap) (k + 1) (kc (l.take k) ++ [.int .i64 v, .int .i64 come])) (HG : (w.alloc o).drew.grownBy w1 (Value.slice A k cap0).ownBlock)
    (HO : (Value.slice A k cap0).ownBlock = some h ∨ (w.alloc o).drew.heap.size ≤ h) (hv : (Value.slice A k cap0).ownBlock = v0.ownBlock) :
    MonoPut w ((w1.setCell ⟨g, 3, none⟩ (.slice (some ⟨h, off, none⟩) (k + 1) cap)).setCell ⟨g, 1, none⟩ (.int .i64 (come + 1))) g base high (come + 1) left (l.take (mcut high v l l.length) ++ [(v, come)]) v0 := by
  rw [hcut]
  have e : (l.take k ++ [(v, come)]).length = k + 1 := by simp; omega
  rw [hv] at HG HO
  refine ⟨h, off, cap, w1, ?_, grown_alloc_drew HG, HO.imp id (fun h => by simp at h; omega), by rw [e]⟩
  rw [e, kc_append]
  exact HQ

set_option maxHeartbeats 4000000 in
theorem mono_Put_none (g base : Nat) (high : Bool) (come left v : Int) (w : World) (hm : MonoBlk w g high come left (.slice none 0 0)) 
    (hbase : base ≤ w.heap.size) (h0 : 0 ≤ come) (h2 : come ≤ 4611686018427387904) :
    Calls Try.prog 36 #[.pointer (some ⟨g, 0, none⟩), .int .i64 v] w fun e w' => e = .returned (.tuple #[]) ∧ MonoPut w w' g base high (come + 1) left (([] : List (Int × Int)).take (mcut high v [] 0) ++ [(v, come)]) (.slice none 0 0) := by
  have hq : RowQ w base 101 2 (.slice none 0 0) 0 (kc []) := RowQ.nil _ _ _ _
  have hne : (Value.slice none 0 0).ownBlock ≠ some g := by simp [Value.ownBlock]
  have c0 := hb_cell hm 0
  have c1 := hb_cell hm 1
  have c3 := hb_cell hm 3
  have f1 := hb_free hm 1
  have f3 := hb_free hm 3
  have hg := hb_lt hm
  simp only [List.getElem?_toArray, List.getElem?_cons_zero, List.getElem?_cons_succ] at c0 c1 c3
  have Hq := Lib.hid hq
  have Hne := Lib.hid hne
  obtain ⟨i0, hi, hz0, hz1, hz2⟩ := info_parts Try.infok
  have Hi := Lib.hid hi
  have Hz0 := Lib.hid hz0
  have Hz1 := Lib.hid hz1
  have Hz2 := Lib.hid hz2
  clear hq hm hne hi hz0 hz1 hz2
  go_enter Try.func36, Try.ntmps36
  go_step3
  go_wp2_with fail
  go_step3
  go_wp2_with fail
  go_loop [4] (fun n => n = .int .i64 0) (fun n => 0)
  case atStart => rfl
  case round =>
    subst hrel
    have hrow := Hq.out.take (k := 0) (Nat.le_refl _)
    rw [kc_take] at hrow
    have Hr := Lib.hid hrow
    have hne' : some g ≠ (Value.slice none 0 0).ownBlock := fun e => Hne.out e.symm
    have Hne' := Lib.hid hne'
    clear hrow hne'
    go_wp2_with fail
    go_region_law (refine step_append_q rfl (.tmp 52) (.tmp 59) 81 rfl 101 i0 _ 2 16 Try.underlying81 Hi.out Hz0.out Hz1.out Hz2.out rfl (by decide) base (.slice none 0 0) 0 _ rfl (Hr.out.drew.alloc _) (by simp; omega) ⟨w.heap.size, 0, none⟩ 1 1 [.int .i64 v, .int .i64 come] rfl rfl (news2 _ _ _ _) (one2 _ _ _ _) (by decide) (by unfold maxLen; omega) (by omega) ?_; intro h' off' cap' w1 hq1 hgr hor hlt'; have d1 := grown_cell hgr (b := g) (o := 1) (cell_alloc hg c1) Hne'.out; have d3 := grown_cell hgr (b := g) (o := 3) (cell_alloc hg c3) Hne'.out; have e1 := grown_free hgr (b := g) (o := 1) (by simp; omega) (free_alloc hg f1) Hne'.out; have e3 := grown_free hgr (b := g) (o := 3) (by simp; omega) (free_alloc hg f3) Hne'.out; have HQ := Lib.hid hq1; have HG := Lib.hid hgr; have HO := Lib.hid hor; clear hq1 hgr hor)
    all_goals
      go_wp2_with fail
      unfold Exit.noGoto
      exact bodyPost_end (v := .tuple #[]) (results_none rfl _ _ _) rfl ⟨rfl, MonoPut.mk' (k := 0) (A := none) (cap0 := 0) (Nat.zero_le _) rfl HQ.out HG.out HO.out rfl⟩

set_option maxHeartbeats 4000000 in
theorem mono_Put_some (g base h off cap : Nat) (high : Bool) (come left v : Int) (l : List (Int × Int)) (w : World) (hm : MonoBlk w g high come left (.slice (some ⟨h, off, none⟩) l.length cap)) (hq : RowQ w base 101 2 (.slice (some ⟨h, off, none⟩) l.length cap) l.length (kc l)) (hgh : h ≠ g)
    (hbase : base ≤ w.heap.size) (h0 : 0 ≤ come) (h2 : come ≤ 4611686018427387904) (hl : l.length ≤ 4294967296) (hnc : l.length ≤ cap) (hcm : cap ≤ maxLen) (hcell : ∀ j u, (kc l)[j]? = some u → w.cell? ⟨h, off + j, none⟩ = some u) :
    Calls Try.prog 36 #[.pointer (some ⟨g, 0, none⟩), .int .i64 v] w fun e w' => e = .returned (.tuple #[]) ∧ MonoPut w w' g base high (come + 1) left (l.take (mcut high v l l.length) ++ [(v, come)]) (.slice (some ⟨h, off, none⟩) l.length cap) := by
  have hne : (Value.slice (some ⟨h, off, none⟩) l.length cap).ownBlock ≠ some g := by simpa [Value.ownBlock] using hgh
  have c0 := hb_cell hm 0
  have c1 := hb_cell hm 1
  have c3 := hb_cell hm 3
  have f1 := hb_free hm 1
  have f3 := hb_free hm 3
  have hg := hb_lt hm
  simp only [List.getElem?_toArray, List.getElem?_cons_zero, List.getElem?_cons_succ] at c0 c1 c3
  have Hq := Lib.hid hq
  have Hne := Lib.hid hne
  obtain ⟨i0, hi, hz0, hz1, hz2⟩ := info_parts Try.infok
  have Hi := Lib.hid hi
  have Hz0 := Lib.hid hz0
  have Hz1 := Lib.hid hz1
  have Hz2 := Lib.hid hz2
  have Hc := Lib.hid hcell
  clear hq hm hne hi hz0 hz1 hz2 hcell hgh
  go_enter Try.func36, Try.ntmps36
  go_step3
  go_wp2_with fail
  go_step3
  go_wp2_with fail
  go_loop [4] (fun n => ∃ k : Nat, n = .int .i64 k ∧ k ≤ l.length ∧ Hid (mcut high v l l.length = mcut high v l k)) (fun n => (intOf n).toNat)
  case atStart => exact ⟨l.length, rfl, Nat.le_refl _, rfl⟩
  case round =>
    obtain ⟨k, rfl, hk, Hk⟩ := hrel
    rcases Nat.eq_zero_or_pos k with rfl | hp
    · have Hcut : Hid (mcut high v l l.length = 0) := Hk.out
      have hrow := Hq.out.take (k := 0) (by omega)
      rw [kc_take] at hrow
      have Hr := Lib.hid hrow
      have hne' : some g ≠ (Value.slice (some ⟨h, off, none⟩) 0 cap).ownBlock := fun e => Hne.out e.symm
      have Hne' := Lib.hid hne'
      clear hrow hne'
      go_wp2_with fail
      go_region_law (refine step_append_q rfl (.tmp 52) (.tmp 59) 81 rfl 101 i0 _ 2 16 Try.underlying81 Hi.out Hz0.out Hz1.out Hz2.out rfl (by decide) base (.slice (some ⟨h, off, none⟩) 0 cap) 0 _ rfl (Hr.out.drew.alloc _) (by simp; omega) ⟨w.heap.size, 0, none⟩ 1 1 [.int .i64 v, .int .i64 come] rfl rfl (news2 _ _ _ _) (one2 _ _ _ _) (by decide) (by unfold maxLen; omega) (by omega) ?_; intro h' off' cap' w1 hq1 hgr hor hlt'; have d1 := grown_cell hgr (b := g) (o := 1) (cell_alloc hg c1) Hne'.out; have d3 := grown_cell hgr (b := g) (o := 3) (cell_alloc hg c3) Hne'.out; have e1 := grown_free hgr (b := g) (o := 1) (by simp; omega) (free_alloc hg f1) Hne'.out; have e3 := grown_free hgr (b := g) (o := 3) (by simp; omega) (free_alloc hg f3) Hne'.out; have HQ := Lib.hid hq1; have HG := Lib.hid hgr; have HO := Lib.hid hor; clear hq1 hgr hor)
      all_goals
        go_wp2_with fail
        unfold Exit.noGoto
        exact bodyPost_end (v := .tuple #[]) (results_none rfl _ _ _) rfl ⟨rfl, MonoPut.mk' (k := 0) (A := (some ⟨h, off, none⟩)) (cap0 := cap) (by omega) (Hcut.out) HQ.out HG.out HO.out rfl⟩
    · obtain ⟨m, rfl⟩ : ∃ m, k = m + 1 := ⟨k - 1, by omega⟩
      obtain ⟨x, hx⟩ : ∃ x, l[m]? = some x := ⟨l[m]'(by omega), List.getElem?_eq_getElem (by omega)⟩
      have co := Hc.out _ _ (kc_get l m x hx).1
      have hgd : (l.getD m (0, 0)).1 = x.1 := by simp [List.getD, hx]
      have hstep : mcut high v l (m + 1) = if mbeats high x.1 v then m + 1 else mcut high v l m := by rw [← hgd]; rfl
      have Hst := Lib.hid hstep
      clear hx hgd hstep
      cases high
      · by_cases hbt : x.1 < v
        · have Hcut : Hid (mcut false v l l.length = m + 1) := Hk.out.trans (Hst.out.trans (if_pos (by simp [mbeats]; omega)))
          have hrow := Hq.out.take (k := (m + 1)) (by omega)
          rw [kc_take] at hrow
          have Hr := Lib.hid hrow
          have hne' : some g ≠ (Value.slice (some ⟨h, off, none⟩) (m + 1) cap).ownBlock := fun e => Hne.out e.symm
          have Hne' := Lib.hid hne'
          have hsl : ((m : Int) + 1) ≤ (cap : Int) := by omega
          have hsl0 : (0 : Int) ≤ ((m : Int) + 1) := by omega
          clear hrow hne'
          go_wp2_with fail
          go_region_law (refine step_append_q rfl (.tmp 52) (.tmp 59) 81 rfl 101 i0 _ 2 16 Try.underlying81 Hi.out Hz0.out Hz1.out Hz2.out rfl (by decide) base (.slice (some ⟨h, off, none⟩) (m + 1) cap) (m + 1) _ rfl (Hr.out.drew.alloc _) (by simp; omega) ⟨w.heap.size, 0, none⟩ 1 1 [.int .i64 v, .int .i64 come] rfl rfl (news2 _ _ _ _) (one2 _ _ _ _) (by decide) (by unfold maxLen; omega) (by omega) ?_; intro h' off' cap' w1 hq1 hgr hor hlt'; have d1 := grown_cell hgr (b := g) (o := 1) (cell_alloc hg c1) Hne'.out; have d3 := grown_cell hgr (b := g) (o := 3) (cell_alloc hg c3) Hne'.out; have e1 := grown_free hgr (b := g) (o := 1) (by simp; omega) (free_alloc hg f1) Hne'.out; have e3 := grown_free hgr (b := g) (o := 3) (by simp; omega) (free_alloc hg f3) Hne'.out; have HQ := Lib.hid hq1; have HG := Lib.hid hgr; have HO := Lib.hid hor; clear hq1 hgr hor)
          all_goals
            go_wp2_with fail
            unfold Exit.noGoto
            exact bodyPost_end (v := .tuple #[]) (results_none rfl _ _ _) rfl ⟨rfl, MonoPut.mk' (k := (m + 1)) (A := (some ⟨h, off, none⟩)) (cap0 := cap) (by omega) (Hcut.out) HQ.out HG.out HO.out rfl⟩
        · go_wp2_with fail
          go_round
          case rel => exact ⟨m, rfl, by omega, Hk.out.trans (Hst.out.trans (if_neg (by simp [mbeats]; omega)))⟩
          case measure => simp [intOf]
      · by_cases hbt : v < x.1
        · have Hcut : Hid (mcut true v l l.length = m + 1) := Hk.out.trans (Hst.out.trans (if_pos (by simp [mbeats]; omega)))
          have hrow := Hq.out.take (k := (m + 1)) (by omega)
          rw [kc_take] at hrow
          have Hr := Lib.hid hrow
          have hne' : some g ≠ (Value.slice (some ⟨h, off, none⟩) (m + 1) cap).ownBlock := fun e => Hne.out e.symm
          have Hne' := Lib.hid hne'
          have hsl : ((m : Int) + 1) ≤ (cap : Int) := by omega
          have hsl0 : (0 : Int) ≤ ((m : Int) + 1) := by omega
          clear hrow hne'
          go_wp2_with fail
          go_region_law (refine step_append_q rfl (.tmp 52) (.tmp 59) 81 rfl 101 i0 _ 2 16 Try.underlying81 Hi.out Hz0.out Hz1.out Hz2.out rfl (by decide) base (.slice (some ⟨h, off, none⟩) (m + 1) cap) (m + 1) _ rfl (Hr.out.drew.alloc _) (by simp; omega) ⟨w.heap.size, 0, none⟩ 1 1 [.int .i64 v, .int .i64 come] rfl rfl (news2 _ _ _ _) (one2 _ _ _ _) (by decide) (by unfold maxLen; omega) (by omega) ?_; intro h' off' cap' w1 hq1 hgr hor hlt'; have d1 := grown_cell hgr (b := g) (o := 1) (cell_alloc hg c1) Hne'.out; have d3 := grown_cell hgr (b := g) (o := 3) (cell_alloc hg c3) Hne'.out; have e1 := grown_free hgr (b := g) (o := 1) (by simp; omega) (free_alloc hg f1) Hne'.out; have e3 := grown_free hgr (b := g) (o := 3) (by simp; omega) (free_alloc hg f3) Hne'.out; have HQ := Lib.hid hq1; have HG := Lib.hid hgr; have HO := Lib.hid hor; clear hq1 hgr hor)
          all_goals
            go_wp2_with fail
            unfold Exit.noGoto
            exact bodyPost_end (v := .tuple #[]) (results_none rfl _ _ _) rfl ⟨rfl, MonoPut.mk' (k := (m + 1)) (A := (some ⟨h, off, none⟩)) (cap0 := cap) (by omega) (Hcut.out) HQ.out HG.out HO.out rfl⟩
        · go_wp2_with fail
          go_round
          case rel => exact ⟨m, rfl, by omega, Hk.out.trans (Hst.out.trans (if_neg (by simp [mbeats]; omega)))⟩
          case measure => simp [intOf]
end Go.Proofs.Ytfhhdlpglfjdgaa
