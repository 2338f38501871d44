/- Words on blocks of memory, used by all walks of this seat. -/
import Derived.Test.YtfhhdlpglfjdgaaProg
import Derived.WalkKit
import Derived.WalkSpells
import Derived.WalkLawsBesides
import Derived.KernelRfl
import Derived.Deep.QuietTactic
import Derived.BigQuiet
import Derived.Lib.Hide
import Derived.Deep.RegionWith
import Derived.Deep.RegionHeld3
import Derived.Deep.RegionLaw
import Derived.Deep.DeepCutAuto
import Derived.Deep.LoopGhost
import Derived.StillTailTactics
set_option linter.unusedVariables false
set_option linter.unusedSimpArgs false
namespace Go.Proofs.Ytfhhdlpglfjdgaa
open Go.RowKit

theorem hb_lt {w : World} {b : Nat} {o : Obj} (h : w.heap[b]? = some o) : b < w.heap.size := (Array.getElem?_eq_some_iff.1 h).1
theorem hb_cell {w : World} {b : Nat} {cs : Array Value} {t : TypeId} {fr : Nat × Nat} (h : w.heap[b]? = some (.cells cs t fr)) (i : Nat) : w.cell? ⟨b, i, none⟩ = cs[i]? := by simp [World.cell?, h]
theorem hb_free {w : World} {b : Nat} {cs : Array Value} {t : TypeId} (h : w.heap[b]? = some (.cells cs t (0, 0))) (i : Nat) : w.frozen? ⟨b, i, none⟩ = false := by simp [World.frozen?, h]
theorem hb_new (w : World) (o : Obj) : (w.alloc o).heap[w.heap.size]? = some o := by show (w.heap.push o)[w.heap.size]? = some o; simp
theorem hb_alloc {w : World} {b : Nat} {o : Obj} (h : w.heap[b]? = some o) (p : Obj) : (w.alloc p).heap[b]? = some o := by
  rw [Below.heap_alloc w p b (hb_lt h)]; exact h
theorem hb_set {w : World} {b : Nat} {cs : Array Value} {t : TypeId} {fr : Nat × Nat} (h : w.heap[b]? = some (.cells cs t fr)) (i : Nat) (v : Value) : (w.setCell ⟨b, i, none⟩ v).heap[b]? = some (.cells (cs.setIfInBounds i v) t fr) := by
  simp [World.setCell, Array.getElem?_modify, h]
theorem hb_far {w : World} {b : Nat} {o : Obj} (h : w.heap[b]? = some o) {a : Addr} (hne : b ≠ a.block) (v : Value) : (w.setCell a v).heap[b]? = some o := by
  rw [Below.heap_setCell w a v b hne]; exact h
theorem hb_below {w w1 : World} {B b : Nat} {o : Obj} (h : w.heap[b]? = some o) (hb : Below B w w1) (hB : b < B) : w1.heap[b]? = some o := (hb.block b hB).trans h
theorem hb_below' {w w1 : World} {b : Nat} {o : Obj} (h : w.heap[b]? = some o) (hb : Below w.heap.size w w1) : w1.heap[b]? = some o := hb_below h hb (hb_lt h)
theorem hb_drewN {w : World} {b : Nat} {o : Obj} (h : w.heap[b]? = some o) (n : Nat) : (w.drewN n).heap[b]? = some o := h

/-- Blocks of the call's own, one behind the other. -/
theorem below1 (w : World) (o : Obj) : Below w.heap.size w (w.alloc o) := (Below.refl _ _).alloc (Nat.le_refl _) _
theorem below2 (w : World) (o p : Obj) : Below w.heap.size w ((w.alloc o).alloc p) := (below1 w o).alloc (by simp) _
theorem below3 (w : World) (o p q : Obj) : Below w.heap.size w (((w.alloc o).alloc p).alloc q) := (below2 w o p).alloc (by simp; omega) _
theorem below4 (w : World) (o p q r : Obj) : Below w.heap.size w ((((w.alloc o).alloc p).alloc q).alloc r) := (below3 w o p q).alloc (by simp; omega) _
theorem below_drewN (w : World) (n : Nat) : Below w.heap.size w (w.drewN n) := ⟨rfl, rfl, rfl, Nat.le_refl _, fun _ _ => rfl⟩
/-- One call behind what a function has laid. -/
theorem below_up {w w1 w2 : World} (h : Below w.heap.size w w1) (k : Below w1.heap.size w1 w2) : Below w.heap.size w w2 := h.trans (k.mono h.size)
theorem bcell {W w1 : World} (hb : Below W.heap.size W w1) : (∀ b o, b < W.heap.size → w1.cell? ⟨b, o, none⟩ = W.cell? ⟨b, o, none⟩) ∧ (∀ b o, b < W.heap.size → w1.frozen? ⟨b, o, none⟩ = W.frozen? ⟨b, o, none⟩) :=
  ⟨fun b o h => hb.cell (p := ⟨b, o, none⟩) h, fun b o h => hb.frozen (p := ⟨b, o, none⟩) h⟩

theorem ret_int {k : IntKind} {a b : Int} (h : a = b) : Ending.returned (.int k a) = .returned (.int k b) := by rw [h]
theorem ret_bool {a b : Bool} (h : a = b) : Ending.returned (.bool a) = .returned (.bool b) := by rw [h]
theorem ret_ib {k : IntKind} {a b : Int} {c d : Bool} (h : a = b) (h2 : c = d) : Ending.returned (.tuple #[.int k a, .bool c]) = .returned (.tuple #[.int k b, .bool d]) := by rw [h, h2]
theorem ret_agg2 {k : IntKind} {a b c d : Int} (h : a = c) (h2 : b = d) : Ending.returned (.agg #[.int k a, .int k b]) = .returned (.agg #[.int k c, .int k d]) := by rw [h, h2]
theorem ret_ii {k k' : IntKind} {a b c d : Int} (h : a = c) (h2 : b = d) : Ending.returned (.tuple #[.int k a, .int k' b]) = .returned (.tuple #[.int k c, .int k' d]) := by rw [h, h2]

/-- Two cells of one block, both stored. -/
theorem two_set {w : World} {b : Nat} {x y : Value} {t : TypeId} (h : w.heap[b]? = some (.cells #[x, y] t (0, 0))) (u v : Value) :
    ((w.setCell ⟨b, 0, none⟩ u).setCell ⟨b, 1, none⟩ v).heap[b]? = some (.cells #[u, v] t (0, 0)) := by
  simpa using hb_set (hb_set h 0 u) 1 v
/-- A block of two cells, cell by cell. -/
theorem hb2 {w : World} {b : Nat} {x y : Value} {t : TypeId} (h : w.heap[b]? = some (.cells #[x, y] t (0, 0))) :
    w.cell? ⟨b, 0, none⟩ = some x ∧ w.cell? ⟨b, 1, none⟩ = some y ∧ w.frozen? ⟨b, 0, none⟩ = false ∧ w.frozen? ⟨b, 1, none⟩ = false :=
  ⟨hb_cell h 0, hb_cell h 1, hb_free h 0, hb_free h 1⟩
theorem hb_size {w : World} {b n : Nat} {o : Obj} (h : w.heap[b]? = some o) (e : b = n) : w.heap[n]? = some o := e ▸ h
theorem cell_alloc {w : World} {o : Obj} {b i : Nat} {v : Value} (hb : b < w.heap.size) (h : w.cell? ⟨b, i, none⟩ = some v) : (w.alloc o).cell? ⟨b, i, none⟩ = some v := (World.cell?_alloc_lt w o ⟨b, i, none⟩ hb).trans h
theorem free_alloc {w : World} {o : Obj} {b i : Nat} (hb : b < w.heap.size) (h : w.frozen? ⟨b, i, none⟩ = false) : (w.alloc o).frozen? ⟨b, i, none⟩ = false := (World.frozen?_of_block (a := ⟨b, i, none⟩) (Below.heap_alloc w o b hb)).trans h
/-- A region that draws its order: all but a forced tail only reads. The world under a name. -/
theorem wp_region_tail {P : Program} {id : Nat} {Q : Exit → Act → World → Prop} {a : Act} {w : World} {l : List Oper} (n : Nat) (hm : P.follows .mixedOrders = true) (hB : Region.lexTailB .any l.toArray n = true)
    (h : ∀ W, Hid (W = w.drew) → wpStill P l.toArray W (fun a' => wpList P l.toArray Q (l.drop n) a' W) (l.take n) a) : (Code.region id l.toArray true).wp P Q a w :=
  wp_region_still_tail n hm hB (h _ rfl)
theorem drew_cell {w W : World} (h : Hid (W = w.drew)) {b i : Nat} {v : Value} (c : w.cell? ⟨b, i, none⟩ = some v) : W.cell? ⟨b, i, none⟩ = some v := by rw [h.out]; exact c
theorem drew_free {w W : World} (h : Hid (W = w.drew)) {b i : Nat} (c : w.frozen? ⟨b, i, none⟩ = false) : W.frozen? ⟨b, i, none⟩ = false := by rw [h.out]; exact c
theorem drew_blk {w W : World} (h : Hid (W = w.drew)) {b : Nat} {o : Obj} (c : w.heap[b]? = some o) : W.heap[b]? = some o := by rw [h.out]; exact c
theorem drew_below {w W : World} (h : Hid (W = w.drew)) : Below w.heap.size w W := by rw [h.out]; exact (Below.refl _ _).drew
end Go.Proofs.Ytfhhdlpglfjdgaa
