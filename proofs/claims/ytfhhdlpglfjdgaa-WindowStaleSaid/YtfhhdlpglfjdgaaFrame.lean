/- Frames: which blocks a call may turn; footprints: which blocks a thing lies in. -/
import Derived.Test.YtfhhdlpglfjdgaaRows2
set_option linter.unusedVariables false
set_option linter.unusedSimpArgs false
namespace Go.Proofs.Ytfhhdlpglfjdgaa
open Go.RowKit

/-! Told by footprints: which blocks a thing lies in. -/

/-- w' is w but for the blocks of F, and for new ones. -/
structure Fr (F : Nat → Prop) (w w' : World) : Prop where
  os : w'.os = w.os
  tape : w'.tape = w.tape
  output : w'.output = w.output
  size : w.heap.size ≤ w'.heap.size
  block : ∀ k, k < w.heap.size → ¬ F k → w'.heap[k]? = w.heap[k]?
theorem Fr.refl (F : Nat → Prop) (w : World) : Fr F w w := ⟨rfl, rfl, rfl, Nat.le_refl _, fun _ _ _ => rfl⟩
theorem Fr.ofBelow {F : Nat → Prop} {w w' : World} (h : Below w.heap.size w w') : Fr F w w' := ⟨h.os, h.tape, h.output, h.size, fun k hk _ => h.block k hk⟩
/-- What the footprint may become. -/
def Ext (F F' : Nat → Prop) (w w' : World) : Prop := ∀ k, F' k → F k ∨ (w.heap.size ≤ k ∧ k < w'.heap.size)
theorem Ext.refl (F : Nat → Prop) (w w' : World) : Ext F F w w' := fun _ h => .inl h
theorem Ext.trans {F F' F'' : Nat → Prop} {a b c : World} (h : Ext F F' a b) (k : Ext F' F'' b c) (h1 : a.heap.size ≤ b.heap.size) (h2 : b.heap.size ≤ c.heap.size) : Ext F F'' a c := by
  intro x hx
  rcases k x hx with hx | ⟨a1, a2⟩
  · rcases h x hx with hx | ⟨b1, b2⟩
    · exact .inl hx
    · exact .inr ⟨b1, by omega⟩
  · exact .inr ⟨by omega, a2⟩
/-- One behind the other; the footprint has grown between them. -/
theorem Fr.trans {F F' : Nat → Prop} {a b c : World} (h : Fr F a b) (k : Fr F' b c) (e : Ext F F' a b) : Fr F a c :=
  ⟨k.os.trans h.os, k.tape.trans h.tape, k.output.trans h.output, Nat.le_trans h.size k.size, fun i hi hn => (k.block i (by have := h.size; omega) (fun hf => (e i hf).elim hn (fun x => by omega))).trans (h.block i hi hn)⟩
theorem Fr.mono {F F' : Nat → Prop} {a b : World} (h : Fr F a b) (hs : ∀ k, F k → F' k) : Fr F' a b := ⟨h.os, h.tape, h.output, h.size, fun i hi hn => h.block i hi (fun hf => hn (hs i hf))⟩
theorem Fr.setCell {F : Nat → Prop} {a b : World} (h : Fr F a b) {p : Addr} (hp : F p.block ∨ a.heap.size ≤ p.block) (v : Value) : Fr F a (b.setCell p v) :=
  ⟨h.os, h.tape, h.output, by have := h.size; simpa [World.setCell] using this, fun k hk hn => by
    rw [Below.heap_setCell _ _ _ _ (fun e => by subst e; exact hp.elim hn (fun x => by omega))]
    exact h.block k hk hn⟩
theorem Fr.drewN {F : Nat → Prop} {a b : World} (h : Fr F a b) (n : Nat) : Fr F a (b.drewN n) := ⟨h.os, h.tape, h.output, h.size, h.block⟩
theorem Fr.grown {F : Nat → Prop} {w w' : World} {row : Option Nat} (h : w.grownBy w' row) (hr : ∀ k, row = some k → F k) : Fr F w w' :=
  ⟨h.os, h.tape, h.output, h.size, fun k hk hn => h.block k hk (fun e => hn (hr k e.symm))⟩

end Go.Proofs.Ytfhhdlpglfjdgaa
