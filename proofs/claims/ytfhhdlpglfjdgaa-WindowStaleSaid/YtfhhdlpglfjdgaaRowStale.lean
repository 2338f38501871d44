/- WindowStale: a window that was handed stale samples and questions answers as one that was not; the row over law_WindowStale. No condition. -/
import Derived.Test.YtfhhdlpglfjdgaaRows
import Derived.Test.YtfhhdlpglfjdgaaLawC
import Derived.ProofKit
import Derived.Lib.SmallJoins
import Derived.Deep.Slices
import Derived.Deep.Strs
import Derived.SizedLaws
import Derived.ChangeOld
namespace Go.Proofs.Ytfhhdlpglfjdgaa
open Go.ChangeShapes Go.WideShapes Go.ChangeAt Go.RowKit Go.Joins Go.Deep
set_option linter.unusedVariables false

theorem I64.ofWf {n : Int} (h : (Lit.int .i64 n).wf = true) : I64 n := by
  simp only [Lit.wf, IntKind.min, IntKind.max, IntKind.signed, IntKind.bits, Bool.and_eq_true, decide_eq_true_eq, if_true] at h
  unfold I64; omega
theorem cellsOp : Try.prog.cellsOf 37 = 3 := by kernel_rfl
theorem cellsInt : Try.prog.cellsOf 3 = 1 := by kernel_rfl
theorem cellsI64 : Try.prog.cellsOf 2 = 1 := by kernel_rfl
theorem bytesOp : Try.prog.bytesOf 37 = 24 := by kernel_rfl
theorem len3 {l : List Value} (h : l.length = 3) : ∃ a b c, l = [a, b, c] := by
  match l, h with
  | [a, b, c], _ => exact ⟨a, b, c, rfl⟩
/-- A script, read as data, opened. -/
theorem ops_open {H : Type} {enc : TypeId × Value → H} {w : World} {spare : Nat → Bool} {held : Bool} {fuel : Nat} {a : Option Addr} {len cap : Nat} {x : DataW H × List MemPlace}
    (hf : DataW.trod enc Try.prog w 0 spare held fuel 24 [.slice a len cap] = some x) :
    ∃ ops : List (Int × Int × Int), ops.length = len ∧ OpsAt w a ops ∧ (∀ k t v, (k, t, v) ∈ ops → I64 k ∧ I64 t ∧ I64 v) ∧ (len = 0 ∨ ∃ elems rest, x.1 = .slice elems rest ∧ elems.length = len) := by
  rcases open_slice Try.underlying24 hf with ⟨hcs, _⟩ | ⟨a', len', cap', m, n, D, Pl, hcs, _, hl, hm, hmm, hx, hel⟩
  · simp only [List.cons.injEq, Value.slice.injEq, and_true] at hcs
    obtain ⟨rfl, rfl, rfl⟩ := hcs
    exact ⟨[], rfl, .inl rfl, fun _ _ _ h => by simp at h, .inl rfl⟩
  · simp only [List.cons.injEq, Value.slice.injEq, and_true] at hcs
    obtain ⟨rfl, rfl, rfl⟩ := hcs
    have hlm : len ≤ m := by rw [hmm]; split <;> omega
    rw [cellsOp] at hel
    have h1 : ∀ i, i < len → ∃ y : Int × Int × Int, (I64 y.1 ∧ I64 y.2.1 ∧ I64 y.2.2) ∧ ∃ cs : List Value, cs = [.int .i64 y.1, .int .i64 y.2.1, .int .i64 y.2.2] ∧ ∀ j, j < 3 → w.cell? ((a'.add (i * 3)).add j) = cs[j]? := by
      intro i hi
      obtain ⟨cs, hc, ht⟩ := hel i (by omega)
      obtain ⟨_, hlen, hcell⟩ := World.cells?_some hc
      obtain ⟨y0, y1, y2, n', _, _, t0, t1, t2⟩ := trod_struct3 Try.underlying37 ht
      obtain ⟨c0, c1, c2, rfl⟩ := len3 hlen
      simp only [cellsInt, cellsI64, List.drop_zero, List.drop_succ_cons, List.take_succ_cons, List.take_zero] at t0 t1 t2
      obtain ⟨k, e0, _, w0⟩ := DataW.trod_int Try.underlying3 t0
      obtain ⟨t, e1, _, w1⟩ := DataW.trod_int Try.underlying2 t1
      obtain ⟨v, e2, _, w2⟩ := DataW.trod_int Try.underlying2 t2
      simp only [List.cons.injEq, and_true] at e0 e1 e2
      subst e0 e1 e2
      exact ⟨(k, t, v), ⟨I64.ofWf w0, I64.ofWf w1, I64.ofWf w2⟩, _, rfl, hcell⟩
    obtain ⟨f, hfu⟩ := choose_lt h1
    have hget : ∀ (i : Nat) (y : Int × Int × Int), ((List.range len).map f)[i]? = some y → i < len ∧ f i = y := by
      intro i y h
      rw [List.getElem?_map] at h
      have hi : i < len := by
        rcases Nat.lt_or_ge i len with h' | h'
        · exact h'
        · rw [List.getElem?_eq_none (by simpa using h')] at h; simp at h
      rw [List.getElem?_range hi] at h
      exact ⟨hi, by simpa using h⟩
    refine ⟨(List.range len).map f, by simp, ?_, ?_, .inr ⟨_, _, by rw [hx], by simp⟩⟩
    · by_cases h0 : len = 0
      · subst h0; exact .inl rfl
      · right
        obtain ⟨_, cs, hcs, hc⟩ := hfu 0 (by omega)
        have hc0 := hc 0 (by omega)
        rw [hcs] at hc0
        obtain ⟨b, off, spot⟩ := a'
        have hspot : spot = none := by simpa [Addr.add] using World.cell?_spot hc0
        subst hspot
        refine ⟨b, off, rfl, ?_, ?_⟩
        · exact World.block_lt_of_cell? _ _ hc0
        · intro i k t v hi
          obtain ⟨hi, he⟩ := hget i _ hi
          obtain ⟨_, cs, hcs, hc⟩ := hfu i hi
          rw [he] at hcs
          subst hcs
          have g0 := hc 0 (by omega)
          have g1 := hc 1 (by omega)
          have g2 := hc 2 (by omega)
          rw [Go.WideShapes.add_plain, Go.WideShapes.add_plain] at g0 g1 g2
          exact ⟨g0, g1, g2⟩
    · intro k t v h
      obtain ⟨i, hi⟩ := List.mem_iff_getElem?.1 h
      obtain ⟨hi, he⟩ := hget i _ hi
      have := (hfu i hi).1
      rw [he] at this
      exact this
end Go.Proofs.Ytfhhdlpglfjdgaa
namespace Go.Proofs.Ytfhhdlpglfjdgaa.windowStale
open Go.ChangeShapes Go.WideShapes Go.ChangeAt Go.RowKit Go.Joins Go.Deep
set_option linter.unusedVariables false
theorem own : ownKnob Try.prog.godebug = none := by kernel_rfl
theorem laidOut : laidOutB Try.prog = true := by kernel_rfl
theorem cellsW : Try.prog.cellsOf 23 = 4 := by kernel_rfl
set_option maxRecDepth 100000 in
theorem lifted (os : Os) (started : os.Started) (H : Type) (enc : TypeId × Value → H) :
    ReturnsInHanded {} Try.checked os 4 .any (Rows.windowStaleSpec.pre6 enc Try.prog Try.f4 Rows.windowStaleRow.domain false) (Rows.windowStaleSpec.post enc Try.prog Try.f4 false true false false) := by
  refine returnsInHanded_of_change_sized (C := Try.checked) own started (by kernel_rfl) Try.func4
    (ChangeSpec.witness6 (enc := enc) (C := Try.checked) false ⟨#[], #[.agg #[.int .i64 0, .int .i64 0, .int .i64 0, .int .i64 0], .slice none 0 0], []⟩ 8 (by kernel_rfl) (by kernel_rfl) (by kernel_rfl) (by kernel_rfl)) ?_
  intro W base args ds gs before hval0 hW hcnd hsz0 _
  have hsz : (DataW.weightsEach Try.prog (Try.f4.params.toList ++ Rows.windowStaleSpec.plain.varTypes Try.prog) (ds ++ gs)).all (· ≤ reachBytes) = true := hsz0
  have hval : ∀ (j : Nat) t v, Try.f4.params[j]? = some t → args[j]? = some v → Value.okWide Try.prog W .any base t v := hval0
  have hW' := hW
  obtain ⟨p, q, hA0, hV, rfl, hfz, hnd⟩ := hW
  have hA : DataW.TrodAll enc Try.prog W 0 (fun _ => true) true Try.f4.params.toList args.toList ds p := hA0
  rw [Try.params4] at hA hval hsz
  obtain ⟨v0, v1, d0, d1, p0, p1, rfl, rfl, rfl, h0, h1⟩ := trodAll_two hA
  obtain ⟨rfl, rfl⟩ := trodVars_none hV
  have k0 := h0
  have k1 := h1
  have lt0 : ∀ x ∈ p0, x.block < W.heap.size := by obtain ⟨m, hm⟩ := k0; exact DataW.trod_lt m _ _ _ hm
  have lt1 : ∀ x ∈ p1, x.block < W.heap.size := by obtain ⟨m, hm⟩ := k1; exact DataW.trod_lt m _ _ _ hm
  obtain ⟨c0, c1, c2, c3, y0, y1, y2, y3, m, rfl, _, _, hy0, hy1, hy2, hy3⟩ := open_agg4 Try.underlying23 (by kernel_rfl) cellsW (hval 0 23 v0 rfl rfl) h0
  obtain ⟨a0, e0, _, _⟩ := DataW.trod_int Try.underlying3 hy0
  obtain ⟨a1, e1, _, _⟩ := DataW.trod_int Try.underlying3 hy1
  obtain ⟨a2, e2, _, _⟩ := DataW.trod_int Try.underlying2 hy2
  obtain ⟨a3, e3, _, _⟩ := DataW.trod_int Try.underlying2 hy3
  simp at e0 e1 e2 e3
  subst e0 e1 e2 e3
  obtain ⟨a, len, cap, rfl⟩ := okWide_slice Try.underlying24 (hval 1 24 v1 rfl rfl)
  obtain ⟨fuel, hf⟩ := h1
  obtain ⟨ops, hlen, hops, h64, hd⟩ := ops_open (by simpa [Value.cells] using hf)
  have hbound : ops.length ≤ 4611686018427387904 := by
    rcases hd with hd | ⟨elems, rest, hd, he⟩
    · omega
    · simp only at hd
      subst hd
      have z := sized_slice hsz (j := 1) (t := 24) rfl rfl Try.underlying24
      rw [bytesOp, he] at z
      have : reachBytes = 140737488351232 := rfl
      omega
  subst hlen
  clear hA0 hval0 hy0 hy1 hy2 hy3 hsz0 hsz
  have hwalk : Calls Try.prog 4 #[.agg #[.int .i64 a0, .int .i64 a1, .int .i64 a2, .int .i64 a3], .slice a ops.length cap] W fun e w' => e = .returned (.bool true) ∧ Below W.heap.size W w' := by
    cases hT : WT.right ⟨a0, a1, a2, a3⟩
    · exact law_WindowStale_no ⟨a0, a1, a2, a3⟩ a ops.length cap W hT
    · exact law_WindowStale ⟨a0, a1, a2, a3⟩ a cap ops W hT hops hbound (fun k t v h => (h64 k t v h).2)
  refine hwalk.mono fun e W' ⟨he, bel⟩ => ?_
  subst he
  exact ⟨_, rfl, _, _, _, [], _, [], hW', trodAll_mk1 (shut_bool Try.underlying4 _), trodAll_mk2 (Below.trod laidOut (by kernel_rfl) (of_decide_eq_true (by kernel_rfl)) k0 bel lt0) (Below.trod laidOut (by kernel_rfl) (of_decide_eq_true (by kernel_rfl)) k1 bel lt1), rfl, bel.frame _, fun h => by cases h⟩
theorem over : Rows.windowStaleRow.holds Try.pinned (OpenSpec.ofChange Rows.windowStaleSpec) :=
  OpenClaim.holds_of_wide 4 Try.f4 rfl rfl rfl rfl rfl rfl rfl ⟨rfl, rfl, rfl, rfl, rfl⟩ rfl rfl rfl rfl rfl (by kernel_rfl) Try.func4 (by kernel_rfl)
    (of_decide_eq_true (by kernel_rfl)) (by unfold Func.isWrapper; first | (rw [if_pos (by decide +kernel)]; kernel_rfl) | (rw [if_neg (by decide +kernel)]; exact ⟨rfl, rfl⟩))
    (fun os started H enc _ => lifted os started H enc)
theorem proved : Rows.WindowStaleSaid := over
end Go.Proofs.Ytfhhdlpglfjdgaa.windowStale
namespace Go.Proofs.Ytfhhdlpglfjdgaa
theorem windowStale_holds : Rows.WindowStaleSaid := windowStale.proved
end Go.Proofs.Ytfhhdlpglfjdgaa
