/-
  From what a row's condition says of arguments to what the walks ask.
-/
import Derived.Test.YtiffjkgbjklgnaaDoorLA
import Derived.Test.YtiffjkgbjklgnaaDoorCards
import Derived.Test.YtiffjkgbjklgnaaDoorTie
import Derived.Carry
import Derived.WalkKit
import Derived.ProofKit
import Derived.OpenShut
import Derived.Deep.DeepHandedRow
import Derived.Lib.LaidTab
import Derived.Lib.SmallJoins
namespace Go.Proofs.YtiffjkgbjklgnaaDoor
open Go Go.Eng Go.Lib Go.ChangeShapes Go.WideShapes Go.ChangeAt Go.RowKit
set_option maxRecDepth 20000
theorem own_knob : ownKnob P.godebug = none := by kernel_rfl
theorem gTab : P.globalNamed "math/bits.deBruijn64tab" = some 0 := by kernel_rfl
theorem gTabType : (P.globals[0]?).map (·.type) = some T_64_uint8 := by kernel_rfl
theorem u64tab : P.underlying T_64_uint8 = some (.array 64 T_uint8) := by kernel_rfl
theorem u8 : P.underlying T_uint8 = some (.int .u8) := by kernel_rfl
theorem cellsTab : P.cellsOf T_64_uint8 = 64 := by kernel_rfl
theorem cells8 : P.cellsOf T_uint8 = 1 := by kernel_rfl
theorem laidOut : laidOutB P = true := by kernel_rfl

/-- what stays through a call from a world that holds the table -/
theorem table_of {W : World} {laid : List (String × DataW Unit)} (hl : laid = [("math/bits.deBruijn64tab", Rows.laid_math_bits_deBruijn64tab)]) (h : laidMetH P laid W) : ∃ T : Bs, T.base = W ∧ W.heap[0]? = T.tab := by
  subst hl
  have h1 : TabIs P W "math/bits.deBruijn64tab" .u8 (deBruijn64tab.map fun n : Nat => (n : Int)) :=
    tabIs_of_head (rest := []) gTab gTabType u64tab u8 cells8 cellsTab h
  unfold TabIs World.var? at h1
  rw [gTab] at h1
  simp only [Option.bind_some] at h1
  split at h1
  · rename_i cs t fz hw
    injection h1 with h1
    refine ⟨⟨t, fz, W⟩, rfl, ?_⟩
    rw [hw, h1]
    unfold Bs.tab tabCells
    simp
  · cases h1
theorem below_of {T : Bs} {W w' : World} {R : HP} (hb : T.base = W) (ht : W.heap[0]? = T.tab) (h : Sat T w' (orig W • R)) : Below W.heap.size W w' := by
  subst hb
  have hblk : ∀ k, k < T.base.heap.size → w'.heap[k]? = T.base.heap[k]? := by
    intro k hk
    by_cases h0 : k = 0
    · subst h0; rw [h.tab, ht]
    · rw [Array.getElem?_eq_getElem hk]
      exact h.old h0 (Array.getElem?_eq_getElem hk)
  refine ⟨h.1.2.1, h.1.2.2.2, h.1.2.2.1, ?_, hblk⟩
  by_cases hlt : T.base.heap.size ≤ w'.heap.size
  · exact hlt
  · have hk : w'.heap.size < T.base.heap.size := by omega
    have := hblk _ hk
    rw [Array.getElem?_eq_getElem hk] at this
    simp at this
theorem start_of {T : Bs} {W : World} (hb : T.base = W) (ht : W.heap[0]? = T.tab) : Sat T W (orig W • emp) := by
  rw [star_emp]
  subst hb
  refine Sat.start ht rfl rfl rfl ?_
  by_cases h : 0 < T.base.heap.size
  · exact h
  · have : T.base.heap[0]? = none := Array.getElem?_eq_none (by omega)
    rw [this] at ht; cases ht

section
variable {H : Type} {enc : TypeId × Value → H} {w : World} {base : Nat} {spare : Nat → Bool} {held : Bool}
theorem opsFields : P.underlying T_api_Op = some (.struct (P.fieldsOf T_api_Op)) := by kernel_rfl
/-- an operation's cells, read -/
theorem op_of_cells {n : Nat} {cs : List Value} {x : DataW H × List MemPlace} (h : DataW.trod enc P w base spare held n T_api_Op cs = some x) : ∃ o : Op_, cs = (opA o).toList ∧ o.h < 18446744073709551616 ∧ x.2 = [] ∧ o.d.size ≤ maxLen := by
  obtain ⟨xs, m, rfl, rfl, hl, hlen, hf⟩ := DataW.trod_struct opsFields h
  have hc : P.cellsOf T_api_Op = 6 := by kernel_rfl
  have hfl : (P.fieldsOf T_api_Op).size = 6 := by kernel_rfl
  rw [hc] at hl
  rw [hfl] at hlen
  match cs, hl, xs, hlen with
  | [c0, c1, c2, c3, c4, c5], _, [y0, y1, y2, y3, y4, y5], _ =>
    have g := fun i h => hf i ((P.fieldsOf T_api_Op).getD i default) h
    have g0 := g 0 (by kernel_rfl)
    have g1 := g 1 (by kernel_rfl)
    have g2 := g 2 (by kernel_rfl)
    have g3 := g 3 (by kernel_rfl)
    have g4 := g 4 (by kernel_rfl)
    have g5 := g 5 (by kernel_rfl)
    have i0 : DataW.trod enc P w base spare held m T_int [c0] = some y0 := g0
    have i1 : DataW.trod enc P w base spare held m T_int [c1] = some y1 := g1
    have i2 : DataW.trod enc P w base spare held m T_int [c2] = some y2 := g2
    have i3 : DataW.trod enc P w base spare held m T_int [c3] = some y3 := g3
    have i4 : DataW.trod enc P w base spare held m T_uint64 [c4] = some y4 := g4
    have i5 : DataW.trod enc P w base spare held m T_string [c5] = some y5 := g5
    obtain ⟨n0, e0, r0, -⟩ := DataW.trod_int (show P.underlying T_int = some (.int .i64) by kernel_rfl) i0
    obtain ⟨n1, e1, r1, -⟩ := DataW.trod_int (show P.underlying T_int = some (.int .i64) by kernel_rfl) i1
    obtain ⟨n2, e2, r2, -⟩ := DataW.trod_int (show P.underlying T_int = some (.int .i64) by kernel_rfl) i2
    obtain ⟨n3, e3, r3, -⟩ := DataW.trod_int (show P.underlying T_int = some (.int .i64) by kernel_rfl) i3
    obtain ⟨n4, e4, r4, w4⟩ := DataW.trod_int (show P.underlying T_uint64 = some (.int .u64) by kernel_rfl) i4
    obtain ⟨s5, e5, r5, m5⟩ := DataW.trod_string (show P.underlying T_string = some .string by kernel_rfl) i5
    simp only [List.cons.injEq, and_true] at e0 e1 e2 e3 e4 e5
    subst e0 e1 e2 e3 e4 e5 r0 r1 r2 r3 r4 r5
    have hw : 0 ≤ n4 ∧ n4 < 18446744073709551616 := by
      have h1 : IntKind.u64.min = 0 := by decide
      have h2 : IntKind.u64.max = 18446744073709551615 := by decide
      simp [Lit.wf, h1, h2] at w4
      omega
    refine ⟨⟨n0, n1, n2, n3, n4.toNat, s5⟩, ?_, ?_, by simp, m5⟩
    · simp [opA]; omega
    · simp; omega
end
end Go.Proofs.YtiffjkgbjklgnaaDoor
