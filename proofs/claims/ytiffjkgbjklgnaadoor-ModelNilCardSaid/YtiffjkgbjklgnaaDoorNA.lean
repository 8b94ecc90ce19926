/-
  ModelNil: a model that is none does nothing, whatever the operation and the tenant are. Conditions: the tied card's own (the library's table math/bits.deBruijn64tab starts as the program's text lays it); every input.
-/
import Derived.Test.YtiffjkgbjklgnaaDoorLB
import Derived.SevenTiedAt
namespace Go.Proofs.YtiffjkgbjklgnaaDoor
open Go Go.Eng Go.Lib Go.ChangeShapes Go.WideShapes Go.ChangeAt Go.RowKit
set_option maxRecDepth 100000

theorem nil_contract (H : Type) (enc : TypeId × Value → H) (W : World) (base : Nat) (args : Array Value) (ds gs : List (DataW H)) (before : List MemPlace)
    (hval : ∀ (j : Nat) t v, Tryd.f4.params[j]? = some t → args[j]? = some v → Value.okWide Tryd.prog W .any base t v)
    (hW : DataW.Whole enc Tryd.prog Tryd.f4.params.toList Rows.modelNilSpec.vars false W args.toList ds gs before) (hL : laidMetH Tryd.prog Rows.modelNilRow.laid W) :
    Calls Tryd.prog 4 args W fun e W' => ∃ v, e = .returned v ∧ Rows.modelNilSpec.post enc Tryd.prog Tryd.f4 false true false false W args v W' := by
  have hW' := hW
  obtain ⟨p, q, hA0, hV, rfl, hfz, hnd⟩ := hW
  have hA : DataW.TrodAll enc Tryd.prog W 0 (fun _ => true) true Tryd.f4.params.toList args.toList ds p := hA0
  rw [Tryd.params4] at hA hval
  obtain ⟨v0, v1, d0, d1, p0, p1, rfl, rfl, rfl, h0, h1⟩ := trodAll_two hA
  obtain ⟨rfl, rfl⟩ := trodVars_none hV
  have h0k := h0
  obtain ⟨cs, rfl, hsz⟩ := okWide_struct opsFields (hval 0 34 v0 rfl rfl)
  obtain ⟨fuel, hf⟩ := h0
  obtain ⟨o, ho, hh, -, -⟩ := op_of_cells hf
  have ho : cs = opA o := Array.ext' ho
  subst ho
  obtain ⟨n, rfl, rfl, rfl, hn⟩ := open_int (show P.underlying 3 = some (.int .i64) by kernel_rfl) (hval 1 3 v1 rfl rfl) h1
  obtain ⟨T, hb, ht⟩ := table_of rfl hL
  have hlt : ∀ x ∈ p0, x.block < W.heap.size := fun x hx => hW'.lt x (by simp [hx])
  clear hA0
  refine Nil_walk (o := o) (id := n) (start_of hb ht) fun W' hs => ?_
  have hbel := below_of hb ht hs
  exact ⟨[d0, .lit (.int .i64 n)], [], p0 ++ [] ++ [], [], p0 ++ [], [], hW', trodAll_mk1 (shut_bool (by kernel_rfl) _), trodAll_mk2 (Below.trod laidOut (by kernel_rfl) (of_decide_eq_true (by kernel_rfl)) h0k hbel hlt) (shut_int (by kernel_rfl) hn), rfl, hbel.frame _, fun h => by cases h⟩

noncomputable def nilWorld (os : Os) : World :=
  { World.holding Tryd.prog os ⟨#[], #[], []⟩ with heap := (World.holding Tryd.prog os ⟨#[], #[], []⟩).heap.modify 0 fun
      | .cells _ t frozen => .cells tabCells t frozen
      | o => o }
def nilArgs : Array Value := #[.agg #[.int .i64 0, .int .i64 0, .int .i64 0, .int .i64 0, .int .u64 0, .string ⟨#[]⟩], .int .i64 0]
theorem nil_met (os : Os) : laidMet Tryd.prog Rows.modelNilRow.laid ((nilWorld os).forCall (fun _ _ => 0) ⟨#[], nilArgs, []⟩).memory :=
  laidMet_of_run' 8 (by kernel_rfl) (by kernel_rfl)
theorem nil_reads (os : Os) {H : Type} (enc : TypeId × Value → H) : ∃ places, DataW.whole enc Tryd.prog ((nilWorld os).forCall (fun _ _ => 0) ⟨#[], nilArgs, []⟩).memory Tryd.f4.params.toList Rows.modelNilSpec.vars false nilArgs.toList 8 = some ([.agg [.lit (.int .i64 0), .lit (.int .i64 0), .lit (.int .i64 0), .lit (.int .i64 0), .lit (.int .u64 0), .lit (.string [])], .lit (.int .i64 0)], [], places) :=
  ⟨[], by kernel_rfl⟩
theorem nil_lifted (os : Os) (started : os.Started) (H : Type) (enc : TypeId × Value → H) (F : Stop.Interp) :
    ReturnsInHanded {} Tryd.checked os 4 .any ((OpenSpec.ofChange Rows.modelNilSpec).preRow enc Tryd.prog Tryd.f4 Rows.modelNilRow.domain false Rows.modelNilRow.laid) (((OpenSpec.ofChange Rows.modelNilSpec).at F).post enc Tryd.prog Tryd.f4 false true false false) := by
  obtain ⟨places, hx⟩ := nil_reads os enc
  refine returnsInHanded_of_row (C := Tryd.checked) (s := OpenSpec.ofChange Rows.modelNilSpec) own_knob started (by kernel_rfl) Tryd.func4
    (witness_row_at (enc := enc) (C := Tryd.checked) false (nilWorld os) nilArgs rfl (by kernel_rfl) (by kernel_rfl) (by kernel_rfl)
      (OpenSpec.preRow_of_cond 8 hx (by kernel_rfl) (fun k hk => by cases hk) (by kernel_rfl) (nil_met os))) ?_
  intro W base args ds gs before hval hW _ _ _ hL _ _
  exact nil_contract H enc W base args ds gs before hval hW hL
theorem nil_said : Rows.ModelNilSaid :=
  OpenClaim.holds_of_cond 4 Tryd.f4 rfl rfl rfl rfl rfl rfl rfl ⟨rfl, rfl, rfl, rfl, rfl⟩ rfl rfl rfl rfl rfl (by kernel_rfl) Tryd.func4 (by kernel_rfl)
    (of_decide_eq_true (by kernel_rfl)) (by unfold Func.isWrapper; first | (rw [if_pos (by decide +kernel)]; kernel_rfl) | (rw [if_neg (by decide +kernel)]; exact ⟨rfl, rfl⟩))
    (fun os started H enc _ F => by rw [OpenClaim.pre_eq_preRow]; exact nil_lifted os started H enc F)
theorem nil_plain (f : FuncId) (fn : Func) (hf : Tryd.pinned.checked.prog.funcNamed "garth/garthlaw23.ModelNil" = some f) (hfn : Tryd.pinned.checked.prog.funcs[f]? = some fn) :
    true = Tryd.pinned.checked.prog.looks [] ∧ ∀ (j : Nat) t, fn.params[j]? = some t → Tryd.pinned.checked.prog.wantsStandIn t = false := by
  obtain rfl : f = 4 := Option.some.inj ((show Tryd.prog.funcNamed "garth/garthlaw23.ModelNil" = some 4 by kernel_rfl).symm.trans hf) |>.symm
  obtain rfl : fn = Tryd.f4 := (Option.some.inj (Tryd.func4.symm.trans hfn)).symm
  refine ⟨by kernel_rfl, fun j t ht => ?_⟩
  rw [Tryd.params4] at ht
  have hm : t ∈ [34, 3] := by simpa using Array.mem_of_getElem? ht
  have hall : ([34, 3].all fun u => !Tryd.prog.wantsStandIn u) = true := by kernel_rfl
  exact (show Tryd.prog.wantsStandIn t = false by simpa using List.all_eq_true.1 hall t hm)
theorem nil_card : Rows.ModelNilCardSaid :=
  Claim7.holds_tied_plain_at .later [] _ _ _ _ nil_said (fun _ h => by cases h) (by kernel_rfl) (fun _ h => by cases h) modelNil_row_tie rfl ⟨rfl, rfl⟩ (by kernel_rfl) rfl nil_plain (by kernel_rfl)
#print axioms nil_card
end Go.Proofs.YtiffjkgbjklgnaaDoor
