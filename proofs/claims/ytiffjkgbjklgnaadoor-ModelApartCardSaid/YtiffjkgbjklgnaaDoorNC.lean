/-
  ModelApart: what the others do is nothing to a tenant's part, as long as none is made or resized: left away, the tenant's own operations are answered in the same way; whatever the configuration, the operations and the tenant are. Conditions: the tied card's own (the library's table math/bits.deBruijn64tab starts as the program's text lays it); every input.
-/
import Derived.Test.YtiffjkgbjklgnaaDoorLH
import Derived.SevenTiedAt
namespace Go.Proofs.YtiffjkgbjklgnaaDoor
open Go Go.Eng Go.Lib Go.ChangeShapes Go.WideShapes Go.ChangeAt Go.RowKit
set_option maxRecDepth 100000

theorem apart_contract (H : Type) (enc : TypeId × Value → H) (W : World) (base : Nat) (args : Array Value) (ds gs : List (DataW H)) (before : List MemPlace)
    (hval : ∀ (j : Nat) t v, Tryd.f3.params[j]? = some t → args[j]? = some v → Value.okWide Tryd.prog W .any base t v)
    (hW : DataW.Whole enc Tryd.prog Tryd.f3.params.toList Rows.modelApartSpec.vars false W args.toList ds gs before) (hL : laidMetH Tryd.prog Rows.modelApartRow.laid W) :
    Calls Tryd.prog 3 args W fun e W' => ∃ v, e = .returned v ∧ Rows.modelApartSpec.post enc Tryd.prog Tryd.f3 false true false false W args v W' := by
  have hW' := hW
  obtain ⟨p, q, hA0, hV, rfl, hfz, hnd⟩ := hW
  have hA : DataW.TrodAll enc Tryd.prog W 0 (fun _ => true) true Tryd.f3.params.toList args.toList ds p := hA0
  rw [Tryd.params3] at hA hval
  obtain ⟨v0, v1, v2, d0, d1, d2, p0, p1, p2, rfl, rfl, rfl, h0, h1, h2⟩ := trodAll_three hA
  obtain ⟨rfl, rfl⟩ := trodVars_none hV
  have h0k := h0
  obtain ⟨cs, rfl, hsz⟩ := okWide_struct cfgFields (hval 0 23 v0 rfl rfl)
  obtain ⟨fuel, hf⟩ := h0
  obtain ⟨pg, cl, ho⟩ := cfg_of_cells hf
  have ho : cs = #[.int .i64 pg, .int .i64 cl] := Array.ext' ho
  subst ho
  obtain ⟨l1, o1⟩ := ops_of_arg (okWide_slice (show P.underlying 24 = some (.slice 34) by kernel_rfl) (hval 1 24 v1 rfl rfl)) h1
  obtain ⟨n, rfl, rfl, rfl, hn⟩ := open_int (show P.underlying 3 = some (.int .i64) by kernel_rfl) (hval 2 3 v2 rfl rfl) h2
  obtain ⟨T, hb, ht⟩ := table_of rfl hL
  have hlt : ∀ x, x ∈ p0 ∨ x ∈ p1 → x.block < W.heap.size := fun x hx => hW'.lt x (by simp; exact hx)
  clear hA0
  refine Apart_walk (p := pg) (c := cl) (n := n) hb ht o1 (start_of hb ht) fun W' R hs => ?_
  have hbel := below_of hb ht hs
  exact ⟨_, _, _, [], _, [], hW', trodAll_mk1 (shut_bool (by kernel_rfl) _),
    trodAll_mk3 (Below.trod laidOut (by kernel_rfl) (of_decide_eq_true (by kernel_rfl)) h0k hbel fun x hx => hlt x (.inl hx))
      (Below.trod laidOut (by kernel_rfl) (of_decide_eq_true (by kernel_rfl)) h1 hbel fun x hx => hlt x (.inr hx)) (shut_int (by kernel_rfl) hn), rfl, hbel.frame _, fun h => by cases h⟩

noncomputable def apartWorld (os : Os) : World :=
  { World.holding Tryd.prog os ⟨#[], #[], []⟩ with heap := (World.holding Tryd.prog os ⟨#[], #[], []⟩).heap.modify 0 fun
      | .cells _ t frozen => .cells tabCells t frozen
      | o => o }
def apartArgs : Array Value := #[.agg #[.int .i64 0, .int .i64 0], .slice none 0 0, .int .i64 0]
theorem apart_met (os : Os) : laidMet Tryd.prog Rows.modelApartRow.laid ((apartWorld os).forCall (fun _ _ => 0) ⟨#[], apartArgs, []⟩).memory :=
  laidMet_of_run' 8 (by kernel_rfl) (by kernel_rfl)
theorem apart_reads (os : Os) {H : Type} (enc : TypeId × Value → H) : ∃ places, DataW.whole enc Tryd.prog ((apartWorld os).forCall (fun _ _ => 0) ⟨#[], apartArgs, []⟩).memory Tryd.f3.params.toList Rows.modelApartSpec.vars false apartArgs.toList 8 = some ([.agg [.lit (.int .i64 0), .lit (.int .i64 0)], .nil, .lit (.int .i64 0)], [], places) :=
  ⟨[], by kernel_rfl⟩
theorem apart_lifted (os : Os) (started : os.Started) (H : Type) (enc : TypeId × Value → H) (F : Stop.Interp) :
    ReturnsInHanded {} Tryd.checked os 3 .any ((OpenSpec.ofChange Rows.modelApartSpec).preRow enc Tryd.prog Tryd.f3 Rows.modelApartRow.domain false Rows.modelApartRow.laid) (((OpenSpec.ofChange Rows.modelApartSpec).at F).post enc Tryd.prog Tryd.f3 false true false false) := by
  obtain ⟨places, hx⟩ := apart_reads os enc
  refine returnsInHanded_of_row (C := Tryd.checked) (s := OpenSpec.ofChange Rows.modelApartSpec) own_knob started (by kernel_rfl) Tryd.func3
    (witness_row_at (enc := enc) (C := Tryd.checked) false (apartWorld os) apartArgs rfl (by kernel_rfl) (by kernel_rfl) (by kernel_rfl)
      (OpenSpec.preRow_of_cond 8 hx (by kernel_rfl) (fun k hk => by cases hk) (by kernel_rfl) (apart_met os))) ?_
  intro W base args ds gs before hval hW _ _ _ hL _ _
  exact apart_contract H enc W base args ds gs before hval hW hL
theorem apart_said : Rows.ModelApartSaid :=
  OpenClaim.holds_of_cond 3 Tryd.f3 rfl rfl rfl rfl rfl rfl rfl ⟨rfl, rfl, rfl, rfl, rfl⟩ rfl rfl rfl rfl rfl (by kernel_rfl) Tryd.func3 (by kernel_rfl)
    (of_decide_eq_true (by kernel_rfl)) (by unfold Func.isWrapper; first | (rw [if_pos (by decide +kernel)]; kernel_rfl) | (rw [if_neg (by decide +kernel)]; exact ⟨rfl, rfl⟩))
    (fun os started H enc _ F => by rw [OpenClaim.pre_eq_preRow]; exact apart_lifted os started H enc F)
theorem apart_plain (f : FuncId) (fn : Func) (hf : Tryd.pinned.checked.prog.funcNamed "garth/garthlaw23.ModelApart" = some f) (hfn : Tryd.pinned.checked.prog.funcs[f]? = some fn) :
    true = Tryd.pinned.checked.prog.looks [] ∧ ∀ (j : Nat) t, fn.params[j]? = some t → Tryd.pinned.checked.prog.wantsStandIn t = false := by
  obtain rfl : f = 3 := Option.some.inj ((show Tryd.prog.funcNamed "garth/garthlaw23.ModelApart" = some 3 by kernel_rfl).symm.trans hf) |>.symm
  obtain rfl : fn = Tryd.f3 := (Option.some.inj (Tryd.func3.symm.trans hfn)).symm
  refine ⟨by kernel_rfl, fun j t ht => ?_⟩
  rw [Tryd.params3] at ht
  have hm : t ∈ [23, 24, 3] := by simpa using Array.mem_of_getElem? ht
  have hall : ([23, 24, 3].all fun u => !Tryd.prog.wantsStandIn u) = true := by kernel_rfl
  exact (show Tryd.prog.wantsStandIn t = false by simpa using List.all_eq_true.1 hall t hm)
theorem apart_card : Rows.ModelApartCardSaid :=
  Claim7.holds_tied_plain_at .later [] _ _ _ _ apart_said (fun _ h => by cases h) (by kernel_rfl) (fun _ h => by cases h) modelApart_row_tie rfl ⟨rfl, rfl⟩ (by kernel_rfl) rfl apart_plain (by kernel_rfl)
#print axioms apart_card
end Go.Proofs.YtiffjkgbjklgnaaDoor
