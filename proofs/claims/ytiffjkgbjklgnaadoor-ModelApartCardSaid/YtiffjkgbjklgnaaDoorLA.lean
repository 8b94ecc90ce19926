/-
  The law ModelNil, walked.
-/
import Derived.Test.YtiffjkgbjklgnaaDoorSZ
namespace Go.Proofs.YtiffjkgbjklgnaaDoor
open Go Go.Eng Go.Lib
set_option maxRecDepth 20000
section
variable {T : Bs} {w : World} {Q : Value → World → Prop} {K : Value → World → Prop} {R : HP} {b x z : Nat} {md : Md} {o : Op_}
theorem Live_nil {id : Int} (hk : Q (.bool false) w) : Cal P N_model_Model_Live #[.pointer none, .int .i64 id] w Q := by
  apply model_Model_Live_k0
  unfold model_Model_Live_b0
  apply at_nil
  rw [neqx_ptr_nil (by kernel_rfl)]
  simpa using hk
theorem Charged_nil {id : Int} (hk : Q (.int .i64 0) w) : Cal P N_model_Model_Charged #[.pointer none, .int .i64 id] w Q := by
  apply model_Model_Charged_k0
  unfold model_Model_Charged_b0
  apply at_nil
  exact part_charged_nil hk
theorem Copy_nil (hk : Q (.pointer none) w) : Cal P N_model_Model_Copy #[.pointer none] w Q := by
  apply model_Model_Copy_k0
  unfold model_Model_Copy_b0
  rw [eqx_ptr_nil (by kernel_rfl)]
  simpa using hk
theorem bdN : bd P 36 [(0, .int .i64 11)] w K = K (anV { e := 11 }) w := by kernel_rfl

theorem Nil_walk {id : Int} (h : Sat T w R) (hk : ∀ w', Sat T w' R → Q (.bool true) w') : Cal P N_garthlaw23_ModelNil #[opV o, .int .i64 id] w Q := by
  apply garthlaw23_ModelNil_k0
  unfold garthlaw23_ModelNil_b0
  have h1 := h.push (opC o)
  unfold opV
  simp only [bx_eq, cells_agg]
  rw [show Obj.cells (opA o) 34 (0, 0) = opC o from rfl]
  generalize w.heap.size = x at *
  generalize pu w _ = w1 at *
  have hx := h1.get
  unfold opC opA at hx
  by_cases hd : (16384 : Int) < (o.d.size : Int)
  · simp [hx, ld_eq, hd]
    exact awake_spec h1 fun w2 h2 => hk _ h2.drop
  · simp [hx, ld_eq, hd]
    refine Object_nil ?_
    simp only [ex_tuple, cellA_zero, cellA_succ, onv_some]
    refine awake_spec h1 fun w2 h2 => ?_
    have hx2 := h2.get
    have hop : ∀ K, ld P 34 (ptr x) w2 K = K (opV o) w2 := fun K => by rw [ld_eq, hx2, show ldO P 34 (some (opC o)) 0 = some (opV o) from ldO_op, onv_some]
    simp only [gd_true, hop]
    refine Do_nil h2 fun w3 h3 => ?_
    rw [bdN, an_eq _ _ true (by kernel_rfl)]
    simp only [pk_true, gd_true]
    refine Live_nil ?_
    simp only [un_not, Bool.not_false, pk_true, gd_true]
    refine Charged_nil ?_
    simp only [eqx_int, eq_self, decide_true, pk_true, gd_true]
    rw [eqx_str]
    rw [show ((bstr []).toList == (⟨#[]⟩ : ByteArray).toList) = true by simp [bstr]]
    simp only [un_not, Bool.not_false, pk_true, gd_true]
    refine Free_nil ?_
    simp only [eqx_int, eq_self, decide_true, pk_true, gd_true]
    refine Copy_nil ?_
    rw [eqx_ptr_nil (by kernel_rfl)]
    simp only [Option.isNone_none, pk_true]
    exact hk _ h3.drop
end
end Go.Proofs.YtiffjkgbjklgnaaDoor
