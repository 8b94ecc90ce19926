/-
  op: operations.
-/
import Derived.Test.YtiffjkgbjklgnaaDoorSI
namespace Go.Proofs.YtiffjkgbjklgnaaDoor
open Go Go.Eng Go.Lib
set_option maxRecDepth 20000

/-- an operation -/
structure Op_ where
  k : Int
  t : Int
  n : Int
  m : Int
  h : Nat
  d : ByteArray
def opA (o : Op_) : Array Value := #[.int .i64 o.k, .int .i64 o.t, .int .i64 o.n, .int .i64 o.m, .int .u64 o.h, .string o.d]
def opV (o : Op_) : Value := .agg (opA o)
def Op_.bad (o : Op_) : Bool := decide (o.k < 1) || decide (11 < o.k) || decide (o.t < 0) || decide (8 ≤ o.t) || decide (8192 < o.d.size) || (decide (0 < o.d.size) && !decide (o.k = 10))
def Op_.check (o : Op_) : Int := if o.bad then 1 else 0
def Op_.ask0 (o : Op_) : Int := if o.k = 4 ∨ o.k = 7 then o.n else if o.k = 5 then (if 0 < min o.n o.m ∧ o.n ≤ 8192 / o.m then o.n * o.m else 0) else 0
def Op_.asks (o : Op_) : Int := if o.bad then 0 else if ofS o.ask0 < 0 then 0 else o.ask0

section
variable {T : Bs} {w : World} {Q : Value → World → Prop} {R : HP} {o : Op_}
def opC (o : Op_) : Obj := .cells (opA o) T_api_Op (0, 0)

theorem op_Check_spec (h : Sat T w R) (hk : ∀ w', Sat T w' R → Q (.int .i64 o.check) w') : Cal P N_op_Check #[opV o] w Q := by
  apply op_Check_k0
  unfold op_Check_b0
  have h1 := h.push (opC o)
  have hk := hk _ h1.drop
  unfold opV
  simp only [bx_eq, cells_agg]
  have hg := h1.get
  unfold opC at *
  simp only [T_api_Op] at *
  generalize w.heap.size = x at *
  generalize pu w _ = w1 at *
  clear h h1
  unfold opA at hg
  unfold Op_.check Op_.bad at hk
  by_cases a1 : o.k < 1
  · simp [hg, ld_eq, a1] at hk ⊢; exact hk
  by_cases a2 : 11 < o.k
  · simp [hg, ld_eq, a1, a2] at hk ⊢; exact hk
  by_cases a3 : o.t < 0
  · simp [hg, ld_eq, a1, a2, a3] at hk ⊢; exact hk
  by_cases a4 : 8 ≤ o.t
  · simp [hg, ld_eq, a1, a2, a3, a4] at hk ⊢; exact hk
  by_cases a5 : 8192 < o.d.size
  · have a5' : (8192 : Int) < (o.d.size : Int) := by omega
    simp [hg, ld_eq, a1, a2, a3, a4, a5, a5'] at hk ⊢; exact hk
  have a5' : ¬ ((8192 : Int) < (o.d.size : Int)) := by omega
  by_cases a6 : 0 < o.d.size
  · have a6' : (0 : Int) < (o.d.size : Int) := by omega
    by_cases a7 : o.k = 10
    · simp [hg, ld_eq, a1, a2, a3, a4, a5, a5', a6, a6', a7] at hk ⊢; exact hk
    · simp [hg, ld_eq, a1, a2, a3, a4, a5, a5', a6, a6', a7] at hk ⊢; exact hk
  · have a6' : ¬ ((0 : Int) < (o.d.size : Int)) := by omega
    simp [hg, ld_eq, a1, a2, a3, a4, a5, a5', a6, a6'] at hk ⊢; exact hk

theorem ldO_op {o : Op_} : ldO P T_api_Op (some (opC o)) 0 = some (opV o) := ld_whole fun o i => by kernel_rfl
theorem Asks_p2 {x : Nat} {v : Int} (hv : v = o.ask0) (h : Sat T w (own x (opC o) • R)) (hk : ∀ w', Sat T w' R → Q (.int .i64 o.asks) w') : op_Asks_p2 (ptr x) (.int .i64 v) w Q := by
  subst hv
  apply op_Asks_k2
  unfold op_Asks_b2
  rw [ld_eq, h.get, show ∀ t, t = T_api_Op → ldO P t (some (opC o)) 0 = some (opV o) from fun t e => by rw [e]; exact ldO_op]
  · rw [onv_some]
    refine op_Check_spec h fun w1 h1 => ?_
    have hk := hk _ h1.drop
    unfold Op_.asks at hk
    unfold Op_.check
    by_cases hb : o.bad = true
    · simp [hb] at hk ⊢; exact hk
    · simp [hb] at hk ⊢
      apply class_Of_spec
      by_cases hc : ofS o.ask0 < 0
      · simp [hc] at hk ⊢; exact hk
      · simp [hc] at hk ⊢; exact hk
  · rfl
theorem op_Asks_spec (h : Sat T w R) (hk : ∀ w', Sat T w' R → Q (.int .i64 o.asks) w') : Cal P N_op_Asks #[opV o] w Q := by
  apply op_Asks_k0
  unfold op_Asks_b0
  have h1 := h.push (opC o)
  unfold opV
  simp only [bx_eq, cells_agg]
  have hg := h1.get
  rw [show ∀ t, t = T_api_Op → Obj.cells (opA o) t (0, 0) = opC o from fun t e => by rw [e]; rfl]
  · generalize w.heap.size = x at *
    generalize pu w _ = w1 at *
    unfold opC opA at hg
    simp only [T_api_Op] at hg
    by_cases k4 : o.k = 4
    · simp [hg, ld_eq, k4]
      apply op_Asks_k1
      unfold op_Asks_b1
      simp [hg, ld_eq]
      exact Asks_p2 (by simp [Op_.ask0, k4]) h1 hk
    · by_cases k7 : o.k = 7
      · simp [hg, ld_eq, k7]
        apply op_Asks_k1
        unfold op_Asks_b1
        simp [hg, ld_eq]
        exact Asks_p2 (by simp [Op_.ask0, k7]) h1 hk
      · simp [hg, ld_eq, k4, k7]
        apply op_Asks_k1
        unfold op_Asks_b1
        by_cases k5 : o.k = 5
        · have hg' : (dw w1).heap[x]? = _ := hg
          by_cases hm : 0 < min o.n o.m
          · have hm' : o.m ≠ 0 := by omega
            have e : (8192 : Int).tdiv o.m = 8192 / o.m := Int.tdiv_eq_ediv_of_nonneg (by omega)
            have d0 : 0 ≤ (8192 : Int) / o.m := Int.ediv_nonneg (by omega) (by omega)
            have d1 : (8192 : Int) / o.m ≤ 8192 := Int.ediv_le_self _ (by omega)
            by_cases hn : o.n ≤ 8192 / o.m
            · have hmul : o.n * o.m ≤ 8192 := by
                have h1 := Int.ediv_mul_le 8192 hm'
                have h2 : o.n * o.m ≤ 8192 / o.m * o.m := Int.mul_le_mul_of_nonneg_right hn (by omega)
                omega
              have hmul0 : 0 ≤ o.n * o.m := Int.mul_nonneg (by omega) (by omega)
              have hw : IntKind.i64.wrap (o.n * o.m) = o.n * o.m := wrap_id (by omega) (by omega)
              simp (disch := omega) [hg, ld_eq, k5, hm, hm', e, wrap_id, hn, hw]
              refine Asks_p2 ?_ h1.dw hk
              unfold Op_.ask0
              rw [if_neg (by omega), if_pos k5, if_pos ⟨hm, hn⟩]
            · simp (disch := omega) [hg, ld_eq, k5, hm, hm', e, wrap_id, hn]
              refine Asks_p2 ?_ h1.dw hk
              unfold Op_.ask0
              rw [if_neg (by omega), if_pos k5, if_neg (fun h => hn h.2)]
          · simp [hg, ld_eq, k5, hm]
            refine Asks_p2 ?_ h1.dw hk
            unfold Op_.ask0
            rw [if_neg (by omega), if_pos k5, if_neg (fun h => hm h.1)]
        · simp [k5]
          exact Asks_p2 (by simp [Op_.ask0, k4, k7, k5]) h1 hk
  · rfl
end
end Go.Proofs.YtiffjkgbjklgnaaDoor
