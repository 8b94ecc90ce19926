/-
  demand and sum: what a quota takes.
-/
import Derived.Test.YtiffjkgbjklgnaaDoorSH
import Derived.Test.YtiffjkgbjklgnaaDoorFL
namespace Go.Proofs.YtiffjkgbjklgnaaDoor
open Go Go.Eng Go.Lib
set_option maxRecDepth 20000
section
variable {w : World} {Q : Value → World → Prop}
def mayQ (q : Int) : Bool := decide (1 ≤ q) && decide (q ≤ 65536)
def runsS (q : Int) : Int := if mayQ q then q / 512 else 0
def byS (c q : Int) : Int := if perS c = 0 ∨ mayQ q = false then 0 else (q / unitS c + perS c - 1) / perS c
theorem demand_may_spec {q : Int} (hk : Q (.bool (mayQ q)) w) : Cal P N_demand_may #[.int .i64 q] w Q := by
  apply demand_may_k0
  unfold demand_may_b0
  unfold mayQ at hk
  by_cases h : 1 ≤ q <;> simp [h] at hk ⊢ <;> exact hk
theorem demand_Runs_spec {q : Int} (hk : Q (.int .i64 (runsS q)) w) : Cal P N_demand_Runs #[.int .i64 q] w Q := by
  apply demand_Runs_k0
  unfold demand_Runs_b0
  apply demand_may_spec
  unfold runsS at hk
  by_cases h : mayQ q = true
  · have h2 : 1 ≤ q ∧ q ≤ 65536 := by simpa [mayQ] using h
    have e : q.tdiv 512 = q / 512 := Int.tdiv_eq_ediv_of_nonneg (by omega)
    simp (disch := omega) [h, e, wrap_id] at hk ⊢
    exact hk
  · simp [h] at hk ⊢; exact hk
theorem per_unit {c : Int} (h0 : 0 ≤ c) (h8 : c < 8) : 2 ≤ perS c ∧ perS c ≤ 32 ∧ 16 ≤ unitS c ∧ unitS c ≤ 256 := by
  have : c = 0 ∨ c = 1 ∨ c = 2 ∨ c = 3 ∨ c = 4 ∨ c = 5 ∨ c = 6 ∨ c = 7 := by omega
  rcases this with rfl | rfl | rfl | rfl | rfl | rfl | rfl | rfl <;> decide
theorem demand_By_spec {c q : Int} (h0 : 0 ≤ c) (h8 : c < 8) (hk : Q (.int .i64 (byS c q)) w) : Cal P N_demand_By #[.int .i64 c, .int .i64 q] w Q := by
  apply demand_By_k0
  unfold demand_By_b0
  obtain ⟨p0, p1, u0, u1⟩ := per_unit h0 h8
  apply class_Per_spec
  have hp : ¬ (perS c = 0) := by omega
  have hu : ¬ (unitS c = 0) := by omega
  unfold byS at hk
  by_cases h : mayQ q = true
  · have h2 : 1 ≤ q ∧ q ≤ 65536 := by simpa [mayQ] using h
    simp [hp, h] at hk ⊢
    apply demand_may_spec
    simp [h]
    apply class_Unit_spec
    have e : q.tdiv (unitS c) = q / unitS c := Int.tdiv_eq_ediv_of_nonneg (by omega)
    have d0 : 0 ≤ q / unitS c := Int.ediv_nonneg (by omega) (by omega)
    have d1 : q / unitS c ≤ q := Int.ediv_le_self _ (by omega)
    have e2 : (q / unitS c + perS c - 1).tdiv (perS c) = (q / unitS c + perS c - 1) / perS c := Int.tdiv_eq_ediv_of_nonneg (by omega)
    have d2 : 0 ≤ (q / unitS c + perS c - 1) / perS c := Int.ediv_nonneg (by omega) (by omega)
    have d3 : (q / unitS c + perS c - 1) / perS c ≤ q / unitS c + perS c - 1 := Int.ediv_le_self _ (by omega)
    simp (disch := omega) [e, e2, wrap_id, hp, hu]
    exact hk
  · simp [hp, h] at hk ⊢
    apply demand_may_spec
    simp [h]
    exact hk
section
variable {K : Value → World → Prop}
theorem cv_nat {n : Nat} (h : n < 2 ^ 53) : cv P T_int T_float64 (.int .i64 n) w K = K (.float .f64 (FL.wd n)) w := by
  have e : cv P T_int T_float64 (.int .i64 n) w K = K (.float .f64 (FloatKind.f64.nearest n)) w := by
    unfold cv
    rw [show P.underlying T_int = some (.int .i64) from by kernel_rfl, show P.underlying T_float64 = some (.float .f64) from by kernel_rfl]
  rw [e, FL.f64_of h]
theorem cx_eq (ts : Array TypeId) (t : TypeId) (a b : Nat) : cxb P ts t [.float .f64 a, .float .f64 b] w K = K (.complex .f64 a b) w := vS_eq rfl
theorem re_eq (ts : Array TypeId) (t : TypeId) (a b : Nat) : reb P ts t [.complex .f64 a b] w K = K (.float .f64 a) w := vS_eq rfl
theorem im_eq (ts : Array TypeId) (t : TypeId) (a b : Nat) : imb P ts t [.complex .f64 a b] w K = K (.float .f64 b) w := vS_eq rfl
end
section
variable {K : Value → World → Prop}
theorem addc {t : TypeId} {a b c d : Nat} (h1 : a + c < 2 ^ 53) (h2 : b + d < 2 ^ 53) : bin P .add t (.complex .f64 (FL.wd a) (FL.wd b)) (.complex .f64 (FL.wd c) (FL.wd d)) w K = K (.complex .f64 (FL.wd (a + c)) (FL.wd (b + d))) w := by
  refine vS_eq ?_
  have e1 : FloatKind.f64.format.add (FL.wd a) (FL.wd c) = some (FL.wd (a + c)) := FL.add_wd h1
  have e2 : FloatKind.f64.format.add (FL.wd b) (FL.wd d) = some (FL.wd (b + d)) := FL.add_wd h2
  simp [binOp, Op.complexOp, Op.Complex.arith, Op.floatArith, e1, e2]
end
section
variable {K : Value → World → Prop}
theorem cmpN {a b : Nat} : compare (a : Int) (b : Int) = if a < b then .lt else if a = b then .eq else .gt := by
  simp only [compare, compareOfLessAndEq]
  by_cases h : a < b
  · have : (a : Int) < b := by omega
    simp [h, this]
  · have h' : ¬ ((a : Int) < b) := by omega
    by_cases e : a = b
    · subst e; simp
    · have e' : ¬ ((a : Int) = b) := by omega
      simp [h, h', e, e']
theorem leqf {t : TypeId} {a b : Nat} (h1 : a < 2 ^ 53) (h2 : b < 2 ^ 53) : bin P .leq t (.float .f64 (FL.wd a)) (.float .f64 (FL.wd b)) w K = K (.bool (decide (a ≤ b))) w := by
  show vS P (binOp .leq t (.float .f64 (FL.wd a)) (.float .f64 (FL.wd b))) w K = _
  refine vS_eq ?_
  have e : FloatKind.f64.format.order (FL.wd a) (FL.wd b) = some (compare (a : Int) b) := FL.order_wd h1 h2
  rw [binOp_float_cmp_leq, e, cmpN]
  by_cases h : a < b
  · have : a ≤ b := by omega
    simp [h, this]
  · by_cases e : a = b
    · subst e; simp
    · have : ¬ (a ≤ b) := by omega
      simp [h, e, this]
end
section
variable {K : Value → World → Prop}
theorem geqf {t : TypeId} {a b : Nat} (h1 : a < 2 ^ 53) (h2 : b < 2 ^ 53) : bin P .geq t (.float .f64 (FL.wd a)) (.float .f64 (FL.wd b)) w K = K (.bool (decide (b ≤ a))) w := by
  show vS P (binOp .geq t (.float .f64 (FL.wd a)) (.float .f64 (FL.wd b))) w K = _
  refine vS_eq ?_
  have e : FloatKind.f64.format.order (FL.wd a) (FL.wd b) = some (compare (a : Int) b) := FL.order_wd h1 h2
  rw [binOp_float_cmp_geq, e, cmpN]
  by_cases h : a < b
  · have : ¬ (b ≤ a) := by omega
    simp [h, this]
  · by_cases e : a = b
    · subst e; simp
    · have : b ≤ a := by omega
      simp [h, e, this]
theorem eqf {t : TypeId} {x y : Operand} {a : Nat} (h1 : a < 2 ^ 53) : eqx P .eql t x y (.float .f64 (FL.wd a)) (.float .f64 (FL.wd a)) w K = K (.bool true) w := by
  refine vS_eq ?_
  have e : FloatKind.f64.format.order (FL.wd a) (FL.wd a) = some (compare (a : Int) a) := FL.order_wd h1 h1
  rw [Sem.run_bind, show (eqGuard .eql t x y (.float .f64 (FL.wd a)) (.float .f64 (FL.wd a))).run P w = .ok () w from rfl, Result.andThen_ok, binOp_float_cmp_eql, e, cmpN]
  simp
end
section
variable {K : Value → World → Prop}
theorem f2i {t : TypeId} {a : Nat} (hd : P.underlying t = some (.int .i64)) (h1 : a < 2 ^ 53) : cv P T_float64 t (.float .f64 (FL.wd a)) w K = K (.int .i64 a) w := by
  show vS P (convert T_float64 t (.float .f64 (FL.wd a))) w K = _
  refine vS_eq ?_
  refine run_convert_float_int w T_float64 t .f64 .i64 (FL.wd a) a (by kernel_rfl) hd ?_
  unfold floatToIntVal
  have e : (FloatKind.f64.decode (FL.wd a)).toInt .zero = some (a : Int) := FL.toInt_wd h1
  rw [e]
  simp only
  rw [if_pos]
  show (-(2 ^ 63) : Int) ≤ a ∧ (a : Int) ≤ 2 ^ 63 - 1
  omega
theorem cv_nat64 {n : Nat} (h : n < 2 ^ 53) : cv P T_int64 T_float64 (.int .i64 n) w K = K (.float .f64 (FL.wd n)) w := by
  have e : cv P T_int64 T_float64 (.int .i64 n) w K = K (.float .f64 (FloatKind.f64.nearest n)) w := by
    unfold cv
    rw [show P.underlying T_int64 = some (.int .i64) from by kernel_rfl, show P.underlying T_float64 = some (.float .f64) from by kernel_rfl]
  rw [e, FL.f64_of h]
end
theorem sum_whole_spec {a : Nat} (h : a ≤ 2 ^ 40) (hk : Q (.bool true) w) : Cal P N_sum_whole #[.float .f64 (FL.wd a)] w Q := by
  apply sum_whole_k0
  unfold sum_whole_b0
  have e0 : (Value.float .f64 0) = .float .f64 (FL.wd 0) := rfl
  have e1 : (Value.float .f64 4787326403894837248) = .float .f64 (FL.wd (2 ^ 40)) := by rw [show FL.wd (2 ^ 40) = 4787326403894837248 from by decide +kernel]
  rw [e0, e1, geqf (by omega) (by omega)]
  simp only [Nat.zero_le, decide_true, gd_true]
  rw [leqf (by omega) (by omega)]
  simp only [h, decide_true, pk_true, gd_true]
  have f1 := fun K => f2i (w := w) (K := K) (t := T_int64) (a := a) (by kernel_rfl) (by omega)
  have f2 := fun K => cv_nat64 (w := w) (K := K) (n := a) (by omega)
  simp only [T_int64, T_float64] at f1 f2
  rw [f1, f2, eqf (by omega)]
  simpa using hk
theorem sum_Right_spec {a b : Nat} (ha : a ≤ 2 ^ 40) (hb : b ≤ 2 ^ 40) (hk : Q (.bool true) w) : Cal P N_sum_Sum_Right #[.complex .f64 (FL.wd a) (FL.wd b)] w Q := by
  apply sum_Sum_Right_k0
  unfold sum_Sum_Right_b0
  rw [re_eq]
  apply sum_whole_spec ha
  simp only [gd_true]
  rw [im_eq]
  apply sum_whole_spec hb
  simpa using hk
theorem sum_Pages_spec {a b : Nat} (ha : a ≤ 2 ^ 40) (hb : b ≤ 2 ^ 40) (hk : Q (.int .i64 b) w) : Cal P N_sum_Sum_Pages #[.complex .f64 (FL.wd a) (FL.wd b)] w Q := by
  apply sum_Sum_Pages_k0
  unfold sum_Sum_Pages_b0
  apply sum_Right_spec ha hb
  have f1 := fun K => f2i (w := w) (K := K) (t := T_int) (a := b) (by kernel_rfl) (by omega)
  simp only [T_int, T_float64] at f1
  simp only [un_not, Bool.not_true, cn_false]
  rw [im_eq, f1]
  exact hk
def sumBy (q : Int) : Nat → Nat → Int
  | 0, _ => 0
  | d + 1, c => byS c q + sumBy q d (c + 1)
def takes (q : Int) : Int := runsS q + sumBy q 8 0
theorem by_le {c q : Int} (h0 : 0 ≤ c) (h8 : c < 8) (hq : mayQ q = true) : 0 ≤ byS c q ∧ byS c q ≤ 65568 := by
  obtain ⟨p0, p1, u0, u1⟩ := per_unit h0 h8
  have h2 : 1 ≤ q ∧ q ≤ 65536 := by simpa [mayQ] using hq
  unfold byS
  rw [if_neg (by simp [hq]; omega)]
  have d0 : 0 ≤ q / unitS c := Int.ediv_nonneg (by omega) (by omega)
  have d1 : q / unitS c ≤ q := Int.ediv_le_self _ (by omega)
  have d2 : 0 ≤ (q / unitS c + perS c - 1) / perS c := Int.ediv_nonneg (by omega) (by omega)
  have d3 : (q / unitS c + perS c - 1) / perS c ≤ q / unitS c + perS c - 1 := Int.ediv_le_self _ (by omega)
  omega
theorem demand_Of_p1_spec {q : Int} (hq : mayQ q = true) (hk : ∀ n : Nat, (n : Int) = takes q → Q (.tuple #[.complex .f64 (FL.wd q.toNat) (FL.wd n), .int .i64 0]) w) : ∀ (d c n : Nat), c + d = 8 → (n : Int) + sumBy q d c = takes q → n ≤ 65568 * (c + 1) → demand_Of_p1 (.int .i64 q) (.complex .f64 (FL.wd q.toNat) (FL.wd n)) (.int .i64 (c : Int)) w Q := by
  have h2 : 1 ≤ q ∧ q ≤ 65536 := by simpa [mayQ] using hq
  intro d
  induction d with
  | zero =>
    intro c n hc hn hb
    obtain rfl : c = 8 := by omega
    apply demand_Of_k1
    unfold demand_Of_b1
    simp
    exact hk n (by simpa [sumBy] using hn)
  | succ d ih =>
    intro c n hc hn hb
    apply demand_Of_k1
    unfold demand_Of_b1
    have e8 : (c : Int) < 8 := by omega
    simp only [bin_lss, e8, decide_true, cn_true]
    apply demand_By_spec (by omega) e8
    obtain ⟨b0, b1⟩ := by_le (c := (c : Int)) (by omega) e8 hq
    obtain ⟨y, hy⟩ := Int.eq_ofNat_of_zero_le b0
    rw [hy]
    have f1 := fun K => cv_nat (w := w) (K := K) (n := y) (by omega)
    simp only [T_int, T_float64] at f1
    rw [f1, show (Value.float .f64 0) = .float .f64 (FL.wd 0) from rfl, cx_eq, addc (by omega) (by omega), bin_add, wrap_id (by omega) (by omega)]
    have := ih (c + 1) (n + y) (by omega) (by unfold sumBy at hn; omega) (by omega)
    simpa using this
theorem demand_Of_spec {q : Int} (hk0 : mayQ q = false → Q (.tuple #[.complex .f64 0 0, .int .i64 12]) w) (hk : mayQ q = true → ∀ n : Nat, (n : Int) = takes q → Q (.tuple #[.complex .f64 (FL.wd q.toNat) (FL.wd n), .int .i64 0]) w) : Cal P N_demand_Of #[.int .i64 q] w Q := by
  apply demand_Of_k0
  unfold demand_Of_b0
  apply demand_may_spec
  by_cases h : mayQ q = true
  · have h2 : 1 ≤ q ∧ q ≤ 65536 := by simpa [mayQ] using h
    simp only [h, un_not, Bool.not_true, cn_false]
    obtain ⟨z, rfl⟩ := Int.eq_ofNat_of_zero_le (show 0 ≤ q by omega)
    have f1 := fun K => cv_nat (w := w) (K := K) (n := z) (by omega)
    simp only [T_int, T_float64] at f1
    rw [f1]
    apply demand_Runs_spec
    have er : runsS z = ((z / 512 : Nat) : Int) := by unfold runsS; rw [if_pos h]; rfl
    rw [er]
    have f2 := fun K => cv_nat (w := w) (K := K) (n := z / 512) (by omega)
    simp only [T_int, T_float64] at f2
    rw [f2, cx_eq]
    exact demand_Of_p1_spec h (hk h) 8 0 (z / 512) (by omega) (by unfold takes; rw [er]) (by omega)
  · have h : mayQ q = false := by simpa using h
    simp only [h, un_not, Bool.not_false, cn_true]
    exact hk0 h
theorem takes_le {q : Int} (h : mayQ q = true) : takes q ≤ 1000000 := by
  have h2 : 1 ≤ q ∧ q ≤ 65536 := by simpa [mayQ] using h
  have b := fun (c : Int) h0 h8 => (by_le (c := c) h0 h8 h).2
  have b0 := b 0 (by omega) (by omega); have b1 := b 1 (by omega) (by omega); have b2 := b 2 (by omega) (by omega); have b3 := b 3 (by omega) (by omega)
  have b4 := b 4 (by omega) (by omega); have b5 := b 5 (by omega) (by omega); have b6 := b 6 (by omega) (by omega); have b7 := b 7 (by omega) (by omega)
  unfold takes runsS
  rw [if_pos h]
  simp only [sumBy]
  simp at *
  omega
def fitsS (q p : Int) : Bool := mayQ q && decide (takes q ≤ p)
theorem demand_Fits_spec {q p : Int} (hk : Q (.bool (fitsS q p)) w) : Cal P N_demand_Fits #[.int .i64 q, .int .i64 p] w Q := by
  apply demand_Fits_k0
  unfold demand_Fits_b0
  unfold fitsS at hk
  apply demand_Of_spec
  · intro h
    simp [h] at hk ⊢
    exact hk
  · intro h n hn
    have h2 : 1 ≤ q ∧ q ≤ 65536 := by simpa [mayQ] using h
    have := takes_le h
    simp [h] at hk ⊢
    apply sum_Pages_spec (by omega) (by omega)
    simp [hn]
    exact hk
end
end Go.Proofs.YtiffjkgbjklgnaaDoor
