/-
  Contracts of the leaves: class, bits.
-/
import Derived.Test.YtiffjkgbjklgnaaDoorAll
import Derived.Test.YtiffjkgbjklgnaaDoorSep
import Derived.Lib.TrailingZeros
namespace Go.Proofs.YtiffjkgbjklgnaaDoor
open Go Go.Eng Go.Lib

abbrev Same (w w' : World) : Prop := Ext (fun _ => False) w w'

/-! ### class -/
def smallS (c : Int) : Int := if c = 0 then 16 else if c = 1 then 32 else if c = 2 then 48 else if c = 3 then 64 else if c = 4 then 96 else if c = 5 then 128 else if c = 6 then 192 else 256
def ofSmall (n : Int) : Int := if n ≤ 16 then 0 else if n ≤ 32 then 1 else if n ≤ 48 then 2 else if n ≤ 64 then 3 else if n ≤ 96 then 4 else if n ≤ 128 then 5 else if n ≤ 192 then 6 else 7
def ofS (n : Int) : Int := if n < 1 ∨ 8192 < n then -1 else if 256 < n then 8 + (n - 1) / 512 else ofSmall n
def withinS (c : Int) : Prop := 0 ≤ c ∧ c < 24
instance (c : Int) : Decidable (withinS c) := inferInstanceAs (Decidable (_ ∧ _))
def pagesS (c : Int) : Int := if withinS c then max 1 (c - 7) else 0
def unitS (c : Int) : Int := if withinS c then (if c < 8 then smallS c else (c - 7) * 512) else 0
def perS (c : Int) : Int := if withinS c then (if c < 8 then 512 / smallS c else 0) else 0
def chargeS (n : Int) : Int := unitS (ofS n)

section
variable {w : World} {Q : Value → World → Prop}
theorem class_within_spec {c : Int} (hk : Q (.bool (decide (withinS c))) w) : Cal P N_class_within #[.int .i64 c] w Q := by
  apply class_within_k0
  unfold class_within_b0
  unfold withinS at hk
  by_cases h : 0 ≤ c <;> simp [h, gd_bool, pk_bool] at hk ⊢ <;> exact hk

set_option maxHeartbeats 400000 in
theorem class_small_spec {c : Int} (h0 : 0 ≤ c) (h1 : c < 8) (hk : Q (.int .i64 (smallS c)) w) : Cal P N_class_small #[.int .i64 c] w Q := by
  apply class_small_k0
  unfold class_small_b0
  have : c = 0 ∨ c = 1 ∨ c = 2 ∨ c = 3 ∨ c = 4 ∨ c = 5 ∨ c = 6 ∨ c = 7 := by omega
  rcases this with rfl | rfl | rfl | rfl | rfl | rfl | rfl | rfl <;> simp [smallS, bin_shl] at hk ⊢
  all_goals first
    | exact hk
    | exact ⟨by decide, hk⟩

theorem small_pos {c : Int} : 16 ≤ smallS c ∧ smallS c ≤ 256 := by
  unfold smallS; repeat' split
  all_goals omega

set_option maxHeartbeats 1000000 in
theorem class_Of_p1_spec {n : Int} (h1 : 1 ≤ n) (h2 : n ≤ 256) (hk : Q (.int .i64 (ofSmall n)) w) : ∀ (k : Nat) (c : Int), c = 7 - k → 0 ≤ c → (∀ d, 0 ≤ d → d < c → smallS d < n) → class_Of_p1 (.int .i64 n) (.int .i64 c) w Q := by
  intro k
  induction k with
  | zero =>
    intro c hc h0 hd
    obtain rfl : c = 7 := by omega
    apply class_Of_k1
    unfold class_Of_b1
    apply class_small_spec (by omega) (by omega)
    have h6 := hd 6 (by omega) (by omega)
    simp [smallS] at h6
    have : ¬ (smallS 7 < n) := by simp [smallS]; omega
    have e : ofSmall n = 7 := by unfold ofSmall; repeat' split
                                 all_goals omega
    rw [e] at hk
    simp [this]
    exact hk
  | succ k ih =>
    intro c hc h0 hd
    apply class_Of_k1
    unfold class_Of_b1
    apply class_small_spec h0 (by omega)
    by_cases hlt : smallS c < n
    · simp [hlt]
      rw [wrap_id (by omega) (by omega)]
      refine ih (c + 1) (by omega) (by omega) fun d hd0 hd1 => ?_
      by_cases e : d = c
      · rw [e]; exact hlt
      · exact hd d hd0 (by omega)
    · simp [hlt]
      have hp : 0 < c → smallS (c - 1) < n := fun h => hd (c - 1) (by omega) (by omega)
      have e : ofSmall n = c := by
        have : c = 0 ∨ c = 1 ∨ c = 2 ∨ c = 3 ∨ c = 4 ∨ c = 5 ∨ c = 6 := by omega
        rcases this with rfl | rfl | rfl | rfl | rfl | rfl | rfl <;> simp [smallS] at hlt hp <;> unfold ofSmall <;> (repeat' split) <;> omega
      rw [e] at hk
      exact hk

theorem class_Of_spec {n : Int} (hk : Q (.int .i64 (ofS n)) w) : Cal P N_class_Of #[.int .i64 n] w Q := by
  apply class_Of_k0
  unfold class_Of_b0
  unfold ofS at hk
  by_cases h1 : n < 1
  · simp [h1, gd_bool, pk_bool] at hk ⊢; exact hk
  · by_cases h2 : 8192 < n
    · simp [h1, h2, gd_bool, pk_bool] at hk ⊢; exact hk
    · by_cases h3 : 256 < n
      · have e : (n - 1).tdiv 512 = (n - 1) / 512 := Int.tdiv_eq_ediv_of_nonneg (by omega)
        simp (disch := omega) [h1, h2, h3, gd_bool, pk_bool, wrap_id, e] at hk ⊢
        exact hk
      · simp [h1, h2, h3, gd_bool, pk_bool] at hk ⊢
        exact class_Of_p1_spec (by omega) (by omega) hk 7 0 (by omega) (by omega) fun d h0 h1 => by omega

theorem class_Pages_spec {c : Int} (hk : Q (.int .i64 (pagesS c)) w) : Cal P N_class_Pages #[.int .i64 c] w Q := by
  apply class_Pages_k0
  unfold class_Pages_b0
  apply class_within_spec
  unfold pagesS at hk
  by_cases h : withinS c
  · simp [h] at hk ⊢
    unfold withinS at h
    simp (disch := omega) [wrap_id]
    have : c - 8 + 1 = c - 7 := by omega
    rw [this]
    exact hk
  · simp [h] at hk ⊢; exact hk

theorem class_Unit_spec {c : Int} (hk : Q (.int .i64 (unitS c)) w) : Cal P N_class_Unit #[.int .i64 c] w Q := by
  apply class_Unit_k0
  unfold class_Unit_b0
  apply class_within_spec
  unfold unitS at hk
  by_cases h : withinS c
  · by_cases h8 : c < 8
    · simp [h, h8] at hk ⊢
      exact class_small_spec h.1 h8 hk
    · simp [h, h8] at hk ⊢
      apply class_Pages_spec
      unfold withinS at h
      have : pagesS c = c - 7 := by unfold pagesS; rw [if_pos (show withinS c from h)]; omega
      simp (disch := omega) [wrap_id, this]
      exact hk
  · simp [h] at hk ⊢; exact hk

theorem class_Per_spec {c : Int} (hk : Q (.int .i64 (perS c)) w) : Cal P N_class_Per #[.int .i64 c] w Q := by
  apply class_Per_k0
  unfold class_Per_b0
  apply class_within_spec
  unfold perS at hk
  by_cases h : withinS c
  · by_cases h8 : c < 8
    · have h9 : ¬ (8 ≤ c) := by omega
      simp [h, h8, h9] at hk ⊢
      apply class_small_spec h.1 h8
      have := small_pos (c := c)
      have h10 : smallS c ≠ 0 := by omega
      have e : (512 : Int).tdiv (smallS c) = 512 / smallS c := Int.tdiv_eq_ediv_of_nonneg (by omega)
      have e1 : 0 ≤ 512 / smallS c := Int.ediv_nonneg (by omega) (by omega)
      have e2 : 512 / smallS c ≤ 512 := Int.ediv_le_self _ (by omega)
      simp (disch := omega) [h10, e, wrap_id]
      exact hk
    · have h9 : 8 ≤ c := by omega
      simp [h, h8, h9] at hk ⊢; exact hk
  · simp [h] at hk ⊢; exact hk

theorem class_Charge_spec {n : Int} (hk : Q (.int .i64 (chargeS n)) w) : Cal P N_class_Charge #[.int .i64 n] w Q := by
  apply class_Charge_k0
  unfold class_Charge_b0
  exact class_Of_spec (class_Unit_spec hk)
end

/-! ### words -/
theorem ofInt_nat {a : Nat} (h : a < 18446744073709551616) : (BitVec.ofInt 64 (a : Int)).toNat = a := by
  rw [BitVec.toNat_ofInt]; omega
theorem and_u64 {a b : Nat} (ha : a < 18446744073709551616) (hb : b < 18446744073709551616) : IntKind.u64.wrap ((BitVec.ofInt 64 (a : Int) &&& BitVec.ofInt 64 (b : Int)).toNat : Int) = ((a &&& b : Nat) : Int) := by
  rw [BitVec.toNat_and, ofInt_nat ha, ofInt_nat hb]
  have : a &&& b ≤ a := Nat.and_le_left
  exact wrap_u64 (by omega) (by omega)
theorem or_u64 {a b : Nat} (ha : a < 18446744073709551616) (hb : b < 18446744073709551616) : IntKind.u64.wrap ((BitVec.ofInt 64 (a : Int) ||| BitVec.ofInt 64 (b : Int)).toNat : Int) = ((a ||| b : Nat) : Int) := by
  rw [BitVec.toNat_or, ofInt_nat ha, ofInt_nat hb]
  have : a ||| b < 2 ^ 64 := Nat.or_lt_two_pow ha hb
  exact wrap_u64 (by omega) (by omega)
theorem xor_u64 {a b : Nat} (ha : a < 18446744073709551616) (hb : b < 18446744073709551616) : IntKind.u64.wrap ((BitVec.ofInt 64 (a : Int) ^^^ BitVec.ofInt 64 (b : Int)).toNat : Int) = ((a ^^^ b : Nat) : Int) := by
  rw [BitVec.toNat_xor, ofInt_nat ha, ofInt_nat hb]
  have : a ^^^ b < 2 ^ 64 := Nat.xor_lt_two_pow ha hb
  exact wrap_u64 (by omega) (by omega)

theorem fdiv_nat (m d : Nat) : ((m : Nat) : Int).fdiv (d : Nat) = ((m / d : Nat) : Int) := by
  rw [Int.fdiv_eq_ediv_of_nonneg _ (by omega)]; rfl
section
variable {w : World} {K : Value → World → Prop} {t : TypeId}
theorem bin_xor_u64 {a b : Nat} (ha : a < 18446744073709551616) (hb : b < 18446744073709551616) : bin P .xor t (.int .u64 a) (.int .u64 b) w K = K (.int .u64 ((a ^^^ b : Nat) : Int)) w := by
  rw [bin_xor, ← xor_u64 ha hb]; rfl
theorem bin_or_u64 {a b : Nat} (ha : a < 18446744073709551616) (hb : b < 18446744073709551616) : bin P .or t (.int .u64 a) (.int .u64 b) w K = K (.int .u64 ((a ||| b : Nat) : Int)) w := by
  rw [bin_or, ← or_u64 ha hb]; rfl
theorem bin_and_u64 {a b : Nat} (ha : a < 18446744073709551616) (hb : b < 18446744073709551616) : bin P .and t (.int .u64 a) (.int .u64 b) w K = K (.int .u64 ((a &&& b : Nat) : Int)) w := by
  rw [bin_and, ← and_u64 ha hb]; rfl
theorem bin_and1 {a : Nat} (ha : a < 18446744073709551616) : bin P .and t (.int .u64 a) (.int .u64 1) w K = K (.int .u64 ((a % 2 : Nat) : Int)) w := by
  have := bin_and_u64 (w := w) (K := K) (t := t) ha (show 1 < 18446744073709551616 by omega)
  rw [Nat.and_one_is_mod] at this
  exact this
/-- bit k -/
def bit (k : Int) : Nat := 2 ^ k.toNat
theorem pow_lt64 {k : Int} (h1 : k < 64) : bit k < 18446744073709551616 := Nat.pow_lt_pow_right (n := 64) (by omega) (by omega)
theorem bin_shl1 {k : Int} (h0 : 0 ≤ k) (h1 : k < 64) : bin P .shl t (.int .u64 1) (.int .i64 k) w K = K (.int .u64 ((bit k : Nat) : Int)) w := by
  have e : min k.toNat IntKind.u64.bits = k.toNat := by show min k.toNat 64 = _; omega
  have e2 : (1 : Int) * 2 ^ k.toNat = ((bit k : Nat) : Int) := by simp [bit]
  rw [bin_shl, e, e2, wrap_u64 (Int.natCast_nonneg _) (by have := pow_lt64 h1; omega)]
  simp [h0]
theorem bin_shr_u64 {a : Nat} {k : Int} (h0 : 0 ≤ k) (h1 : k < 64) : bin P .shr t (.int .u64 a) (.int .i64 k) w K = K (.int .u64 ((a / bit k : Nat) : Int)) w := by
  have e : min k.toNat IntKind.u64.bits = k.toNat := by show min k.toNat 64 = _; omega
  have e2 : (2 : Int) ^ k.toNat = ((bit k : Nat) : Int) := by simp [bit]
  rw [bin_shr, e, e2, fdiv_nat]
  simp [h0]
end

theorem tab_get {q k : Nat} (hq : q < 64) (h : deBruijn64tab.getD q 0 = k) : tabCells[q]? = some (.int .u8 k) := by
  have hl : deBruijn64tab.length = 64 := by decide
  rw [tabCells, List.getElem?_toArray, List.getElem?_map]
  rw [List.getD_eq_getElem?_getD] at h
  have : q < deBruijn64tab.length := by omega
  rw [List.getElem?_eq_getElem this] at h ⊢
  simp at h
  simp [h]
theorem mul_u64 (p : Nat) : IntKind.u64.wrap ((p : Int) * 285870213051353865) = ((p * 285870213051353865 % 18446744073709551616 : Nat) : Int) := by
  unfold IntKind.wrap
  simp only [IntKind.bits, IntKind.signed, Bool.false_and, Bool.false_eq_true, if_false]
  rw [Int.natCast_emod, Int.natCast_mul]
  rfl
theorem neg_u64 {x : Nat} (h0 : x ≠ 0) (h : x < 18446744073709551616) : IntKind.u64.wrap (0 - (x : Int)) = ((18446744073709551616 - x : Nat) : Int) := by
  unfold IntKind.wrap
  simp only [IntKind.bits, IntKind.signed, Bool.false_and, Bool.false_eq_true, if_false]
  omega

theorem bits_TrailingZeros64_spec {w : World} {Q : Value → World → Prop} {x : Nat} (h0 : x ≠ 0) (hx : x < 18446744073709551616) {T : Bs} (hT : w.heap[0]? = T.tab) (hk : Q (.int .i64 (ctz 64 x)) w) : Cal P N_bits_TrailingZeros64 #[.int .u64 x] w Q := by
  apply bits_TrailingZeros64_k0
  unfold bits_TrailingZeros64_b0
  obtain ⟨e, hc⟩ := lowest_bit 64 x h0 hx
  have hand := and_u64 (a := x) (b := 18446744073709551616 - x) hx (by omega)
  have e' : x &&& (18446744073709551616 - x) = 2 ^ ctz 64 x := e
  rw [e'] at hand
  obtain ⟨hd, hg⟩ := deBruijn64_at _ hc
  have htab := tab_get hd hg
  have hlt : ctz 64 x < 64 := hc
  generalize ctz 64 x = k at *
  generalize 2 ^ k = p at *
  have hmul := mul_u64 p
  have hfd := fdiv_nat (p * 285870213051353865 % 18446744073709551616) 288230376151711744
  generalize p * 285870213051353865 % 18446744073709551616 = r at *
  generalize r / 288230376151711744 = q at *
  have hl : (0 : Int) ≤ q ∧ (q : Int) < 64 := by omega
  have hx0 : ¬ ((x : Int) = 0) := by omega
  simp only [eqx_int, hx0, decide_false, cn_false, un_neg, neg_u64 h0 hx]
  rw [bin_and]
  show bin P _ _ (.int .u64 (IntKind.u64.wrap ((BitVec.ofInt 64 (x : Int) &&& BitVec.ofInt 64 ((18446744073709551616 - x : Nat) : Int)).toNat : Int))) _ _ _
  rw [hand, bin_mul, hmul, bin_shr]
  have e3 : (2 : Int) ^ (min (58 : Int).toNat IntKind.u64.bits) = ((288230376151711744 : Nat) : Int) := by decide
  rw [e3, hfd]
  have e4 : IntKind.i64.wrap (k : Int) = (k : Int) := wrap_id (by omega) (by omega)
  have hA : arrO P T_64_uint8 = some (64, T_uint8) := by kernel_rfl
  have hs5 : szO P T_uint8 = some 1 := by kernel_rfl
  refine ⟨by decide, ?_⟩
  rw [ia_arr, hA, onv_some, hs5, onv_some]
  refine ⟨hl, ?_⟩
  rw [ld_eq, ldO_one (by kernel_rfl), hT, Bs.tab, cellO_some, cellA]
  have e5 : 0 + (q : Int).toNat * 1 = q := by omega
  rw [e5, htab, onv_some, cv_int (k0 := .u8) (j := .i64) (by kernel_rfl) (by kernel_rfl), e4]
  exact hk
end Go.Proofs.YtiffjkgbjklgnaaDoor
