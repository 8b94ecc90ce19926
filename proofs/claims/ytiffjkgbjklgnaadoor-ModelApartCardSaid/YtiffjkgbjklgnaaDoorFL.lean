/-
  Small whole numbers as doubles: exact.
-/
import Derived.Laws.FloatArith
namespace Go.FL
open Ieee
set_option exponentiation.threshold 2000
set_option maxHeartbeats 40000

abbrev F : Format := FloatKind.f64.format
/-- the word of a whole number below 2^53 -/
def wd (n : Nat) : Nat := if n = 0 then 0 else (n.log2 + 1022) * 2 ^ 52 + n * 2 ^ (52 - n.log2)

theorem log2_mul_pow {n s : Nat} (h : n ≠ 0) : (n * 2 ^ s).log2 = n.log2 + s := by
  have h1 := Nat.log2_self_le h
  have h2 := Nat.lt_log2_self (n := n)
  have hp : 0 < 2 ^ s := Nat.two_pow_pos s
  have hne : n * 2 ^ s ≠ 0 := Nat.mul_ne_zero h (Nat.ne_of_gt hp)
  apply Nat.le_antisymm
  · apply Nat.le_of_lt_succ
    rw [Nat.log2_lt hne]
    have : n * 2 ^ s < 2 ^ (n.log2 + 1) * 2 ^ s := Nat.mul_lt_mul_of_pos_right h2 hp
    rw [← Nat.pow_add] at this
    have e : n.log2 + 1 + s = (n.log2 + s).succ := by omega
    rwa [e] at this
  · rw [Nat.le_log2 hne, Nat.pow_add]
    exact Nat.mul_le_mul_right _ h1

theorem cut_exact {neg : Bool} {m d : Nat} (h : m ≠ 0 ∨ d = 0) : Toward.even.cut neg (m * 2 ^ d) d = m := by
  unfold Toward.cut
  have hmin : min d ((m * 2 ^ d).log2 + 2) = d := by
    rcases h with h | h
    · rw [log2_mul_pow h]; omega
    · subst h; omega
  have hp : 0 < 2 ^ d := Nat.two_pow_pos d
  simp only [hmin, Nat.one_shiftLeft, Nat.mul_div_cancel _ hp, Nat.mul_mod_left]
  have e1 : ¬ (2 ^ d < 2 * 0) := by omega
  have e2 : ¬ (2 ^ d = 2 * 0) := by omega
  simp [e1]

theorem F_frac : F.fractionBits = 52 := rfl
theorem F_least : F.leastPlace = -1074 := by decide
theorem F_bin : F.binade = 2 ^ 52 := rfl
theorem F_inf : F.infRung = 2047 * 2 ^ 52 := by decide
theorem F_sign : F.signWeight = 2 ^ 63 := by decide

theorem log_lt {n : Nat} (h0 : n ≠ 0) (h : n < 2 ^ 53) : n.log2 ≤ 52 := by
  have := (Nat.log2_lt h0).2 h
  omega
theorem man_lt {n : Nat} (h0 : n ≠ 0) (h : n < 2 ^ 53) : 2 ^ 52 ≤ n * 2 ^ (52 - n.log2) ∧ n * 2 ^ (52 - n.log2) < 2 ^ 53 := by
  have hl := log_lt h0 h
  have h1 := Nat.log2_self_le h0
  have h2 := Nat.lt_log2_self (n := n)
  have hp : 0 < 2 ^ (52 - n.log2) := Nat.two_pow_pos _
  constructor
  · calc 2 ^ 52 = 2 ^ n.log2 * 2 ^ (52 - n.log2) := by rw [← Nat.pow_add]; congr 1; omega
      _ ≤ _ := Nat.mul_le_mul_right _ h1
  · calc n * 2 ^ (52 - n.log2) < 2 ^ (n.log2 + 1) * 2 ^ (52 - n.log2) := Nat.mul_lt_mul_of_pos_right h2 hp
      _ = 2 ^ 53 := by rw [← Nat.pow_add]; congr 1; omega

/-- scaled: the same word -/
theorem nearest_scaled {n s : Nat} (h0 : n ≠ 0) (h : n < 2 ^ 53) : F.nearest false (n * 2 ^ s) (-(s : Int)) = wd n := by
  have hl := log_lt h0 h
  have hp : 0 < 2 ^ s := Nat.two_pow_pos s
  have hne : n * 2 ^ s ≠ 0 := Nat.mul_ne_zero h0 (Nat.ne_of_gt hp)
  obtain ⟨hm0, hm1⟩ := man_lt h0 h
  unfold Format.nearest
  rw [if_neg hne]
  simp only [log2_mul_pow h0, F_frac, F_least, F_bin, F_inf]
  have e1 : max (-(s : Int) + (n.log2 + s : Nat) - (52 : Nat)) (-1074) = (n.log2 : Int) - 52 := by omega
  rw [e1]
  have e2 : ((n.log2 : Int) - 52 - (-1074)).toNat = n.log2 + 1022 := by omega
  rw [e2]
  have e3 : Toward.even.cut false ((n * 2 ^ s) <<< (-(s : Int) - ((n.log2 : Int) - 52)).toNat) ((n.log2 : Int) - 52 - -(s : Int)).toNat = n * 2 ^ (52 - n.log2) := by
    rw [Nat.shiftLeft_eq]
    by_cases hs : s ≤ 52 - n.log2
    · have a1 : (-(s : Int) - ((n.log2 : Int) - 52)).toNat = 52 - n.log2 - s := by omega
      have a2 : ((n.log2 : Int) - 52 - -(s : Int)).toNat = 0 := by omega
      rw [a1, a2]
      have a3 : n * 2 ^ s * 2 ^ (52 - n.log2 - s) = n * 2 ^ (52 - n.log2) * 2 ^ 0 := by
        rw [Nat.mul_assoc, ← Nat.pow_add, Nat.pow_zero, Nat.mul_one]; congr 2; omega
      rw [a3]
      exact cut_exact (.inr rfl)
    · have a1 : (-(s : Int) - ((n.log2 : Int) - 52)).toNat = 0 := by omega
      have a2 : ((n.log2 : Int) - 52 - -(s : Int)).toNat = s - (52 - n.log2) := by omega
      rw [a1, a2]
      have a3 : n * 2 ^ s * 2 ^ 0 = n * 2 ^ (52 - n.log2) * 2 ^ (s - (52 - n.log2)) := by
        rw [Nat.pow_zero, Nat.mul_one, Nat.mul_assoc, ← Nat.pow_add]; congr 2; omega
      rw [a3]
      exact cut_exact (.inl (by omega))
  rw [e3]
  have e4 : min ((n.log2 + 1022) * 2 ^ 52 + n * 2 ^ (52 - n.log2)) (2047 * 2 ^ 52) = (n.log2 + 1022) * 2 ^ 52 + n * 2 ^ (52 - n.log2) := by
    apply Nat.min_eq_left
    omega
  rw [e4]
  unfold wd
  rw [if_neg h0]
  rfl

theorem f64_of {n : Nat} (h : n < 2 ^ 53) : FloatKind.f64.nearest (n : Int) = wd n := by
  unfold FloatKind.nearest FloatKind.encode
  have e : decide ((n : Int) < 0) = false := by simp
  rw [e]
  show F.nearest false (n : Int).natAbs 0 = wd n
  have e2 : (n : Int).natAbs = n := by omega
  rw [e2]
  by_cases h0 : n = 0
  · subst h0; rfl
  · have := nearest_scaled (s := 0) h0 h
    simpa using this

theorem read_wd {n : Nat} (h0 : n ≠ 0) (h : n < 2 ^ 53) : F.read (wd n) = .number false (n * 2 ^ (52 - n.log2)) ((n.log2 : Int) - 52) := by
  have hl := log_lt h0 h
  obtain ⟨hm0, hm1⟩ := man_lt h0 h
  unfold Format.read wd
  rw [if_neg h0]
  simp only [F_sign, F_bin, F_inf, F_least]
  generalize n * 2 ^ (52 - n.log2) = m at *
  have hw : (n.log2 + 1022) * 2 ^ 52 + m < 2 ^ 63 := by omega
  have e1 : ((n.log2 + 1022) * 2 ^ 52 + m) / 2 ^ 63 = 0 := Nat.div_eq_of_lt hw
  have e2 : ((n.log2 + 1022) * 2 ^ 52 + m) % 2 ^ 63 = (n.log2 + 1022) * 2 ^ 52 + m := Nat.mod_eq_of_lt hw
  rw [e1, e2]
  have e3 : ¬ ((n.log2 + 1022) * 2 ^ 52 + m < 2 ^ 52) := by omega
  have e4 : (n.log2 + 1022) * 2 ^ 52 + m < 2047 * 2 ^ 52 := by omega
  rw [if_neg e3, if_pos e4]
  have e5 : ((n.log2 + 1022) * 2 ^ 52 + m) / 2 ^ 52 = n.log2 + 1023 := by omega
  have e6 : ((n.log2 + 1022) * 2 ^ 52 + m) % 2 ^ 52 = m - 2 ^ 52 := by omega
  rw [e5, e6]
  have e7 : 2 ^ 52 + (m - 2 ^ 52) = m := by omega
  have e8 : (-1074 : Int) + ((n.log2 + 1023 - 1 : Nat) : Int) = (n.log2 : Int) - 52 := by omega
  rw [e7, e8]
  rfl
theorem read_zero : F.read (wd 0) = .number false 0 (-1074) := by decide

/-- the datum of a whole number: m * 2^i = n -/
theorem read_any {n : Nat} (h : n < 2 ^ 53) : ∃ s m : Nat, F.read (wd n) = .number false m (-(s : Int)) ∧ m = n * 2 ^ s := by
  by_cases h0 : n = 0
  · subst h0; exact ⟨1074, 0, by rw [read_zero]; rfl, by rw [Nat.zero_mul]⟩
  · have hl := log_lt h0 h
    refine ⟨52 - n.log2, _, ?_, rfl⟩
    rw [read_wd h0 h]
    congr 1
    omega

theorem add_wd {a b : Nat} (h : a + b < 2 ^ 53) : F.add (wd a) (wd b) = some (wd (a + b)) := by
  obtain ⟨s, m, e1, rfl⟩ := read_any (n := a) (by omega)
  obtain ⟨t, k, e2, rfl⟩ := read_any (n := b) (by omega)
  unfold Format.add
  rw [e1, e2]
  simp only [Datum.sum, Option.map_some, signed, Bool.false_eq_true, if_false, Nat.shiftLeft_eq]
  have hmin : min (-(s : Int)) (-(t : Int)) = -((max s t : Nat) : Int) := by omega
  rw [hmin]
  have a1 : (-(s : Int) - -((max s t : Nat) : Int)).toNat = max s t - s := by omega
  have a2 : (-(t : Int) - -((max s t : Nat) : Int)).toNat = max s t - t := by omega
  rw [a1, a2]
  have b1 : a * 2 ^ s * 2 ^ (max s t - s) = a * 2 ^ (max s t) := by
    rw [Nat.mul_assoc, ← Nat.pow_add]; congr 2; omega
  have b2 : b * 2 ^ t * 2 ^ (max s t - t) = b * 2 ^ (max s t) := by
    rw [Nat.mul_assoc, ← Nat.pow_add]; congr 2; omega
  rw [b1, b2]
  have b3 : ((a * 2 ^ (max s t) : Nat) : Int) + ((b * 2 ^ (max s t) : Nat) : Int) = (((a + b) * 2 ^ (max s t) : Nat) : Int) := by
    rw [Nat.add_mul, Int.natCast_add]
  rw [b3]
  have b4 : ((((a + b) * 2 ^ (max s t) : Nat) : Int)).natAbs = (a + b) * 2 ^ (max s t) := Int.natAbs_natCast _
  have b5 : ¬ ((((a + b) * 2 ^ (max s t) : Nat) : Int) < 0) := Int.not_lt.2 (Int.natCast_nonneg _)
  rw [b4]
  simp only [b5, decide_false, Bool.and_self, ite_self]
  rw [show ∀ (x : Nat) (y : Int), F.write (.number false x y) = F.nearest false x y from fun _ _ => rfl]
  by_cases h0 : a + b = 0
  · have hz : ∀ y, F.nearest false 0 y = 0 := fun y => by unfold Format.nearest; rw [if_pos rfl]; rfl
    rw [h0, Nat.zero_mul, hz]; rfl
  · rw [nearest_scaled h0 h]

theorem order_wd {a b : Nat} (ha : a < 2 ^ 53) (hb : b < 2 ^ 53) : F.order (wd a) (wd b) = some (compare (a : Int) b) := by
  obtain ⟨s, m, e1, rfl⟩ := read_any ha
  obtain ⟨t, k, e2, rfl⟩ := read_any hb
  unfold Format.order
  rw [e1, e2]
  simp only [Datum.order, signed, Bool.false_eq_true, if_false, Nat.shiftLeft_eq]
  have hmin : min (-(s : Int)) (-(t : Int)) = -((max s t : Nat) : Int) := by omega
  rw [hmin]
  have a1 : (-(s : Int) - -((max s t : Nat) : Int)).toNat = max s t - s := by omega
  have a2 : (-(t : Int) - -((max s t : Nat) : Int)).toNat = max s t - t := by omega
  rw [a1, a2]
  have b1 : a * 2 ^ s * 2 ^ (max s t - s) = a * 2 ^ (max s t) := by
    rw [Nat.mul_assoc, ← Nat.pow_add]; congr 2; omega
  have b2 : b * 2 ^ t * 2 ^ (max s t - t) = b * 2 ^ (max s t) := by
    rw [Nat.mul_assoc, ← Nat.pow_add]; congr 2; omega
  rw [b1, b2]
  have hp : 0 < 2 ^ (max s t) := Nat.two_pow_pos _
  generalize 2 ^ (max s t) = p at *
  congr 1
  simp only [compare, compareOfLessAndEq]
  have c1 : (((a * p : Nat) : Int) < ((b * p : Nat) : Int)) ↔ ((a : Int) < b) := by
    constructor
    · intro h; have : a * p < b * p := by omega
      have := Nat.lt_of_mul_lt_mul_right this; omega
    · intro h; have := Nat.mul_lt_mul_of_pos_right (show a < b by omega) hp; omega
  have c2 : (((a * p : Nat) : Int) = ((b * p : Nat) : Int)) ↔ ((a : Int) = b) := by
    constructor
    · intro h; have : a * p = b * p := by omega
      have := Nat.eq_of_mul_eq_mul_right hp this; omega
    · intro h; have : a = b := by omega
      rw [this]
  simp only [c1, c2]

theorem toInt_wd {a : Nat} (ha : a < 2 ^ 53) : (F.read (wd a)).toInt .zero = some (a : Int) := by
  obtain ⟨s, m, e1, rfl⟩ := read_any ha
  rw [e1]
  unfold Datum.toInt Datum.integral
  have a1 : (-(s : Int)).toNat = 0 := by omega
  have a2 : (-(-(s : Int))).toNat = s := by omega
  simp only [a1, a2, Nat.shiftLeft_eq, Nat.pow_zero, Nat.mul_one]
  have hcut : Toward.zero.cut false (a * 2 ^ s) s = a := by
    unfold Toward.cut
    by_cases h0 : a = 0
    · subst h0; simp
    · have hmin : min s ((a * 2 ^ s).log2 + 2) = s := by rw [log2_mul_pow h0]; omega
      simp only [hmin, Nat.one_shiftLeft, Nat.mul_div_cancel _ (Nat.two_pow_pos s)]
      simp
  rw [hcut]
  simp [signed]
end Go.FL
