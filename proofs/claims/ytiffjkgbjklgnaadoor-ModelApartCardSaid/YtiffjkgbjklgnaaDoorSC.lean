/-
  Handles and tables: what handle's and caps' functions do.
-/
import Derived.Test.YtiffjkgbjklgnaaDoorSB
namespace Go.Proofs.YtiffjkgbjklgnaaDoor
open Go Go.Eng Go.Lib

/-! ### handle -/
def checkK (t s r n : Int) : Bool := decide (0 ≤ t) && decide (t ≤ 7) && (decide (0 ≤ s) && decide (s ≤ 4159)) && (decide (1 ≤ r) && decide (r ≤ 7) && (decide (1 ≤ n) && decide (n ≤ 17592186044415)))
def shlN (a b : Nat) : Nat := a * 2 ^ b
def packN (t s r n : Int) : Nat := t.toNat ||| shlN r.toNat 4 ||| shlN s.toNat 7 ||| shlN n.toNat 20
def packS (t s r n : Int) : Nat × Int := if checkK t s r n then (packN t s r n, 0) else (0, 12)
def keyV (t s r n : Int) : Value := .agg #[.int .i64 t, .int .i64 s, .int .i64 r, .int .i64 n]

section
variable {T : Bs} {w : World} {Q : Value → World → Prop} {R : HP}

theorem handle_within_spec {n a b : Int} (hk : Q (.bool (decide (a ≤ n) && decide (n ≤ b))) w) : Cal P N_handle_within #[.int .i64 n, .int .i64 a, .int .i64 b] w Q := by
  apply handle_within_k0
  unfold handle_within_b0
  by_cases h : a ≤ n <;> simp [h] at hk ⊢ <;> exact hk

theorem handle_Check_spec {t s r n : Int} (h : Sat T w R) (hk : ∀ w', Sat T w' R → Q (.int .i64 (if checkK t s r n then 0 else 12)) w') : Cal P N_handle_Check #[keyV t s r n] w Q := by
  apply handle_Check_k0
  unfold handle_Check_b0
  have h1 := h.push (.cells #[.int .i64 t, .int .i64 s, .int .i64 r, .int .i64 n] T_api_Key (0, 0))
  simp only [T_api_Key] at h1
  have hg := h1.get
  have hk := hk _ h1.drop
  unfold keyV
  simp only [bx_eq, Value.cells]
  generalize pu w _ = w1 at *
  simp [hg, ld_eq]
  apply handle_within_spec
  unfold checkK at hk
  by_cases ht : (decide (0 ≤ t) && decide (t ≤ 7)) = true
  · simp only [ht, Bool.true_and] at hk ⊢
    simp [hg, ld_eq]
    apply handle_within_spec
    by_cases hs : (decide (0 ≤ s) && decide (s ≤ 4159)) = true
    · simp only [hs, Bool.true_and] at hk ⊢
      simp [hg, ld_eq]
      apply handle_within_spec
      by_cases hr : (decide (1 ≤ r) && decide (r ≤ 7)) = true
      · simp only [hr, Bool.true_and] at hk ⊢
        simp [hg, ld_eq]
        apply handle_within_spec
        by_cases hn : (decide (1 ≤ n) && decide (n ≤ 17592186044415)) = true
        · simp only [hn] at hk ⊢
          simpa using hk
        · simp only [hn] at hk ⊢
          simpa using hk
      · rw [Bool.not_eq_true] at hr
        simp only [hr, Bool.false_and] at hk ⊢
        simpa using hk
    · rw [Bool.not_eq_true] at hs
      simp only [hs, Bool.false_and] at hk ⊢
      simpa using hk
  · rw [Bool.not_eq_true] at ht
    simp only [ht, Bool.false_and] at hk ⊢
    simpa using hk

theorem cv_int_u64 {K : Value → World → Prop} (n : Int) : cv P T_int T_uint64 (.int .i64 n) w K = K (.int .u64 (IntKind.u64.wrap n)) w := cv_int (k0 := .i64) (by kernel_rfl) (by kernel_rfl)
theorem cv_u64_int {K : Value → World → Prop} (n : Int) : cv P T_uint64 T_int (.int .u64 n) w K = K (.int .i64 (IntKind.i64.wrap n)) w := cv_int (k0 := .u64) (by kernel_rfl) (by kernel_rfl)
theorem bin_shlc {K : Value → World → Prop} {t : TypeId} {a : Nat} {b : Int} (h0 : 0 ≤ b) (hb : b < 64) (h : shlN a b.toNat < 18446744073709551616) : bin P .shl t (.int .u64 a) (.int .u64 b) w K = K (.int .u64 ((shlN a b.toNat : Nat) : Int)) w := by
  have e : min b.toNat IntKind.u64.bits = b.toNat := by show min b.toNat 64 = _; omega
  have e2 : (a : Int) * 2 ^ b.toNat = ((shlN a b.toNat : Nat) : Int) := by simp [shlN]
  rw [bin_shl, e, e2, wrap_u64 (Int.natCast_nonneg _) (by omega)]
  simp only [h0, true_and]

theorem handle_Pack_spec {t s r n : Int} (h : Sat T w R) (hk : ∀ w', Sat T w' R → Q (.tuple #[.int .u64 (packS t s r n).1, .int .i64 (packS t s r n).2]) w') : Cal P N_handle_Pack #[keyV t s r n] w Q := by
  apply handle_Pack_k0
  unfold handle_Pack_b0
  have h1 := h.push (.cells #[.int .i64 t, .int .i64 s, .int .i64 r, .int .i64 n] T_api_Key (0, 0))
  simp only [T_api_Key] at h1
  have hg := h1.get
  unfold keyV
  simp only [bx_eq, Value.cells]
  generalize pu w _ = w1 at *
  simp only [ld_eq, hg]
  rw [show ldO P T_api_Key (some (.cells #[.int .i64 t, .int .i64 s, .int .i64 r, .int .i64 n] T_api_Key (0, 0))) 0 = some (keyV t s r n) from by kernel_rfl, onv_some]
  apply handle_Check_spec (t := t) (s := s) (r := r) (n := n) h1
  intro w2 h2
  have hg2 := h2.get
  have hk := hk _ h2.drop
  unfold packS at hk
  by_cases hch : checkK t s r n = true
  · simp only [hch, if_true] at hk ⊢
    have hch' : ((((0 ≤ t ∧ t ≤ 7) ∧ 0 ≤ s ∧ s ≤ 4159)) ∧ (1 ≤ r ∧ r ≤ 7) ∧ 1 ≤ n ∧ n ≤ 17592186044415) := by simpa [checkK] using hch
    obtain ⟨⟨⟨ht0, ht1⟩, hs0, hs1⟩, ⟨hr0, hr1⟩, hn0, hn1⟩ := hch'
    clear hch h h1 h2
    obtain ⟨t, rfl⟩ := Int.eq_ofNat_of_zero_le ht0
    obtain ⟨s, rfl⟩ := Int.eq_ofNat_of_zero_le hs0
    obtain ⟨r, rfl⟩ := Int.eq_ofNat_of_zero_le (show 0 ≤ r by omega)
    obtain ⟨n, rfl⟩ := Int.eq_ofNat_of_zero_le (show 0 ≤ n by omega)
    have b1 : shlN r 4 < 18446744073709551616 := by unfold shlN; omega
    have b2 : shlN s 7 < 18446744073709551616 := by unfold shlN; omega
    have b3 : shlN n 20 < 18446744073709551616 := by unfold shlN; omega
    have b0 : t < 18446744073709551616 := by omega
    have b4 : t ||| shlN r 4 < 18446744073709551616 := Nat.or_lt_two_pow (n := 64) b0 b1
    have b5 : t ||| shlN r 4 ||| shlN s 7 < 18446744073709551616 := Nat.or_lt_two_pow (n := 64) b4 b2
    have f1 : ∀ {K w}, bin P .shl T_uint64 (.int .u64 r) (.int .u64 4) w K = K (.int .u64 (shlN r 4 : Nat)) w := bin_shlc (by omega) (by omega) b1
    have f2 : ∀ {K w}, bin P .shl T_uint64 (.int .u64 s) (.int .u64 7) w K = K (.int .u64 (shlN s 7 : Nat)) w := bin_shlc (by omega) (by omega) b2
    have f3 : ∀ {K w}, bin P .shl T_uint64 (.int .u64 n) (.int .u64 20) w K = K (.int .u64 (shlN n 20 : Nat)) w := bin_shlc (by omega) (by omega) b3
    simp (disch := omega) [hg2, ld_eq, cv_int_u64, wrap_u64, f1, f2, f3, bin_or_u64 b0 b1, bin_or_u64 b4 b2, bin_or_u64 b5 b3]
    simpa [packN] using hk
  · simp only [hch] at hk ⊢
    simpa using hk

/-- a handle taken apart -/
def unpT (h : Nat) : Int := ((h % 16 : Nat) : Int)
def unpR (h : Nat) : Int := ((h / 16 % 8 : Nat) : Int)
def unpS (h : Nat) : Int := ((h / 128 % 8192 : Nat) : Int)
def unpN (h : Nat) : Int := ((h / 1048576 : Nat) : Int)
def unpOk (h : Nat) : Bool := checkK (unpT h) (unpS h) (unpR h) (unpN h)

theorem bin_andm {K : Value → World → Prop} {t : TypeId} {a : Nat} (j : Nat) (hj : j < 64) (ha : a < 18446744073709551616) : bin P .and t (.int .u64 a) (.int .u64 ((2 ^ j - 1 : Nat) : Int)) w K = K (.int .u64 ((a % 2 ^ j : Nat) : Int)) w := by
  have : 2 ^ j < 2 ^ 64 := Nat.pow_lt_pow_right (by omega) hj
  rw [bin_and_u64 ha (by omega), Nat.and_two_pow_sub_one_eq_mod]
theorem bin_shrc {K : Value → World → Prop} {t : TypeId} {a : Nat} (j : Nat) (hj : j < 64) : bin P .shr t (.int .u64 a) (.int .u64 (j : Int)) w K = K (.int .u64 ((a / 2 ^ j : Nat) : Int)) w := by
  have e : min (j : Int).toNat IntKind.u64.bits = j := by show min (j : Int).toNat 64 = _; omega
  have e2 : (2 : Int) ^ j = ((2 ^ j : Nat) : Int) := by simp
  rw [bin_shr, e, e2, fdiv_nat]
  have : (0 : Int) ≤ j := by omega
  simp only [this, true_and]
set_option maxRecDepth 20000 in
theorem handle_Unpack_spec {h : Nat} (hh : h < 18446744073709551616) (hs : Sat T w R)
    (hk : ∀ w', Sat T w' R → Q (.tuple #[if unpOk h then keyV (unpT h) (unpS h) (unpR h) (unpN h) else keyV 0 0 0 0, .int .i64 (if unpOk h then 0 else 5)]) w') : Cal P N_handle_Unpack #[.int .u64 h] w Q := by
  apply handle_Unpack_k0
  unfold handle_Unpack_b0
  have f1 : ∀ {K w}, bin P .and T_uint64 (.int .u64 h) (.int .u64 15) w K = K (.int .u64 (h % 16 : Nat)) w := bin_andm 4 (by omega) hh
  have f2 : ∀ {K w}, bin P .shr T_uint64 (.int .u64 h) (.int .u64 4) w K = K (.int .u64 (h / 16 : Nat)) w := bin_shrc 4 (by omega)
  have f3 : ∀ {K w}, bin P .and T_uint64 (.int .u64 (h / 16 : Nat)) (.int .u64 7) w K = K (.int .u64 (h / 16 % 8 : Nat)) w := bin_andm 3 (by omega) (by omega)
  have f4 : ∀ {K w}, bin P .shr T_uint64 (.int .u64 h) (.int .u64 7) w K = K (.int .u64 (h / 128 : Nat)) w := bin_shrc 7 (by omega)
  have f5 : ∀ {K w}, bin P .and T_uint64 (.int .u64 (h / 128 : Nat)) (.int .u64 8191) w K = K (.int .u64 (h / 128 % 8192 : Nat)) w := bin_andm 13 (by omega) (by omega)
  have f6 : ∀ {K w}, bin P .shr T_uint64 (.int .u64 h) (.int .u64 20) w K = K (.int .u64 (h / 1048576 : Nat)) w := bin_shrc 20 (by omega)
  have f7 : ∀ {K w} (x : Int), -9223372036854775808 ≤ x → x ≤ 9223372036854775807 → cv P T_uint64 T_int (.int .u64 x) w K = K (.int .i64 x) w := fun x h0 h1 => by rw [cv_u64_int, wrap_id h0 h1]
  have h1 := hs.push (.cells #[.int .i64 0, .int .i64 0, .int .i64 0, .int .i64 0] T_api_Key (0, 0))
  have a1 : ∀ {K w}, al P T_api_Key w K = K (ptr w.heap.size) (pu w (.cells #[.int .i64 0, .int .i64 0, .int .i64 0, .int .i64 0] T_api_Key (0, 0))) := fun {_ _} => by kernel_rfl
  have b1 : ∀ {K w} (a b c d : Int), bd P T_api_Key [(0, .int .i64 a), (2, .int .i64 b), (1, .int .i64 c), (3, .int .i64 d)] w K = K (keyV a c b d) w := fun a b c d => by kernel_rfl
  rw [a1]
  simp only [T_api_Key] at h1 ⊢
  have hg := h1.get
  generalize hx : w.heap.size = x at *
  generalize pu w _ = w1 at *
  simp only [T_uint64, T_int, T_api_Key] at f1 f2 f3 f4 f5 f6 f7 b1 a1
  simp only [f1, f2, f3, f4, f5, f6]
  rw [f7 _ (by omega) (by omega), f7 _ (by omega) (by omega), f7 _ (by omega) (by omega), f7 _ (by omega) (by omega), b1, a1]
  rw [show ((h % 16 : Nat) : Int) = unpT h from rfl, show ((h / 16 % 8 : Nat) : Int) = unpR h from rfl, show ((h / 128 % 8192 : Nat) : Int) = unpS h from rfl, show ((h / 1048576 : Nat) : Int) = unpN h from rfl]
  clear f1 f2 f3 f4 f5 f6 f7
  unfold unpOk at hk
  generalize unpT h = kt at *
  generalize unpR h = kr at *
  generalize unpS h = ks at *
  generalize unpN h = kn at *
  have h2 := h1.push (.cells #[.int .i64 0, .int .i64 0, .int .i64 0, .int .i64 0] T_api_Key (0, 0))
  simp only [T_api_Key] at h2
  have hg2 := h2.get
  generalize w1.heap.size = y at *
  generalize pu w1 _ = w2 at *
  have hz : szO P T_api_Key = some 4 := by kernel_rfl
  have hl : ∀ o i, ldO P T_api_Key o i = (cellsO o i 4).map .agg := fun o i => by kernel_rfl
  simp only [T_api_Key] at hz hl
  refine st_whole hg2 hz (by rfl) (by rfl) (by rfl) ?_
  have h3 := h2.set (.cells #[.int .i64 kt, .int .i64 ks, .int .i64 kr, .int .i64 kn] T_api_Key (0, 0))
  have hg3 := h3.get
  generalize sb w2 y _ = w3 at *
  rw [ld_eq, hg3, ld_whole hl, onv_some]
  apply handle_Check_spec (t := kt) (s := ks) (r := kr) (n := kn) h3
  intro w4 h4
  have hg4 := h4.get
  have h5 : Sat T w4 (own x (.cells #[.int .i64 0, .int .i64 0, .int .i64 0, .int .i64 0] T_api_Key (0, 0)) • own y (.cells #[.int .i64 kt, .int .i64 ks, .int .i64 kr, .int .i64 kn] T_api_Key (0, 0)) • R) := h4.to (by ac_rfl)
  have hg5 := h5.get
  by_cases hu : checkK kt ks kr kn = true
  · simp only [hu, if_true] at hk ⊢
    simp only [neqx_int, decide_true, Bool.not_true, cn_false]
    rw [ld_eq, hg4, ld_whole hl, onv_some]
    refine st_whole hg5 hz (by rfl) (by rfl) (by rfl) ?_
    have h6 := h5.set (.cells #[.int .i64 kt, .int .i64 ks, .int .i64 kr, .int .i64 kn] T_api_Key (0, 0))
    refine rl_eq (by rw [h6.get, ld_whole hl]) ?_
    exact hk _ h6.drop.drop
  · simp only [hu] at hk ⊢
    have b2 : ∀ {K w}, bd P T_api_Key [] w K = K (keyV 0 0 0 0) w := fun {_ _} => by kernel_rfl
    simp only [T_api_Key] at b2
    simp only [Bool.false_eq_true, if_false, neqx_int, show decide ((12 : Int) = 0) = false from rfl, Bool.not_false, cn_true, b2]
    refine st_whole hg5 hz (by rfl) (by rfl) (by rfl) ?_
    have h6 := h5.set (.cells #[.int .i64 0, .int .i64 0, .int .i64 0, .int .i64 0] T_api_Key (0, 0))
    refine rl_eq (by rw [h6.get, ld_whole hl]) ?_
    exact hk _ h6.drop.drop
end
end Go.Proofs.YtiffjkgbjklgnaaDoor
