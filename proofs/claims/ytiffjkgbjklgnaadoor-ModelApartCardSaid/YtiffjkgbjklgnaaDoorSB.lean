/-
  The shelf: what a shelf is in memory, and what its functions do.
-/
import Derived.Test.YtiffjkgbjklgnaaDoorSA
namespace Go.Proofs.YtiffjkgbjklgnaaDoor
open Go Go.Eng Go.Lib

def wd (ws : List Nat) (i : Nat) : Nat := ws.getD i 0
structure Sh where
  ws : List Nat
  size : Int
  free : Int
deriving DecidableEq
structure Sh.ok (s : Sh) : Prop where
  lt : ∀ i, wd s.ws i < 18446744073709551616
  len : s.ws.length < 65536
  pos : 0 ≤ s.size
  fit : s.size ≤ 64 * s.ws.length
def uw (x : Nat) : Value := .int .u64 x
def shC (b : Nat) (n c : Nat) (s : Sh) : Obj := .cells #[.slice (some ⟨b, 0, none⟩) n c, .int .i64 s.size, .int .i64 s.free] T_shelf_Shelf (0, 0)
def wordsA (ws : List Nat) (rest : List Value) : Array Value := (ws.map uw ++ rest).toArray
def wordsO (ws : List Nat) (rest : List Value) : Obj := .cells (wordsA ws rest) T_uint64 (0, 0)
def ShH (g : Nat) (s : Sh) : HP := exs fun b : Nat => exs fun c : Nat => exs fun rest : List Value => own g (shC b s.ws.length c s) • own b (wordsO s.ws rest)
/-- pointers -/
@[reducible, simp] def ptr (g : Nat) : Value := .pointer (some ⟨g, 0, none⟩)

theorem ShH.open {T : Bs} {w : World} {g : Nat} {s : Sh} {R : HP} (h : Sat T w (ShH g s • R)) : ∃ b c rest, Sat T w (own g (shC b s.ws.length c s) • own b (wordsO s.ws rest) • R) := by
  unfold ShH at h
  obtain ⟨b, h⟩ := h.exs; obtain ⟨c, h⟩ := h.exs; obtain ⟨rest, h⟩ := h.exs
  exact ⟨b, c, rest, h.to (star_assoc ..)⟩
theorem ShH.close {T : Bs} {w : World} {g : Nat} {s : Sh} {R : HP} {b c : Nat} {rest : List Value} (h : Sat T w (own g (shC b s.ws.length c s) • own b (wordsO s.ws rest) • R)) : Sat T w (ShH g s • R) := by
  unfold ShH
  refine Sat.toExs b (Sat.toExs c (Sat.toExs rest (h.to (star_assoc ..).symm)))

theorem words_at {ws : List Nat} {rest : List Value} {i : Nat} (h : i < ws.length) : cellA (wordsA ws rest) i = some (uw (wd ws i)) := by
  simp [cellA, wordsA, List.getElem?_append, h, wd, List.getD_eq_getElem?_getD]
theorem words_set {ws : List Nat} {rest : List Value} {i : Nat} (h : i < ws.length) (x : Nat) : (wordsA ws rest).setIfInBounds i (uw x) = wordsA (ws.set i x) rest := by
  simp [wordsA, List.set_append, h]

def lowS : List Nat → Int → Int
  | [], _ => -1
  | x :: r, i => if x = 0 then lowS r (i + 1) else 64 * i + ctz 64 x
def Sh.low (s : Sh) : Int := lowS s.ws 0
def Sh.turn (s : Sh) (k by_ : Int) : Sh := { s with ws := s.ws.set (k / 64).toNat (wd s.ws (k / 64).toNat ^^^ bit (k % 64)), free := IntKind.i64.wrap (s.free + by_) }
def Sh.within (s : Sh) (k : Int) : Int := if k < 0 ∨ s.size ≤ k then 12 else 0
def Sh.taken (s : Sh) (k : Int) : Bool := decide (s.within k = 0) && (wd s.ws (k / 64).toNat).testBit (k % 64).toNat == false
def Sh.take (s : Sh) : (Int × Int) × Sh := if s.low < 0 then ((0, 13), s) else ((s.low, 0), s.turn s.low (-1))
def Sh.give (s : Sh) (k : Int) : Int × Sh := if s.within k = 0 then (if s.taken k then (0, s.turn k 1) else (13, s)) else (s.within k, s)

theorem drop_cons {ws : List Nat} {i : Nat} (h : i < ws.length) : ws.drop i = wd ws i :: ws.drop (i + 1) := by
  rw [List.drop_eq_getElem_cons h]; simp [wd, List.getD_eq_getElem?_getD, h]
theorem lowS_ge : ∀ (ws : List Nat) (i : Int), 0 ≤ i → -1 ≤ lowS ws i ∧ (0 ≤ lowS ws i → 64 * i ≤ lowS ws i)
  | [], i, h => by simp [lowS]
  | x :: r, i, h => by
    have := lowS_ge r (i + 1) (by omega)
    unfold lowS
    split <;> omega

section
variable {T : Bs} {w : World} {Q : Value → World → Prop} {g : Nat} {s : Sh} {R : HP}

theorem Lowest_p1 (hs : s.ok) (h : Sat T w (ShH g s • R)) : ∀ (n i : Nat), n = s.ws.length - i → i ≤ s.ws.length → Q (.int .i64 (lowS (s.ws.drop i) i)) w → shelf_Shelf_Lowest_p1 (ptr g) (.int .i64 (i : Int)) w Q := by
  have ⟨b, c, rest, h1⟩ := ShH.open h
  have hg := h1.get
  have hb := (h1.to (star_left ..)).get
  have ht := h1.tab
  clear h h1
  have h2 := hs.lt
  have h3 := hs.len
  intro n
  induction n with
  | zero =>
    intro i hn hi hk
    obtain rfl : i = s.ws.length := by omega
    apply shelf_Shelf_Lowest_k1
    unfold shelf_Shelf_Lowest_b1
    simp [hg, ld_eq, shC]
    simpa [lowS] using hk
  | succ n ih =>
    intro i hn hi hk
    have hi' : i < s.ws.length := by omega
    rw [drop_cons hi'] at hk
    apply shelf_Shelf_Lowest_k1
    unfold shelf_Shelf_Lowest_b1
    have e0 : ¬ ((s.ws.length : Int) ≤ i) := by omega
    have hw := words_at (rest := rest) hi'
    have hx := h2 i
    simp [hg, hb, ld_eq, shC, wordsO, e0, hi', hw, uw]
    generalize wd s.ws i = x at *
    by_cases hz : x = 0
    · subst hz
      simp (disch := omega) [wrap_id]
      refine ih (i + 1) (by omega) (by omega) ?_
      simpa [lowS] using hk
    · have hz' : ¬ ((x : Int) = 0) := by omega
      simp (disch := omega) [wrap_id, hz, hg, hb, ld_eq, shC, wordsO, hi', hw, uw]
      apply bits_TrailingZeros64_spec hz hx ht
      obtain ⟨-, hc⟩ := lowest_bit 64 x hz hx
      simp (disch := omega) [wrap_id]
      simpa [lowS, hz] using hk

theorem shelf_Lowest_spec (hs : s.ok) (h : Sat T w (ShH g s • R)) (hk : Q (.int .i64 s.low) w) : Cal P N_shelf_Shelf_Lowest #[ptr g] w Q := by
  apply shelf_Shelf_Lowest_k0
  unfold shelf_Shelf_Lowest_b0
  rw [eqx_ptr_nil (by kernel_rfl)]
  simp
  exact Lowest_p1 hs h _ 0 rfl (by omega) (by simpa [Sh.low] using hk)

theorem shelf_within_spec {k : Int} (h : Sat T w (ShH g s • R)) (hk : Q (.int .i64 (s.within k)) w) : Cal P N_shelf_Shelf_within #[ptr g, .int .i64 k] w Q := by
  apply shelf_Shelf_within_k0
  unfold shelf_Shelf_within_b0
  have ⟨b, c, rest, h1⟩ := ShH.open h
  have hg := h1.get
  rw [eqx_ptr_nil (by kernel_rfl)]
  unfold Sh.within at hk
  by_cases h0 : k < 0
  · simp [h0] at hk ⊢; exact hk
  · by_cases h2 : s.size ≤ k
    · simp [h0, h2, hg, ld_eq, shC] at hk ⊢; exact hk
    · simp [h0, h2, hg, ld_eq, shC] at hk ⊢; exact hk

theorem kdiv {k : Int} (h0 : 0 ≤ k) : k.tdiv 64 = k / 64 := Int.tdiv_eq_ediv_of_nonneg h0
theorem kmod {k : Int} (h0 : 0 ≤ k) : k.tmod 64 = k % 64 := Int.tmod_eq_emod_of_nonneg h0
theorem shelf_turn_spec {k by_ : Int} (hs : s.ok) (h0 : 0 ≤ k) (h1 : k < 64 * s.ws.length) (h : Sat T w (ShH g s • R)) (hk : ∀ w', Sat T w' (ShH g (s.turn k by_) • R) → Q (.tuple #[]) w') : Cal P N_shelf_Shelf_turn #[ptr g, .int .i64 k, .int .i64 by_] w Q := by
  apply shelf_Shelf_turn_k0
  unfold shelf_Shelf_turn_b0
  have ⟨b, c, rest, hq⟩ := ShH.open h
  have hg := hq.get
  have hb := (hq.to (star_left ..)).get
  have h2 := hs.lt
  have h3 := hs.len
  have h4 := hs.pos
  have h5 := hs.fit
  have hi : (k / 64).toNat < s.ws.length := by omega
  have hi' : k / 64 < (s.ws.length : Int) := by omega
  have hi0 : 0 ≤ k / 64 := by omega
  have hw := words_at (rest := rest) hi
  have hx := h2 (k / 64).toNat
  have hm0 : 0 ≤ k % 64 := by omega
  have hm1 : k % 64 < 64 := by omega
  have hp := pow_lt64 hm1
  have hz : szO P T_uint64 = some 1 := by kernel_rfl
  have hz3 : szO P T_int = some 1 := by kernel_rfl
  have hwr : ∀ v : Nat, (wordsA s.ws rest).setIfInBounds (k / 64).toNat (.int .u64 v) = wordsA (s.ws.set (k / 64).toNat v) rest := fun v => words_set hi v
  have hlen : (k / 64).toNat < (wordsA s.ws rest).size := by simp [wordsA]; omega
  simp (disch := omega) [hg, hb, ld_eq, shC, wordsO, kdiv h0, kmod h0, wrap_id, hi', hi0, hw, uw, st_eq, bin_shl1, bin_xor_u64 hx hp, stO_int, hwr]
  have s1 := ((hq.to (star_left ..)).dw.set (wordsO (s.ws.set (k / 64).toNat (wd s.ws (k / 64).toNat ^^^ bit (k % 64))) rest)).to (star_left ..)
  unfold wordsO at s1
  simp only [T_uint64] at s1
  generalize sb (Eng.dw w) b _ = w1 at s1 ⊢
  have hg1 := s1.get
  have s2 := s1.set (shC b s.ws.length c (s.turn k by_))
  simp [hg1, shC]
  refine hk _ (ShH.close (b := b) (c := c) (rest := rest) ?_)
  simpa [shC, Sh.turn, wordsO] using s2

theorem wd_set {ws : List Nat} {i j x : Nat} : wd (ws.set i x) j = if i = j ∧ i < ws.length then x else wd ws j := by
  unfold wd
  rw [List.getD_eq_getElem?_getD, List.getD_eq_getElem?_getD, List.getElem?_set]
  by_cases h : i = j
  · subst h
    by_cases h2 : i < ws.length
    · simp [h2]
    · have : ws[i]? = none := by simp; omega
      simp [h2]
  · simp [h]
theorem Sh.turn_ok (hs : s.ok) (k by_ : Int) (h : k % 64 < 64) : (s.turn k by_).ok where
  lt i := by
    show wd (s.ws.set _ _) i < _
    rw [wd_set]
    split
    · exact Nat.xor_lt_two_pow (n := 64) (hs.lt _) (pow_lt64 h)
    · exact hs.lt i
  len := by show (s.ws.set _ _).length < _; rw [List.length_set]; exact hs.len
  pos := hs.pos
  fit := by show s.size ≤ 64 * ((s.ws.set _ _).length : Int); rw [List.length_set]; exact hs.fit
theorem lowS_lt : ∀ (ws : List Nat) (i : Int), 0 ≤ i → (∀ j, wd ws j < 18446744073709551616) → lowS ws i < 64 * (i + ws.length)
  | [], i, h, _ => by simp [lowS]; omega
  | x :: r, i, h, hw => by
    have := lowS_lt r (i + 1) (by omega) (fun j => by have := hw (j + 1); simpa [wd] using this)
    unfold lowS
    split
    · simp; omega
    · rename_i hx
      have h0 := hw 0
      have : x < 18446744073709551616 := by simpa [wd] using h0
      obtain ⟨-, hc⟩ := lowest_bit 64 x hx this
      simp; omega
theorem Sh.low_lt (hs : s.ok) : s.low < 64 * s.ws.length := by
  have := lowS_lt s.ws 0 (by omega) hs.lt
  unfold Sh.low; omega
theorem Sh.low_ge : -1 ≤ s.low := (lowS_ge s.ws 0 (by omega)).1
theorem Sh.take_ok (hs : s.ok) : s.take.2.ok := by
  unfold Sh.take
  split
  · exact hs
  · exact Sh.turn_ok hs _ _ (by omega)
theorem Sh.give_ok (hs : s.ok) (k : Int) : (s.give k).2.ok := by
  unfold Sh.give
  split
  · split
    · exact Sh.turn_ok hs _ _ (by omega)
    · exact hs
  · exact hs

theorem shelf_Taken_spec {k : Int} (hs : s.ok) (h : Sat T w (ShH g s • R)) (hk : Q (.bool (s.taken k)) w) : Cal P N_shelf_Shelf_Taken #[ptr g, .int .i64 k] w Q := by
  apply shelf_Shelf_Taken_k0
  unfold shelf_Shelf_Taken_b0
  apply shelf_within_spec h
  have ⟨b, c, rest, hq⟩ := ShH.open h
  have hg := hq.get
  have hb := (hq.to (star_left ..)).get
  have h4 := hs.pos
  have h5 := hs.fit
  have h6 := hs.len
  unfold Sh.taken at hk
  by_cases hw : s.within k = 0
  · have h01 : 0 ≤ k ∧ k < s.size := by unfold Sh.within at hw; split at hw <;> simp at hw; omega
    obtain ⟨h0, h1⟩ := h01
    have hi : (k / 64).toNat < s.ws.length := by omega
    have hi' : k / 64 < (s.ws.length : Int) := by omega
    have hi0 : 0 ≤ k / 64 := by omega
    have hwd := words_at (rest := rest) hi
    have hx := hs.lt (k / 64).toNat
    have hm0 : 0 ≤ k % 64 := by omega
    have hm1 : k % 64 < 64 := by omega
    have hsh : wd s.ws (k / 64).toNat / bit (k % 64) < 18446744073709551616 := Nat.lt_of_le_of_lt (Nat.div_le_self ..) hx
    have hbit : (wd s.ws (k / 64).toNat).testBit (k % 64).toNat = decide (wd s.ws (k / 64).toNat / bit (k % 64) % 2 = 1) := by
      rw [Nat.testBit_eq_decide_div_mod_eq]; rfl
    simp (disch := omega) [hw, hg, hb, ld_eq, shC, wordsO, kdiv h0, kmod h0, wrap_id, hi', hi0, hwd, uw, bin_shr_u64, bin_and1 hsh]
    simp [hw, hbit] at hk
    have e : (decide ((wd s.ws (k / 64).toNat / bit (k % 64)) % 2 = 0) : Bool) = !decide ((wd s.ws (k / 64).toNat / bit (k % 64)) % 2 = 1) := by
      have := Nat.mod_two_eq_zero_or_one (wd s.ws (k / 64).toNat / bit (k % 64))
      rcases this with e | e <;> simp [e]
    rw [← Int.natCast_ediv, bin_and1 hsh, eqx_int]
    rw [← e] at hk
    have e3 : (decide (((wd s.ws (k / 64).toNat / bit (k % 64) % 2 : Nat) : Int) = 0) : Bool) = decide (wd s.ws (k / 64).toNat / bit (k % 64) % 2 = 0) := by
      congr 1; apply propext; omega
    rw [e3]
    exact hk
  · simp [hw] at hk ⊢; exact hk

theorem shelf_Take_spec (hs : s.ok) (h : Sat T w (ShH g s • R)) (hk : ∀ w', Sat T w' (ShH g s.take.2 • R) → Q (.tuple #[.int .i64 s.take.1.1, .int .i64 s.take.1.2]) w') : Cal P N_shelf_Shelf_Take #[ptr g] w Q := by
  apply shelf_Shelf_Take_k0
  unfold shelf_Shelf_Take_b0
  rw [eqx_ptr_nil (by kernel_rfl)]
  simp
  apply shelf_Lowest_spec hs h
  unfold Sh.take at hk
  by_cases h0 : s.low < 0
  · simp [h0] at hk ⊢
    exact hk w h
  · simp [h0] at hk ⊢
    exact shelf_turn_spec hs (by omega) (Sh.low_lt hs) h hk

theorem shelf_Give_spec {k : Int} (hs : s.ok) (h : Sat T w (ShH g s • R)) (hk : ∀ w', Sat T w' (ShH g (s.give k).2 • R) → Q (.int .i64 (s.give k).1) w') : Cal P N_shelf_Shelf_Give #[ptr g, .int .i64 k] w Q := by
  apply shelf_Shelf_Give_k0
  unfold shelf_Shelf_Give_b0
  apply shelf_within_spec h
  unfold Sh.give at hk
  have h5 := hs.fit
  by_cases hw : s.within k = 0
  · have h01 : 0 ≤ k ∧ k < s.size := by unfold Sh.within at hw; split at hw <;> simp at hw; omega
    simp [hw]
    apply shelf_Taken_spec hs h
    by_cases ht : s.taken k = true
    · simp [hw, ht] at hk ⊢
      apply shelf_Shelf_Give_k1
      unfold shelf_Shelf_Give_b1
      simp
      exact shelf_turn_spec hs h01.1 (by omega) h hk
    · simp [hw, ht] at hk ⊢
      apply shelf_Shelf_Give_k1
      unfold shelf_Shelf_Give_b1
      simp
      exact hk w h
  · simp [hw] at hk ⊢
    apply shelf_Shelf_Give_k1
    unfold shelf_Shelf_Give_b1
    simp [hw]
    exact hk w h

/-! making and copying -/
def newWord (i k : Nat) : Nat := if k ≤ 64 * i then 0 else if 64 * (i + 1) ≤ k then 18446744073709551615 else 2 ^ (k - 64 * i) - 1
def newWords (m k : Nat) : List Nat := (List.range m).map fun i => newWord i k
def Sh.new (n : Nat) : Sh := ⟨newWords ((n + 63) / 64) n, n, n⟩
theorem newWords_len (m k : Nat) : (newWords m k).length = m := by simp [newWords]
theorem wd_new {m k i : Nat} : wd (newWords m k) i = if i < m then newWord i k else 0 := by
  unfold wd newWords
  by_cases h : i < m <;> simp [h, List.getD_eq_getElem?_getD]
theorem newWord_lt (i k : Nat) : newWord i k < 18446744073709551616 := by
  unfold newWord
  split
  · omega
  · split
    · omega
    · have : 2 ^ (k - 64 * i) < 2 ^ 64 := Nat.pow_lt_pow_right (by omega) (by omega)
      omega
theorem newWord_or {i k : Nat} (h : i = k / 64) : newWord i k ||| 2 ^ (k % 64) = newWord i (k + 1) := by
  subst h
  have hd : 64 * (k / 64) + k % 64 = k := Nat.div_add_mod k 64
  have hm : k % 64 < 64 := Nat.mod_lt _ (by omega)
  have e1 : newWord (k / 64) k = 2 ^ (k % 64) - 1 := by
    unfold newWord
    split
    · have : k % 64 = 0 := by omega
      simp [this]
    · rw [if_neg (by omega)]
      have : k - 64 * (k / 64) = k % 64 := by omega
      rw [this]
  have e2 : newWord (k / 64) (k + 1) = 2 ^ (k % 64 + 1) - 1 := by
    unfold newWord
    rw [if_neg (by omega)]
    split
    · have : k % 64 = 63 := by omega
      rw [this]
    · have : k + 1 - 64 * (k / 64) = k % 64 + 1 := by omega
      rw [this]
  rw [e1, e2]
  apply Nat.eq_of_testBit_eq
  intro j
  rw [Nat.testBit_or, Nat.testBit_two_pow_sub_one, Nat.testBit_two_pow, Nat.testBit_two_pow_sub_one]
  by_cases h1 : j < k % 64
  · simp [h1]; omega
  · by_cases h2 : k % 64 = j
    · simp [h2]
    · simp [h1, h2]; omega
theorem newWords_set {m k : Nat} (h : k / 64 < m) : (newWords m k).set (k / 64) (newWord (k / 64) k ||| 2 ^ (k % 64)) = newWords m (k + 1) := by
  apply List.ext_getElem?
  intro j
  rw [List.getElem?_set]
  by_cases hj : k / 64 = j
  · subst hj
    simp [newWords, h, newWord_or]
  · simp only [if_neg hj]
    by_cases hm : j < m
    · simp [newWords, hm]
      unfold newWord
      repeat' split
      all_goals first | rfl | omega
    · simp [newWords, hm]
theorem Sh.new_ok {n : Nat} (h : n ≤ 65536) : (Sh.new n).ok where
  lt i := by show wd (newWords _ _) i < _; rw [wd_new]; split; exact newWord_lt ..; omega
  len := by show (newWords _ _).length < _; rw [newWords_len]; omega
  pos := by show (0 : Int) ≤ n; omega
  fit := by show (n : Int) ≤ 64 * ((newWords _ _).length : Int); rw [newWords_len]; omega

theorem New_p1 {n : Nat} (hn : n ≤ 65536) (hk : ∀ w', Sat T w' (ShH g (Sh.new n) • R) → Q (.tuple #[ptr g, .int .i64 0]) w') :
    ∀ (d k : Nat), d = n - k → k ≤ n → ∀ w, Sat T w (ShH g ⟨newWords ((n + 63) / 64) k, n, n⟩ • R) → shelf_New_p1 (ptr g) (.int .i64 n) (.int .i64 (k : Int)) w Q := by
  intro d
  induction d with
  | zero =>
    intro k hd hkn w h
    obtain rfl : k = n := by omega
    apply shelf_New_k1
    unfold shelf_New_b1
    simp
    exact hk w h
  | succ d ih =>
    intro k hd hkn w h
    have hlt : k < n := by omega
    apply shelf_New_k1
    unfold shelf_New_b1
    have ⟨b, c, rest, hq⟩ := ShH.open h
    have hg := hq.get
    have hb := (hq.to (star_left ..)).get
    have hi : k / 64 < (newWords ((n + 63) / 64) k).length := by rw [newWords_len]; omega
    have hwd := words_at (rest := rest) hi
    rw [wd_new, if_pos (by rw [newWords_len] at hi; exact hi)] at hwd
    have hlen : k / 64 < (wordsA (newWords ((n + 63) / 64) k) rest).size := by simp [wordsA]; omega
    have hwr : ∀ v : Nat, (wordsA (newWords ((n + 63) / 64) k) rest).setIfInBounds (k / 64) (.int .u64 v) = wordsA ((newWords ((n + 63) / 64) k).set (k / 64) v) rest := fun v => words_set hi v
    have e1 : ((k : Int)).tdiv 64 = ((k / 64 : Nat) : Int) := by rw [kdiv (by omega)]; rfl
    have e2 : ((k : Int)).tmod 64 = ((k % 64 : Nat) : Int) := by rw [kmod (by omega)]; rfl
    have hm1 : ((k % 64 : Nat) : Int) < 64 := by omega
    have hp := pow_lt64 hm1
    have hz : szO P T_uint64 = some 1 := by kernel_rfl
    generalize hdd : k / 64 = dd at *
    generalize hmm : k % 64 = mm at *
    have hdd1 : (dd : Int) < ((newWords ((n + 63) / 64) k).length : Int) := by omega
    have hdd0 : (dd : Int) ≤ 65536 := by omega
    simp (disch := omega) [hlt, hg, hb, ld_eq, shC, wordsO, e1, e2, wrap_id, hi, hwd, uw, st_eq, bin_shl1, bin_or_u64 (newWord_lt dd k) hp, stO_int, hwr]
    have s1 := ((hq.to (star_left ..)).dw.set (wordsO ((newWords ((n + 63) / 64) k).set dd (newWord dd k ||| bit mm)) rest)).to (star_left ..)
    have e5 : newWord dd k ||| bit (mm : Int) = newWord dd k ||| 2 ^ mm := by simp [bit]
    have e6 := newWords_set (m := (n + 63) / 64) (k := k) (by rw [newWords_len] at hi; omega)
    rw [hdd, hmm, ← e5] at e6
    rw [e6] at s1 ⊢
    refine ih (k + 1) (by omega) (by omega) _ (ShH.close (b := b) (c := c) (rest := rest) ?_)
    have e7 : (newWords ((n + 63) / 64) (k + 1)).length = (newWords ((n + 63) / 64) k).length := by rw [newWords_len, newWords_len]
    show Sat T _ (own g (shC b (newWords ((n + 63) / 64) (k + 1)).length c ⟨newWords ((n + 63) / 64) (k + 1), n, n⟩) • _)
    rw [e7]
    exact s1

theorem repC_words (m : Nat) : repC #[Value.int .u64 0] m = wordsA (newWords m 0) [] := by
  unfold repC wordsA newWords
  apply Array.ext'
  simp [newWord, uw]
  intro a ha
  rw [Nat.mod_one]; rfl

theorem bd_shelf {K : Value → World → Prop} (a : Option Addr) (m c : Nat) (i f : Int) : bd P T_shelf_Shelf [(0, .slice a m c), (1, .int .i64 i), (2, .int .i64 f)] w K = K (.agg #[.slice a m c, .int .i64 i, .int .i64 f]) w := by kernel_rfl
theorem shelf_New_spec {n : Nat} (h1 : 1 ≤ n) (hn : n ≤ 65536) (h : Sat T w R) (hk : ∀ g w', Sat T w' (ShH g (Sh.new n) • R) → Q (.tuple #[ptr g, .int .i64 0]) w') : Cal P N_shelf_New #[.int .i64 n] w Q := by
  apply shelf_New_k0
  unfold shelf_New_b0
  have e1 : ((n : Int) + 63).tdiv 64 = (((n + 63) / 64 : Nat) : Int) := by rw [kdiv (by omega)]; omega
  have e2 : ¬ ((n : Int) < 0) := by omega
  have e3 : ¬ (65536 < (n : Int)) := by omega
  have hm : ((n + 63) / 64) ≤ 65536 := by omega
  have hs := h.push (wordsO (newWords ((n + 63) / 64) 0) [])
  generalize hmm : (n + 63) / 64 = m at *
  simp (disch := omega) [e1, e2, e3, gd_bool, pk_bool, wrap_id]
  refine ⟨by omega, ?_⟩
  rw [repC_words]
  have := bd_shelf (w := pu w (Obj.cells (wordsA (newWords m 0) []) 32)) (K := fun v8 w8 =>
      shelf_New_p1 (Value.pointer (some { block := w8.heap.size, off := 0 })) (Value.int IntKind.i64 ↑n)
        (Value.int IntKind.i64 0) (pu w8 (Obj.cells v8.cells 101)) Q) (some ⟨w.heap.size, 0, none⟩) m m n n
  simp only [T_shelf_Shelf] at this
  rw [this]
  have hs' : Sat T (pu w (Obj.cells (wordsA (newWords m 0) []) 32)) (own w.heap.size (wordsO (newWords m 0) []) • R) := hs
  generalize pu w (Obj.cells (wordsA (newWords m 0) []) 32) = w1 at hs'
  have s2 := hs'.push (shC w.heap.size m m ⟨newWords m 0, n, n⟩)
  have := New_p1 (T := T) (Q := Q) (g := w1.heap.size) (R := R) hn (hk _) n 0 rfl (by omega) _ (ShH.close (b := w.heap.size) (c := m) (rest := []) (by
    show Sat T _ (own _ (shC _ (newWords _ _).length _ _) • _)
    rw [newWords_len, hmm]; exact s2))
  simpa [shC, hmm] using this

theorem Clone_words {b c : Nat} {ws : List Nat} {rest : List Value} (hl : ws ≠ []) (h3 : ws.length < 65536) (h : Sat T w (own b (wordsO ws rest) • R))
    (hk : ∀ b' c' rest' w', Sat T w' (own b' (wordsO ws rest') • own b (wordsO ws rest) • R) → Q (.slice (some ⟨b', 0, none⟩) ws.length c') w') :
    Cal P N_slices_Clone_uint64_uint64 #[.slice (some ⟨b, 0, none⟩) ws.length c] w Q := by
  apply slices_Clone_uint64_uint64_k0
  unfold slices_Clone_uint64_uint64_b0
  rw [eqx_slice_nil (e := T_uint64) (by kernel_rfl)]
  have hb := h.get
  have e1 : bsO P T_sl_uint64 0 [] = some (T_uint64, #[]) := by kernel_rfl
  simp only [Option.isNone_some, cn_false]
  rw [show (98 : TypeId) = T_sl_uint64 from rfl, bs_eq, e1, onv_some]
  have h1 := h.push (.cells #[] T_uint64 (0, 0))
  have h2 := h1.drop
  have hb2 := h2.get
  generalize pu w (.cells #[] T_uint64 (0, 0)) = w1 at *
  have hpos : 0 < ws.length := by cases ws with | nil => exact absurd rfl hl | cons _ _ => simp
  have hsz : ws.length ≤ (wordsA ws rest).size := by simp [wordsA]
  have hex : (wordsA ws rest).extract 0 ws.length = (ws.map uw).toArray := by
    unfold wordsA
    simp [List.take_append]
  have hb1 := h1.get
  refine app_new (e := T_uint64) (sz := 1) (by_ := 8) (m := ws.length) (z := .int .u64 0) (new := (ws.map uw).toArray) (by kernel_rfl) (by kernel_rfl) (by kernel_rfl) (by kernel_rfl) (by kernel_rfl) rfl ?_ hpos (by omega) (by omega) ?_ ?_
  · show cellsO (w1.heap[b]?) 0 (ws.length * 1) = _
    rw [hb2, wordsO, cellsO_some (by omega)]
    rw [← hex]; simp
  · show cellsO (w1.heap[w.heap.size]?) 0 (0 * 1) = _
    rw [hb1, cellsO_some (by simp)]
    simp
  · intro cap hc
    have h3 := (h2.dw.push (.cells ((ws.map uw).toArray ++ Builtin.zeroCells (Value.cells (.int .u64 0)) (cap - ws.length)) T_uint64 (0, 0)))
    have e5 : ((ws.map uw).toArray ++ Builtin.zeroCells (Value.cells (.int .u64 0)) (cap - ws.length)) = wordsA ws (Builtin.zeroCells (Value.cells (.int .u64 0)) (cap - ws.length)).toList := by
      unfold wordsA; apply Array.ext'; simp
    rw [e5] at h3 ⊢
    exact hk _ _ _ _ h3

/-- what is read of a shelf -/
theorem shelf_Copy_spec (hs : s.ok) (hl : s.ws ≠ []) (h : Sat T w (ShH g s • R)) (hk : ∀ g' w', Sat T w' (ShH g' s • ShH g s • R) → Q (ptr g') w') : Cal P N_shelf_Shelf_Copy #[ptr g] w Q := by
  apply shelf_Shelf_Copy_k0
  unfold shelf_Shelf_Copy_b0
  rw [eqx_ptr_nil (by kernel_rfl)]
  have ⟨b, c, rest, hq⟩ := ShH.open h
  have hg := hq.get
  simp [hg, ld_eq, shC]
  apply Clone_words (rest := rest) hl hs.len ((hq.to (star_left ..)).dw)
  intro b' c' rest' w' h'
  have h2 : Sat T w' (own g (shC b s.ws.length c s) • own b' (wordsO s.ws rest') • own b (wordsO s.ws rest) • R) := h'.to (by ac_rfl)
  have hg2 := h2.get
  simp [hg2, shC, bd_shelf]
  have h3 := h2.push (shC b' s.ws.length c' s)
  refine hk _ _ ?_
  have h4 := ShH.close (g := g) (s := s) (b := b) (c := c) (rest := rest) (R := own w'.heap.size (shC b' s.ws.length c' s) • own b' (wordsO s.ws rest') • R) (h3.to (by ac_rfl))
  exact ShH.close (h4.to (by ac_rfl))
end
end Go.Proofs.YtiffjkgbjklgnaaDoor
