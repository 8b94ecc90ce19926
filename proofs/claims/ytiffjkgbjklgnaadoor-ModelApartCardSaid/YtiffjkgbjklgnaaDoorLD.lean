/-
  Operations that an argument holds; appending; Long.
-/
import Derived.Test.YtiffjkgbjklgnaaDoorLB
import Derived.Test.YtiffjkgbjklgnaaDoorCB
import Derived.Deep.Slices
namespace Go.Proofs.YtiffjkgbjklgnaaDoor
open Go Go.Eng Go.Lib
set_option maxRecDepth 20000

/-- v is a slice of these operations, in world W -/
structure OpsIn (W : World) (v : Value) (l : List Op_) : Prop where
  hh : ∀ o ∈ l, o.h < 18446744073709551616
  hd : ∀ o ∈ l, o.d.size ≤ maxLen
  form : ∃ a c, v = .slice a l.length c ∧ l.length ≤ c ∧ l.length ≤ maxLen ∧ ∀ i (h : i < l.length), ∃ b off, a = some ⟨b, off, none⟩ ∧ cellsO (W.heap[b]?) (off + i * 6) 6 = some (opA l[i])
section
variable {H : Type} {enc : TypeId × Value → H} {W : World} {base : Nat} {spare : Nat → Bool} {held : Bool}
theorem cells_read {a : Addr} {x : Nat} {cs : List Value} (h : W.cells? base (a.add x) 6 = some cs) (hx : x = 0 → a.spot = none) : cellsO (W.heap[a.block]?) (a.off + x) 6 = some cs.toArray ∧ cs.length = 6 := by
  obtain ⟨-, hl, hc⟩ := World.cells?_some h
  have e : ∀ i, i < 6 → (a.add x).add i = ⟨a.block, a.off + x + i, none⟩ := by
    intro i hi
    unfold Addr.add
    by_cases h0 : x = 0
    · subst h0
      have := hx rfl
      by_cases h1 : i = 0
      · subst h1; simp; obtain ⟨b, o, s⟩ := a; simp at this ⊢; exact this
      · simp [h1]
    · by_cases h1 : i = 0
      · simp [h0, h1]
      · simp [h0, h1]
  have hc : ∀ i, i < 6 → W.cell? ⟨a.block, a.off + x + i, none⟩ = cs[i]? := fun i hi => by rw [← e i hi]; exact hc i hi
  refine ⟨?_, hl⟩
  match cs, hl with
  | [c0, c1, c2, c3, c4, c5], _ =>
    have g0 := hc 0 (by omega); have g1 := hc 1 (by omega); have g2 := hc 2 (by omega); have g3 := hc 3 (by omega); have g4 := hc 4 (by omega); have g5 := hc 5 (by omega)
    unfold World.cell? at g0 g1 g2 g3 g4 g5
    cases hb : W.heap[a.block]? with
    | none => rw [hb] at g0; simp at g0
    | some ob =>
      rw [hb] at g0 g1 g2 g3 g4 g5
      cases ob with
      | cells arr t fz =>
        simp at g0 g1 g2 g3 g4 g5
        have hsz : a.off + x + 6 ≤ arr.size := by
          have := (Array.getElem?_eq_some_iff.1 g5).1; omega
        rw [cellsO_some hsz]
        congr 1
        apply Array.ext (by simp; omega)
        intro i h1 h2
        simp at h2
        have hi : i = 0 ∨ i = 1 ∨ i = 2 ∨ i = 3 ∨ i = 4 ∨ i = 5 := by omega
        simp only [Array.getElem_extract]
        rcases hi with rfl | rfl | rfl | rfl | rfl | rfl
        · exact (Array.getElem?_eq_some_iff.1 g0).2
        · exact (Array.getElem?_eq_some_iff.1 g1).2
        · exact (Array.getElem?_eq_some_iff.1 g2).2
        · exact (Array.getElem?_eq_some_iff.1 g3).2
        · exact (Array.getElem?_eq_some_iff.1 g4).2
        · exact (Array.getElem?_eq_some_iff.1 g5).2
      | _ => simp at g0
theorem ops_of_arg {v : Value} {d : DataW H} {ps : List MemPlace} (hv : ∃ a n c, v = .slice a n c) (h : DataW.Trod enc P W base spare held T_sl_api_Op v d ps) : ∃ l, OpsIn W v l := by
  obtain ⟨a, n, c, rfl⟩ := hv
  obtain ⟨fuel, hf⟩ := h
  rcases Go.Deep.open_slice (e := T_api_Op) (show P.underlying T_sl_api_Op = some (.slice T_api_Op) by kernel_rfl) hf with ⟨h0, -⟩ | ⟨a', len, cap, m, k, D, Pl, h0, hb, hl, hm, hme, -, hel⟩
  · simp [Value.cells] at h0
    obtain ⟨rfl, rfl, rfl⟩ := h0
    exact ⟨[], by simp, by simp, none, 0, rfl, by simp, by simp, fun i h => by simp at h⟩
  · simp [Value.cells] at h0
    obtain ⟨rfl, rfl, rfl⟩ := h0
    have hc6 : P.cellsOf T_api_Op = 6 := by kernel_rfl
    rw [hc6] at hel
    have hmn : n ≤ m := by rw [hme]; split <;> omega
    have hop : ∀ i, i < n → ∃ o : Op_, o.h < 18446744073709551616 ∧ o.d.size ≤ maxLen ∧ a'.spot = none ∧ cellsO (W.heap[a'.block]?) (a'.off + i * 6) 6 = some (opA o) := by
      intro i hi
      obtain ⟨cs0, r0, t0⟩ := hel 0 (by omega)
      have hspot : a'.spot = none := by
        obtain ⟨-, hl0, hc0⟩ := World.cells?_some r0
        have := hc0 0 (by omega)
        have e : (a'.add (0 * 6)).add 0 = a' := by simp [Addr.add]
        rw [e] at this
        cases cs0 with
        | nil => simp at hl0
        | cons x r =>
          unfold World.cell? at this
          cases hs : a'.spot with
          | none => rfl
          | some y => rw [hs] at this; split at this <;> simp at this
      obtain ⟨cs, r, t⟩ := hel i (by omega)
      obtain ⟨h1, h2⟩ := cells_read r (fun _ => hspot)
      obtain ⟨o, ho, hh, -, hd⟩ := op_of_cells t
      exact ⟨o, hh, hd, hspot, by rw [h1, ho]⟩
    have hlist : ∀ k, k ≤ n → ∃ l : List Op_, l.length = k ∧ (∀ o ∈ l, o.h < 18446744073709551616) ∧ (∀ o ∈ l, o.d.size ≤ maxLen) ∧ ∀ i (h : i < l.length), cellsO (W.heap[a'.block]?) (a'.off + i * 6) 6 = some (opA l[i]) := by
      intro k
      induction k with
      | zero => exact fun _ => ⟨[], rfl, by simp, by simp, fun i h => by simp at h⟩
      | succ k ih =>
        intro hk
        obtain ⟨l, h1, h2, h2', h3⟩ := ih (by omega)
        obtain ⟨o, ho, hd, -, hr⟩ := hop k (by omega)
        refine ⟨l ++ [o], by simp [h1], fun x hx => ?_, fun x hx => ?_, fun i hi => ?_⟩
        · rcases List.mem_append.1 hx with hx | hx
          · exact h2 x hx
          · simp at hx; rw [hx]; exact ho
        · rcases List.mem_append.1 hx with hx | hx
          · exact h2' x hx
          · simp at hx; rw [hx]; exact hd
        · by_cases hik : i < l.length
          · rw [List.getElem_append_left hik]; exact h3 i hik
          · have : i = k := by simp [h1] at hi; omega
            subst this
            rw [hr]; congr 2
            simp [← h1]
    obtain ⟨l, h1, h2, h2', h3⟩ := hlist n (Nat.le_refl _)
    refine ⟨l, h2, h2', some a', c, by rw [h1], by omega, by omega, fun i hi => ?_⟩
    obtain ⟨o, -, -, hs, -⟩ := hop i (by omega)
    exact ⟨a'.block, a'.off, by obtain ⟨b, of, s⟩ := a'; simp at hs; simp [hs], h3 i hi⟩
end
section
variable {T : Bs} {w : World} {Q : Value → World → Prop} {K : Value → World → Prop} {R : HP} {W : World} {v : Value} {l : List Op_}
theorem old_any (hb : T.base = W) (ht : W.heap[0]? = T.tab) (h : Sat T w (orig W • R)) {b : Nat} {o : Obj} (e : W.heap[b]? = some o) : w.heap[b]? = some o := by
  have := (below_of hb ht h).block b (lt_of_get e)
  rw [this, e]
theorem OpsIn.len_le (hv : OpsIn W v l) : l.length ≤ 9223372036854775807 := by
  obtain ⟨a, c, -, -, h, -⟩ := hv.form
  exact Nat.le_trans h (by decide)
theorem OpsIn.size_le (hv : OpsIn W v l) {o : Op_} (h : o ∈ l) : o.d.size ≤ 9223372036854775807 := Nat.le_trans (hv.hd o h) (by decide)
theorem op_at (hb : T.base = W) (ht : W.heap[0]? = T.tab) (h : Sat T w (orig W • R)) (hv : OpsIn W v l) {i : Nat} (hi : i < l.length) (hk : K (opV l[i]) w) :
    ia P 24 v (.int .i64 (i : Int)) w fun v2 w2 => ld P 34 v2 w2 K := by
  obtain ⟨a, c, rfl, -, -, hf⟩ := hv.form
  obtain ⟨b, off, rfl, hc⟩ := hf i hi
  have e1 : sliceO P 24 = some 34 := by kernel_rfl
  have e2 : szO P 34 = some 6 := by kernel_rfl
  rw [ia_slice, e1, onv_some, e2, onv_some]
  refine ⟨by omega, ?_⟩
  have hcell : ∃ o, W.heap[b]? = some o := by
    cases hx : W.heap[b]? with
    | none => rw [hx] at hc; cases hc
    | some o => exact ⟨o, rfl⟩
  obtain ⟨o, ho⟩ := hcell
  have hw := old_any hb ht h ho
  rw [ho] at hc
  rw [ld_eq, hw]
  have : ∀ x i, ldO P 34 x i = (cellsO x i 6).map .agg := fun x i => by kernel_rfl
  rw [this]
  have hii : (i : Int).toNat = i := by omega
  rw [hii, hc]
  exact hk
theorem len_ops {ty : TypeId} (hv : OpsIn W v l) : len P #[24] ty [v] w K = K (.int .i64 l.length) w := by
  obtain ⟨a, c, rfl, -⟩ := hv.form
  exact len_slice (e := 34) (by kernel_rfl)

/-! Long -/
def longN : List Op_ → Int → Int → Bool
  | [], _, _ => false
  | o :: r, most, n => if 8 * most < n + (4 + min ((o.d.size : Int) / 16) 1048576) then true else longN r most (n + (4 + min ((o.d.size : Int) / 16) 1048576))
def longS (pages : Int) (l : List Op_) (most : Int) : Bool := longN l most 0 || decide (most < l.length) || decide (512 < pages)
theorem al_op : al P T_api_Op w K = K (ptr w.heap.size) (pu w (opC ⟨0, 0, 0, 0, 0, ⟨#[]⟩⟩)) := by kernel_rfl
theorem st_op {z : Nat} {o o' : Op_} (h : Sat T w (own z (opC o) • R)) (hk : ∀ w', Sat T w' (own z (opC o') • R) → K undef w') : st P T_api_Op (ptr z) (opV o') w K :=
  st_whole (n := 6) (vs := opA o') h.get (by kernel_rfl) rfl rfl rfl (hk _ (h.set (opC o')))
/-- a local operation -/
theorem op_var {F : Value → World → Prop} {o : Op_} (h : Sat T w R) (hk : ∀ z w', Sat T w' (own z (opC o) • R) → F (ptr z) w') : al P 34 w fun v w1 => st P 34 v (opV o) w1 fun _ w2 => F v w2 := by
  rw [show ∀ K, al P 34 w K = K (ptr w.heap.size) (pu w (opC ⟨0, 0, 0, 0, 0, ⟨#[]⟩⟩)) from fun K => al_op]
  exact st_op (h.push (opC ⟨0, 0, 0, 0, 0, ⟨#[]⟩⟩)) fun w' h' => hk _ w' h'
theorem ld_op {z : Nat} {o : Op_} (h : w.heap[z]? = some (opC o)) : ld P 34 (ptr z) w K = K (opV o) w := by
  rw [ld_eq, h, show ldO P 34 (some (opC o)) 0 = some (opV o) from ldO_op, onv_some]
theorem Long_p1 {cf : Nat} {p c most : Int} (hmost : 0 ≤ most ∧ most ≤ 1000) (hb : T.base = W) (ht : W.heap[0]? = T.tab) (hv : OpsIn W v l) (hk : ∀ w', Sat T w' (orig W • own cf (.cells #[.int .i64 p, .int .i64 c] T_api_Config (0, 0)) • R) → Q (.bool (longS p l most)) w') :
    ∀ (d i : Nat) (n : Int) (w : World), i + d = l.length → 0 ≤ n ∧ n ≤ 8 * most → longN (l.drop i) most n = longN l most 0 → Sat T w (orig W • own cf (.cells #[.int .i64 p, .int .i64 c] T_api_Config (0, 0)) • R) →
      garthlaw21_Long_p1 v (.int .i64 most) (ptr cf) (.int .i64 n) v (.int .i64 l.length) (.int .i64 (i : Int)) w Q := by
  intro d
  induction d with
  | zero =>
    intro i n w hi hn hln h
    apply garthlaw21_Long_k1
    unfold garthlaw21_Long_b1
    obtain rfl : i = l.length := by omega
    rw [List.drop_length] at hln
    have hln : longN l most 0 = false := hln.symm
    have hg := (h.to (star_left ..)).get
    simp only [T_api_Config] at hg
    have hk := hk _ h
    unfold longS at hk
    rw [hln] at hk
    simp only [bin_lss, Int.lt_irrefl, decide_false, cn_false]
    rw [len_ops hv]
    by_cases h1 : most < (l.length : Int)
    · simp [h1] at hk ⊢; exact hk
    · simp [h1, hg, ld_eq] at hk ⊢; exact hk
  | succ d ih =>
    intro i n w hi hn hln h
    apply garthlaw21_Long_k1
    unfold garthlaw21_Long_b1
    have hlt : i < l.length := by omega
    have hlt' : (i : Int) < l.length := by omega
    simp only [bin_lss, hlt', decide_true, cn_true]
    refine op_at hb ht h hv hlt ?_
    refine op_var h fun z w1 h1 => ?_
    have hz := h1.get
    unfold opC opA at hz
    simp only [T_api_Op] at hz
    have hsz : (0 : Int) ≤ l[i].d.size := by omega
    have e1 : (l[i].d.size : Int).tdiv 16 = (l[i].d.size : Int) / 16 := Int.tdiv_eq_ediv_of_nonneg hsz
    have d0 : 0 ≤ (l[i].d.size : Int) / 16 := Int.ediv_nonneg hsz (by omega)
    have hdrop : l.drop i = l[i] :: l.drop (i + 1) := List.drop_eq_getElem_cons hlt
    have hbig := hv.size_le (List.getElem_mem hlt)
    have hlen := hv.len_le
    have e2 : IntKind.i64.wrap ((l[i].d.size : Int) / 16) = (l[i].d.size : Int) / 16 := wrap_id (by omega) (by omega)
    rw [hdrop, show longN (l[i] :: l.drop (i + 1)) most n = if 8 * most < n + (4 + min ((l[i].d.size : Int) / 16) 1048576) then true else longN (l.drop (i + 1)) most (n + (4 + min ((l[i].d.size : Int) / 16) 1048576)) from rfl] at hln
    generalize hm : min ((l[i].d.size : Int) / 16) 1048576 = mm at *
    have hmm : 0 ≤ mm ∧ mm ≤ 1048576 := by omega
    have w1' : IntKind.i64.wrap (4 + mm) = 4 + mm := wrap_id (by omega) (by omega)
    have w2' : IntKind.i64.wrap (n + (4 + mm)) = n + (4 + mm) := wrap_id (by omega) (by omega)
    have w3' : IntKind.i64.wrap (8 * most) = 8 * most := wrap_id (by omega) (by omega)
    have w4' : IntKind.i64.wrap ((i : Int) + 1) = ((i + 1 : Nat) : Int) := by rw [wrap_id (by omega) (by omega)]; rfl
    simp only [fa_34_5, Nat.zero_add]
    rw [show ∀ K, ld P 9 (.pointer (some ⟨z, 5, none⟩)) w1 K = K (.string l[i].d) w1 from fun K => by simp [ld_eq, hz]]
    simp only [len_str, bin_quo, e1, e2, mnb_int, hm, bin_add, w1', w2', bin_mul, w3', bin_gtr]
    refine ⟨by decide, ?_⟩
    by_cases hc : 8 * most < n + (4 + mm)
    · rw [if_pos hc] at hln
      simp only [hc, decide_true, cn_true]
      have hk := hk _ h1.drop
      unfold longS at hk
      rw [← hln] at hk
      simpa using hk
    · rw [if_neg hc] at hln
      simp only [hc, decide_false, cn_false, w4']
      exact ih (i + 1) _ w1 (by omega) (by omega) hln h1.drop
end
end Go.Proofs.YtiffjkgbjklgnaaDoor
