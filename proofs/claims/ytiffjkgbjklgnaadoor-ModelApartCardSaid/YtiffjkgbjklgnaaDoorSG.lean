/-
  Tables (caps): Find, Restrict.
-/
import Derived.Test.YtiffjkgbjklgnaaDoorSF
namespace Go.Proofs.YtiffjkgbjklgnaaDoor
open Go Go.Eng Go.Lib
set_option maxRecDepth 20000
section
variable {T : Bs} {w : World} {Q : Value → World → Prop} {g : Nat} {c : Cp} {R : HP}

def andI (a b : Int) : Int := IntKind.i64.wrap ((BitVec.ofInt IntKind.i64.bits a &&& BitVec.ofInt IntKind.i64.bits b).toNat : Int)
def mayS (r k : Int) : Bool := decide (andI r k = k)
theorem caps_may_spec {r n k : Int} (h : Sat T w R) (hk : ∀ w', Sat T w' R → Q (.bool (mayS r k)) w') : Cal P N_caps_good_may #[.agg #[.int .i64 r, .int .i64 n], .int .i64 k] w Q := by
  apply caps_good_may_k0
  unfold caps_good_may_b0
  have h1 := h.push (.cells #[.int .i64 r, .int .i64 n] T_caps_good (0, 0))
  have hg := h1.get
  have hk := hk _ h1.drop
  simp only [T_caps_good] at *
  simp only [bx_eq, cells_agg]
  generalize w.heap.size = x at *
  generalize pu w _ = w1 at *
  simp [hg, ld_eq, bin_and]
  exact hk

def Cp.findR (c : Cp) (h : Nat) (k : Int) : Int × Int := match c.find h with
  | none => (0, 5)
  | some s => if k < 0 ∨ 7 < k ∨ mayS s.r k = false then (0, 5) else (s.a, 0)
theorem caps_Find_spec {h : Nat} {k : Int} (hh : h < 18446744073709551616) (hs : Sat T w (CpH g c • R)) (hk : ∀ w', Sat T w' (CpH g c • R) → Q (.tuple #[.int .i64 (c.findR h k).1, .int .i64 (c.findR h k).2]) w') :
    Cal P N_caps_Caps_Find #[ptr g, .int .u64 h, .int .i64 k] w Q := by
  apply caps_Caps_Find_k0
  unfold caps_Caps_Find_b0
  refine caps_find_spec hh hs fun w1 h1 => ?_
  generalize hf : c.find h = f at *
  unfold Cp.findR at hk
  rw [hf] at hk
  rw [ex_tuple, show cellA #[slV (slO f), .int .i64 (if f.isSome = true then 0 else 5)] 0 = some (slV (slO f)) from rfl, onv_some, ex_tuple, show cellA #[slV (slO f), .int .i64 (if f.isSome = true then 0 else 5)] 1 = some (.int .i64 (if f.isSome = true then 0 else 5)) from rfl, onv_some]
  rw [show al P _ w1 _ = _ from al_slot]
  have h2 := h1.push (.cells #[.int .i64 0, .int .i64 0, .int .i64 0] T_caps_slot (0, 0))
  generalize w1.heap.size = z at *
  generalize pu w1 _ = w2 at *
  refine st_slot (s := ⟨0, 0, 0⟩) (s' := slO f) h2.get ?_
  have h3 := h2.set (.cells #[.int .i64 (slO f).r, .int .i64 (slO f).n, .int .i64 (slO f).a] T_caps_slot (0, 0))
  generalize sb w2 z _ = w3 at *
  have hg := h3.get
  simp only [T_caps_slot] at *
  cases f with
  | none =>
    simp
    exact hk _ h3.drop
  | some s =>
    simp only [slO] at *
    have hlg : ldO P 84 (some (.cells #[.int .i64 s.r, .int .i64 s.n, .int .i64 s.a] 86 (0, 0))) 0 = some (.agg #[.int .i64 s.r, .int .i64 s.n]) := by kernel_rfl
    by_cases h0 : k < 0
    · simp [h0] at hk ⊢
      exact hk _ h3.drop
    · by_cases h7 : 7 < k
      · simp [h0, h7] at hk ⊢
        exact hk _ h3.drop
      · simp only [h0, h7, false_or] at hk
        simp [h0, h7]
        have hl : ∀ K, ld P 84 (.pointer (some ⟨z, 0, none⟩)) w3 K = K (.agg #[.int .i64 s.r, .int .i64 s.n]) w3 := fun K => by rw [ld_eq, hg, hlg, onv_some]
        rw [hl]
        refine caps_may_spec h3 fun w4 h4 => ?_
        have hg4 := h4.get
        by_cases hm : mayS s.r k = false
        · simp [hm] at hk ⊢
          exact hk _ h4.drop
        · have hm : mayS s.r k = true := by simpa using hm
          simp [hm] at hk ⊢
          simp [hg4, ld_eq]
          exact hk _ h4.drop

def Cp.restrict (c : Cp) (h : Nat) (k : Int) : (Nat × Int) × Cp := match c.find h with
  | none => ((0, 5), c)
  | some s => if k < 1 ∨ 7 < k then ((0, 2), c) else if mayS s.r k = false then ((0, 5), c) else
    ((c.put c.extra 4096 s.a k).1, { (c.put c.extra 4096 s.a k).2.1 with extra := (c.put c.extra 4096 s.a k).2.2 })
theorem caps_Restrict_spec {h : Nat} {k : Int} (hc : c.ok) (hh : h < 18446744073709551616) (hs : Sat T w (CpH g c • R)) (hk : ∀ w', Sat T w' (CpH g (c.restrict h k).2 • R) → Q (.tuple #[.int .u64 (c.restrict h k).1.1, .int .i64 (c.restrict h k).1.2]) w') :
    Cal P N_caps_Caps_Restrict #[ptr g, .int .u64 h, .int .i64 k] w Q := by
  apply caps_Caps_Restrict_k0
  unfold caps_Caps_Restrict_b0
  refine caps_find_spec hh hs fun w1 h1 => ?_
  generalize hf : c.find h = f at *
  unfold Cp.restrict at hk
  rw [hf] at hk
  rw [ex_tuple, show cellA #[slV (slO f), .int .i64 (if f.isSome = true then 0 else 5)] 0 = some (slV (slO f)) from rfl, onv_some, ex_tuple, show cellA #[slV (slO f), .int .i64 (if f.isSome = true then 0 else 5)] 1 = some (.int .i64 (if f.isSome = true then 0 else 5)) from rfl, onv_some]
  rw [show al P _ w1 _ = _ from al_slot]
  have h2 := h1.push (.cells #[.int .i64 0, .int .i64 0, .int .i64 0] T_caps_slot (0, 0))
  generalize w1.heap.size = z at *
  generalize pu w1 _ = w2 at *
  refine st_slot (s := ⟨0, 0, 0⟩) (s' := slO f) h2.get ?_
  have h3 := h2.set (.cells #[.int .i64 (slO f).r, .int .i64 (slO f).n, .int .i64 (slO f).a] T_caps_slot (0, 0))
  generalize sb w2 z _ = w3 at *
  have hg := h3.get
  simp only [T_caps_slot] at *
  cases f with
  | none =>
    simp
    exact hk _ h3.drop
  | some s =>
    simp only [slO] at *
    have hlg : ldO P 84 (some (.cells #[.int .i64 s.r, .int .i64 s.n, .int .i64 s.a] 86 (0, 0))) 0 = some (.agg #[.int .i64 s.r, .int .i64 s.n]) := by kernel_rfl
    by_cases h0 : k < 1
    · simp [h0] at hk ⊢
      exact hk _ h3.drop
    · by_cases h7 : 7 < k
      · simp [h0, h7] at hk ⊢
        exact hk _ h3.drop
      · have hor : ¬ (k < 1 ∨ 7 < k) := by omega
        simp only [if_neg hor] at hk
        simp [h0, h7]
        have hl : ∀ K, ld P 84 (.pointer (some ⟨z, 0, none⟩)) w3 K = K (.agg #[.int .i64 s.r, .int .i64 s.n]) w3 := fun K => by rw [ld_eq, hg, hlg, onv_some]
        rw [hl]
        refine caps_may_spec h3 fun w4 h4 => ?_
        by_cases hm : mayS s.r k = false
        · simp only [if_pos hm] at hk
          simp [hm]
          exact hk _ h4.drop
        · simp only [if_neg hm] at hk
          have hm : mayS s.r k = true := by simpa using hm
          have h5 : Sat T w4 (CpH g c • own z (.cells #[.int .i64 s.r, .int .i64 s.n, .int .i64 s.a] 86 (0, 0)) • R) := h4.to (by ac_rfl)
          have ⟨m, o, x, hq⟩ := CpH.open h5
          have hgc := hq.get
          have hz := h4.get
          simp [hm, hgc, hz, ld_eq, cpC]
          have h6 : Sat T (Eng.dw w4) (own g (cpC c m o x) • MapH m (amap slV c.slots) • ShH x c.extra • (ShH o c.objs • own z (.cells #[.int .i64 s.r, .int .i64 s.n, .int .i64 s.a] 86 (0, 0)) • R)) := hq.dw.to (by ac_rfl)
          refine caps_put_spec hc.x (by omega) ⟨hc.n0, hc.n1⟩ h6 fun w5 h7 => ?_
          simp
          obtain ⟨e1, -⟩ := Cp.put_keep (c := c) (S := c.extra) (base := 4096) (addr := s.a) (rights := k)
          have h8 : Sat T w5 (own z (.cells #[.int .i64 s.r, .int .i64 s.n, .int .i64 s.a] 86 (0, 0)) • own g (cpC (c.put c.extra 4096 s.a k).2.1 m o x) • MapH m (amap slV (c.put c.extra 4096 s.a k).2.1.slots) • ShH o (c.put c.extra 4096 s.a k).2.1.objs • ShH x (c.put c.extra 4096 s.a k).2.2 • R) := h7.to (by rw [e1]; ac_rfl)
          exact hk _ (CpH.close (m := m) (o := o) (x := x) h8.drop)
end
end Go.Proofs.YtiffjkgbjklgnaaDoor
