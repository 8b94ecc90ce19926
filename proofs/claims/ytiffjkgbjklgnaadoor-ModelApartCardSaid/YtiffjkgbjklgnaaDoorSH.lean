/-
  Tables (caps): Revoke.
-/
import Derived.Test.YtiffjkgbjklgnaaDoorSG
namespace Go.Proofs.YtiffjkgbjklgnaaDoor
open Go Go.Eng Go.Lib
set_option maxRecDepth 20000
section
variable {T : Bs} {w : World} {Q : Value → World → Prop} {g : Nat} {c : Cp} {R : HP}

def Cp.revStep (c : Cp) (addr : Int) (k : Nat) : Cp := match aget c.slots k with
  | some s => if s.a = addr then (if (k : Int) < 4096 then { c with slots := adel c.slots k, objs := (c.objs.give k).2 } else { c with slots := adel c.slots k, extra := (c.extra.give (k - 4096)).2 }) else c
  | none => c
def Cp.revs (addr : Int) : Nat → Nat → Cp → Cp
  | 0, _, c => c
  | d + 1, k, c => Cp.revs addr d (k + 1) (c.revStep addr k)
def Cp.revoke (c : Cp) (addr : Int) : Cp := Cp.revs addr 4160 0 c
theorem Cp.revStep_ok (hc : c.ok) (addr : Int) (k : Nat) : (c.revStep addr k).ok := by
  unfold Cp.revStep
  split
  · split
    · split
      · exact { hc with o := Sh.give_ok hc.o _, ow := (Sh.give_ws hc.ow _).1, os := by show (c.objs.give k).2.size = _; rw [(Sh.give_ws hc.ow _).2]; exact hc.os }
      · exact { hc with x := Sh.give_ok hc.x _, xw := (Sh.give_ws hc.xw _).1, xs := by show (c.extra.give _).2.size = _; rw [(Sh.give_ws hc.xw _).2]; exact hc.xs }
    · exact hc
  · exact hc
theorem Cp.revs_ok (addr : Int) : ∀ (d k : Nat) (c : Cp), c.ok → (Cp.revs addr d k c).ok
  | 0, _, _, h => h
  | d + 1, k, c, h => Cp.revs_ok addr d (k + 1) _ (Cp.revStep_ok h addr k)

theorem del_go {K : Value → World → Prop} {t t2 ty e : TypeId} {r : Nat} {n : Int} {o : Obj} {m : List (Int × Value)} (hk : keyO P t = some (.i64, e)) (ho : w.heap[r]? = some o) (hm : mapI .i64 (some o) = some m) : del P #[t, t2] ty [.map (some r), .int .i64 n] w K = K (.tuple #[]) (sb w r (delM .i64 o n)) := by
  unfold del; simp [hk, ho, hm]

theorem caps_Revoke_p1_spec {addr : Int} : ∀ (d k : Nat) (c : Cp) (n : Int) (w : World), k + d = 4160 → c.ok → Sat T w (CpH g c • R) → (∀ n' w', Sat T w' (CpH g (Cp.revs addr d k c) • R) → Q (.int .i64 n') w') →
    caps_Caps_Revoke_p1 (ptr g) (.int .i64 addr) (.int .i64 n) (.int .i64 (k : Int)) w Q := by
  intro d
  induction d with
  | zero =>
    intro k c n w hd hc h hk
    apply caps_Caps_Revoke_k1
    unfold caps_Caps_Revoke_b1
    obtain rfl : k = 4160 := by omega
    simp
    exact hk _ _ h
  | succ d ih =>
    intro k c n w hd hc h hk
    apply caps_Caps_Revoke_k1
    unfold caps_Caps_Revoke_b1
    have ⟨m, o, x, hq⟩ := CpH.open h
    have hg := hq.get
    have hm1 := (hq.to (star_left ..))
    have hlk := fun K => lk_slots (K := K) (n := (k : Int)) hm1
    have e0 : ¬ (4160 ≤ (k : Int)) := by omega
    have hsl : ∀ K, al P T_caps_slot w K = K (ptr w.heap.size) (pu w (.cells #[.int .i64 0, .int .i64 0, .int .i64 0] T_caps_slot (0, 0))) := fun K => al_slot
    have hp := h.push (.cells #[.int .i64 0, .int .i64 0, .int .i64 0] T_caps_slot (0, 0))
    simp only [T_caps_slot, T_map_int_caps_slot] at *
    simp [e0, hg, ld_eq, cpC, hlk, hsl]
    clear hlk hm1 hsl hq hg h
    generalize w.heap.size = z at *
    generalize pu w _ = w2 at *
    generalize hS : aget c.slots (k : Int) = f at *
    refine st_slot (s := ⟨0, 0, 0⟩) (s' := slO f) hp.get ?_
    have h3 := hp.set (.cells #[.int .i64 (slO f).r, .int .i64 (slO f).n, .int .i64 (slO f).a] T_caps_slot (0, 0))
    generalize sb w2 z _ = w3 at *
    have hz := h3.get
    have next : ∀ c' n' w', c' = c.revStep addr k → Sat T w' (CpH g c' • R) → caps_Caps_Revoke_p2 (ptr g) (.int .i64 addr) (.int .i64 n') (.int .i64 (k : Int)) w' Q := by
      intro c' n' w' hc' h'
      apply caps_Caps_Revoke_k2
      unfold caps_Caps_Revoke_b2
      rw [bin_add, wrap_id (by omega) (by omega)]
      subst hc'
      exact ih (k + 1) _ n' w' (by omega) (Cp.revStep_ok hc addr k) h' hk
    unfold Cp.revStep at next
    rw [hS] at next
    cases f with
    | none =>
      simp
      exact next _ _ _ rfl h3.drop
    | some s =>
      simp only [slO] at *
      by_cases ha : s.a = addr
      · simp only [if_pos ha] at next
        have h4 : Sat T w3 (CpH g c • R) := h3.drop
        have ⟨m, o, x, hq⟩ := CpH.open h4
        have hg := hq.get
        obtain ⟨ob, ho, hmi, h5⟩ := MapH.del (hq.to (star_left ..)) (k : Int)
        rw [delI_amap] at h5
        have hdel : ∀ K, del P #[T_map_int_caps_slot, T_int] T_ [.map (some m), .int .i64 (k : Int)] w3 K = K (.tuple #[]) (sb w3 m (delM .i64 ob (k : Int))) := fun K => del_go (e := T_caps_slot) (by kernel_rfl) ho hmi
        simp only [T_map_int_caps_slot, T_int, T_, T_caps_slot] at hdel hz
        simp [hz, ld_eq, ha, hg, cpC, hdel]
        generalize sb w3 m _ = w4 at *
        have h6 : Sat T w4 (own g (cpC c m o x) • MapH m (amap slV (adel c.slots k)) • ShH o c.objs • ShH x c.extra • R) := h5.to (by ac_rfl)
        have hg6 := h6.get
        by_cases hb : (k : Int) < 4096
        · simp only [if_pos hb] at next
          simp [hb, hg6, cpC]
          refine shelf_Give_spec hc.o (h6.to (show _ = ShH o c.objs • own g (cpC c m o x) • MapH m (amap slV (adel c.slots k)) • ShH x c.extra • R by ac_rfl)) fun w5 h7 => ?_
          exact next _ _ _ rfl (CpH.close (m := m) (o := o) (x := x) (h7.to (by
            show _ = own g (cpC c m o x) • MapH m (amap slV (adel c.slots k)) • ShH o (c.objs.give k).2 • ShH x c.extra • R
            ac_rfl)))
        · simp only [if_neg hb] at next
          simp (disch := omega) [hb, hg6, cpC, wrap_id]
          refine shelf_Give_spec hc.x (h6.to (show _ = ShH x c.extra • own g (cpC c m o x) • MapH m (amap slV (adel c.slots k)) • ShH o c.objs • R by ac_rfl)) fun w5 h7 => ?_
          exact next _ _ _ rfl (CpH.close (m := m) (o := o) (x := x) (h7.to (by
            show _ = own g (cpC c m o x) • MapH m (amap slV (adel c.slots k)) • ShH o c.objs • ShH x (c.extra.give (k - 4096)).2 • R
            ac_rfl)))
      · simp only [if_neg ha] at next
        simp only [T_caps_slot] at hz
        simp [hz, ld_eq, ha]
        exact next _ _ _ rfl h3.drop

theorem caps_Revoke_spec {addr : Int} (hc : c.ok) (h : Sat T w (CpH g c • R)) (hk : ∀ n w', Sat T w' (CpH g (c.revoke addr) • R) → Q (.int .i64 n) w') : Cal P N_caps_Caps_Revoke #[ptr g, .int .i64 addr] w Q := by
  apply caps_Caps_Revoke_k0
  unfold caps_Caps_Revoke_b0
  rw [eqx_ptr_nil (by kernel_rfl)]
  simp
  exact caps_Revoke_p1_spec 4160 0 c 0 w (by omega) hc h hk
end
end Go.Proofs.YtiffjkgbjklgnaaDoor
