/-
  Tables (caps): Copy.
-/
import Derived.Test.YtiffjkgbjklgnaaDoorSJ
import Derived.Test.YtiffjkgbjklgnaaDoorSK
namespace Go.Proofs.YtiffjkgbjklgnaaDoor
open Go Go.Eng Go.Lib
set_option maxRecDepth 20000
section
variable {T : Bs} {w : World} {Q : Value → World → Prop} {g : Nat} {c : Cp} {R : HP}

theorem Clone_slots {m : Nat} {l : List (Int × Value)} (h : Sat T w (MapH m l • R)) (hk : ∀ m' w', Sat T w' (MapH m' l • MapH m l • R) → Q (.map (some m')) w') :
    Cal P N_maps_Clone_map_int_caps_slot_int_caps_slot #[.map (some m)] w Q := by
  apply maps_Clone_map_int_caps_slot_int_caps_slot_k0
  unfold maps_Clone_map_int_caps_slot_int_caps_slot_b0
  obtain ⟨es, cl, p, h1⟩ := MapH.open h
  have hu : P.underlying T_map_int_caps_slot = some (.map T_int T_caps_slot) := by kernel_rfl
  simp only [T_map_int_caps_slot] at hu
  rw [eqx_map_nil hu]
  simp only [Option.isNone_some, cn_false]
  rw [mif_map hu]
  refine cc_clone (P := P) (f := 40) (fn := _) Tryd.func40 (by kernel_rfl) (by kernel_rfl) (by kernel_rfl) (by kernel_rfl) h1 fun m' w' h2 => ?_
  rw [ta_map hu]
  exact hk _ _ (MapH.close p ((MapH.close (r := m) p (h2.to (star_left ..))).to (star_left ..)))

theorem caps_Copy_spec (hc : c.ok) (h : Sat T w (CpH g c • R)) (hk : ∀ g' w', Sat T w' (CpH g' c • CpH g c • R) → Q (ptr g') w') : Cal P N_caps_Caps_Copy #[ptr g] w Q := by
  apply caps_Caps_Copy_k0
  unfold caps_Caps_Copy_b0
  have ⟨m, o, x, hq⟩ := CpH.open h
  have hg := hq.get
  rw [eqx_ptr_nil (by kernel_rfl)]
  simp [hg, ld_eq, cpC]
  refine Clone_slots ((hq.to (star_left ..)).dw) fun m' w1 h1 => ?_
  have hg1 := (h1.to (show _ = own g (cpC c m o x) • MapH m' (amap slV c.slots) • MapH m (amap slV c.slots) • ShH o c.objs • ShH x c.extra • R by ac_rfl)).get
  simp [hg1, cpC]
  refine shelf_Copy_spec hc.o hc.ow (h1.to (show _ = ShH o c.objs • own g (cpC c m o x) • MapH m' (amap slV c.slots) • MapH m (amap slV c.slots) • ShH x c.extra • R by ac_rfl)) fun o' w2 h2 => ?_
  have hg2 := (h2.to (show _ = own g (cpC c m o x) • ShH o' c.objs • ShH o c.objs • MapH m' (amap slV c.slots) • MapH m (amap slV c.slots) • ShH x c.extra • R by ac_rfl)).get
  simp [hg2, cpC]
  refine shelf_Copy_spec hc.x hc.xw (h2.to (show _ = ShH x c.extra • own g (cpC c m o x) • ShH o' c.objs • ShH o c.objs • MapH m' (amap slV c.slots) • MapH m (amap slV c.slots) • R by ac_rfl)) fun x' w3 h3 => ?_
  have h4 := h3.to (show _ = own g (cpC c m o x) • ShH x' c.extra • ShH x c.extra • ShH o' c.objs • ShH o c.objs • MapH m' (amap slV c.slots) • MapH m (amap slV c.slots) • R by ac_rfl)
  have hg3 := h4.get
  have hb := fun K => bd_caps (w := w3) (K := K) c.tenant c.next (some m') (some ⟨o', 0, none⟩) (some ⟨x', 0, none⟩)
  simp only [T_caps_Caps] at hb
  simp [hg3, cpC, hb]
  have h5 := h4.push (cpC c m' o' x')
  refine hk _ _ (CpH.close (m := m') (o := o') (x := x') ?_)
  have h6 := CpH.close (g := g) (c := c) (m := m) (o := o) (x := x) (h5.to (show _ = own g (cpC c m o x) • MapH m (amap slV c.slots) • ShH o c.objs • ShH x c.extra • own w3.heap.size (cpC c m' o' x') • MapH m' (amap slV c.slots) • ShH o' c.objs • ShH x' c.extra • R by ac_rfl))
  exact h6.to (by ac_rfl)
end
end Go.Proofs.YtiffjkgbjklgnaaDoor
