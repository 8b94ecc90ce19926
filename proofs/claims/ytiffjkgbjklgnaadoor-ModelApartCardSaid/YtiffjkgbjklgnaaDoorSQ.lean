/-
  The model's parts: make, drop.
-/
import Derived.Test.YtiffjkgbjklgnaaDoorSP
namespace Go.Proofs.YtiffjkgbjklgnaaDoor
open Go Go.Eng Go.Lib
set_option maxRecDepth 20000
section
variable {T : Bs} {w : World} {Q : Value → World → Prop} {R : HP} {m p : Nat} {pt : Pt} {L : List (Int × Om)}
theorem bd_object {K : Value → World → Prop} (a : Option Addr) (n c : Nat) (x : Int) : bd P T_model_object [(0, .slice a n c), (1, .int .i64 x)] w K = K (.agg #[.slice a n c, .int .i64 x]) w := by kernel_rfl
theorem MapH.putO (h : Sat T w (MapH m (amap omV L) • R)) (k : Int) (x : Om) : ∃ o, (∀ K, mu P T_map_int_model_object (.map (some m)) (.int .i64 k) (omV x) w K = K undef (sb w m (putM .i64 o k (omV x)))) ∧ Sat T (sb w m (putM .i64 o k (omV x))) (MapH m (amap omV (aput L k x)) • R) := by
  obtain ⟨o, ho, hm, h2⟩ := MapH.put h k (omV x)
  rw [putI_amap] at h2
  exact ⟨o, fun K => mu_go (e := T_model_object) (by kernel_rfl) ho hm, h2⟩

theorem part_make_spec {n : Int} (hok : pt.ok) (e : amp Om.ob L = pt.objs) (h : Sat T w (PtL p pt L • R))
    (hk0 : (pt.make n).1.2 ≠ 0 → ∀ w', Sat T w' (PtL p (pt.make n).2 L • R) → (pt.make n).2.objs = pt.objs → Q (.tuple #[.int .u64 (pt.make n).1.1, .int .i64 (pt.make n).1.2]) w')
    (hk1 : (pt.make n).1.2 = 0 → ∀ w' x, x.ob = ⟨List.replicate n.toNat 0, chargeS n⟩ → x.b.length ≤ x.cap → Sat T w' (PtL p (pt.make n).2 (aput L pt.made x) • omH x • R) →
      (pt.make n).2.objs = aput pt.objs pt.made x.ob → Q (.tuple #[.int .u64 (pt.make n).1.1, .int .i64 (pt.make n).1.2]) w') :
    Cal P N_model_part_make #[ptr p, .int .i64 n] w Q := by
  apply model_part_make_k0
  unfold model_part_make_b0
  apply class_Charge_spec
  unfold Pt.make at hk0 hk1
  by_cases hc0 : chargeS n = 0
  · simp [hc0] at hk0 ⊢
    exact hk0 w h
  obtain ⟨c0, c1, c2⟩ := charge_le n
  obtain ⟨n0, n1, n2⟩ := c2 hc0
  have hch := chg_nonneg hok.obs
  have hch2 := hok.chg
  have hmade := hok.made
  have hn1 := hok.caps.n1
  obtain ⟨g, m, hq⟩ := PtL.open h
  have hg := hq.get
  simp [hg, ld_eq, ptC, hc0]
  refine part_charged_low hok e (hq.dw.to (show _ = own p (ptC pt g m) • MapH m (amap omV L) • CpH g pt.caps • R by ac_rfl)) fun w1 h1 => ?_
  have hg1 := h1.get
  by_cases hqu : pt.quota < chg pt.objs + chargeS n
  · simp only [hc0, hqu, if_true, if_false] at hk0
    simp (disch := omega) [hg1, ptC, wrap_id, hqu]
    exact hk0 (by simp) _ (PtL.close (g := g) (m := m) (h1.to (by ac_rfl))) trivial
  simp only [hc0, hqu, if_false] at hk0 hk1
  simp (disch := omega) [hg1, ptC, wrap_id, hqu]
  refine caps_Grant_spec hok.caps hmade.1 (h1.dw.to (show _ = CpH g pt.caps • own p (ptC pt g m) • MapH m (amap omV L) • R by ac_rfl)) fun w2 h2 => ?_
  have h2 := h2.to (show _ = own p (ptC pt g m) • CpH g (pt.caps.grant pt.made).2 • MapH m (amap omV L) • R by ac_rfl)
  have hg2 := h2.get
  simp
  by_cases hg0 : (pt.caps.grant pt.made).1.2 = 0
  · simp only [hg0, if_true] at hk1
    simp [hg0, hg2, ptC]
    refine ⟨by omega, ?_⟩
    have h3 : Sat T (pu (Eng.dw w2) (Obj.cells (repC #[Value.int .u8 0] n.toNat) 5)) (own w2.heap.size (bytesO (List.replicate n.toNat 0) []) • own p (ptC pt g m) • CpH g (pt.caps.grant pt.made).2 • MapH m (amap omV L) • R) := by
      rw [repC_bytes]; exact h2.dw.push (bytesO (List.replicate n.toNat 0) [])
    generalize pu (Eng.dw w2) (Obj.cells (repC #[Value.int .u8 0] n.toNat) 5) = w3 at *
    generalize w2.heap.size = b at *
    have h3 := h3.to (show _ = own p (ptC pt g m) • CpH g (pt.caps.grant pt.made).2 • MapH m (amap omV L) • own b (bytesO (List.replicate n.toNat 0) []) • R by ac_rfl)
    have hg3 := h3.get
    have hb := fun K => bd_object (w := w3) (K := K) (some ⟨b, 0, none⟩) n.toNat n.toNat (chargeS n)
    simp only [T_model_object] at hb
    obtain ⟨o, hmu, h4⟩ := MapH.putO (h3.to (show _ = MapH m (amap omV L) • own p (ptC pt g m) • CpH g (pt.caps.grant pt.made).2 • own b (bytesO (List.replicate n.toNat 0) []) • R by ac_rfl)) pt.made ⟨b, List.replicate n.toNat 0, chargeS n, n.toNat, []⟩
    have hov : omV ⟨b, List.replicate n.toNat 0, chargeS n, n.toNat, []⟩ = .agg #[.slice (some ⟨b, 0, none⟩) n.toNat n.toNat, .int .i64 (chargeS n)] := by unfold omV; simp
    simp only [hov, T_map_int_model_object] at hmu h4
    simp [hg3, ptC, hb, hmu]
    generalize sb w3 m _ = w4 at *
    have h5 := h4.to (show _ = own p (ptC pt g m) • CpH g (pt.caps.grant pt.made).2 • MapH m (amap omV (aput L pt.made ⟨b, List.replicate n.toNat 0, chargeS n, n.toNat, []⟩)) • own b (bytesO (List.replicate n.toNat 0) []) • R by ac_rfl)
    have hg5 := h5.get
    simp (disch := omega) [hg5, ptC, wrap_id, st_eq]
    have h6 := h5.set (ptC { pt with caps := (pt.caps.grant pt.made).2, objs := aput pt.objs pt.made ⟨List.replicate n.toNat 0, chargeS n⟩, made := pt.made + 1 } g m)
    simp only [ptC, T_model_part] at h6
    apply model_part_make_k1
    unfold model_part_make_b1
    have := hk1 trivial _ ⟨b, List.replicate n.toNat 0, chargeS n, n.toNat, []⟩ (by simp [Om.ob]) (by simp) (PtL.close (g := g) (m := m) (h6.to (by unfold omH; simp only [ptC, T_model_part]))) (by simp [Om.ob])
    exact this
  · simp only [hg0, if_false] at hk0
    simp [hg0]
    apply model_part_make_k1
    unfold model_part_make_b1
    exact hk0 hg0 _ (PtL.close (g := g) (m := m) (h2.to (by simp only [ptC]))) trivial

theorem part_drop_spec {k : Int} (hok : pt.caps.ok) (h : Sat T w (PtL p pt L • R)) (hk : ∀ w', Sat T w' (PtL p (pt.drop k) (adel L k) • R) → Q (.tuple #[]) w') : Cal P N_model_part_drop #[ptr p, .int .i64 k] w Q := by
  apply model_part_drop_k0
  unfold model_part_drop_b0
  obtain ⟨g, m, hq⟩ := PtL.open h
  have hg := hq.get
  simp [hg, ld_eq, ptC]
  refine caps_Revoke_spec hok (hq.to (show _ = CpH g pt.caps • own p (ptC pt g m) • MapH m (amap omV L) • R by ac_rfl)) fun n w1 h1 => ?_
  have hg1 := (h1.to (star_left ..)).get
  unfold Pt.drop at hk
  generalize pt.caps.revoke k = cc at *
  simp [hg1, ptC]
  obtain ⟨ob, ho, hmi, h2⟩ := MapH.del (h1.to (show _ = MapH m (amap omV L) • CpH g cc • own p (ptC pt g m) • R by ac_rfl)) k
  rw [delI_amap] at h2
  have hdel : ∀ K, del P #[T_map_int_model_object, T_int] T_ [.map (some m), .int .i64 k] w1 K = K (.tuple #[]) (sb w1 m (delM .i64 ob k)) := fun K => del_go (e := T_model_object) (by kernel_rfl) ho hmi
  simp only [T_map_int_model_object, T_int, T_] at hdel
  rw [hdel]
  refine hk _ (PtL.close (g := g) (m := m) (h2.to ?_))
  show _ = own p (ptC pt g m) • CpH g cc • MapH m (amap omV (adel L k)) • R
  ac_rfl
end
end Go.Proofs.YtiffjkgbjklgnaaDoor
