/-
  The model's parts: next, make, drop.
-/
import Derived.Test.YtiffjkgbjklgnaaDoorSO
namespace Go.Proofs.YtiffjkgbjklgnaaDoor
open Go Go.Eng Go.Lib
set_option maxRecDepth 20000

/-! ### what they do -/
def Pt.next (pt : Pt) (q : Int) : Int := if pt.objs.length = 0 then q else max q pt.peak
def Pt.make (pt : Pt) (n : Int) : (Nat × Int) × Pt :=
  if chargeS n = 0 then ((0, 2), pt) else if pt.quota < chg pt.objs + chargeS n then ((0, 3), pt) else
  if (pt.caps.grant pt.made).1.2 = 0 then ((pt.caps.grant pt.made).1, { pt with caps := (pt.caps.grant pt.made).2, objs := aput pt.objs pt.made ⟨List.replicate n.toNat 0, chargeS n⟩, made := pt.made + 1 })
  else ((pt.caps.grant pt.made).1, { pt with caps := (pt.caps.grant pt.made).2 })
def Pt.drop (pt : Pt) (k : Int) : Pt := { pt with caps := pt.caps.revoke k, objs := adel pt.objs k }

theorem charge_le (n : Int) : 0 ≤ chargeS n ∧ chargeS n ≤ 8192 ∧ (chargeS n ≠ 0 → 1 ≤ n ∧ n ≤ 8192 ∧ n ≤ chargeS n) := by
  unfold chargeS
  by_cases h : n < 1 ∨ 8192 < n
  · have : ofS n = -1 := by unfold ofS; rw [if_pos h]
    rw [this]; simp [unitS, withinS]
  · by_cases h2 : 256 < n
    · have e : ofS n = 8 + (n - 1) / 512 := by unfold ofS; rw [if_neg h, if_pos h2]
      have h3 : 0 ≤ (n - 1) / 512 ∧ (n - 1) / 512 ≤ 15 := by omega
      have hw : withinS (8 + (n - 1) / 512) := by unfold withinS; omega
      rw [e]; unfold unitS; rw [if_pos hw, if_neg (by omega)]
      omega
    · have e : ofS n = ofSmall n := by unfold ofS; rw [if_neg h, if_neg h2]
      rw [e]; unfold ofSmall
      repeat' split
      all_goals simp [unitS, withinS, smallS]; omega
theorem of_charge (n : Int) : 0 ≤ ofS n ↔ chargeS n ≠ 0 := by
  unfold chargeS
  by_cases h : n < 1 ∨ 8192 < n
  · have : ofS n = -1 := by unfold ofS; rw [if_pos h]
    rw [this]; simp [unitS, withinS]
  · by_cases h2 : 256 < n
    · have e : ofS n = 8 + (n - 1) / 512 := by unfold ofS; rw [if_neg h, if_pos h2]
      have h3 : 0 ≤ (n - 1) / 512 ∧ (n - 1) / 512 ≤ 15 := by omega
      have hw : withinS (8 + (n - 1) / 512) := by unfold withinS; omega
      rw [e]; unfold unitS; rw [if_pos hw, if_neg (by omega)]
      omega
    · have e : ofS n = ofSmall n := by unfold ofS; rw [if_neg h, if_neg h2]
      rw [e]; unfold ofSmall
      repeat' split
      all_goals simp [unitS, withinS, smallS]

/-! ### sums -/
theorem chg_cons (p : Int × Ob) (l : List (Int × Ob)) : chg (p :: l) = p.2.c + chg l := rfl
theorem chg_nonneg : ∀ {l : List (Int × Ob)}, (∀ p ∈ l, obOk p.2) → 0 ≤ chg l
  | [], _ => by simp [chg, costs, isum]
  | p :: l, h => by
    have := chg_nonneg (l := l) fun q hq => h q (List.mem_cons_of_mem _ hq)
    have h2 := (h p List.mem_cons_self).2.2.1
    rw [chg_cons]; omega
theorem chg_put {n : Int} {o : Ob} : ∀ {l : List (Int × Ob)}, (∀ p ∈ l, obOk p.2) → chg (aput l n o) + (match aget l n with | some y => y.c | none => 0) = chg l + o.c
  | [], _ => by simp [aput, aget, chg, costs, isum]
  | (k, y) :: r, h => by
    unfold aput aget
    split
    · simp only [chg_cons]; omega
    · have := chg_put (n := n) (o := o) (l := r) fun q hq => h q (List.mem_cons_of_mem _ hq)
      simp only [chg_cons]; omega
theorem aget_ok {l : List (Int × Ob)} (h : ∀ p ∈ l, obOk p.2) {n : Int} {y : Ob} (e : aget l n = some y) : obOk y := h _ (aget_mem e)
theorem chg_put_le {n : Int} {o : Ob} {l : List (Int × Ob)} (h : ∀ p ∈ l, obOk p.2) : chg (aput l n o) ≤ chg l + o.c := by
  have := chg_put (n := n) (o := o) h
  cases e : aget l n with
  | none => rw [e] at this; simp at this; omega
  | some y => rw [e] at this; have := (aget_ok h e).2.2.1; simp at *; omega
theorem chg_del_le {n : Int} : ∀ {l : List (Int × Ob)}, (∀ p ∈ l, obOk p.2) → chg (adel l n) ≤ chg l
  | [], _ => by simp [adel]
  | (k, y) :: r, h => by
    have h2 := (h _ List.mem_cons_self).2.2.1
    have := chg_del_le (n := n) (l := r) fun q hq => h q (List.mem_cons_of_mem _ hq)
    unfold adel
    split
    · simp only [chg_cons]; simp at h2; omega
    · simp only [chg_cons]; omega

/-! ### they keep parts as they may be -/
theorem Cp.grant_next {c : Cp} {a : Int} (h : (c.grant a).1.2 = 0) : (c.grant a).2.next = c.next + 1 := by
  unfold Cp.grant at *
  simp only at *
  unfold Cp.put at *
  split at h
  · simp at h
  · rename_i h1
    rw [if_neg h1]
    split at h
    · rename_i h2
      rw [if_pos h2]; rfl
    · simp at h
theorem Cp.grant_le {c : Cp} {a : Int} : c.next ≤ (c.grant a).2.next := (Cp.put_keep (c := c) (S := c.objs) (base := 0) (addr := a) (rights := 7)).2.2.2.1
theorem Cp.revStep_next (c : Cp) (a : Int) (k : Nat) : (c.revStep a k).next = c.next ∧ (c.revStep a k).tenant = c.tenant := by
  unfold Cp.revStep
  repeat' split
  all_goals exact ⟨rfl, rfl⟩
theorem Cp.revs_next (a : Int) : ∀ (d k : Nat) (c : Cp), (Cp.revs a d k c).next = c.next ∧ (Cp.revs a d k c).tenant = c.tenant
  | 0, _, _ => ⟨rfl, rfl⟩
  | d + 1, k, c => by
    have h1 := Cp.revs_next a d (k + 1) (c.revStep a k)
    have h2 := Cp.revStep_next c a k
    exact ⟨h1.1.trans h2.1, h1.2.trans h2.2⟩
theorem Cp.revoke_next (c : Cp) (a : Int) : (c.revoke a).next = c.next := (Cp.revs_next a 4160 0 c).1
theorem Cp.revoke_ok {c : Cp} (h : c.ok) (a : Int) : (c.revoke a).ok := Cp.revs_ok a 4160 0 c h
theorem Pt.make_ok {pt : Pt} (h : pt.ok) (n : Int) : (pt.make n).2.ok := by
  unfold Pt.make
  split
  · exact h
  · split
    · exact h
    · rename_i h1 h2
      have hc := charge_le n
      have hg := Cp.grant_ok h.caps pt.made
      split
      · rename_i h3
        have hn := Cp.grant_next h3
        have hq := h.quota
        have ho : obOk ⟨List.replicate n.toNat 0, chargeS n⟩ := by
          have := hc.2.2 h1
          refine ⟨?_, ?_, hc.1, hc.2.1⟩
          · simp; omega
          · simp; omega
        have hm := h.made
        exact { caps := hg, col := h.col, quota := h.quota, peak := h.peak,
                obs := fun p hp => by
                  rcases aput_mem hp with e | e
                  · rw [e]; exact ho
                  · exact h.obs p e
                chg := by
                  have := chg_put_le (n := pt.made) (o := ⟨List.replicate n.toNat 0, chargeS n⟩) h.obs
                  show chg (aput _ _ _) ≤ _
                  simp only at this
                  omega
                made := by
                  show 0 ≤ pt.made + 1 ∧ pt.made + 1 < (pt.caps.grant pt.made).2.next
                  omega
                keys := fun p hp => by
                  rcases aput_mem hp with e | e
                  · rw [e]; show pt.made < pt.made + 1; omega
                  · have := h.keys p e; show p.1 < pt.made + 1; omega }
      · have hl := Cp.grant_le (c := pt.caps) (a := pt.made)
        have hm := h.made
        exact { h with caps := hg, made := by show 0 ≤ pt.made ∧ pt.made < (pt.caps.grant pt.made).2.next; omega }
theorem Pt.drop_ok {pt : Pt} (h : pt.ok) (k : Int) : (pt.drop k).ok := by
  unfold Pt.drop
  have h1 := Cp.revoke_ok h.caps k
  have h2 := Cp.revoke_next pt.caps k
  generalize pt.caps.revoke k = c at *
  exact { caps := h1, col := h.col, quota := h.quota, peak := h.peak, obs := fun p hp => h.obs p (adel_mem hp), chg := Int.le_trans (chg_del_le h.obs) h.chg, made := by show 0 ≤ pt.made ∧ pt.made < c.next; rw [h2]; exact h.made, keys := fun p hp => h.keys p (adel_mem hp) }

/-! ### a part whose objects' bytes lie elsewhere -/
def PtL (p : Nat) (pt : Pt) (L : List (Int × Om)) : HP := exs fun g : Nat => exs fun m : Nat => own p (ptC pt g m) • CpH g pt.caps • MapH m (amap omV L)
section
variable {T : Bs} {w : World} {Q : Value → World → Prop} {R : HP} {m p : Nat} {pt : Pt} {L : List (Int × Om)}
theorem PtL.open (h : Sat T w (PtL p pt L • R)) : ∃ g m, Sat T w (own p (ptC pt g m) • CpH g pt.caps • MapH m (amap omV L) • R) := by
  unfold PtL at h
  obtain ⟨g, h⟩ := h.exs; obtain ⟨m, h⟩ := h.exs
  exact ⟨g, m, h.to (by ac_rfl)⟩
theorem PtL.close {g m : Nat} (h : Sat T w (own p (ptC pt g m) • CpH g pt.caps • MapH m (amap omV L) • R)) : Sat T w (PtL p pt L • R) :=
  Sat.toExs g (Sat.toExs m (h.to (by ac_rfl)))
theorem PtH.toL (h : Sat T w (PtH p pt • R)) : ∃ L : List (Int × Om), amp Om.ob L = pt.objs ∧ (∀ q ∈ L, q.2.b.length ≤ q.2.cap) ∧ Sat T w (PtL p pt L • sts omH L • R) := by
  obtain ⟨g, m, hq⟩ := PtH.open h
  obtain ⟨L, e, hc, h1⟩ := ObsH.open (hq.to (show _ = ObsH m pt.objs • own p (ptC pt g m) • CpH g pt.caps • R by ac_rfl))
  exact ⟨L, e, hc, PtL.close (g := g) (m := m) (h1.to (by ac_rfl))⟩
theorem PtL.toH (e : amp Om.ob L = pt.objs) (hc : ∀ q ∈ L, q.2.b.length ≤ q.2.cap) (h : Sat T w (PtL p pt L • sts omH L • R)) : Sat T w (PtH p pt • R) := by
  obtain ⟨g, m, hq⟩ := PtL.open h
  have h1 := ObsH.close (m := m) e hc (hq.to (show _ = MapH m (amap omV L) • sts omH L • own p (ptC pt g m) • CpH g pt.caps • R by ac_rfl))
  exact PtH.close (g := g) (m := m) (h1.to (by ac_rfl))

theorem part_charged_low (hok : pt.ok) (e : amp Om.ob L = pt.objs) {g m : Nat} (h : Sat T w (own p (ptC pt g m) • MapH m (amap omV L) • R)) (hk : ∀ w', Sat T w' (own p (ptC pt g m) • MapH m (amap omV L) • R) → Q (.int .i64 (chg pt.objs)) w') : Cal P N_model_part_charged #[ptr p] w Q := by
  apply model_part_charged_k0
  unfold model_part_charged_b0
  have hg := h.get
  rw [eqx_ptr_nil (by kernel_rfl)]
  simp [hg, ld_eq, ptC]
  obtain ⟨es, c, hm, h2⟩ := MapH.open (h.to (star_left ..))
  refine rg_map (k := T_int) (e := T_model_object) (by kernel_rfl) h2 fun x w1 h3 => ?_
  have hpos : ∀ q ∈ L, 0 ≤ q.2.c := by
    intro q hq
    have : (q.1, Om.ob q.2) ∈ pt.objs := by rw [← e]; exact List.mem_map_of_mem (f := fun p : Int × Om => (p.1, Om.ob p.2)) hq
    exact (hok.obs _ this).2.2.1
  have h0 : dsum (costs (amp Om.ob L)) (fun _ => false) = 0 := dsum_none fun _ => rfl
  have := charged_p1 (Q := Q) (x := x) (L := L) hm.born hm.as hpos (by rw [e]; exact hok.chg) (fun w' h' => ?_) _ (fun _ => false) #[] w1 rfl (by simp) h3
  · rw [h0] at this
    exact this
  · rw [e]
    exact hk _ ((MapH.close hm h').to (star_left ..))

theorem part_next_spec {q : Int} (h : Sat T w (PtH p pt • R)) (hk : Q (.int .i64 (pt.next q)) w) : Cal P N_model_part_next #[ptr p, .int .i64 q] w Q := by
  apply model_part_next_k0
  unfold model_part_next_b0
  obtain ⟨g, m, hq⟩ := PtH.open h
  have hg := hq.get
  simp [hg, ld_eq, ptC]
  obtain ⟨L, e, hcap, h1⟩ := ObsH.open (hq.to (show _ = ObsH m pt.objs • own p (ptC pt g m) • CpH g pt.caps • R by ac_rfl))
  obtain ⟨es, c, hm, -, hs⟩ := MapH.look h1
  have hlen : es.size = pt.objs.length := by rw [hs, amap_len, ← e]; simp [amp]
  rw [hm]
  unfold Pt.next at hk
  have hiff : (es = #[]) ↔ pt.objs.length = 0 := by rw [← hlen]; simp
  by_cases h0 : pt.objs.length = 0
  · have := hiff.2 h0
    simp only [this, decide_true, cn_true]
    rw [if_pos h0] at hk; exact hk
  · have : ¬ (es = #[]) := fun e => h0 (hiff.1 e)
    simp only [this, decide_false, cn_false]
    rw [if_neg h0] at hk; exact hk
end
end Go.Proofs.YtiffjkgbjklgnaaDoor
