/-
  Tables (caps): finding.
-/
import Derived.Test.YtiffjkgbjklgnaaDoorSD
namespace Go.Proofs.YtiffjkgbjklgnaaDoor
open Go Go.Eng Go.Lib
set_option maxRecDepth 20000
section
variable {T : Bs} {w : World} {Q : Value → World → Prop} {g : Nat} {c : Cp} {R : HP}

def Cp.there (c : Cp) (ks : Int) : Bool := (aget c.slots ks).isSome
theorem lk_slots {K : Value → World → Prop} {m : Nat} {n : Int} {R : HP} (h : Sat T w (MapH m (amap slV c.slots) • R)) : lk P T_map_int_caps_slot (.map (some m)) (.int .i64 n) true w K = K (.tuple #[slV (slO (aget c.slots n)), .bool (aget c.slots n).isSome]) w := by
  obtain ⟨es, cl, e1, e2, e3⟩ := MapH.look h
  rw [lk_true (e := T_caps_slot) (z := slV ⟨0, 0, 0⟩) (by kernel_rfl) (by kernel_rfl) e2, getI_amap]
  cases aget c.slots n <;> rfl

theorem caps_find_spec {h : Nat} (hh : h < 18446744073709551616) (hs : Sat T w (CpH g c • R)) (hk : ∀ w', Sat T w' (CpH g c • R) → Q (.tuple #[slV (slO (c.find h)), .int .i64 (if (c.find h).isSome then 0 else 5)]) w') :
    Cal P N_caps_Caps_find #[ptr g, .int .u64 h] w Q := by
  apply caps_Caps_find_k0
  unfold caps_Caps_find_b0
  have h1 := hs.push (.cells #[.int .i64 0, .int .i64 0, .int .i64 0] T_caps_slot (0, 0))
  rw [show al P _ w _ = _ from al_slot]
  generalize w.heap.size = x0 at *
  generalize pu w _ = w1 at *
  rw [eqx_ptr_nil (by kernel_rfl)]
  simp only [Option.isNone_some, cn_false]
  refine handle_Unpack_spec hh h1 fun w2 h2 => ?_
  have hkey : ∃ kt ks kr kn, (if unpOk h = true then keyV (unpT h) (unpS h) (unpR h) (unpN h) else keyV 0 0 0 0) = keyV kt ks kr kn ∧ (unpOk h = true → kt = unpT h ∧ ks = unpS h ∧ kr = unpR h ∧ kn = unpN h) := by
    by_cases e : unpOk h = true
    · exact ⟨_, _, _, _, by rw [if_pos e], fun _ => ⟨rfl, rfl, rfl, rfl⟩⟩
    · exact ⟨_, _, _, _, by rw [if_neg e], fun e' => absurd e' e⟩
  obtain ⟨kt, ks, kr, kn, hkv, hku⟩ := hkey
  rw [hkv]
  rw [ex_tuple, show cellA #[keyV kt ks kr kn, .int .i64 (if unpOk h = true then 0 else 5)] 0 = some (keyV kt ks kr kn) from rfl, onv_some, ex_tuple, show cellA #[keyV kt ks kr kn, .int .i64 (if unpOk h = true then 0 else 5)] 1 = some (.int .i64 (if unpOk h = true then 0 else 5)) from rfl, onv_some]
  have h3 := h2.push (.cells #[.int .i64 0, .int .i64 0, .int .i64 0, .int .i64 0] T_api_Key (0, 0))
  rw [show al P _ w2 _ = _ from al_key]
  generalize w2.heap.size = y at *
  generalize pu w2 _ = w3 at *
  refine st_key h3.get ?_
  have h4 := h3.set (.cells #[.int .i64 kt, .int .i64 ks, .int .i64 kr, .int .i64 kn] T_api_Key (0, 0))
  generalize sb w3 y _ = w4 at *
  have h5 : Sat T w4 (CpH g c • (own y (.cells #[.int .i64 kt, .int .i64 ks, .int .i64 kr, .int .i64 kn] T_api_Key (0, 0)) • own x0 (.cells #[.int .i64 0, .int .i64 0, .int .i64 0] T_caps_slot (0, 0)) • R)) := h4.to (by ac_rfl)
  have ⟨m, o, x, hq⟩ := CpH.open h5
  have hg := hq.get
  have hy := h4.get
  have hm1 := (hq.to (star_left ..)).dw
  have hlk := fun K => lk_slots (K := K) (n := ks) hm1
  have hp : Sat T _ (own w4.heap.size (.cells #[.int .i64 0, .int .i64 0, .int .i64 0] T_caps_slot (0, 0)) • _) := hq.dw.push (.cells #[.int .i64 0, .int .i64 0, .int .i64 0] T_caps_slot (0, 0))
  have hsl : ∀ K, al P T_caps_slot (Eng.dw w4) K = K (ptr w4.heap.size) (pu (Eng.dw w4) (.cells #[.int .i64 0, .int .i64 0, .int .i64 0] T_caps_slot (0, 0))) := fun K => al_slot
  simp only [T_caps_slot, T_api_Key, T_map_int_caps_slot] at *
  simp [hg, hy, ld_eq, cpC, hlk, hsl]
  clear hlk hm1 hsl
  generalize w4.heap.size = z at *
  generalize pu (Eng.dw w4) _ = w5 at *
  have hy5 := (hp.to (show _ = own y (.cells #[.int .i64 kt, .int .i64 ks, .int .i64 kr, .int .i64 kn] 103 (0, 0)) • own z (.cells #[.int .i64 0, .int .i64 0, .int .i64 0] 86 (0, 0)) • own g (cpC c m o x) • MapH m (amap slV c.slots) • ShH o c.objs • ShH x c.extra • own x0 (.cells #[.int .i64 0, .int .i64 0, .int .i64 0] 86 (0, 0)) • R by ac_rfl)).get
  have hg5 := (hp.to (star_left ..)).get
  have hm5 : Sat T w5 (MapH m (amap slV c.slots) • own z (.cells #[.int .i64 0, .int .i64 0, .int .i64 0] 86 (0, 0)) • own g (cpC c m o x) • ShH o c.objs • ShH x c.extra • own y (.cells #[.int .i64 kt, .int .i64 ks, .int .i64 kr, .int .i64 kn] 103 (0, 0)) • own x0 (.cells #[.int .i64 0, .int .i64 0, .int .i64 0] 86 (0, 0)) • R) := hp.to (by ac_rfl)
  have hlk5 := fun K => lk_slots (K := K) (n := ks) hm5
  simp only [T_map_int_caps_slot] at hlk5
  refine ⟨by rw [hlk5]; simp, by rw [hy5]; rfl, by rw [hg5]; rfl, ?_⟩
  generalize hS : slO (aget c.slots ks) = S at *
  refine st_slot (s := ⟨0, 0, 0⟩) (s' := S) hp.get ?_
  have hp6 := (hp.set (.cells #[.int .i64 S.r, .int .i64 S.n, .int .i64 S.a] T_caps_slot (0, 0))).dw
  simp only [T_caps_slot] at *
  generalize sb w5 z _ = w6 at *
  have hz6 := hp6.get
  have hg6 := (hp6.to (star_left ..)).get
  have hx6 : Sat T (Eng.dw w6) (own x0 (.cells #[.int .i64 0, .int .i64 0, .int .i64 0] 86 (0, 0)) • own z (.cells #[.int .i64 S.r, .int .i64 S.n, .int .i64 S.a] 86 (0, 0)) • own y (.cells #[.int .i64 kt, .int .i64 ks, .int .i64 kr, .int .i64 kn] 103 (0, 0)) • own g (cpC c m o x) • MapH m (amap slV c.slots) • ShH o c.objs • ShH x c.extra • R) := hp6.to (by ac_rfl)
  have hy6 := (hx6.drop.drop).get
  have fin : ∀ (v : Sl) (e : Int), (∀ w', Sat T w' (CpH g c • R) → Q (.tuple #[slV v, .int .i64 e]) w') → st P 86 (ptr x0) (slV v) (Eng.dw w6) (fun _ w21 => rl P 86 (ptr x0) w21 fun v => Q (.tuple #[v, .int .i64 e]) w21) := fun v e hq => by
    refine st_slot (s := ⟨0, 0, 0⟩) (s' := v) hx6.get ?_
    have h7 := hx6.set (.cells #[.int .i64 v.r, .int .i64 v.n, .int .i64 v.a] T_caps_slot (0, 0))
    exact rl_eq (by rw [h7.get]; exact ldO_slot) (hq _ (CpH.close h7.drop.drop.drop))
  have hbd : ∀ K, bd P 86 [] (Eng.dw w6) K = K (slV ⟨0, 0, 0⟩) (Eng.dw w6) := fun K => by kernel_rfl
  have hbg : ∀ (a b : Int) K, bd P 84 [(0, .int .i64 a), (1, .int .i64 b)] (Eng.dw w6) K = K (.agg #[.int .i64 a, .int .i64 b]) (Eng.dw w6) := fun a b K => by kernel_rfl
  have hlg : ldO P 84 (some (.cells #[.int .i64 S.r, .int .i64 S.n, .int .i64 S.a] 86 (0, 0))) 0 = some (.agg #[.int .i64 S.r, .int .i64 S.n]) := by kernel_rfl
  have hne : ∀ K, eqx P .neq 84 (.tmp 45) (.tmp 50) (.agg #[.int .i64 S.r, .int .i64 S.n]) (.agg #[.int .i64 kr, .int .i64 kn]) (Eng.dw w6) K = K (.bool (!(decide (S.r = kr) && (decide (S.n = kn) && true)))) (Eng.dw w6) := fun K => neqx_struct (by kernel_rfl) (by kernel_rfl) (by kernel_rfl) (by kernel_rfl)
  clear hp hp6 hm5 hlk5 hy5 hg5 h1 h2 h3 h4 h5 hq hg hy hkv hs
  simp only [dw_heap] at hz6 hg6 hy6
  by_cases hu : unpOk h = true
  · obtain ⟨rfl, rfl, rfl, rfl⟩ := hku hu
    cases hag : aget c.slots (unpS h) with
    | none =>
      have hf : c.find h = none := by unfold Cp.find; rw [if_pos hu, hag]
      rw [hf] at hk
      simp [hu]
      rw [hbd]
      exact fin _ _ hk
    | some s =>
      rw [hag] at hS
      have hS : s = S := hS
      subst hS
      by_cases ht : unpT h = c.tenant
      · by_cases hgd : s.r = unpR h ∧ s.n = unpN h
        · have hf : c.find h = some s := by unfold Cp.find; rw [if_pos hu, hag]; simp only; rw [if_pos ⟨ht, hgd.1, hgd.2⟩]
          rw [hf] at hk
          have hl3 : Option.map Value.agg (cellsO (some (.cells #[.int .i64 s.r, .int .i64 s.n, .int .i64 s.a] 86 (0, 0))) 0 3) = some (slV s) := by kernel_rfl
          have hd : (!decide (s.r = unpR h) || !decide (s.n = unpN h)) = false := by simp [hgd.1, hgd.2]
          simp [hu, hy6, hg6, hz6, ld_eq, cpC, ht, hlg, hbg, hne]
          rw [hd, cn_false, hl3, onv_some]
          exact fin _ _ hk
        · have hf : c.find h = none := by unfold Cp.find; rw [if_pos hu, hag]; simp only; rw [if_neg (fun hh => hgd hh.2)]
          rw [hf] at hk
          simp [hu, hy6, hg6, hz6, ld_eq, cpC, ht, hlg, hbg, hne]
          have hd : (!decide (s.r = unpR h) || !decide (s.n = unpN h)) = true := by
            by_cases h1 : s.r = unpR h
            · have : ¬ (s.n = unpN h) := fun h2 => hgd ⟨h1, h2⟩
              simp [this]
            · simp [h1]
          rw [hd, cn_true, hbd]
          exact fin _ _ hk
      · have hf : c.find h = none := by unfold Cp.find; rw [if_pos hu, hag]; simp only; rw [if_neg (fun hh => ht hh.1)]
        rw [hf] at hk
        simp [hu, hy6, hg6, ld_eq, cpC, ht]
        rw [hbd]
        exact fin _ _ hk
  · have hf : c.find h = none := by unfold Cp.find; rw [if_neg hu]
    rw [hf] at hk
    simp [hu]
    rw [hbd]
    exact fin _ _ hk
end
end Go.Proofs.YtiffjkgbjklgnaaDoor
