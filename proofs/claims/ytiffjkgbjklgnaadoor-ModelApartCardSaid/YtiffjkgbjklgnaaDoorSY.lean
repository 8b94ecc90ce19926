/-
  The model: Object, New; a part's objects cloned.
-/
import Derived.Test.YtiffjkgbjklgnaaDoorSX
namespace Go.Proofs.YtiffjkgbjklgnaaDoor
open Go Go.Eng Go.Lib
set_option maxRecDepth 20000
section
variable {T : Bs} {w : World} {Q : Value → World → Prop} {K : Value → World → Prop} {R : HP} {b x z : Nat} {md : Md} {S : List (Option (Nat × Pt))} {o : Op_} {a : An}

theorem Object_nil {id : Int} {h : Nat} (hk : Q (.tuple #[.string (bstr []), .bool false]) w) : Cal P N_model_Model_Object #[.pointer none, .int .i64 id, .int .u64 h] w Q := by
  apply model_Model_Object_k0
  unfold model_Model_Object_b0
  apply at_nil
  rw [eqx_ptr_nil (by kernel_rfl)]
  simp
  exact hk
theorem Object_spec {id : Int} {h : Nat} (hh : h < 18446744073709551616) (hok : md.ok) (hs : Sat T w (MdH b md • R)) (hk : ∀ w', Sat T w' (MdH b md • R) → Q (.tuple #[.string (bstr (md.object id h).1), .bool (md.object id h).2]) w') : Cal P N_model_Model_Object #[ptr b, .int .i64 id, .int .u64 h] w Q := by
  apply model_Model_Object_k0
  unfold model_Model_Object_b0
  obtain ⟨S, e, h1⟩ := MdH.open hs
  have hl := pts_len hok e
  apply at_spec hok e h1
  unfold Md.object at hk
  by_cases hi : 0 ≤ id ∧ id < 8
  · rw [if_pos hi]
    have hpt : md.part id = (S.getD id.toNat none).map (·.2) := by rw [pts_get e]; exact part_in hok hi.1 hi.2
    rw [hpt] at hk
    have hpk := slot_pick (S := S) (i := id.toNat) (by omega)
    generalize hS : S.getD id.toNat none = X at *
    rw [eqx_pv (by kernel_rfl)]
    cases X with
    | none =>
      simp
      exact hk w hs
    | some q =>
      simp only [Option.map_some] at hk hpt
      have hpo := part_ok hok hpt
      have h2 := h1.to (show _ = PtH q.1 q.2 • own b (mdC md (ptrs S)) • stars ((S.map slotH).eraseIdx id.toNat) • R by
        rw [hpk]; show _ • (PtH q.1 q.2 • _) • _ = _; ac_rfl)
      obtain ⟨L, eL, hcap, h3⟩ := PtH.toL h2
      obtain ⟨g, m, h4⟩ := PtL.open h3
      have hg := h4.get
      unfold ptC at hg
      simp [pv, hg, ld_eq]
      refine caps_Find_spec hh (h4.to (star_left ..)) fun w1 h5 => ?_
      have h6 := h5.to (star_left ..)
      have hg6 := h6.get
      unfold ptC at hg6
      have back : Sat T w1 (MdH b md • R) := MdH.close e ((PtL.toH eL hcap (PtL.close (g := g) (m := m) h6)).to (by
        rw [hpk]; show _ = _ • (PtH q.1 q.2 • _) • _; ac_rfl))
      have hob := obAt_b eL (q.2.caps.findR h 0).1
      generalize q.2.caps.findR h 0 = f at *
      by_cases hf : f.2 = 0
      · rw [if_pos hf, hob] at hk
        have hlk := fun K => lk_obj (K := K) (h6.to (show _ = MapH m (amap omV L) • own q.1 (ptC q.2 g m) • CpH g q.2.caps • sts omH L • own b (mdC md (ptrs S)) • stars ((S.map slotH).eraseIdx id.toNat) • R by ac_rfl)) f.1
        have hfd := fun K => fd_op (w := w1) (K := K) (aget L f.1) (opI (aget L f.1))
        simp only [T_map_int_model_object, T_model_object] at hlk hfd
        simp [hf, hg6, hlk, hfd]
        cases hX : aget L f.1 with
        | none =>
          rw [hX] at hk
          simp only [opS]
          rw [show ∀ K, cv P 61 9 (.slice none 0 0) w1 K = K (.string (bstr [])) w1 from fun K => cv_bytes_nil]
          exact hk _ back
        | some y =>
          rw [hX] at hk
          simp only [opS]
          have hy := (h6.to (show _ = own y.blk (bytesO y.b y.rest) • sts omH (adel L f.1) • own q.1 (ptC q.2 g m) • CpH g q.2.caps • MapH m (amap omV L) • own b (mdC md (ptrs S)) • stars ((S.map slotH).eraseIdx id.toNat) • R by
            rw [sts_get omH hX]; show _ • _ • _ • (own y.blk (bytesO y.b y.rest) • _) • _ = _; ac_rfl)).get
          rw [show ∀ K, cv P 61 9 (.slice (some ⟨y.blk, 0, none⟩) y.b.length y.cap) w1 K = K (.string (bstr y.b)) w1 from fun K => by
            have := cv_bytes (K := K) (o := 0) (n := y.b.length) (c := y.cap) hy (by omega)
            simpa using this]
          exact hk _ back
      · rw [if_neg hf] at hk
        simp [hf]
        exact hk _ back
  · rw [if_neg hi]
    have : md.part id = none := by unfold Md.part; rw [if_neg hi]
    rw [this] at hk
    rw [eqx_pv (by kernel_rfl)]
    simp
    exact hk w hs

/-! New -/
theorem ser_step {i : Nat} (h : i < 8) : (List.replicate i (1 : Int) ++ List.replicate (8 - i) 0).set i 1 = List.replicate (i + 1) (1 : Int) ++ List.replicate (8 - (i + 1)) 0 := by
  have : i = 0 ∨ i = 1 ∨ i = 2 ∨ i = 3 ∨ i = 4 ∨ i = 5 ∨ i = 6 ∨ i = 7 := by omega
  rcases this with rfl | rfl | rfl | rfl | rfl | rfl | rfl | rfl <;> rfl
theorem New_md {p c : Int} (hk : ∀ w', Sat T w' (MdH b (Md.new p c) • R) → Q (.tuple #[ptr b, .int .i64 0]) w') :
    ∀ (d i : Nat) (w : World), i + d = 8 → Sat T w (own b (mdC ⟨p, c, [], List.replicate i 1 ++ List.replicate (8 - i) 0⟩ (List.replicate 8 none)) • R) → model_New_p1 (ptr b) (.int .i64 (i : Int)) w Q := by
  intro d
  induction d with
  | zero =>
    intro i w hi h
    apply model_New_k1
    unfold model_New_b1
    obtain rfl : i = 8 := by omega
    simp
    refine hk w (MdH.close (S := List.replicate 8 none) (by simp [Md.new]) (h.to ?_))
    have : stars ((List.replicate 8 (none : Option (Nat × Pt))).map slotH) = emp := by
      show emp • emp • emp • emp • emp • emp • emp • emp • emp = emp
      simp
    rw [this, emp_star]
    rfl
  | succ d ih =>
    intro i w hi h
    apply model_New_k1
    unfold model_New_b1
    have hlt : (i : Int) < 8 := by omega
    have hg := h.get
    have hz : szO P 3 = some 1 := by kernel_rfl
    have hsz : (mdA ⟨p, c, [], List.replicate i 1 ++ List.replicate (8 - i) 0⟩ (List.replicate 8 none)).size = 18 := by simp [mdA]; omega
    have hst : stO (some (mdC ⟨p, c, [], List.replicate i 1 ++ List.replicate (8 - i) 0⟩ (List.replicate 8 none))) (10 + i) [.int .i64 1] = some (mdC ⟨p, c, [], List.replicate (i + 1) 1 ++ List.replicate (8 - (i + 1)) 0⟩ (List.replicate 8 none)) := by
      unfold mdC
      rw [stO_int _ _ (by omega)]
      have := mdA_setSer (md := ⟨p, c, [], List.replicate i 1 ++ List.replicate (8 - i) 0⟩) (ps := List.replicate 8 none) (i := i) (by simp) 1
      rw [show Value.int .i64 1 = iv 1 from rfl, this]
      simp only [ser_step (show i < 8 by omega)]
    have hw3 : IntKind.i64.wrap ((i : Int) + 1) = (i : Int) + 1 := wrap_id (by omega) (by omega)
    have h2 := h.set (mdC ⟨p, c, [], List.replicate (i + 1) 1 ++ List.replicate (8 - (i + 1)) 0⟩ (List.replicate 8 none))
    have := ih (i + 1) _ (by omega) h2
    simp only [bin_lss, hlt, decide_true, cn_true, nc_ptr, fa_51_2]
    rw [show ∀ K, ia P 49 (.pointer (some ⟨b, 0 + 10, none⟩)) (.int .i64 (i : Int)) w K = K (.pointer (some ⟨b, 10 + i, none⟩)) w from fun K => by simp [hlt]]
    rw [st_eq, hz, onv_some, hg]
    refine ⟨rfl, ?_⟩
    show onv (stO _ (10 + i) [.int .i64 1]) _
    rw [hst, onv_some, bin_add, hw3]
    exact this
theorem bd_model {p c : Int} : bd P T_model_Model [(0, .agg #[.int .i64 p, .int .i64 c])] w K = K (.agg #[.int .i64 p, .int .i64 c, .pointer none, .pointer none, .pointer none, .pointer none, .pointer none, .pointer none, .pointer none, .pointer none, .int .i64 0, .int .i64 0, .int .i64 0, .int .i64 0, .int .i64 0, .int .i64 0, .int .i64 0, .int .i64 0]) w := by kernel_rfl
def cfgV (p c : Int) : Value := .agg #[.int .i64 p, .int .i64 c]
theorem New_spec {p c : Int} (h : Sat T w R) (hk0 : cfgOk p c = false → ∀ w', Sat T w' R → Q (.tuple #[.pointer none, .int .i64 12]) w') (hk1 : cfgOk p c = true → ∀ b w', Sat T w' (MdH b (Md.new p c) • R) → Q (.tuple #[ptr b, .int .i64 0]) w') :
    Cal P N_model_New #[cfgV p c] w Q := by
  apply model_New_k0
  unfold model_New_b0
  unfold cfgV
  have h1 := h.push (.cells #[.int .i64 p, .int .i64 c] T_api_Config (0, 0))
  simp only [bx_eq, cells_agg]
  simp only [T_api_Config] at h1
  have hg := h1.get
  generalize w.heap.size = x at *
  generalize pu w _ = w1 at *
  have hk0 := fun e => hk0 e _ h1.drop
  have h2 : Sat T w1 R := h1.drop
  unfold cfgOk at hk0 hk1
  by_cases a1 : c < 1
  · have : ¬ (1 ≤ c) := by omega
    simp [hg, ld_eq, a1, this] at hk0 ⊢; exact hk0
  have b1 : 1 ≤ c := by omega
  by_cases a2 : 32 < c
  · have : ¬ (c ≤ 32) := by omega
    simp [hg, ld_eq, a1, a2, this] at hk0 ⊢; exact hk0
  have b2 : c ≤ 32 := by omega
  by_cases a3 : p < 1
  · have : ¬ (1 ≤ p) := by omega
    simp [hg, ld_eq, a1, a2, a3, this] at hk0 ⊢; exact hk0
  have b3 : 1 ≤ p := by omega
  by_cases a4 : 4096 < p
  · have : ¬ (p ≤ 4096) := by omega
    simp [hg, ld_eq, a1, a2, a3, a4, this] at hk0 ⊢; exact hk0
  have b4 : p ≤ 4096 := by omega
  have hc0 : ¬ (c = 0) := by omega
  by_cases a5 : p.tmod c = 0
  · simp only [b1, b2, b3, b4, a5, decide_true, Bool.and_self, forall_const] at hk1
    simp [hg, ld_eq, a1, a2, a3, a4, a5, hc0]
    have h3 := h2.push (mdC ⟨p, c, [], List.replicate 0 1 ++ List.replicate (8 - 0) 0⟩ (List.replicate 8 none))
    rw [show Option.map Value.agg (cellsO (some (Obj.cells #[.int .i64 p, .int .i64 c] 23 (0, 0))) 0 2) = some (.agg #[.int .i64 p, .int .i64 c]) from rfl, onv_some]
    rw [show ∀ K, bd P 51 [(0, .agg #[.int .i64 p, .int .i64 c])] w1 K = _ from fun K => bd_model]
    exact New_md (hk1 w1.heap.size) 8 0 _ rfl h3
  · simp [hg, ld_eq, a1, a2, a3, a4, a5, hc0] at hk0 ⊢; exact hk0
end
end Go.Proofs.YtiffjkgbjklgnaaDoor
