/-
  The model: Copy.
-/
import Derived.Test.YtiffjkgbjklgnaaDoorCA
namespace Go.Proofs.YtiffjkgbjklgnaaDoor
open Go Go.Eng Go.Lib
set_option maxRecDepth 20000
section
variable {T : Bs} {w : World} {Q : Value → World → Prop} {K : Value → World → Prop} {R : HP} {b x z : Nat} {md : Md} {S : List (Option (Nat × Pt))}
theorem stars_emps : ∀ {l : List HP}, (∀ a ∈ l, a = emp) → stars l = emp
  | [], _ => rfl
  | a :: l, h => by
    show a • stars l = emp
    rw [h a List.mem_cons_self, stars_emps fun a ha => h a (List.mem_cons_of_mem _ ha), star_emp]
theorem st_partG {ps : List (Option Nat)} {i : Nat} {p : Option Nat} (hi : i < 8) (hs : md.sers.length = 8) (hl : ps.length = 8) (h : Sat T w (own b (mdC md ps) • R)) (hk : ∀ w', Sat T w' (own b (mdC md (ps.set i p)) • R) → K undef w') :
    st P 47 (.pointer (some ⟨b, 2 + i, none⟩)) (pv p) w K := by
  have hz : szO P 47 = some 1 := by kernel_rfl
  have hsz : (mdA md ps).size = 18 := by simp [mdA, hl, hs]
  rw [st_eq, hz, onv_some]
  refine ⟨rfl, ?_⟩
  rw [h.get]
  show onv (stO (some (mdC md ps)) (2 + i) [pv p]) _
  unfold mdC
  rw [stO_one (by omega) rfl, onv_some, mdA_setPart (by omega)]
  exact hk _ (h.set _)
theorem st_capsP {p g m g' : Nat} {pt : Pt} (h : Sat T w (own p (ptC pt g m) • R)) (hk : ∀ w', Sat T w' (own p (ptC pt g' m) • R) → K undef w') : st P 55 (.pointer (some ⟨p, 0, none⟩)) (ptr g') w K := by
  have hg := h.get
  unfold ptC at hg
  have hz : szO P 55 = some 1 := by kernel_rfl
  simp [hg, st_eq, hz]
  exact hk _ (h.set (ptC pt g' m))
theorem st_objsP {p g m m' : Nat} {pt : Pt} (h : Sat T w (own p (ptC pt g m) • R)) (hk : ∀ w', Sat T w' (own p (ptC pt g m') • R) → K undef w') : st P 56 (.pointer (some ⟨p, 4, none⟩)) (.map (some m')) w K := by
  have hg := h.get
  unfold ptC at hg
  have hz : szO P 56 = some 1 := by kernel_rfl
  simp [hg, st_eq, hz]
  exact hk _ (h.set (ptC pt g m'))
theorem al_part : al P T_model_part w K = K (ptr w.heap.size) (pu w (.cells #[.pointer none, .int .i64 0, .int .i64 0, .int .i64 0, .map none, .int .i64 0] T_model_part (0, 0))) := by kernel_rfl

theorem Copy_p1_spec {zc : Nat} {arr : Value} (harr : arr = .agg ((ptrs S).map pv).toArray) (hok : md.ok) (e : pts S = md.parts) (hk : ∀ w' N, pts N = md.parts → Sat T w' (own b (mdC md (ptrs S)) • stars (S.map slotH) • own zc (mdC md (ptrs N)) • stars (N.map slotH) • R) → Q (ptr zc) w') :
    ∀ (d i : Nat) (N : List (Option (Nat × Pt))) (w : World), i + d = 8 → N.length = i → pts N = (pts S).take i →
      Sat T w (own b (mdC md (ptrs S)) • stars (S.map slotH) • own zc (mdC md (ptrs N ++ (ptrs S).drop i)) • stars (N.map slotH) • R) →
      model_Model_Copy_p1 (ptr zc) arr (.int .i64 (i : Int)) w Q := by
  have hl := pts_len hok e
  intro d
  induction d with
  | zero =>
    intro i N w hi hN hp h
    apply model_Model_Copy_k1
    unfold model_Model_Copy_b1
    obtain rfl : i = 8 := by omega
    simp
    have h1 : (ptrs S).drop 8 = [] := by rw [List.drop_eq_nil_iff]; simp [hl]
    have h2 : (pts S).take 8 = pts S := List.take_of_length_le (by simp [hl])
    rw [h1, List.append_nil] at h
    rw [h2] at hp
    exact hk w N (hp.trans e) h
  | succ d ih =>
    intro i N w hi hN hp h
    apply model_Model_Copy_k1
    unfold model_Model_Copy_b1
    have hlt : i < 8 := by omega
    have hx : ∀ K, ix P 48 arr (.int .i64 (i : Int)) w K = K (pv ((S.getD i none).map (·.1))) w := fun K => by
     rw [harr]
     exact ix_arr (w := w) (K := K) (t := 48) (e := 47) (n := 8) (cs := ((ptrs S).map pv).toArray) (i := (i : Int)) (v := pv ((S.getD i none).map (·.1))) (by kernel_rfl) (by kernel_rfl) (by kernel_rfl) (by omega) (by omega) (by
      simp [List.getD_eq_getElem?_getD, hl, hlt])
    have e8 : (i : Int) < 8 := by omega
    have hne := fun K x y => eqx_pv (w := w) (K := K) (x := x) (y := y) (t := 47) (by kernel_rfl) ((S.getD i none).map (·.1))
    have hwi : IntKind.i64.wrap ((i : Int) + 1) = ((i + 1 : Nat) : Int) := by rw [wrap_id (by omega) (by omega)]; rfl
    simp only [bin_lss, e8, decide_true, cn_true, hx, hne]
    have hpk := slot_pick (S := S) (i := i) (by omega)
    have hdr : (ptrs S).drop i = ((S.getD i none).map (·.1)) :: (ptrs S).drop (i + 1) := by
      rw [List.drop_eq_getElem_cons (by simp [hl]; omega)]
      simp [ptrs, List.getD_eq_getElem?_getD, hl, hlt]
    have htk : (pts S).take (i + 1) = (pts S).take i ++ [(S.getD i none).map (·.2)] := by
      rw [List.take_add_one]
      simp [pts, List.getD_eq_getElem?_getD, hl, hlt]
    generalize hS : S.getD i none = X at *
    cases X with
    | none =>
      simp only [Option.map_none, Option.isNone_none, cn_true, bin_add, hwi]
      refine ih (i + 1) (N ++ [none]) w (by omega) (by simp [hN]) ?_ (h.to ?_)
      · rw [htk, ← hp]; simp [pts]
      · rw [hdr]
        have e1 : ptrs (N ++ [none]) ++ (ptrs S).drop (i + 1) = ptrs N ++ (none : Option (Nat × Pt)).map (·.1) :: (ptrs S).drop (i + 1) := by simp [ptrs]
        have e2 : stars ((N ++ [none]).map slotH) = stars (N.map slotH) := by
          rw [List.map_append, stars_append]
          show _ • (emp • emp) = _
          simp
        rw [e1, e2]
    | some q =>
      simp only [Option.map_some, Option.isNone_some, cn_false, pv]
      have hqo : q.2.ok := by
        have hpt := pts_get e i
        rw [hS] at hpt
        exact hok.po q.2 (by
          have : md.parts.getD i none = some q.2 := hpt.symm
          rw [List.getD_eq_getElem?_getD] at this
          cases hx : md.parts[i]? with
          | none => rw [hx] at this; cases this
          | some y => rw [hx] at this; simp only [Option.getD_some] at this; rw [← this]; exact List.mem_of_getElem? hx)
      have h1 := h.to (show _ = PtH q.1 q.2 • stars ((S.map slotH).eraseIdx i) • own b (mdC md (ptrs S)) • own zc (mdC md (ptrs N ++ (ptrs S).drop i)) • stars (N.map slotH) • R by
        rw [hpk]; show _ • (PtH q.1 q.2 • _) • _ = _; ac_rfl)
      generalize hRR : stars ((S.map slotH).eraseIdx i) • own b (mdC md (ptrs S)) • own zc (mdC md (ptrs N ++ (ptrs S).drop i)) • stars (N.map slotH) • R = RR at h1
      obtain ⟨L, eL, hcap, h2⟩ := PtH.toL h1
      obtain ⟨g, m, h3⟩ := PtL.open h2
      have hg := h3.get
      have hld : ∀ K, ld P 58 (ptr q.1) w K = K (.agg #[ptr g, .int .i64 q.2.col, .int .i64 q.2.quota, .int .i64 q.2.peak, .map (some m), .int .i64 q.2.made]) w := fun K => by
        rw [ld_eq, hg]; rfl
      simp only [nc_ptr]
      rw [hld, show ∀ K, al P 58 w K = _ from fun K => al_part]
      have h4 := h3.push (.cells #[.pointer none, .int .i64 0, .int .i64 0, .int .i64 0, .map none, .int .i64 0] T_model_part (0, 0))
      generalize w.heap.size = nb at *
      generalize pu w _ = w1 at *
      refine st_whole (e := T_model_part) (n := 6) (vs := #[ptr g, .int .i64 q.2.col, .int .i64 q.2.quota, .int .i64 q.2.peak, .map (some m), .int .i64 q.2.made]) h4.get (by kernel_rfl) rfl rfl rfl ?_
      have h5 := h4.set (ptC q.2 g m)
      unfold ptC at h5
      generalize sb w1 nb _ = w2 at *
      have h5 : Sat T w2 (own nb (ptC q.2 g m) • own q.1 (ptC q.2 g m) • CpH g q.2.caps • MapH m (amap omV L) • sts omH L • RR) := h5
      have hg5 := (h5.to (star_left ..)).get
      unfold ptC at hg5
      simp [hg5, ld_eq]
      refine caps_Copy_spec hqo.caps (h5.dw.to (show _ = CpH g q.2.caps • own nb (ptC q.2 g m) • own q.1 (ptC q.2 g m) • MapH m (amap omV L) • sts omH L • RR by ac_rfl)) fun g' w3 h6 => ?_
      have hg6 := (h6.to (show _ = own q.1 (ptC q.2 g m) • CpH g' q.2.caps • CpH g q.2.caps • own nb (ptC q.2 g m) • MapH m (amap omV L) • sts omH L • RR by ac_rfl)).get
      unfold ptC at hg6
      simp [hg6]
      refine Clone_objs (h6.to (show _ = MapH m (amap omV L) • own nb (ptC q.2 g m) • own q.1 (ptC q.2 g m) • CpH g' q.2.caps • CpH g q.2.caps • sts omH L • RR by ac_rfl)) fun m' w4 h7 => ?_
      refine st_capsP (pt := q.2) (g := g) (m := m) (g' := g') (h7.to (show _ = own nb (ptC q.2 g m) • MapH m' (amap omV L) • MapH m (amap omV L) • own q.1 (ptC q.2 g m) • CpH g' q.2.caps • CpH g q.2.caps • sts omH L • RR by ac_rfl)) fun w5 h8 => ?_
      refine st_objsP (m' := m') h8 fun w6 h9 => ?_
      have hg9 := h9.get
      unfold ptC at hg9
      simp [hg9]
      obtain ⟨es, c, hm, h10⟩ := MapH.open (h9.to (show _ = MapH m' (amap omV L) • own nb (ptC q.2 g' m') • MapH m (amap omV L) • own q.1 (ptC q.2 g m) • CpH g' q.2.caps • CpH g q.2.caps • sts omH L • RR by ac_rfl))
      refine rg_map (k := T_int) (e := T_model_object) (by kernel_rfl) h10 fun it w7 h11 => ?_
      have hW : amap (fun q : Om × Bool => omV q.1) (L.map fun p => (p.1, p.2, false)) = amap omV L := by simp [amap]
      have hst : stars ((L.map fun p => ((p.1, p.2, false) : Int × Om × Bool)).map fun p => gH p.2) = emp := stars_emps fun a ha => by
        simp only [List.map_map, List.mem_map] at ha
        obtain ⟨p, -, rfl⟩ := ha
        simp [gH]
      refine Copy_p2_spec (c := c) (pt := q.2) (g' := g') (m' := m') (L := L) (R := MapH m (amap omV L) • own q.1 (ptC q.2 g m) • CpH g' q.2.caps • CpH g q.2.caps • RR) (fun p hp => ?_) (fun w8 M eM hMc h12 => ?_) _ (fun _ => false) (L.map fun p => (p.1, p.2, false)) #[] es w7 rfl ?_ (by rw [hW]; exact hm) (by simp) (h11.to (by rw [hst, emp_star]; ac_rfl))
      · have : (p.1, Om.ob p.2) ∈ q.2.objs := by rw [← eL]; exact List.mem_map_of_mem (f := fun p : Int × Om => (p.1, Om.ob p.2)) hp
        have := hqo.obs _ this
        exact ⟨fun e => by have h := this.1; simp only [Om.ob, e] at h; simp at h, this.2.1⟩
      · have h13 := PtL.toH (p := nb) (pt := q.2) (L := M) (by rw [eM, eL]) hMc (PtL.close (g := g') (m := m') (h12.to (show _ = own nb (ptC q.2 g' m') • CpH g' q.2.caps • MapH m' (amap omV M) • sts omH M • sts omH L • MapH m (amap omV L) • own q.1 (ptC q.2 g m) • CpH g q.2.caps • RR by ac_rfl)))
        have h14 := PtL.toH (p := q.1) (pt := q.2) (L := L) eL hcap (PtL.close (g := g) (m := m) (h13.to (show _ = own q.1 (ptC q.2 g m) • CpH g q.2.caps • MapH m (amap omV L) • sts omH L • PtH nb q.2 • RR by ac_rfl)))
        rw [← hRR] at h14
        have h15 := h14.to (show _ = own zc (mdC md (ptrs N ++ (ptrs S).drop i)) • PtH nb q.2 • stars (N.map slotH) • own b (mdC md (ptrs S)) • stars (S.map slotH) • R by
          rw [hpk]; show _ = _ • _ • _ • _ • (PtH q.1 q.2 • _) • _; ac_rfl)
        simp only [fa_51_1]
        rw [show ∀ K, ia P 48 (.pointer (some ⟨zc, 0 + 2, none⟩)) (.int .i64 (i : Int)) w8 K = K (.pointer (some ⟨zc, 2 + i, none⟩)) w8 from fun K => by simp [e8]]
        show st P 47 _ (pv (some nb)) w8 _
        refine st_partG hlt hok.sl (by simp [hN, hl]; omega) h15 fun w9 h16 => ?_
        rw [bin_add, hwi]
        refine ih (i + 1) (N ++ [some (nb, q.2)]) w9 (by omega) (by simp [hN]) ?_ (h16.to ?_)
        · rw [htk, ← hp]; simp [pts]
        · have e1 : (ptrs N ++ (ptrs S).drop i).set i (some nb) = ptrs (N ++ [some (nb, q.2)]) ++ (ptrs S).drop (i + 1) := by
            rw [hdr, List.set_append_right _ _ (by simp [hN])]
            simp [ptrs, hN]
          have e2 : stars ((N ++ [some (nb, q.2)]).map slotH) = stars (N.map slotH) • PtH nb q.2 := by
            rw [List.map_append, stars_append]
            show _ • (PtH nb q.2 • emp) = _
            simp
          rw [e1, e2]
          ac_rfl
      · refine ⟨by simp, fun j h1 h2 => ?_⟩
        have := hcap _ (List.getElem_mem h2)
        simp [this]
theorem Copy_spec (hok : md.ok) (h : Sat T w (MdH b md • R)) (hk : ∀ c w', Sat T w' (MdH c md • MdH b md • R) → Q (ptr c) w') : Cal P N_model_Model_Copy #[ptr b] w Q := by
  apply model_Model_Copy_k0
  unfold model_Model_Copy_b0
  obtain ⟨S, e, h1⟩ := MdH.open h
  have hl := pts_len hok e
  have hg := h1.get
  have hsz := mdA_size (md := md) hl hok.sl
  rw [eqx_ptr_nil (by kernel_rfl)]
  simp only [Option.isNone_some, cn_false, nc_ptr]
  have hld : ∀ K, ld P 51 (ptr b) w K = K (.agg (mdA md (ptrs S))) w := fun K => by
    rw [ld_eq, hg, ldO_51]
    unfold mdC
    rw [cellsO_some (by omega), Option.map_some, onv_some]
    have : (mdA md (ptrs S)).extract 0 (0 + 18) = mdA md (ptrs S) := by
      rw [show 0 + 18 = (mdA md (ptrs S)).size by omega]; simp
    rw [this]
  rw [hld]
  have hal : ∀ K, al P 51 w K = K (ptr w.heap.size) (pu w (mdC ⟨0, 0, [], List.replicate 8 0⟩ (List.replicate 8 none))) := fun K => by kernel_rfl
  rw [hal]
  have h2 := h1.push (mdC ⟨0, 0, [], List.replicate 8 0⟩ (List.replicate 8 none))
  generalize w.heap.size = zc at *
  generalize pu w _ = w1 at *
  refine st_whole (e := T_model_Model) (n := 18) h2.get (by kernel_rfl) hsz.symm rfl ?_ ?_
  · simp [mdA, iv, pv, List.all_map, Function.comp_def]
  have h3 := h2.set (mdC md (ptrs S))
  unfold mdC at h3
  generalize sb w1 zc _ = w2 at *
  have h3 : Sat T w2 (own zc (mdC md (ptrs S)) • own b (mdC md (ptrs S)) • stars (S.map slotH) • R) := h3
  have hg3 := (h3.to (star_left ..)).get
  have hc : cellsO (some (mdC md (ptrs S))) 2 8 = some ((ptrs S).map pv).toArray := by
    unfold mdC; rw [cellsO_some (by omega), arrV hl hok.sl]
  simp [hg3, ld_eq, hc]
  have := Copy_p1_spec (b := b) (R := R) (zc := zc) rfl hok e (fun w' N eN h' => hk zc w' (?_)) 8 0 [] w2 rfl rfl rfl (h3.to (by
    show _ = own b (mdC md (ptrs S)) • stars (S.map slotH) • own zc (mdC md (ptrs S)) • emp • R
    rw [emp_star]; ac_rfl))
  · simpa using this
  · have h4 := MdH.close (b := b) e (h'.to (show _ = own b (mdC md (ptrs S)) • stars (S.map slotH) • own zc (mdC md (ptrs N)) • stars (N.map slotH) • R by ac_rfl))
    exact MdH.close (b := zc) eN (h4.to (by ac_rfl))
end
end Go.Proofs.YtiffjkgbjklgnaaDoor
