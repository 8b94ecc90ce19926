/-
  The model: create, resize, destroy walked.
-/
import Derived.Test.YtiffjkgbjklgnaaDoorSV
namespace Go.Proofs.YtiffjkgbjklgnaaDoor
open Go Go.Eng Go.Lib
set_option maxRecDepth 20000
section
variable {T : Bs} {w : World} {Q : Value → World → Prop} {K : Value → World → Prop} {R : HP} {b : Nat} {md : Md} {S : List (Option (Nat × Pt))}
theorem bd_part {K : Value → World → Prop} (a : Option Addr) (x y z : Int) (m : Option Nat) : bd P T_model_part [(0, .pointer a), (1, .int .i64 x), (2, .int .i64 y), (3, .int .i64 z), (4, .map m)] w K = K (.agg #[.pointer a, .int .i64 x, .int .i64 y, .int .i64 z, .map m, .int .i64 0]) w := by kernel_rfl
/-- a slot is filled anew -/
theorem md_set {i : Nat} {q : Option (Nat × Pt)} (hi : i < 8) (hok : md.ok) (e : pts S = md.parts) (h : Sat T w (own b (mdC md ((ptrs S).set i (q.map (·.1)))) • slotH q • stars ((S.map slotH).eraseIdx i) • R)) :
    Sat T w (MdH b { md with parts := md.parts.set i (q.map (·.2)) } • R) := by
  have hl := pts_len hok e
  refine MdH.close (S := S.set i q) (by rw [← e]; simp [pts, List.map_set]) (h.to ?_)
  rw [slot_set (by omega)]
  have : ptrs (S.set i q) = (ptrs S).set i (q.map (·.1)) := by simp [ptrs, List.map_set]
  rw [this]
  show _ = own b (mdC md _) • (slotH q • _) • _
  ac_rfl
theorem st_part' {F : World → Prop} {i : Nat} {p : Option Nat} (hi : i < 8) (hok : md.ok) (hl : (ptrs S).length = 8) (h : Sat T w (own b (mdC md (ptrs S)) • R)) (hk : ∀ w', Sat T w' (own b (mdC md ((ptrs S).set i p)) • R) → F w') :
    onv (stO (w.heap[b]?) (2 + i) [pv p]) fun o => F (sb w b o) := by
  have hsz := mdA_size (md := md) (S := S) (by simpa using hl) hok.sl
  rw [h.get]
  unfold mdC
  rw [stO_one (by omega) rfl, onv_some, mdA_setPart (by omega)]
  exact hk _ (h.set _)
theorem st_part {i : Nat} {p : Option Nat} (hi : i < 8) (hok : md.ok) (hl : (ptrs S).length = 8) (h : Sat T w (own b (mdC md (ptrs S)) • R)) (hk : ∀ w', Sat T w' (own b (mdC md ((ptrs S).set i p)) • R) → K undef w') :
    st P 47 (.pointer (some ⟨b, 2 + i, none⟩)) (pv p) w K := by
  have hz : szO P 47 = some 1 := by kernel_rfl
  have hsz := mdA_size (md := md) (S := S) (by simpa using hl) hok.sl
  rw [st_eq, hz, onv_some]
  refine ⟨rfl, ?_⟩
  rw [h.get]
  show onv (stO (some (mdC md (ptrs S))) (2 + i) [pv p]) _
  unfold mdC
  rw [stO_one (by omega) rfl, onv_some, mdA_setPart (by omega)]
  exact hk _ (h.set _)

theorem destroy_spec {id : Int} (h0 : 0 ≤ id) (h8 : id < 8) (hok : md.ok) (h : Sat T w (MdH b md • R)) (hk : ∀ w', Sat T w' (MdH b (md.destroy id).2 • R) → Q (.int .i64 (md.destroy id).1) w') : Cal P N_model_Model_destroy #[ptr b, .int .i64 id] w Q := by
  apply model_Model_destroy_k0
  unfold model_Model_destroy_b0
  obtain ⟨S, e, h1⟩ := MdH.open h
  have hl := pts_len hok e
  have hg := h1.get
  have hp : cellA (mdA md (ptrs S)) (2 + id.toNat) = some (pv ((S.getD id.toNat none).map (·.1))) := by
    rw [mdA_part (by simp [hl]; omega), ptrs_get]
  have hpt : md.part id = (S.getD id.toNat none).map (·.2) := by rw [pts_get e]; exact part_in hok h0 h8
  have hpk := slot_pick (S := S) (i := id.toNat) (by omega)
  have he := fun K x y => eqx_pv (w := w) (K := K) (x := x) (y := y) (t := 47) (by kernel_rfl) ((S.getD id.toNat none).map (·.1))
  generalize hS : S.getD id.toNat none = X at *
  simp [hg, ld_eq, mdC, hp, h0, h8]
  rw [he]
  unfold Md.destroy at hk
  cases X with
  | none =>
    rw [hpt] at hk
    simp
    exact hk w h
  | some q =>
    have hpt' : md.part id = some q.2 := hpt
    rw [hpt'] at hk
    simp only at hk
    have h2 := h1.to (show _ = PtH q.1 q.2 • own b (mdC md (ptrs S)) • stars ((S.map slotH).eraseIdx id.toNat) • R by
      rw [hpk]; show _ • (PtH q.1 q.2 • _) • _ = _; ac_rfl)
    obtain ⟨g, m, h3⟩ := PtH.open h2
    have hgq := h3.get
    unfold ptC at hgq
    simp [pv, hgq, ld_eq]
    refine caps_Serial_spec (h3.dw.to (star_left ..)) ?_
    have h4 : Sat T (Eng.dw w) (own b (mdC md (ptrs S)) • stars ((S.map slotH).eraseIdx id.toNat) • R) := h2.dw.drop
    have hz : szO P 3 = some 1 := by kernel_rfl
    have hsz := mdA_size (md := md) hl hok.sl
    have hst : stO (some (mdC md (ptrs S))) (10 + id.toNat) [.int .i64 q.2.caps.next] = some (mdC { md with sers := md.sers.set id.toNat q.2.caps.next } (ptrs S)) := by
      unfold mdC
      rw [stO_int _ _ (by omega)]
      rw [← mdA_setSer (by simpa using hl)]; rfl
    simp [st_eq, hg, hst]
    have h5 := h4.set (mdC { md with sers := md.sers.set id.toNat q.2.caps.next } (ptrs S))
    generalize sb (Eng.dw w) b _ = w5 at *
    have hok' : ({ md with sers := md.sers.set id.toNat q.2.caps.next } : Md).ok := by
      have := Md.destroy_ok hok (id := id)
      unfold Md.destroy at this
      rw [hpt'] at this
      exact { hok with sl := this.sl, so := this.so }
    have hpv : Value.pointer none = pv ((none : Option (Nat × Pt)).map (·.1)) := rfl
    show onv (stO (w5.heap[b]?) (2 + id.toNat) [pv ((none : Option (Nat × Pt)).map (·.1))]) fun o => (fun w => Q (.int .i64 0) w) (sb w5 b o)
    refine st_part' (by omega) hok' (by simpa using hl) h5 fun w6 h6 => ?_
    refine hk w6 (md_set (md := { md with sers := md.sers.set id.toNat q.2.caps.next }) (q := none) (by omega) hok' e (h6.to ?_))
    show _ = _ • emp • _
    rw [emp_star]
theorem create_spec {id c q : Int} (h0 : 0 ≤ id) (h8 : id < 8) (hok : md.ok) (h : Sat T w (MdH b md • R)) (hk : ∀ w', Sat T w' (MdH b (md.create id c q).2 • R) → Q (.int .i64 (md.create id c q).1) w') : Cal P N_model_Model_create #[ptr b, .int .i64 id, .int .i64 c, .int .i64 q] w Q := by
  apply model_Model_create_k0
  unfold model_Model_create_b0
  obtain ⟨S, e, h1⟩ := MdH.open h
  have hl := pts_len hok e
  have hg := h1.get
  have hp : cellA (mdA md (ptrs S)) (2 + id.toNat) = some (pv ((S.getD id.toNat none).map (·.1))) := by
    rw [mdA_part (by simp [hl]; omega), ptrs_get]
  have hpt : md.part id = (S.getD id.toNat none).map (·.2) := by rw [pts_get e]; exact part_in hok h0 h8
  have he := fun K x y => neqx_pv (w := w) (K := K) (x := x) (y := y) (t := 47) (by kernel_rfl) ((S.getD id.toNat none).map (·.1))
  generalize hS : S.getD id.toNat none = X at *
  simp [hg, ld_eq, mdC, hp, h0, h8]
  rw [he]
  unfold Md.create at hk
  cases X with
  | some q' =>
    rw [hpt] at hk
    simp at hk ⊢
    exact hk w h
  | none =>
    rw [hpt] at hk
    simp only [Option.map_none, Option.isSome_none, Bool.false_eq_true, if_false] at hk
    simp
    refine may_spec h ?_
    by_cases hm : md.may c q = false
    · simp [hm] at hk ⊢
      exact hk w h
    · simp only [hm, if_false] at hk
      have hm : md.may c q = true := by simpa using hm
      obtain ⟨m1, m2⟩ := mayb hm
      have hcl := hok.cl
      simp [hm]
      refine room_spec hok (by omega) h fun w1 h2 => ?_
      refine demand_Fits_spec ?_
      by_cases hf : fitsS q (md.room c) = false
      · simp [hf] at hk ⊢
        exact hk w1 h2
      · simp only [hf, if_false] at hk
        have hf : fitsS q (md.room c) = true := by simpa using hf
        simp [hf]
        refine Free_spec hok h2 ?_
        by_cases hfr : md.free < c
        · simp [hfr] at hk ⊢
          exact hk w1 h2
        · simp only [hfr, if_false] at hk
          clear h h1 hg he hp hS hpt e hl
          clear S
          obtain ⟨S, e, h1⟩ := MdH.open h2
          have hl := pts_len hok e
          have hg := h1.get
          have hser := ser_ok hok (i := id.toNat) (by omega)
          have hs : cellA (mdA md (ptrs S)) (10 + id.toNat) = some (iv (md.sers.getD id.toNat 0)) := mdA_ser (by simpa using hl) (by rw [hok.sl]; omega)
          generalize md.sers.getD id.toNat 0 = se at *
          simp [hfr, hg, ld_eq, mdC, hs, h0, h8, iv]
          refine caps_New_spec (by omega) hser h2 fun g w3 h3 => ?_
          have h4 := h3.push (.map #[] 0)
          have h5 : Sat T _ (MapH w3.heap.size (amap omV []) • _) := MapH.close (es := #[]) (c := 0) mapOk_nil h4
          have hb := fun K => bd_part (w := pu w3 (.map #[] 0)) (K := K) (some ⟨g, 0, none⟩) c q q (some w3.heap.size)
          simp only [T_model_part] at hb
          simp [hb]
          have hsz : (pu w3 (.map #[] 0)).heap.size = w3.heap.size + 1 := pu_size ..
          generalize w3.heap.size = m at *
          generalize pu w3 _ = w4 at *
          have h6 := h5.push (.cells #[ptr g, .int .i64 c, .int .i64 q, .int .i64 q, .map (some m), .int .i64 0] 58 (0, 0))
          rw [hsz] at h6
          generalize m + 1 = p at *
          generalize pu w4 _ = w5 at *
          have h7 := PtL.toH (p := p) (pt := ⟨Cp.new id se, c, q, q, [], 0⟩) (L := []) rfl (by simp) (PtL.close (L := []) (g := g) (m := m) (h6.to (show _ = own p (ptC ⟨Cp.new id se, c, q, q, [], 0⟩ g m) • CpH g (Cp.new id se) • MapH m (amap omV []) • sts omH [] • MdH b md • R by
            show own p (ptC ⟨Cp.new id se, c, q, q, [], 0⟩ g m) • _ = _ • _ • _ • emp • _
            rw [emp_star]; ac_rfl)))
          clear h1 hg hs
          obtain ⟨S, e, h1⟩ := MdH.open (h7.to (star_left ..))
          have hl := pts_len hok e
          show st P 47 (.pointer (some ⟨b, 2 + id.toNat, none⟩)) (pv (some p)) w5 _
          refine st_part (by omega) hok (by simpa using hl) h1 fun w6 h8' => ?_
          have hpk := slot_pick (S := S) (i := id.toNat) (by omega)
          have h9 := h8'.to (show _ = slotH (S.getD id.toNat none) • own b (mdC md ((ptrs S).set id.toNat (some p))) • PtH p ⟨Cp.new id se, c, q, q, [], 0⟩ • stars ((S.map slotH).eraseIdx id.toNat) • R by
            rw [hpk]; ac_rfl)
          exact hk w6 (md_set (q := some (p, ⟨Cp.new id se, c, q, q, [], 0⟩)) (by omega) hok e h9.drop)
section
variable {p g m : Nat} {pt : Pt}
theorem st_peak {x : Int} (h : Sat T w (own p (ptC pt g m) • R)) (hk : ∀ w', Sat T w' (own p (ptC { pt with peak := x } g m) • R) → K undef w') : st P 3 (.pointer (some ⟨p, 3, none⟩)) (.int .i64 x) w K := by
  have hg := h.get
  unfold ptC at hg
  have hz : szO P 3 = some 1 := by kernel_rfl
  simp [hg, st_eq, hz]
  exact hk _ (h.set (ptC { pt with peak := x } g m))
theorem st_col {x : Int} (h : Sat T w (own p (ptC pt g m) • R)) (hk : ∀ w', Sat T w' (own p (ptC { pt with col := x } g m) • R) → K undef w') : st P 3 (.pointer (some ⟨p, 1, none⟩)) (.int .i64 x) w K := by
  have hg := h.get
  unfold ptC at hg
  have hz : szO P 3 = some 1 := by kernel_rfl
  simp [hg, st_eq, hz]
  exact hk _ (h.set (ptC { pt with col := x } g m))
theorem st_quota {x : Int} (h : Sat T w (own p (ptC pt g m) • R)) (hk : ∀ w', Sat T w' (own p (ptC { pt with quota := x } g m) • R) → K undef w') : st P 3 (.pointer (some ⟨p, 2, none⟩)) (.int .i64 x) w K := by
  have hg := h.get
  unfold ptC at hg
  have hz : szO P 3 = some 1 := by kernel_rfl
  simp [hg, st_eq, hz]
  exact hk _ (h.set (ptC { pt with quota := x } g m))
end
theorem resize_spec {id c q : Int} (h0 : 0 ≤ id) (h8 : id < 8) (hok : md.ok) (h : Sat T w (MdH b md • R)) (hk : ∀ w', Sat T w' (MdH b (md.resize id c q).2 • R) → Q (.int .i64 (md.resize id c q).1) w') : Cal P N_model_Model_resize #[ptr b, .int .i64 id, .int .i64 c, .int .i64 q] w Q := by
  apply model_Model_resize_k0
  unfold model_Model_resize_b0
  obtain ⟨S, e, h1⟩ := MdH.open h
  have hl := pts_len hok e
  have hg := h1.get
  have hp : cellA (mdA md (ptrs S)) (2 + id.toNat) = some (pv ((S.getD id.toNat none).map (·.1))) := by
    rw [mdA_part (by simp [hl]; omega), ptrs_get]
  have hpt : md.part id = (S.getD id.toNat none).map (·.2) := by rw [pts_get e]; exact part_in hok h0 h8
  have hpk := slot_pick (S := S) (i := id.toNat) (by omega)
  have he := fun K x y => eqx_pv (w := w) (K := K) (x := x) (y := y) (t := 47) (by kernel_rfl) ((S.getD id.toNat none).map (·.1))
  generalize hS : S.getD id.toNat none = X at *
  simp [hg, ld_eq, mdC, hp, h0, h8]
  rw [he]
  unfold Md.resize at hk
  cases X with
  | none =>
    rw [hpt] at hk
    simp
    exact hk w h
  | some p =>
    have hpt' : md.part id = some p.2 := hpt
    rw [hpt'] at hk
    simp only at hk
    have hpo := part_ok hok hpt'
    -- the part, apart, and back
    have away : ∀ {w'}, Sat T w' (own b (mdC md (ptrs S)) • stars (S.map slotH) • R) → Sat T w' (PtH p.1 p.2 • own b (mdC md (ptrs S)) • stars ((S.map slotH).eraseIdx id.toNat) • R) := fun {w'} h => h.to (by
      rw [hpk]; show _ • (PtH p.1 p.2 • _) • _ = _; ac_rfl)
    have back : ∀ {w'}, Sat T w' (PtH p.1 p.2 • own b (mdC md (ptrs S)) • stars ((S.map slotH).eraseIdx id.toNat) • R) → Sat T w' (own b (mdC md (ptrs S)) • stars (S.map slotH) • R) := fun {w'} h => h.to (by
      rw [hpk]; show _ = _ • (PtH p.1 p.2 • _) • _; ac_rfl)
    simp [pv]
    refine may_spec h ?_
    by_cases hm : md.may c q = false
    · simp [hm] at hk ⊢
      exact hk w h
    simp only [hm, if_false] at hk
    have hm : md.may c q = true := by simpa using hm
    obtain ⟨m1, m2⟩ := mayb hm
    have hcl := hok.cl
    simp [hm]
    refine part_charged_spec hpo (away h1) fun w1 h2 => ?_
    by_cases hq : q < chg p.2.objs
    · simp [hq] at hk ⊢
      exact hk w1 (MdH.close e (back h2))
    simp only [hq, if_false] at hk
    simp [hq]
    refine part_next_spec h2 ?_
    refine room_spec' hok (by omega) (MdH.close e (back h2)) ?_
    have h2 := h2.dw
    generalize Eng.dw w1 = w2 at *
    refine demand_Fits_spec ?_
    by_cases hf : fitsS (p.2.next q) (md.room c) = false
    · simp [hf] at hk ⊢
      exact hk w2 (MdH.close e (back h2))
    simp only [hf, if_false] at hk
    have hf : fitsS (p.2.next q) (md.room c) = true := by simpa using hf
    obtain ⟨g, m, h3⟩ := PtH.open h2
    have hgq := h3.get
    unfold ptC at hgq
    have hcol := hpo.col
    have hw : IntKind.i64.wrap (c - p.2.col) = c - p.2.col := wrap_id (by omega) (by omega)
    simp [hf, hgq, ld_eq, hw]
    refine Free_spec hok (MdH.close e (back h2.dw)) ?_
    by_cases hfr : md.free < c - p.2.col
    · simp [hgq, hw, hfr] at hk ⊢
      exact hk _ (MdH.close e (back h2.dw))
    simp only [hfr, if_false] at hk
    simp [hgq, hw, hfr]
    refine part_next_spec h2.dw ?_
    refine st_peak h3.dw fun w3 h4 => ?_
    refine st_col h4 fun w4 h5 => ?_
    refine st_quota h5 fun w5 h6 => ?_
    refine hk w5 (md_set (q := some (p.1, p.2.size c q)) (i := id.toNat) (by omega) hok e ?_)
    have h7 : Sat T w5 (PtH p.1 (p.2.size c q) • own b (mdC md (ptrs S)) • stars ((S.map slotH).eraseIdx id.toNat) • R) := PtH.close (g := g) (m := m) h6
    have hset : (ptrs S).set id.toNat (some p.1) = ptrs S := by
      have hx : S[id.toNat]? = some (some p) := by
        have hlt : id.toNat < S.length := by omega
        rw [List.getD_eq_getElem?_getD, List.getElem?_eq_getElem hlt, Option.getD_some] at hS
        rw [List.getElem?_eq_getElem hlt, hS]
      apply List.ext_getElem?
      intro j
      rw [List.getElem?_set]
      split
      · rename_i hj
        subst hj
        simp [ptrs, hx]
        omega
      · rfl
    simp only [Option.map_some, hset]
    exact h7.to (star_left ..)
end
end Go.Proofs.YtiffjkgbjklgnaaDoor
