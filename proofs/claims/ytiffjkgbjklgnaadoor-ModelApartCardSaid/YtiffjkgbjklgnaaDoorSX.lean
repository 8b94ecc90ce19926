/-
  The model: Do, Object, New.
-/
import Derived.Test.YtiffjkgbjklgnaaDoorSW
namespace Go.Proofs.YtiffjkgbjklgnaaDoor
open Go Go.Eng Go.Lib
set_option maxRecDepth 20000

def Md.step (md : Md) (o : Op_) : An × Md :=
  if o.k = 1 then ({ e := (md.create o.t o.m o.n).1 }, (md.create o.t o.m o.n).2)
  else if o.k = 2 then ({ e := (md.resize o.t o.m o.n).1 }, (md.resize o.t o.m o.n).2)
  else if o.k = 3 then ({ e := (md.destroy o.t).1 }, (md.destroy o.t).2)
  else match md.part o.t with
    | none => ({ e := 6 }, md)
    | some p => ((p.does o).1, { md with parts := md.parts.set o.t.toNat (some (p.does o).2) })
def Md.does (md : Md) (o : Op_) : An × Md :=
  if o.bad then ({ e := 1 }, md) else ({ (md.step o).1 with c := chgO ((md.step o).2.part o.t) }, (md.step o).2)
def Md.object (md : Md) (id : Int) (h : Nat) : List UInt8 × Bool := match md.part id with
  | none => ([], false)
  | some p => if (p.caps.findR h 0).2 = 0 then ((obAt p.objs (p.caps.findR h 0).1).b, true) else ([], false)
def cfgOk (p c : Int) : Bool := decide (1 ≤ c) && decide (c ≤ 32) && decide (1 ≤ p) && decide (p ≤ 4096) && decide (p.tmod c = 0)
def Md.new (p c : Int) : Md := ⟨p, c, List.replicate 8 none, List.replicate 8 1⟩

theorem bad_range {o : Op_} (h : o.bad = false) : 1 ≤ o.k ∧ o.k ≤ 11 ∧ 0 ≤ o.t ∧ o.t < 8 ∧ o.d.size ≤ 8192 ∧ (0 < o.d.size → o.k = 10) := by
  unfold Op_.bad at h
  simp at h
  obtain ⟨⟨⟨⟨⟨h1, h2⟩, h3⟩, h4⟩, h5⟩, h6⟩ := h
  exact ⟨by omega, by omega, by omega, by omega, by omega, fun h => h6 h⟩
theorem Md.step_ok {md : Md} (hok : md.ok) {o : Op_} (h : o.bad = false) : (md.step o).2.ok := by
  obtain ⟨-, -, h0, h8, -⟩ := bad_range h
  unfold Md.step
  split
  · exact Md.create_ok hok h0 h8
  split
  · exact Md.resize_ok hok
  split
  · exact Md.destroy_ok hok
  · split
    · exact hok
    · rename_i p hp
      refine set_ok hok fun q hq => ?_
      injection hq with hq
      rw [← hq]
      exact Pt.does_ok (part_ok hok hp) o
theorem Md.does_ok {md : Md} (hok : md.ok) (o : Op_) : (md.does o).2.ok := by
  unfold Md.does
  split
  · exact hok
  · rename_i h; exact Md.step_ok hok (by simpa using h)
theorem Md.new_ok {p c : Int} (h : cfgOk p c = true) : (Md.new p c).ok := by
  unfold cfgOk at h
  simp at h
  obtain ⟨⟨⟨⟨h1, h2⟩, h3⟩, h4⟩, -⟩ := h
  exact { pg := ⟨h3, h4⟩, cl := ⟨h1, h2⟩, pl := by simp [Md.new], sl := by simp [Md.new], po := fun q hq => by simp [Md.new] at hq, so := fun s hs => by simp [Md.new] at hs; omega }
section
variable {T : Bs} {w : World} {Q : Value → World → Prop} {K : Value → World → Prop} {R : HP} {b x z : Nat} {md : Md} {S : List (Option (Nat × Pt))} {o : Op_} {a : An}
theorem Do_p1 (hok : md.ok) (h : Sat T w (own x (opC o) • own z (anC a) • MdH b md • R)) (hk : ∀ w', Sat T w' (MdH b md • R) → Q (anV { a with c := chgO (md.part o.t) }) w') : model_Model_Do_p1 (ptr b) (ptr x) (ptr z) w Q := by
  apply model_Model_Do_k1
  unfold model_Model_Do_b1
  have hx := h.get
  unfold opC opA at hx
  simp [hx, ld_eq]
  refine Charged_spec hok (h.to (show _ = MdH b md • own x (opC o) • own z (anC a) • R by ac_rfl)) fun w1 h1 => ?_
  refine an_c (h1.to (show _ = own z (anC a) • own x (opC o) • MdH b md • R by ac_rfl)) fun w2 h2 => ?_
  exact an_fin h2 fun w3 h3 => hk _ h3.drop
theorem bdO_answer {e : Int} : bd P T_api_Answer [(0, .int .i64 e)] w K = K (anV { e := e }) w := by kernel_rfl

theorem Do_nil (h : Sat T w R) (hk : ∀ w', Sat T w' R → Q (anV { e := 11 }) w') : Cal P N_model_Model_Do #[.pointer none, opV o] w Q := by
  apply model_Model_Do_k0
  unfold model_Model_Do_b0
  have h1 := h.push (opC o)
  unfold opV
  simp only [bx_eq, cells_agg]
  rw [show Obj.cells (opA o) 34 (0, 0) = opC o from rfl]
  generalize w.heap.size = x at *
  generalize pu w _ = w1 at *
  simp only [show ∀ K, al P 36 w1 K = K (ptr w1.heap.size) (pu w1 (anC {})) from fun K => al_an]
  have h2 := h1.push (anC {})
  generalize w1.heap.size = z at *
  generalize pu w1 _ = w2 at *
  rw [eqx_ptr_nil (by kernel_rfl)]
  simp only [Option.isNone_none, cn_true]
  rw [show ∀ K, bd P 36 [(0, .int .i64 11)] w2 K = K (anV { e := 11 }) w2 from fun K => bdO_answer]
  refine st_an h2 fun w3 h3 => ?_
  exact rl_eq (show ldO P 36 (w3.heap[z]?) 0 = some (anV { e := 11 }) by rw [h3.get]; exact ldO_an) (hk _ (h3.drop.drop))

set_option maxHeartbeats 1000000 in
theorem Do_spec (hh : o.h < 18446744073709551616) (hok : md.ok) (h : Sat T w (MdH b md • R)) (hk : ∀ w', Sat T w' (MdH b (md.does o).2 • R) → Q (anV (md.does o).1) w') : Cal P N_model_Model_Do #[ptr b, opV o] w Q := by
  apply model_Model_Do_k0
  unfold model_Model_Do_b0
  have h1 := h.push (opC o)
  unfold opV
  simp only [bx_eq, cells_agg]
  rw [show Obj.cells (opA o) 34 (0, 0) = opC o from rfl]
  generalize w.heap.size = x at *
  generalize pu w _ = w1 at *
  simp only [show ∀ K, al P 36 w1 K = K (ptr w1.heap.size) (pu w1 (anC {})) from fun K => al_an]
  have h2 := h1.push (anC {})
  generalize w1.heap.size = z at *
  generalize pu w1 _ = w2 at *
  clear h h1
  have hx := (h2.to (star_left ..)).get
  rw [eqx_ptr_nil (by kernel_rfl)]
  simp only [Option.isNone_some, cn_false]
  rw [ld_eq, hx, show ldO P 34 (some (opC o)) 0 = some (opV o) from ldO_op, onv_some]
  refine op_Check_spec h2 fun w3 h3 => ?_
  simp
  refine an_e (a := {}) h3 fun w4 h4 => ?_
  have hz4 := h4.get
  unfold anC anA at hz4
  unfold Md.does at hk
  by_cases hb : o.bad = true
  · have hc : o.check = 1 := by unfold Op_.check; rw [if_pos hb]
    rw [if_pos hb] at hk
    rw [hc] at h4 hz4
    simp [hz4, ld_eq]
    have := an_fin (Q := Q) (a := { e := 1 }) h4 fun w5 h5 => hk _ h5.drop
    rw [h4.get] at this
    exact this
  have hb : o.bad = false := by simpa using hb
  have hc : o.check = 0 := by unfold Op_.check; rw [if_neg (by simp [hb])]
  rw [if_neg (by simp [hb])] at hk
  rw [hc] at h4 hz4
  obtain ⟨k1, k2, t0, t8, d1, d2⟩ := bad_range hb
  have hsok := Md.step_ok hok hb
  obtain ⟨S, e, h5⟩ := MdH.open (h4.to (show _ = MdH b md • own z (anC {}) • own x (opC o) • R by ac_rfl))
  have hl := pts_len hok e
  have hg := h5.get
  have hx5 := (h4.to (show _ = own x (opC o) • own z (anC {}) • MdH b md • R by ac_rfl)).get
  have hp : cellA (mdA md (ptrs S)) (2 + o.t.toNat) = some (pv ((S.getD o.t.toNat none).map (·.1))) := by
    rw [mdA_part (by simp [hl]; omega), ptrs_get]
  have hpt : md.part o.t = (S.getD o.t.toNat none).map (·.2) := by rw [pts_get e]; exact part_in hok t0 t8
  have hpk := slot_pick (S := S) (i := o.t.toNat) (by omega)
  generalize hS : S.getD o.t.toNat none = X at *
  unfold opC opA at hx5
  have h6 : Sat T (Eng.dw w4) (MdH b md • own z (anC {}) • own x (opC o) • R) := (h4.to (show _ = MdH b md • own z (anC {}) • own x (opC o) • R by ac_rfl)).dw
  simp [hz4, ld_eq, hx5, hg, mdC, hp, t0, t8]
  have tail : ∀ {a : An} {w' : World}, (md.step o).1 = a → Sat T w' (own z (anC a) • MdH b (md.step o).2 • own x (opC o) • R) → model_Model_Do_p1 (ptr b) (ptr x) (ptr z) w' Q := fun {a w'} ha h =>
    Do_p1 hsok (h.to (show _ = own x (opC o) • own z (anC a) • MdH b (md.step o).2 • R by ac_rfl)) fun w'' h'' => by rw [← ha]; exact hk w'' h''
  unfold Md.step at tail
  by_cases c1 : o.k = 1
  · rw [if_pos c1] at tail
    simp [c1, hx5]
    refine create_spec t0 t8 hok h6 fun w7 h7 => ?_
    refine an_e (a := {}) (h7.to (star_left ..)) fun w8 h8 => ?_
    exact tail rfl h8
  rw [if_neg c1] at tail
  by_cases c2 : o.k = 2
  · rw [if_pos c2] at tail
    simp [c2, hx5]
    refine resize_spec t0 t8 hok h6 fun w7 h7 => ?_
    refine an_e (a := {}) (h7.to (star_left ..)) fun w8 h8 => ?_
    exact tail rfl h8
  rw [if_neg c2] at tail
  by_cases c3 : o.k = 3
  · rw [if_pos c3] at tail
    simp [c3, hx5]
    refine destroy_spec t0 t8 hok h6 fun w7 h7 => ?_
    refine an_e (a := {}) (h7.to (star_left ..)) fun w8 h8 => ?_
    exact tail rfl h8
  rw [if_neg c3] at tail
  simp [c1, c2, c3]
  rw [show ∀ K x y, eqx P .eql 47 x y (pv (X.map (·.1))) (.pointer none) (Eng.dw w4) K = K (.bool (X.map (·.1)).isNone) (Eng.dw w4) from fun K x y => eqx_pv (by kernel_rfl) _]
  rw [hpt] at tail
  cases X with
  | none =>
    simp
    refine an_e (a := {}) (h6.to (star_left ..)) fun w8 h8 => ?_
    exact tail rfl h8
  | some q =>
    simp [pv, hx5]
    have hho : Option.map Value.agg (cellsO (some (Obj.cells #[.int .i64 o.k, .int .i64 o.t, .int .i64 o.n, .int .i64 o.m, .int .u64 o.h, .string o.d] 34 (0, 0))) 0 6) = some (opV o) := rfl
    rw [hho, onv_some]
    have hpt' : md.part o.t = some q.2 := hpt
    have h7 := h5.dw.to (show _ = PtH q.1 q.2 • own b (mdC md (ptrs S)) • stars ((S.map slotH).eraseIdx o.t.toNat) • own z (anC {}) • own x (opC o) • R by
      rw [hpk]; show _ • (PtH q.1 q.2 • _) • _ = _; ac_rfl)
    refine part_do_spec hh (part_ok hok hpt') h7 fun w8 h8 => ?_
    refine st_an (h8.to (show _ = own z (anC {}) • PtH q.1 (q.2.does o).2 • own b (mdC md (ptrs S)) • stars ((S.map slotH).eraseIdx o.t.toNat) • own x (opC o) • R by ac_rfl)) fun w9 h9 => ?_
    refine tail rfl ?_
    have hset : (ptrs S).set o.t.toNat (some q.1) = ptrs S := by
      have hx : S[o.t.toNat]? = some (some q) := by
        have hlt : o.t.toNat < S.length := by omega
        rw [List.getD_eq_getElem?_getD, List.getElem?_eq_getElem hlt, Option.getD_some] at hS
        rw [List.getElem?_eq_getElem hlt, hS]
      apply List.ext_getElem?
      intro j
      rw [List.getElem?_set]
      split
      · rename_i hj
        subst hj
        simp [ptrs, hx]
        omega
      · rfl
    have h10 := md_set (md := md) (q := some (q.1, (q.2.does o).2)) (i := o.t.toNat) (by omega) hok e (h9.to (show _ = own b (mdC md ((ptrs S).set o.t.toNat (some q.1))) • PtH q.1 (q.2.does o).2 • stars ((S.map slotH).eraseIdx o.t.toNat) • own z (anC (q.2.does o).1) • own x (opC o) • R by
      rw [hset]; ac_rfl))
    exact h10.to (star_left ..)
end
end Go.Proofs.YtiffjkgbjklgnaaDoor
