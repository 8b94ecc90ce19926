/-
  The model's parts: realloc.
-/
import Derived.Test.YtiffjkgbjklgnaaDoorSR
namespace Go.Proofs.YtiffjkgbjklgnaaDoor
open Go Go.Eng Go.Lib
set_option maxRecDepth 20000
section
variable {T : Bs} {w : World} {Q : Value → World → Prop} {R : HP} {m p : Nat} {pt : Pt} {L : List (Int × Om)}
def objO (f : Option Om) : Obj := .cells #[opS f, .int .i64 (opI f)] T_model_object (0, 0)
theorem objO_get0 (f : Option Om) : cellO (some (objO f)) 0 = some (opS f) := rfl
theorem objO_get1 (f : Option Om) : cellO (some (objO f)) 1 = some (.int .i64 (opI f)) := rfl
theorem st_obj {K : Value → World → Prop} {b : Nat} {f : Option Om} (h : w.heap[b]? = some (.cells #[.slice none 0 0, .int .i64 0] T_model_object (0, 0))) (hk : K undef (sb w b (objO f))) : st P T_model_object (ptr b) (.agg #[opS f, .int .i64 (opI f)]) w K :=
  st_whole (n := 2) (vs := #[opS f, .int .i64 (opI f)]) h (by kernel_rfl) rfl rfl (by cases f <;> rfl) hk
theorem aget_len (hok : pt.ok) (e : amp Om.ob L = pt.objs) {k : Int} {x : Om} (h : aget L k = some x) : obOk x.ob := by
  have : aget pt.objs k = some (Om.ob x) := by rw [← e, aget_amp, h]; rfl
  exact aget_ok hok.obs this
/-- the old bytes go into a block of zeros -/
theorem cop_fit {K : Value → World → Prop} {t2 ty : TypeId} {b n c : Nat} {rest : List Value} {f : Option Om} {k : Int} (hf : aget L k = f) (h : Sat T w (own b (bytesO (List.replicate n 0) rest) • sts omH L • R))
    (hk : ∀ v w', Sat T w' (own b (bytesO (fitB (f.elim [] (·.b)) n) rest) • sts omH L • R) → K v w') : cop P #[T_sl_uint8, t2] ty [.slice (some ⟨b, 0, none⟩) n c, opS f] w K := by
  cases f with
  | none =>
    refine cop_nil rfl h (by omega) fun w' h' => ?_
    have : fitB ([] : List UInt8) n = List.replicate n 0 := by simp [fitB, splice]
    refine hk _ _ ?_
    show Sat T w' (own b (bytesO (fitB [] n) rest) • _)
    rw [this]; exact h'
  | some x =>
    have h1 := h.to (show _ = own b (bytesO (List.replicate n 0) rest) • own x.blk (bytesO x.b x.rest) • sts omH (adel L k) • R by
      rw [sts_get omH hf]; show _ • (own x.blk (bytesO x.b x.rest) • _) • R = _; ac_rfl)
    refine cop_slice (n2 := x.b.length) (by omega) (by simp) h1 fun w' h' => hk _ _ (h'.to ?_)
    rw [sts_get omH hf]
    show _ = own b (bytesO (splice (List.replicate n 0) 0 (x.b.take (min x.b.length n))) rest) • (own x.blk (bytesO x.b x.rest) • sts omH (adel L k)) • R
    ac_rfl
theorem obAt_b (e : amp Om.ob L = pt.objs) (k : Int) : (obAt pt.objs k).b = (aget L k).elim [] (·.b) := by
  unfold obAt; rw [← e, aget_amp]; cases aget L k <;> rfl
theorem opS_ne {f : Option Om} : oneV (opS f) = true := by cases f <;> rfl

theorem realloc_tail {n k : Int} {z : Nat} {X : Option Om} (hok : pt.ok) (e : amp Om.ob L = pt.objs) (hcap : ∀ q ∈ L, q.2.b.length ≤ q.2.cap) (hX : aget L k = X) (h : Sat T w (PtL p pt L • own z (objO X) • sts omH L • R))
    (hk : ∀ w', Sat T w' (PtH p (if (pt.make n).1.2 = 0 then ((pt.make n).1, ((pt.make n).2.moved pt.made n (X.elim [] (·.b))).drop k) else ((0, (pt.make n).1.2), (pt.make n).2)).2 • R) →
      Q (.tuple #[.int .u64 (if (pt.make n).1.2 = 0 then ((pt.make n).1, ((pt.make n).2.moved pt.made n (X.elim [] (·.b))).drop k) else ((0, (pt.make n).1.2), (pt.make n).2)).1.1, .int .i64 (if (pt.make n).1.2 = 0 then ((pt.make n).1, ((pt.make n).2.moved pt.made n (X.elim [] (·.b))).drop k) else ((0, (pt.make n).1.2), (pt.make n).2)).1.2]) w') :
    onv (cellO w.heap[p]? 5) fun v => Cal P 32 #[ptr p, .int .i64 n] w fun v34 w36 => ex P v34 0 w36 fun v35 w37 => ex P v34 1 w37 fun v36 w38 =>
      eqx P BinOp.neq 27 (Operand.tmp 67) (Operand.const (Value.int IntKind.i64 0)) v36 (Value.int IntKind.i64 0) w38 fun v37 w39 =>
        cn v37 (Q (Value.tuple #[Value.int IntKind.u64 0, v36]) w39)
          (onv (cellO w39.heap[p]? 4) fun v_1 => lk P 56 v_1 v false (dw w39) fun v41 w43 => w43 = dw w39 ∧ fd P 63 v41 0 (dw w39) fun v42 w44 => w44 = dw w39 ∧
            onv (cellO w39.heap[z]? 0) fun v => cop P #[61, 61] 3 [v42, v] (dw w39) fun v45 w47 => Cal P 34 #[ptr p, .int .i64 k] w47 fun v46 w48 => Q (Value.tuple #[v35, Value.int IntKind.i64 0]) w48) := by
  obtain ⟨g, m, hq⟩ := PtL.open h
  have hg := hq.get
  simp only [hg, cellO_some, ptC, cellA_succ, cellA_zero, onv_some]
  refine part_make_spec hok e h (fun h0 w1 h1 ho => ?_) (fun h0 w1 x hxo hxc h1 ho => ?_)
  · simp only [h0, if_false] at hk
    simp [h0]
    have h2 := h1.to (show _ = own z (objO X) • PtL p (pt.make n).2 L • sts omH L • R by ac_rfl)
    exact hk _ (PtL.toH (by rw [ho]; exact e) hcap h2.drop)
  · simp only [h0, if_true] at hk
    obtain ⟨g, m, h2⟩ := PtL.open h1
    have hg2 := h2.get
    have hz2 := (h2.to (show _ = own z (objO X) • own p (ptC (pt.make n).2 g m) • CpH g (pt.make n).2.caps • MapH m (amap omV (aput L pt.made x)) • omH x • sts omH L • R by ac_rfl)).get
    have hlk := fun K => lk_obj (K := K) (h2.dw.to (show _ = MapH m (amap omV (aput L pt.made x)) • own p (ptC (pt.make n).2 g m) • CpH g (pt.make n).2.caps • omH x • own z (objO X) • sts omH L • R by ac_rfl)) pt.made
    rw [aget_aput_same] at hlk
    have hfd := fun K => fd_op (w := Eng.dw w1) (K := K) (some x) (opI (some x))
    simp only [T_map_int_model_object, T_model_object] at hlk hfd
    simp only [ex_tuple, cellA_zero, cellA_succ, onv_some, h0, neqx_int, decide_true, Bool.not_true, cn_false, hg2, cellO_some, ptC, hlk, hfd, hz2, objO_get0, true_and]
    clear hlk hfd hg2 hz2
    have hlen : x.b.length = n.toNat := by
      have : x.b = List.replicate n.toNat 0 := congrArg Ob.b hxo
      rw [this]; simp
    have hb : x.b = List.replicate n.toNat 0 := congrArg Ob.b hxo
    have hc : x.c = chargeS n := congrArg Ob.c hxo
    have h3 := h2.dw.to (show _ = own x.blk (bytesO (List.replicate n.toNat 0) x.rest) • sts omH L • own p (ptC (pt.make n).2 g m) • CpH g (pt.make n).2.caps • MapH m (amap omV (aput L pt.made x)) • own z (objO X) • R by unfold omH; rw [hb]; ac_rfl)
    show cop P #[T_sl_uint8, T_sl_uint8] 3 [.slice (some ⟨x.blk, 0, none⟩) x.b.length x.cap, opS X] _ _
    rw [hlen]
    refine cop_fit hX h3 fun v w4 h4 => ?_
    have e1 : aput (aput L pt.made x) pt.made { x with b := fitB (X.elim [] (·.b)) n.toNat } = aput L pt.made { x with b := fitB (X.elim [] (·.b)) n.toNat } := aput_aput ..
    have e2 : amap omV (aput L pt.made { x with b := fitB (X.elim [] (·.b)) n.toNat }) = amap omV (aput L pt.made x) := by
      rw [← e1]
      exact aput_same (y := x) omV (by unfold omV; simp [fitB_len, hlen]) (aget_aput_same ..)
    have h5 : Sat T w4 (PtL p ((pt.make n).2.moved pt.made n (X.elim [] (·.b))) (aput L pt.made { x with b := fitB (X.elim [] (·.b)) n.toNat }) • omH { x with b := fitB (X.elim [] (·.b)) n.toNat } • sts omH L • own z (objO X) • R) := by
      refine PtL.close (g := g) (m := m) (h4.to ?_)
      rw [e2]
      show _ = own p (ptC (pt.make n).2 g m) • CpH g (pt.make n).2.caps • _
      unfold omH
      ac_rfl
    refine part_drop_spec (pt := (pt.make n).2.moved pt.made n (X.elim [] (·.b))) (Pt.make_ok hok n).caps h5 fun w6 h6 => ?_
    have h7 := Sat.stsDel k (Sat.stsPut pt.made _ (h6.to (show _ = omH { x with b := fitB (X.elim [] (·.b)) n.toNat } • sts omH L • PtL p (((pt.make n).2.moved pt.made n (X.elim [] (·.b))).drop k) (adel (aput L pt.made { x with b := fitB (X.elim [] (·.b)) n.toNat }) k) • own z (objO X) • R by ac_rfl)))
    have h8 := (h7.to (show _ = own z (objO X) • PtL p (((pt.make n).2.moved pt.made n (X.elim [] (·.b))).drop k) (adel (aput L pt.made { x with b := fitB (X.elim [] (·.b)) n.toNat }) k) • sts omH (adel (aput L pt.made { x with b := fitB (X.elim [] (·.b)) n.toNat }) k) • R by ac_rfl)).drop
    have := hk _ (PtL.toH ?_ ?_ h8)
    · exact this
    · show amp Om.ob (adel _ k) = adel (aput (pt.make n).2.objs pt.made ⟨fitB (X.elim [] (·.b)) n.toNat, chargeS n⟩) k
      rw [ho, aput_aput, adel_amp, aput_amp, e]
      simp only [Om.ob, hc]
    · intro q hq
      rcases aput_mem (adel_mem hq) with e | e
      · rw [e]; simp [fitB_len]; omega
      · exact hcap q e

set_option maxHeartbeats 1000000 in
theorem part_realloc_spec {h : Nat} {n : Int} (hh : h < 18446744073709551616) (hok : pt.ok) (hs : Sat T w (PtH p pt • R))
    (hk : ∀ w', Sat T w' (PtH p (pt.realloc h n).2 • R) → Q (.tuple #[.int .u64 (pt.realloc h n).1.1, .int .i64 (pt.realloc h n).1.2]) w') :
    Cal P N_model_part_realloc #[ptr p, .int .u64 h, .int .i64 n] w Q := by
  apply model_part_realloc_k0
  unfold model_part_realloc_b0
  obtain ⟨L, e, hcap, h0⟩ := PtH.toL hs
  obtain ⟨g, m, hq⟩ := PtL.open h0
  have hg := hq.get
  simp [hg, ld_eq, ptC]
  refine caps_Find_spec hh (hq.to (star_left ..)) fun w1 h1 => ?_
  have h1 := h1.to (star_left ..)
  have hg1 := h1.get
  unfold Pt.realloc at hk
  generalize hf : pt.caps.findR h 4 = f at *
  by_cases hf0 : f.2 = 0
  · simp only [hf0, if_true] at hk
    obtain ⟨-, ec⟩ := obAt_L e f.1
    have eb := obAt_b e f.1
    have hlk := fun K => lk_obj (K := K) (h1.to (show _ = MapH m (amap omV L) • own p (ptC pt g m) • CpH g pt.caps • sts omH L • R by ac_rfl)) f.1
    simp only [T_map_int_model_object] at hlk
    simp [hf0]
    simp [hg1, ptC]
    rw [hlk]
    have h2 := h1.push (.cells #[.slice none 0 0, .int .i64 0] T_model_object (0, 0))
    simp only [T_model_object] at h2
    generalize w1.heap.size = z at *
    generalize pu w1 _ = w2 at *
    generalize hX : aget L f.1 = X at *
    refine st_obj h2.get ?_
    have h3 := h2.set (objO X)
    generalize sb w2 z _ = w3 at *
    clear h1 hg1 hlk h2
    have hz := h3.get
    have h4 := h3.to (star_left ..)
    have hp := h4.get
    apply class_Of_spec
    by_cases hC : 0 ≤ ofS n ∧ chargeS n ≤ opI X
    · rw [ec, eb] at hk
      rw [if_pos hC] at hk
      obtain ⟨hA, hB⟩ := hC
      obtain ⟨c0, c1, c2⟩ := charge_le n
      obtain ⟨n0, n1, n2⟩ := c2 ((of_charge n).1 hA)
      simp [hA, hz, ld_eq, objO_get1]
      apply class_Charge_spec
      simp [hA, hB, hz, ld_eq, objO_get1]
      refine ⟨by omega, ?_⟩
      have h5 : Sat T (pu (Eng.dw w3) (Obj.cells (repC #[Value.int .u8 0] n.toNat) 5)) (own w3.heap.size (bytesO (List.replicate n.toNat 0) []) • own p (ptC pt g m) • own z (objO X) • CpH g pt.caps • MapH m (amap omV L) • sts omH L • R) := by
        rw [repC_bytes]; exact h4.dw.push (bytesO (List.replicate n.toNat 0) [])
      generalize pu (Eng.dw w3) (Obj.cells (repC #[Value.int .u8 0] n.toNat) 5) = w5 at *
      generalize w3.heap.size = b at *
      clear h3 h4 hz hp
      have h6 := h5.to (show _ = own z (objO X) • own b (bytesO (List.replicate n.toNat 0) []) • own p (ptC pt g m) • CpH g pt.caps • MapH m (amap omV L) • sts omH L • R by ac_rfl)
      have hz6 := h6.get
      simp only [hz6, objO_get0, onv_some]
      refine cop_fit hX (h6.to (show _ = own b (bytesO (List.replicate n.toNat 0) []) • sts omH L • own z (objO X) • own p (ptC pt g m) • CpH g pt.caps • MapH m (amap omV L) • R by ac_rfl)) fun v w7 h7 => ?_
      have h8 := h7.to (show _ = own p (ptC pt g m) • own z (objO X) • own b (bytesO (fitB (X.elim [] (·.b)) n.toNat) []) • sts omH L • CpH g pt.caps • MapH m (amap omV L) • R by ac_rfl)
      have hp8 := h8.get
      have hz8 := (h8.to (star_left ..)).get
      obtain ⟨o, hmu, h9⟩ := MapH.putO (h8.dw.to (show _ = MapH m (amap omV L) • own p (ptC pt g m) • own z (objO X) • own b (bytesO (fitB (X.elim [] (·.b)) n.toNat) []) • sts omH L • CpH g pt.caps • R by ac_rfl)) f.1 ⟨b, fitB (X.elim [] (·.b)) n.toNat, opI X, n.toNat, []⟩
      have hov : omV ⟨b, fitB (X.elim [] (·.b)) n.toNat, opI X, n.toNat, []⟩ = .agg #[.slice (some ⟨b, 0, none⟩) n.toNat n.toNat, .int .i64 (opI X)] := by unfold omV; simp [fitB_len]
      have hb := fun K => bd_object (w := Eng.dw w7) (K := K) (some ⟨b, 0, none⟩) n.toNat n.toNat (opI X)
      simp only [hov, T_map_int_model_object, T_model_object] at hmu h9 hb
      simp [hp8, ptC, hz8, objO_get1, hb, hmu]
      generalize sb (Eng.dw w7) m _ = w9 at *
      have h10 := h9.drop
      have ha : Sat T w9 (PtL p { pt with objs := aput pt.objs f.1 ⟨fitB (X.elim [] (·.b)) n.toNat, opI X⟩ } (aput L f.1 ⟨b, fitB (X.elim [] (·.b)) n.toNat, opI X, n.toNat, []⟩) • own z (objO X) • own b (bytesO (fitB (X.elim [] (·.b)) n.toNat) []) • sts omH L • R) :=
        PtL.close (g := g) (m := m) (h9.to (by simp only [ptC]; ac_rfl))
      have hbq : Sat T w9 (omH ⟨b, fitB (X.elim [] (·.b)) n.toNat, opI X, n.toNat, []⟩ • sts omH L • PtL p { pt with objs := aput pt.objs f.1 ⟨fitB (X.elim [] (·.b)) n.toNat, opI X⟩ } (aput L f.1 ⟨b, fitB (X.elim [] (·.b)) n.toNat, opI X, n.toNat, []⟩) • R) :=
        ((ha.to (show _ = own z (objO X) • own b (bytesO (fitB (X.elim [] (·.b)) n.toNat) []) • sts omH L • PtL p { pt with objs := aput pt.objs f.1 ⟨fitB (X.elim [] (·.b)) n.toNat, opI X⟩ } (aput L f.1 ⟨b, fitB (X.elim [] (·.b)) n.toNat, opI X, n.toNat, []⟩) • R by ac_rfl)).drop)
      have hc := Sat.stsPut f.1 _ hbq
      refine hk _ (PtL.toH (L := aput L f.1 ⟨b, fitB (X.elim [] (·.b)) n.toNat, opI X, n.toNat, []⟩) (by rw [aput_amp, e]; rfl) (fun q hq => ?_) (hc.to (by ac_rfl)))
      rcases aput_mem hq with e | e
      · rw [e]; simp [fitB_len]
      · exact hcap q e
    · rw [ec, eb] at hk
      rw [if_neg hC] at hk
      have h5 := PtL.close (g := g) (m := m) (h4.to (show _ = own p (ptC pt g m) • CpH g pt.caps • MapH m (amap omV L) • own z (objO X) • sts omH L • R by ac_rfl))
      have tl := realloc_tail (Q := Q) hok e hcap hX h5.dw hk
      by_cases hA : 0 ≤ ofS n
      · have hB : ¬ (chargeS n ≤ opI X) := fun hB => hC ⟨hA, hB⟩
        simp [hA, hz, ld_eq, objO_get1]
        apply class_Charge_spec
        simp [hA, hB, hz, ld_eq, objO_get1]
        exact tl
      · simp [hA, hz, ld_eq, objO_get1]
        exact tl
  · simp only [hf0, if_false] at hk
    simp [hf0]
    exact hk w1 (PtL.toH e hcap (PtL.close h1))
end
end Go.Proofs.YtiffjkgbjklgnaaDoor
