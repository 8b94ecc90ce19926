/-
  The model's parts: do.
-/
import Derived.Test.YtiffjkgbjklgnaaDoorSS
namespace Go.Proofs.YtiffjkgbjklgnaaDoor
open Go Go.Eng Go.Lib
set_option maxRecDepth 20000

/-- an answer -/
structure An where
  e : Int := 0
  h : Nat := 0
  n : Int := 0
  d : List UInt8 := []
  c : Int := 0
deriving DecidableEq
def anA (a : An) : Array Value := #[.int .i64 a.e, .int .u64 a.h, .int .i64 0, .int .i64 a.n, .string (bstr a.d), .int .i64 a.c]
def anV (a : An) : Value := .agg (anA a)
def anC (a : An) : Obj := .cells (anA a) T_api_Answer (0, 0)
def Pt.wrote (pt : Pt) (k : Int) (i : Nat) (l : List UInt8) : Pt := match aget pt.objs k with
  | some ob => { pt with objs := aput pt.objs k ⟨splice ob.b i l, ob.c⟩ }
  | none => pt
def Pt.does (pt : Pt) (o : Op_) : An × Pt :=
  if o.k = 4 then ({ e := (pt.make o.n).1.2, h := (pt.make o.n).1.1 }, (pt.make o.n).2)
  else if o.k = 5 then ({ e := (pt.make o.asks).1.2, h := (pt.make o.asks).1.1 }, (pt.make o.asks).2)
  else if o.k = 6 then (if (pt.caps.findR o.h 4).2 = 0 then ({}, pt.drop (pt.caps.findR o.h 4).1) else ({ e := (pt.caps.findR o.h 4).2 }, pt))
  else if o.k = 7 then ({ e := (pt.realloc o.h o.n).1.2, h := (pt.realloc o.h o.n).1.1 }, (pt.realloc o.h o.n).2)
  else if o.k = 8 then (if (pt.caps.findR o.h 0).2 = 0 then ({ n := (obAt pt.objs (pt.caps.findR o.h 0).1).c }, pt) else ({ e := (pt.caps.findR o.h 0).2 }, pt))
  else if o.k = 9 then (if pt.spanE o.h 1 o.n o.m = 0 then ({ d := ((obAt pt.objs (pt.caps.findR o.h 1).1).b.drop o.n.toNat).take o.m.toNat }, pt) else ({ e := pt.spanE o.h 1 o.n o.m }, pt))
  else if o.k = 10 then (if pt.spanE o.h 2 o.n o.d.size = 0 then ({}, pt.wrote (pt.caps.findR o.h 2).1 o.n.toNat o.d.data.toList) else ({ e := pt.spanE o.h 2 o.n o.d.size }, pt))
  else if o.k = 11 then ({ e := (pt.caps.restrict o.h o.n).1.2, h := (pt.caps.restrict o.h o.n).1.1 }, { pt with caps := (pt.caps.restrict o.h o.n).2 })
  else ({}, pt)

section
variable {T : Bs} {w : World} {Q : Value → World → Prop} {K : Value → World → Prop} {R : HP} {m p z : Nat} {pt : Pt} {L : List (Int × Om)} {a : An} {o : Op_}
theorem al_an : al P T_api_Answer w K = K (ptr w.heap.size) (pu w (anC {})) := by kernel_rfl
theorem ldO_an {a : An} : ldO P T_api_Answer (some (anC a)) 0 = some (anV a) := ld_whole fun o i => by kernel_rfl
theorem st_an {a b : An} (h : Sat T w (own z (anC a) • R)) (hk : ∀ w', Sat T w' (own z (anC b) • R) → K undef w') : st P T_api_Answer (ptr z) (anV b) w K :=
  st_whole (n := 6) (vs := anA b) h.get (by kernel_rfl) rfl rfl rfl (hk _ (h.set (anC b)))
theorem an_e {e : Int} (h : Sat T w (own z (anC a) • R)) (hk : ∀ w', Sat T w' (own z (anC { a with e := e }) • R) → K undef w') : st P T_api_Errno (ptr z) (.int .i64 e) w K := by
  have hg := h.get
  unfold anC anA at hg
  have hz : szO P T_api_Errno = some 1 := by kernel_rfl
  simp [hg, st_eq, hz]
  exact hk _ (h.set (anC { a with e := e }))
theorem an_h {x : Nat} (h : Sat T w (own z (anC a) • R)) (hk : ∀ w', Sat T w' (own z (anC { a with h := x }) • R) → K undef w') : st P T_uint64 (.pointer (some ⟨z, 1, none⟩)) (.int .u64 x) w K := by
  have hg := h.get
  unfold anC anA at hg
  have hz : szO P T_uint64 = some 1 := by kernel_rfl
  simp [hg, st_eq, hz]
  exact hk _ (h.set (anC { a with h := x }))
theorem an_n {x : Int} (h : Sat T w (own z (anC a) • R)) (hk : ∀ w', Sat T w' (own z (anC { a with n := x }) • R) → K undef w') : st P T_int (.pointer (some ⟨z, 3, none⟩)) (.int .i64 x) w K := by
  have hg := h.get
  unfold anC anA at hg
  have hz : szO P T_int = some 1 := by kernel_rfl
  simp [hg, st_eq, hz]
  exact hk _ (h.set (anC { a with n := x }))
theorem an_c {x : Int} (h : Sat T w (own z (anC a) • R)) (hk : ∀ w', Sat T w' (own z (anC { a with c := x }) • R) → K undef w') : st P T_int (.pointer (some ⟨z, 5, none⟩)) (.int .i64 x) w K := by
  have hg := h.get
  unfold anC anA at hg
  have hz : szO P T_int = some 1 := by kernel_rfl
  simp [hg, st_eq, hz]
  exact hk _ (h.set (anC { a with c := x }))
theorem an_d {x : List UInt8} (h : Sat T w (own z (anC a) • R)) (hk : ∀ w', Sat T w' (own z (anC { a with d := x }) • R) → K undef w') : st P T_string (.pointer (some ⟨z, 4, none⟩)) (.string (bstr x)) w K := by
  have hg := h.get
  unfold anC anA at hg
  have hz : szO P T_string = some 1 := by kernel_rfl
  simp [hg, st_eq, hz]
  exact hk _ (h.set (anC { a with d := x }))
theorem an_fin (h : Sat T w (own z (anC a) • R)) (hk : ∀ w', Sat T w' R → Q (anV a) w') : onv (Option.map Value.agg (cellsO (w.heap[z]?) 0 6)) fun v => st P 36 (ptr z) v w fun _ w2 => rl P 36 (ptr z) w2 fun v2 => Q v2 w2 := by
  rw [h.get, show Option.map Value.agg (cellsO (some (anC a)) 0 6) = some (anV a) from rfl, onv_some]
  refine st_an h fun w1 h1 => ?_
  exact rl_eq (show ldO P 36 (w1.heap[z]?) 0 = some (anV a) by rw [h1.get]; exact ldO_an) (hk _ h1.drop)

theorem part_makeH {n : Int} (hok : pt.ok) (h : Sat T w (PtH p pt • R)) (hk : ∀ w', Sat T w' (PtH p (pt.make n).2 • R) → Q (.tuple #[.int .u64 (pt.make n).1.1, .int .i64 (pt.make n).1.2]) w') : Cal P N_model_part_make #[ptr p, .int .i64 n] w Q := by
  obtain ⟨L, e, hcap, h1⟩ := PtH.toL h
  refine part_make_spec hok e h1 (fun h0 w1 h2 ho => hk _ (PtL.toH (by rw [ho]; exact e) hcap h2)) (fun h0 w1 x hxo hxc h2 ho => ?_)
  refine hk _ (PtL.toH (L := aput L pt.made x) (by rw [ho, aput_amp, e]) (fun q hq => ?_) ((Sat.stsPut pt.made x (h2.to (show _ = omH x • sts omH L • PtL p (pt.make n).2 (aput L pt.made x) • R by ac_rfl))).to (star_left ..)))
  rcases aput_mem hq with e | e
  · rw [e]; exact hxc
  · exact hcap q e

set_option maxHeartbeats 2000000 in
theorem part_do_spec (hh : o.h < 18446744073709551616) (hok : pt.ok) (hs : Sat T w (PtH p pt • R)) (hk : ∀ w', Sat T w' (PtH p (pt.does o).2 • R) → Q (anV (pt.does o).1) w') : Cal P N_model_part_do #[ptr p, opV o] w Q := by
  apply model_part_do_k0
  unfold model_part_do_b0
  have h1 := hs.push (opC o)
  unfold opV
  simp only [bx_eq, cells_agg]
  rw [show Obj.cells (opA o) 34 (0, 0) = opC o from rfl]
  generalize w.heap.size = x at *
  generalize pu w _ = w1 at *
  simp only [show ∀ K, al P 36 w1 K = K (ptr w1.heap.size) (pu w1 (anC {})) from fun K => al_an]
  have h2 := h1.push (anC {})
  generalize w1.heap.size = z at *
  generalize pu w1 _ = w2 at *
  have hx := (h2.to (star_left ..)).get
  unfold opC opA at hx
  simp only [T_api_Op] at hx
  have hp2 := h2.to (show _ = PtH p pt • own z (anC {}) • own x (opC o) • R by ac_rfl)
  have h2' := h2.to (show _ = own z (anC {}) • PtH p pt • own x (opC o) • R by ac_rfl)
  clear hs h1
  unfold Pt.does at hk
  have fin : ∀ {a : An} {pt' : Pt} {w' : World}, Sat T w' (own z (anC a) • PtH p pt' • own x (opC o) • R) → (∀ w', Sat T w' (PtH p pt' • R) → Q (anV a) w') →
      onv (Option.map Value.agg (cellsO (w'.heap[z]?) 0 6)) fun v => st P 36 (ptr z) v w' fun _ w2 => rl P 36 (ptr z) w2 fun v2 => Q v2 w2 := fun {a pt' w'} h hk =>
    an_fin h fun w'' h'' => hk _ ((h''.to (show _ = own x (opC o) • PtH p pt' • R by ac_rfl)).drop)
  by_cases k4 : o.k = 4
  · rw [if_pos k4] at hk
    simp [hx, ld_eq, k4]
    refine part_makeH hok hp2 fun w3 h3 => ?_
    simp
    refine an_h (a := {}) (h3.to (star_left ..)) fun w4 h4 => ?_
    refine an_e h4 fun w5 h5 => ?_
    exact fin h5 hk
  by_cases k5 : o.k = 5
  · rw [if_neg k4, if_pos k5] at hk
    simp [hx, ld_eq, k5]
    have ho : Option.map Value.agg (cellsO (some (Obj.cells #[.int .i64 5, .int .i64 o.t, .int .i64 o.n, .int .i64 o.m, .int .u64 o.h, .string o.d] 34 (0, 0))) 0 6) = some (opV o) := by
      unfold opV opA; rw [k5]; rfl
    rw [ho, onv_some]
    refine op_Asks_spec (o := o) hp2 fun w3 h3 => ?_
    refine part_makeH hok h3 fun w3 h3 => ?_
    simp
    refine an_h (a := {}) (h3.to (star_left ..)) fun w4 h4 => ?_
    refine an_e h4 fun w5 h5 => ?_
    exact fin h5 (by simpa using hk)
  by_cases k6 : o.k = 6
  · rw [if_neg k4, if_neg k5, if_pos k6] at hk
    obtain ⟨L, e, hcap, h3⟩ := PtH.toL hp2
    obtain ⟨g, m, h4⟩ := PtL.open h3
    have hg := h4.get
    unfold ptC at hg
    simp [hx, ld_eq, k6, hg]
    refine caps_Find_spec hh (h4.dw.to (star_left ..)) fun w3 h5 => ?_
    have h6 := PtL.close (g := g) (m := m) (h5.to (star_left ..))
    generalize pt.caps.findR o.h 4 = f at *
    simp
    refine an_e (a := {}) (h6.to (show _ = own z (anC {}) • PtL p pt L • sts omH L • own x (opC o) • R by ac_rfl)) fun w4 h7 => ?_
    by_cases hf : f.2 = 0
    · simp [hf] at hk ⊢
      refine part_drop_spec hok.caps (h7.to (show _ = PtL p pt L • own z (anC { e := f.2 }) • sts omH L • own x (opC o) • R by ac_rfl)) fun w5 h8 => ?_
      have h9 := Sat.stsDel f.1 (h8.to (show _ = sts omH L • PtL p (pt.drop f.1) (adel L f.1) • own z (anC { e := f.2 }) • own x (opC o) • R by ac_rfl))
      have h10 := PtL.toH (L := adel L f.1) (pt := pt.drop f.1) (by show _ = adel pt.objs f.1; rw [adel_amp, e]) (fun q hq => hcap q (adel_mem hq)) (h9.to (star_left ..))
      rw [hf] at h10
      exact fin (h10.to (star_left ..)) hk
    · simp [hf] at hk ⊢
      exact fin (a := { e := f.2 }) ((PtL.toH e hcap (h7.to (show _ = PtL p pt L • sts omH L • own z (anC { e := f.2 }) • own x (opC o) • R by ac_rfl))).to (star_left ..)) hk
  by_cases k7 : o.k = 7
  · rw [if_neg k4, if_neg k5, if_neg k6, if_pos k7] at hk
    simp [hx, ld_eq, k7]
    refine part_realloc_spec hh hok hp2 fun w3 h3 => ?_
    simp
    refine an_h (a := {}) (h3.to (star_left ..)) fun w4 h4 => ?_
    refine an_e h4 fun w5 h5 => ?_
    exact fin h5 (by simpa using hk)
  by_cases k8 : o.k = 8
  · rw [if_neg k4, if_neg k5, if_neg k6, if_neg k7, if_pos k8] at hk
    obtain ⟨L, e, hcap, h3⟩ := PtH.toL hp2
    obtain ⟨g, m, h4⟩ := PtL.open h3
    have hg := h4.get
    unfold ptC at hg
    simp [hx, ld_eq, k8, hg]
    refine caps_Find_spec hh (h4.dw.to (star_left ..)) fun w3 h5 => ?_
    generalize pt.caps.findR o.h 0 = f at *
    simp
    refine an_e (a := {}) (h5.to (show _ = own z (anC {}) • own p (ptC pt g m) • CpH g pt.caps • MapH m (amap omV L) • sts omH L • own x (opC o) • R by ac_rfl)) fun w4 h7 => ?_
    by_cases hf : f.2 = 0
    · simp [hf] at hk ⊢
      have hg4 := (h7.to (star_left ..)).get
      unfold ptC at hg4
      have hlk := fun K => lk_obj (K := K) (h7.to (show _ = MapH m (amap omV L) • own p (ptC pt g m) • CpH g pt.caps • own z (anC { e := f.2 }) • sts omH L • own x (opC o) • R by ac_rfl)) f.1
      obtain ⟨-, ec⟩ := obAt_L e f.1
      have hfd : ∀ (X : Option Om) (y : Int) K, fd P T_model_object (.agg #[opS X, .int .i64 y]) 1 w4 K = K (.int .i64 y) w4 := fun X y K => by cases X <;> exact fd_obj1 ..
      simp only [T_map_int_model_object, T_model_object] at hlk hfd
      simp [hg4, hlk, hfd]
      refine an_n h7 fun w5 h8 => ?_
      have h9 := PtL.toH e hcap ((PtL.close (g := g) (m := m) (h8.to (show _ = own p (ptC pt g m) • CpH g pt.caps • MapH m (amap omV L) • sts omH L • own z (anC { e := f.2, n := opI (aget L f.1) }) • own x (opC o) • R by ac_rfl))))
      rw [hf, ← ec] at h9
      exact fin (h9.to (star_left ..)) hk
    · simp [hf] at hk ⊢
      have h9 := PtL.toH e hcap ((PtL.close (g := g) (m := m) (h7.to (show _ = own p (ptC pt g m) • CpH g pt.caps • MapH m (amap omV L) • sts omH L • own z (anC { e := f.2 }) • own x (opC o) • R by ac_rfl))))
      exact fin (a := { e := f.2 }) (h9.to (star_left ..)) hk
  by_cases k9 : o.k = 9
  · rw [if_neg k4, if_neg k5, if_neg k6, if_neg k7, if_neg k8, if_pos k9] at hk
    obtain ⟨L, e, hcap, h3⟩ := PtH.toL hp2
    simp [hx, ld_eq, k9]
    have hob := obAt_b e (pt.caps.findR o.h 1).1
    have back : ∀ {a : An} {w' : World}, Sat T w' (own z (anC a) • PtL p pt L • sts omH L • own x (opC o) • R) → Sat T w' (own z (anC a) • PtH p pt • own x (opC o) • R) := fun {a w'} h =>
      (PtL.toH e hcap (h.to (show _ = PtL p pt L • sts omH L • own z (anC a) • own x (opC o) • R by ac_rfl))).to (star_left ..)
    refine part_span_spec hh hok e hcap h3 (fun he w3 h4 => ?_) (fun he w3 h4 => ?_)
    · have h4 := h4.to (show _ = own z (anC {}) • PtL p pt L • sts omH L • own x (opC o) • R by ac_rfl)
      simp [he] at hk ⊢
      rw [show ∀ K, cv P 61 9 (.slice none 0 0) w3 K = K (.string (bstr [])) w3 from fun K => cv_bytes_nil]
      refine an_d h4 fun w5 h5 => an_e h5 fun w6 h6 => ?_
      exact fin (back h6) hk
    · have h4 := h4.to (show _ = own z (anC {}) • PtL p pt L • sts omH L • own x (opC o) • R by ac_rfl)
      simp only [he, if_true] at hk
      simp
      unfold Pt.spanE at he
      split at he
      · rename_i hf
        split at he
        · cases he
        · rename_i hn
          obtain ⟨ebl, -⟩ := obAt_L e (pt.caps.findR o.h 1).1
          rw [ebl] at hn
          generalize hX : aget L (pt.caps.findR o.h 1).1 = X at *
          rw [hob] at hk
          cases X with
          | none =>
            simp only [spanV]
            rw [show ∀ K, cv P 61 9 (.slice none 0 0) w3 K = K (.string (bstr [])) w3 from fun K => cv_bytes_nil]
            refine an_d h4 fun w5 h5 => an_e h5 fun w6 h6 => ?_
            exact fin (back h6) (by simpa using hk)
          | some y =>
            simp only [opN] at hn
            have hy := (h4.to (show _ = own y.blk (bytesO y.b y.rest) • sts omH (adel L (pt.caps.findR o.h 1).1) • own z (anC {}) • PtL p pt L • own x (opC o) • R by
              rw [sts_get omH hX]; show _ • _ • (own y.blk (bytesO y.b y.rest) • _) • _ = _; ac_rfl)).get
            have hc := hcap _ (aget_mem hX)
            simp only at hc
            have hd : (y.b.drop (if y.cap = o.n.toNat then 0 else o.n.toNat)).take o.m.toNat = (y.b.drop o.n.toNat).take o.m.toNat := by
              split
              · have : o.m.toNat = 0 := by omega
                rw [this]; simp
              · rfl
            simp only [spanV]
            rw [show ∀ K, cv P 61 9 (.slice (some ⟨y.blk, if y.cap = o.n.toNat then 0 else o.n.toNat, none⟩) o.m.toNat (y.cap - o.n.toNat)) w3 K = K (.string (bstr ((y.b.drop o.n.toNat).take o.m.toNat))) w3 from fun K => by
              rw [← hd]; exact cv_bytes hy (by split <;> omega)]
            refine an_d h4 fun w5 h5 => an_e h5 fun w6 h6 => ?_
            exact fin (back h6) (by simpa using hk)
      · rename_i hf; exact absurd he hf
  by_cases k10 : o.k = 10
  · rw [if_neg k4, if_neg k5, if_neg k6, if_neg k7, if_neg k8, if_neg k9, if_pos k10] at hk
    obtain ⟨L, e, hcap, h3⟩ := PtH.toL hp2
    simp [hx, ld_eq, k10]
    have back : ∀ {a : An} {w' : World}, Sat T w' (own z (anC a) • PtL p pt L • sts omH L • own x (opC o) • R) → Sat T w' (own z (anC a) • PtH p pt • own x (opC o) • R) := fun {a w'} h =>
      (PtL.toH e hcap (h.to (show _ = PtL p pt L • sts omH L • own z (anC a) • own x (opC o) • R by ac_rfl))).to (star_left ..)
    refine part_span_spec hh hok e hcap h3 (fun he w3 h4 => ?_) (fun he w3 h4 => ?_)
    · have h4 := h4.to (show _ = own z (anC {}) • PtL p pt L • sts omH L • own x (opC o) • R by ac_rfl)
      have hx3 := (h4.to (show _ = own x (opC o) • own z (anC {}) • PtL p pt L • sts omH L • R by ac_rfl)).get
      unfold opC opA at hx3
      simp [he] at hk ⊢
      simp [hx3]
      refine cop_to_nil rfl fun v => ?_
      refine an_e h4 fun w6 h6 => ?_
      exact fin (back h6) hk
    · have h4 := h4.to (show _ = own z (anC {}) • PtL p pt L • sts omH L • own x (opC o) • R by ac_rfl)
      have hx3 := (h4.to (show _ = own x (opC o) • own z (anC {}) • PtL p pt L • sts omH L • R by ac_rfl)).get
      unfold opC opA at hx3
      simp only [he, if_true] at hk
      simp [hx3]
      unfold Pt.spanE at he
      split at he
      · rename_i hf
        split at he
        · cases he
        · rename_i hn
          obtain ⟨ebl, -⟩ := obAt_L e (pt.caps.findR o.h 2).1
          rw [ebl] at hn
          have hag : aget pt.objs (pt.caps.findR o.h 2).1 = (aget L (pt.caps.findR o.h 2).1).map Om.ob := by rw [← e, aget_amp]
          unfold Pt.wrote at hk
          rw [hag] at hk
          generalize hX : aget L (pt.caps.findR o.h 2).1 = X at *
          generalize (pt.caps.findR o.h 2).1 = k at *
          cases X with
          | none =>
            simp only [spanV]
            refine cop_to_nil rfl fun v => ?_
            refine an_e h4 fun w6 h6 => ?_
            exact fin (back h6) hk
          | some y =>
            simp only [opN] at hn
            have hc := hcap _ (aget_mem hX)
            simp only at hc
            have hds : o.d.data.toList.length = o.d.size := by rw [Array.length_toList]; rfl
            have hd : splice y.b (if y.cap = o.n.toNat then 0 else o.n.toNat) o.d.data.toList = splice y.b o.n.toNat o.d.data.toList := by
              split
              · have : o.d.data.toList = [] := List.eq_nil_of_length_eq_zero (by omega)
                rw [this]; simp [splice]
              · rfl
            simp only [spanV]
            have h5 := h4.to (show _ = own y.blk (bytesO y.b y.rest) • sts omH (adel L k) • own z (anC {}) • PtL p pt L • own x (opC o) • R by
              rw [sts_get omH hX]; show _ • _ • (own y.blk (bytesO y.b y.rest) • _) • _ = _; ac_rfl)
            refine cop_str (by simp) (by simp only [Int.toNat_natCast]; split <;> omega) h5 fun v w6 h6 => ?_
            rw [hd] at h6
            refine an_e (h6.to (show _ = own z (anC {}) • own y.blk (bytesO (splice y.b o.n.toNat o.d.data.toList) y.rest) • sts omH (adel L k) • PtL p pt L • own x (opC o) • R by ac_rfl)) fun w7 h7 => ?_
            have e2 : amp omV (aput L k { y with b := splice y.b o.n.toNat o.d.data.toList }) = amp omV L := aput_same (y := y) omV (by unfold omV; simp [splice_len (show o.n.toNat + o.d.data.toList.length ≤ y.b.length by omega)]) hX
            have h8 : Sat T w7 (PtH p { pt with objs := aput pt.objs k ⟨splice y.b o.n.toNat o.d.data.toList, y.c⟩ } • own z (anC {}) • own x (opC o) • R) := by
              refine PtL.toH (L := aput L k { y with b := splice y.b o.n.toNat o.d.data.toList }) (by rw [aput_amp, e]; rfl) (fun q hq => ?_) (h7.to ?_)
              · rcases aput_mem hq with e | e
                · rw [e]; simp [splice_len (show o.n.toNat + o.d.data.toList.length ≤ y.b.length by omega)]; exact hc
                · exact hcap q e
              · have e3 : PtL p { pt with objs := aput pt.objs k ⟨splice y.b o.n.toNat o.d.data.toList, y.c⟩ } (aput L k { y with b := splice y.b o.n.toNat o.d.data.toList }) = PtL p pt L := by
                  unfold PtL ptC
                  rw [show amap omV (aput L k { y with b := splice y.b o.n.toNat o.d.data.toList }) = amap omV L from e2]
                rw [e3, sts_put]
                show _ = PtL p pt L • (own y.blk (bytesO (splice y.b o.n.toNat o.d.data.toList) y.rest) • sts omH (adel L k)) • _
                ac_rfl
            exact fin (h8.to (star_left ..)) hk
      · rename_i hf; exact absurd he hf
  by_cases k11 : o.k = 11
  · rw [if_neg k4, if_neg k5, if_neg k6, if_neg k7, if_neg k8, if_neg k9, if_neg k10, if_pos k11] at hk
    obtain ⟨L, e, hcap, h3⟩ := PtH.toL hp2
    obtain ⟨g, m, h4⟩ := PtL.open h3
    have hg := h4.get
    unfold ptC at hg
    simp [hx, ld_eq, k11, hg]
    refine caps_Restrict_spec hok.caps hh (h4.dw.to (star_left ..)) fun w3 h5 => ?_
    simp
    refine an_h (a := {}) (h5.to (show _ = own z (anC {}) • CpH g (pt.caps.restrict o.h o.n).2 • own p (ptC pt g m) • MapH m (amap omV L) • sts omH L • own x (opC o) • R by ac_rfl)) fun w4 h6 => ?_
    refine an_e h6 fun w5 h7 => ?_
    have h8 : Sat T w5 (PtH p { pt with caps := (pt.caps.restrict o.h o.n).2 } • own z (anC { e := (pt.caps.restrict o.h o.n).1.2, h := (pt.caps.restrict o.h o.n).1.1 }) • own x (opC o) • R) :=
      PtL.toH e hcap (PtL.close (g := g) (m := m) (h7.to (by
        show _ = own p (ptC pt g m) • CpH g (pt.caps.restrict o.h o.n).2 • _
        ac_rfl)))
    exact fin (h8.to (star_left ..)) hk
  rw [if_neg k4, if_neg k5, if_neg k6, if_neg k7, if_neg k8, if_neg k9, if_neg k10, if_neg k11] at hk
  simp [hx, ld_eq, k4, k5, k6, k7, k8, k9, k10, k11]
  exact fin h2' hk
end
end Go.Proofs.YtiffjkgbjklgnaaDoor
