/-
  The laws' awake: answers that the document fixes.
-/
import Derived.Test.YtiffjkgbjklgnaaDoorSY
namespace Go.Proofs.YtiffjkgbjklgnaaDoor
open Go Go.Eng Go.Lib
set_option maxRecDepth 20000
def oA : Op_ := ⟨1, 0, 100, 1, 0, ⟨#[]⟩⟩
def oB : Op_ := ⟨4, 0, 40, 0, 0, ⟨#[]⟩⟩
def oC : Op_ := ⟨10, 0, 38, 0, 1048688, ⟨#[97, 98]⟩⟩
def oD : Op_ := ⟨7, 0, 39, 0, 1048688, ⟨#[]⟩⟩
def oF : Op_ := ⟨7, 0, 40, 0, 1048688, ⟨#[]⟩⟩
def oG : Op_ := ⟨9, 0, 37, 3, 1048688, ⟨#[]⟩⟩
def m0 : Md := Md.new 64 4
def m1 : Md := (m0.does oA).2
def m2 : Md := (m1.does oB).2
def m3 : Md := (m2.does oC).2
def m4 : Md := (m3.does oD).2
def m5 : Md := (m4.does oF).2
def m6 : Md := (m5.does oG).2
theorem e1 : (m0.does oA).1 = {} := by decide +kernel
theorem e2 : (m1.does oB).1 = { h := 1048688, c := 48 } := by decide +kernel
theorem e3 : (m2.does oC).1 = { c := 48 } := by decide +kernel
theorem e4 : (m3.does oD).1 = { h := 1048688, c := 48 } := by decide +kernel
theorem e5 : (m4.does oF).1 = { h := 1048688, c := 48 } := by decide +kernel
theorem e6 : (m5.does oG).1 = { d := [0, 97, 0], c := 48 } := by decide +kernel
theorem e7 : (m6.object 0 1048688).1.length = 40 ∧ (m6.object 0 1048688).2 = true := by decide +kernel
theorem e8 : m6.free = 3 := by decide +kernel
theorem ok0 : m0.ok := Md.new_ok (by decide +kernel)
theorem ok1 : m1.ok := Md.does_ok ok0 _
theorem ok2 : m2.ok := Md.does_ok ok1 _
theorem ok3 : m3.ok := Md.does_ok ok2 _
theorem ok4 : m4.ok := Md.does_ok ok3 _
theorem ok5 : m5.ok := Md.does_ok ok4 _
theorem ok6 : m6.ok := Md.does_ok ok5 _
section
variable {T : Bs} {w : World} {Q : Value → World → Prop} {K : Value → World → Prop} {R : HP} {b x z : Nat} {md : Md}
theorem al_st {a : An} {F : Value → World → Prop} (h : Sat T w R) (hk : ∀ z w', Sat T w' (own z (anC a) • R) → F (ptr z) w') : al P 36 w fun v w1 => st P 36 v (anV a) w1 fun _ w2 => F v w2 := by
  rw [show ∀ K, al P 36 w K = K (ptr w.heap.size) (pu w (anC {})) from fun K => al_an]
  exact st_an (h.push (anC {})) fun w' h' => hk _ w' h'
theorem an_eq {x y : Operand} (a b : An) (t : Bool) (h : eqFl P (anA a) (anA b) (P.fieldsOf T_api_Answer).toList = some t) : eqx P .eql 36 x y (anV a) (anV b) w K = K (.bool t) w :=
  eqx_struct (by kernel_rfl) (by kernel_rfl) (by kernel_rfl) h
theorem bdA : bd P 34 [(0, .int .i64 1), (2, .int .i64 100), (3, .int .i64 1)] w K = K (opV oA) w := by kernel_rfl
theorem bdB : bd P 34 [(0, .int .i64 4), (2, .int .i64 40)] w K = K (opV oB) w := by kernel_rfl
theorem bdC : bd P 34 [(0, .int .i64 10), (4, .int .u64 1048688), (2, .int .i64 38), (5, .string ⟨#[97, 98]⟩)] w K = K (opV oC) w := by kernel_rfl
theorem bdD : bd P 34 [(0, .int .i64 7), (4, .int .u64 1048688), (2, .int .i64 39)] w K = K (opV oD) w := by kernel_rfl
theorem bdF : bd P 34 [(0, .int .i64 7), (4, .int .u64 1048688), (2, .int .i64 40)] w K = K (opV oF) w := by kernel_rfl
theorem bdG : bd P 34 [(0, .int .i64 9), (4, .int .u64 1048688), (2, .int .i64 37), (3, .int .i64 3)] w K = K (opV oG) w := by kernel_rfl
theorem bdE : bd P 36 [] w K = K (anV {}) w := by kernel_rfl
theorem bdH : bd P 36 [(1, .int .u64 1048688), (5, .int .i64 48)] w K = K (anV { h := 1048688, c := 48 }) w := by kernel_rfl
theorem bdCf : bd P 23 [(0, .int .i64 64), (1, .int .i64 4)] w K = K (cfgV 64 4) w := by kernel_rfl

theorem ld_h {a : An} (h : w.heap[z]? = some (anC a)) : ld P 32 (.pointer (some ⟨z, 1, none⟩)) w K = K (.int .u64 a.h) w := by
  unfold anC anA at h; simp [ld_eq, h]
theorem ld_e {a : An} (h : w.heap[z]? = some (anC a)) : ld P 27 (.pointer (some ⟨z, 0, none⟩)) w K = K (.int .i64 a.e) w := by
  unfold anC anA at h; simp [ld_eq, h]
theorem ld_d {a : An} (h : w.heap[z]? = some (anC a)) : ld P 9 (.pointer (some ⟨z, 4, none⟩)) w K = K (.string (bstr a.d)) w := by
  unfold anC anA at h; simp [ld_eq, h]
theorem ld_an {a : An} (h : w.heap[z]? = some (anC a)) : ld P 36 (ptr z) w K = K (anV a) w := by
  rw [ld_eq, h, show ldO P 36 (some (anC a)) 0 = some (anV a) from ldO_an, onv_some]
theorem len_str {ty : TypeId} {s : ByteArray} : len P #[9] ty [.string s] w K = K (.int .i64 s.size) w := by
  unfold len
  rw [show (#[9] : Array TypeId)[0]? = some 9 from rfl]
  simp only
  rw [show P.underlying 9 = some .string from by kernel_rfl, onv_some]

set_option maxHeartbeats 1000000 in
theorem awake_spec (h : Sat T w R) (hk : ∀ w', Sat T w' R → Q (.bool true) w') : Cal P N_garthlaw23_awake #[] w Q := by
  apply garthlaw23_awake_k0
  unfold garthlaw23_awake_b0
  rw [bdCf]
  have hH : (((({ h := 1048688, c := 48 } : An).h : Nat) : Int)) = 1048688 := rfl
  refine New_spec h (fun e => absurd e (by decide)) fun _ b w1 h1 => ?_
  simp only [ex_tuple, cellA_zero, cellA_succ, onv_some, neqx_int, decide_true, Bool.not_true, gd_false']
  rw [eqx_ptr_nil (by kernel_rfl)]
  simp only [Option.isNone_some, pk_false, cn_false]
  rw [bdA]
  refine Do_spec (by decide) ok0 h1 fun w2 h2 => ?_
  rw [e1]
  refine al_st h2 fun z1 w3 h3 => ?_
  rw [bdB]
  refine Do_spec (md := m1) (by decide) ok1 (h3.to (star_left ..)) fun w4 h4 => ?_
  rw [e2]
  refine al_st h4 fun z2 w5 h5 => ?_
  simp only [fa_36_0, fa_36_1, fa_36_4, Nat.zero_add]
  rw [ld_h h5.get, hH, bdC]
  refine Do_spec (md := m2) (by decide) ok2 (h5.to (show _ = MdH b m2 • own z2 (anC { h := 1048688, c := 48 }) • own z1 (anC {}) • R by unfold m2; ac_rfl)) fun w6 h6 => ?_
  rw [e3]
  refine al_st h6 fun z3 w7 h7 => ?_
  have g7 := (h7.to (show _ = own z2 (anC { h := 1048688, c := 48 }) • own z3 (anC { c := 48 }) • MdH b m3 • own z1 (anC {}) • R by unfold m3; ac_rfl)).get
  rw [ld_h g7, hH, bdD]
  refine Do_spec (md := m3) (by decide) ok3 (h7.to (show _ = MdH b m3 • own z3 (anC { c := 48 }) • own z2 (anC { h := 1048688, c := 48 }) • own z1 (anC {}) • R by unfold m3; ac_rfl)) fun w8 h8 => ?_
  rw [e4]
  refine al_st h8 fun z4 w9 h9 => ?_
  have g9 := (h9.to (show _ = own z2 (anC { h := 1048688, c := 48 }) • own z4 (anC { h := 1048688, c := 48 }) • own z3 (anC { c := 48 }) • MdH b m4 • own z1 (anC {}) • R by unfold m4; ac_rfl)).get
  rw [ld_h g9, hH, bdF]
  refine Do_spec (md := m4) (by decide) ok4 (h9.to (show _ = MdH b m4 • own z4 (anC { h := 1048688, c := 48 }) • own z3 (anC { c := 48 }) • own z2 (anC { h := 1048688, c := 48 }) • own z1 (anC {}) • R by unfold m4; ac_rfl)) fun w10 h10 => ?_
  rw [e5]
  refine al_st h10 fun z5 w11 h11 => ?_
  have g11 := (h11.to (show _ = own z2 (anC { h := 1048688, c := 48 }) • own z5 (anC { h := 1048688, c := 48 }) • own z4 (anC { h := 1048688, c := 48 }) • own z3 (anC { c := 48 }) • MdH b m5 • own z1 (anC {}) • R by unfold m5; ac_rfl)).get
  rw [ld_h g11, hH, bdG]
  refine Do_spec (md := m5) (by decide) ok5 (h11.to (show _ = MdH b m5 • own z5 (anC { h := 1048688, c := 48 }) • own z4 (anC { h := 1048688, c := 48 }) • own z3 (anC { c := 48 }) • own z2 (anC { h := 1048688, c := 48 }) • own z1 (anC {}) • R by unfold m5; ac_rfl)) fun w12 h12 => ?_
  rw [e6]
  refine al_st h12 fun z6 w13 h13 => ?_
  have g13 := (h13.to (show _ = own z2 (anC { h := 1048688, c := 48 }) • own z6 (anC { d := [0, 97, 0], c := 48 }) • own z5 (anC { h := 1048688, c := 48 }) • own z4 (anC { h := 1048688, c := 48 }) • own z3 (anC { c := 48 }) • MdH b m6 • own z1 (anC {}) • R by unfold m6; ac_rfl)).get
  rw [ld_h g13]
  refine Object_spec (md := m6) (by decide) ok6 (h13.to (show _ = MdH b m6 • own z6 (anC { d := [0, 97, 0], c := 48 }) • own z5 (anC { h := 1048688, c := 48 }) • own z4 (anC { h := 1048688, c := 48 }) • own z3 (anC { c := 48 }) • own z2 (anC { h := 1048688, c := 48 }) • own z1 (anC {}) • R by unfold m6; ac_rfl)) fun w14 h14 => ?_
  have G6 := (h14.to (star_left ..)).get
  have G5 := (h14.to (show _ = own z5 (anC { h := 1048688, c := 48 }) • MdH b m6 • own z6 (anC { d := [0, 97, 0], c := 48 }) • own z4 (anC { h := 1048688, c := 48 }) • own z3 (anC { c := 48 }) • own z2 (anC { h := 1048688, c := 48 }) • own z1 (anC {}) • R by ac_rfl)).get
  have G4 := (h14.to (show _ = own z4 (anC { h := 1048688, c := 48 }) • own z5 (anC { h := 1048688, c := 48 }) • MdH b m6 • own z6 (anC { d := [0, 97, 0], c := 48 }) • own z3 (anC { c := 48 }) • own z2 (anC { h := 1048688, c := 48 }) • own z1 (anC {}) • R by ac_rfl)).get
  have G3 := (h14.to (show _ = own z3 (anC { c := 48 }) • own z4 (anC { h := 1048688, c := 48 }) • own z5 (anC { h := 1048688, c := 48 }) • MdH b m6 • own z6 (anC { d := [0, 97, 0], c := 48 }) • own z2 (anC { h := 1048688, c := 48 }) • own z1 (anC {}) • R by ac_rfl)).get
  have G2 := (h14.to (show _ = own z2 (anC { h := 1048688, c := 48 }) • own z3 (anC { c := 48 }) • own z4 (anC { h := 1048688, c := 48 }) • own z5 (anC { h := 1048688, c := 48 }) • MdH b m6 • own z6 (anC { d := [0, 97, 0], c := 48 }) • own z1 (anC {}) • R by ac_rfl)).get
  have G1 := (h14.to (show _ = own z1 (anC {}) • own z2 (anC { h := 1048688, c := 48 }) • own z3 (anC { c := 48 }) • own z4 (anC { h := 1048688, c := 48 }) • own z5 (anC { h := 1048688, c := 48 }) • MdH b m6 • own z6 (anC { d := [0, 97, 0], c := 48 }) • R by ac_rfl)).get
  simp only [ex_tuple, cellA_zero, cellA_succ, onv_some]
  have L := fun {z : Nat} {a : An} (g : w14.heap[z]? = some (anC a)) (K : Value → World → Prop) => ld_an (K := K) g
  rw [L G1, bdE, an_eq {} {} true (by kernel_rfl)]
  simp only [gd_true, L G2, pk_true]
  rw [bdH, an_eq _ _ true (by kernel_rfl)]
  have hbs : ((bstr [0, 97, 0]).toList == (⟨#[0, 97, 0]⟩ : ByteArray).toList) = true := by simp [bstr]
  have hsz : (bstr (m6.object 0 1048688).1).size = 40 := e7.1
  have h40 : ((40 : Nat) : Int) = 40 := rfl
  simp only [pk_true, gd_true, fa_36_0, fa_36_1, fa_36_4, Nat.zero_add, ld_e G3, ld_e G5, ld_h G4, ld_h G2, ld_d G6, eqx_int, eq_self, decide_true, eqx_str, hbs, e7.2, len_str, hsz, h40]
  refine Free_spec ok6 h14 ?_
  rw [e8]
  simp only [eqx_int, decide_true, pk_true]
  exact hk _ h14.drop.drop.drop.drop.drop.drop.drop
end
end Go.Proofs.YtiffjkgbjklgnaaDoor
