/-
  The law ModelApart: what others do is nothing to a tenant's part; the law walked.
-/
import Derived.Test.YtiffjkgbjklgnaaDoorLG
namespace Go.Proofs.YtiffjkgbjklgnaaDoor
open Go Go.Eng Go.Lib
set_option maxRecDepth 20000

/-! ### the plain law -/
def Op_.adm (o : Op_) : Bool := decide (o.k = 1) || decide (o.k = 2)
theorem part_set {md : Md} (hok : md.ok) {t id : Int} {x : Option Pt} {s : List Int} (h0 : 0 ≤ t) (h8 : t < 8) : ({ md with parts := md.parts.set t.toNat x, sers := s } : Md).part id = if id = t then x else md.part id := by
  unfold Md.part
  by_cases hi : 0 ≤ id ∧ id < 8
  · rw [if_pos hi, if_pos hi]
    simp only [List.getD_eq_getElem?_getD, List.getElem?_set]
    by_cases e : id = t
    · subst e
      have : id.toNat < md.parts.length := by rw [hok.pl]; omega
      simp [this]
    · have : ¬ (t.toNat = id.toNat) := by omega
      simp [this, e]
  · rw [if_neg hi, if_neg hi]
    rw [if_neg (by intro e; subst e; exact hi ⟨h0, h8⟩)]
theorem does_other {md : Md} (hok : md.ok) {o : Op_} (ha : o.adm = false) {id : Int} (h : o.t ≠ id) : (md.does o).2.part id = md.part id := by
  unfold Md.does
  split
  · rfl
  · rename_i hb
    obtain ⟨-, -, t0, t8, -⟩ := bad_range (by simpa using hb)
    unfold Op_.adm at ha
    simp at ha
    show (md.step o).2.part id = _
    unfold Md.step
    rw [if_neg ha.1, if_neg ha.2]
    have hne : ¬ (id = o.t) := fun e => h e.symm
    split
    · unfold Md.destroy
      split
      · rfl
      · rw [part_set hok t0 t8, if_neg hne]
    · split
      · rfl
      · rename_i p _
        have := part_set (md := md) (s := md.sers) (id := id) (x := some (p.does o).2) hok t0 t8
        rw [if_neg hne] at this
        exact this
theorem does_same {md md' : Md} (hok : md.ok) (hok' : md'.ok) {o : Op_} (ha : o.adm = false) (h : md.part o.t = md'.part o.t) : (md.does o).1 = (md'.does o).1 ∧ (md.does o).2.part o.t = (md'.does o).2.part o.t := by
  unfold Md.does
  split
  · exact ⟨rfl, h⟩
  · rename_i hb
    obtain ⟨-, -, t0, t8, -⟩ := bad_range (by simpa using hb)
    unfold Op_.adm at ha
    simp at ha
    have key : (md.step o).1 = (md'.step o).1 ∧ (md.step o).2.part o.t = (md'.step o).2.part o.t := by
      unfold Md.step
      rw [if_neg ha.1, if_neg ha.2, if_neg ha.1, if_neg ha.2]
      split
      · unfold Md.destroy
        rw [← h]
        split
        · rename_i hp; exact ⟨rfl, h⟩
        · refine ⟨rfl, ?_⟩
          rw [part_set hok t0 t8, part_set hok' t0 t8, if_pos rfl, if_pos rfl]
      · rw [← h]
        split
        · exact ⟨rfl, h⟩
        · rename_i p _
          refine ⟨rfl, ?_⟩
          have e1 := part_set (md := md) (s := md.sers) (id := o.t) (x := some (p.does o).2) hok t0 t8
          have e2 := part_set (md := md') (s := md'.sers) (id := o.t) (x := some (p.does o).2) hok' t0 t8
          rw [if_pos rfl] at e1 e2
          exact e1.trans e2.symm
    refine ⟨?_, key.2⟩
    show ({ (md.step o).1 with c := chgO ((md.step o).2.part o.t) } : An) = { (md'.step o).1 with c := chgO ((md'.step o).2.part o.t) }
    rw [key.1, key.2]

section
variable {T : Bs} {w : World} {Q : Value → World → Prop} {K : Value → World → Prop} {R : HP} {W : World} {v : Value} {l : List Op_} {b a c z : Nat} {md : Md} {id : Int}
theorem MA_p4 {x1 x40 x41 x42 u : Value} {A : List Op_} (hn : A.length ≤ 9223372036854775807) (hA : ∀ o ∈ A, o.adm = false ∧ o.h < 18446744073709551616) (hok : md.ok)
    (hk : ∀ w' ma mc, Sat T w' (MdH a ma • MdH c mc • SlH T_api_Op (opsC A) A.length u • R) → ld P 34 (ptr z) w' fun v18 w20 => Cal P 9 #[ptr b, v18] w20 fun v19 w21 => bin P .add 3 x42 (.int .i64 1) w21 fun v20 w22 => garthlaw23_ModelApart_p1 x1 (.int .i64 id) (ptr b) x40 x41 v20 w22 Q) :
    ∀ (k i : Nat) (ma mc : Md) (w : World), i + k = A.length → ma.ok → mc.ok → ma.part id = mc.part id → Sat T w (MdH a ma • MdH c mc • SlH T_api_Op (opsC A) A.length u • R) →
      garthlaw23_ModelApart_p4 x1 (.int .i64 id) (ptr b) (ptr z) (ptr a) (ptr c) x40 x41 x42 u (.int .i64 A.length) (.int .i64 (i : Int)) w Q := by
  intro k
  induction k with
  | zero =>
    intro i ma mc w hi oa oc hp h
    apply garthlaw23_ModelApart_k4
    unfold garthlaw23_ModelApart_b4
    obtain rfl : i = A.length := by omega
    simp only [bin_lss, Int.lt_irrefl, decide_false, cn_false]
    exact hk w ma mc h
  | succ k ih =>
    intro i ma mc w hi oa oc hp h
    apply garthlaw23_ModelApart_k4
    unfold garthlaw23_ModelApart_b4
    have hlt : i < A.length := by omega
    have hlt' : (i : Int) < A.length := by omega
    obtain ⟨hadm, hh⟩ := hA _ (List.getElem_mem hlt)
    simp only [bin_lss, hlt', decide_true, cn_true]
    refine op_own hlt (h.to (show _ = SlH T_api_Op (opsC A) A.length u • MdH a ma • MdH c mc • R by ac_rfl)) ?_
    generalize A[i] = o at *
    refine op_var h fun y w1 h1 => ?_
    rw [ld_op h1.get]
    refine Do_spec hh oc (h1.to (show _ = MdH c mc • own y (opC o) • MdH a ma • SlH T_api_Op (opsC A) A.length u • R by ac_rfl)) fun w2 h2 => ?_
    refine al_st h2 fun s w3 h3 => ?_
    have gy := (h3.dw.to (show _ = own y (opC o) • own s (anC (mc.does o).1) • MdH c (mc.does o).2 • MdH a ma • SlH T_api_Op (opsC A) A.length u • R by ac_rfl)).get
    have gy' := gy
    unfold opC opA at gy'
    simp only [T_api_Op] at gy'
    have gy' : w3.heap[y]? = _ := gy'
    simp only [fa_34_1, Nat.zero_add, true_and]
    rw [show ∀ K, ld P 3 (.pointer (some ⟨y, 1, none⟩)) (Eng.dw w3) K = K (.int .i64 o.t) (Eng.dw w3) from fun K => by simp [ld_eq, gy']]
    simp only [eqx_int, true_and]
    by_cases ht : o.t = id
    · simp only [ht, decide_true, gd_true]
      rw [ld_op gy]
      have gs := h3.dw.get
      rw [ld_an gs]
      refine Do_spec hh oa (h3.dw.to (show _ = MdH a ma • own s (anC (mc.does o).1) • own y (opC o) • MdH c (mc.does o).2 • SlH T_api_Op (opsC A) A.length u • R by ac_rfl)) fun w4 h4 => ?_
      have gs4 := (h4.to (star_left ..)).get
      rw [ld_an gs4]
      subst ht
      obtain ⟨e1, e2⟩ := does_same oa oc hadm hp
      rw [e1, an_neq]
      simp only [iz_eq, true_and, pk_true, cn_false, and_self]
      rw [bin_add, wrap_succ hlt hn]
      refine ih (i + 1) _ _ w4 (by omega) (Md.does_ok oa o) (Md.does_ok oc o) e2 ?_
      exact (h4.to (show _ = own s (anC (mc.does o).1) • own y (opC o) • MdH a (ma.does o).2 • MdH c (mc.does o).2 • SlH T_api_Op (opsC A) A.length u • R by ac_rfl)).drop.drop
    · simp only [ht, decide_false, gd_false, gd_undef, pk_false, true_and, cn_false]
      refine ⟨⟨rfl, rfl⟩, ?_⟩
      rw [bin_add, wrap_succ hlt hn]
      refine ih (i + 1) _ _ _ (by omega) oa (Md.does_ok oc o) (by rw [does_other oc hadm ht]; exact hp) ?_
      exact (h3.dw.to (show _ = own s (anC (mc.does o).1) • own y (opC o) • MdH a ma • MdH c (mc.does o).2 • SlH T_api_Op (opsC A) A.length u • R by ac_rfl)).drop.drop
theorem MA_p3 {x1 x40 x41 u : Value} {i : Nat} {o : Op_} {A : List Op_} (hi : i < 9223372036854775807) (hn : A.length ≤ 9223372036854775807) (hA : ∀ o ∈ A, o.adm = false ∧ o.h < 18446744073709551616) (hok : md.ok) (hh : o.h < 18446744073709551616)
    (hk : ∀ w', Sat T w' (orig W • MdH b (md.does o).2 • R) → garthlaw23_ModelApart_p1 x1 (.int .i64 id) (ptr b) x40 x41 (.int .i64 ((i + 1 : Nat) : Int)) w' Q)
    (h : Sat T w (SlH T_api_Op (opsC A) A.length u • own z (opC o) • orig W • MdH b md • R)) :
    garthlaw23_ModelApart_p3 x1 (.int .i64 id) (ptr b) (ptr z) u x40 x41 (.int .i64 (i : Int)) w Q := by
  apply garthlaw23_ModelApart_k3
  unfold garthlaw23_ModelApart_b3
  refine Copy_spec hok (h.to (show _ = MdH b md • SlH T_api_Op (opsC A) A.length u • own z (opC o) • orig W • R by ac_rfl)) fun a w1 h1 => ?_
  refine Copy_spec hok (h1.to (star_left ..)) fun c w2 h2 => ?_
  rw [SlH.len (te := T_api_Op) (by kernel_rfl) (h2.to (show _ = SlH T_api_Op (opsC A) A.length u • MdH a md • MdH c md • MdH b md • own z (opC o) • orig W • R by ac_rfl))]
  refine MA_p4 (R := own z (opC o) • orig W • MdH b md • R) (md := md) hn hA hok (fun w3 ma mc h3 => ?_) A.length 0 md md w2 (by omega) hok hok rfl (h2.to (by ac_rfl))
  have gz := (h3.to (show _ = own z (opC o) • MdH a ma • MdH c mc • SlH T_api_Op (opsC A) A.length u • orig W • MdH b md • R by ac_rfl)).get
  rw [ld_op gz]
  refine Do_spec hh hok (h3.to (show _ = MdH b md • MdH a ma • MdH c mc • SlH T_api_Op (opsC A) A.length u • own z (opC o) • orig W • R by ac_rfl)) fun w4 h4 => ?_
  rw [bin_add, wrap_succ hi (Nat.le_refl _)]
  exact hk w4 ((h4.to (show _ = MdH a ma • MdH c mc • SlH T_api_Op (opsC A) A.length u • own z (opC o) • orig W • MdH b (md.does o).2 • R by ac_rfl)).drop.drop.drop.drop)
theorem adm_walk {y : Nat} {o : Op_} {A B : World → Prop} {t1 t2 t3 t4 : Operand} (hg : w.heap[y]? = some (opC o)) (h1 : o.adm = true → A w) (h0 : o.adm = false → B w) :
    fa P 34 (ptr y) 0 w fun v5 w6 => ld P 3 v5 w6 fun v6 w7 => eqx P .eql 3 t1 t2 v6 (.int .i64 1) w7 fun v7 w8 => gd v7 false (fa P 34 (ptr y) 0) w8 fun v8 w9 => gd v7 false (ld P 3 v8) w9 fun v9 w10 => gd v7 false (eqx P .eql 3 t3 t4 v9 (.int .i64 2)) w10 fun v10 w11 => pk v7 (.bool true) v10 w11 fun v11 w12 => cn v11 (A w12) (B w12) := by
  unfold opC opA at hg
  simp only [T_api_Op] at hg
  unfold Op_.adm at h1 h0
  by_cases e1 : o.k = 1
  · simp [hg, ld_eq, e1] at h1 ⊢; exact h1
  · by_cases e2 : o.k = 2
    · simp [hg, ld_eq, e2] at h1 ⊢; exact h1
    · simp [hg, ld_eq, e1, e2] at h0 ⊢; exact h0
/-- what comes until the administrator's next -/
def tillAdm : List Op_ → List Op_
  | [] => []
  | o :: r => if o.adm then [] else o :: tillAdm r
theorem MA_p2 {x1 x40 x41 v3 : Value} {i : Nat} {o : Op_} {S : List Op_} (hb : T.base = W) (ht : W.heap[0]? = T.tab) (hi : i < 9223372036854775807) (hv : OpsIn W v3 S) (hS : S.length < 254) (hok : md.ok) (hh : o.h < 18446744073709551616)
    (hk : ∀ w', Sat T w' (orig W • MdH b (md.does o).2 • R) → garthlaw23_ModelApart_p1 x1 (.int .i64 id) (ptr b) x40 x41 (.int .i64 ((i + 1 : Nat) : Int)) w' Q) :
    ∀ (k j : Nat) (u : Value) (w : World), j + k = S.length → (∀ o ∈ S.take j, o.adm = false) → Sat T w (SlH T_api_Op (opsC (S.take j)) (S.take j).length u • own z (opC o) • orig W • MdH b md • R) →
      garthlaw23_ModelApart_p2 x1 (.int .i64 id) (ptr b) (ptr z) u x40 x41 (.int .i64 (i : Int)) v3 (.int .i64 S.length) (.int .i64 (j : Int)) w Q := by
  have hA : ∀ j, (∀ o ∈ S.take j, o.adm = false) → ∀ o ∈ S.take j, o.adm = false ∧ o.h < 18446744073709551616 := fun j h o ho => ⟨h o ho, hv.hh o (List.mem_of_mem_take ho)⟩
  have hlen : ∀ j, (S.take j).length ≤ 9223372036854775807 := fun j => by simp; omega
  intro k
  induction k with
  | zero =>
    intro j u w hj hadm h
    apply garthlaw23_ModelApart_k2
    unfold garthlaw23_ModelApart_b2
    obtain rfl : j = S.length := by omega
    simp only [bin_lss, Int.lt_irrefl, decide_false, cn_false]
    exact MA_p3 hi (hlen _) (hA _ hadm) hok hh hk h
  | succ k ih =>
    intro j u w hj hadm h
    apply garthlaw23_ModelApart_k2
    unfold garthlaw23_ModelApart_b2
    have hlt : j < S.length := by omega
    have hlt' : (j : Int) < S.length := by omega
    simp only [bin_lss, hlt', decide_true, cn_true]
    refine op_at hb ht (h.to (show _ = orig W • SlH T_api_Op (opsC (S.take j)) (S.take j).length u • own z (opC o) • MdH b md • R by ac_rfl)) hv hlt ?_
    have htk : S.take (j + 1) = S.take j ++ [S[j]] := by rw [List.take_add_one, List.getElem?_eq_getElem hlt]; rfl
    generalize S[j] = x at *
    refine op_var h fun y w1 h1 => ?_
    refine adm_walk h1.get (fun _ => MA_p3 hi (hlen _) (hA _ hadm) hok hh hk h1.drop) fun ha => ?_
    rw [ld_op h1.get]
    refine app_op (by simp; omega) (h1.to (show _ = SlH T_api_Op (opsC (S.take j)) (S.take j).length u • own y (opC x) • own z (opC o) • orig W • MdH b md • R by ac_rfl)) fun u' w2 h2 => ?_
    rw [bin_add, wrap_succ hlt (by omega)]
    rw [← htk] at h2
    refine ih (j + 1) u' w2 (by omega) (fun q hq => ?_) ((h2.to (star_left ..)).drop)
    rw [htk] at hq
    rcases List.mem_append.1 hq with hq | hq
    · exact hadm q hq
    · simp at hq; rw [hq]; exact ha
theorem ops_cut (hv : OpsIn W v l) {i : Nat} (hi : i < l.length) : ∃ v3, OpsIn W v3 (l.drop i) ∧ ∀ w K, sl P 24 v (some (.int .i64 (i : Int))) none none w K = K v3 w := by
  obtain ⟨a, c, rfl, h1, h2, h3⟩ := hv.form
  obtain ⟨b, off, rfl, -⟩ := h3 i hi
  refine ⟨.slice (some ⟨b, off + i * 6, none⟩) (l.length - i) (c - i), ⟨fun o ho => hv.hh o (List.mem_of_mem_drop ho), fun o ho => hv.hd o (List.mem_of_mem_drop ho), some ⟨b, off + i * 6, none⟩, c - i, by rw [List.length_drop], by simp; omega, by simp; omega, fun j hj => ⟨b, off + i * 6, rfl, ?_⟩⟩, fun w K => ?_⟩
  · simp at hj
    obtain ⟨b', off', e, hc⟩ := h3 (i + j) (by omega)
    simp at e
    obtain ⟨rfl, rfl⟩ := e
    rw [List.getElem_drop, ← hc]
    congr 1; omega
  · have e1 : sliceO P 24 = some 34 := by kernel_rfl
    have e2 : szO P 34 = some 6 := by kernel_rfl
    unfold sl
    simp only [e1, e2, onv_some, slcut]
    have hc : ¬ (c = i) := by omega
    have hle : (0 : Int) ≤ i ∧ (i : Int) ≤ l.length := by omega
    simp [hc, hle, addr_add]
theorem MA_p1 (hb : T.base = W) (ht : W.heap[0]? = T.tab) (hv : OpsIn W v l) (hn : l.length < 254) (hk : ∀ w' md, Sat T w' (orig W • MdH b md • R) → Q (.bool true) w') :
    ∀ (k i : Nat) (md : Md) (w : World), i + k = l.length → md.ok → Sat T w (orig W • MdH b md • R) → garthlaw23_ModelApart_p1 v (.int .i64 id) (ptr b) v (.int .i64 l.length) (.int .i64 (i : Int)) w Q := by
  intro k
  induction k with
  | zero =>
    intro i md w hi hok h
    apply garthlaw23_ModelApart_k1
    unfold garthlaw23_ModelApart_b1
    obtain rfl : i = l.length := by omega
    simp only [bin_lss, Int.lt_irrefl, decide_false, cn_false]
    exact hk w md h
  | succ k ih =>
    intro i md w hi hok h
    apply garthlaw23_ModelApart_k1
    unfold garthlaw23_ModelApart_b1
    have hlt : i < l.length := by omega
    have hlt' : (i : Int) < l.length := by omega
    have hh := hv.hh _ (List.getElem_mem hlt)
    simp only [bin_lss, hlt', decide_true, cn_true]
    refine op_at hb ht h hv hlt ?_
    generalize l[i] = x at *
    refine op_var h fun y w1 h1 => ?_
    refine adm_walk h1.get (fun _ => ?_) fun _ => ?_
    · rw [ld_op h1.get]
      refine Do_spec hh hok (h1.to (show _ = MdH b md • own y (opC x) • orig W • R by ac_rfl)) fun w2 h2 => ?_
      rw [bin_add, wrap_succ hlt (by omega)]
      exact ih (i + 1) _ w2 (by omega) (Md.does_ok hok x) ((h2.to (show _ = own y (opC x) • orig W • MdH b (md.does x).2 • R by ac_rfl)).drop)
    · obtain ⟨v3, hv3, hsl⟩ := ops_cut hv hlt
      rw [hsl, len_ops hv3]
      refine MA_p2 (o := x) (md := md) hb ht (by omega) hv3 (by simp; omega) hok hh (fun w2 h2 => ih (i + 1) _ w2 (by omega) (Md.does_ok hok x) h2) (l.drop i).length 0 (.slice none 0 0) w1 (by omega) (by simp) ?_
      exact SlH.nil h1
theorem idS_range (n : Int) : 0 ≤ (IntKind.u64.wrap n).tmod 8 ∧ (IntKind.u64.wrap n).tmod 8 < 8 := by
  have h0 : 0 ≤ IntKind.u64.wrap n := by
    unfold IntKind.wrap
    simp only [IntKind.bits, IntKind.signed, Bool.false_and, Bool.false_eq_true, if_false]
    omega
  rw [Int.tmod_eq_emod_of_nonneg h0]
  omega
theorem Apart_walk {p c n : Int} (hb : T.base = W) (ht : W.heap[0]? = T.tab) (hv : OpsIn W v l) (h : Sat T w (orig W • emp)) (hk : ∀ w' R, Sat T w' (orig W • R) → Q (.bool true) w') : Cal P N_garthlaw23_ModelApart #[cfgV p c, v, .int .i64 n] w Q := by
  apply garthlaw23_ModelApart_k0
  unfold garthlaw23_ModelApart_b0 cfgV
  have hp := h.push (.cells #[.int .i64 p, .int .i64 c] T_api_Config (0, 0))
  simp only [bx_eq, cells_agg]
  simp only [T_api_Config] at hp
  generalize w.heap.size = x at *
  generalize pu w _ = w1 at *
  have c1 : ∀ K, cv P 3 25 (.int .i64 n) w1 K = K (.int .u64 (IntKind.u64.wrap n)) w1 := fun K => cv_int (k0 := .i64) (j := .u64) (by kernel_rfl) (by kernel_rfl)
  have c2 : ∀ m K, cv P 25 3 (.int .u64 m) w1 K = K (.int .i64 (IntKind.i64.wrap m)) w1 := fun m K => cv_int (k0 := .u64) (j := .i64) (by kernel_rfl) (by kernel_rfl)
  rw [c1, bin_rem]
  refine ⟨by decide, ?_⟩
  rw [c2, ld_cfg hp.get]
  generalize IntKind.i64.wrap ((IntKind.u64.wrap n).tmod 8) = id
  have aw : ∀ (w' : World) (R : HP), Sat T w' (orig W • R) → Cal P 7 #[] w' Q := fun w' R h' => awake_spec h' fun w'' h'' => hk w'' R h''
  refine New_spec hp (fun hc w2 h3 => ?_) (fun hc b w2 h3 => ?_)
  · simp only [ex_tuple, cellA_zero, cellA_succ, onv_some]
    refine awake_spec h3 fun w3 h4 => ?_
    simp only [un_not, Bool.not_true, gd_false', neqx_int, show ¬ ((12 : Int) = 0) from by decide, decide_false, Bool.not_false, pk_false, gd_true', pk_true, cn_true]
    exact awake_spec h4 fun w5 h5 => hk w5 _ (h5.to (star_left ..))
  · simp only [ex_tuple, cellA_zero, cellA_succ, onv_some]
    refine awake_spec h3 fun w3 h4 => ?_
    simp only [un_not, Bool.not_true, gd_false', neqx_int, decide_true, pk_false]
    have g4 := (h4.to (star_left ..)).get
    rw [ld_cfg g4]
    refine Long_spec (by decide) hb ht hv (h4.to (show _ = orig W • MdH b (Md.new p c) • own x (.cells #[.int .i64 p, .int .i64 c] T_api_Config (0, 0)) by simp only [T_api_Config, star_emp]; ac_rfl)) fun w4 h5 => ?_
    by_cases a1 : longS p l 200 = true
    · simp only [a1, pk_true, cn_true]
      exact aw _ _ h5
    have a1 : longS p l 200 = false := by simpa using a1
    simp only [a1, pk_false, cn_false]
    have hn := longS_len a1
    rw [len_ops hv]
    exact MA_p1 hb ht hv (by omega) (fun w6 md h7 => hk w6 _ h7) l.length 0 (Md.new p c) w4 (by omega) (Md.new_ok hc) h5
end
end Go.Proofs.YtiffjkgbjklgnaaDoor
