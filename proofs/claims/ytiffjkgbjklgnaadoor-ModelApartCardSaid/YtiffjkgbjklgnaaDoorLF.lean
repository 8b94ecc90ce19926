/-
  The law ModelCopy, walked.
-/
import Derived.Test.YtiffjkgbjklgnaaDoorLE
namespace Go.Proofs.YtiffjkgbjklgnaaDoor
open Go Go.Eng Go.Lib
set_option maxRecDepth 20000
/-- a model behind operations; the answers -/
def Md.run (md : Md) (l : List Op_) : Md := l.foldl (fun m o => (m.does o).2) md
def Md.ans (md : Md) : List Op_ → List An
  | [] => []
  | o :: r => (md.does o).1 :: Md.ans (md.does o).2 r
theorem run_snoc (md : Md) (l : List Op_) (o : Op_) : md.run (l ++ [o]) = ((md.run l).does o).2 := by simp [Md.run]
theorem run_take (md : Md) {l : List Op_} {i : Nat} (h : i < l.length) : md.run (l.take (i + 1)) = ((md.run (l.take i)).does l[i]).2 := by
  rw [List.take_add_one, List.getElem?_eq_getElem h]; exact run_snoc ..
theorem ans_snoc : ∀ (md : Md) (l : List Op_) (o : Op_), md.ans (l ++ [o]) = md.ans l ++ [((md.run l).does o).1]
  | md, [], o => rfl
  | md, x :: l, o => by
    show (md.does x).1 :: Md.ans (md.does x).2 (l ++ [o]) = _
    rw [ans_snoc]; rfl
theorem ans_take (md : Md) {l : List Op_} {i : Nat} (h : i < l.length) : md.ans (l.take (i + 1)) = md.ans (l.take i) ++ [((md.run (l.take i)).does l[i]).1] := by
  rw [List.take_add_one, List.getElem?_eq_getElem h]; exact ans_snoc ..
theorem ans_len : ∀ (md : Md) (l : List Op_), (md.ans l).length = l.length
  | _, [] => rfl
  | md, o :: l => by show (Md.ans _ l).length + 1 = _; rw [ans_len]; rfl
theorem ans_get : ∀ (md : Md) (l : List Op_) (i : Nat) (h : i < l.length) (h' : i < (md.ans l).length), (md.ans l)[i] = ((md.run (l.take i)).does l[i]).1
  | md, o :: l, 0, _, _ => rfl
  | md, o :: l, i + 1, h, h' => ans_get (md.does o).2 l i (by simpa using h) (by rw [ans_len]; simpa using h)
theorem run_ok {md : Md} (h : md.ok) : ∀ l, (md.run l).ok := by
  intro l
  induction l generalizing md with
  | nil => exact h
  | cons o l ih => exact ih (Md.does_ok h o)
section
variable {T : Bs} {w : World} {Q : Value → World → Prop} {K : Value → World → Prop} {R : HP} {W : World} {v : Value} {l : List Op_}
theorem Long_spec {p c most : Int} (hmost : 0 ≤ most ∧ most ≤ 1000) (hb : T.base = W) (ht : W.heap[0]? = T.tab) (hv : OpsIn W v l) (h : Sat T w (orig W • R)) (hk : ∀ w', Sat T w' (orig W • R) → Q (.bool (longS p l most)) w') :
    Cal P N_garthlaw21_Long #[cfgV p c, v, .int .i64 most] w Q := by
  apply garthlaw21_Long_k0
  unfold garthlaw21_Long_b0 cfgV
  have h1 := h.push (.cells #[.int .i64 p, .int .i64 c] T_api_Config (0, 0))
  simp only [bx_eq, cells_agg]
  simp only [T_api_Config] at h1
  generalize w.heap.size = x at *
  generalize pu w _ = w1 at *
  rw [len_ops hv]
  exact Long_p1 (R := R) hmost hb ht hv (fun w' h' => hk w' ((h'.to (star_left ..)).drop)) l.length 0 0 w1 (by omega) (by omega) rfl (h1.to (star_left ..))
variable {b d : Nat} {md : Md}
theorem wrap_succ {i n : Nat} (h : i < n) (hn : n ≤ 9223372036854775807) : IntKind.i64.wrap ((i : Int) + 1) = ((i + 1 : Nat) : Int) := by rw [wrap_id (by omega) (by omega)]; rfl
theorem MC_p1 {x2 : Value} (hb : T.base = W) (ht : W.heap[0]? = T.tab) (hv : OpsIn W v l) (hok : md.ok)
    (hk : ∀ w', Sat T w' (orig W • MdH b (md.run l) • R) → Cal P 10 #[ptr b] w' fun v8 w9 => len P #[24] 3 [x2] w9 fun v9 w10 => garthlaw23_ModelCopy_p2 x2 (ptr b) v8 (.slice none 0 0) x2 v9 (.int .i64 0) w10 Q) :
    ∀ (k i : Nat) (w : World), i + k = l.length → Sat T w (orig W • MdH b (md.run (l.take i)) • R) → garthlaw23_ModelCopy_p1 x2 (ptr b) v (.int .i64 l.length) (.int .i64 (i : Int)) w Q := by
  intro k
  induction k with
  | zero =>
    intro i w hi h
    apply garthlaw23_ModelCopy_k1
    unfold garthlaw23_ModelCopy_b1
    obtain rfl : i = l.length := by omega
    rw [List.take_length] at h
    simp only [bin_lss, Int.lt_irrefl, decide_false, cn_false]
    exact hk w h
  | succ k ih =>
    intro i w hi h
    apply garthlaw23_ModelCopy_k1
    unfold garthlaw23_ModelCopy_b1
    have hlt : i < l.length := by omega
    have hlt' : (i : Int) < l.length := by omega
    simp only [bin_lss, hlt', decide_true, cn_true]
    refine op_at hb ht h hv hlt ?_
    refine op_var h fun z w1 h1 => ?_
    rw [ld_op h1.get]
    refine Do_spec (hv.hh _ (List.getElem_mem hlt)) (run_ok hok _) (h1.to (show _ = MdH b (md.run (l.take i)) • own z (opC l[i]) • orig W • R by ac_rfl)) fun w2 h2 => ?_
    rw [bin_add, wrap_succ hlt hv.len_le]
    rw [← run_take md hlt] at h2
    exact ih (i + 1) w2 (by omega) ((h2.to (star_left ..)).drop.to (star_left ..))
theorem MC_p2 {x11 : Value} (hn : l.length < 254) (hb : T.base = W) (ht : W.heap[0]? = T.tab) (hv : OpsIn W v l) (hok : md.ok)
    (hk : ∀ v' w', Sat T w' (SlH T_api_Answer (ansC (md.ans l)) (md.ans l).length v' • orig W • MdH b (md.run l) • R) → garthlaw23_ModelCopy_p3 (ptr b) x11 v' v (.int .i64 l.length) (.int .i64 0) w' Q) :
    ∀ (k i : Nat) (u : Value) (w : World), i + k = l.length → Sat T w (SlH T_api_Answer (ansC (md.ans (l.take i))) (md.ans (l.take i)).length u • orig W • MdH b (md.run (l.take i)) • R) →
      garthlaw23_ModelCopy_p2 v (ptr b) x11 u v (.int .i64 l.length) (.int .i64 (i : Int)) w Q := by
  intro k
  induction k with
  | zero =>
    intro i u w hi h
    apply garthlaw23_ModelCopy_k2
    unfold garthlaw23_ModelCopy_b2
    obtain rfl : i = l.length := by omega
    rw [List.take_length] at h
    simp only [bin_lss, Int.lt_irrefl, decide_false, cn_false]
    rw [len_ops hv]
    exact hk u w h
  | succ k ih =>
    intro i u w hi h
    apply garthlaw23_ModelCopy_k2
    unfold garthlaw23_ModelCopy_b2
    have hlt : i < l.length := by omega
    have hlt' : (i : Int) < l.length := by omega
    simp only [bin_lss, hlt', decide_true, cn_true]
    refine op_at hb ht (h.to (star_left ..)) hv hlt ?_
    refine op_var h fun z w1 h1 => ?_
    rw [ld_op h1.get]
    refine Do_spec (hv.hh _ (List.getElem_mem hlt)) (run_ok hok _) (h1.to (show _ = MdH b (md.run (l.take i)) • own z (opC l[i]) • SlH T_api_Answer (ansC (md.ans (l.take i))) (md.ans (l.take i)).length u • orig W • R by ac_rfl)) fun w2 h2 => ?_
    rw [← run_take md hlt] at h2
    refine app_an (by rw [ans_len]; simp; omega) (h2.to (show _ = SlH T_api_Answer (ansC (md.ans (l.take i))) (md.ans (l.take i)).length u • own z (opC l[i]) • orig W • MdH b (md.run (l.take (i + 1))) • R by ac_rfl)) fun u' w3 h3 => ?_
    rw [← ans_take md hlt] at h3
    rw [bin_add, wrap_succ hlt hv.len_le]
    exact ih (i + 1) u' w3 (by omega) ((h3.to (star_left ..)).drop)
theorem an_neq {x y : Operand} (a : An) : eqx P .neq 36 x y (anV a) (anV a) w K = K (.bool false) w := by
  have : eqFl P (anA a) (anA a) (P.fieldsOf T_api_Answer).toList = some true := by
    have e : eqFl P (anA a) (anA a) (P.fieldsOf T_api_Answer).toList = some (decide (a.e = a.e) && (decide ((a.h : Int) = a.h) && (decide ((0 : Int) = 0) && (decide (a.n = a.n) && (((bstr a.d).toList == (bstr a.d).toList) && (decide (a.c = a.c) && true)))))) := by kernel_rfl
    rw [e]; simp
  exact neqx_struct (by kernel_rfl) (by kernel_rfl) (by kernel_rfl) this
theorem MC_p3 {u : Value} {A : List An} (hA : A = md.ans l) (hb : T.base = W) (ht : W.heap[0]? = T.tab) (hv : OpsIn W v l) (hok : md.ok)
    (hk : ∀ w', Sat T w' (orig W • MdH d (md.run l) • SlH T_api_Answer (ansC A) A.length u • R) → garthlaw23_ModelCopy_p4 (ptr b) (ptr d) (.int .i64 0) w' Q) :
    ∀ (k i : Nat) (w : World), i + k = l.length → Sat T w (orig W • MdH d (md.run (l.take i)) • SlH T_api_Answer (ansC A) A.length u • R) → garthlaw23_ModelCopy_p3 (ptr b) (ptr d) u v (.int .i64 l.length) (.int .i64 (i : Int)) w Q := by
  intro k
  induction k with
  | zero =>
    intro i w hi h
    apply garthlaw23_ModelCopy_k3
    unfold garthlaw23_ModelCopy_b3
    obtain rfl : i = l.length := by omega
    rw [List.take_length] at h
    simp only [bin_lss, Int.lt_irrefl, decide_false, cn_false]
    exact hk w h
  | succ k ih =>
    intro i w hi h
    apply garthlaw23_ModelCopy_k3
    unfold garthlaw23_ModelCopy_b3
    have hlt : i < l.length := by omega
    have hlt' : (i : Int) < l.length := by omega
    have hiA : i < A.length := by rw [hA, ans_len]; exact hlt
    have hAi : A[i] = ((md.run (l.take i)).does l[i]).1 := by subst hA; exact ans_get md l i hlt hiA
    simp only [bin_lss, hlt', decide_true, cn_true]
    refine op_at hb ht h hv hlt ?_
    refine op_var h fun z w1 h1 => ?_
    rw [ld_op (w := Eng.dw w1) h1.get]
    obtain ⟨s, a1, a2⟩ := an_ia (w := Eng.dw w1) hiA (h1.dw.to (show _ = SlH T_api_Answer (ansC A) A.length u • own z (opC l[i]) • orig W • MdH d (md.run (l.take i)) • R by ac_rfl))
    rw [a1]
    refine ⟨rfl, ?_⟩
    rw [a2]
    refine Do_spec (hv.hh _ (List.getElem_mem hlt)) (run_ok hok _) (h1.dw.to (show _ = MdH d (md.run (l.take i)) • own z (opC l[i]) • SlH T_api_Answer (ansC A) A.length u • orig W • R by ac_rfl)) fun w2 h2 => ?_
    obtain ⟨s', b1, b2⟩ := an_ia (w := w2) hiA (h2.to (show _ = SlH T_api_Answer (ansC A) A.length u • MdH d ((md.run (l.take i)).does l[i]).2 • own z (opC l[i]) • orig W • R by ac_rfl))
    have hs : s' = s := by
      have e1 := a1 w2 (fun v _ => v = .pointer (some ⟨s, i * 6, none⟩))
      have e2 := b1 w2 (fun v _ => v = .pointer (some ⟨s, i * 6, none⟩))
      rw [e1] at e2
      simp at e2
      exact e2
    subst hs
    refine ⟨by rw [b2]; exact ⟨rfl, rfl⟩, by rw [a1]; exact ⟨rfl, rfl⟩, ?_⟩
    rw [hAi, an_neq]
    refine ⟨rfl, ?_⟩
    rw [cn_false, bin_add, wrap_succ hlt hv.len_le]
    rw [← run_take md hlt] at h2
    exact ih (i + 1) w2 (by omega) ((h2.to (show _ = own z (opC l[i]) • orig W • MdH d (md.run (l.take (i + 1))) • SlH T_api_Answer (ansC A) A.length u • R by ac_rfl)).drop)
theorem neqx_bool {t : TypeId} {x y : Operand} (a b : Bool) (h : P.underlying t = some .bool) : eqx P .neq t x y (.bool a) (.bool b) w K = K (.bool (!(a == b))) w := by
  refine vS_eq ?_
  show (do pure (Value.bool (!(← Op.equal t (.bool a) (.bool b))))).run P w = _
  rw [run_bind']
  unfold Op.equal Op.maxDepth Op.equalIn
  rw [run_bind', run_under h]
  rfl
theorem MC_p4 (hok : md.ok) (hk : ∀ w', Sat T w' (MdH b md • MdH d md • R) → Q (.bool true) w') :
    ∀ (k i : Nat) (w : World), i + k = 8 → Sat T w (MdH b md • MdH d md • R) → garthlaw23_ModelCopy_p4 (ptr b) (ptr d) (.int .i64 (i : Int)) w Q := by
  intro k
  induction k with
  | zero =>
    intro i w hi h
    apply garthlaw23_ModelCopy_k4
    unfold garthlaw23_ModelCopy_b4
    obtain rfl : i = 8 := by omega
    simp
    exact hk w h
  | succ k ih =>
    intro i w hi h
    apply garthlaw23_ModelCopy_k4
    unfold garthlaw23_ModelCopy_b4
    have hlt' : (i : Int) < 8 := by omega
    simp only [bin_lss, hlt', decide_true, cn_true]
    refine Live_spec hok h ?_
    refine Live_spec hok (h.to (star_left ..)) ?_
    rw [neqx_bool _ _ (by kernel_rfl)]
    simp only [beq_self_eq_true, Bool.not_true, gd_false']
    refine Charged_spec hok h fun w1 h1 => ?_
    refine Charged_spec hok (h1.to (star_left ..)) fun w2 h2 => ?_
    simp only [neqx_int, decide_true, Bool.not_true, pk_false, cn_false]
    rw [bin_add, wrap_succ (n := 8) (by omega) (by omega)]
    exact ih (i + 1) w2 (by omega) (h2.to (star_left ..))
end
end Go.Proofs.YtiffjkgbjklgnaaDoor
