/-
  The law ModelCopy, walked whole.
-/
import Derived.Test.YtiffjkgbjklgnaaDoorLF
namespace Go.Proofs.YtiffjkgbjklgnaaDoor
open Go Go.Eng Go.Lib
set_option maxRecDepth 20000
section
variable {T : Bs} {w : World} {Q : Value → World → Prop} {K : Value → World → Prop} {R : HP} {W : World} {v1 v2 : Value} {l1 l2 : List Op_}
theorem longS_len {p most : Int} {l : List Op_} (h : longS p l most = false) : (l.length : Int) ≤ most := by
  unfold longS at h
  simp at h
  omega
theorem ld_cfg {x : Nat} {p c : Int} (h : w.heap[x]? = some (.cells #[.int .i64 p, .int .i64 c] T_api_Config (0, 0))) : ld P 23 (ptr x) w K = K (cfgV p c) w := by
  rw [ld_eq, h]; rfl
theorem Copy_walk {p c : Int} (hb : T.base = W) (ht : W.heap[0]? = T.tab) (h1 : OpsIn W v1 l1) (h2 : OpsIn W v2 l2) (h : Sat T w (orig W • emp)) (hk : ∀ w' R, Sat T w' (orig W • R) → Q (.bool true) w') : Cal P N_garthlaw23_ModelCopy #[cfgV p c, v1, v2] w Q := by
  apply garthlaw23_ModelCopy_k0
  unfold garthlaw23_ModelCopy_b0 cfgV
  have hp := h.push (.cells #[.int .i64 p, .int .i64 c] T_api_Config (0, 0))
  simp only [bx_eq, cells_agg]
  simp only [T_api_Config] at hp
  generalize w.heap.size = x at *
  generalize pu w _ = w1 at *
  rw [ld_cfg hp.get]
  have aw : ∀ (w' : World) (R : HP), Sat T w' (orig W • R) → Cal P 7 #[] w' Q := fun w' R h' => awake_spec h' fun w'' h'' => hk w'' R h''
  refine New_spec hp (fun hc w2 h3 => ?_) (fun hc b w2 h3 => ?_)
  · simp only [ex_tuple, cellA_zero, cellA_succ, onv_some]
    refine awake_spec h3 fun w3 h4 => ?_
    simp only [un_not, Bool.not_true, gd_false', neqx_int, show ¬ ((12 : Int) = 0) from by decide, decide_false, Bool.not_false, pk_false, gd_true', pk_true, cn_true]
    exact awake_spec h4 fun w5 h5 => hk w5 _ (h5.to (star_left ..))
  · simp only [ex_tuple, cellA_zero, cellA_succ, onv_some]
    refine awake_spec h3 fun w3 h4 => ?_
    simp only [un_not, Bool.not_true, gd_false', neqx_int, decide_true, pk_false]
    have g4 := (h4.to (star_left ..)).get
    rw [ld_cfg g4]
    refine Long_spec (by decide) hb ht h1 (h4.to (show _ = orig W • MdH b (Md.new p c) • own x (.cells #[.int .i64 p, .int .i64 c] T_api_Config (0, 0)) by simp only [T_api_Config, star_emp]; ac_rfl)) fun w4 h5 => ?_
    by_cases a1 : longS p l1 100 = true
    · simp only [a1, pk_true, gd_true', cn_true]
      exact aw _ _ h5
    have a1 : longS p l1 100 = false := by simpa using a1
    simp only [a1, pk_false, gd_false']
    have g5 := (h5.to (show _ = own x (.cells #[.int .i64 p, .int .i64 c] T_api_Config (0, 0)) • orig W • MdH b (Md.new p c) by ac_rfl)).get
    rw [ld_cfg g5]
    refine Long_spec (by decide) hb ht h2 h5 fun w5 h6 => ?_
    by_cases a2 : longS p l2 60 = true
    · simp only [a2, pk_true, cn_true]
      exact aw _ _ h6
    have a2 : longS p l2 60 = false := by simpa using a2
    simp only [a2, pk_false, cn_false]
    have hn := longS_len a2
    have ok0 := Md.new_ok hc
    rw [len_ops h1]
    refine MC_p1 hb ht h1 ok0 (fun w6 h7 => ?_) l1.length 0 w5 (by omega) h6
    have ok1 := run_ok ok0 l1
    refine Copy_spec ok1 (h7.to (star_left ..)) fun d w7 h8 => ?_
    rw [len_ops h2]
    refine MC_p2 (md := (Md.new p c).run l1) (by omega) hb ht h2 ok1 (fun u w8 h9 => ?_) l2.length 0 (.slice none 0 0) w7 (by omega) (SlH.nil (h8.to (show _ = orig W • MdH b ((Md.new p c).run l1) • MdH d ((Md.new p c).run l1) • own x (.cells #[.int .i64 p, .int .i64 c] T_api_Config (0, 0)) by ac_rfl)))
    refine MC_p3 (d := d) (md := (Md.new p c).run l1) (A := ((Md.new p c).run l1).ans l2) rfl hb ht h2 ok1 (fun w9 h10 => ?_) l2.length 0 w8 (by omega) (h9.to (show _ = orig W • MdH d ((Md.new p c).run l1) • SlH T_api_Answer (ansC (((Md.new p c).run l1).ans l2)) (((Md.new p c).run l1).ans l2).length u • MdH b (((Md.new p c).run l1).run l2) • own x (.cells #[.int .i64 p, .int .i64 c] T_api_Config (0, 0)) by ac_rfl))
    have ok2 := run_ok ok1 l2
    refine MC_p4 ok2 (fun w10 h11 => hk w10 (MdH b (((Md.new p c).run l1).run l2) • MdH d (((Md.new p c).run l1).run l2) • SlH T_api_Answer (ansC (((Md.new p c).run l1).ans l2)) (((Md.new p c).run l1).ans l2).length u • own x (.cells #[.int .i64 p, .int .i64 c] T_api_Config (0, 0))) (h11.to ?_)) 8 0 w9 rfl (h10.to (show _ = MdH b (((Md.new p c).run l1).run l2) • MdH d (((Md.new p c).run l1).run l2) • (orig W • SlH T_api_Answer (ansC (((Md.new p c).run l1).ans l2)) (((Md.new p c).run l1).ans l2).length u • own x (.cells #[.int .i64 p, .int .i64 c] T_api_Config (0, 0))) by ac_rfl))
    ac_rfl
end
open Go.ChangeShapes Go.WideShapes Go.ChangeAt Go.RowKit
theorem cfgFields : P.underlying T_api_Config = some (.struct (P.fieldsOf T_api_Config)) := by kernel_rfl
theorem cfg_of_cells {H : Type} {enc : TypeId × Value → H} {w : World} {base : Nat} {spare : Nat → Bool} {held : Bool} {n : Nat} {cs : List Value} {x : DataW H × List MemPlace} (h : DataW.trod enc P w base spare held n T_api_Config cs = some x) : ∃ p c : Int, cs = [.int .i64 p, .int .i64 c] := by
  obtain ⟨xs, m, rfl, rfl, hl, hlen, hf⟩ := DataW.trod_struct cfgFields h
  have hc : P.cellsOf T_api_Config = 2 := by kernel_rfl
  have hfl : (P.fieldsOf T_api_Config).size = 2 := by kernel_rfl
  rw [hc] at hl
  rw [hfl] at hlen
  match cs, hl, xs, hlen with
  | [c0, c1], _, [y0, y1], _ =>
    have g := fun i h => hf i ((P.fieldsOf T_api_Config).getD i default) h
    have i0 : DataW.trod enc P w base spare held m T_int [c0] = some y0 := g 0 (by kernel_rfl)
    have i1 : DataW.trod enc P w base spare held m T_int [c1] = some y1 := g 1 (by kernel_rfl)
    obtain ⟨n0, e0, r0, -⟩ := DataW.trod_int (show P.underlying T_int = some (.int .i64) by kernel_rfl) i0
    obtain ⟨n1, e1, r1, -⟩ := DataW.trod_int (show P.underlying T_int = some (.int .i64) by kernel_rfl) i1
    simp only [List.cons.injEq, and_true] at e0 e1
    subst e0 e1
    exact ⟨n0, n1, rfl⟩

end Go.Proofs.YtiffjkgbjklgnaaDoor
