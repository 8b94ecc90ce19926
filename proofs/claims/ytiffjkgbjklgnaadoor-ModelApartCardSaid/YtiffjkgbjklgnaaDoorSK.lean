/-
  Maps that are ranged over, and maps that are cloned.
-/
import Derived.Test.YtiffjkgbjklgnaaDoorSM
import Derived.Laws.Externs
namespace Go.Eng
open Go

/-- a pointer to a block -/
@[reducible] def pntr (x : Nat) : Value := .pointer (some ⟨x, 0, none⟩)
def notCells : Obj → Prop | .cells _ _ _ => False | _ => True
section
variable {P : Program} {T : Bs} {w : World} {K : Value → World → Prop} {R : HP} {x m : Nat} {es : Array MapEntry} {c : Nat} {seen : Array Nat}

theorem run_getObj {r : Nat} {o : Obj} (h : w.heap[r]? = some o) (hn : notCells o) : (getObj r).run P w = .ok o w := by
  simp only [getObj, Sem.run, h]
  cases o <;> first | rfl | exact hn.elim
theorem run_setObj {r : Nat} {o o' : Obj} (h : w.heap[r]? = some o) (hn : notCells o) : (setObj r o').run P w = .ok () (sb w r o') := by
  simp only [setObj, Sem.run, h]
  cases o <;> first | rfl | exact hn.elim
theorem run_choose_map (n : Nat) (hn : 0 < n) : ∃ i, i < n ∧ ∃ w', (w' = w ∨ w' = dw w) ∧ (choose (.mapNext n)).run P w = .ok i w' := by
  by_cases h : n ≤ 1
  · refine ⟨0, hn, w, .inl rfl, ?_⟩
    simp only [choose, Sem.run]
    rw [if_pos (by simp [Question.forced, h])]
  · refine ⟨(Question.mapNext n).cut (w.tape w.drawn (.mapNext n)), Nat.mod_lt _ hn, dw w, .inr rfl, ?_⟩
    simp only [choose, Sem.run]
    rw [if_neg (by simp [Question.forced, h])]; rfl
theorem Sat.or {w w' : World} {A : HP} (h : Sat T w A) (e : w' = w ∨ w' = Eng.dw w) : Sat T w' A := by
  rcases e with rfl | rfl
  · exact h
  · exact h.dw

theorem rg_map {t k e : TypeId} (ht : P.underlying t = some (.map k e)) (h : Sat T w (own m (.map es c) • R))
    (hk : ∀ x w', Sat T w' (own x (.mapIter (some m) c #[] c) • own m (.map es c) • R) → K (pntr x) w') : rg P t (.map (some m)) w K := by
  have h1 := h.push (.mapIter (some m) c #[] c)
  refine Eq.mpr (vS_eq (v := pntr w.heap.size) (w' := pu w (.mapIter (some m) c #[] c)) ?_) (hk _ _ h1)
  unfold Instr.range
  simp only [run_bind', run_under ht, run_getObj h.get trivial]
  rfl

theorem nx_map {t : TypeId} {D : Nat → Bool} (hb : bornOk es.toList c) (hD : ∀ i (h : i < es.size), seen.contains es[i].born = D i)
    (h : Sat T w (own x (.mapIter (some m) c seen c) • own m (.map es c) • R))
    (h0 : (∀ i, i < es.size → D i = true) → ∀ w', Sat T w' (own x (.mapIter (some m) c seen c) • own m (.map es c) • R) → K (.tuple #[.bool false]) w')
    (h1 : ∀ i (hi : i < es.size), D i = false → ∀ w', Sat T w' (own x (.mapIter (some m) c (seen.push es[i].born) c) • own m (.map es c) • R) → K (.tuple #[.bool true, es[i].key, es[i].val]) w') :
    nx P (pntr x) false t w K := by
  have hx := h.get
  have hm := (h.to (star_left ..)).get
  have hlt : ∀ i (hi : i < es.size), es[i].born < c := fun i hi => hb.2 _ (by simp)
  have e1 : (!seen.isEmpty && !es.isEmpty && es.all (fun e => decide (e.born ≥ c))) = false := by
    by_cases h0 : es.size = 0
    · have : es.isEmpty = true := by simp [Array.isEmpty, h0]
      simp [this]
    · have : es.all (fun e => decide (e.born ≥ c)) = false := by
        rw [Bool.eq_false_iff]
        intro hh
        rw [Array.all_eq_true] at hh
        have := hh 0 (by omega)
        have h2 := hlt 0 (by omega)
        simp at this; omega
      simp [this]
  have e2 : ∀ l : Array MapEntry, (∀ e ∈ l, e.born < c) → l.filter (fun e => decide (e.born < c)) = l := fun l hl => by
    rw [Array.filter_eq_self]; intro e he; simpa using hl e he
  have e3 : ∀ l : Array MapEntry, (∀ e ∈ l, e.born < c) → l.filter (fun e => decide (e.born ≥ c)) = #[] := fun l hl => by
    rw [Array.filter_eq_empty_iff]; intro e he; have := hl e he; simp; omega
  have hle : ∀ e ∈ es.filter (fun e => !seen.contains e.born), e.born < c := fun e he => by
    rw [Array.mem_filter] at he
    exact hb.2 e (by simpa using he.1)
  generalize hL : es.filter (fun e => !seen.contains e.born) = left at *
  have hcand : ∃ i w', (w' = w ∨ w' = dw w) ∧ (choose (.mapNext ((if left.isEmpty then #[none] else #[]) ++ left.map some).size)).run P w = .ok i w' ∧ i < ((if left.isEmpty then #[none] else #[]) ++ left.map some).size := by
    obtain ⟨i, hi, w', e, hr⟩ := run_choose_map (P := P) (w := w) ((if left.isEmpty then #[none] else #[]) ++ left.map some).size (by
      by_cases hl : left.isEmpty = true
      · simp [hl]; omega
      · have : left.size ≠ 0 := by simpa [Array.isEmpty] using hl
        simp [hl]; omega)
    exact ⟨i, w', e, hr, hi⟩
  obtain ⟨k, w', hw', hch, hk⟩ := hcand
  have hx' := (h.or hw').get
  have run1 : (Instr.next (pntr x) false t).run P w = (match ((if left.isEmpty then #[none] else #[]) ++ left.map some)[k]? with
    | some (some e) => (do
      setObj x (.mapIter (some m) c (seen.push e.born) c)
      pure (.tuple #[.bool true, e.key, e.val]) : Sem Value)
    | some none => pure (.tuple #[.bool false])
    | none => stuck "Next: no such candidate").run P w' := by
    unfold Instr.next
    simp only [run_bind', run_getObj hx trivial, run_getObj hm trivial, e1, hL, e2 left hle, e3 left hle, Array.append_empty, hch, Bool.false_eq_true, if_false]
    rfl
  by_cases hl : left.isEmpty = true
  · have hl0 : left = #[] := by simpa using hl
    subst hl0
    have hk0 : k = 0 := by simp at hk; exact hk
    subst hk0
    refine Eq.mpr (vS_eq (v := .tuple #[.bool false]) (w' := w') (by rw [run1]; simp)) (h0 (fun i hi => ?_) _ (h.or hw'))
    rw [← hD i hi]
    rw [Array.filter_eq_empty_iff] at hL
    have := hL es[i] (by simp)
    simpa using this
  · have hk2 : k < left.size := by simpa [hl] using hk
    have hmem : left[k] ∈ left := by simp
    have e4 : ((if left.isEmpty then #[none] else #[]) ++ left.map some)[k]? = some (some left[k]) := by
      simp [hl, hk2]
    have hmem2 : left[k] ∈ es.filter (fun e => !seen.contains e.born) := by rw [hL]; exact hmem
    rw [Array.mem_filter] at hmem2
    obtain ⟨i, hi, ei⟩ := Array.mem_iff_getElem.1 hmem2.1
    rw [e4] at run1
    simp only [run_bind', run_setObj hx' trivial] at run1
    refine Eq.mpr (vS_eq (v := .tuple #[.bool true, left[k].key, left[k].val]) (w' := sb w' x (.mapIter (some m) c (seen.push left[k].born) c)) (by rw [run1]; rfl)) ?_
    rw [← ei]
    refine h1 i hi ?_ _ ((h.or hw').set _)
    rw [← hD i hi, ei]
    simpa using hmem2.2

theorem born_inj (hb : bornOk es.toList c) {i j : Nat} (hi : i < es.size) (hj : j < es.size) (e : es[i].born = es[j].born) : i = j := by
  have hp := hb.1
  rw [List.pairwise_map, List.pairwise_iff_getElem] at hp
  rcases Nat.lt_trichotomy i j with h | h | h
  · have := hp i j (by simpa using hi) (by simpa using hj) h; simp at this; omega
  · exact h
  · have := hp j i (by simpa using hj) (by simpa using hi) h; simp at this; omega

theorem en_map (hb : bornOk es.toList c) {i : Nat} (hi : i < es.size) (h : Sat T w (own x (.mapIter (some m) c (seen.push es[i].born) c) • own m (.map es c) • R)) :
    en P (pntr x) w K = K (.tuple #[es[i].key, es[i].val]) w := by
  have hx := h.get
  have hm := (h.to (star_left ..)).get
  refine vS_eq ?_
  have e1 : es.find? (fun e => e.born == es[i].born) = some es[i] := by
    rw [Array.find?_eq_some_iff_getElem]
    refine ⟨by simp, i, hi, rfl, fun j hj => ?_⟩
    have : ¬ es[j].born = es[i].born := fun e => by have := born_inj hb (by omega) hi e; omega
    simp [this]
  unfold Instr.entry
  simp only [run_bind', run_getObj hx trivial, run_getObj hm trivial, Array.back?_push, bne_self_eq_false, Bool.false_eq_true, if_false, e1]
  rfl

/-- what was seen, one more -/
theorem seen_push (hb : bornOk es.toList c) {D : Nat → Bool} (hD : ∀ i (h : i < es.size), seen.contains es[i].born = D i) {j : Nat} (hj : j < es.size) :
    ∀ i (h : i < es.size), (seen.push es[j].born).contains es[i].born = (D i || i == j) := by
  intro i hi
  rw [← hD i hi]
  by_cases e : i = j
  · subst e; simp
  · have : ¬ es[j].born = es[i].born := fun h => e (born_inj hb hi hj h.symm)
    have h3 : ¬ es[i].born = es[j].born := fun h => this h.symm
    simp [h3, e]

theorem cc_clone {f : FuncId} {fn : Func} (hf : P.funcs[f]? = some fn) (hname : (fn.name == "runtime.NumGoroutine") = false)
    (hb : fn.body.isNone = true) (hn : Extern.findNext fn = none) (he : Extern.find fn = some Extern.MapsClone.clone) {t : TypeId} (h : Sat T w (own m (.map es c) • R))
    (hk : ∀ m' w', Sat T w' (own m' (.map es c) • own m (.map es c) • R) → K (.iface t (.map (some m'))) w') :
    cc P (.func (.func f) #[] #[]) [.iface t (.map (some m))] w K := by
  have h1 := h.push (.map es c)
  have hr : (do let d ← Deferred.ofValue (.func (.func f) #[] #[]) [.iface t (.map (some m))].toArray; invoke d.target d.args : Sem Next).run P w = .ok (.value (.iface t (.map (some w.heap.size)))) (pu w (.map es c)) := by
    rw [run_bind']
    show (callFunc f (#[] ++ [.iface t (.map (some m))].toArray ++ #[])).run P w = _
    rw [run_callFunc_extern hf hname hb hn he]
    have : (Extern.MapsClone.clone #[.iface t (.map (some m))]).run P w = .ok (.iface t (.map (some w.heap.size))) (pu w (.map es c)) := by
      have e : Extern.MapsClone.clone #[.iface t (.map (some m))] = (getObj m >>= fun o => match o with
        | .map entries clock => (newObj (.map entries clock) >>= fun n => pure (.iface t (.map (some n))))
        | _ => stuck "maps.clone: a map expected") := rfl
      rw [e]
      simp only [run_bind', run_getObj h.get trivial, run_newObj]
      rfl
    simp [this, Result.andThen]
  show rV P _ w K
  unfold rV
  rw [hr]
  exact hk _ _ h1
theorem mif_map {t k e : TypeId} {v : Value} (h : P.underlying t = some (.map k e)) : mif P t v w K = K (.iface t v) w := by
  refine vS_eq ?_
  unfold Instr.makeInterface
  simp only [run_bind', run_under h]
  rfl
theorem ta_map {t xT k e : TypeId} {v : Value} (h : P.underlying t = some (.map k e)) : ta P (.iface t v) xT t false w K = K v w := by
  refine vS_eq ?_
  simp [Instr.typeAssert, run_under h, Result.andThen]
theorem eqx_map_nil {t k e : TypeId} {x y : Operand} {p : Option Nat} (h : P.underlying t = some (.map k e)) : eqx P .eql t x y (.map p) (.map none) w K = K (.bool p.isNone) w := by
  refine vS_eq ?_
  show (do pure (Value.bool (← Op.equal t (.map p) (.map none)))).run P w = _
  rw [run_bind']
  have : (Op.equal t (.map p) (.map none)).run P w = .ok p.isNone w := by
    unfold Op.equal Op.maxDepth Op.equalIn
    rw [run_bind', run_under h]
    cases p <;> rfl
  rw [this]; rfl
end
end Go.Eng
