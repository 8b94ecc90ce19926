/-
  Slices of a call's own whose elements have six cells: appending, reading.
-/
import Derived.Test.YtiffjkgbjklgnaaDoorLD
namespace Go.Proofs.YtiffjkgbjklgnaaDoor
open Go Go.Eng Go.Lib
set_option maxRecDepth 20000
/-- v is a slice of n elements, their cells cs, in a block of its own -/
def SlH (te : TypeId) (cs : List Value) (n : Nat) (v : Value) : HP := fun h =>
  (v = .slice none 0 0 ∧ n = 0 ∧ cs = [] ∧ emp h) ∨ ∃ s c rest, (v = .slice (some ⟨s, 0, none⟩) n c ∧ cs.length = n * 6 ∧ rest.length = (c - n) * 6 ∧ n ≤ c) ∧ own s (.cells (cs ++ rest).toArray te (0, 0)) h
section
variable {T : Bs} {w : World} {Q : Value → World → Prop} {K : Value → World → Prop} {R : HP} {te ts : TypeId} {cs : List Value} {n : Nat} {v : Value}
theorem SlH.open (h : Sat T w (SlH te cs n v • R)) : (v = .slice none 0 0 ∧ n = 0 ∧ cs = [] ∧ Sat T w R) ∨ ∃ s c rest, (v = .slice (some ⟨s, 0, none⟩) n c ∧ cs.length = n * 6 ∧ rest.length = (c - n) * 6 ∧ n ≤ c) ∧ Sat T w (own s (.cells (cs ++ rest).toArray te (0, 0)) • R) := by
  obtain ⟨t, s0, x, p, h1, h2, d, e, a, r⟩ := h
  rcases a with ⟨e1, e2, e3, e4⟩ | ⟨s, c, rest, f, a⟩
  · left
    refine ⟨e1, e2, e3, ?_⟩
    have : Sat T w (emp • R) := ⟨t, s0, x, p, h1, h2, d, e, e4, r⟩
    rw [emp_star] at this; exact this
  · right
    exact ⟨s, c, rest, f, t, s0, x, p, h1, h2, d, e, a, r⟩
theorem SlH.nil (h : Sat T w R) : Sat T w (SlH te [] 0 (.slice none 0 0) • R) := by
  have h' : Sat T w (emp • R) := by rw [emp_star]; exact h
  obtain ⟨t, s0, x, p, h1, h2, d, e, a, r⟩ := h'
  exact ⟨t, s0, x, p, h1, h2, d, e, .inl ⟨rfl, rfl, rfl, a⟩, r⟩
theorem SlH.close {s c : Nat} {rest : List Value} (h1 : cs.length = n * 6) (h2 : rest.length = (c - n) * 6) (h3 : n ≤ c) (h : Sat T w (own s (.cells (cs ++ rest).toArray te (0, 0)) • R)) : Sat T w (SlH te cs n (.slice (some ⟨s, 0, none⟩) n c) • R) := by
  obtain ⟨t, s0, x, p, g1, g2, d, e, a, r⟩ := h
  exact ⟨t, s0, x, p, g1, g2, d, e, .inr ⟨s, c, rest, ⟨rfl, h1, h2, h3⟩, a⟩, r⟩
theorem SlH.len {ty : TypeId} (hts : sliceO P ts = some te) (h : Sat T w (SlH te cs n v • R)) : len P #[ts] ty [v] w K = K (.int .i64 n) w := by
  rcases SlH.open h with ⟨rfl, rfl, rfl, -⟩ | ⟨s, c, rest, ⟨rfl, -⟩, -⟩
  · exact len_slice hts
  · exact len_slice hts
theorem SlH.at_ {i : Nat} (hi : i < n) (h : Sat T w (SlH te cs n v • R)) : ∃ s c, v = .slice (some ⟨s, 0, none⟩) n c ∧ cellsO (w.heap[s]?) (i * 6) 6 = some ((cs.drop (i * 6)).take 6).toArray := by
  rcases SlH.open h with ⟨rfl, rfl, rfl, -⟩ | ⟨s, c, rest, ⟨rfl, h1, h2, h3⟩, h4⟩
  · omega
  · refine ⟨s, c, rfl, ?_⟩
    rw [h4.get, cellsO_some (by simp; omega)]
    congr 1
    apply Array.ext'
    simp [List.drop_append, List.take_append]
    have : 6 - (cs.length - i * 6) = 0 := by omega
    simp [this]
theorem app_one {by_ : Nat} {z : Value} {xs : Array Value} (hts : sliceO P ts = some te) (hnot : notI P ts = true) (hsz : szO P te = some 6) (hby : byO P te = some by_) (hb0 : by_ ≠ 0 ∧ by_ ≤ 1000) (hz : zeroO P te = some z) (hz6 : z.cells.size = 6)
    (hbs : bsO P ts 1 [(0, .agg xs)] = some (te, xs)) (hx6 : xs.size = 6) (hone : xs.toList.all oneV = true) (hn : n < 254) (h : Sat T w (SlH te cs n v • R))
    (hk : ∀ v' w', Sat T w' (SlH te (cs ++ xs.toList) (n + 1) v' • R) → K v' w') :
    bs P ts 1 [(0, .agg xs)] w fun v7 w8 => app P #[ts, ts] ts [v, v7] w8 K := by
  rw [bs_eq, hbs, onv_some]
  have h1 := h.push (.cells xs te (0, 0))
  have hy := h1.get
  have h2 := h1.to (star_left ..)
  generalize w.heap.size = y at *
  generalize pu w _ = w1 at *
  have e1 : (#[ts, ts] : Array TypeId)[0]? = some ts := rfl
  have e2 : (#[ts, ts] : Array TypeId)[1]? = some ts := rfl
  have hsrc : srcO w1 6 1 (.slice (some ⟨y, 0, none⟩) 1 1) = some xs := by
    show cellsO (w1.heap[y]?) 0 (1 * 6) = _
    rw [hy, cellsO_some (by omega)]
    rw [show 0 + 1 * 6 = xs.size by omega]
    simp
  have hzc : ∀ k, (Builtin.zeroCells z.cells k).size = k * 6 := fun k => by simp [Builtin.zeroCells, hz6]
  unfold app
  rw [e1, e2]
  rcases SlH.open h2 with ⟨rfl, rfl, rfl, h3⟩ | ⟨s, c, rest, ⟨rfl, f1, f2, f3⟩, h3⟩
  · simp only [hnot, hts, hsz, hby, hz, lenV, hsrc, onv_some, Nat.zero_add, true_and]
    refine ⟨fun h => by omega, fun _ => ⟨hb0.1, ?_, ?_⟩⟩
    · have : Builtin.nextslicecap 1 0 = 1 := by decide
      rw [this]; omega
    · show onv (some #[]) _
      rw [onv_some]
      intro cap hc
      have h4 := h3.drop.dw.push (.cells (xs ++ Builtin.zeroCells z.cells (cap - 1)) te (0, 0))
      have e5 : xs ++ Builtin.zeroCells z.cells (cap - 1) = (xs.toList ++ (Builtin.zeroCells z.cells (cap - 1)).toList).toArray := by apply Array.ext'; simp
      simp only [Array.empty_append]
      refine hk _ _ (SlH.close (rest := (Builtin.zeroCells z.cells (cap - 1)).toList) (by simp [hx6]) (by simp [hzc]) hc ?_)
      show Sat T _ (own _ (.cells ([] ++ xs.toList ++ _).toArray te (0, 0)) • R)
      rw [List.nil_append, ← e5]
      exact h4
  · simp only [hnot, hts, hsz, hby, hz, lenV, hsrc, onv_some, true_and]
    refine ⟨fun hfit => ?_, fun hgrow => ⟨hb0.1, ?_, ?_⟩⟩
    · unfold stAll
      simp only
      rw [h3.get]
      have hlen : 0 + n * 6 + xs.toList.length ≤ (cs ++ rest).toArray.size := by simp; omega
      rw [stO_some hlen hone, onv_some]
      have hr : rest = rest.take 6 ++ rest.drop 6 := (List.take_append_drop 6 rest).symm
      have hp := putC_mid xs.toList cs (rest.take 6) (rest.drop 6) (by simp [hx6]; omega)
      have e6 : putC (cs ++ rest).toArray (0 + n * 6) xs.toList = (cs ++ xs.toList ++ rest.drop 6).toArray := by
        rw [← hp, ← f1, Nat.zero_add, List.append_assoc, ← hr]
      rw [e6]
      have h4 := h3.set (.cells (cs ++ xs.toList ++ rest.drop 6).toArray te (0, 0))
      have h5 := (h4.to (star_left ..)).drop
      exact hk _ _ (SlH.close (rest := rest.drop 6) (by simp [f1, hx6]; omega) (by simp [f2]; omega) hfit h5)
    · have : Builtin.nextslicecap (n + 1) c ≤ 600 := by
        unfold Builtin.nextslicecap
        split
        · omega
        · split <;> omega
      have := Nat.mul_le_mul this hb0.2
      omega
    · have hs2 : srcO w1 6 n (.slice (some ⟨s, 0, none⟩) n c) = some cs.toArray := by
        show cellsO (w1.heap[s]?) 0 (n * 6) = _
        rw [h3.get, cellsO_some (by simp; omega)]
        congr 1
        apply Array.ext'
        simp [List.take_append]
        rw [List.take_of_length_le (by omega)]
        have : n * 6 - cs.length = 0 := by omega
        rw [this]; simp
      rw [hs2, onv_some]
      intro cap hc
      have h4 := ((h3.to (star_left ..)).drop.drop).dw.push (.cells (cs.toArray ++ xs ++ Builtin.zeroCells z.cells (cap - (n + 1))) te (0, 0))
      have e5 : cs.toArray ++ xs ++ Builtin.zeroCells z.cells (cap - (n + 1)) = (cs ++ xs.toList ++ (Builtin.zeroCells z.cells (cap - (n + 1))).toList).toArray := by apply Array.ext'; simp
      refine hk _ _ (SlH.close (rest := (Builtin.zeroCells z.cells (cap - (n + 1))).toList) (by simp [f1, hx6]; omega) (by simp [hzc]) hc ?_)
      rw [← e5]
      exact h4
end
/-- answers' cells -/
def ansC (l : List An) : List Value := l.flatMap fun a => (anA a).toList
def opsC (l : List Op_) : List Value := l.flatMap fun o => (opA o).toList
theorem flat_at {α : Type} {f : α → List Value} (hf : ∀ a, (f a).length = 6) : ∀ (l : List α) (i : Nat) (h : i < l.length), ((l.flatMap f).drop (i * 6)).take 6 = f l[i]
  | a :: l, 0, h => by simp [List.take_append, hf]
  | a :: l, i + 1, h => by
    have hi : i < l.length := by simpa using h
    have := flat_at hf l i hi
    rw [List.flatMap_cons, List.drop_append, hf]
    have e1 : (i + 1) * 6 - 6 = i * 6 := by omega
    have e2 : (f a).drop ((i + 1) * 6) = [] := by rw [List.drop_eq_nil_iff, hf]; omega
    rw [e1, e2, List.nil_append, this]
    rfl
theorem ansC_app (l : List An) (a : An) : ansC (l ++ [a]) = ansC l ++ (anA a).toList := by simp [ansC]
theorem opsC_app (l : List Op_) (a : Op_) : opsC (l ++ [a]) = opsC l ++ (opA a).toList := by simp [opsC]
section
variable {T : Bs} {w : World} {Q : Value → World → Prop} {K : Value → World → Prop} {R : HP} {v : Value}
theorem app_an {l : List An} {a : An} (hn : l.length < 254) (h : Sat T w (SlH T_api_Answer (ansC l) l.length v • R)) (hk : ∀ v' w', Sat T w' (SlH T_api_Answer (ansC (l ++ [a])) (l ++ [a]).length v' • R) → K v' w') :
    bs P 45 1 [(0, anV a)] w fun v7 w8 => app P #[45, 45] 45 [v, v7] w8 K := by
  refine app_one (te := T_api_Answer) (by_ := 56) (z := anV {}) (xs := anA a) (by kernel_rfl) (by kernel_rfl) (by kernel_rfl) (by kernel_rfl) (by omega) (by kernel_rfl) rfl (by kernel_rfl) rfl rfl hn h fun v' w' h' => hk v' w' ?_
  rw [ansC_app]; simpa using h'
theorem app_op {l : List Op_} {a : Op_} (hn : l.length < 254) (h : Sat T w (SlH T_api_Op (opsC l) l.length v • R)) (hk : ∀ v' w', Sat T w' (SlH T_api_Op (opsC (l ++ [a])) (l ++ [a]).length v' • R) → K v' w') :
    bs P 24 1 [(0, opV a)] w fun v7 w8 => app P #[24, 24] 24 [v, v7] w8 K := by
  refine app_one (te := T_api_Op) (by_ := 56) (z := opV ⟨0, 0, 0, 0, 0, ⟨#[]⟩⟩) (xs := opA a) (by kernel_rfl) (by kernel_rfl) (by kernel_rfl) (by kernel_rfl) (by omega) (by kernel_rfl) rfl (by kernel_rfl) rfl rfl hn h fun v' w' h' => hk v' w' ?_
  rw [opsC_app]; simpa using h'
/-- an answer's place -/
theorem an_ia {l : List An} {i : Nat} (hi : i < l.length) (h : Sat T w (SlH T_api_Answer (ansC l) l.length v • R)) : ∃ s, (∀ w' K, ia P 45 v (.int .i64 (i : Int)) w' K = K (.pointer (some ⟨s, i * 6, none⟩)) w') ∧ ∀ K, ld P 36 (.pointer (some ⟨s, i * 6, none⟩)) w K = K (anV l[i]) w := by
  obtain ⟨s, c, rfl, hc⟩ := SlH.at_ hi h
  refine ⟨s, fun w' K => ?_, fun K => ?_⟩
  · have e1 : sliceO P 45 = some 36 := by kernel_rfl
    have e2 : szO P 36 = some 6 := by kernel_rfl
    rw [ia_slice, e1, onv_some, e2, onv_some]
    have : (0 : Int) ≤ i ∧ (i : Int) < (l.length : Nat) := by omega
    simp [this]
  · rw [ld_eq, show ∀ x i, ldO P 36 x i = (cellsO x i 6).map .agg from fun x i => by kernel_rfl, hc]
    unfold ansC
    rw [flat_at (fun a => rfl) l i hi]
    rfl
theorem op_own {l : List Op_} {i : Nat} (hi : i < l.length) (h : Sat T w (SlH T_api_Op (opsC l) l.length v • R)) (hk : K (opV l[i]) w) : ia P 24 v (.int .i64 (i : Int)) w fun v2 w2 => ld P 34 v2 w2 K := by
  obtain ⟨s, c, rfl, hc⟩ := SlH.at_ hi h
  have e1 : sliceO P 24 = some 34 := by kernel_rfl
  have e2 : szO P 34 = some 6 := by kernel_rfl
  rw [ia_slice, e1, onv_some, e2, onv_some]
  refine ⟨by omega, ?_⟩
  have hii : 0 + (i : Int).toNat * 6 = i * 6 := by omega
  rw [hii, ld_eq, show ∀ x i, ldO P 34 x i = (cellsO x i 6).map .agg from fun x i => by kernel_rfl, hc]
  unfold opsC
  rw [flat_at (fun a => rfl) l i hi]
  exact hk
end
end Go.Proofs.YtiffjkgbjklgnaaDoor
