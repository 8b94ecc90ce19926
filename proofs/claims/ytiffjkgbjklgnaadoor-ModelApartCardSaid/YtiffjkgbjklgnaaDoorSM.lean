/-
  Maps with integer keys: what a map is in memory.
-/
import Derived.Test.YtiffjkgbjklgnaaDoorSep
namespace Go.Eng
open Go

def putI : List (Int × Value) → Int → Value → List (Int × Value)
  | [], n, v => [(n, v)]
  | (k, x) :: r, n, v => if n = k then (n, v) :: r else (k, x) :: putI r n v
def delI : List (Int × Value) → Int → List (Int × Value)
  | [], _ => []
  | (k, x) :: r, n => if n = k then r else (k, x) :: delI r n

theorem asI_cons {kd : IntKind} {e : MapEntry} {r : List MapEntry} {l : List (Int × Value)} (h : asI kd (e :: r) = some l) : ∃ n l', e.key = .int kd n ∧ asI kd r = some l' ∧ l = (n, e.val) :: l' := by
  unfold asI at h
  split at h
  · rename_i k n hk
    split at h
    · rename_i e1
      split at h
      · rename_i l' hl'
        injection h with h
        exact ⟨n, l', by rw [hk, e1], hl', h.symm⟩
      · cases h
    · cases h
  · cases h
theorem asI_mk {kd : IntKind} {e : MapEntry} {r : List MapEntry} {l : List (Int × Value)} {n : Int} (hk : e.key = .int kd n) (hr : asI kd r = some l) : asI kd (e :: r) = some ((n, e.val) :: l) := by
  unfold asI; rw [hk]; simp [hr]
theorem asI_modify {kd : IntKind} {n : Int} {v : Value} : ∀ {es : List MapEntry} {l : List (Int × Value)} {i : Nat}, asI kd es = some l → idxI l n = some i → asI kd (es.modify i fun e => { e with key := .int kd n, val := v }) = some (putI l n v)
  | [], l, i, h, hi => by
    unfold asI at h; injection h with h; subst h; cases hi
  | e :: r, l, i, h, hi => by
    obtain ⟨k, l', hk, hr, rfl⟩ := asI_cons h
    unfold idxI at hi
    unfold putI
    split at hi
    · rename_i e1; subst e1
      injection hi with hi; subst hi
      rw [if_pos rfl]
      exact asI_mk (e := { e with key := .int kd n, val := v }) rfl hr
    · rename_i e1
      rw [if_neg e1]
      split at hi
      · rename_i j hj
        injection hi with hi; subst hi
        exact asI_mk hk (asI_modify hr hj)
      · cases hi
theorem asI_push {kd : IntKind} {n : Int} {v : Value} {c : Nat} : ∀ {es : List MapEntry} {l : List (Int × Value)}, asI kd es = some l → idxI l n = none → asI kd (es ++ [{ key := .int kd n, val := v, born := c }]) = some (putI l n v)
  | [], l, h, hi => by
    unfold asI at h; injection h with h; subst h
    exact asI_mk (e := { key := .int kd n, val := v, born := c }) rfl rfl
  | e :: r, l, h, hi => by
    obtain ⟨k, l', hk, hr, rfl⟩ := asI_cons h
    unfold idxI at hi
    unfold putI
    split at hi
    · cases hi
    · rename_i e1
      rw [if_neg e1]
      split at hi
      · cases hi
      · rename_i hj
        exact asI_mk hk (asI_push hr hj)
theorem asI_erase {kd : IntKind} {n : Int} : ∀ {es : List MapEntry} {l : List (Int × Value)} {i : Nat}, asI kd es = some l → idxI l n = some i → asI kd (es.eraseIdx i) = some (delI l n)
  | [], l, i, h, hi => by
    unfold asI at h; injection h with h; subst h; cases hi
  | e :: r, l, i, h, hi => by
    obtain ⟨k, l', hk, hr, rfl⟩ := asI_cons h
    unfold idxI at hi
    unfold delI
    split at hi
    · rename_i e1
      injection hi with hi; subst hi
      rw [if_pos e1]
      exact hr
    · rename_i e1
      rw [if_neg e1]
      split at hi
      · rename_i j hj
        injection hi with hi; subst hi
        exact asI_mk hk (asI_erase hr hj)
      · cases hi
theorem delI_none {n : Int} : ∀ {l : List (Int × Value)}, idxI l n = none → delI l n = l
  | [], _ => rfl
  | (k, x) :: r, h => by
    unfold idxI at h
    unfold delI
    split at h
    · cases h
    · rename_i e1
      rw [if_neg e1]
      split at h
      · cases h
      · rename_i hj
        rw [delI_none hj]
theorem asI_len {kd : IntKind} : ∀ {es : List MapEntry} {l : List (Int × Value)}, asI kd es = some l → l.length = es.length
  | [], l, h => by unfold asI at h; injection h with h; subst h; rfl
  | e :: r, l, h => by
    obtain ⟨k, l', hk, hr, rfl⟩ := asI_cons h
    simp [asI_len hr]

/-- the entries' times grow, and lie before the clock -/
def bornOk (es : List MapEntry) (c : Nat) : Prop := (es.map (·.born)).Pairwise (· < ·) ∧ ∀ e ∈ es, e.born < c
structure mapOk (es : List MapEntry) (c : Nat) (m : List (Int × Value)) : Prop where
  as : asI .i64 es = some m
  born : bornOk es c
  keys : (m.map (·.1)).Nodup
theorem bornOk_modify {es : List MapEntry} {c i : Nat} {f : MapEntry → MapEntry} (hf : ∀ e, (f e).born = e.born) (h : bornOk es c) : bornOk (es.modify i f) c := by
  have e : (es.modify i f).map (·.born) = es.map (·.born) := by
    apply List.ext_getElem?; intro j
    simp only [List.getElem?_map, List.getElem?_modify]
    split
    · cases es[j]? <;> simp [hf]
    · simp
  refine ⟨by rw [e]; exact h.1, fun x hx => ?_⟩
  have : x.born ∈ (es.modify i f).map (·.born) := List.mem_map_of_mem hx
  rw [e] at this
  obtain ⟨y, hy, e2⟩ := List.mem_map.1 this
  rw [← e2]; exact h.2 y hy
theorem bornOk_push {es : List MapEntry} {c : Nat} {k v : Value} (h : bornOk es c) : bornOk (es ++ [{ key := k, val := v, born := c }]) (c + 1) := by
  refine ⟨?_, fun x hx => ?_⟩
  · rw [List.map_append, List.pairwise_append]
    refine ⟨h.1, by simp, fun a ha b hb => ?_⟩
    obtain ⟨y, hy, rfl⟩ := List.mem_map.1 ha
    simp at hb; subst hb; exact h.2 y hy
  · rcases List.mem_append.1 hx with hx | hx
    · exact Nat.lt_succ_of_lt (h.2 x hx)
    · simp at hx; subst hx; exact Nat.lt_succ_self _
theorem bornOk_erase {es : List MapEntry} {c : Nat} (i : Nat) (h : bornOk es c) : bornOk (es.eraseIdx i) c := by
  refine ⟨?_, fun x hx => h.2 x (List.mem_of_mem_eraseIdx hx)⟩
  exact h.1.sublist ((List.eraseIdx_sublist es i).map _)
theorem putI_keys {n : Int} {v : Value} : ∀ {l : List (Int × Value)} {j : Int}, j ∈ (putI l n v).map (·.1) ↔ j = n ∨ j ∈ l.map (·.1)
  | [], j => by simp [putI]
  | (k, x) :: r, j => by
    unfold putI
    split
    · rename_i e; subst e; simp
    · have := putI_keys (n := n) (v := v) (l := r) (j := j)
      simp only [List.map_cons, List.mem_cons, this]
      constructor
      · rintro (h | h | h); exact .inr (.inl h); exact .inl h; exact .inr (.inr h)
      · rintro (h | h | h); exact .inr (.inl h); exact .inl h; exact .inr (.inr h)
theorem putI_nodup {n : Int} {v : Value} : ∀ {l : List (Int × Value)}, (l.map (·.1)).Nodup → ((putI l n v).map (·.1)).Nodup
  | [], _ => by simp [putI]
  | (k, x) :: r, h => by
    unfold putI
    rw [List.map_cons, List.nodup_cons] at h
    split
    · rename_i e; subst e; rw [List.map_cons, List.nodup_cons]; exact h
    · rename_i e
      rw [List.map_cons, List.nodup_cons]
      refine ⟨fun hh => ?_, putI_nodup h.2⟩
      rcases putI_keys.1 hh with e2 | e2
      · exact e e2.symm
      · exact h.1 e2
theorem delI_sub {n : Int} : ∀ {l : List (Int × Value)}, (delI l n).Sublist l
  | [] => .slnil
  | (k, x) :: r => by
    unfold delI
    split
    · exact .cons _ (List.Sublist.refl _)
    · exact .cons_cons _ delI_sub
/-- a map from integers -/
def MapH (r : Nat) (m : List (Int × Value)) : HP := exs fun es : Array MapEntry => exs fun c : Nat => pur (mapOk es.toList c m) (own r (.map es c))
section
variable {T : Bs} {w : World} {r : Nat} {m : List (Int × Value)} {R : HP}
theorem MapH.open (h : Sat T w (MapH r m • R)) : ∃ es c, mapOk es.toList c m ∧ Sat T w (own r (.map es c) • R) := by
  unfold MapH at h
  obtain ⟨es, h⟩ := h.exs; obtain ⟨c, h⟩ := h.exs; obtain ⟨p, h⟩ := h.pur
  exact ⟨es, c, p, h⟩
theorem MapH.close {es : Array MapEntry} {c : Nat} (p : mapOk es.toList c m) (h : Sat T w (own r (.map es c) • R)) : Sat T w (MapH r m • R) :=
  Sat.toExs es (Sat.toExs c (Sat.toPur p h))
theorem mapOk_nil : mapOk (#[] : Array MapEntry).toList 0 [] := ⟨rfl, ⟨by simp, by simp⟩, by simp⟩
theorem MapH.look (h : Sat T w (MapH r m • R)) : ∃ es c, w.heap[r]? = some (.map es c) ∧ mapI .i64 (w.heap[r]?) = some m ∧ es.size = m.length := by
  obtain ⟨es, c, p, h⟩ := MapH.open h
  refine ⟨es, c, h.get, ?_, ?_⟩
  · rw [h.get]; exact p.as
  · rw [asI_len p.as]; simp
theorem MapH.put (h : Sat T w (MapH r m • R)) (n : Int) (v : Value) : ∃ o, w.heap[r]? = some o ∧ mapI .i64 (some o) = some m ∧ Sat T (sb w r (putM .i64 o n v)) (MapH r (putI m n v) • R) := by
  obtain ⟨es, c, p, h⟩ := MapH.open h
  refine ⟨_, h.get, p.as, ?_⟩
  have h2 := h.set (putM .i64 (.map es c) n v)
  have e : putM .i64 (.map es c) n v = (match idxI m n with | some i => .map (es.modify i fun e => { e with key := .int .i64 n, val := v }) c | none => .map (es.push { key := .int .i64 n, val := v, born := c }) (c + 1)) := by
    unfold putM; simp only [p.as]; cases idxI m n <;> rfl
  cases hi : idxI m n with
  | some i =>
    rw [hi] at e
    rw [e] at h2 ⊢
    refine MapH.close ⟨?_, ?_, putI_nodup p.keys⟩ h2
    · have := asI_modify (v := v) p.as hi
      simpa using this
    · have := bornOk_modify (i := i) (f := fun e => { e with key := .int .i64 n, val := v }) (fun _ => rfl) p.born
      simpa using this
  | none =>
    rw [hi] at e
    rw [e] at h2 ⊢
    refine MapH.close ⟨?_, ?_, putI_nodup p.keys⟩ h2
    · have := asI_push (v := v) (c := c) p.as hi
      simpa using this
    · have := bornOk_push (k := .int .i64 n) (v := v) p.born
      simpa using this
theorem MapH.del (h : Sat T w (MapH r m • R)) (n : Int) : ∃ o, w.heap[r]? = some o ∧ mapI .i64 (some o) = some m ∧ Sat T (sb w r (delM .i64 o n)) (MapH r (delI m n) • R) := by
  obtain ⟨es, c, p, h⟩ := MapH.open h
  refine ⟨_, h.get, p.as, ?_⟩
  have h2 := h.set (delM .i64 (.map es c) n)
  have e : delM .i64 (.map es c) n = (match idxI m n with | some i => .map (es.eraseIdxIfInBounds i) c | none => .map es c) := by
    unfold delM; simp only [p.as]
    cases idxI m n <;> rfl
  have hk : ((delI m n).map (·.1)).Nodup := p.keys.sublist (delI_sub.map _)
  cases hi : idxI m n with
  | some i =>
    rw [hi] at e
    rw [e] at h2 ⊢
    refine MapH.close ⟨?_, ?_, hk⟩ h2
    · have := asI_erase p.as hi
      simpa using this
    · have := bornOk_erase i p.born
      simpa using this
  | none =>
    rw [hi] at e
    rw [e] at h2 ⊢
    refine MapH.close ⟨?_, p.born, hk⟩ h2
    rw [delI_none hi]; exact p.as
end

/-! what a map answers -/
theorem getI_put_same {n : Int} {v : Value} : ∀ {l : List (Int × Value)}, getI (putI l n v) n = some v
  | [] => by simp [putI, getI]
  | (k, x) :: r => by
    unfold putI
    split
    · simp [getI]
    · rename_i e; simp [getI, e, getI_put_same]
theorem getI_put_other {n j : Int} {v : Value} (h : j ≠ n) : ∀ {l : List (Int × Value)}, getI (putI l n v) j = getI l j
  | [] => by simp [putI, getI, h]
  | (k, x) :: r => by
    unfold putI
    split
    · rename_i e; subst e; simp [getI, h]
    · simp only [getI]; split
      · rfl
      · exact getI_put_other h
end Go.Eng
