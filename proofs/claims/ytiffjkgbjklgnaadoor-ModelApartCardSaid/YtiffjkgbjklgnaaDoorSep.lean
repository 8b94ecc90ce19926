/-
  Ownership: what a world has, apart from what others have there. `Sat w A`: some of w's blocks are as A says (never block 0, the library's table).
-/
import Derived.Test.YtiffjkgbjklgnaaDoorMem
import Derived.Lib.TrailingZeros
namespace Go.Eng
open Go

abbrev Hl : Type := Nat → Option Obj
abbrev HP : Type := Hl → Prop
def Hl.dis (h k : Hl) : Prop := ∀ b, h b = none ∨ k b = none
def Hl.un (h k : Hl) : Hl := fun b => match h b with | some o => some o | none => k b
def star (A B : HP) : HP := fun h => ∃ h1 h2, Hl.dis h1 h2 ∧ h = Hl.un h1 h2 ∧ A h1 ∧ B h2
instance : HSMul HP HP HP := ⟨star⟩
def emp : HP := fun h => ∀ b, h b = none
def own (b : Nat) (o : Obj) : HP := fun h => b ≠ 0 ∧ ∀ c, h c = if c = b then some o else none
def exs {α : Sort _} (A : α → HP) : HP := fun h => ∃ x, A x h
def pur (p : Prop) (A : HP) : HP := fun h => p ∧ A h

theorem Hl.dis_comm {h k : Hl} (d : Hl.dis h k) : Hl.dis k h := fun b => (d b).symm
theorem Hl.un_comm {h k : Hl} (d : Hl.dis h k) : Hl.un h k = Hl.un k h := by
  funext b; unfold Hl.un
  rcases d b with e | e
  · rw [e]; cases k b <;> rfl
  · rw [e]; cases h b <;> rfl
theorem star_comm (A B : HP) : A • B = B • A := by
  have : ∀ A B : HP, ∀ h, (A • B) h → (B • A) h := fun A B h ⟨h1, h2, d, e, a, b⟩ => ⟨h2, h1, Hl.dis_comm d, by rw [e, Hl.un_comm d], b, a⟩
  exact funext fun h => propext ⟨this A B h, this B A h⟩
theorem Hl.un_none {h k : Hl} {b : Nat} : Hl.un h k b = none ↔ h b = none ∧ k b = none := by
  unfold Hl.un; cases h b <;> simp
theorem star_assoc (A B C : HP) : (A • B) • C = A • (B • C) := by
  refine funext fun h => propext ⟨?_, ?_⟩
  · rintro ⟨h12, h3, d, rfl, ⟨h1, h2, d', rfl, a, b⟩, c⟩
    refine ⟨h1, Hl.un h2 h3, fun x => ?_, ?_, a, h2, h3, fun x => ?_, rfl, b, c⟩
    · rcases d x with e | e
      · exact .inl (Hl.un_none.1 e).1
      · rcases d' x with e' | e'
        · exact .inl e'
        · exact .inr (Hl.un_none.2 ⟨e', e⟩)
    · funext x; unfold Hl.un; cases h1 x <;> rfl
    · rcases d x with e | e
      · exact .inl (Hl.un_none.1 e).2
      · exact .inr e
  · rintro ⟨h1, h23, d, rfl, a, h2, h3, d', rfl, b, c⟩
    refine ⟨Hl.un h1 h2, h3, fun x => ?_, ?_, ⟨h1, h2, fun x => ?_, rfl, a, b⟩, c⟩
    · rcases d x with e | e
      · rcases d' x with e' | e'
        · exact .inl (Hl.un_none.2 ⟨e, e'⟩)
        · exact .inr e'
      · exact .inr (Hl.un_none.1 e).2
    · funext x; unfold Hl.un; cases h1 x <;> rfl
    · rcases d x with e | e
      · exact .inl e
      · exact .inr (Hl.un_none.1 e).1
theorem star_left (A B C : HP) : A • (B • C) = B • (A • C) := by rw [← star_assoc, star_comm A B, star_assoc]
instance : Std.Associative (HSMul.hSMul : HP → HP → HP) := ⟨star_assoc⟩
instance : Std.Commutative (HSMul.hSMul : HP → HP → HP) := ⟨star_comm⟩
@[simp] theorem star_emp (A : HP) : A • emp = A := by
  refine funext fun h => propext ⟨?_, fun a => ⟨h, fun _ => none, fun _ => .inr rfl, ?_, a, fun _ => rfl⟩⟩
  · rintro ⟨h1, h2, d, rfl, a, e⟩
    have : Hl.un h1 h2 = h1 := by funext b; unfold Hl.un; rw [e b]; cases h1 b <;> rfl
    rw [this]; exact a
  · funext b; unfold Hl.un; cases h b <;> rfl
@[simp] theorem emp_star (A : HP) : emp • A = A := by rw [star_comm, star_emp]
theorem exs_star {α : Sort _} (A : α → HP) (B : HP) : exs A • B = exs fun x => A x • B := by
  refine funext fun h => propext ⟨?_, ?_⟩
  · rintro ⟨h1, h2, d, e, ⟨x, a⟩, b⟩; exact ⟨x, h1, h2, d, e, a, b⟩
  · rintro ⟨x, h1, h2, d, e, a, b⟩; exact ⟨h1, h2, d, e, ⟨x, a⟩, b⟩
theorem pur_star (p : Prop) (A B : HP) : pur p A • B = pur p (A • B) := by
  refine funext fun h => propext ⟨?_, ?_⟩
  · rintro ⟨h1, h2, d, e, ⟨x, a⟩, b⟩; exact ⟨x, h1, h2, d, e, a, b⟩
  · rintro ⟨x, h1, h2, d, e, a, b⟩; exact ⟨h1, h2, d, e, ⟨x, a⟩, b⟩

/-! ### what a world has -/
/-- what stays: the library's table (block 0), the system, the output -/
structure Bs where
  ty : TypeId
  fz : Nat × Nat
  base : World
def tabCells : Array Value := (Lib.deBruijn64tab.map fun n : Nat => Value.int .u8 n).toArray
def Bs.tab (T : Bs) : Option Obj := some (.cells tabCells T.ty T.fz)
def Sat (T : Bs) (w : World) (A : HP) : Prop := (w.heap[0]? = T.tab ∧ w.os = T.base.os ∧ w.output = T.base.output ∧ w.tape = T.base.tape) ∧ 0 < w.heap.size ∧ ∃ h : Hl, (∀ b o, h b = some o → b ≠ 0 ∧ w.heap[b]? = some o) ∧ A h

section
variable {T : Bs} {w : World} {A B R : HP}
theorem Sat.tab (h : Sat T w A) : w.heap[0]? = T.tab := h.1.1
theorem Sat.imp (h : Sat T w A) (k : ∀ x, A x → B x) : Sat T w B := ⟨h.1, h.2.1, h.2.2.imp fun x y => ⟨y.1, k x y.2⟩⟩
theorem Sat.to (h : Sat T w A) (e : A = B) : Sat T w B := e ▸ h
theorem Sat.dw (h : Sat T w A) : Sat T (dw w) A := h
theorem Sat.ofdw (h : Sat T (Eng.dw w) A) : Sat T w A := h
theorem Sat.exs {α : Sort _} {A : α → HP} (h : Sat T w (exs A • R)) : ∃ x, Sat T w (A x • R) := by
  rw [exs_star] at h; obtain ⟨t, s, x, p, y, a⟩ := h; exact ⟨y, t, s, x, p, a⟩
theorem Sat.exs' {α : Sort _} {A : α → HP} (h : Sat T w (Eng.exs A)) : ∃ x, Sat T w (A x) := by
  obtain ⟨t, s, x, p, y, a⟩ := h; exact ⟨y, t, s, x, p, a⟩
theorem Sat.pur {p : Prop} (h : Sat T w (pur p A • R)) : p ∧ Sat T w (A • R) := by
  rw [pur_star] at h; obtain ⟨t, s, x, q, y, a⟩ := h; exact ⟨y, t, s, x, q, a⟩
theorem Sat.toExs {α : Sort _} {A : α → HP} (x : α) (h : Sat T w (A x • R)) : Sat T w (Eng.exs A • R) := by
  rw [exs_star]; exact h.imp fun _ a => ⟨x, a⟩
theorem Sat.toPur {p : Prop} (hp : p) (h : Sat T w (A • R)) : Sat T w (Eng.pur p A • R) := by
  rw [pur_star]; exact h.imp fun _ a => ⟨hp, a⟩
theorem Sat.drop (h : Sat T w (A • R)) : Sat T w R := by
  obtain ⟨t, s, x, p, h1, h2, d, rfl, a, r⟩ := h
  refine ⟨t, s, h2, fun b o e => p b o ?_, r⟩
  unfold Hl.un
  rcases d b with e' | e'
  · rw [e']; exact e
  · rw [e'] at e; cases e
theorem Sat.get {b : Nat} {o : Obj} (h : Sat T w (own b o • R)) : w.heap[b]? = some o := by
  obtain ⟨t, s, x, p, h1, h2, d, rfl, ⟨n, a⟩, r⟩ := h
  refine (p b o ?_).2
  unfold Hl.un; rw [a b, if_pos rfl]
theorem Sat.ne0 {b : Nat} {o : Obj} (h : Sat T w (own b o • R)) : b ≠ 0 := by
  obtain ⟨t, s, x, p, h1, h2, d, rfl, ⟨n, a⟩, r⟩ := h
  exact n
theorem Sat.ne {b c : Nat} {o o' : Obj} (h : Sat T w (own b o • own c o' • R)) : b ≠ c := by
  obtain ⟨t, s, x, p, h1, h2, d, rfl, ⟨n, a⟩, h3, h4, d', rfl, ⟨n', a'⟩, r⟩ := h
  rintro rfl
  have e1 : h1 b = some o := by rw [a b, if_pos rfl]
  have e2 : Hl.un h3 h4 b = some o' := by unfold Hl.un; rw [a' b, if_pos rfl]
  rcases d b with e | e
  · rw [e] at e1; cases e1
  · rw [e] at e2; cases e2
theorem Sat.set {b : Nat} {o : Obj} (h : Sat T w (own b o • R)) (o' : Obj) : Sat T (sb w b o') (own b o' • R) := by
  have hb := lt_of_get h.get
  obtain ⟨t, s, x, p, h1, h2, d, rfl, ⟨n, a⟩, r⟩ := h
  refine ⟨⟨by rw [sb_other (Ne.symm n)]; exact t.1, t.2⟩, by rw [sb_size]; exact s, Hl.un (fun c => if c = b then some o' else none) h2, fun c q e => ?_, _, h2, fun c => ?_, rfl, ⟨n, fun _ => rfl⟩, r⟩
  · by_cases hc : c = b
    · subst hc; simp [Hl.un] at e; subst e; exact ⟨n, sb_same hb _⟩
    · simp [Hl.un, hc] at e
      rw [sb_other hc]
      refine p c q ?_
      unfold Hl.un; rw [a c, if_neg hc]; exact e
  · by_cases hc : c = b
    · subst hc; right
      rcases d c with e | e
      · rw [a c, if_pos rfl] at e; cases e
      · exact e
    · left; simp [hc]
theorem Sat.push (h : Sat T w R) (o : Obj) : Sat T (pu w o) (own w.heap.size o • R) := by
  obtain ⟨t, s, x, p, r⟩ := h
  have hx : ∀ b, x b ≠ none → b < w.heap.size := fun b hb => by
    cases e : x b with
    | none => exact absurd e hb
    | some o => exact lt_of_get (p b o e).2
  refine ⟨⟨by rw [pu_old s]; exact t.1, t.2⟩, by rw [pu_size]; omega, Hl.un (fun c => if c = w.heap.size then some o else none) x, fun c q e => ?_, _, x, fun c => ?_, rfl, ⟨by omega, fun _ => rfl⟩, r⟩
  · by_cases hc : c = w.heap.size
    · subst hc; simp [Hl.un] at e; subst e; exact ⟨by omega, pu_new ..⟩
    · simp [Hl.un, hc] at e
      have := p c q e
      rw [pu_old (lt_of_get this.2)]; exact this
  · by_cases hc : c = w.heap.size
    · right; subst hc
      by_cases e : x w.heap.size = none
      · exact e
      · exact absurd (hx _ e) (Nat.lt_irrefl _)
    · left; simp [hc]

/-- all of a first world's blocks, but for the table -/
def orig (w0 : World) : HP := fun h => ∀ b, h b = if b = 0 then none else w0.heap[b]?
theorem Sat.start {w0 : World} (t : w0.heap[0]? = T.tab) (ho : w0.os = T.base.os) (hu : w0.output = T.base.output) (hp : w0.tape = T.base.tape) (s : 0 < w0.heap.size) : Sat T w0 (orig w0) :=
  ⟨⟨t, ho, hu, hp⟩, s, fun b => if b = 0 then none else w0.heap[b]?, fun b o e => by
    by_cases hb : b = 0
    · simp [hb] at e
    · simp [hb] at e; exact ⟨hb, e⟩, fun _ => rfl⟩
theorem Sat.old {w0 : World} (h : Sat T w (orig w0 • R)) {b : Nat} (hb : b ≠ 0) {o : Obj} (e : w0.heap[b]? = some o) : w.heap[b]? = some o := by
  obtain ⟨t, s, x, p, h1, h2, d, rfl, a, r⟩ := h
  refine (p b o ?_).2
  unfold Hl.un; rw [a b, if_neg hb, e]

/-! many -/
def stars : List HP → HP
  | [] => emp
  | a :: l => a • stars l
theorem stars_pick : ∀ (l : List HP) (i : Nat) (h : i < l.length), stars l = l[i] • stars (l.eraseIdx i)
  | a :: l, 0, _ => rfl
  | a :: l, i + 1, h => by
    show a • stars l = l[i]'(Nat.lt_of_succ_lt_succ h) • a • stars (l.eraseIdx i)
    rw [stars_pick l i (Nat.lt_of_succ_lt_succ h), star_left]
theorem stars_set : ∀ (l : List HP) (i : Nat) (_ : i < l.length) (a : HP), stars (l.set i a) = a • stars (l.eraseIdx i)
  | b :: l, 0, _, a => rfl
  | b :: l, i + 1, h, a => by
    show b • stars (l.set i a) = a • b • stars (l.eraseIdx i)
    rw [stars_set l i (Nat.lt_of_succ_lt_succ h) a, star_left]
theorem stars_append : ∀ (l k : List HP), stars (l ++ k) = stars l • stars k
  | [], k => by simp [stars]
  | a :: l, k => by
    show a • stars (l ++ k) = (a • stars l) • stars k
    rw [stars_append l k, star_assoc]
end
end Go.Eng
