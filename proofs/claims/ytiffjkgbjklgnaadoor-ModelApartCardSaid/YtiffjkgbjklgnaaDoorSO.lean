/-
  The model's objects and parts: what they are in memory; what a part is charged.
-/
import Derived.Test.YtiffjkgbjklgnaaDoorSN
namespace Go.Proofs.YtiffjkgbjklgnaaDoor
open Go Go.Eng Go.Lib
set_option maxRecDepth 20000

/-! ### pairs -/
section assoc
variable {α β : Type}
def amp (f : α → β) (l : List (Int × α)) : List (Int × β) := l.map fun p => (p.1, f p.2)
theorem aget_amp (f : α → β) (n : Int) : ∀ l : List (Int × α), aget (amp f l) n = (aget l n).map f
  | [] => rfl
  | (k, x) :: r => by
    show aget ((k, f x) :: amp f r) n = _
    unfold aget
    split
    · rfl
    · exact aget_amp f n r
theorem aput_amp (f : α → β) (n : Int) (v : α) : ∀ l : List (Int × α), amp f (aput l n v) = aput (amp f l) n (f v)
  | [] => rfl
  | (k, x) :: r => by
    show _ = aput ((k, f x) :: amp f r) n (f v)
    unfold aput
    split
    · rfl
    · rw [← aput_amp f n v r]; rfl
theorem adel_amp (f : α → β) (n : Int) : ∀ l : List (Int × α), amp f (adel l n) = adel (amp f l) n
  | [] => rfl
  | (k, x) :: r => by
    show _ = adel ((k, f x) :: amp f r) n
    unfold adel
    split
    · rfl
    · rw [← adel_amp f n r]; rfl
theorem aget_mem {n : Int} {x : α} : ∀ {l : List (Int × α)}, aget l n = some x → (n, x) ∈ l
  | [], h => by cases h
  | (k, y) :: r, h => by
    unfold aget at h
    split at h
    · rename_i e; injection h with h; subst e h; exact List.mem_cons_self
    · exact List.mem_cons_of_mem _ (aget_mem h)
theorem aput_mem {n : Int} {x : α} {p : Int × α} : ∀ {l : List (Int × α)}, p ∈ aput l n x → p = (n, x) ∨ p ∈ l
  | [], h => by simp [aput] at h; exact .inl h
  | (k, y) :: r, h => by
    unfold aput at h
    split at h
    · rcases List.mem_cons.1 h with h | h
      · exact .inl h
      · exact .inr (List.mem_cons_of_mem _ h)
    · rcases List.mem_cons.1 h with h | h
      · exact .inr (by rw [h]; exact List.mem_cons_self)
      · rcases aput_mem h with h | h
        · exact .inl h
        · exact .inr (List.mem_cons_of_mem _ h)
theorem adel_mem {n : Int} {p : Int × α} : ∀ {l : List (Int × α)}, p ∈ adel l n → p ∈ l
  | (k, y) :: r, h => by
    unfold adel at h
    split at h
    · exact List.mem_cons_of_mem _ h
    · rcases List.mem_cons.1 h with h | h
      · rw [h]; exact List.mem_cons_self
      · exact List.mem_cons_of_mem _ (adel_mem h)
theorem aput_same {n : Int} {x y : α} (f : α → β) (e : f x = f y) : ∀ {l : List (Int × α)}, aget l n = some y → amp f (aput l n x) = amp f l
  | [], h => by cases h
  | (k, z) :: r, h => by
    unfold aget at h
    unfold aput
    split
    · rename_i e1; rw [if_pos e1] at h; injection h with h; subst e1 h; show (n, f x) :: _ = (n, f z) :: _; rw [e]
    · rename_i e1; rw [if_neg e1] at h; show (k, f z) :: _ = (k, f z) :: _; rw [show r.map _ = amp f r from rfl, show (aput r n x).map _ = amp f (aput r n x) from rfl, aput_same f e h]
section st
variable (F : α → HP)
def sts (l : List (Int × α)) : HP := stars (l.map fun p => F p.2)
theorem sts_get {n : Int} {x : α} : ∀ {l : List (Int × α)}, aget l n = some x → sts F l = F x • sts F (adel l n)
  | [], h => by cases h
  | (k, z) :: r, h => by
    unfold aget at h
    unfold adel
    split
    · rename_i e1; rw [if_pos e1] at h; injection h with h; subst h; rfl
    · rename_i e1; rw [if_neg e1] at h
      show F z • sts F r = F x • (F z • sts F (adel r n))
      rw [sts_get h, star_left]
theorem sts_put {n : Int} {x : α} : ∀ {l : List (Int × α)}, sts F (aput l n x) = F x • sts F (adel l n)
  | [] => rfl
  | (k, z) :: r => by
    unfold aput adel
    split
    · rfl
    · show F z • sts F (aput r n x) = F x • (F z • sts F (adel r n))
      rw [sts_put, star_left]
theorem adel_none {n : Int} : ∀ {l : List (Int × α)}, aget l n = none → adel l n = l
  | [], _ => rfl
  | (k, z) :: r, h => by
    unfold aget at h
    unfold adel
    split
    · rename_i e1; rw [if_pos e1] at h; cases h
    · rename_i e1; rw [if_neg e1] at h; rw [adel_none h]
end st
end assoc

/-! ### sums over what was seen -/
def dsum : List Int → (Nat → Bool) → Int
  | [], _ => 0
  | c :: l, D => (if D 0 then c else 0) + dsum l fun i => D (i + 1)
def isum : List Int → Int
  | [] => 0
  | c :: l => c + isum l
theorem dsum_all : ∀ {l : List Int} {D : Nat → Bool}, (∀ i, i < l.length → D i = true) → dsum l D = isum l
  | [], _, _ => rfl
  | c :: l, D, h => by
    unfold dsum isum
    rw [if_pos (h 0 (by simp)), dsum_all fun i hi => h (i + 1) (by simp; omega)]
theorem dsum_none : ∀ {l : List Int} {D : Nat → Bool}, (∀ i, D i = false) → dsum l D = 0
  | [], _, _ => rfl
  | c :: l, D, h => by
    unfold dsum
    rw [dsum_none fun i => h (i + 1), h 0]; rfl
theorem dsum_set : ∀ {l : List Int} {D : Nat → Bool} {i : Nat} (hi : i < l.length), D i = false → dsum l (fun j => D j || j == i) = dsum l D + l[i]
  | c :: l, D, 0, hi, h => by
    unfold dsum
    have : (fun i => D (i + 1) || i + 1 == 0) = fun i => D (i + 1) := by funext i; simp
    simp [h]; omega
  | c :: l, D, i + 1, hi, h => by
    unfold dsum
    have := dsum_set (l := l) (D := fun i => D (i + 1)) (i := i) (by simpa using hi) h
    have e : (fun j => D (j + 1) || j + 1 == i + 1) = fun j => D (j + 1) || j == i := by funext j; simp
    rw [e, this]
    simp; omega
theorem dsum_le : ∀ {l : List Int} {D : Nat → Bool}, (∀ c ∈ l, 0 ≤ c) → 0 ≤ dsum l D ∧ dsum l D ≤ isum l
  | [], _, _ => by simp [dsum, isum]
  | c :: l, D, h => by
    have h1 := dsum_le (l := l) (D := fun i => D (i + 1)) fun c hc => h c (List.mem_cons_of_mem _ hc)
    have h2 := h c List.mem_cons_self
    unfold dsum isum
    split <;> omega
def ones (n : Nat) : List Int := List.replicate n 1
theorem isum_ones : ∀ n, isum (ones n) = n
  | 0 => rfl
  | n + 1 => by show 1 + isum (ones n) = _; rw [isum_ones n]; omega
/-- how many were not seen yet -/
def nleft (n : Nat) (D : Nat → Bool) : Nat := (n - dsum (ones n) D).toNat
theorem nleft_set {n : Nat} {D : Nat → Bool} {i : Nat} (hi : i < n) (h : D i = false) : nleft n D = nleft n (fun j => D j || j == i) + 1 := by
  have h1 := dsum_set (l := ones n) (i := i) (by simpa [ones] using hi) h
  have h2 := dsum_le (l := ones n) (D := fun j => D j || j == i) (by intro c hc; simp [ones] at hc; omega)
  rw [isum_ones] at h2
  have e : (ones n)[i]'(by simpa [ones] using hi) = 1 := by simp [ones]
  rw [e] at h1
  unfold nleft; omega

/-! ### objects -/
structure Ob where
  b : List UInt8
  c : Int
deriving DecidableEq
structure Om where
  blk : Nat
  b : List UInt8
  c : Int
  cap : Nat
  rest : List Value
def Om.ob (x : Om) : Ob := ⟨x.b, x.c⟩
def omV (x : Om) : Value := .agg #[.slice (some ⟨x.blk, 0, none⟩) x.b.length x.cap, .int .i64 x.c]
def omH (x : Om) : HP := own x.blk (bytesO x.b x.rest)
def costs (l : List (Int × Ob)) : List Int := l.map fun p => p.2.c
def chg (l : List (Int × Ob)) : Int := isum (costs l)
/-- a bound on what lies in a part -/
def obOk (o : Ob) : Prop := 1 ≤ o.b.length ∧ o.b.length ≤ 8192 ∧ 0 ≤ o.c ∧ o.c ≤ 8192
def ObsH (m : Nat) (l : List (Int × Ob)) : HP := exs fun L : List (Int × Om) => pur (amp Om.ob L = l ∧ ∀ p ∈ L, p.2.b.length ≤ p.2.cap) (MapH m (amap omV L) • sts omH L)
structure Pt where
  caps : Cp
  col : Int
  quota : Int
  peak : Int
  objs : List (Int × Ob)
  made : Int
def ptC (pt : Pt) (g m : Nat) : Obj := .cells #[ptr g, .int .i64 pt.col, .int .i64 pt.quota, .int .i64 pt.peak, .map (some m), .int .i64 pt.made] T_model_part (0, 0)
def PtH (p : Nat) (pt : Pt) : HP := exs fun g : Nat => exs fun m : Nat => own p (ptC pt g m) • CpH g pt.caps • ObsH m pt.objs
structure Pt.ok (pt : Pt) : Prop where
  caps : pt.caps.ok
  col : 1 ≤ pt.col ∧ pt.col ≤ 32
  quota : 1 ≤ pt.quota ∧ pt.quota ≤ 65536
  peak : 1 ≤ pt.peak ∧ pt.peak ≤ 65536
  obs : ∀ p ∈ pt.objs, obOk p.2
  chg : chg pt.objs ≤ 65536
  made : 0 ≤ pt.made ∧ pt.made < pt.caps.next
  keys : ∀ p ∈ pt.objs, p.1 < pt.made

section
variable {T : Bs} {w : World} {Q : Value → World → Prop} {R : HP} {m p : Nat} {l : List (Int × Ob)} {pt : Pt}
theorem ObsH.open (h : Sat T w (ObsH m l • R)) : ∃ L : List (Int × Om), amp Om.ob L = l ∧ (∀ p ∈ L, p.2.b.length ≤ p.2.cap) ∧ Sat T w (MapH m (amap omV L) • sts omH L • R) := by
  unfold ObsH at h
  obtain ⟨L, h⟩ := h.exs; obtain ⟨e, h⟩ := h.pur
  exact ⟨L, e.1, e.2, h.to (star_assoc ..)⟩
theorem ObsH.close {L : List (Int × Om)} (e : amp Om.ob L = l) (hc : ∀ p ∈ L, p.2.b.length ≤ p.2.cap) (h : Sat T w (MapH m (amap omV L) • sts omH L • R)) : Sat T w (ObsH m l • R) :=
  Sat.toExs L (Sat.toPur ⟨e, hc⟩ (h.to (star_assoc ..).symm))
theorem PtH.open (h : Sat T w (PtH p pt • R)) : ∃ g m, Sat T w (own p (ptC pt g m) • CpH g pt.caps • ObsH m pt.objs • R) := by
  unfold PtH at h
  obtain ⟨g, h⟩ := h.exs; obtain ⟨m, h⟩ := h.exs
  exact ⟨g, m, h.to (by ac_rfl)⟩
theorem PtH.close {g m : Nat} (h : Sat T w (own p (ptC pt g m) • CpH g pt.caps • ObsH m pt.objs • R)) : Sat T w (PtH p pt • R) :=
  Sat.toExs g (Sat.toExs m (h.to (by ac_rfl)))

theorem asI_get {kd : IntKind} : ∀ {es : List MapEntry} {l : List (Int × Value)}, asI kd es = some l → ∀ i (h : i < es.length) (h2 : i < l.length), es[i].key = .int kd l[i].1 ∧ es[i].val = l[i].2
  | [], l, h, i, hi, _ => by simp at hi
  | e :: r, l, h, i, hi, h2 => by
    obtain ⟨n, l', hk, hr, rfl⟩ := asI_cons h
    cases i with
    | zero => exact ⟨hk, rfl⟩
    | succ i => exact asI_get hr i (by simpa using hi) (by simpa using h2)

theorem al_object {K : Value → World → Prop} : al P T_model_object w K = K (ptr w.heap.size) (pu w (.cells #[.slice none 0 0, .int .i64 0] T_model_object (0, 0))) := by kernel_rfl

theorem charged_p1 {es : Array MapEntry} {c x : Nat} {L : List (Int × Om)} (hb : bornOk es.toList c) (has : asI .i64 es.toList = some (amap omV L)) (hpos : ∀ q ∈ L, 0 ≤ q.2.c) (hle : isum (costs (amp Om.ob L)) ≤ 65536)
    (hk : ∀ w', Sat T w' (own m (.map es c) • R) → Q (.int .i64 (isum (costs (amp Om.ob L)))) w') :
    ∀ (d : Nat) (D : Nat → Bool) (seen : Array Nat) (w : World), nleft L.length D = d → (∀ i (h : i < es.size), seen.contains es[i].born = D i) → Sat T w (own x (.mapIter (some m) c seen c) • own m (.map es c) • R) →
      model_part_charged_p1 (.int .i64 (dsum (costs (amp Om.ob L)) D)) (ptr x) w Q := by
  have hlen : es.size = L.length := by have := asI_len has; rw [amap_len] at this; simpa using this.symm
  have hpos' : ∀ c ∈ costs (amp Om.ob L), 0 ≤ c := by
    intro c hc
    simp [costs, amp] at hc
    obtain ⟨a, y, hy, rfl⟩ := hc
    exact hpos _ hy
  intro d
  induction d with
  | zero =>
    intro D seen w hd hD h
    apply model_part_charged_k1
    unfold model_part_charged_b1
    refine nx_map hb hD h (fun hall w' h' => ?_) (fun i hi hDi w' h' => ?_)
    · simp
      have : dsum (costs (amp Om.ob L)) D = isum (costs (amp Om.ob L)) := dsum_all fun i hi => hall i (by simp [costs, amp] at hi; omega)
      rw [this]
      exact hk _ h'.drop
    · have := nleft_set (n := L.length) (by omega) hDi; omega
  | succ d ih =>
    intro D seen w hd hD h
    apply model_part_charged_k1
    unfold model_part_charged_b1
    refine nx_map hb hD h (fun hall w' h' => ?_) (fun i hi hDi w' h' => ?_)
    · simp
      have : dsum (costs (amp Om.ob L)) D = isum (costs (amp Om.ob L)) := dsum_all fun i hi => hall i (by simp [costs, amp] at hi; omega)
      rw [this]
      exact hk _ h'.drop
    · have hiL : i < L.length := by omega
      obtain ⟨-, hv⟩ := asI_get has i (by simpa using hi) (by simpa [amap] using hiL)
      have hv : es[i].val = omV L[i].2 := by simpa [amap] using hv
      simp only [ex_tuple, cellA_zero, onv_some, cn_true]
      rw [en_map hb hi h']
      simp only [ex_tuple, cellA_succ, cellA_zero, onv_some]
      rw [show al P 63 w' _ = _ from al_object, hv]
      have h2 := h'.push (.cells #[.slice none 0 0, .int .i64 0] T_model_object (0, 0))
      generalize w'.heap.size = z at *
      generalize pu w' _ = w2 at *
      refine st_whole (e := T_model_object) (n := 2) (vs := #[.slice (some ⟨L[i].2.blk, 0, none⟩) L[i].2.b.length L[i].2.cap, .int .i64 L[i].2.c]) h2.get (by kernel_rfl) rfl rfl rfl ?_
      have h3 := h2.set (.cells #[.slice (some ⟨L[i].2.blk, 0, none⟩) L[i].2.b.length L[i].2.cap, .int .i64 L[i].2.c] T_model_object (0, 0))
      generalize sb w2 z _ = w3 at *
      have hg := h3.get
      simp only [T_model_object] at hg
      have hs := dsum_set (l := costs (amp Om.ob L)) (D := D) (i := i) (by simpa [costs, amp] using hiL) hDi
      have hci : (costs (amp Om.ob L))[i]'(by simpa [costs, amp] using hiL) = L[i].2.c := by simp [costs, amp, Om.ob]
      rw [hci] at hs
      have hr := dsum_le (l := costs (amp Om.ob L)) (D := fun j => D j || j == i) hpos'
      simp (disch := omega) [hg, ld_eq, wrap_id]
      rw [← hs]
      have hn := nleft_set (n := L.length) (by omega) hDi
      exact ih _ _ _ (by omega) (seen_push hb hD hi) h3.drop

theorem part_charged_spec (hok : pt.ok) (h : Sat T w (PtH p pt • R)) (hk : ∀ w', Sat T w' (PtH p pt • R) → Q (.int .i64 (chg pt.objs)) w') : Cal P N_model_part_charged #[ptr p] w Q := by
  apply model_part_charged_k0
  unfold model_part_charged_b0
  obtain ⟨g, m, hq⟩ := PtH.open h
  have hg := hq.get
  rw [eqx_ptr_nil (by kernel_rfl)]
  simp [hg, ld_eq, ptC]
  obtain ⟨L, e, hcap, h1⟩ := ObsH.open (hq.to (show _ = ObsH m pt.objs • own p (ptC pt g m) • CpH g pt.caps • R by ac_rfl))
  obtain ⟨es, c, hm, h2⟩ := MapH.open h1
  refine rg_map (k := T_int) (e := T_model_object) (by kernel_rfl) h2 fun x w1 h3 => ?_
  have hpos : ∀ q ∈ L, 0 ≤ q.2.c := by
    intro q hq
    have : (q.1, Om.ob q.2) ∈ pt.objs := by rw [← e]; exact List.mem_map_of_mem (f := fun p : Int × Om => (p.1, Om.ob p.2)) hq
    exact (hok.obs _ this).2.2.1
  have h0 : dsum (costs (amp Om.ob L)) (fun _ => false) = 0 := dsum_none fun _ => rfl
  have := charged_p1 (Q := Q) (x := x) (L := L) hm.born hm.as hpos (by rw [e]; exact hok.chg) (fun w' h' => ?_) _ (fun _ => false) #[] w1 rfl (by simp) h3
  · rw [h0] at this
    exact this
  · rw [e]
    refine hk _ (PtH.close (g := g) (m := m) ?_)
    have h5 := ObsH.close (m := m) e hcap (MapH.close hm h')
    exact h5.to (by ac_rfl)
theorem part_charged_nil (hk : Q (.int .i64 0) w) : Cal P N_model_part_charged #[.pointer none] w Q := by
  apply model_part_charged_k0
  unfold model_part_charged_b0
  rw [eqx_ptr_nil (by kernel_rfl)]
  simpa using hk
end
end Go.Proofs.YtiffjkgbjklgnaaDoor
