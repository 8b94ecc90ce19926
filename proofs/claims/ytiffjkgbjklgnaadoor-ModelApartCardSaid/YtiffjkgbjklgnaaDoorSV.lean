/-
  The model: Free, create, resize, destroy.
-/
import Derived.Test.YtiffjkgbjklgnaaDoorSU
namespace Go.Proofs.YtiffjkgbjklgnaaDoor
open Go Go.Eng Go.Lib
set_option maxRecDepth 20000
section
variable {T : Bs} {w : World} {Q : Value → World → Prop} {K : Value → World → Prop} {R : HP} {b : Nat} {md : Md} {S : List (Option (Nat × Pt))}
theorem ix_arr {t e : TypeId} {n : Nat} {cs : Array Value} {i : Int} {v : Value} (hu : P.underlying t = some (.array n e)) (h1 : one P e = true) (hs : szO P e = some 1) (h0 : 0 ≤ i) (hn : i < n) (hv : cs[i.toNat]? = some v) : ix P t (.agg cs) (.int .i64 i) w K = K v w := by
  refine vS_eq ?_
  have e1 : (asIntOf (.int .i64 i)).run P w = .ok (.i64, i) w := rfl
  unfold Instr.index
  rw [run_bind', e1]
  simp only
  rw [run_bind', run_under hu]
  have hc : 0 ≤ i ∧ i < (n : Int) := ⟨h0, hn⟩
  simp only [hc, and_self, if_true, run_bind', run_size hs, Nat.mul_one]
  exact part_one h1 hv
theorem isum_bound : ∀ {l : List Int}, (∀ c ∈ l, 0 ≤ c ∧ c ≤ 32) → 0 ≤ isum l ∧ isum l ≤ 32 * l.length
  | [], _ => by simp [isum]
  | c :: l, h => by
    have h1 := isum_bound (l := l) fun c hc => h c (List.mem_cons_of_mem _ hc)
    have h2 := h c List.mem_cons_self
    simp only [isum, List.length_cons]; omega
theorem colO_bound (hok : md.ok) : ∀ c ∈ md.parts.map colO, 0 ≤ c ∧ c ≤ 32 := by
  intro c hc
  obtain ⟨p, hp, rfl⟩ := List.mem_map.1 hc
  cases p with
  | none => simp [colO]
  | some p => have := (hok.po p hp).col; simp [colO]; omega
theorem arrV (h : S.length = 8) (hs : md.sers.length = 8) : (mdA md (ptrs S)).extract 2 10 = ((ptrs S).map pv).toArray := by
  apply Array.ext'
  simp [mdA, h, List.take_append, List.drop_append]
theorem Free_p1 (hok : md.ok) (e : pts S = md.parts) (h : Sat T w (own b (mdC md (ptrs S)) • stars (S.map slotH) • R)) (hk : Q (.int .i64 md.free) w) :
    ∀ (d i : Nat) (acc : Int), i + d = 8 → acc = md.free + isum ((md.parts.map colO).drop i) → model_Model_Free_p1 (.int .i64 acc) (.agg ((ptrs S).map pv).toArray) (.int .i64 (i : Int)) w Q := by
  have hb := colO_bound hok
  have hl := pts_len hok e
  intro d
  induction d with
  | zero =>
    intro i acc hi ha
    apply model_Model_Free_k1
    unfold model_Model_Free_b1
    obtain rfl : i = 8 := by omega
    have : (md.parts.map colO).drop 8 = [] := by rw [List.drop_eq_nil_iff]; simp [hok.pl]
    rw [this] at ha
    simp only [isum, Int.add_zero] at ha
    subst ha
    simp; exact hk
  | succ d ih =>
    intro i acc hi ha
    apply model_Model_Free_k1
    unfold model_Model_Free_b1
    have hlt : i < 8 := by omega
    have hb1 := isum_bound hb
    have hb2 := isum_bound (l := (md.parts.map colO).drop (i + 1)) fun c hc => hb c (List.mem_of_mem_drop hc)
    simp only [List.length_map, hok.pl, List.length_drop] at hb1 hb2
    have hc := hok.cl
    have hfr : md.free = md.cols - isum (md.parts.map colO) := rfl
    have hd : (md.parts.map colO).drop i = colO (md.parts.getD i none) :: (md.parts.map colO).drop (i + 1) := by
      rw [List.drop_eq_getElem_cons (by simp [hok.pl]; omega)]
      simp [List.getD_eq_getElem?_getD, hok.pl, hlt]
    rw [hd] at ha
    simp only [isum] at ha
    have hx := fun K => ix_arr (w := w) (K := K) (t := 48) (e := 47) (n := 8) (cs := ((ptrs S).map pv).toArray) (i := (i : Int)) (v := pv ((S.getD i none).map (·.1))) (by kernel_rfl) (by kernel_rfl) (by kernel_rfl) (by omega) (by omega) (by
      simp [List.getD_eq_getElem?_getD, hl, hlt])
    have e8 : (i : Int) < 8 := by omega
    have hne := fun K x y => neqx_pv (w := w) (K := K) (x := x) (y := y) (t := 47) (by kernel_rfl) ((S.getD i none).map (·.1))
    have hwi : IntKind.i64.wrap ((i : Int) + 1) = ((i + 1 : Nat) : Int) := by rw [wrap_id (by omega) (by omega)]; rfl
    simp only [bin_lss, e8, decide_true, cn_true, hx, hne]
    have hp := slot_pick (S := S) (i := i) (by omega)
    have hpt := pts_get e i
    cases hS : S.getD i none with
    | none =>
      rw [hS] at hpt
      rw [← hpt] at ha
      simp only [Option.map_none, colO, Int.zero_add] at ha
      simp only [Option.map_none, Option.isSome_none, cn_false, bin_add, hwi]
      exact ih (i + 1) acc (by omega) ha
    | some q =>
      rw [hS] at hp hpt
      rw [← hpt] at ha
      simp only [Option.map_some, colO] at ha
      have hcq := (hok.po q.2 (by
        have : md.parts.getD i none = some q.2 := hpt.symm
        rw [List.getD_eq_getElem?_getD] at this
        cases hx : md.parts[i]? with
        | none => rw [hx] at this; cases this
        | some y => rw [hx] at this; simp only [Option.getD_some] at this; rw [← this]; exact List.mem_of_getElem? hx)).col
      have h2 := h.to (show _ = PtH q.1 q.2 • own b (mdC md (ptrs S)) • stars ((S.map slotH).eraseIdx i) • R by
        rw [hp]; show _ • (PtH q.1 q.2 • _) • _ = _; ac_rfl)
      obtain ⟨g, m, h3⟩ := PtH.open h2
      have hg := h3.get
      unfold ptC at hg
      simp only [Option.map_some, Option.isSome_some, cn_true, pv]
      have hw2 : IntKind.i64.wrap (acc - q.2.col) = acc - q.2.col := wrap_id (by omega) (by omega)
      have hw3 : IntKind.i64.wrap ((i : Int) + 1) = (i : Int) + 1 := wrap_id (by omega) (by omega)
      have := ih (i + 1) (acc - q.2.col) (by omega) (by omega)
      simp [hg, ld_eq, hw2, hw3]
      simpa using this
theorem Free_spec (hok : md.ok) (h : Sat T w (MdH b md • R)) (hk : Q (.int .i64 md.free) w) : Cal P N_model_Model_Free #[ptr b] w Q := by
  apply model_Model_Free_k0
  unfold model_Model_Free_b0
  obtain ⟨S, e, h1⟩ := MdH.open h
  have hl := pts_len hok e
  have hg := h1.get
  have hsz := mdA_size (md := md) hl hok.sl
  have hc : cellsO (some (mdC md (ptrs S))) 2 8 = some ((ptrs S).map pv).toArray := by
    unfold mdC; rw [cellsO_some (by omega), arrV hl hok.sl]
  have hc0 : cellO (some (mdC md (ptrs S))) 1 = some (iv md.cols) := by unfold mdC; rw [cellO_some, mdA_1]
  rw [eqx_ptr_nil (by kernel_rfl)]
  simp [hg, ld_eq, hc, hc0, iv]
  have := Free_p1 hok e h1 hk 8 0 md.cols rfl (by unfold Md.free; simp)
  simpa using this
theorem Free_nil (hk : Q (.int .i64 0) w) : Cal P N_model_Model_Free #[.pointer none] w Q := by
  apply model_Model_Free_k0
  unfold model_Model_Free_b0
  rw [eqx_ptr_nil (by kernel_rfl)]
  simpa using hk

/-! ### create, resize, destroy -/
def Md.create (md : Md) (id c q : Int) : Int × Md :=
  if (md.part id).isSome then (7, md) else if md.may c q = false then (2, md) else if fitsS q (md.room c) = false then (8, md) else if md.free < c then (9, md) else
  (0, { md with parts := md.parts.set id.toNat (some ⟨Cp.new id (md.sers.getD id.toNat 0), c, q, q, [], 0⟩) })
def Pt.size (p : Pt) (c q : Int) : Pt := { p with peak := p.next q, col := c, quota := q }
def Md.resize (md : Md) (id c q : Int) : Int × Md := match md.part id with
  | none => (6, md)
  | some p => if md.may c q = false then (2, md) else if q < chg p.objs then (3, md) else if fitsS (p.next q) (md.room c) = false then (8, md) else if md.free < c - p.col then (9, md) else
    (0, { md with parts := md.parts.set id.toNat (some (p.size c q)) })
def Md.destroy (md : Md) (id : Int) : Int × Md := match md.part id with
  | none => (6, md)
  | some p => (0, { md with parts := md.parts.set id.toNat none, sers := md.sers.set id.toNat p.caps.next })

theorem set_ok (hok : md.ok) {i : Nat} {p : Option Pt} (h : ∀ q, p = some q → q.ok) : ({ md with parts := md.parts.set i p } : Md).ok :=
  { pg := hok.pg, cl := hok.cl, pl := by show (md.parts.set i p).length = 8; rw [List.length_set]; exact hok.pl, sl := hok.sl, so := hok.so, po := fun q hq => by
      rcases List.mem_or_eq_of_mem_set hq with h1 | h1
      · exact hok.po q h1
      · exact h q h1.symm }
theorem mayb {c q : Int} (h : md.may c q = true) : (1 ≤ q ∧ q ≤ 65536) ∧ 1 ≤ c ∧ c ≤ md.cols := by
  unfold Md.may mayQ at h
  simpa [and_assoc] using h
theorem Cp.new_ok {t n : Int} (ht : 0 ≤ t ∧ t ≤ 7) (hn : 1 ≤ n ∧ n ≤ 17592186044416) : (Cp.new t n).ok where
  o := Sh.new_ok (by omega)
  x := Sh.new_ok (by omega)
  n0 := hn.1
  n1 := hn.2
  t0 := ht.1
  t1 := ht.2
  ow := by intro e; have := congrArg List.length e; unfold Cp.new Sh.new at this; rw [newWords_len] at this; simp at this
  xw := by intro e; have := congrArg List.length e; unfold Cp.new Sh.new at this; rw [newWords_len] at this; simp at this
  os := rfl
  xs := rfl
theorem ser_ok (hok : md.ok) {i : Nat} (h : i < 8) : 1 ≤ md.sers.getD i 0 ∧ md.sers.getD i 0 ≤ 17592186044416 := by
  have : i < md.sers.length := by rw [hok.sl]; exact h
  rw [List.getD_eq_getElem?_getD, List.getElem?_eq_getElem this]
  exact hok.so _ (List.getElem_mem this)
theorem Md.create_ok (hok : md.ok) {id c q : Int} (h0 : 0 ≤ id) (h8 : id < 8) : (md.create id c q).2.ok := by
  unfold Md.create
  split
  · exact hok
  split
  · exact hok
  split
  · exact hok
  split
  · exact hok
  · rename_i h1 h2 h3 h4
    obtain ⟨m1, m2⟩ := mayb (by simpa using h2)
    have hs := ser_ok hok (i := id.toNat) (by omega)
    have hc := hok.cl
    refine set_ok hok fun p hp => ?_
    injection hp with hp
    subst hp
    exact { caps := Cp.new_ok ⟨h0, by omega⟩ hs, col := ⟨m2.1, by show c ≤ 32; omega⟩, quota := m1, peak := m1, obs := fun p hp => by simp at hp, chg := by show chg [] ≤ _; decide, made := ⟨by simp, by show (0 : Int) < md.sers.getD id.toNat 0; omega⟩, keys := fun p hp => by simp at hp }
theorem Pt.next_ok {p : Pt} (h : p.ok) {q : Int} (hq : 1 ≤ q ∧ q ≤ 65536) : 1 ≤ p.next q ∧ p.next q ≤ 65536 := by
  have := h.peak
  unfold Pt.next
  split <;> omega
theorem Md.resize_ok (hok : md.ok) {id c q : Int} : (md.resize id c q).2.ok := by
  unfold Md.resize
  split
  · exact hok
  · rename_i p hp
    have hpo := part_ok hok hp
    split
    · exact hok
    split
    · exact hok
    split
    · exact hok
    split
    · exact hok
    · rename_i h1 h2 h3 h4
      obtain ⟨m1, m2⟩ := mayb (by simpa using h1)
      have hc := hok.cl
      refine set_ok hok fun p' hp' => ?_
      injection hp' with hp'
      subst hp'
      exact { caps := hpo.caps, col := ⟨m2.1, by show c ≤ 32; omega⟩, quota := m1, peak := Pt.next_ok hpo m1, obs := hpo.obs, chg := hpo.chg, made := hpo.made, keys := hpo.keys }
theorem Md.destroy_ok (hok : md.ok) {id : Int} : (md.destroy id).2.ok := by
  unfold Md.destroy
  split
  · exact hok
  · rename_i p hp
    have hpo := part_ok hok hp
    have h1 := set_ok hok (i := id.toNat) (p := none) (by simp)
    have hso : ∀ s ∈ md.sers.set id.toNat p.caps.next, 1 ≤ s ∧ s ≤ 17592186044416 := by
      intro s hs
      rcases List.mem_or_eq_of_mem_set hs with h2 | h2
      · exact hok.so s h2
      · rw [h2]; exact ⟨hpo.caps.n0, hpo.caps.n1⟩
    exact { pg := hok.pg, cl := hok.cl, pl := h1.pl, sl := by show (md.sers.set _ _).length = 8; rw [List.length_set]; exact hok.sl, po := h1.po, so := hso }
end
end Go.Proofs.YtiffjkgbjklgnaaDoor
