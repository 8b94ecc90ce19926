/-
  The model: what it is in memory; at, Live, Charged, Free, may, room.
-/
import Derived.Test.YtiffjkgbjklgnaaDoorST
namespace Go.Proofs.YtiffjkgbjklgnaaDoor
open Go Go.Eng Go.Lib
set_option maxRecDepth 20000

/-! ### parts stay as they may be -/
theorem Cp.restrict_ok {c : Cp} (hc : c.ok) (h : Nat) (k : Int) : (c.restrict h k).2.ok ∧ c.next ≤ (c.restrict h k).2.next := by
  unfold Cp.restrict
  split
  · exact ⟨hc, Int.le_refl _⟩
  · rename_i s _
    split
    · exact ⟨hc, Int.le_refl _⟩
    · split
      · exact ⟨hc, Int.le_refl _⟩
      · obtain ⟨e1, -, e3, e4, e5⟩ := Cp.put_keep (c := c) (S := c.extra) (base := 4096) (addr := s.a) (rights := k)
        have hs := Cp.put_shelf (c := c) (S := c.extra) (base := 4096) (addr := s.a) (rights := k)
        have ho : (c.put c.extra 4096 s.a k).2.2.ok ∧ (c.put c.extra 4096 s.a k).2.2.ws ≠ [] ∧ (c.put c.extra 4096 s.a k).2.2.size = 64 := by
          rcases hs with e | e
          · rw [e]; exact ⟨hc.x, hc.xw, hc.xs⟩
          · rw [e]; exact ⟨Sh.take_ok hc.x, (Sh.take_ws hc.xw).1, by rw [(Sh.take_ws hc.xw).2]; exact hc.xs⟩
        exact ⟨{ o := by show (c.put c.extra 4096 s.a k).2.1.objs.ok; rw [e1]; exact hc.o, x := ho.1, n0 := Int.le_trans hc.n0 e4, n1 := e5 hc.n1, t0 := by show 0 ≤ (c.put c.extra 4096 s.a k).2.1.tenant; rw [e3]; exact hc.t0, t1 := by show (c.put c.extra 4096 s.a k).2.1.tenant ≤ 7; rw [e3]; exact hc.t1, ow := by show (c.put c.extra 4096 s.a k).2.1.objs.ws ≠ []; rw [e1]; exact hc.ow, xw := ho.2.1, os := by show (c.put c.extra 4096 s.a k).2.1.objs.size = 4096; rw [e1]; exact hc.os, xs := ho.2.2 }, e4⟩
theorem Pt.put_ok {pt : Pt} (h : pt.ok) {k : Int} {y o : Ob} (hy : aget pt.objs k = some y) (ho : obOk o) (hc : o.c ≤ y.c) : ({ pt with objs := aput pt.objs k o } : Pt).ok where
  caps := h.caps
  col := h.col
  quota := h.quota
  peak := h.peak
  obs p hp := by
    rcases aput_mem hp with e | e
    · rw [e]; exact ho
    · exact h.obs p e
  chg := by
    have := chg_put (n := k) (o := o) h.obs
    rw [hy] at this
    have h2 := h.chg
    show chg (aput _ _ _) ≤ _
    simp only at this
    omega
  made := h.made
  keys p hp := by
    rcases aput_mem hp with e | e
    · rw [e]; have := h.keys _ (aget_mem hy); exact this
    · exact h.keys p e
theorem Pt.wrote_ok {pt : Pt} (h : pt.ok) {k : Int} {i : Nat} {l : List UInt8} (hl : i + l.length ≤ (obAt pt.objs k).b.length) : (pt.wrote k i l).ok := by
  unfold Pt.wrote
  unfold obAt at hl
  split
  · rename_i ob hob
    rw [hob] at hl
    simp only [Option.getD_some] at hl
    have := aget_ok h.obs hob
    exact Pt.put_ok h hob (by unfold obOk at *; simp only [splice_len hl]; exact this) (Int.le_refl _)
  · exact h
theorem Pt.realloc_ok {pt : Pt} (h : pt.ok) (hd : Nat) (n : Int) : (pt.realloc hd n).2.ok := by
  unfold Pt.realloc
  split
  · split
    · rename_i h1 h2
      obtain ⟨c0, c1, c2⟩ := charge_le n
      have h3 := (of_charge n).1 h2.1
      obtain ⟨n0, n1, n2⟩ := c2 h3
      unfold obAt at *
      cases hx : aget pt.objs (pt.caps.findR hd 4).1 with
      | none => rw [hx] at h2; simp at h2; omega
      | some y =>
        rw [hx] at h2
        simp only [Option.getD_some] at *
        have hy := aget_ok h.obs hx
        refine Pt.put_ok h hx ?_ (Int.le_refl _)
        unfold obOk at *
        simp only [fitB_len]
        omega
    · split
      · rename_i h0
        have h1 := Pt.make_ok h n
        refine Pt.drop_ok ?_ _
        unfold Pt.moved
        have hch : chargeS n ≠ 0 := by
          intro e; unfold Pt.make at h0; rw [if_pos e] at h0; simp at h0
        obtain ⟨c0, c1, c2⟩ := charge_le n
        obtain ⟨n0, n1, n2⟩ := c2 hch
        have hg : aget (pt.make n).2.objs pt.made = some ⟨List.replicate n.toNat 0, chargeS n⟩ := by
          unfold Pt.make at h0 ⊢
          rw [if_neg hch] at h0 ⊢
          split at h0
          · simp at h0
          · rename_i hq
            rw [if_neg hq]
            split at h0
            · rename_i h5; rw [if_pos h5]; exact aget_aput_same ..
            · rename_i h5; exact absurd h0 h5
        refine Pt.put_ok h1 hg ?_ (Int.le_refl _)
        unfold obOk
        simp only [fitB_len]
        omega
      · exact Pt.make_ok h n
  · exact h
theorem Pt.does_ok {pt : Pt} (h : pt.ok) (o : Op_) : (pt.does o).2.ok := by
  unfold Pt.does
  split
  · exact Pt.make_ok h _
  split
  · exact Pt.make_ok h _
  split
  · split
    · exact Pt.drop_ok h _
    · exact h
  split
  · exact Pt.realloc_ok h _ _
  split
  · split <;> exact h
  split
  · split <;> exact h
  split
  · split
    · rename_i h0
      refine Pt.wrote_ok h ?_
      unfold Pt.spanE at h0
      split at h0
      · split at h0
        · cases h0
        · rename_i hn
          have hds : o.d.data.toList.length = o.d.size := by rw [Array.length_toList]; rfl
          omega
      · rename_i hf; exact absurd h0 hf
    · exact h
  split
  · have := Cp.restrict_ok h.caps o.h o.n
    have hm := h.made
    exact { h with caps := this.1, made := by show 0 ≤ pt.made ∧ pt.made < (pt.caps.restrict o.h o.n).2.next; omega }
  · exact h

/-! ### the model -/
structure Md where
  pages : Int
  cols : Int
  parts : List (Option Pt)
  sers : List Int
def Md.part (md : Md) (id : Int) : Option Pt := if 0 ≤ id ∧ id < 8 then md.parts.getD id.toNat none else none
def chgO : Option Pt → Int
  | some p => chg p.objs
  | none => 0
def colO : Option Pt → Int
  | some p => p.col
  | none => 0
def Md.free (md : Md) : Int := md.cols - isum (md.parts.map colO)
def Md.may (md : Md) (c q : Int) : Bool := mayQ q && decide (1 ≤ c) && decide (c ≤ md.cols)
def Md.room (md : Md) (c : Int) : Int := c * (md.pages / md.cols)
structure Md.ok (md : Md) : Prop where
  pg : 1 ≤ md.pages ∧ md.pages ≤ 4096
  cl : 1 ≤ md.cols ∧ md.cols ≤ 32
  pl : md.parts.length = 8
  sl : md.sers.length = 8
  po : ∀ p, some p ∈ md.parts → p.ok
  so : ∀ s ∈ md.sers, 1 ≤ s ∧ s ≤ 17592186044416
def pv (p : Option Nat) : Value := .pointer (p.map fun b => ⟨b, 0, none⟩)
def iv (n : Int) : Value := .int .i64 n
def mdA (md : Md) (ps : List (Option Nat)) : Array Value := ([iv md.pages, iv md.cols] ++ ps.map pv ++ md.sers.map iv).toArray
def mdC (md : Md) (ps : List (Option Nat)) : Obj := .cells (mdA md ps) T_model_Model (0, 0)
def slotH : Option (Nat × Pt) → HP
  | some q => PtH q.1 q.2
  | none => emp
abbrev ptrs (S : List (Option (Nat × Pt))) : List (Option Nat) := S.map fun q => q.map (·.1)
abbrev pts (S : List (Option (Nat × Pt))) : List (Option Pt) := S.map fun q => q.map (·.2)
def MdH (b : Nat) (md : Md) : HP := exs fun S : List (Option (Nat × Pt)) => pur (pts S = md.parts) (own b (mdC md (ptrs S)) • stars (S.map slotH))
section
variable {T : Bs} {w : World} {Q : Value → World → Prop} {K : Value → World → Prop} {R : HP} {b : Nat} {md : Md} {S : List (Option (Nat × Pt))}
theorem MdH.open (h : Sat T w (MdH b md • R)) : ∃ S, pts S = md.parts ∧ Sat T w (own b (mdC md (ptrs S)) • stars (S.map slotH) • R) := by
  unfold MdH at h
  obtain ⟨S, h⟩ := h.exs; obtain ⟨e, h⟩ := h.pur
  exact ⟨S, e, h.to (star_assoc ..)⟩
theorem MdH.close (e : pts S = md.parts) (h : Sat T w (own b (mdC md (ptrs S)) • stars (S.map slotH) • R)) : Sat T w (MdH b md • R) :=
  Sat.toExs S (Sat.toPur e (h.to (star_assoc ..).symm))
theorem mdA_size (hp : S.length = 8) (hs : md.sers.length = 8) : (mdA md (ptrs S)).size = 18 := by simp [mdA, hp, hs]
theorem mdA_0 {ps : List (Option Nat)} : cellA (mdA md ps) 0 = some (iv md.pages) := by simp [mdA, cellA]
theorem mdA_1 {ps : List (Option Nat)} : cellA (mdA md ps) 1 = some (iv md.cols) := by simp [mdA, cellA]
theorem mdA_part {ps : List (Option Nat)} {i : Nat} (h : i < ps.length) : cellA (mdA md ps) (2 + i) = some (pv (ps.getD i none)) := by
  simp only [mdA, cellA, List.getElem?_toArray]
  rw [List.append_assoc, List.getElem?_append_right (by simp)]
  rw [List.getElem?_append_left (by simp; omega)]
  simp [List.getD_eq_getElem?_getD, h]
theorem mdA_ser {ps : List (Option Nat)} {i : Nat} (hp : ps.length = 8) (h : i < md.sers.length) : cellA (mdA md ps) (10 + i) = some (iv (md.sers.getD i 0)) := by
  simp only [mdA, cellA, List.getElem?_toArray]
  rw [List.getElem?_append_right (by simp [hp])]
  have : 10 + i - ([iv md.pages, iv md.cols] ++ ps.map pv).length = i := by simp [hp]
  rw [this]
  simp [List.getD_eq_getElem?_getD, h]
theorem mdA_setPart {ps : List (Option Nat)} {i : Nat} (h : i < ps.length) (p : Option Nat) : (mdA md ps).setIfInBounds (2 + i) (pv p) = mdA md (ps.set i p) := by
  simp only [mdA]
  rw [List.setIfInBounds_toArray]
  congr 1
  rw [List.append_assoc, List.append_assoc, List.set_append_right _ _ (by simp)]
  have : 2 + i - [iv md.pages, iv md.cols].length = i := by simp
  rw [this, List.set_append_left _ _ (by simpa using h), List.map_set]
theorem mdA_setSer {ps : List (Option Nat)} {i : Nat} (hp : ps.length = 8) (x : Int) : (mdA md ps).setIfInBounds (10 + i) (iv x) = mdA { md with sers := md.sers.set i x } ps := by
  simp only [mdA]
  rw [List.setIfInBounds_toArray]
  congr 1
  rw [List.set_append_right _ _ (by simp [hp])]
  have : 10 + i - ([iv md.pages, iv md.cols] ++ ps.map pv).length = i := by simp [hp]
  rw [this, List.map_set]
theorem pts_len (hok : md.ok) (e : pts S = md.parts) : S.length = 8 := by
  have := congrArg List.length e
  simpa [hok.pl] using this
theorem pts_get (e : pts S = md.parts) (i : Nat) : (S.getD i none).map (·.2) = md.parts.getD i none := by
  rw [← e]; simp [pts, List.getD_eq_getElem?_getD]
  cases S[i]? with
  | none => rfl
  | some q => rfl
theorem ptrs_get (i : Nat) : (ptrs S).getD i none = (S.getD i none).map (·.1) := by
  simp [ptrs, List.getD_eq_getElem?_getD]
  cases S[i]? with
  | none => rfl
  | some q => rfl
theorem part_in (hok : md.ok) {id : Int} (h0 : 0 ≤ id) (h1 : id < 8) : md.part id = md.parts.getD id.toNat none := by
  unfold Md.part; rw [if_pos ⟨h0, h1⟩]
theorem part_ok (hok : md.ok) {id : Int} {p : Pt} (h : md.part id = some p) : p.ok := by
  unfold Md.part at h
  split at h
  · rename_i h1
    rw [List.getD_eq_getElem?_getD] at h
    cases hx : md.parts[id.toNat]? with
    | none => rw [hx] at h; cases h
    | some y =>
      rw [hx] at h
      simp only [Option.getD_some] at h
      rw [h] at hx
      exact hok.po p (List.mem_of_getElem? hx)
  · cases h
/-- the slot of a tenant, apart -/
theorem slot_pick {i : Nat} (h : i < S.length) : stars (S.map slotH) = slotH (S.getD i none) • stars ((S.map slotH).eraseIdx i) := by
  rw [stars_pick (S.map slotH) i (by simpa using h)]
  simp [List.getD_eq_getElem?_getD, h]
theorem slot_set {i : Nat} (h : i < S.length) (q : Option (Nat × Pt)) : stars ((S.set i q).map slotH) = slotH q • stars ((S.map slotH).eraseIdx i) := by
  rw [List.map_set, stars_set _ _ (by simpa using h)]

theorem at_nil {id : Int} (hk : Q (.pointer none) w) : Cal P N_model_Model_at #[.pointer none, .int .i64 id] w Q := by
  apply model_Model_at_k0
  unfold model_Model_at_b0
  rw [eqx_ptr_nil (by kernel_rfl)]
  simpa using hk
theorem at_spec {id : Int} (hok : md.ok) (e : pts S = md.parts) (h : Sat T w (own b (mdC md (ptrs S)) • R)) (hk : Q (pv (if 0 ≤ id ∧ id < 8 then (S.getD id.toNat none).map (·.1) else none)) w) : Cal P N_model_Model_at #[ptr b, .int .i64 id] w Q := by
  apply model_Model_at_k0
  unfold model_Model_at_b0
  have hg := h.get
  have hl := pts_len hok e
  rw [eqx_ptr_nil (by kernel_rfl)]
  by_cases h0 : id < 0
  · rw [if_neg (by omega)] at hk
    simp [h0]; exact hk
  · by_cases h8 : 8 ≤ id
    · rw [if_neg (by omega)] at hk
      simp [h0, h8]; exact hk
    · rw [if_pos (by omega)] at hk
      have hp : cellA (mdA md (ptrs S)) (2 + id.toNat) = some (pv ((S.getD id.toNat none).map (·.1))) := by
        rw [mdA_part (by simp [hl]; omega), ptrs_get]
      simp [h0, h8, hg, ld_eq, mdC, hp]
      exact ⟨by omega, hk⟩
theorem neqx_pv {x y : Operand} {t : TypeId} (ht : isPtr P t = true) (p : Option Nat) : eqx P .neq t x y (pv p) (.pointer none) w K = K (.bool p.isSome) w := by
  unfold pv
  rw [neqx_ptr_nil ht]
  cases p <;> rfl
theorem eqx_pv {x y : Operand} {t : TypeId} (ht : isPtr P t = true) (p : Option Nat) : eqx P .eql t x y (pv p) (.pointer none) w K = K (.bool p.isNone) w := by
  unfold pv
  rw [eqx_ptr_nil ht]
  cases p <;> rfl
theorem Live_spec {id : Int} (hok : md.ok) (h : Sat T w (MdH b md • R)) (hk : Q (.bool (md.part id).isSome) w) : Cal P N_model_Model_Live #[ptr b, .int .i64 id] w Q := by
  apply model_Model_Live_k0
  unfold model_Model_Live_b0
  obtain ⟨S, e, h1⟩ := MdH.open h
  apply at_spec hok e h1
  rw [neqx_pv (by kernel_rfl)]
  have : (md.part id).isSome = (if 0 ≤ id ∧ id < 8 then (S.getD id.toNat none).map (·.1) else none).isSome := by
    unfold Md.part
    split
    · rw [← pts_get e]; cases S.getD id.toNat none <;> rfl
    · rfl
  rw [← this]; exact hk
theorem Charged_spec {id : Int} (hok : md.ok) (h : Sat T w (MdH b md • R)) (hk : ∀ w', Sat T w' (MdH b md • R) → Q (.int .i64 (chgO (md.part id))) w') : Cal P N_model_Model_Charged #[ptr b, .int .i64 id] w Q := by
  apply model_Model_Charged_k0
  unfold model_Model_Charged_b0
  obtain ⟨S, e, h1⟩ := MdH.open h
  have hl := pts_len hok e
  apply at_spec hok e h1
  by_cases hi : 0 ≤ id ∧ id < 8
  · rw [if_pos hi]
    have hpt : md.part id = (S.getD id.toNat none).map (·.2) := by rw [pts_get e]; exact part_in hok hi.1 hi.2
    rw [hpt] at hk
    have hp := slot_pick (S := S) (i := id.toNat) (by omega)
    cases hS : S.getD id.toNat none with
    | none =>
      rw [hS] at hk
      exact part_charged_nil (hk w h)
    | some q =>
      rw [hS] at hk hp hpt
      have h2 := h1.to (show _ = PtH q.1 q.2 • own b (mdC md (ptrs S)) • stars ((S.map slotH).eraseIdx id.toNat) • R by
        rw [hp]; show _ • (PtH q.1 q.2 • _) • _ = _; ac_rfl)
      refine part_charged_spec (part_ok hok hpt) h2 fun w' h' => hk w' (MdH.close e (h'.to ?_))
      rw [hp]; show _ = _ • (PtH q.1 q.2 • _) • _; ac_rfl
  · rw [if_neg hi]
    have : md.part id = none := by unfold Md.part; rw [if_neg hi]
    rw [this] at hk
    exact part_charged_nil (hk w h)
theorem may_spec {c q : Int} (h : Sat T w (MdH b md • R)) (hk : Q (.bool (md.may c q)) w) : Cal P N_model_Model_may #[ptr b, .int .i64 c, .int .i64 q] w Q := by
  apply model_Model_may_k0
  unfold model_Model_may_b0
  obtain ⟨S, e, h1⟩ := MdH.open h
  have hg := h1.get
  unfold Md.may at hk
  refine demand_Of_spec (fun hq => ?_) (fun hq n hn => ?_)
  · rw [hq] at hk
    simp at hk ⊢; exact hk
  · rw [hq] at hk
    by_cases h1 : 1 ≤ c
    · simp [h1, hg, ld_eq, mdC, mdA_1, iv] at hk ⊢; exact hk
    · simp [h1] at hk ⊢; exact hk
theorem room_spec' {c : Int} (hok : md.ok) (hc : 0 ≤ c ∧ c ≤ 32) (h : Sat T w (MdH b md • R)) (hk : Q (.int .i64 (md.room c)) (Eng.dw w)) : Cal P N_model_Model_room #[ptr b, .int .i64 c] w Q := by
  apply model_Model_room_k0
  unfold model_Model_room_b0
  obtain ⟨S, e, h1⟩ := MdH.open h
  have hg := h1.get
  have h1 := hok.pg
  have h2 := hok.cl
  have e1 : md.pages.tdiv md.cols = md.pages / md.cols := Int.tdiv_eq_ediv_of_nonneg (by omega)
  have d0 : 0 ≤ md.pages / md.cols := Int.ediv_nonneg (by omega) (by omega)
  have d1 : md.pages / md.cols ≤ md.pages := Int.ediv_le_self _ (by omega)
  have m0 : 0 ≤ c * (md.pages / md.cols) := Int.mul_nonneg hc.1 d0
  have m1 : c * (md.pages / md.cols) ≤ 32 * 4096 := Int.mul_le_mul hc.2 (by omega) d0 (by omega)
  have hne : ¬ (md.cols = 0) := by omega
  simp [hg, ld_eq, mdC, mdA_0, mdA_1, iv, hne, e1]
  rw [wrap_id (n := md.pages / md.cols) (by omega) (by omega), wrap_id (by omega) (by omega)]
  exact hk
theorem room_spec {c : Int} (hok : md.ok) (hc : 0 ≤ c ∧ c ≤ 32) (h : Sat T w (MdH b md • R)) (hk : ∀ w', Sat T w' (MdH b md • R) → Q (.int .i64 (md.room c)) w') : Cal P N_model_Model_room #[ptr b, .int .i64 c] w Q :=
  room_spec' hok hc h (hk _ h.dw)
end
end Go.Proofs.YtiffjkgbjklgnaaDoor
