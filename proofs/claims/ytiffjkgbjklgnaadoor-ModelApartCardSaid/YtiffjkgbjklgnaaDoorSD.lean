/-
  Tables (caps): what a table is in memory, and what its functions do.
-/
import Derived.Test.YtiffjkgbjklgnaaDoorSC
import Derived.Test.YtiffjkgbjklgnaaDoorSM
import Derived.Test.YtiffjkgbjklgnaaDoorSE
namespace Go.Proofs.YtiffjkgbjklgnaaDoor
open Go Go.Eng Go.Lib
set_option maxRecDepth 20000

/-! ### lists of pairs -/
section assoc
variable {α : Type}
def aget : List (Int × α) → Int → Option α
  | [], _ => none
  | (k, x) :: r, n => if n = k then some x else aget r n
def aput : List (Int × α) → Int → α → List (Int × α)
  | [], n, v => [(n, v)]
  | (k, x) :: r, n, v => if n = k then (n, v) :: r else (k, x) :: aput r n v
def adel : List (Int × α) → Int → List (Int × α)
  | [], _ => []
  | (k, x) :: r, n => if n = k then r else (k, x) :: adel r n
def amap (f : α → Value) (l : List (Int × α)) : List (Int × Value) := l.map fun p => (p.1, f p.2)
theorem getI_amap (f : α → Value) (n : Int) : ∀ l : List (Int × α), getI (amap f l) n = (aget l n).map f
  | [] => rfl
  | (k, x) :: r => by
    show getI ((k, f x) :: amap f r) n = _
    unfold getI aget
    split
    · rfl
    · exact getI_amap f n r
theorem putI_amap (f : α → Value) (n : Int) (v : α) : ∀ l : List (Int × α), putI (amap f l) n (f v) = amap f (aput l n v)
  | [] => rfl
  | (k, x) :: r => by
    show putI ((k, f x) :: amap f r) n (f v) = _
    unfold putI aput
    split
    · rfl
    · rw [putI_amap f n v r]; rfl
theorem delI_amap (f : α → Value) (n : Int) : ∀ l : List (Int × α), delI (amap f l) n = amap f (adel l n)
  | [] => rfl
  | (k, x) :: r => by
    show delI ((k, f x) :: amap f r) n = _
    unfold delI adel
    split
    · rfl
    · rw [delI_amap f n r]; rfl
theorem amap_len (f : α → Value) (l : List (Int × α)) : (amap f l).length = l.length := List.length_map _
end assoc

/-- a slot: rights, serial, address -/
structure Sl where
  r : Int
  n : Int
  a : Int
deriving DecidableEq
def slV (s : Sl) : Value := .agg #[.int .i64 s.r, .int .i64 s.n, .int .i64 s.a]
structure Cp where
  tenant : Int
  next : Int
  slots : List (Int × Sl)
  objs : Sh
  extra : Sh
deriving DecidableEq
structure Cp.ok (c : Cp) : Prop where
  o : c.objs.ok
  x : c.extra.ok
  n0 : 1 ≤ c.next
  n1 : c.next ≤ 17592186044416
  t0 : 0 ≤ c.tenant
  t1 : c.tenant ≤ 7
  ow : c.objs.ws ≠ []
  xw : c.extra.ws ≠ []
  os : c.objs.size = 4096
  xs : c.extra.size = 64
def cpC (c : Cp) (m o x : Nat) : Obj := .cells #[.int .i64 c.tenant, .int .i64 c.next, .map (some m), ptr o, ptr x] T_caps_Caps (0, 0)
def CpH (g : Nat) (c : Cp) : HP := exs fun m : Nat => exs fun o : Nat => exs fun x : Nat => own g (cpC c m o x) • MapH m (amap slV c.slots) • ShH o c.objs • ShH x c.extra
section
variable {T : Bs} {w : World} {Q : Value → World → Prop} {g : Nat} {c : Cp} {R : HP}
theorem CpH.open (h : Sat T w (CpH g c • R)) : ∃ m o x, Sat T w (own g (cpC c m o x) • MapH m (amap slV c.slots) • ShH o c.objs • ShH x c.extra • R) := by
  unfold CpH at h
  obtain ⟨m, h⟩ := h.exs; obtain ⟨o, h⟩ := h.exs; obtain ⟨x, h⟩ := h.exs
  exact ⟨m, o, x, h.to (by ac_rfl)⟩
theorem CpH.close {m o x : Nat} (h : Sat T w (own g (cpC c m o x) • MapH m (amap slV c.slots) • ShH o c.objs • ShH x c.extra • R)) : Sat T w (CpH g c • R) := by
  unfold CpH
  exact Sat.toExs m (Sat.toExs o (Sat.toExs x (h.to (by ac_rfl))))

theorem bd_caps {K : Value → World → Prop} (a b : Int) (m : Option Nat) (o x : Option Addr) : bd P T_caps_Caps [(0, .int .i64 a), (1, .int .i64 b), (2, .map m), (3, .pointer o), (4, .pointer x)] w K = K (.agg #[.int .i64 a, .int .i64 b, .map m, .pointer o, .pointer x]) w := by kernel_rfl

def Cp.new (t n : Int) : Cp := ⟨t, n, [], Sh.new 4096, Sh.new 64⟩
theorem caps_New_spec {t n : Int} (ht : 0 ≤ t ∧ t ≤ 7) (hn : 1 ≤ n ∧ n ≤ 17592186044416) (h : Sat T w R) (hk : ∀ g w', Sat T w' (CpH g (Cp.new t n) • R) → Q (.tuple #[ptr g, .int .i64 0]) w') : Cal P N_caps_New #[.int .i64 t, .int .i64 n] w Q := by
  apply caps_New_k0
  unfold caps_New_b0
  have e1 : ¬ (t < 0) := by omega
  have e2 : ¬ (8 ≤ t) := by omega
  have e3 : ¬ (n < 1) := by omega
  have e4 : ¬ (17592186044416 < n) := by omega
  simp [e1, e2, e3, e4]
  refine shelf_New_spec (n := 4096) (by omega) (by omega) h fun o w1 h1 => ?_
  simp
  refine shelf_New_spec (n := 64) (by omega) (by omega) h1 fun x w2 h2 => ?_
  simp
  have h3 := h2.push (.map #[] 0)
  have h4 : Sat T _ (MapH w2.heap.size [] • _) := MapH.close (es := #[]) (c := 0) mapOk_nil h3
  have hb := fun K => bd_caps (w := pu w2 (.map #[] 0)) (K := K) t n (some w2.heap.size) (some ⟨o, 0, none⟩) (some ⟨x, 0, none⟩)
  simp only [T_caps_Caps] at hb
  rw [hb]
  generalize pu w2 _ = w3 at *
  have h5 := h4.push (cpC (Cp.new t n) w2.heap.size o x)
  exact hk _ _ (CpH.close (m := w2.heap.size) (o := o) (x := x) (h5.to (by
    show _ = own _ _ • MapH _ [] • ShH o (Sh.new 4096) • ShH x (Sh.new 64) • R
    ac_rfl)))

theorem caps_Serial_spec (h : Sat T w (CpH g c • R)) (hk : Q (.int .i64 c.next) w) : Cal P N_caps_Caps_Serial #[ptr g] w Q := by
  apply caps_Caps_Serial_k0
  unfold caps_Caps_Serial_b0
  have ⟨m, o, x, hq⟩ := CpH.open h
  have hg := hq.get
  rw [eqx_ptr_nil (by kernel_rfl)]
  simp [hg, ld_eq, cpC]
  exact hk

/-- the table behind a put: the handle, the error -/
def Cp.putM (c : Cp) (k : Int) (base addr rights : Int) : Cp := { c with slots := aput c.slots (base + k) ⟨rights, c.next, addr⟩, next := c.next + 1 }
def Cp.put (c : Cp) (S : Sh) (base addr rights : Int) : (Nat × Int) × Cp × Sh :=
  if 17592186044416 ≤ c.next then ((0, 10), c, S) else if S.take.1.2 = 0 then (packS c.tenant (base + S.take.1.1) rights c.next, c.putM S.take.1.1 base addr rights, S.take.2) else ((0, 10), c, S.take.2)

theorem lk_true {K : Value → World → Prop} {t e : TypeId} {z : Value} {r : Nat} {n : Int} {m : List (Int × Value)} (hk : keyO P t = some (.i64, e)) (hz : zeroO P e = some z) (hm : mapI .i64 (w.heap[r]?) = some m) : lk P t (.map (some r)) (.int .i64 n) true w K = K (lkres z (getI m n) true) w := by
  unfold lk; simp [hk, hz, hm]
theorem lk_false {K : Value → World → Prop} {t e : TypeId} {z : Value} {r : Nat} {n : Int} {m : List (Int × Value)} (hk : keyO P t = some (.i64, e)) (hz : zeroO P e = some z) (hm : mapI .i64 (w.heap[r]?) = some m) : lk P t (.map (some r)) (.int .i64 n) false w K = K (lkres z (getI m n) false) w := by
  unfold lk; simp [hk, hz, hm]
theorem mu_go {K : Value → World → Prop} {t e : TypeId} {r : Nat} {n : Int} {v : Value} {o : Obj} {m : List (Int × Value)} (hk : keyO P t = some (.i64, e)) (ho : w.heap[r]? = some o) (hm : mapI .i64 (some o) = some m) : mu P t (.map (some r)) (.int .i64 n) v w K = K undef (sb w r (putM .i64 o n v)) := by
  unfold mu; simp [hk, ho, hm]
theorem bd_good {K : Value → World → Prop} (a b : Int) : bd P T_caps_good [(0, .int .i64 a), (1, .int .i64 b)] w K = K (.agg #[.int .i64 a, .int .i64 b]) w := by kernel_rfl
theorem bd_slot {K : Value → World → Prop} (a b c : Int) : bd P T_caps_slot [(0, .agg #[.int .i64 a, .int .i64 b]), (1, .int .i64 c)] w K = K (.agg #[.int .i64 a, .int .i64 b, .int .i64 c]) w := by kernel_rfl
theorem bd_key {K : Value → World → Prop} (a b c d : Int) : bd P T_api_Key [(0, .int .i64 a), (1, .int .i64 b), (2, .int .i64 c), (3, .int .i64 d)] w K = K (keyV a b c d) w := by kernel_rfl

theorem take_lt {S : Sh} (hS : S.ok) : -1 ≤ S.take.1.1 ∧ S.take.1.1 < 4194304 := by
  unfold Sh.take
  have h1 := Sh.low_lt hS
  have h2 := Sh.low_ge (s := S)
  have h3 := hS.len
  split
  · simp
  · simp; omega

theorem caps_put_spec {m o x sh : Nat} {S : Sh} {base addr rights : Int} (hS : S.ok) (hb : 0 ≤ base ∧ base ≤ 4096) (hn : 1 ≤ c.next ∧ c.next ≤ 17592186044416)
    (h : Sat T w (own g (cpC c m o x) • MapH m (amap slV c.slots) • ShH sh S • R))
    (hk : ∀ w', Sat T w' (own g (cpC (c.put S base addr rights).2.1 m o x) • MapH m (amap slV (c.put S base addr rights).2.1.slots) • ShH sh (c.put S base addr rights).2.2 • R) → Q (.tuple #[.int .u64 (c.put S base addr rights).1.1, .int .i64 (c.put S base addr rights).1.2]) w') :
    Cal P N_caps_Caps_put #[ptr g, ptr sh, .int .i64 base, .int .i64 addr, .int .i64 rights] w Q := by
  apply caps_Caps_put_k0
  unfold caps_Caps_put_b0
  have hg := h.get
  by_cases hmany : 17592186044416 ≤ c.next
  · simp [hg, ld_eq, cpC, hmany]
    simp only [Cp.put, if_pos hmany] at hk
    exact hk w h
  · simp [hg, ld_eq, cpC, hmany]
    simp only [Cp.put, if_neg hmany] at hk
    refine shelf_Take_spec hS (h.to (show _ = ShH sh S • own g (cpC c m o x) • MapH m (amap slV c.slots) • R by ac_rfl)) fun w1 h1 => ?_
    have ⟨hl0, hl1⟩ := take_lt hS
    by_cases he : S.take.1.2 = 0
    · simp only [he, if_true] at hk ⊢
      have hg1 := (h1.to (show _ = own g (cpC c m o x) • ShH sh S.take.2 • MapH m (amap slV c.slots) • R by ac_rfl)).get
      have hm1 : Sat T (dw w1) (MapH m (amap slV c.slots) • own g (cpC c m o x) • ShH sh S.take.2 • R) := (h1.to (by ac_rfl)).dw
      obtain ⟨ob, ho, hmi, h2⟩ := MapH.put hm1 (base + S.take.1.1) (slV ⟨rights, c.next, addr⟩)
      rw [putI_amap] at h2
      have hmu : ∀ K, mu P T_map_int_caps_slot (.map (some m)) (.int .i64 (base + S.take.1.1)) (slV ⟨rights, c.next, addr⟩) (dw w1) K = K undef (sb (dw w1) m (putM .i64 ob (base + S.take.1.1) (slV ⟨rights, c.next, addr⟩))) := fun K => mu_go (e := T_caps_slot) (by kernel_rfl) ho hmi
      unfold slV at hmu
      simp (disch := omega) [hg1, ld_eq, cpC, wrap_id, bd_good, bd_slot]
      simp only [T_map_int_caps_slot] at hmu
      rw [hmu]
      unfold slV at h2
      generalize sb (dw w1) m _ = w2 at *
      have h3 : Sat T w2 (own g (cpC c m o x) • MapH m (amap slV (c.putM S.take.1.1 base addr rights).slots) • ShH sh S.take.2 • R) := h2.to (by
        show MapH m (amap slV (aput c.slots (base + S.take.1.1) ⟨rights, c.next, addr⟩)) • _ = own g (cpC c m o x) • MapH m (amap slV (aput c.slots (base + S.take.1.1) ⟨rights, c.next, addr⟩)) • _
        ac_rfl)
      have hg3 := h3.get
      simp (disch := omega) [hg3, cpC, wrap_id, bd_key]
      refine handle_Pack_spec h3.dw fun w3 h4 => ?_
      have hg4 := h4.get
      simp (disch := omega) [hg4, cpC, wrap_id, st_eq]
      exact hk _ (h4.set (cpC (c.putM S.take.1.1 base addr rights) m o x))
    · simp only [he, if_false] at hk ⊢
      simp [he]
      exact hk w1 (h1.to (by ac_rfl))

theorem Sh.take_ws {S : Sh} (h : S.ws ≠ []) : S.take.2.ws ≠ [] ∧ S.take.2.size = S.size := by
  unfold Sh.take
  split
  · exact ⟨h, rfl⟩
  · refine ⟨?_, rfl⟩
    show S.ws.set _ _ ≠ []
    intro e
    have := congrArg List.length e
    rw [List.length_set] at this
    exact h (List.eq_nil_of_length_eq_zero (by simpa using this))
theorem Sh.give_ws {S : Sh} (h : S.ws ≠ []) (k : Int) : (S.give k).2.ws ≠ [] ∧ (S.give k).2.size = S.size := by
  have : ∀ by_, (S.turn k by_).ws ≠ [] := fun by_ => by
    show S.ws.set _ _ ≠ []
    intro e
    have := congrArg List.length e
    rw [List.length_set] at this
    exact h (List.eq_nil_of_length_eq_zero (by simpa using this))
  unfold Sh.give
  split
  · split
    · exact ⟨this _, rfl⟩
    · exact ⟨h, rfl⟩
  · exact ⟨h, rfl⟩

/-- a handle of one more object -/
def Cp.grant (c : Cp) (addr : Int) : (Nat × Int) × Cp := ((c.put c.objs 0 addr 7).1, { (c.put c.objs 0 addr 7).2.1 with objs := (c.put c.objs 0 addr 7).2.2 })
theorem Cp.put_keep {S : Sh} {base addr rights : Int} : (c.put S base addr rights).2.1.objs = c.objs ∧ (c.put S base addr rights).2.1.extra = c.extra ∧ (c.put S base addr rights).2.1.tenant = c.tenant ∧ c.next ≤ (c.put S base addr rights).2.1.next ∧ (c.next ≤ 17592186044416 → (c.put S base addr rights).2.1.next ≤ 17592186044416) := by
  unfold Cp.put
  split
  · simp
  · split
    · simp [Cp.putM]; omega
    · simp
theorem Cp.put_shelf {S : Sh} {base addr rights : Int} : (c.put S base addr rights).2.2 = S ∨ (c.put S base addr rights).2.2 = S.take.2 := by
  unfold Cp.put
  split
  · exact .inl rfl
  · split
    · exact .inr rfl
    · exact .inr rfl
theorem Cp.grant_ok (hc : c.ok) (addr : Int) : (c.grant addr).2.ok := by
  obtain ⟨-, e2, e3, e4, e5⟩ := Cp.put_keep (c := c) (S := c.objs) (base := 0) (addr := addr) (rights := 7)
  have hs := Cp.put_shelf (c := c) (S := c.objs) (base := 0) (addr := addr) (rights := 7)
  have ho : (c.put c.objs 0 addr 7).2.2.ok ∧ (c.put c.objs 0 addr 7).2.2.ws ≠ [] ∧ (c.put c.objs 0 addr 7).2.2.size = 4096 := by
    rcases hs with e | e
    · rw [e]; exact ⟨hc.o, hc.ow, hc.os⟩
    · rw [e]; exact ⟨Sh.take_ok hc.o, (Sh.take_ws hc.ow).1, by rw [(Sh.take_ws hc.ow).2]; exact hc.os⟩
  exact { o := ho.1, x := by show (c.put c.objs 0 addr 7).2.1.extra.ok; rw [e2]; exact hc.x, n0 := Int.le_trans hc.n0 e4, n1 := e5 hc.n1, t0 := by show 0 ≤ (c.put c.objs 0 addr 7).2.1.tenant; rw [e3]; exact hc.t0, t1 := by show (c.put c.objs 0 addr 7).2.1.tenant ≤ 7; rw [e3]; exact hc.t1, ow := ho.2.1, xw := by show (c.put c.objs 0 addr 7).2.1.extra.ws ≠ []; rw [e2]; exact hc.xw, os := ho.2.2, xs := by show (c.put c.objs 0 addr 7).2.1.extra.size = 64; rw [e2]; exact hc.xs }
theorem caps_Grant_spec {addr : Int} (hc : c.ok) (ha : 0 ≤ addr) (h : Sat T w (CpH g c • R)) (hk : ∀ w', Sat T w' (CpH g (c.grant addr).2 • R) → Q (.tuple #[.int .u64 (c.grant addr).1.1, .int .i64 (c.grant addr).1.2]) w') : Cal P N_caps_Caps_Grant #[ptr g, .int .i64 addr] w Q := by
  apply caps_Caps_Grant_k0
  unfold caps_Caps_Grant_b0
  have ⟨m, o, x, hq⟩ := CpH.open h
  have hg := hq.get
  have e1 : ¬ (addr < 0) := by omega
  rw [eqx_ptr_nil (by kernel_rfl)]
  simp [e1, hg, ld_eq, cpC]
  have h1 : Sat T w (own g (cpC c m o x) • MapH m (amap slV c.slots) • ShH o c.objs • (ShH x c.extra • R)) := hq.to (by ac_rfl)
  refine caps_put_spec hc.o (by omega) ⟨hc.n0, hc.n1⟩ h1 fun w1 h2 => ?_
  simp
  refine hk _ (CpH.close (m := m) (o := o) (x := x) (h2.to ?_))
  obtain ⟨-, e2, -⟩ := Cp.put_keep (c := c) (S := c.objs) (base := 0) (addr := addr) (rights := 7)
  show _ = own g (cpC (c.put c.objs 0 addr 7).2.1 m o x) • MapH m (amap slV (c.put c.objs 0 addr 7).2.1.slots) • ShH o (c.put c.objs 0 addr 7).2.2 • ShH x (c.put c.objs 0 addr 7).2.1.extra • R
  rw [e2]

/-- the slot of a handle -/
def Cp.find (c : Cp) (h : Nat) : Option Sl :=
  if unpOk h then match aget c.slots (unpS h) with
    | some s => if unpT h = c.tenant ∧ s.r = unpR h ∧ s.n = unpN h then some s else none
    | none => none
  else none
def slO : Option Sl → Sl
  | some s => s
  | none => ⟨0, 0, 0⟩
theorem al_slot {K : Value → World → Prop} : al P T_caps_slot w K = K (ptr w.heap.size) (pu w (.cells #[.int .i64 0, .int .i64 0, .int .i64 0] T_caps_slot (0, 0))) := by kernel_rfl
theorem al_key {K : Value → World → Prop} : al P T_api_Key w K = K (ptr w.heap.size) (pu w (.cells #[.int .i64 0, .int .i64 0, .int .i64 0, .int .i64 0] T_api_Key (0, 0))) := by kernel_rfl
theorem st_slot {K : Value → World → Prop} {b : Nat} {s s' : Sl} (h : w.heap[b]? = some (.cells #[.int .i64 s.r, .int .i64 s.n, .int .i64 s.a] T_caps_slot (0, 0))) (hk : K undef (sb w b (.cells #[.int .i64 s'.r, .int .i64 s'.n, .int .i64 s'.a] T_caps_slot (0, 0)))) : st P T_caps_slot (ptr b) (slV s') w K :=
  st_whole (n := 3) (vs := #[.int .i64 s'.r, .int .i64 s'.n, .int .i64 s'.a]) h (by kernel_rfl) rfl rfl rfl hk
theorem ldO_slot {s : Sl} : ldO P T_caps_slot (some (.cells #[.int .i64 s.r, .int .i64 s.n, .int .i64 s.a] T_caps_slot (0, 0))) 0 = some (slV s) := ld_whole fun o i => by kernel_rfl
theorem ldO_key {a b c d : Int} : ldO P T_api_Key (some (.cells #[.int .i64 a, .int .i64 b, .int .i64 c, .int .i64 d] T_api_Key (0, 0))) 0 = some (keyV a b c d) := ld_whole fun o i => by kernel_rfl
theorem st_key {K : Value → World → Prop} {b : Nat} {x y z u a b' c d : Int} (h : w.heap[b]? = some (.cells #[.int .i64 x, .int .i64 y, .int .i64 z, .int .i64 u] T_api_Key (0, 0))) (hk : K undef (sb w b (.cells #[.int .i64 a, .int .i64 b', .int .i64 c, .int .i64 d] T_api_Key (0, 0)))) : st P T_api_Key (ptr b) (keyV a b' c d) w K :=
  st_whole (n := 4) (vs := #[.int .i64 a, .int .i64 b', .int .i64 c, .int .i64 d]) h (by kernel_rfl) rfl rfl rfl hk
end
end Go.Proofs.YtiffjkgbjklgnaaDoor
