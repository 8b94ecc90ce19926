/-
  What the engine's primitives do, as equations for simp: they go along the head of what is left and never into what comes behind. Worlds, frames.
-/
import Derived.Test.YtiffjkgbjklgnaaDoorEng
namespace Go.Eng
open Go

/-! ### worlds -/
@[simp] theorem dw_heap (w : World) : (dw w).heap = w.heap := rfl
@[simp] theorem sb_size (w : World) (b : Nat) (o : Obj) : (sb w b o).heap.size = w.heap.size := by simp [sb]
theorem pu_get {w : World} {b : Nat} (o : Obj) : (pu w o).heap[b]? = if b = w.heap.size then some o else w.heap[b]? :=
  Array.getElem?_push
@[simp] theorem pu_size (w : World) (o : Obj) : (pu w o).heap.size = w.heap.size + 1 := Array.size_push ..
@[simp] theorem pu_new (w : World) (o : Obj) : (pu w o).heap[w.heap.size]? = some o := by rw [pu_get, if_pos rfl]
theorem pu_old {w : World} {b : Nat} (h : b < w.heap.size) (o : Obj) : (pu w o).heap[b]? = w.heap[b]? := by
  rw [pu_get, if_neg (Nat.ne_of_lt h)]
theorem sb_same {w : World} {b : Nat} (h : b < w.heap.size) (o : Obj) : (sb w b o).heap[b]? = some o := sb_get_same h o
theorem sb_other {w : World} {b c : Nat} (h : c ≠ b) (o : Obj) : (sb w b o).heap[c]? = w.heap[c]? := by
  simp [sb, Array.getElem?_setIfInBounds_ne (Ne.symm h)]
theorem sb_get {w : World} {b c : Nat} (h : b < w.heap.size) (o : Obj) : (sb w b o).heap[c]? = if c = b then some o else w.heap[c]? := by
  by_cases e : c = b
  · subst e; rw [sb_same h, if_pos rfl]
  · rw [sb_other e, if_neg e]
theorem lt_of_get {w : World} {b : Nat} {o : Obj} (h : w.heap[b]? = some o) : b < w.heap.size := (Array.getElem?_eq_some_iff.1 h).1

@[simp] theorem onv_some {α : Type} (v : α) (F : α → Prop) : onv (some v) F = F v := rfl
@[congr] theorem onv_congr {α : Type} {x y : Option α} {F : α → Prop} (h : x = y) : onv x F = onv y F := by rw [h]
/-- a cell, out of simp's reach -/
def cellA (cs : Array Value) (i : Nat) : Option Value := cs[i]?
@[simp] theorem cellO_some (cs : Array Value) (e : TypeId) (fz : Nat × Nat) (i : Nat) : cellO (some (.cells cs e fz)) i = cellA cs i := rfl
@[simp] theorem cellA_zero (v : Value) (l : List Value) : cellA ⟨v :: l⟩ 0 = some v := by simp [cellA]
@[simp] theorem cellA_succ (v : Value) (l : List Value) (i : Nat) : cellA ⟨v :: l⟩ (i + 1) = cellA ⟨l⟩ i := by simp [cellA]
theorem cellsO_some {cs : Array Value} {e : TypeId} {fz : Nat × Nat} {i n : Nat} (h : i + n ≤ cs.size) : cellsO (some (.cells cs e fz)) i n = some (cs.extract i (i + n)) := by
  have := Nat.ble_eq_true_of_le h
  unfold cellsO; simp only; rw [this]
theorem stO_some {cs : Array Value} {e : TypeId} {i : Nat} {vs : List Value} (h : i + vs.length ≤ cs.size) (hv : vs.all oneV = true) : stO (some (.cells cs e (0, 0))) i vs = some (.cells (putC cs i vs) e (0, 0)) := by
  have := Nat.ble_eq_true_of_le h
  unfold stO; simp only; rw [hv, this]; rfl
theorem stO_one {cs : Array Value} {e : TypeId} {i : Nat} {v : Value} (h : i < cs.size) (hv : oneV v = true) : stO (some (.cells cs e (0, 0))) i [v] = some (.cells (cs.setIfInBounds i v) e (0, 0)) := by
  rw [stO_some (by simp; omega) (by simp [hv])]
  rfl
@[simp] theorem putC_nil (cs : Array Value) (i : Nat) : putC cs i [] = cs := rfl
@[simp] theorem putC_cons (cs : Array Value) (i : Nat) (v : Value) (r : List Value) : putC cs i (v :: r) = putC (cs.setIfInBounds i v) (i + 1) r := rfl
@[simp] theorem oneV_int (k : IntKind) (n : Int) : oneV (.int k n) = true := rfl
@[simp] theorem oneV_bool (b : Bool) : oneV (.bool b) = true := rfl
@[simp] theorem oneV_string (s : ByteArray) : oneV (.string s) = true := rfl
@[simp] theorem oneV_pointer (a : Option Addr) : oneV (.pointer a) = true := rfl
@[simp] theorem oneV_slice (a : Option Addr) (n c : Nat) : oneV (.slice a n c) = true := rfl
@[simp] theorem oneV_map (a : Option Nat) : oneV (.map a) = true := rfl
@[simp] theorem oneV_complex (k : FloatKind) (a b : Nat) : oneV (.complex k a b) = true := rfl
@[simp] theorem cells_int (k : IntKind) (n : Int) : Value.cells (.int k n) = #[.int k n] := rfl
@[simp] theorem cells_bool (b : Bool) : Value.cells (.bool b) = #[.bool b] := rfl
@[simp] theorem cells_string (s : ByteArray) : Value.cells (.string s) = #[.string s] := rfl
@[simp] theorem cells_pointer (a : Option Addr) : Value.cells (.pointer a) = #[.pointer a] := rfl
@[simp] theorem cells_slice (a : Option Addr) (n c : Nat) : Value.cells (.slice a n c) = #[.slice a n c] := rfl
@[simp] theorem cells_map (a : Option Nat) : Value.cells (.map a) = #[.map a] := rfl
@[simp] theorem cells_complex (k : FloatKind) (a b : Nat) : Value.cells (.complex k a b) = #[.complex k a b] := rfl
@[simp] theorem cells_agg (cs : Array Value) : Value.cells (.agg cs) = cs := rfl

def stL : List Value → Nat → Value → Option (List Value)
  | [], _, _ => none
  | _ :: l, 0, v => some (v :: l)
  | x :: l, i + 1, v => (stL l i v).map (x :: ·)
@[simp] theorem stL_zero (x v : Value) (l : List Value) : stL (x :: l) 0 v = some (v :: l) := rfl
@[simp] theorem stL_succ (x v : Value) (l : List Value) (i : Nat) : stL (x :: l) (i + 1) v = (stL l i v).map (x :: ·) := rfl
theorem stL_spec : ∀ (l : List Value) (i : Nat) (v : Value), stL l i v = if i < l.length then some (l.set i v) else none
  | [], i, v => by simp [stL]
  | x :: l, 0, v => by simp [stL]
  | x :: l, i + 1, v => by
    rw [stL_succ, stL_spec l i v]
    by_cases h : i < l.length <;> simp [h]
theorem stO_lit {x : Value} {l : List Value} {e : TypeId} {i : Nat} {v : Value} (hv : oneV v = true) : stO (some (.cells ⟨x :: l⟩ e (0, 0))) i [v] = (stL (x :: l) i v).map fun l => .cells ⟨l⟩ e (0, 0) := by
  rw [stL_spec]
  by_cases h : i < (x :: l).length
  · rw [stO_one h hv, if_pos h]; simp
  · unfold stO
    rw [if_neg h]
    have : Nat.ble (i + [v].length) (Array.mk (x :: l)).size = false := by
      rw [Bool.eq_false_iff]; intro hh; have := Nat.le_of_ble_eq_true hh; simp at this h; omega
    simp only [this, Bool.and_false]; rfl
@[simp] theorem stO_lit_int {x : Value} {l : List Value} {e : TypeId} {i : Nat} (k : IntKind) (n : Int) : stO (some (.cells ⟨x :: l⟩ e (0, 0))) i [.int k n] = (stL (x :: l) i (.int k n)).map fun l => .cells ⟨l⟩ e (0, 0) := stO_lit rfl
theorem stO_int {cs : Array Value} {e : TypeId} {i : Nat} (k : IntKind) (n : Int) (h : i < cs.size) : stO (some (.cells cs e (0, 0))) i [.int k n] = some (.cells (cs.setIfInBounds i (.int k n)) e (0, 0)) := stO_one h rfl
@[simp] theorem stO_lit_bool {x : Value} {l : List Value} {e : TypeId} {i : Nat} (b : Bool) : stO (some (.cells ⟨x :: l⟩ e (0, 0))) i [.bool b] = (stL (x :: l) i (.bool b)).map fun l => .cells ⟨l⟩ e (0, 0) := stO_lit rfl
theorem stO_bool {cs : Array Value} {e : TypeId} {i : Nat} (b : Bool) (h : i < cs.size) : stO (some (.cells cs e (0, 0))) i [.bool b] = some (.cells (cs.setIfInBounds i (.bool b)) e (0, 0)) := stO_one h rfl
@[simp] theorem stO_lit_string {x : Value} {l : List Value} {e : TypeId} {i : Nat} (s : ByteArray) : stO (some (.cells ⟨x :: l⟩ e (0, 0))) i [.string s] = (stL (x :: l) i (.string s)).map fun l => .cells ⟨l⟩ e (0, 0) := stO_lit rfl
theorem stO_string {cs : Array Value} {e : TypeId} {i : Nat} (s : ByteArray) (h : i < cs.size) : stO (some (.cells cs e (0, 0))) i [.string s] = some (.cells (cs.setIfInBounds i (.string s)) e (0, 0)) := stO_one h rfl
@[simp] theorem stO_lit_pointer {x : Value} {l : List Value} {e : TypeId} {i : Nat} (a : Option Addr) : stO (some (.cells ⟨x :: l⟩ e (0, 0))) i [.pointer a] = (stL (x :: l) i (.pointer a)).map fun l => .cells ⟨l⟩ e (0, 0) := stO_lit rfl
theorem stO_pointer {cs : Array Value} {e : TypeId} {i : Nat} (a : Option Addr) (h : i < cs.size) : stO (some (.cells cs e (0, 0))) i [.pointer a] = some (.cells (cs.setIfInBounds i (.pointer a)) e (0, 0)) := stO_one h rfl
@[simp] theorem stO_lit_slice {x : Value} {l : List Value} {e : TypeId} {i : Nat} (a : Option Addr) (n c : Nat) : stO (some (.cells ⟨x :: l⟩ e (0, 0))) i [.slice a n c] = (stL (x :: l) i (.slice a n c)).map fun l => .cells ⟨l⟩ e (0, 0) := stO_lit rfl
theorem stO_slice {cs : Array Value} {e : TypeId} {i : Nat} (a : Option Addr) (n c : Nat) (h : i < cs.size) : stO (some (.cells cs e (0, 0))) i [.slice a n c] = some (.cells (cs.setIfInBounds i (.slice a n c)) e (0, 0)) := stO_one h rfl
@[simp] theorem stO_lit_map {x : Value} {l : List Value} {e : TypeId} {i : Nat} (a : Option Nat) : stO (some (.cells ⟨x :: l⟩ e (0, 0))) i [.map a] = (stL (x :: l) i (.map a)).map fun l => .cells ⟨l⟩ e (0, 0) := stO_lit rfl
theorem stO_map {cs : Array Value} {e : TypeId} {i : Nat} (a : Option Nat) (h : i < cs.size) : stO (some (.cells cs e (0, 0))) i [.map a] = some (.cells (cs.setIfInBounds i (.map a)) e (0, 0)) := stO_one h rfl

/-! ### frames: w' is w but for the blocks of F, and new ones -/
structure Ext (F : Nat → Prop) (w w' : World) : Prop where
  size : w.heap.size ≤ w'.heap.size
  same : ∀ b, b < w.heap.size → ¬ F b → w'.heap[b]? = w.heap[b]?
  os : w'.os = w.os
  tape : w'.tape = w.tape
  output : w'.output = w.output
theorem Ext.refl (F : Nat → Prop) (w : World) : Ext F w w := ⟨Nat.le_refl _, fun _ _ _ => rfl, rfl, rfl, rfl⟩
theorem Ext.trans {F G H : Nat → Prop} {w w1 w2 : World} (h : Ext F w w1) (h' : Ext G w1 w2) (hF : ∀ b, b < w.heap.size → F b → H b) (hG : ∀ b, b < w.heap.size → G b → H b) : Ext H w w2 :=
  ⟨Nat.le_trans h.size h'.size, fun b hb hn => by
    rw [h'.same b (Nat.lt_of_lt_of_le hb h.size) fun hg => hn (hG b hb hg), h.same b hb fun hf => hn (hF b hb hf)], h'.os.trans h.os, h'.tape.trans h.tape, h'.output.trans h.output⟩
theorem Ext.mono {F G : Nat → Prop} {w w' : World} (h : Ext F w w') (hF : ∀ b, b < w.heap.size → F b → G b) : Ext G w w' :=
  ⟨h.size, fun b hb hn => h.same b hb fun hf => hn (hF b hb hf), h.os, h.tape, h.output⟩
theorem Ext.dw {F : Nat → Prop} {w w' : World} (h : Ext F w w') : Ext F w (dw w') := ⟨h.size, h.same, h.os, h.tape, h.output⟩
theorem Ext.of_dw {F : Nat → Prop} {w w' : World} (h : Ext F (Eng.dw w) w') : Ext F w w' := ⟨h.size, h.same, h.os, h.tape, h.output⟩
theorem Ext.pu {F : Nat → Prop} {w w' : World} (h : Ext F w w') (o : Obj) : Ext F w (pu w' o) :=
  ⟨by rw [pu_size]; exact Nat.le_succ_of_le h.size, fun b hb hn => by rw [pu_old (Nat.lt_of_lt_of_le hb h.size)]; exact h.same b hb hn, h.os, h.tape, h.output⟩
theorem Ext.sb {F : Nat → Prop} {w w' : World} (h : Ext F w w') {b : Nat} (o : Obj) (hF : b < w.heap.size → F b) : Ext F w (sb w' b o) :=
  ⟨by rw [sb_size]; exact h.size, fun c hc hn => by
    have : c ≠ b := fun e => hn (by rw [e]; exact hF (by rw [← e]; exact hc))
    rw [sb_other this]; exact h.same c hc hn, h.os, h.tape, h.output⟩
theorem Ext.get {F : Nat → Prop} {w w' : World} (h : Ext F w w') {b : Nat} {o : Obj} (hb : w.heap[b]? = some o) (hn : ¬ F b) : w'.heap[b]? = some o := by
  rw [h.same b (lt_of_get hb) hn]; exact hb

/-! ### congruences: not into what comes behind -/
section congr
variable {P : Program} {K : Value → World → Prop} {w w' : World}
@[congr] theorem nc_congr {x y : Value} (h : x = y) (hw : w = w') : nc x w K = nc y w' K := by rw [h, hw]
@[congr] theorem pk_congr {a b c a' b' c' : Value} (h : a = a') (h1 : b = b') (h2 : c = c') (hw : w = w') : pk a b c w K = pk a' b' c' w' K := by rw [h, h1, h2, hw]
@[congr] theorem al_congr {t : TypeId} (hw : w = w') : al P t w K = al P t w' K := by rw [hw]
@[congr] theorem bx_congr {t : TypeId} {a a' : Value} (h : a = a') (hw : w = w') : bx P t a w K = bx P t a' w' K := by rw [h, hw]
@[congr] theorem bd_congr {t : TypeId} {a a' : List (Nat × Value)} (h : a = a') (hw : w = w') : bd P t a w K = bd P t a' w' K := by rw [h, hw]
@[congr] theorem bs_congr {t : TypeId} {n : Nat} {a a' : List (Nat × Value)} (h : a = a') (hw : w = w') : bs P t n a w K = bs P t n a' w' K := by rw [h, hw]
@[congr] theorem ld_congr {t : TypeId} {a a' : Value} (h : a = a') (hw : w = w') : ld P t a w K = ld P t a' w' K := by rw [h, hw]
@[congr] theorem st_congr {t : TypeId} {a a' b b' : Value} (h : a = a') (h1 : b = b') (hw : w = w') : st P t a b w K = st P t a' b' w' K := by rw [h, h1, hw]
@[congr] theorem bin_congr {op : BinOp} {t : TypeId} {a a' b b' : Value} (h : a = a') (h1 : b = b') (hw : w = w') : bin P op t a b w K = bin P op t a' b' w' K := by rw [h, h1, hw]
@[congr] theorem eqx_congr {op : BinOp} {t : TypeId} {x y : Operand} {a a' b b' : Value} (h : a = a') (h1 : b = b') (hw : w = w') : eqx P op t x y a b w K = eqx P op t x y a' b' w' K := by rw [h, h1, hw]
@[congr] theorem un_congr {op : UnOp} {a a' : Value} (h : a = a') (hw : w = w') : un P op a w K = un P op a' w' K := by rw [h, hw]
@[congr] theorem cv_congr {s t : TypeId} {a a' : Value} (h : a = a') (hw : w = w') : cv P s t a w K = cv P s t a' w' K := by rw [h, hw]
@[congr] theorem mif_congr {t : TypeId} {a a' : Value} (h : a = a') (hw : w = w') : mif P t a w K = mif P t a' w' K := by rw [h, hw]
@[congr] theorem mfn_congr {g : Go.Fn} {a a' b b' : List Value} (h : a = a') (h1 : b = b') (hw : w = w') : mfn P g a b w K = mfn P g a' b' w' K := by rw [h, h1, hw]
@[congr] theorem mm_congr {t : TypeId} {a a' : Option Value} (h : a = a') (hw : w = w') : mm P t a w K = mm P t a' w' K := by rw [h, hw]
@[congr] theorem ms_congr {t : TypeId} {a a' b b' : Value} (h : a = a') (h1 : b = b') (hw : w = w') : ms P t a b w K = ms P t a' b' w' K := by rw [h, h1, hw]
@[congr] theorem sl_congr {t : TypeId} {x x' : Value} {a b c a' b' c' : Option Value} (h : x = x') (h0 : a = a') (h1 : b = b') (h2 : c = c') (hw : w = w') : sl P t x a b c w K = sl P t x' a' b' c' w' K := by rw [h, h0, h1, h2, hw]
@[congr] theorem fa_congr {t : TypeId} {a a' : Value} {i : Nat} (h : a = a') (hw : w = w') : fa P t a i w K = fa P t a' i w' K := by rw [h, hw]
@[congr] theorem fd_congr {t : TypeId} {a a' : Value} {i : Nat} (h : a = a') (hw : w = w') : fd P t a i w K = fd P t a' i w' K := by rw [h, hw]
@[congr] theorem ia_congr {t : TypeId} {a a' b b' : Value} (h : a = a') (h1 : b = b') (hw : w = w') : ia P t a b w K = ia P t a' b' w' K := by rw [h, h1, hw]
@[congr] theorem ix_congr {t : TypeId} {a a' b b' : Value} (h : a = a') (h1 : b = b') (hw : w = w') : ix P t a b w K = ix P t a' b' w' K := by rw [h, h1, hw]
@[congr] theorem lk_congr {t : TypeId} {a a' b b' : Value} {ok : Bool} (h : a = a') (h1 : b = b') (hw : w = w') : lk P t a b ok w K = lk P t a' b' ok w' K := by rw [h, h1, hw]
@[congr] theorem mu_congr {t : TypeId} {a b c a' b' c' : Value} (h : a = a') (h1 : b = b') (h2 : c = c') (hw : w = w') : mu P t a b c w K = mu P t a' b' c' w' K := by rw [h, h1, h2, hw]
@[congr] theorem me_congr {t : TypeId} {a b a' b' : Value} (h : a = a') (h1 : b = b') (hw : w = w') : me P t a b w K = me P t a' b' w' K := by rw [h, h1, hw]
@[congr] theorem es_congr {t : TypeId} {a b c a' b' c' : Value} (h : a = a') (h1 : b = b') (h2 : c = c') (hw : w = w') : es P t a b c w K = es P t a' b' c' w' K := by rw [h, h1, h2, hw]
@[congr] theorem rg_congr {t : TypeId} {a a' : Value} (h : a = a') (hw : w = w') : rg P t a w K = rg P t a' w' K := by rw [h, hw]
@[congr] theorem nx_congr {a a' : Value} {s : Bool} {t : TypeId} (h : a = a') (hw : w = w') : nx P a s t w K = nx P a' s t w' K := by rw [h, hw]
@[congr] theorem en_congr {a a' : Value} (h : a = a') (hw : w = w') : en P a w K = en P a' w' K := by rw [h, hw]
@[congr] theorem ex_congr {a a' : Value} {i : Nat} (h : a = a') (hw : w = w') : ex P a i w K = ex P a' i w' K := by rw [h, hw]
@[congr] theorem ta_congr {a a' : Value} {s t : TypeId} {ok : Bool} (h : a = a') (hw : w = w') : ta P a s t ok w K = ta P a' s t ok w' K := by rw [h, hw]
@[congr] theorem cc_congr {g g' : Value} {a a' : List Value} (h : g = g') (h1 : a = a') (hw : w = w') : cc P g a w K = cc P g' a' w' K := by rw [h, h1, hw]
@[congr] theorem app_congr {ts : Array TypeId} {t : TypeId} {a a' : List Value} (h : a = a') (hw : w = w') : app P ts t a w K = app P ts t a' w' K := by rw [h, hw]
@[congr] theorem len_congr {ts : Array TypeId} {t : TypeId} {a a' : List Value} (h : a = a') (hw : w = w') : len P ts t a w K = len P ts t a' w' K := by rw [h, hw]
@[congr] theorem cop_congr {ts : Array TypeId} {t : TypeId} {a a' : List Value} (h : a = a') (hw : w = w') : cop P ts t a w K = cop P ts t a' w' K := by rw [h, hw]
@[congr] theorem del_congr {ts : Array TypeId} {t : TypeId} {a a' : List Value} (h : a = a') (hw : w = w') : del P ts t a w K = del P ts t a' w' K := by rw [h, hw]
@[congr] theorem clr_congr {ts : Array TypeId} {t : TypeId} {a a' : List Value} (h : a = a') (hw : w = w') : clr P ts t a w K = clr P ts t a' w' K := by rw [h, hw]
@[congr] theorem mxb_congr {ts : Array TypeId} {t : TypeId} {a a' : List Value} (h : a = a') (hw : w = w') : mxb P ts t a w K = mxb P ts t a' w' K := by rw [h, hw]
@[congr] theorem mnb_congr {ts : Array TypeId} {t : TypeId} {a a' : List Value} (h : a = a') (hw : w = w') : mnb P ts t a w K = mnb P ts t a' w' K := by rw [h, hw]
@[congr] theorem reb_congr {ts : Array TypeId} {t : TypeId} {a a' : List Value} (h : a = a') (hw : w = w') : reb P ts t a w K = reb P ts t a' w' K := by rw [h, hw]
@[congr] theorem imb_congr {ts : Array TypeId} {t : TypeId} {a a' : List Value} (h : a = a') (hw : w = w') : imb P ts t a w K = imb P ts t a' w' K := by rw [h, hw]
@[congr] theorem cxb_congr {ts : Array TypeId} {t : TypeId} {a a' : List Value} (h : a = a') (hw : w = w') : cxb P ts t a w K = cxb P ts t a' w' K := by rw [h, hw]
@[congr] theorem Cal_congr {f : FuncId} {a a' : Array Value} (h : a = a') (hw : w = w') : Cal P f a w K = Cal P f a' w' K := by rw [h, hw]
@[congr] theorem gd_congr {v v' : Value} {b : Bool} {X : World → (Value → World → Prop) → Prop} (h : v = v') (hw : w = w') : gd v b X w K = gd v' b X w' K := by rw [h, hw]
@[congr] theorem cn_congr {v v' : Value} {A B : Prop} (h : v = v') : cn v A B = cn v' A B := by rw [h]
end congr

/-! ### the equations -/
section eqs
variable {P : Program} {K : Value → World → Prop} {w : World}
@[simp] theorem nc_ptr (a : Addr) : nc (.pointer (some a)) w K = K (.pointer (some a)) w := rfl
@[simp] theorem nc_int (k : IntKind) (n : Int) : nc (.int k n) w K = K (.int k n) w := rfl
@[simp] theorem nc_bool (b : Bool) : nc (.bool b) w K = K (.bool b) w := rfl
@[simp] theorem nc_slice (a : Option Addr) (n c : Nat) : nc (.slice a n c) w K = K (.slice a n c) w := rfl
@[simp] theorem nc_func (g : FuncId) (a b : Array Value) : nc (.func (.func g) a b) w K = K (.func (.func g) a b) w := rfl

@[simp] theorem pk_true (a b : Value) : pk (.bool true) a b w K = K a w := rfl
@[simp] theorem pk_false (a b : Value) : pk (.bool false) a b w K = K b w := rfl
theorem pk_bool (t : Bool) (a b : Value) : pk (.bool t) a b w K = K (if t then a else b) w := by cases t <;> rfl

@[simp] theorem cn_true (A B : Prop) : cn (.bool true) A B = A := by simp [cn]
@[simp] theorem cn_false (A B : Prop) : cn (.bool false) A B = B := by simp [cn]
theorem cn_bool (t : Bool) (A B : Prop) : cn (.bool t) A B = ((t = true → A) ∧ (t = false → B)) := rfl

@[simp] theorem gd_true (X : World → (Value → World → Prop) → Prop) : gd (.bool true) true X w K = X w K := by simp [gd]
@[simp] theorem gd_false (X : World → (Value → World → Prop) → Prop) : gd (.bool false) true X w K = K undef w := by simp [gd]
@[simp] theorem gd_true' (X : World → (Value → World → Prop) → Prop) : gd (.bool true) false X w K = K undef w := by simp [gd]
@[simp] theorem gd_false' (X : World → (Value → World → Prop) → Prop) : gd (.bool false) false X w K = X w K := by simp [gd]
@[simp] theorem gd_undef (b : Bool) (X : World → (Value → World → Prop) → Prop) : gd undef b X w K = K undef w := rfl
@[simp] theorem gd_tuple (b : Bool) (vs : Array Value) (X : World → (Value → World → Prop) → Prop) : gd (.tuple vs) b X w K = K undef w := rfl
theorem gd_bool (t b : Bool) (X : World → (Value → World → Prop) → Prop) : gd (.bool t) b X w K = ((t = b → X w K) ∧ (t = (!b) → K undef w)) := rfl
@[simp] theorem iz_eq (v v' : Value) (w w' : World) : iz v w v' w' = (v' = v ∧ w' = w) := rfl

@[simp] theorem bin_add (t : TypeId) (k : IntKind) (a b : Int) : bin P .add t (.int k a) (.int k b) w K = K (.int k (k.wrap (a + b))) w := by simp [bin]
@[simp] theorem bin_sub (t : TypeId) (k : IntKind) (a b : Int) : bin P .sub t (.int k a) (.int k b) w K = K (.int k (k.wrap (a - b))) w := by simp [bin]
@[simp] theorem bin_mul (t : TypeId) (k : IntKind) (a b : Int) : bin P .mul t (.int k a) (.int k b) w K = K (.int k (k.wrap (a * b))) w := by simp [bin]
@[simp] theorem bin_quo (t : TypeId) (k : IntKind) (a b : Int) : bin P .quo t (.int k a) (.int k b) w K = (b ≠ 0 ∧ K (.int k (k.wrap (a.tdiv b))) w) := by simp [bin]
@[simp] theorem bin_rem (t : TypeId) (k : IntKind) (a b : Int) : bin P .rem t (.int k a) (.int k b) w K = (b ≠ 0 ∧ K (.int k (a.tmod b)) w) := by simp [bin]
@[simp] theorem bin_lss (t : TypeId) (k : IntKind) (a b : Int) : bin P .lss t (.int k a) (.int k b) w K = K (.bool (decide (a < b))) w := by simp [bin]
@[simp] theorem bin_leq (t : TypeId) (k : IntKind) (a b : Int) : bin P .leq t (.int k a) (.int k b) w K = K (.bool (decide (a ≤ b))) w := by simp [bin]
@[simp] theorem bin_gtr (t : TypeId) (k : IntKind) (a b : Int) : bin P .gtr t (.int k a) (.int k b) w K = K (.bool (decide (b < a))) w := by simp [bin]
@[simp] theorem bin_geq (t : TypeId) (k : IntKind) (a b : Int) : bin P .geq t (.int k a) (.int k b) w K = K (.bool (decide (b ≤ a))) w := by simp [bin]
theorem bin_shl (t : TypeId) (k j : IntKind) (a b : Int) : bin P .shl t (.int k a) (.int j b) w K = (0 ≤ b ∧ K (.int k (k.wrap (a * 2 ^ (min b.toNat k.bits)))) w) := rfl
theorem bin_shr (t : TypeId) (k j : IntKind) (a b : Int) : bin P .shr t (.int k a) (.int j b) w K = (0 ≤ b ∧ K (.int k (a.fdiv (2 ^ (min b.toNat k.bits)))) w) := rfl
theorem vS_eq {s : Sem Value} {v : Value} {w' : World} (h : s.run P w = .ok v w') : vS P s w K = K v w' := by unfold vS; rw [h]
theorem bin_and (t : TypeId) (k : IntKind) (a b : Int) : bin P .and t (.int k a) (.int k b) w K = K (.int k (k.wrap ((BitVec.ofInt k.bits a &&& BitVec.ofInt k.bits b).toNat : Int))) w :=
  vS_eq (by simp [binOp, Op.intBits])
theorem bin_or (t : TypeId) (k : IntKind) (a b : Int) : bin P .or t (.int k a) (.int k b) w K = K (.int k (k.wrap ((BitVec.ofInt k.bits a ||| BitVec.ofInt k.bits b).toNat : Int))) w :=
  vS_eq (by simp [binOp, Op.intBits])
theorem bin_xor (t : TypeId) (k : IntKind) (a b : Int) : bin P .xor t (.int k a) (.int k b) w K = K (.int k (k.wrap ((BitVec.ofInt k.bits a ^^^ BitVec.ofInt k.bits b).toNat : Int))) w :=
  vS_eq (by simp [binOp, Op.intBits])

@[simp] theorem un_neg (k : IntKind) (a : Int) : un P .neg (.int k a) w K = K (.int k (k.wrap (0 - a))) w := vS_eq (by simp [Op.unary, Op.intArith])
@[simp] theorem un_not (b : Bool) : un P .not (.bool b) w K = K (.bool !b) w := vS_eq rfl
@[simp] theorem ex_tuple (vs : Array Value) (i : Nat) : ex P (.tuple vs) i w K = onv (cellA vs i) fun v => K v w := by
  unfold ex vS Instr.extract onv cellA
  cases h : vs[i]? with
  | none => simp only [h]; rfl
  | some v => simp only [h]; rfl

@[simp] theorem eqx_int (t : TypeId) (x y : Operand) (k : IntKind) (a b : Int) : eqx P .eql t x y (.int k a) (.int k b) w K = K (.bool (decide (a = b))) w := by
  refine vS_eq ?_
  have : (decide (a = b)) = (a == b) := by cases h : a == b <;> simp_all
  rw [this]
  simp [eqGuard, binOp, Op.intCmp]
@[simp] theorem neqx_int (t : TypeId) (x y : Operand) (k : IntKind) (a b : Int) : eqx P .neq t x y (.int k a) (.int k b) w K = K (.bool (!decide (a = b))) w := by
  refine vS_eq ?_
  have : (decide (a = b)) = (a == b) := by cases h : a == b <;> simp_all
  rw [this]
  show _ = Result.ok (Value.bool (a != b)) w
  simp [eqGuard, binOp, Op.intCmp]
theorem eqx_bool {t : TypeId} (x y : Operand) (a b : Bool) (h : P.underlying t = some .bool) : eqx P .eql t x y (.bool a) (.bool b) w K = K (.bool (a == b)) w := by
  refine vS_eq ?_
  show (do pure (Value.bool (← Op.equal t (.bool a) (.bool b)))).run P w = _
  rw [run_bind']
  unfold Op.equal Op.maxDepth Op.equalIn
  rw [run_bind', run_under h]
  rfl

/-- is t the type of pointers? -/
def isPtr (P : Program) (t : TypeId) : Bool := match P.underlying t with | some (.pointer _) => true | _ => false
theorem isPtr_spec {t : TypeId} (h : isPtr P t = true) : ∃ e, P.underlying t = some (.pointer e) := by
  unfold isPtr at h; split at h
  · exact ⟨_, by assumption⟩
  · cases h
theorem run_equalIn_ptr {t e : TypeId} (he : P.underlying t = some (.pointer e)) (d : Nat) (a : Option Addr) : (Op.equalIn (d + 1) t (.pointer a) (.pointer none)).run P w = .ok a.isNone w := by
  unfold Op.equalIn
  rw [run_bind', run_under he]
  cases a <;> rfl
theorem eqx_ptr_nil {t : TypeId} {x y : Operand} {a : Option Addr} (h : isPtr P t = true) : eqx P .eql t x y (.pointer a) (.pointer none) w K = K (.bool a.isNone) w := by
  obtain ⟨e, he⟩ := isPtr_spec h
  refine vS_eq ?_
  show (do pure (Value.bool (← Op.equal t (.pointer a) (.pointer none)))).run P w = _
  rw [run_bind']
  have := run_equalIn_ptr (w := w) he 9999 a
  unfold Op.equal Op.maxDepth
  rw [this]
  rfl
theorem neqx_ptr_nil {t : TypeId} {x y : Operand} {a : Option Addr} (h : isPtr P t = true) : eqx P .neq t x y (.pointer a) (.pointer none) w K = K (.bool (!a.isNone)) w := by
  obtain ⟨e, he⟩ := isPtr_spec h
  refine vS_eq ?_
  show (do pure (Value.bool (!(← Op.equal t (.pointer a) (.pointer none))))).run P w = _
  rw [run_bind']
  have := run_equalIn_ptr (w := w) he 9999 a
  unfold Op.equal Op.maxDepth
  rw [this]
  rfl
theorem sliceO_some {t e : TypeId} (h : P.underlying t = some (.slice e)) : sliceO P t = some e := by unfold sliceO; rw [h]
theorem run_equalIn_slice {t e : TypeId} (he : P.underlying t = some (.slice e)) (d : Nat) (a : Option Addr) (n c n' c' : Nat) : (Op.equalIn (d + 1) t (.slice a n c) (.slice none n' c')).run P w = .ok a.isNone w := by
  unfold Op.equalIn
  rw [run_bind', run_under he]
  cases a <;> rfl
theorem eqx_slice_nil {t e : TypeId} {x y : Operand} {a : Option Addr} {n c n' c' : Nat} (h : sliceO P t = some e) : eqx P .eql t x y (.slice a n c) (.slice none n' c') w K = K (.bool a.isNone) w := by
  have he := sliceO_spec h
  refine vS_eq ?_
  show (do pure (Value.bool (← Op.equal t (.slice a n c) (.slice none n' c')))).run P w = _
  rw [run_bind']
  have := run_equalIn_slice (w := w) he 9999 a n c n' c'
  unfold Op.equal Op.maxDepth
  rw [this]
  rfl
theorem eqx_str (t : TypeId) (x y : Operand) (a b : ByteArray) : eqx P .eql t x y (.string a) (.string b) w K = K (.bool (a.toList == b.toList)) w := by
  refine vS_eq ?_
  simp [eqGuard, binOp, Op.stringOp]
theorem neqx_str (t : TypeId) (x y : Operand) (a b : ByteArray) : eqx P .neq t x y (.string a) (.string b) w K = K (.bool (!(a.toList == b.toList))) w := by
  refine vS_eq ?_
  simp [eqGuard, binOp, Op.stringOp]

theorem ld_eq (t : TypeId) (b i : Nat) : ld P t (.pointer (some ⟨b, i, none⟩)) w K = onv (ldO P t (w.heap[b]?) i) fun v => K v w := rfl
theorem ldO_one {t : TypeId} (h : one P t = true) (o : Option Obj) (i : Nat) : ldO P t o i = cellO o i := by unfold ldO; rw [h]
theorem ldO_agg {t : TypeId} {n : Nat} {d : TypeDesc} (h : one P t = false) (hu : P.underlying t = some d) (hs : szO P t = some n) (o : Option Obj) (i : Nat) : ldO P t o i = (cellsO o i n).map .agg := by
  unfold ldO; rw [h, hu, hs]; simp only; cases cellsO o i n <;> rfl
theorem st_eq (t : TypeId) (b i : Nat) (x : Value) : st P t (.pointer (some ⟨b, i, none⟩)) x w K = onv (szO P t) fun n => n = x.cells.size ∧ onv (stO (w.heap[b]?) i x.cells.toList) fun o => K undef (sb w b o) := rfl
theorem rl_eq {t : TypeId} {b : Nat} {v : Value} {F : Value → Prop} (h : ldO P t (w.heap[b]?) 0 = some v) (hk : F v) : rl P t (.pointer (some ⟨b, 0, none⟩)) w F := by
  have h1 : ld P t (.pointer (some ⟨b, 0, none⟩)) w (fun x _ => F x) := by rw [ld_eq, h]; exact hk
  exact ld_sound h1
theorem putC_full : ∀ (l pre rest : List Value), rest.length = l.length → putC (pre ++ rest).toArray pre.length l = (pre ++ l).toArray
  | [], pre, rest, h => by
    have : rest = [] := List.eq_nil_of_length_eq_zero h
    simp [this]
  | v :: l, pre, [], h => by simp at h
  | v :: l, pre, r :: rest, h => by
    rw [putC_cons]
    have e : (pre ++ r :: rest).toArray.setIfInBounds pre.length v = ((pre ++ [v]) ++ rest).toArray := by simp
    have := putC_full l (pre ++ [v]) rest (by simpa using h)
    rw [e]
    have e2 : (pre ++ [v]).length = pre.length + 1 := by simp
    rw [e2] at this
    rw [this]; simp
theorem st_whole {t e : TypeId} {b : Nat} {n : Nat} {cs vs : Array Value} (h : w.heap[b]? = some (.cells cs e (0, 0))) (hs : szO P t = some n) (hn : n = vs.size) (hc : cs.size = n) (hv : vs.toList.all oneV = true) (hk : K undef (sb w b (.cells vs e (0, 0)))) : st P t (.pointer (some ⟨b, 0, none⟩)) (.agg vs) w K := by
  subst hn
  rw [st_eq, hs, onv_some]
  refine ⟨rfl, ?_⟩
  have e1 : Value.cells (.agg vs) = vs := rfl
  rw [e1, h, stO_some (by simp [hc]) hv, onv_some]
  have := putC_full vs.toList [] cs.toList (by simpa using hc)
  simp at this
  rw [this]; exact hk
theorem ld_whole {t e : TypeId} {cs : Array Value} {fz : Nat × Nat} (h : ∀ o i, ldO P t o i = (cellsO o i cs.size).map .agg) : ldO P t (some (.cells cs e fz)) 0 = some (.agg cs) := by
  rw [h, cellsO_some (by omega)]; simp
theorem fa_eq (s : TypeId) (b o i : Nat) : fa P s (.pointer (some ⟨b, o, none⟩)) i w K = onv (fieldO P s i) fun f => f.2.1 ≠ 0 ∧ K (.pointer (some ⟨b, o + f.1, none⟩)) w := rfl
theorem ia_slice (t : TypeId) (b o n c : Nat) (k : IntKind) (i : Int) : ia P t (.slice (some ⟨b, o, none⟩) n c) (.int k i) w K = onv (sliceO P t) fun e => onv (szO P e) fun sz => (0 ≤ i ∧ i < (n : Int)) ∧ K (.pointer (some ⟨b, o + i.toNat * sz, none⟩)) w := rfl
theorem ia_arr (t : TypeId) (b o : Nat) (k : IntKind) (i : Int) : ia P t (.pointer (some ⟨b, o, none⟩)) (.int k i) w K = onv (arrO P t) fun e => onv (szO P e.2) fun sz => (0 ≤ i ∧ i < (e.1 : Int)) ∧ K (.pointer (some ⟨b, o + i.toNat * sz, none⟩)) w := rfl
theorem bs_eq (t : TypeId) (n : Nat) (l : List (Nat × Value)) : bs P t n l w K = onv (bsO P t n l) fun c => K (.slice (some ⟨w.heap.size, 0, none⟩) n n) (pu w (.cells c.2 c.1 (0, 0))) := rfl
theorem bd_eq (t : TypeId) (l : List (Nat × Value)) : bd P t l w K = onv (bdO P t l) fun cs => K (.agg cs) w := rfl
/-- appending to an empty slice without room -/
theorem app_new {t t2 ty e : TypeId} {sz by_ m : Nat} {z : Value} {a : Option Addr} {x : Value} {new : Array Value} (h2 : notI P t2 = true) (he : sliceO P t = some e) (hs : szO P e = some sz) (hb : byO P e = some by_) (hz : zeroO P e = some z)
    (hm : lenV x = some m) (hn : srcO w sz m x = some new) (hpos : 0 < m) (hby : by_ ≠ 0) (hfit : m * by_ ≤ 281474976710656) (hold : srcO w sz 0 (.slice a 0 0) = some #[])
    (hk : ∀ cap, m ≤ cap → K (.slice (some ⟨w.heap.size, 0, none⟩) m cap) (pu (dw w) (.cells (new ++ Builtin.zeroCells z.cells (cap - m)) e (0, 0)))) : app P #[t, t2] ty [.slice a 0 0, x] w K := by
  unfold app
  have e1 : (#[t, t2] : Array TypeId)[0]? = some t := rfl
  have e2 : (#[t, t2] : Array TypeId)[1]? = some t2 := rfl
  rw [e1, e2]
  simp only [h2, he, hs, hb, hz, hm, hn, onv_some, Nat.zero_add, true_and]
  refine ⟨fun h => by omega, fun _ => ⟨hby, ?_, ?_⟩⟩
  · have : Builtin.nextslicecap m 0 = m := by unfold Builtin.nextslicecap; simp; omega
    rw [this]; exact hfit
  · rw [hold, onv_some]
    intro cap hc
    have := hk cap hc
    simpa using this
theorem len_slice {t e : TypeId} {ty : TypeId} {a : Option Addr} {n c : Nat} (h : sliceO P t = some e) : len P #[t] ty [.slice a n c] w K = K (.int .i64 n) w := by
  unfold len; simp [sliceO_spec h, onv]
theorem cv_int {s d : TypeId} {k j k0 : IntKind} {n : Int} (hs : P.underlying s = some (.int k0)) (hd : P.underlying d = some (.int j)) : cv P s d (.int k n) w K = K (.int j (j.wrap n)) w := by
  unfold cv; rw [hs, hd]
theorem al_eq {t : TypeId} {z : Value} (h : zeroO P t = some z) : al P t w K = K (.pointer (some ⟨w.heap.size, 0, none⟩)) (pu w (.cells z.cells t (0, 0))) := by unfold al; rw [h]; rfl
@[simp] theorem bx_eq (t : TypeId) (x : Value) : bx P t x w K = K (.pointer (some ⟨w.heap.size, 0, none⟩)) (pu w (.cells x.cells t (0, 0))) := rfl
@[simp] theorem mxb_int (ts : Array TypeId) (t : TypeId) (k j : IntKind) (a b : Int) : mxb P ts t [.int k a, .int j b] w K = K (.int k (max a b)) w := by
  have : max a b = if b > a then b else a := by omega
  rw [this]
  exact vS_eq (by simp [Builtin.max_, Builtin.max2])
@[simp] theorem mnb_int (ts : Array TypeId) (t : TypeId) (k j : IntKind) (a b : Int) : mnb P ts t [.int k a, .int j b] w K = K (.int k (min a b)) w := by
  have : min a b = if b < a then b else a := by omega
  rw [this]
  exact vS_eq (by simp [Builtin.min_, Builtin.min2])
@[simp] theorem mm_none (t : TypeId) : mm P t none w K = K (.map (some w.heap.size)) (pu w (.map #[] 0)) := vS_eq rfl
end eqs

/-! integers that fit -/
theorem wrap_id {n : Int} (h0 : -9223372036854775808 ≤ n) (h1 : n ≤ 9223372036854775807) : IntKind.i64.wrap n = n := by
  unfold IntKind.wrap
  simp only [IntKind.bits, IntKind.signed, Bool.true_and]
  split
  · rename_i h; simp at h; omega
  · rename_i h; simp at h; omega
theorem wrap_u64 {n : Int} (h0 : 0 ≤ n) (h1 : n < 18446744073709551616) : IntKind.u64.wrap n = n := by
  unfold IntKind.wrap
  simp only [IntKind.bits, IntKind.signed, Bool.false_and, Bool.false_eq_true, if_false]
  omega

end Go.Eng
