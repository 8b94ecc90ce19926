/-
  Slices of bytes: made, copied, cut, read as strings.
-/
import Derived.Test.YtiffjkgbjklgnaaDoorSL
import Derived.Laws.BytesString
namespace Go.Proofs.YtiffjkgbjklgnaaDoor
open Go Go.Eng Go.Lib
set_option maxRecDepth 20000

def ub (b : UInt8) : Value := .int .u8 b.toNat
def bytesA (bs : List UInt8) (rest : List Value) : Array Value := (bs.map ub ++ rest).toArray
def bytesO (bs : List UInt8) (rest : List Value) : Obj := .cells (bytesA bs rest) T_uint8 (0, 0)
def bstr (bs : List UInt8) : ByteArray := ⟨bs.toArray⟩
def splice (bs : List UInt8) (o : Nat) (l : List UInt8) : List UInt8 := bs.take o ++ l ++ bs.drop (o + l.length)
theorem splice_len {bs l : List UInt8} {o : Nat} (h : o + l.length ≤ bs.length) : (splice bs o l).length = bs.length := by
  simp [splice]; omega
theorem bytesA_extract {bs : List UInt8} {rest : List Value} {o n : Nat} (h : o + n ≤ bs.length) : (bytesA bs rest).extract o (o + n) = (((bs.drop o).take n).map ub).toArray := by
  apply Array.ext'
  simp [bytesA, List.drop_append, List.take_append]
  have e : n - (bs.length - o) = 0 := by omega
  rw [e]
  have e2 : o - bs.length = 0 := by omega
  simp
theorem bytesA_size {bs : List UInt8} {rest : List Value} : (bytesA bs rest).size = bs.length + rest.length := by simp [bytesA]
theorem putC_mid : ∀ (l pre mid post : List Value), mid.length = l.length → putC (pre ++ mid ++ post).toArray pre.length l = (pre ++ l ++ post).toArray
  | [], pre, mid, post, h => by
    have : mid = [] := List.eq_nil_of_length_eq_zero h
    simp [this]
  | v :: l, pre, [], post, h => by simp at h
  | v :: l, pre, r :: mid, post, h => by
    rw [putC_cons]
    have e : (pre ++ r :: mid ++ post).toArray.setIfInBounds pre.length v = ((pre ++ [v]) ++ mid ++ post).toArray := by simp
    have := putC_mid l (pre ++ [v]) mid post (by simpa using h)
    rw [e]
    have e2 : (pre ++ [v]).length = pre.length + 1 := by simp
    rw [e2] at this
    rw [this]; simp
theorem putC_bytes {bs l : List UInt8} {rest : List Value} {o : Nat} (h : o + l.length ≤ bs.length) : putC (bytesA bs rest) o (l.map ub) = bytesA (splice bs o l) rest := by
  have e : bytesA bs rest = ((bs.take o).map ub ++ (((bs.drop o).take l.length).map ub) ++ ((bs.drop (o + l.length)).map ub ++ rest)).toArray := by
    unfold bytesA
    apply Array.ext'
    have : bs = bs.take o ++ ((bs.drop o).take l.length ++ bs.drop (o + l.length)) := by
      rw [← List.drop_drop, List.take_append_drop, List.take_append_drop]
    conv => lhs; rw [this]
    simp
  have el : ((bs.take o).map ub).length = o := by simp; omega
  have := putC_mid (l.map ub) ((bs.take o).map ub) (((bs.drop o).take l.length).map ub) ((bs.drop (o + l.length)).map ub ++ rest) (by simp; omega)
  rw [el, ← e] at this
  rw [this]
  unfold bytesA splice
  simp
section
variable {T : Bs} {w : World} {K : Value → World → Prop} {R : HP} {b : Nat} {bs : List UInt8} {rest : List Value}
theorem fold_bytes : ∀ (l : List UInt8) (s : ByteArray), (l.map fun b => ((b.toNat : Nat) : Int)).foldl (fun r n => r.push (UInt8.ofNat n.toNat)) s = ⟨s.data ++ l.toArray⟩
  | [], s => by simp
  | x :: l, s => by
    rw [List.map_cons, List.foldl_cons, fold_bytes l]
    have : UInt8.ofNat ((x.toNat : Int)).toNat = x := by simp
    rw [this]
    congr 1
    rw [ByteArray.data_push]
    apply Array.ext'; simp
theorem cv_bytes {o n c : Nat} (h : w.heap[b]? = some (bytesO bs rest)) (hn : o + n ≤ bs.length) : cv P T_sl_uint8 T_string (.slice (some ⟨b, o, none⟩) n c) w K = K (.string (bstr ((bs.drop o).take n))) w := by
  show vS P (convert T_sl_uint8 T_string (.slice (some ⟨b, o, none⟩) n c)) w K = _
  refine vS_eq ?_
  rw [run_convert_bytes_string (e := T_uint8) w _ _ _ _ _ (by kernel_rfl) (by kernel_rfl) (by kernel_rfl)]
  rw [run_bytesToString w ⟨b, o, none⟩ n c (((bs.drop o).take n).map fun b => ((b.toNat : Nat) : Int))]
  · rw [fold_bytes]; congr 3; apply Array.ext'; simp [bstr]
  · show (loadCellsFrom _ 0 n #[]).run P w = _
    rw [loadCells_run h o n 0 #[] (by rw [bytesA_size]; omega)]
    have e := bytesA_extract (rest := rest) hn
    simp only [Nat.add_zero, Array.empty_append]
    rw [e]
    congr 2
    rw [List.map_map]; rfl
theorem cv_bytes_nil {n c : Nat} : cv P T_sl_uint8 T_string (.slice none n c) w K = K (.string (bstr [])) w := by
  show vS P (convert T_sl_uint8 T_string (.slice none n c)) w K = _
  refine vS_eq ?_
  rw [run_convert_bytes_string (e := T_uint8) w _ _ _ _ _ (by kernel_rfl) (by kernel_rfl) (by kernel_rfl)]
  rfl
theorem repC_bytes (n : Nat) : repC #[Value.int .u8 0] n = bytesA (List.replicate n 0) [] := by
  unfold repC bytesA
  apply Array.ext'
  apply List.ext_getElem?
  intro i
  by_cases h : i < n
  · simp [h, ub, Nat.mod_one]
  · simp [h]
theorem ms_bytes {n : Nat} (h1 : n ≤ 8192) (h : Sat T w R) (hk : ∀ b w', Sat T w' (own b (bytesO (List.replicate n 0) []) • R) → K (.slice (some ⟨b, 0, none⟩) n n) w') : ms P T_sl_uint8 (.int .i64 n) (.int .i64 n) w K := by
  unfold ms
  have e1 : sliceO P T_sl_uint8 = some T_uint8 := by kernel_rfl
  have e2 : szO P T_uint8 = some 1 := by kernel_rfl
  have e3 : byO P T_uint8 = some 1 := by kernel_rfl
  have e4 : zeroO P T_uint8 = some (.int .u8 0) := by kernel_rfl
  simp only [e1, e2, e3, e4, onv_some]
  refine ⟨by omega, ?_⟩
  have h2 := h.push (bytesO (List.replicate n 0) [])
  have := hk _ _ h2
  simp only [Int.toNat_natCast, Nat.mul_one, cells_int]
  rw [repC_bytes]
  exact this
/-- a copy into block b from place o on, of bytes l -/
theorem stAll_bytes {k : Nat} {l : List UInt8} {F : World → Prop} (hl : k + l.length ≤ bs.length) (h : Sat T w (own b (bytesO bs rest) • R)) (hk : ∀ w', Sat T w' (own b (bytesO (splice bs k l) rest) • R) → F w') :
    stAll w (some ⟨b, k, none⟩) 0 (l.map ub).toArray F := by
  unfold stAll
  simp only
  rw [h.get]
  have e : stO (some (bytesO bs rest)) (k + 0) (l.map ub).toArray.toList = some (bytesO (splice bs k l) rest) := by
    unfold bytesO
    rw [stO_some (by rw [bytesA_size]; simp at hl ⊢; omega) (by simp [ub])]
    rw [← putC_bytes hl]; rfl
  rw [e, onv_some]
  exact hk _ (h.set _)
theorem sl_e : sliceO P T_sl_uint8 = some T_uint8 := by kernel_rfl
theorem sz_e : szO P T_uint8 = some 1 := by kernel_rfl
/-- copying from a slice of another block -/
theorem cop_slice {t2 ty : TypeId} {x o n c n2 c2 : Nat} {xs : List UInt8} {r2 : List Value} (hx : n2 ≤ xs.length) (ho : o + n ≤ bs.length) (h : Sat T w (own b (bytesO bs rest) • own x (bytesO xs r2) • R))
    (hk : ∀ w', Sat T w' (own b (bytesO (splice bs o (xs.take (min n2 n))) rest) • own x (bytesO xs r2) • R) → K (.int .i64 (min n2 n : Nat)) w') :
    cop P #[T_sl_uint8, t2] ty [.slice (some ⟨b, o, none⟩) n c, .slice (some ⟨x, 0, none⟩) n2 c2] w K := by
  have hxg := (h.to (star_left ..)).get
  unfold cop
  have e1 : (#[T_sl_uint8, t2] : Array TypeId)[0]? = some T_sl_uint8 := rfl
  rw [e1]
  simp only [sl_e, sz_e, onv_some, lenV]
  have e2 : srcO w 1 (min n2 n) (.slice (some ⟨x, 0, none⟩) n2 c2) = some ((xs.take (min n2 n)).map ub).toArray := by
    show cellsO (w.heap[x]?) 0 (min n2 n * 1) = _
    rw [hxg]
    unfold bytesO
    rw [cellsO_some (by rw [bytesA_size]; omega)]
    have := bytesA_extract (bs := xs) (rest := r2) (o := 0) (n := min n2 n) (by omega)
    simpa using this
  rw [e2, onv_some]
  exact stAll_bytes (by simp; omega) h (fun w' h' => hk w' h')
/-- copying from a nil slice -/
theorem cop_nil {t2 ty : TypeId} {o n c n2 c2 : Nat} (hn : n2 = 0) (h : Sat T w (own b (bytesO bs rest) • R)) (ho : o ≤ bs.length)
    (hk : ∀ w', Sat T w' (own b (bytesO bs rest) • R) → K (.int .i64 0) w') :
    cop P #[T_sl_uint8, t2] ty [.slice (some ⟨b, o, none⟩) n c, .slice none n2 c2] w K := by
  subst hn
  unfold cop
  have e1 : (#[T_sl_uint8, t2] : Array TypeId)[0]? = some T_sl_uint8 := rfl
  rw [e1]
  simp only [sl_e, sz_e, onv_some, lenV]
  have e2 : srcO w 1 (min 0 n) (.slice none 0 c2) = some (([] : List UInt8).map ub).toArray := rfl
  rw [e2, onv_some]
  refine stAll_bytes (l := []) (by simpa using ho) h (fun w' h' => ?_)
  have e3 : splice bs o [] = bs := by simp [splice]
  rw [e3] at h'
  have := hk w' h'
  simpa using this
theorem cop_str {t2 ty : TypeId} {o n c : Nat} {s : ByteArray} (hs : s.size = n) (ho : o + n ≤ bs.length) (h : Sat T w (own b (bytesO bs rest) • R))
    (hk : ∀ v w', Sat T w' (own b (bytesO (splice bs o s.data.toList) rest) • R) → K v w') :
    cop P #[T_sl_uint8, t2] ty [.slice (some ⟨b, o, none⟩) n c, .string s] w K := by
  unfold cop
  have e1 : (#[T_sl_uint8, t2] : Array TypeId)[0]? = some T_sl_uint8 := rfl
  rw [e1]
  simp only [sl_e, sz_e, onv_some, lenV]
  have hs2 : s.data.size = n := hs
  have e2 : srcO w 1 (min s.size n) (.string s) = some (s.data.toList.map ub).toArray := by
    show some (byteCells (s.extract 0 (min s.size n))) = _
    have : s.extract 0 (min s.size n) = s := by
      rw [hs, Nat.min_self]
      apply ByteArray.ext
      rw [ByteArray.data_extract]
      simp [← hs2]
    rw [this]
    unfold byteCells
    congr 1
    apply Array.ext'; simp
    exact fun _ _ => rfl
  rw [e2, onv_some]
  exact stAll_bytes (by simp; omega) h (fun w' h' => hk _ w' h')
/-- copying into a nil slice -/
theorem cop_to_nil {t2 ty : TypeId} {n c : Nat} {s : ByteArray} (hn : n = 0) (hk : ∀ v, K v w) : cop P #[T_sl_uint8, t2] ty [.slice none n c, .string s] w K := by
  subst hn
  unfold cop
  have e1 : (#[T_sl_uint8, t2] : Array TypeId)[0]? = some T_sl_uint8 := rfl
  rw [e1]
  simp only [sl_e, sz_e, onv_some, lenV, srcO, stAll]
  exact hk _
theorem sl_bytes {a : Option Addr} {n c lo hi : Nat} (h1 : lo ≤ hi) (h2 : hi ≤ c) : sl P T_sl_uint8 (.slice a n c) (some (.int .i64 lo)) (some (.int .i64 hi)) none w K = K (.slice (if c = lo then a else a.map (·.add (lo * 1))) (hi - lo) (c - lo)) w := by
  unfold sl
  simp only [sl_e, sz_e, onv_some, slcut]
  have : (0 ≤ (lo : Int) ∧ (lo : Int) ≤ hi) ∧ (hi : Int) ≤ c := by omega
  simp [this]
theorem Clone_bytes {c : Nat} (hl : bs ≠ []) (h3 : bs.length ≤ 8192) (h : Sat T w (own b (bytesO bs rest) • R)) {Q : Value → World → Prop}
    (hk : ∀ b' c' rest' w', Sat T w' (own b' (bytesO bs rest') • own b (bytesO bs rest) • R) → bs.length ≤ c' → Q (.slice (some ⟨b', 0, none⟩) bs.length c') w') :
    Cal P N_slices_Clone_byte_byte #[.slice (some ⟨b, 0, none⟩) bs.length c] w Q := by
  apply slices_Clone_byte_byte_k0
  unfold slices_Clone_byte_byte_b0
  rw [eqx_slice_nil (e := T_uint8) (by kernel_rfl)]
  have hb := h.get
  have e1 : bsO P T_sl_uint8 0 [] = some (T_uint8, #[]) := by kernel_rfl
  simp only [Option.isNone_some, cn_false]
  rw [show (61 : TypeId) = T_sl_uint8 from rfl, bs_eq, e1, onv_some]
  have h1 := h.push (.cells #[] T_uint8 (0, 0))
  have h2 := h1.drop
  have hb2 := h2.get
  generalize pu w (.cells #[] T_uint8 (0, 0)) = w1 at *
  have hpos : 0 < bs.length := by cases bs with | nil => exact absurd rfl hl | cons _ _ => simp
  have hex := bytesA_extract (bs := bs) (rest := rest) (o := 0) (n := bs.length) (by omega)
  have hb1 := h1.get
  refine app_new (e := T_uint8) (sz := 1) (by_ := 1) (m := bs.length) (z := .int .u8 0) (new := (bs.map ub).toArray) (by kernel_rfl) (by kernel_rfl) (by kernel_rfl) (by kernel_rfl) (by kernel_rfl) rfl ?_ hpos (by omega) (by omega) ?_ ?_
  · show cellsO (w1.heap[b]?) 0 (bs.length * 1) = _
    rw [hb2, bytesO, cellsO_some (by rw [bytesA_size]; omega)]
    simp at hex
    simpa using hex
  · show cellsO (w1.heap[w.heap.size]?) 0 (0 * 1) = _
    rw [hb1, cellsO_some (by simp)]
    simp
  · intro cap hc
    have h3 := (h2.dw.push (.cells ((bs.map ub).toArray ++ Builtin.zeroCells (Value.cells (.int .u8 0)) (cap - bs.length)) T_uint8 (0, 0)))
    have e5 : ((bs.map ub).toArray ++ Builtin.zeroCells (Value.cells (.int .u8 0)) (cap - bs.length)) = bytesA bs (Builtin.zeroCells (Value.cells (.int .u8 0)) (cap - bs.length)).toList := by
      unfold bytesA; apply Array.ext'; simp
    rw [e5] at h3 ⊢
    exact hk _ _ _ _ h3 hc
end
end Go.Proofs.YtiffjkgbjklgnaaDoor
