/-
  The model's parts: span, realloc.
-/
import Derived.Test.YtiffjkgbjklgnaaDoorSQ
namespace Go.Proofs.YtiffjkgbjklgnaaDoor
open Go Go.Eng Go.Lib
set_option maxRecDepth 20000

def obAt (l : List (Int × Ob)) (k : Int) : Ob := (aget l k).getD ⟨[], 0⟩
def Pt.spanE (pt : Pt) (h : Nat) (r i n : Int) : Int :=
  if (pt.caps.findR h r).2 = 0 then (if min i n < 0 ∨ ((obAt pt.objs (pt.caps.findR h r).1).b.length : Int) < i ∨ ((obAt pt.objs (pt.caps.findR h r).1).b.length : Int) - i < n then 4 else 0) else (pt.caps.findR h r).2
def fitB (old : List UInt8) (n : Nat) : List UInt8 := splice (List.replicate n 0) 0 (old.take (min old.length n))
theorem fitB_len (old : List UInt8) (n : Nat) : (fitB old n).length = n := by
  unfold fitB; rw [splice_len (by simp; omega)]; simp
/-- a new object has the old one's bytes -/
def Pt.moved (pt : Pt) (to : Int) (n : Int) (old : List UInt8) : Pt := { pt with objs := aput pt.objs to ⟨fitB old n.toNat, chargeS n⟩ }
def Pt.realloc (pt : Pt) (h : Nat) (n : Int) : (Nat × Int) × Pt :=
  if (pt.caps.findR h 4).2 = 0 then
    if 0 ≤ ofS n ∧ chargeS n ≤ (obAt pt.objs (pt.caps.findR h 4).1).c then
      ((h, 0), { pt with objs := aput pt.objs (pt.caps.findR h 4).1 ⟨fitB (obAt pt.objs (pt.caps.findR h 4).1).b n.toNat, (obAt pt.objs (pt.caps.findR h 4).1).c⟩ })
    else if (pt.make n).1.2 = 0 then ((pt.make n).1, ((pt.make n).2.moved pt.made n (obAt pt.objs (pt.caps.findR h 4).1).b).drop (pt.caps.findR h 4).1)
    else ((0, (pt.make n).1.2), (pt.make n).2)
  else ((0, (pt.caps.findR h 4).2), pt)

def opS : Option Om → Value
  | some x => .slice (some ⟨x.blk, 0, none⟩) x.b.length x.cap
  | none => .slice none 0 0
def opN : Option Om → Nat
  | some x => x.b.length
  | none => 0
def opI : Option Om → Int
  | some x => x.c
  | none => 0
section pure
variable {α : Type}
theorem aget_aput_same (n : Int) (x : α) : ∀ l : List (Int × α), aget (aput l n x) n = some x
  | [] => by simp [aput, aget]
  | (k, y) :: r => by
    unfold aput
    split
    · simp [aget]
    · rename_i h; simp [aget, h, aget_aput_same n x r]
theorem aget_aput_other {n j : Int} (h : j ≠ n) (x : α) : ∀ l : List (Int × α), aget (aput l n x) j = aget l j
  | [] => by simp [aput, aget, h]
  | (k, y) :: r => by
    unfold aput
    split
    · rename_i e; subst e; simp [aget, h]
    · simp only [aget]; split
      · rfl
      · exact aget_aput_other h x r
theorem aput_aput (n : Int) (x y : α) : ∀ l : List (Int × α), aput (aput l n x) n y = aput l n y
  | [] => by simp [aput]
  | (k, z) :: r => by
    by_cases e : n = k
    · simp [aput, e]
    · simp [aput, e, aput_aput n x y r]
end pure
section
variable {T : Bs} {w : World} {Q : Value → World → Prop} {R : HP} {m p : Nat} {pt : Pt} {L : List (Int × Om)}
theorem Sat.stsDel {F : Om → HP} (k : Int) (h : Sat T w (sts F L • R)) : Sat T w (sts F (adel L k) • R) := by
  cases e : aget L k with
  | none => rw [adel_none e]; exact h
  | some x => rw [sts_get F e] at h; exact (h.to (star_assoc ..)).drop
theorem Sat.stsPut {F : Om → HP} (k : Int) (x : Om) (h : Sat T w (F x • sts F L • R)) : Sat T w (sts F (aput L k x) • R) := by
  rw [sts_put]
  have h1 := Sat.stsDel (R := F x • R) k (h.to (star_left ..))
  exact h1.to (by ac_rfl)
theorem lk_obj {K : Value → World → Prop} (h : Sat T w (MapH m (amap omV L) • R)) (k : Int) : lk P T_map_int_model_object (.map (some m)) (.int .i64 k) false w K = K (.agg #[opS (aget L k), .int .i64 (opI (aget L k))]) w := by
  obtain ⟨es, c, -, hmi, -⟩ := MapH.look h
  rw [lk_false (e := T_model_object) (z := .agg #[.slice none 0 0, .int .i64 0]) (by kernel_rfl) (by kernel_rfl) hmi, getI_amap]
  cases aget L k with
  | none => rfl
  | some x => rfl
theorem obAt_L (e : amp Om.ob L = pt.objs) (k : Int) : (obAt pt.objs k).b.length = opN (aget L k) ∧ (obAt pt.objs k).c = opI (aget L k) := by
  unfold obAt
  rw [← e, aget_amp]
  cases aget L k with
  | none => exact ⟨rfl, rfl⟩
  | some x => exact ⟨rfl, rfl⟩
theorem fd_obj0 {K : Value → World → Prop} (a : Option Addr) (n c : Nat) (x : Int) : fd P T_model_object (.agg #[.slice a n c, .int .i64 x]) 0 w K = K (.slice a n c) w := by kernel_rfl
theorem fd_obj1 {K : Value → World → Prop} (a : Option Addr) (n c : Nat) (x : Int) : fd P T_model_object (.agg #[.slice a n c, .int .i64 x]) 1 w K = K (.int .i64 x) w := by kernel_rfl
theorem fd_op {K : Value → World → Prop} (f : Option Om) (x : Int) : fd P T_model_object (.agg #[opS f, .int .i64 x]) 0 w K = K (opS f) w := by
  cases f with
  | none => exact fd_obj0 ..
  | some y => exact fd_obj0 ..
def spanV (f : Option Om) (i n : Int) : Value := match f with
  | some x => .slice (some ⟨x.blk, if x.cap = i.toNat then 0 else i.toNat, none⟩) n.toNat (x.cap - i.toNat)
  | none => .slice none 0 0
theorem len_op {K : Value → World → Prop} {ty : TypeId} (f : Option Om) : len P #[T_sl_uint8] ty [opS f] w K = K (.int .i64 (opN f)) w := by
  cases f with
  | none => exact len_slice (e := T_uint8) (by kernel_rfl)
  | some x => exact len_slice (e := T_uint8) (by kernel_rfl)

theorem part_span_spec {h : Nat} {r i n : Int} (hh : h < 18446744073709551616) (hok : pt.ok) (e : amp Om.ob L = pt.objs) (hcap : ∀ q ∈ L, q.2.b.length ≤ q.2.cap) (hs : Sat T w (PtL p pt L • R))
    (hk0 : pt.spanE h r i n ≠ 0 → ∀ w', Sat T w' (PtL p pt L • R) → Q (.tuple #[.slice none 0 0, .int .i64 (pt.spanE h r i n)]) w')
    (hk1 : pt.spanE h r i n = 0 → ∀ w', Sat T w' (PtL p pt L • R) → Q (.tuple #[spanV (aget L (pt.caps.findR h r).1) i n, .int .i64 0]) w') :
    Cal P N_model_part_span #[ptr p, .int .u64 h, .int .i64 r, .int .i64 i, .int .i64 n] w Q := by
  apply model_part_span_k0
  unfold model_part_span_b0
  obtain ⟨g, m, hq⟩ := PtL.open hs
  have hg := hq.get
  simp [hg, ld_eq, ptC]
  refine caps_Find_spec hh (hq.to (star_left ..)) fun w1 h1 => ?_
  have h1 := h1.to (star_left ..)
  have hg1 := h1.get
  unfold Pt.spanE at hk0 hk1
  generalize hf : pt.caps.findR h r = f at *
  have fin : Sat T w1 (PtL p pt L • R) := PtL.close h1
  by_cases hf0 : f.2 = 0
  · obtain ⟨el, -⟩ := obAt_L e f.1
    have hln : opN (aget L f.1) ≤ 8192 := by
      cases hx : aget L f.1 with
      | none => simp [opN]
      | some x =>
        have : aget pt.objs f.1 = some (Om.ob x) := by rw [← e, aget_amp, hx]; rfl
        exact (aget_ok hok.obs this).2.1
    simp only [hf0, if_true, el] at hk0 hk1
    have hlk := fun K => lk_obj (K := K) (h1.to (show _ = MapH m (amap omV L) • own p (ptC pt g m) • CpH g pt.caps • R by ac_rfl)) f.1
    have hfd := fun K => fd_op (w := w1) (K := K) (aget L f.1) (opI (aget L f.1))
    have hle := fun K => len_op (w := w1) (K := K) (ty := 3) (aget L f.1)
    simp only [T_map_int_model_object, T_model_object, T_sl_uint8] at hlk hfd hle
    simp only [ex_tuple, cellA_zero, cellA_succ, onv_some, hf0]
    simp [hg1, ptC]
    rw [hlk, hfd]
    generalize hX : aget L f.1 = X at *
    by_cases a1 : min i n < 0
    · simp only [a1, true_or, if_true] at hk0
      simp [a1]
      exact hk0 (by simp) w1 fin
    · by_cases a2 : (opN X : Int) < i
      · simp only [a2, true_or, or_true, if_true] at hk0
        simp [a1, hle, a2]
        exact hk0 (by simp) w1 fin
      · have wr : IntKind.i64.wrap ((opN X : Int) - i) = (opN X : Int) - i := wrap_id (by omega) (by omega)
        by_cases a3 : (opN X : Int) - i < n
        · simp only [a3, or_true, if_true] at hk0
          simp [a1, hle, a2, wr, a3]
          exact hk0 (by simp) w1 fin
        · simp only [a1, a2, a3, or_self, if_false] at hk1
          have wr2 : IntKind.i64.wrap (i + n) = i + n := wrap_id (by omega) (by omega)
          simp only [mnb_int, bin_lss, a1, decide_false, gd_false', pk_false, hle, bin_gtr, a2, bin_sub, wr, a3, cn_false, bin_add, wr2]
          have := hk1 trivial w1 fin
          obtain ⟨i', rfl⟩ := Int.eq_ofNat_of_zero_le (show 0 ≤ i by omega)
          obtain ⟨n', rfl⟩ := Int.eq_ofNat_of_zero_le (show 0 ≤ n by omega)
          have hin : (i' : Int) + (n' : Int) = ((i' + n' : Nat) : Int) := by omega
          rw [hin]
          have hsl := fun a b c K hh1 hh2 => sl_bytes (w := w1) (K := K) (a := a) (n := b) (c := c) (lo := i') (hi := i' + n') hh1 hh2
          simp only [T_sl_uint8] at hsl
          cases X with
          | none =>
            simp only [opN] at *
            have hi0 : i' = 0 := by omega
            have hn0 : n' = 0 := by omega
            subst hi0 hn0
            simp only [opS]
            rw [hsl _ _ _ _ (by omega) (by omega)]
            simpa [spanV] using this
          | some x =>
            simp only [opN] at *
            have hc := hcap _ (aget_mem hX)
            simp only at hc
            simp only [opS]
            rw [hsl _ _ _ _ (by omega) (by omega)]
            have e1 : i' + n' - i' = n' := by omega
            simp only [spanV, Int.toNat_natCast] at this
            rw [e1]
            by_cases hci : x.cap = i'
            · simp only [hci, if_true] at this ⊢; exact this
            · simp only [hci, if_false] at this ⊢
              have e2 : Option.map (fun x : Addr => x.add (i' * 1)) (some ⟨x.blk, 0, none⟩) = some ⟨x.blk, i', none⟩ := by
                show some (Addr.add ⟨x.blk, 0, none⟩ (i' * 1)) = _
                rw [addr_add]; simp
              rw [e2]; exact this
  · simp only [hf0, if_false] at hk0
    simp [hf0]
    exact hk0 hf0 w1 fin
end
end Go.Proofs.YtiffjkgbjklgnaaDoor
