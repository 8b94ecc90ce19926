import Derived.Test.YtiffjkgbjklgnaaDoorBase
namespace Go.Proofs.YtiffjkgbjklgnaaDoor
open Go Go.Eng
set_option linter.unusedVariables false
set_option maxRecDepth 100000
-- 59 (*garth/shelf.Shelf).Give
def shelf_Shelf_Give_p1 (x0 x1 x5 : Value) (w : World) (Q : Value → World → Prop) : Prop := Pt P 59 23 (foll [0, 0, 0, 2] [.code (bodyOf Tryd.f59)]) [0, 1, 5] [x0, x1, x5] w Q
def shelf_Shelf_Give_b1 (x0 x1 x5 : Value) (w : World) (Q : Value → World → Prop) : Prop :=
  eqx P .eql 27 (.tmp 17) (.const (.int .i64 0)) x5 (.int .i64 0) w fun v1 w1 => cn v1 (Cal P 69 #[x0, x1, (.int .i64 1)] w1 fun v2 w2 => Q x5 w2) (Q x5 w1)
theorem shelf_Shelf_Give_e1 (g : Fr) (w : World) (Q : Value → World → Prop) : shelf_Shelf_Give_b1 (g 0) (g 1) (g 5) w Q = blk P LS 59 23 [.tmp 4] Q (.reg (.cnd (.reg (.reg .ret)) (.reg .ret))) (foll [0, 0, 0, 2] [.code (bodyOf Tryd.f59)]) g w := by kernel_rfl
theorem shelf_Shelf_Give_k1 {x0 x1 x5 : Value} {w : World} {Q : Value → World → Prop} (h : shelf_Shelf_Give_b1 x0 x1 x5 w Q) : shelf_Shelf_Give_p1 x0 x1 x5 w Q :=
  Pt_of good Tryd.func59 (by kernel_rfl) fun g hg => by
    obtain ⟨h0, h1, h5, _⟩ := hg
    subst h0 h1 h5; exact Eq.mp (shelf_Shelf_Give_e1 g w Q) h
def shelf_Shelf_Give_b0 (a0 a1 : Value) (w : World) (Q : Value → World → Prop) : Prop :=
  Cal P 67 #[a0, a1] w fun v1 w1 => eqx P .eql 27 (.tmp 9) (.const (.int .i64 0)) v1 (.int .i64 0) w1 fun v2 w2 => gd v2 true (fun w K => K a0 w) w2 fun v3 w3 => gd v2 true (fun w K => K a1 w) w3 fun v4 w4 => gd v2 true (Cal P 68 #[v3, v4]) w4 fun v5 w5 => gd v2 true (un P .not v5) w5 fun v6 w6 => pk v2 v6 (.bool false) w6 fun v7 w7 => cn v7 (shelf_Shelf_Give_p1 a0 a1 (.int .i64 13) w7 Q) (shelf_Shelf_Give_p1 a0 a1 v1 w7 Q)
theorem shelf_Shelf_Give_e0 (a0 a1 : Value) (w : World) (Q : Value → World → Prop) : shelf_Shelf_Give_b0 a0 a1 w Q = blk P LS 59 23 [.tmp 4] Q (.reg (.reg (.reg (.cnd (.reg (.stop [0, 1, 5])) (.stop [0, 1, 5]))))) [.code (bodyOf Tryd.f59)] (ofArgs [a0, a1]) w := by kernel_rfl
theorem shelf_Shelf_Give_k0 {a0 a1 : Value} {w : World} {Q : Value → World → Prop} (h : shelf_Shelf_Give_b0 a0 a1 w Q) : Cal P 59 #[a0, a1] w Q :=
  Cal_of (l := [a0, a1]) good Tryd.func59 (by kernel_rfl) (by kernel_rfl) (by kernel_rfl) (by kernel_rfl) (Eq.mp (shelf_Shelf_Give_e0 a0 a1 w Q) h)
-- 60 (*garth/shelf.Shelf).Take
def shelf_Shelf_Take_b0 (a0 : Value) (w : World) (Q : Value → World → Prop) : Prop :=
  eqx P .eql 79 (.tmp 5) (.const (.pointer none)) a0 (.pointer none) w fun v1 w1 => cn v1 (Q (.tuple #[(.int .i64 0), (.int .i64 11)]) w1) (Cal P 70 #[a0] w1 fun v2 w2 => bin P .lss 3 v2 (.int .i64 0) w2 fun v3 w3 => cn v3 (Q (.tuple #[(.int .i64 0), (.int .i64 13)]) w3) (Cal P 69 #[a0, v2, (.int .i64 (-1))] w3 fun v4 w4 => Q (.tuple #[v2, (.int .i64 0)]) w4))
theorem shelf_Shelf_Take_e0 (a0 : Value) (w : World) (Q : Value → World → Prop) : shelf_Shelf_Take_b0 a0 w Q = blk P LS 60 15 [.tmp 2, .tmp 3] Q (.reg (.reg (.cnd (.reg .ret) (.reg (.reg (.cnd (.reg .ret) (.reg (.reg .ret)))))))) [.code (bodyOf Tryd.f60)] (ofArgs [a0]) w := by kernel_rfl
theorem shelf_Shelf_Take_k0 {a0 : Value} {w : World} {Q : Value → World → Prop} (h : shelf_Shelf_Take_b0 a0 w Q) : Cal P 60 #[a0] w Q :=
  Cal_of (l := [a0]) good Tryd.func60 (by kernel_rfl) (by kernel_rfl) (by kernel_rfl) (by kernel_rfl) (Eq.mp (shelf_Shelf_Take_e0 a0 w Q) h)
-- 61 garth/handle.Pack
def handle_Pack_b0 (a0 : Value) (w : World) (Q : Value → World → Prop) : Prop :=
  bx P 103 a0 w fun v1 w1 => ld P 103 v1 w1 fun v2 w2 => Cal P 62 #[v2] w2 fun v3 w3 => eqx P .neq 27 (.tmp 7) (.const (.int .i64 0)) v3 (.int .i64 0) w3 fun v4 w4 => cn v4 (Q (.tuple #[(.int .u64 0), v3]) w4) (fa P 103 v1 0 w4 fun v5 w5 => ld P 3 v5 w5 fun v6 w6 => cv P 3 32 v6 w6 fun v7 w7 => fa P 103 v1 2 w7 fun v8 w8 => ld P 3 v8 w8 fun v9 w9 => cv P 3 32 v9 w9 fun v10 w10 => bin P .shl 32 v10 (.int .u64 4) w10 fun v11 w11 => bin P .or 32 v7 v11 w11 fun v12 w12 => fa P 103 v1 1 w12 fun v13 w13 => ld P 3 v13 w13 fun v14 w14 => cv P 3 32 v14 w14 fun v15 w15 => bin P .shl 32 v15 (.int .u64 7) w15 fun v16 w16 => bin P .or 32 v12 v16 w16 fun v17 w17 => fa P 103 v1 3 w17 fun v18 w18 => ld P 3 v18 w18 fun v19 w19 => cv P 3 32 v19 w19 fun v20 w20 => bin P .shl 32 v20 (.int .u64 20) w20 fun v21 w21 => bin P .or 32 v17 v21 w21 fun v22 w22 => Q (.tuple #[v22, (.int .i64 0)]) w22)
theorem handle_Pack_e0 (a0 : Value) (w : World) (Q : Value → World → Prop) : handle_Pack_b0 a0 w Q = blk P LS 61 28 [.tmp 2, .tmp 3] Q (.reg (.reg (.reg (.cnd (.reg .ret) (.reg .ret))))) [.code (bodyOf Tryd.f61)] (ofArgs [a0]) w := by kernel_rfl
theorem handle_Pack_k0 {a0 : Value} {w : World} {Q : Value → World → Prop} (h : handle_Pack_b0 a0 w Q) : Cal P 61 #[a0] w Q :=
  Cal_of (l := [a0]) good Tryd.func61 (by kernel_rfl) (by kernel_rfl) (by kernel_rfl) (by kernel_rfl) (Eq.mp (handle_Pack_e0 a0 w Q) h)
-- 62 garth/handle.Check
def handle_Check_b0 (a0 : Value) (w : World) (Q : Value → World → Prop) : Prop :=
  bx P 103 a0 w fun v1 w1 => fa P 103 v1 0 w1 fun v2 w2 => ld P 3 v2 w2 fun v3 w3 => Cal P 71 #[v3, (.int .i64 0), (.int .i64 7)] w3 fun v4 w4 => un P .not v4 w4 fun v5 w5 => gd v5 false (fa P 103 v1 1) w5 fun v6 w6 => gd v5 false (ld P 3 v6) w6 fun v7 w7 => gd v5 false (Cal P 71 #[v7, (.int .i64 0), (.int .i64 4159)]) w7 fun v8 w8 => gd v5 false (un P .not v8) w8 fun v9 w9 => pk v5 (.bool true) v9 w9 fun v10 w10 => cn v10 (Q (.int .i64 12) w10) (fa P 103 v1 2 w10 fun v11 w11 => ld P 3 v11 w11 fun v12 w12 => Cal P 71 #[v12, (.int .i64 1), (.int .i64 7)] w12 fun v13 w13 => gd v13 true (fa P 103 v1 3) w13 fun v14 w14 => gd v13 true (ld P 3 v14) w14 fun v15 w15 => gd v13 true (Cal P 71 #[v15, (.int .i64 1), (.int .i64 17592186044415)]) w15 fun v16 w16 => pk v13 v16 (.bool false) w16 fun v17 w17 => cn v17 (Q (.int .i64 0) w17) (Q (.int .i64 12) w17))
theorem handle_Check_e0 (a0 : Value) (w : World) (Q : Value → World → Prop) : handle_Check_b0 a0 w Q = blk P LS 62 21 [.tmp 2] Q (.reg (.reg (.cnd (.reg .ret) (.reg (.cnd (.reg .ret) (.reg .ret)))))) [.code (bodyOf Tryd.f62)] (ofArgs [a0]) w := by kernel_rfl
theorem handle_Check_k0 {a0 : Value} {w : World} {Q : Value → World → Prop} (h : handle_Check_b0 a0 w Q) : Cal P 62 #[a0] w Q :=
  Cal_of (l := [a0]) good Tryd.func62 (by kernel_rfl) (by kernel_rfl) (by kernel_rfl) (by kernel_rfl) (Eq.mp (handle_Check_e0 a0 w Q) h)
-- 63 garth/class.Per
def class_Per_b0 (a0 : Value) (w : World) (Q : Value → World → Prop) : Prop :=
  Cal P 65 #[a0] w fun v1 w1 => un P .not v1 w1 fun v2 w2 => gd v2 false (fun w K => K a0 w) w2 fun v3 w3 => gd v2 false (bin P .geq 3 v3 (.int .i64 8)) w3 fun v4 w4 => pk v2 (.bool true) v4 w4 fun v5 w5 => cn v5 (Q (.int .i64 0) w5) (Cal P 58 #[a0] w5 fun v6 w6 => bin P .quo 3 (.int .i64 512) v6 w6 fun v7 w7 => Q v7 w7)
theorem class_Per_e0 (a0 : Value) (w : World) (Q : Value → World → Prop) : class_Per_b0 a0 w Q = blk P LS 63 13 [.tmp 2] Q (.reg (.reg (.cnd (.reg .ret) (.reg .ret)))) [.code (bodyOf Tryd.f63)] (ofArgs [a0]) w := by kernel_rfl
theorem class_Per_k0 {a0 : Value} {w : World} {Q : Value → World → Prop} (h : class_Per_b0 a0 w Q) : Cal P 63 #[a0] w Q :=
  Cal_of (l := [a0]) good Tryd.func63 (by kernel_rfl) (by kernel_rfl) (by kernel_rfl) (by kernel_rfl) (Eq.mp (class_Per_e0 a0 w Q) h)
-- 64 garth/sum.whole
def sum_whole_b0 (a0 : Value) (w : World) (Q : Value → World → Prop) : Prop :=
  bin P .geq 107 a0 (.float .f64 0) w fun v1 w1 => gd v1 true (fun w K => K a0 w) w1 fun v2 w2 => gd v1 true (bin P .leq 107 v2 (.float .f64 4787326403894837248)) w2 fun v3 w3 => pk v1 v3 (.bool false) w3 fun v4 w4 => gd v4 true (fun w K => K a0 w) w4 fun v5 w5 => gd v4 true (fun w K => K a0 w) w5 fun v6 w6 => gd v4 true (cv P 107 2 v6) w6 fun v7 w7 => gd v4 true (cv P 2 107 v7) w7 fun v8 w8 => gd v4 true (eqx P .eql 107 (.tmp 10) (.tmp 13) v5 v8) w8 fun v9 w9 => pk v4 v9 (.bool false) w9 fun v10 w10 => Q v10 w10
theorem sum_whole_e0 (a0 : Value) (w : World) (Q : Value → World → Prop) : sum_whole_b0 a0 w Q = blk P LS 64 16 [.tmp 2] Q (.reg (.reg .ret)) [.code (bodyOf Tryd.f64)] (ofArgs [a0]) w := by kernel_rfl
theorem sum_whole_k0 {a0 : Value} {w : World} {Q : Value → World → Prop} (h : sum_whole_b0 a0 w Q) : Cal P 64 #[a0] w Q :=
  Cal_of (l := [a0]) good Tryd.func64 (by kernel_rfl) (by kernel_rfl) (by kernel_rfl) (by kernel_rfl) (Eq.mp (sum_whole_e0 a0 w Q) h)
-- 65 garth/class.within
def class_within_b0 (a0 : Value) (w : World) (Q : Value → World → Prop) : Prop :=
  bin P .geq 3 a0 (.int .i64 0) w fun v1 w1 => gd v1 true (fun w K => K a0 w) w1 fun v2 w2 => gd v1 true (bin P .lss 3 v2 (.int .i64 24)) w2 fun v3 w3 => pk v1 v3 (.bool false) w3 fun v4 w4 => Q v4 w4
theorem class_within_e0 (a0 : Value) (w : World) (Q : Value → World → Prop) : class_within_b0 a0 w Q = blk P LS 65 9 [.tmp 2] Q (.reg (.reg .ret)) [.code (bodyOf Tryd.f65)] (ofArgs [a0]) w := by kernel_rfl
theorem class_within_k0 {a0 : Value} {w : World} {Q : Value → World → Prop} (h : class_within_b0 a0 w Q) : Cal P 65 #[a0] w Q :=
  Cal_of (l := [a0]) good Tryd.func65 (by kernel_rfl) (by kernel_rfl) (by kernel_rfl) (by kernel_rfl) (Eq.mp (class_within_e0 a0 w Q) h)
-- 66 garth/class.Pages
def class_Pages_b0 (a0 : Value) (w : World) (Q : Value → World → Prop) : Prop :=
  Cal P 65 #[a0] w fun v1 w1 => un P .not v1 w1 fun v2 w2 => cn v2 (Q (.int .i64 0) w2) (bin P .sub 3 a0 (.int .i64 8) w2 fun v3 w3 => bin P .add 3 v3 (.int .i64 1) w3 fun v4 w4 => mxb P #[3, 3] 3 [(.int .i64 1), v4] w4 fun v5 w5 => Q v5 w5)
theorem class_Pages_e0 (a0 : Value) (w : World) (Q : Value → World → Prop) : class_Pages_b0 a0 w Q = blk P LS 66 10 [.tmp 2] Q (.reg (.reg (.cnd (.reg .ret) (.reg .ret)))) [.code (bodyOf Tryd.f66)] (ofArgs [a0]) w := by kernel_rfl
theorem class_Pages_k0 {a0 : Value} {w : World} {Q : Value → World → Prop} (h : class_Pages_b0 a0 w Q) : Cal P 66 #[a0] w Q :=
  Cal_of (l := [a0]) good Tryd.func66 (by kernel_rfl) (by kernel_rfl) (by kernel_rfl) (by kernel_rfl) (Eq.mp (class_Pages_e0 a0 w Q) h)
-- 67 (*garth/shelf.Shelf).within
def shelf_Shelf_within_b0 (a0 a1 : Value) (w : World) (Q : Value → World → Prop) : Prop :=
  eqx P .eql 79 (.tmp 6) (.const (.pointer none)) a0 (.pointer none) w fun v1 w1 => cn v1 (Q (.int .i64 11) w1) (bin P .lss 3 a1 (.int .i64 0) w1 fun v2 w2 => gd v2 false (fun w K => K a1 w) w2 fun v3 w3 => gd v2 false (fun w K => K a0 w) w3 fun v4 w4 => gd v2 false (nc v4) w4 fun v5 w5 => gd v2 false (fa P 101 v5 1) w5 fun v6 w6 => gd v2 false (ld P 3 v6) w6 fun v7 w7 => gd v2 false (bin P .geq 3 v3 v7) w7 fun v8 w8 => pk v2 (.bool true) v8 w8 fun v9 w9 => cn v9 (Q (.int .i64 12) w9) (Q (.int .i64 0) w9))
theorem shelf_Shelf_within_e0 (a0 a1 : Value) (w : World) (Q : Value → World → Prop) : shelf_Shelf_within_b0 a0 a1 w Q = blk P LS 67 19 [.tmp 4] Q (.reg (.reg (.cnd (.reg .ret) (.reg (.cnd (.reg .ret) (.reg .ret)))))) [.code (bodyOf Tryd.f67)] (ofArgs [a0, a1]) w := by kernel_rfl
theorem shelf_Shelf_within_k0 {a0 a1 : Value} {w : World} {Q : Value → World → Prop} (h : shelf_Shelf_within_b0 a0 a1 w Q) : Cal P 67 #[a0, a1] w Q :=
  Cal_of (l := [a0, a1]) good Tryd.func67 (by kernel_rfl) (by kernel_rfl) (by kernel_rfl) (by kernel_rfl) (Eq.mp (shelf_Shelf_within_e0 a0 a1 w Q) h)
-- 68 (*garth/shelf.Shelf).Taken
def shelf_Shelf_Taken_b0 (a0 a1 : Value) (w : World) (Q : Value → World → Prop) : Prop :=
  Cal P 67 #[a0, a1] w fun v1 w1 => eqx P .eql 27 (.tmp 7) (.const (.int .i64 0)) v1 (.int .i64 0) w1 fun v2 w2 => gd v2 true (fun w K => K a0 w) w2 fun v3 w3 => gd v2 true (nc v3) w3 fun v4 w4 => gd v2 true (fa P 101 v4 0) w4 fun v5 w5 => gd v2 true (ld P 98 v5) w5 fun v6 w6 => gd v2 true (fun w K => K a1 w) w6 fun v7 w7 => gd v2 true (bin P .quo 3 v7 (.int .i64 64)) w7 fun v8 w8 => gd v2 true (ia P 98 v6 v8) w8 fun v9 w9 => gd v2 true (ld P 32 v9) w9 fun v10 w10 => gd v2 true (fun w K => K a1 w) w10 fun v11 w11 => gd v2 true (bin P .rem 3 v11 (.int .i64 64)) w11 fun v12 w12 => gd v2 true (bin P .shr 32 v10 v12) w12 fun v13 w13 => gd v2 true (bin P .and 32 v13 (.int .u64 1)) w13 fun v14 w14 => gd v2 true (eqx P .eql 32 (.tmp 21) (.const (.int .u64 0)) v14 (.int .u64 0)) w14 fun v15 w15 => pk v2 v15 (.bool false) w15 fun v16 w16 => Q v16 w16
theorem shelf_Shelf_Taken_e0 (a0 a1 : Value) (w : World) (Q : Value → World → Prop) : shelf_Shelf_Taken_b0 a0 a1 w Q = blk P LS 68 24 [.tmp 4] Q (.reg (.reg .ret)) [.code (bodyOf Tryd.f68)] (ofArgs [a0, a1]) w := by kernel_rfl
theorem shelf_Shelf_Taken_k0 {a0 a1 : Value} {w : World} {Q : Value → World → Prop} (h : shelf_Shelf_Taken_b0 a0 a1 w Q) : Cal P 68 #[a0, a1] w Q :=
  Cal_of (l := [a0, a1]) good Tryd.func68 (by kernel_rfl) (by kernel_rfl) (by kernel_rfl) (by kernel_rfl) (Eq.mp (shelf_Shelf_Taken_e0 a0 a1 w Q) h)
-- 69 (*garth/shelf.Shelf).turn
def shelf_Shelf_turn_b0 (a0 a1 a2 : Value) (w : World) (Q : Value → World → Prop) : Prop :=
  nc a0 (dw w) fun v1 w1 => fa P 101 v1 0 w1 fun v2 w2 => w2 = w1 ∧ ld P 98 v2 w1 fun v3 w3 => bin P .quo 3 a1 (.int .i64 64) w3 fun v4 w4 => w4 = w3 ∧ ia P 98 v3 v4 w3 fun v5 w5 => w5 = w3 ∧ ld P 32 v5 w3 fun v6 w6 => bin P .rem 3 a1 (.int .i64 64) w6 fun v7 w7 => w7 = w6 ∧ bin P .shl 32 (.int .u64 1) v7 w6 fun v8 w8 => w8 = w6 ∧ bin P .xor 32 v6 v8 w6 fun v9 w9 => w9 = w6 ∧ ia P 98 v3 v4 w6 fun v10 w10 => w10 = w6 ∧ st P 32 v10 v9 w6 fun _ w11 => nc a0 w11 fun v11 w12 => fa P 101 v11 2 w12 fun v12 w13 => ld P 3 v12 w13 fun v13 w14 => bin P .add 3 v13 a2 w14 fun v14 w15 => nc a0 w15 fun v15 w16 => fa P 101 v15 2 w16 fun v16 w17 => st P 3 v16 v14 w17 fun _ w18 => Q (.tuple #[]) w18
theorem shelf_Shelf_turn_e0 (a0 a1 a2 : Value) (w : World) (Q : Value → World → Prop) : shelf_Shelf_turn_b0 a0 a1 a2 w Q = blk P LS 69 27 [] Q (.drw [0, 1, 2, 3, 4, 5, 6, 7, 8, 9, 10, 11, 12, 13] (.reg .ret)) [.code (bodyOf Tryd.f69)] (ofArgs [a0, a1, a2]) w := by kernel_rfl
theorem shelf_Shelf_turn_k0 {a0 a1 a2 : Value} {w : World} {Q : Value → World → Prop} (h : shelf_Shelf_turn_b0 a0 a1 a2 w Q) : Cal P 69 #[a0, a1, a2] w Q :=
  Cal_of (l := [a0, a1, a2]) good Tryd.func69 (by kernel_rfl) (by kernel_rfl) (by kernel_rfl) (by kernel_rfl) (Eq.mp (shelf_Shelf_turn_e0 a0 a1 a2 w Q) h)
-- 70 (*garth/shelf.Shelf).Lowest
def shelf_Shelf_Lowest_p1 (x0 x3 : Value) (w : World) (Q : Value → World → Prop) : Prop := Pt P 70 34 (foll [0, 0, 2, 0] [.code (bodyOf Tryd.f70)]) [0, 3] [x0, x3] w Q
def shelf_Shelf_Lowest_b1 (x0 x3 : Value) (w : World) (Q : Value → World → Prop) : Prop :=
  nc x0 w fun v1 w1 => fa P 101 v1 0 w1 fun v2 w2 => ld P 98 v2 w2 fun v3 w3 => len P #[98] 3 [v3] w3 fun v4 w4 => bin P .geq 3 x3 v4 w4 fun v5 w5 => cn v5 (Q (.int .i64 (-1)) w5) (nc x0 w5 fun v6 w6 => fa P 101 v6 0 w6 fun v7 w7 => ld P 98 v7 w7 fun v8 w8 => ia P 98 v8 x3 w8 fun v9 w9 => ld P 32 v9 w9 fun v10 w10 => eqx P .eql 32 (.tmp 19) (.const (.int .u64 0)) v10 (.int .u64 0) w10 fun v11 w11 => cn v11 (bin P .add 3 x3 (.int .i64 1) w11 fun v12 w12 => shelf_Shelf_Lowest_p1 x0 v12 w12 Q) (bin P .mul 3 (.int .i64 64) x3 w11 fun v13 w13 => nc x0 w13 fun v14 w14 => fa P 101 v14 0 w14 fun v15 w15 => ld P 98 v15 w15 fun v16 w16 => ia P 98 v16 x3 w16 fun v17 w17 => ld P 32 v17 w17 fun v18 w18 => Cal P 72 #[v18] w18 fun v19 w19 => bin P .add 3 v13 v19 w19 fun v20 w20 => Q v20 w20))
theorem shelf_Shelf_Lowest_e1 (g : Fr) (w : World) (Q : Value → World → Prop) : shelf_Shelf_Lowest_b1 (g 0) (g 3) w Q = blk P LS 70 34 [.tmp 2] Q (.reg (.cnd (.reg .ret) (.reg (.cnd (.reg (.stop [0, 3])) (.reg .ret))))) (foll [0, 0, 2, 0] [.code (bodyOf Tryd.f70)]) g w := by kernel_rfl
theorem shelf_Shelf_Lowest_k1 {x0 x3 : Value} {w : World} {Q : Value → World → Prop} (h : shelf_Shelf_Lowest_b1 x0 x3 w Q) : shelf_Shelf_Lowest_p1 x0 x3 w Q :=
  Pt_of good Tryd.func70 (by kernel_rfl) fun g hg => by
    obtain ⟨h0, h3, _⟩ := hg
    subst h0 h3; exact Eq.mp (shelf_Shelf_Lowest_e1 g w Q) h
def shelf_Shelf_Lowest_b0 (a0 : Value) (w : World) (Q : Value → World → Prop) : Prop :=
  eqx P .eql 79 (.tmp 4) (.const (.pointer none)) a0 (.pointer none) w fun v1 w1 => cn v1 (Q (.int .i64 (-1)) w1) (shelf_Shelf_Lowest_p1 a0 (.int .i64 0) w1 Q)
theorem shelf_Shelf_Lowest_e0 (a0 : Value) (w : World) (Q : Value → World → Prop) : shelf_Shelf_Lowest_b0 a0 w Q = blk P LS 70 34 [.tmp 2] Q (.reg (.reg (.cnd (.reg .ret) (.reg (.stop [0, 3]))))) [.code (bodyOf Tryd.f70)] (ofArgs [a0]) w := by kernel_rfl
theorem shelf_Shelf_Lowest_k0 {a0 : Value} {w : World} {Q : Value → World → Prop} (h : shelf_Shelf_Lowest_b0 a0 w Q) : Cal P 70 #[a0] w Q :=
  Cal_of (l := [a0]) good Tryd.func70 (by kernel_rfl) (by kernel_rfl) (by kernel_rfl) (by kernel_rfl) (Eq.mp (shelf_Shelf_Lowest_e0 a0 w Q) h)
-- 71 garth/handle.within
def handle_within_b0 (a0 a1 a2 : Value) (w : World) (Q : Value → World → Prop) : Prop :=
  bin P .geq 3 a0 a1 w fun v1 w1 => gd v1 true (fun w K => K a0 w) w1 fun v2 w2 => gd v1 true (fun w K => K a2 w) w2 fun v3 w3 => gd v1 true (bin P .leq 3 v2 v3) w3 fun v4 w4 => pk v1 v4 (.bool false) w4 fun v5 w5 => Q v5 w5
theorem handle_within_e0 (a0 a1 a2 : Value) (w : World) (Q : Value → World → Prop) : handle_within_b0 a0 a1 a2 w Q = blk P LS 71 15 [.tmp 6] Q (.reg (.reg .ret)) [.code (bodyOf Tryd.f71)] (ofArgs [a0, a1, a2]) w := by kernel_rfl
theorem handle_within_k0 {a0 a1 a2 : Value} {w : World} {Q : Value → World → Prop} (h : handle_within_b0 a0 a1 a2 w Q) : Cal P 71 #[a0, a1, a2] w Q :=
  Cal_of (l := [a0, a1, a2]) good Tryd.func71 (by kernel_rfl) (by kernel_rfl) (by kernel_rfl) (by kernel_rfl) (Eq.mp (handle_within_e0 a0 a1 a2 w Q) h)
-- 72 math/bits.TrailingZeros64
def bits_TrailingZeros64_b0 (a0 : Value) (w : World) (Q : Value → World → Prop) : Prop :=
  eqx P .eql 32 (.tmp 3) (.const (.int .u64 0)) a0 (.int .u64 0) w fun v1 w1 => cn v1 (Q (.int .i64 64) w1) (un P .neg a0 w1 fun v2 w2 => bin P .and 32 a0 v2 w2 fun v3 w3 => bin P .mul 32 v3 (.int .u64 285870213051353865) w3 fun v4 w4 => bin P .shr 32 v4 (.int .u64 58) w4 fun v5 w5 => ia P 116 (.pointer (some ⟨0, 0, none⟩)) v5 w5 fun v6 w6 => ld P 5 v6 w6 fun v7 w7 => cv P 5 3 v7 w7 fun v8 w8 => Q v8 w8)
theorem bits_TrailingZeros64_e0 (a0 : Value) (w : World) (Q : Value → World → Prop) : bits_TrailingZeros64_b0 a0 w Q = blk P LS 72 14 [.tmp 2] Q (.reg (.reg (.cnd (.reg .ret) (.reg .ret)))) [.code (bodyOf Tryd.f72)] (ofArgs [a0]) w := by kernel_rfl
theorem bits_TrailingZeros64_k0 {a0 : Value} {w : World} {Q : Value → World → Prop} (h : bits_TrailingZeros64_b0 a0 w Q) : Cal P 72 #[a0] w Q :=
  Cal_of (l := [a0]) good Tryd.func72 (by kernel_rfl) (by kernel_rfl) (by kernel_rfl) (by kernel_rfl) (Eq.mp (bits_TrailingZeros64_e0 a0 w Q) h)
end Go.Proofs.YtiffjkgbjklgnaaDoor
