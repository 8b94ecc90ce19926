import Derived.Test.YtiffjkgbjklgnaaDoorBase
import Derived.Test.YtiffjkgbjklgnaaDoorMem
namespace Go.Proofs.YtiffjkgbjklgnaaDoor
open Go Go.Eng
set_option linter.unusedVariables false
@[simp] theorem u_3 : P.underlying 3 = some (.int .i64) := by kernel_rfl
@[simp] theorem u_25 : P.underlying 25 = some (.int .u64) := by kernel_rfl
@[simp] theorem ldO_23 (o : Option Obj) (i : Nat) : ldO P 23 o i = (cellsO o i 2).map .agg := by kernel_rfl
@[simp] theorem len_24 (a : Option Addr) (n c : Nat) (ty : TypeId) {w : World} {K : Value → World → Prop} : len P #[24] ty [.slice a n c] w K = K (.int .i64 n) w := by kernel_rfl
@[simp] theorem slice_24 : sliceO P 24 = some 34 := by kernel_rfl
@[simp] theorem ia_24 (b o n c : Nat) (k : IntKind) (i : Int) {w : World} {K : Value → World → Prop} : ia P 24 (.slice (some ⟨b, o, none⟩) n c) (.int k i) w K = ((0 ≤ i ∧ i < (n : Int)) ∧ K (.pointer (some ⟨b, o + i.toNat * 6, none⟩)) w) := by kernel_rfl
@[simp] theorem ldO_34 (o : Option Obj) (i : Nat) : ldO P 34 o i = (cellsO o i 6).map .agg := by kernel_rfl
@[simp] theorem al_34 {w : World} {K : Value → World → Prop} : al P 34 w K = K (.pointer (some ⟨w.heap.size, 0, none⟩)) (pu w (.cells #[(.int .i64 0), (.int .i64 0), (.int .i64 0), (.int .i64 0), (.int .u64 0), (.string ⟨#[]⟩)] 34 (0, 0))) := by kernel_rfl
@[simp] theorem sz_34 : szO P 34 = some 6 := by kernel_rfl
@[simp] theorem field_34_0 : fieldO P 34 0 = some (0, 1, 3) := by kernel_rfl
@[simp] theorem field_34_1 : fieldO P 34 1 = some (1, 1, 3) := by kernel_rfl
@[simp] theorem field_34_2 : fieldO P 34 2 = some (2, 1, 3) := by kernel_rfl
@[simp] theorem field_34_3 : fieldO P 34 3 = some (3, 1, 3) := by kernel_rfl
@[simp] theorem field_34_4 : fieldO P 34 4 = some (4, 1, 32) := by kernel_rfl
@[simp] theorem field_34_5 : fieldO P 34 5 = some (5, 1, 9) := by kernel_rfl
@[simp] theorem fa_34_0 (b o : Nat) {w : World} {K : Value → World → Prop} : fa P 34 (.pointer (some ⟨b, o, none⟩)) 0 w K = K (.pointer (some ⟨b, o + 0, none⟩)) w := by rw [fa_eq]; simp
@[simp] theorem ldO_3 (o : Option Obj) (i : Nat) : ldO P 3 o i = cellO o i := by kernel_rfl
@[simp] theorem sl_24 (a : Option Addr) (n c : Nat) (l h m : Option Value) {w : World} {K : Value → World → Prop} : sl P 24 (.slice a n c) l h m w K = slcut true n c l h m fun lo hi mx => K (.slice (if mx = lo then a else a.map (·.add (lo * 6))) (hi - lo) (mx - lo)) w := by kernel_rfl
@[simp] theorem zero_34 : zeroO P 34 = some (.agg #[(.int .i64 0), (.int .i64 0), (.int .i64 0), (.int .i64 0), (.int .u64 0), (.string ⟨#[]⟩)]) := by kernel_rfl
@[simp] theorem by_34 : byO P 34 = some 56 := by kernel_rfl
@[simp] theorem notI_24 : notI P 24 = true := by kernel_rfl
@[simp] theorem al_36 {w : World} {K : Value → World → Prop} : al P 36 w K = K (.pointer (some ⟨w.heap.size, 0, none⟩)) (pu w (.cells #[(.int .i64 0), (.int .u64 0), (.int .i64 0), (.int .i64 0), (.string ⟨#[]⟩), (.int .i64 0)] 36 (0, 0))) := by kernel_rfl
@[simp] theorem sz_36 : szO P 36 = some 6 := by kernel_rfl
@[simp] theorem fa_34_1 (b o : Nat) {w : World} {K : Value → World → Prop} : fa P 34 (.pointer (some ⟨b, o, none⟩)) 1 w K = K (.pointer (some ⟨b, o + 1, none⟩)) w := by rw [fa_eq]; simp
@[simp] theorem ldO_36 (o : Option Obj) (i : Nat) : ldO P 36 o i = (cellsO o i 6).map .agg := by kernel_rfl
@[simp] theorem fa_34_5 (b o : Nat) {w : World} {K : Value → World → Prop} : fa P 34 (.pointer (some ⟨b, o, none⟩)) 5 w K = K (.pointer (some ⟨b, o + 5, none⟩)) w := by rw [fa_eq]; simp
@[simp] theorem ldO_9 (o : Option Obj) (i : Nat) : ldO P 9 o i = cellO o i := by kernel_rfl
@[simp] theorem len_9 (s : ByteArray) (ty : TypeId) {w : World} {K : Value → World → Prop} : len P #[9] ty [.string s] w K = K (.int .i64 s.size) w := by kernel_rfl
@[simp] theorem fa_34_4 (b o : Nat) {w : World} {K : Value → World → Prop} : fa P 34 (.pointer (some ⟨b, o, none⟩)) 4 w K = K (.pointer (some ⟨b, o + 4, none⟩)) w := by rw [fa_eq]; simp
@[simp] theorem ldO_32 (o : Option Obj) (i : Nat) : ldO P 32 o i = cellO o i := by kernel_rfl
@[simp] theorem zero_36 : zeroO P 36 = some (.agg #[(.int .i64 0), (.int .u64 0), (.int .i64 0), (.int .i64 0), (.string ⟨#[]⟩), (.int .i64 0)]) := by kernel_rfl
@[simp] theorem field_36_0 : fieldO P 36 0 = some (0, 1, 27) := by kernel_rfl
@[simp] theorem field_36_1 : fieldO P 36 1 = some (1, 1, 32) := by kernel_rfl
@[simp] theorem field_36_2 : fieldO P 36 2 = some (2, 1, 3) := by kernel_rfl
@[simp] theorem field_36_3 : fieldO P 36 3 = some (3, 1, 3) := by kernel_rfl
@[simp] theorem field_36_4 : fieldO P 36 4 = some (4, 1, 9) := by kernel_rfl
@[simp] theorem field_36_5 : fieldO P 36 5 = some (5, 1, 3) := by kernel_rfl
@[simp] theorem bdO_36 (l : List (Nat × Value)) : bdO P 36 l = Instr.fill (fun i => match fieldO P 36 i with | some f => some (f.1, f.2.1) | none => none) #[(.int .i64 0), (.int .u64 0), (.int .i64 0), (.int .i64 0), (.string ⟨#[]⟩), (.int .i64 0)] l := by kernel_rfl
@[simp] theorem u_9 : P.underlying 9 = some .string := by kernel_rfl
@[simp] theorem isPtr_26 : isPtr P 26 = true := by kernel_rfl
@[simp] theorem slice_45 : sliceO P 45 = some 36 := by kernel_rfl
@[simp] theorem by_36 : byO P 36 = some 56 := by kernel_rfl
@[simp] theorem notI_45 : notI P 45 = true := by kernel_rfl
@[simp] theorem ia_45 (b o n c : Nat) (k : IntKind) (i : Int) {w : World} {K : Value → World → Prop} : ia P 45 (.slice (some ⟨b, o, none⟩) n c) (.int k i) w K = ((0 ≤ i ∧ i < (n : Int)) ∧ K (.pointer (some ⟨b, o + i.toNat * 6, none⟩)) w) := by kernel_rfl
@[simp] theorem u_4 : P.underlying 4 = some .bool := by kernel_rfl
@[simp] theorem field_23_0 : fieldO P 23 0 = some (0, 1, 3) := by kernel_rfl
@[simp] theorem field_23_1 : fieldO P 23 1 = some (1, 1, 3) := by kernel_rfl
@[simp] theorem fa_23_1 (b o : Nat) {w : World} {K : Value → World → Prop} : fa P 23 (.pointer (some ⟨b, o, none⟩)) 1 w K = K (.pointer (some ⟨b, o + 1, none⟩)) w := by rw [fa_eq]; simp
@[simp] theorem fa_23_0 (b o : Nat) {w : World} {K : Value → World → Prop} : fa P 23 (.pointer (some ⟨b, o, none⟩)) 0 w K = K (.pointer (some ⟨b, o + 0, none⟩)) w := by rw [fa_eq]; simp
@[simp] theorem zero_51 : zeroO P 51 = some (.agg #[(.int .i64 0), (.int .i64 0), (.pointer none), (.pointer none), (.pointer none), (.pointer none), (.pointer none), (.pointer none), (.pointer none), (.pointer none), (.int .i64 0), (.int .i64 0), (.int .i64 0), (.int .i64 0), (.int .i64 0), (.int .i64 0), (.int .i64 0), (.int .i64 0)]) := by kernel_rfl
@[simp] theorem field_51_0 : fieldO P 51 0 = some (0, 2, 23) := by kernel_rfl
@[simp] theorem field_51_1 : fieldO P 51 1 = some (2, 8, 48) := by kernel_rfl
@[simp] theorem field_51_2 : fieldO P 51 2 = some (10, 8, 49) := by kernel_rfl
@[simp] theorem bdO_51 (l : List (Nat × Value)) : bdO P 51 l = Instr.fill (fun i => match fieldO P 51 i with | some f => some (f.1, f.2.1) | none => none) #[(.int .i64 0), (.int .i64 0), (.pointer none), (.pointer none), (.pointer none), (.pointer none), (.pointer none), (.pointer none), (.pointer none), (.pointer none), (.int .i64 0), (.int .i64 0), (.int .i64 0), (.int .i64 0), (.int .i64 0), (.int .i64 0), (.int .i64 0), (.int .i64 0)] l := by kernel_rfl
@[simp] theorem fa_51_2 (b o : Nat) {w : World} {K : Value → World → Prop} : fa P 51 (.pointer (some ⟨b, o, none⟩)) 2 w K = K (.pointer (some ⟨b, o + 10, none⟩)) w := by rw [fa_eq]; simp
@[simp] theorem ia_49 (b o : Nat) (k : IntKind) (i : Int) {w : World} {K : Value → World → Prop} : ia P 49 (.pointer (some ⟨b, o, none⟩)) (.int k i) w K = ((0 ≤ i ∧ i < 8) ∧ K (.pointer (some ⟨b, o + i.toNat * 1, none⟩)) w) := by kernel_rfl
@[simp] theorem sz_3 : szO P 3 = some 1 := by kernel_rfl
@[simp] theorem zero_23 : zeroO P 23 = some (.agg #[(.int .i64 0), (.int .i64 0)]) := by kernel_rfl
@[simp] theorem bdO_23 (l : List (Nat × Value)) : bdO P 23 l = Instr.fill (fun i => match fieldO P 23 i with | some f => some (f.1, f.2.1) | none => none) #[(.int .i64 0), (.int .i64 0)] l := by kernel_rfl
@[simp] theorem bdO_34 (l : List (Nat × Value)) : bdO P 34 l = Instr.fill (fun i => match fieldO P 34 i with | some f => some (f.1, f.2.1) | none => none) #[(.int .i64 0), (.int .i64 0), (.int .i64 0), (.int .i64 0), (.int .u64 0), (.string ⟨#[]⟩)] l := by kernel_rfl
@[simp] theorem fa_36_1 (b o : Nat) {w : World} {K : Value → World → Prop} : fa P 36 (.pointer (some ⟨b, o, none⟩)) 1 w K = K (.pointer (some ⟨b, o + 1, none⟩)) w := by rw [fa_eq]; simp
@[simp] theorem fa_36_0 (b o : Nat) {w : World} {K : Value → World → Prop} : fa P 36 (.pointer (some ⟨b, o, none⟩)) 0 w K = K (.pointer (some ⟨b, o + 0, none⟩)) w := by rw [fa_eq]; simp
@[simp] theorem ldO_27 (o : Option Obj) (i : Nat) : ldO P 27 o i = cellO o i := by kernel_rfl
@[simp] theorem fa_36_4 (b o : Nat) {w : World} {K : Value → World → Prop} : fa P 36 (.pointer (some ⟨b, o, none⟩)) 4 w K = K (.pointer (some ⟨b, o + 4, none⟩)) w := by rw [fa_eq]; simp
@[simp] theorem sz_27 : szO P 27 = some 1 := by kernel_rfl
@[simp] theorem fa_51_1 (b o : Nat) {w : World} {K : Value → World → Prop} : fa P 51 (.pointer (some ⟨b, o, none⟩)) 1 w K = K (.pointer (some ⟨b, o + 2, none⟩)) w := by rw [fa_eq]; simp
@[simp] theorem ia_48 (b o : Nat) (k : IntKind) (i : Int) {w : World} {K : Value → World → Prop} : ia P 48 (.pointer (some ⟨b, o, none⟩)) (.int k i) w K = ((0 ≤ i ∧ i < 8) ∧ K (.pointer (some ⟨b, o + i.toNat * 1, none⟩)) w) := by kernel_rfl
@[simp] theorem ldO_47 (o : Option Obj) (i : Nat) : ldO P 47 o i = cellO o i := by kernel_rfl
@[simp] theorem fa_34_3 (b o : Nat) {w : World} {K : Value → World → Prop} : fa P 34 (.pointer (some ⟨b, o, none⟩)) 3 w K = K (.pointer (some ⟨b, o + 3, none⟩)) w := by rw [fa_eq]; simp
@[simp] theorem fa_34_2 (b o : Nat) {w : World} {K : Value → World → Prop} : fa P 34 (.pointer (some ⟨b, o, none⟩)) 2 w K = K (.pointer (some ⟨b, o + 2, none⟩)) w := by rw [fa_eq]; simp
@[simp] theorem isPtr_47 : isPtr P 47 = true := by kernel_rfl
@[simp] theorem fa_36_5 (b o : Nat) {w : World} {K : Value → World → Prop} : fa P 36 (.pointer (some ⟨b, o, none⟩)) 5 w K = K (.pointer (some ⟨b, o + 5, none⟩)) w := by rw [fa_eq]; simp
@[simp] theorem ldO_51 (o : Option Obj) (i : Nat) : ldO P 51 o i = (cellsO o i 18).map .agg := by kernel_rfl
@[simp] theorem al_51 {w : World} {K : Value → World → Prop} : al P 51 w K = K (.pointer (some ⟨w.heap.size, 0, none⟩)) (pu w (.cells #[(.int .i64 0), (.int .i64 0), (.pointer none), (.pointer none), (.pointer none), (.pointer none), (.pointer none), (.pointer none), (.pointer none), (.pointer none), (.int .i64 0), (.int .i64 0), (.int .i64 0), (.int .i64 0), (.int .i64 0), (.int .i64 0), (.int .i64 0), (.int .i64 0)] 51 (0, 0))) := by kernel_rfl
@[simp] theorem sz_51 : szO P 51 = some 18 := by kernel_rfl
@[simp] theorem ldO_48 (o : Option Obj) (i : Nat) : ldO P 48 o i = (cellsO o i 8).map .agg := by kernel_rfl
@[simp] theorem ldO_58 (o : Option Obj) (i : Nat) : ldO P 58 o i = (cellsO o i 6).map .agg := by kernel_rfl
@[simp] theorem al_58 {w : World} {K : Value → World → Prop} : al P 58 w K = K (.pointer (some ⟨w.heap.size, 0, none⟩)) (pu w (.cells #[(.pointer none), (.int .i64 0), (.int .i64 0), (.int .i64 0), (.map none), (.int .i64 0)] 58 (0, 0))) := by kernel_rfl
@[simp] theorem sz_58 : szO P 58 = some 6 := by kernel_rfl
@[simp] theorem field_58_0 : fieldO P 58 0 = some (0, 1, 55) := by kernel_rfl
@[simp] theorem field_58_1 : fieldO P 58 1 = some (1, 1, 3) := by kernel_rfl
@[simp] theorem field_58_2 : fieldO P 58 2 = some (2, 1, 3) := by kernel_rfl
@[simp] theorem field_58_3 : fieldO P 58 3 = some (3, 1, 3) := by kernel_rfl
@[simp] theorem field_58_4 : fieldO P 58 4 = some (4, 1, 56) := by kernel_rfl
@[simp] theorem field_58_5 : fieldO P 58 5 = some (5, 1, 3) := by kernel_rfl
@[simp] theorem fa_58_0 (b o : Nat) {w : World} {K : Value → World → Prop} : fa P 58 (.pointer (some ⟨b, o, none⟩)) 0 w K = K (.pointer (some ⟨b, o + 0, none⟩)) w := by rw [fa_eq]; simp
@[simp] theorem ldO_55 (o : Option Obj) (i : Nat) : ldO P 55 o i = cellO o i := by kernel_rfl
@[simp] theorem fa_58_4 (b o : Nat) {w : World} {K : Value → World → Prop} : fa P 58 (.pointer (some ⟨b, o, none⟩)) 4 w K = K (.pointer (some ⟨b, o + 4, none⟩)) w := by rw [fa_eq]; simp
@[simp] theorem ldO_56 (o : Option Obj) (i : Nat) : ldO P 56 o i = cellO o i := by kernel_rfl
@[simp] theorem sz_55 : szO P 55 = some 1 := by kernel_rfl
@[simp] theorem sz_56 : szO P 56 = some 1 := by kernel_rfl
@[simp] theorem al_63 {w : World} {K : Value → World → Prop} : al P 63 w K = K (.pointer (some ⟨w.heap.size, 0, none⟩)) (pu w (.cells #[(.slice none 0 0), (.int .i64 0)] 63 (0, 0))) := by kernel_rfl
@[simp] theorem sz_63 : szO P 63 = some 2 := by kernel_rfl
@[simp] theorem field_63_0 : fieldO P 63 0 = some (0, 1, 61) := by kernel_rfl
@[simp] theorem field_63_1 : fieldO P 63 1 = some (1, 1, 3) := by kernel_rfl
@[simp] theorem fa_63_0 (b o : Nat) {w : World} {K : Value → World → Prop} : fa P 63 (.pointer (some ⟨b, o, none⟩)) 0 w K = K (.pointer (some ⟨b, o + 0, none⟩)) w := by rw [fa_eq]; simp
@[simp] theorem ldO_61 (o : Option Obj) (i : Nat) : ldO P 61 o i = cellO o i := by kernel_rfl
@[simp] theorem fa_63_1 (b o : Nat) {w : World} {K : Value → World → Prop} : fa P 63 (.pointer (some ⟨b, o, none⟩)) 1 w K = K (.pointer (some ⟨b, o + 1, none⟩)) w := by rw [fa_eq]; simp
@[simp] theorem zero_63 : zeroO P 63 = some (.agg #[(.slice none 0 0), (.int .i64 0)]) := by kernel_rfl
@[simp] theorem bdO_63 (l : List (Nat × Value)) : bdO P 63 l = Instr.fill (fun i => match fieldO P 63 i with | some f => some (f.1, f.2.1) | none => none) #[(.slice none 0 0), (.int .i64 0)] l := by kernel_rfl
@[simp] theorem key_56 : keyO P 56 = some (.i64, 63) := by kernel_rfl
@[simp] theorem sz_47 : szO P 47 = some 1 := by kernel_rfl
@[simp] theorem fd_63_0 (cs : Array Value) {w : World} {K : Value → World → Prop} : fd P 63 (.agg cs) 0 w K = onv (cs[0]?) fun v => K v w := by kernel_rfl
@[simp] theorem u_61 : P.underlying 61 = some (.slice 5) := by kernel_rfl
@[simp] theorem fa_51_0 (b o : Nat) {w : World} {K : Value → World → Prop} : fa P 51 (.pointer (some ⟨b, o, none⟩)) 0 w K = K (.pointer (some ⟨b, o + 0, none⟩)) w := by rw [fa_eq]; simp
@[simp] theorem fa_58_1 (b o : Nat) {w : World} {K : Value → World → Prop} : fa P 58 (.pointer (some ⟨b, o, none⟩)) 1 w K = K (.pointer (some ⟨b, o + 1, none⟩)) w := by rw [fa_eq]; simp
@[simp] theorem zero_58 : zeroO P 58 = some (.agg #[(.pointer none), (.int .i64 0), (.int .i64 0), (.int .i64 0), (.map none), (.int .i64 0)]) := by kernel_rfl
@[simp] theorem bdO_58 (l : List (Nat × Value)) : bdO P 58 l = Instr.fill (fun i => match fieldO P 58 i with | some f => some (f.1, f.2.1) | none => none) #[(.pointer none), (.int .i64 0), (.int .i64 0), (.int .i64 0), (.map none), (.int .i64 0)] l := by kernel_rfl
@[simp] theorem fa_58_3 (b o : Nat) {w : World} {K : Value → World → Prop} : fa P 58 (.pointer (some ⟨b, o, none⟩)) 3 w K = K (.pointer (some ⟨b, o + 3, none⟩)) w := by rw [fa_eq]; simp
@[simp] theorem fa_58_2 (b o : Nat) {w : World} {K : Value → World → Prop} : fa P 58 (.pointer (some ⟨b, o, none⟩)) 2 w K = K (.pointer (some ⟨b, o + 2, none⟩)) w := by rw [fa_eq]; simp
@[simp] theorem sz_32 : szO P 32 = some 1 := by kernel_rfl
@[simp] theorem fd_63_1 (cs : Array Value) {w : World} {K : Value → World → Prop} : fd P 63 (.agg cs) 1 w K = onv (cs[1]?) fun v => K v w := by kernel_rfl
@[simp] theorem fa_36_3 (b o : Nat) {w : World} {K : Value → World → Prop} : fa P 36 (.pointer (some ⟨b, o, none⟩)) 3 w K = K (.pointer (some ⟨b, o + 3, none⟩)) w := by rw [fa_eq]; simp
@[simp] theorem sz_9 : szO P 9 = some 1 := by kernel_rfl
@[simp] theorem slice_61 : sliceO P 61 = some 5 := by kernel_rfl
@[simp] theorem sz_5 : szO P 5 = some 1 := by kernel_rfl
@[simp] theorem by_5 : byO P 5 = some 1 := by kernel_rfl
@[simp] theorem zero_5 : zeroO P 5 = some (.int .u8 0) := by kernel_rfl
@[simp] theorem notI_9 : notI P 9 = true := by kernel_rfl
@[simp] theorem isPtr_55 : isPtr P 55 = true := by kernel_rfl
@[simp] theorem field_81_0 : fieldO P 81 0 = some (0, 1, 3) := by kernel_rfl
@[simp] theorem field_81_1 : fieldO P 81 1 = some (1, 1, 3) := by kernel_rfl
@[simp] theorem field_81_2 : fieldO P 81 2 = some (2, 1, 78) := by kernel_rfl
@[simp] theorem field_81_3 : fieldO P 81 3 = some (3, 1, 79) := by kernel_rfl
@[simp] theorem field_81_4 : fieldO P 81 4 = some (4, 1, 79) := by kernel_rfl
@[simp] theorem fa_81_0 (b o : Nat) {w : World} {K : Value → World → Prop} : fa P 81 (.pointer (some ⟨b, o, none⟩)) 0 w K = K (.pointer (some ⟨b, o + 0, none⟩)) w := by rw [fa_eq]; simp
@[simp] theorem fa_81_1 (b o : Nat) {w : World} {K : Value → World → Prop} : fa P 81 (.pointer (some ⟨b, o, none⟩)) 1 w K = K (.pointer (some ⟨b, o + 1, none⟩)) w := by rw [fa_eq]; simp
@[simp] theorem fa_81_2 (b o : Nat) {w : World} {K : Value → World → Prop} : fa P 81 (.pointer (some ⟨b, o, none⟩)) 2 w K = K (.pointer (some ⟨b, o + 2, none⟩)) w := by rw [fa_eq]; simp
@[simp] theorem ldO_78 (o : Option Obj) (i : Nat) : ldO P 78 o i = cellO o i := by kernel_rfl
@[simp] theorem fa_81_3 (b o : Nat) {w : World} {K : Value → World → Prop} : fa P 81 (.pointer (some ⟨b, o, none⟩)) 3 w K = K (.pointer (some ⟨b, o + 3, none⟩)) w := by rw [fa_eq]; simp
@[simp] theorem ldO_79 (o : Option Obj) (i : Nat) : ldO P 79 o i = cellO o i := by kernel_rfl
@[simp] theorem fa_81_4 (b o : Nat) {w : World} {K : Value → World → Prop} : fa P 81 (.pointer (some ⟨b, o, none⟩)) 4 w K = K (.pointer (some ⟨b, o + 4, none⟩)) w := by rw [fa_eq]; simp
@[simp] theorem zero_81 : zeroO P 81 = some (.agg #[(.int .i64 0), (.int .i64 0), (.map none), (.pointer none), (.pointer none)]) := by kernel_rfl
@[simp] theorem bdO_81 (l : List (Nat × Value)) : bdO P 81 l = Instr.fill (fun i => match fieldO P 81 i with | some f => some (f.1, f.2.1) | none => none) #[(.int .i64 0), (.int .i64 0), (.map none), (.pointer none), (.pointer none)] l := by kernel_rfl
@[simp] theorem notI_61 : notI P 61 = true := by kernel_rfl
@[simp] theorem al_86 {w : World} {K : Value → World → Prop} : al P 86 w K = K (.pointer (some ⟨w.heap.size, 0, none⟩)) (pu w (.cells #[(.int .i64 0), (.int .i64 0), (.int .i64 0)] 86 (0, 0))) := by kernel_rfl
@[simp] theorem sz_86 : szO P 86 = some 3 := by kernel_rfl
@[simp] theorem field_86_0 : fieldO P 86 0 = some (0, 2, 84) := by kernel_rfl
@[simp] theorem field_86_1 : fieldO P 86 1 = some (2, 1, 3) := by kernel_rfl
@[simp] theorem fa_86_0 (b o : Nat) {w : World} {K : Value → World → Prop} : fa P 86 (.pointer (some ⟨b, o, none⟩)) 0 w K = K (.pointer (some ⟨b, o + 0, none⟩)) w := by rw [fa_eq]; simp
@[simp] theorem ldO_84 (o : Option Obj) (i : Nat) : ldO P 84 o i = (cellsO o i 2).map .agg := by kernel_rfl
@[simp] theorem fa_86_1 (b o : Nat) {w : World} {K : Value → World → Prop} : fa P 86 (.pointer (some ⟨b, o, none⟩)) 1 w K = K (.pointer (some ⟨b, o + 2, none⟩)) w := by rw [fa_eq]; simp
@[simp] theorem len_56 (r : Nat) (ty : TypeId) {w : World} {K : Value → World → Prop} : len P #[56] ty [.map (some r)] w K = match w.heap[r]? with | some (.map es _) => K (.int .i64 es.size) w | _ => False := by kernel_rfl
@[simp] theorem fa_58_5 (b o : Nat) {w : World} {K : Value → World → Prop} : fa P 58 (.pointer (some ⟨b, o, none⟩)) 5 w K = K (.pointer (some ⟨b, o + 5, none⟩)) w := by rw [fa_eq]; simp
@[simp] theorem ms_61 (k j : IntKind) (l c : Int) {w : World} {K : Value → World → Prop} : ms P 61 (.int k l) (.int j c) w K = ((0 ≤ l ∧ l ≤ c ∧ ((1 : Nat) : Int) * c ≤ 281474976710656 ∧ c ≤ 9223372036854775807) ∧ K (.slice (some ⟨w.heap.size, 0, none⟩) l.toNat c.toNat) (pu w (.cells (repC #[(.int .u8 0)] (c.toNat * 1)) 5 (0, 0)))) := by kernel_rfl
@[simp] theorem len_61 (a : Option Addr) (n c : Nat) (ty : TypeId) {w : World} {K : Value → World → Prop} : len P #[61] ty [.slice a n c] w K = K (.int .i64 n) w := by kernel_rfl
@[simp] theorem sl_61 (a : Option Addr) (n c : Nat) (l h m : Option Value) {w : World} {K : Value → World → Prop} : sl P 61 (.slice a n c) l h m w K = slcut true n c l h m fun lo hi mx => K (.slice (if mx = lo then a else a.map (·.add (lo * 1))) (hi - lo) (mx - lo)) w := by kernel_rfl
@[simp] theorem isPtr_79 : isPtr P 79 = true := by kernel_rfl
@[simp] theorem field_101_0 : fieldO P 101 0 = some (0, 1, 98) := by kernel_rfl
@[simp] theorem field_101_1 : fieldO P 101 1 = some (1, 1, 3) := by kernel_rfl
@[simp] theorem field_101_2 : fieldO P 101 2 = some (2, 1, 3) := by kernel_rfl
@[simp] theorem fa_101_0 (b o : Nat) {w : World} {K : Value → World → Prop} : fa P 101 (.pointer (some ⟨b, o, none⟩)) 0 w K = K (.pointer (some ⟨b, o + 0, none⟩)) w := by rw [fa_eq]; simp
@[simp] theorem ldO_98 (o : Option Obj) (i : Nat) : ldO P 98 o i = cellO o i := by kernel_rfl
@[simp] theorem fa_101_1 (b o : Nat) {w : World} {K : Value → World → Prop} : fa P 101 (.pointer (some ⟨b, o, none⟩)) 1 w K = K (.pointer (some ⟨b, o + 1, none⟩)) w := by rw [fa_eq]; simp
@[simp] theorem fa_101_2 (b o : Nat) {w : World} {K : Value → World → Prop} : fa P 101 (.pointer (some ⟨b, o, none⟩)) 2 w K = K (.pointer (some ⟨b, o + 2, none⟩)) w := by rw [fa_eq]; simp
@[simp] theorem zero_101 : zeroO P 101 = some (.agg #[(.slice none 0 0), (.int .i64 0), (.int .i64 0)]) := by kernel_rfl
@[simp] theorem bdO_101 (l : List (Nat × Value)) : bdO P 101 l = Instr.fill (fun i => match fieldO P 101 i with | some f => some (f.1, f.2.1) | none => none) #[(.slice none 0 0), (.int .i64 0), (.int .i64 0)] l := by kernel_rfl
@[simp] theorem zero_86 : zeroO P 86 = some (.agg #[(.int .i64 0), (.int .i64 0), (.int .i64 0)]) := by kernel_rfl
@[simp] theorem bdO_86 (l : List (Nat × Value)) : bdO P 86 l = Instr.fill (fun i => match fieldO P 86 i with | some f => some (f.1, f.2.1) | none => none) #[(.int .i64 0), (.int .i64 0), (.int .i64 0)] l := by kernel_rfl
@[simp] theorem al_103 {w : World} {K : Value → World → Prop} : al P 103 w K = K (.pointer (some ⟨w.heap.size, 0, none⟩)) (pu w (.cells #[(.int .i64 0), (.int .i64 0), (.int .i64 0), (.int .i64 0)] 103 (0, 0))) := by kernel_rfl
@[simp] theorem sz_103 : szO P 103 = some 4 := by kernel_rfl
@[simp] theorem field_103_0 : fieldO P 103 0 = some (0, 1, 3) := by kernel_rfl
@[simp] theorem field_103_1 : fieldO P 103 1 = some (1, 1, 3) := by kernel_rfl
@[simp] theorem field_103_2 : fieldO P 103 2 = some (2, 1, 3) := by kernel_rfl
@[simp] theorem field_103_3 : fieldO P 103 3 = some (3, 1, 3) := by kernel_rfl
@[simp] theorem fa_103_1 (b o : Nat) {w : World} {K : Value → World → Prop} : fa P 103 (.pointer (some ⟨b, o, none⟩)) 1 w K = K (.pointer (some ⟨b, o + 1, none⟩)) w := by rw [fa_eq]; simp
@[simp] theorem key_78 : keyO P 78 = some (.i64, 86) := by kernel_rfl
@[simp] theorem fa_103_0 (b o : Nat) {w : World} {K : Value → World → Prop} : fa P 103 (.pointer (some ⟨b, o, none⟩)) 0 w K = K (.pointer (some ⟨b, o + 0, none⟩)) w := by rw [fa_eq]; simp
@[simp] theorem fa_103_2 (b o : Nat) {w : World} {K : Value → World → Prop} : fa P 103 (.pointer (some ⟨b, o, none⟩)) 2 w K = K (.pointer (some ⟨b, o + 2, none⟩)) w := by rw [fa_eq]; simp
@[simp] theorem fa_103_3 (b o : Nat) {w : World} {K : Value → World → Prop} : fa P 103 (.pointer (some ⟨b, o, none⟩)) 3 w K = K (.pointer (some ⟨b, o + 3, none⟩)) w := by rw [fa_eq]; simp
@[simp] theorem zero_84 : zeroO P 84 = some (.agg #[(.int .i64 0), (.int .i64 0)]) := by kernel_rfl
@[simp] theorem field_84_0 : fieldO P 84 0 = some (0, 1, 3) := by kernel_rfl
@[simp] theorem field_84_1 : fieldO P 84 1 = some (1, 1, 3) := by kernel_rfl
@[simp] theorem bdO_84 (l : List (Nat × Value)) : bdO P 84 l = Instr.fill (fun i => match fieldO P 84 i with | some f => some (f.1, f.2.1) | none => none) #[(.int .i64 0), (.int .i64 0)] l := by kernel_rfl
@[simp] theorem ldO_86 (o : Option Obj) (i : Nat) : ldO P 86 o i = (cellsO o i 3).map .agg := by kernel_rfl
@[simp] theorem fa_84_0 (b o : Nat) {w : World} {K : Value → World → Prop} : fa P 84 (.pointer (some ⟨b, o, none⟩)) 0 w K = K (.pointer (some ⟨b, o + 0, none⟩)) w := by rw [fa_eq]; simp
@[simp] theorem u_107 : P.underlying 107 = some (.float .f64) := by kernel_rfl
@[simp] theorem ms_98 (k j : IntKind) (l c : Int) {w : World} {K : Value → World → Prop} : ms P 98 (.int k l) (.int j c) w K = ((0 ≤ l ∧ l ≤ c ∧ ((8 : Nat) : Int) * c ≤ 281474976710656 ∧ c ≤ 9223372036854775807) ∧ K (.slice (some ⟨w.heap.size, 0, none⟩) l.toNat c.toNat) (pu w (.cells (repC #[(.int .u64 0)] (c.toNat * 1)) 32 (0, 0)))) := by kernel_rfl
@[simp] theorem slice_98 : sliceO P 98 = some 32 := by kernel_rfl
@[simp] theorem ia_98 (b o n c : Nat) (k : IntKind) (i : Int) {w : World} {K : Value → World → Prop} : ia P 98 (.slice (some ⟨b, o, none⟩) n c) (.int k i) w K = ((0 ≤ i ∧ i < (n : Int)) ∧ K (.pointer (some ⟨b, o + i.toNat * 1, none⟩)) w) := by kernel_rfl
@[simp] theorem zero_103 : zeroO P 103 = some (.agg #[(.int .i64 0), (.int .i64 0), (.int .i64 0), (.int .i64 0)]) := by kernel_rfl
@[simp] theorem bdO_103 (l : List (Nat × Value)) : bdO P 103 l = Instr.fill (fun i => match fieldO P 103 i with | some f => some (f.1, f.2.1) | none => none) #[(.int .i64 0), (.int .i64 0), (.int .i64 0), (.int .i64 0)] l := by kernel_rfl
@[simp] theorem zero_32 : zeroO P 32 = some (.int .u64 0) := by kernel_rfl
@[simp] theorem by_32 : byO P 32 = some 8 := by kernel_rfl
@[simp] theorem notI_98 : notI P 98 = true := by kernel_rfl
@[simp] theorem u_32 : P.underlying 32 = some (.int .u64) := by kernel_rfl
@[simp] theorem ldO_103 (o : Option Obj) (i : Nat) : ldO P 103 o i = (cellsO o i 4).map .agg := by kernel_rfl
@[simp] theorem u_2 : P.underlying 2 = some (.int .i64) := by kernel_rfl
@[simp] theorem len_98 (a : Option Addr) (n c : Nat) (ty : TypeId) {w : World} {K : Value → World → Prop} : len P #[98] ty [.slice a n c] w K = K (.int .i64 n) w := by kernel_rfl
@[simp] theorem ia_116 (b o : Nat) (k : IntKind) (i : Int) {w : World} {K : Value → World → Prop} : ia P 116 (.pointer (some ⟨b, o, none⟩)) (.int k i) w K = ((0 ≤ i ∧ i < 64) ∧ K (.pointer (some ⟨b, o + i.toNat * 1, none⟩)) w) := by kernel_rfl
@[simp] theorem ldO_5 (o : Option Obj) (i : Nat) : ldO P 5 o i = cellO o i := by kernel_rfl
@[simp] theorem u_5 : P.underlying 5 = some (.int .u8) := by kernel_rfl
end Go.Proofs.YtiffjkgbjklgnaaDoor
