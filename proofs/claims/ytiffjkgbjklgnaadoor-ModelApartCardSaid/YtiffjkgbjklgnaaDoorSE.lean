/-
  Structs, compared.
-/
import Derived.Test.YtiffjkgbjklgnaaDoorMem
import Derived.Laws.StructEq
namespace Go.Eng
open Go

def eqFl (P : Program) (xs ys : Array Value) : List Field → Option Bool
  | [] => some true
  | f :: r => match f.name == "_" with
    | true => none
    | false => match one P f.type with
      | false => none
      | true => match P.underlying f.type with
        | some (.int _) => match xs[f.offset]?, ys[f.offset]? with
          | some (.int k a), some (.int k' b) => match decide (k = k') with
            | true => match eqFl P xs ys r with
              | some c => some (decide (a = b) && c)
              | none => none
            | false => none
          | _, _ => none
        | some .string => match xs[f.offset]?, ys[f.offset]? with
          | some (.string a), some (.string b) => match eqFl P xs ys r with
              | some c => some ((a.toList == b.toList) && c)
              | none => none
          | _, _ => none
        | _ => none

section
variable {P : Program} {w : World} {K : Value → World → Prop}
theorem part_one {t : TypeId} (h : one P t = true) {cs : Array Value} {i : Nat} {v : Value} (hv : cs[i]? = some v) : (part t cs i).run P w = .ok v w := by
  unfold part
  rw [run_bind', run_isAgg h]
  simp only [Result.andThen_ok, Bool.false_eq_true, if_false, hv]
  rfl
theorem eqFields_run {d : Nat} {xs ys : Array Value} : ∀ {fs : List Field} {b : Bool}, eqFl P xs ys fs = some b → (Op.eqFields (d + 1) xs ys fs).run P w = .ok b w
  | [], b, h => by
    unfold eqFl at h; injection h with h; subst h
    simp [Op.eqFields]
  | f :: r, b, h => by
    unfold eqFl at h
    split at h
    · cases h
    · rename_i hn
      have hn' : f.name ≠ "_" := by intro e; rw [e] at hn; exact absurd hn (by decide)
      split at h
      · cases h
      · rename_i h1
        split at h
        · rename_i u hu
          split at h
          · rename_i k a k' b' hx hy
            split at h
            · rename_i hkk
              have hkk := of_decide_eq_true hkk
              subst hkk
              split at h
              · rename_i c hc
                injection h with h; subst h
                unfold Op.eqFields
                rw [if_pos hn']
                simp only [Sem.run_bind, part_one h1 hx, part_one h1 hy, Result.andThen_ok, run_equalIn_int w d f.type k u a b' hu]
                have e : (a == b') = decide (a = b') := rfl
                rw [e]
                cases decide (a = b')
                · simp
                · simp [eqFields_run hc]
              · cases h
            · cases h
          · cases h
        · rename_i hu
          split at h
          · rename_i a b' hx hy
            split at h
            · rename_i c hc
              injection h with h; subst h
              unfold Op.eqFields
              rw [if_pos hn']
              simp only [Sem.run_bind, part_one h1 hx, part_one h1 hy, Result.andThen_ok, run_equalIn_string w d f.type a b' hu]
              cases a.toList == b'.toList
              · simp
              · simp [eqFields_run hc]
            · cases h
          · cases h
        · cases h
theorem eqx_struct {t : TypeId} {x y : Operand} {xs ys : Array Value} {b : Bool} (ht : P.underlying t = some (.struct (P.fieldsOf t))) (hp : P.stoodInHeld t = false) (hm : P.eqGuardType P.depth t = false) (h : eqFl P xs ys (P.fieldsOf t).toList = some b) : eqx P .eql t x y (.agg xs) (.agg ys) w K = K (.bool b) w := by
  refine vS_eq ?_
  rw [Sem.run_bind, run_eqGuard_agg w .eql t x y xs ys hm, Result.andThen_ok, run_eql_struct, run_equalIn_agg w 9999 t xs ys ht hp, eqFields_run (d := 9998) h]
  rfl
theorem neqx_struct {t : TypeId} {x y : Operand} {xs ys : Array Value} {b : Bool} (ht : P.underlying t = some (.struct (P.fieldsOf t))) (hp : P.stoodInHeld t = false) (hm : P.eqGuardType P.depth t = false) (h : eqFl P xs ys (P.fieldsOf t).toList = some b) : eqx P .neq t x y (.agg xs) (.agg ys) w K = K (.bool (!b)) w := by
  refine vS_eq ?_
  rw [Sem.run_bind, run_eqGuard_agg w .neq t x y xs ys hm, Result.andThen_ok, run_neq_struct, run_equalIn_agg w 9999 t xs ys ht hp, eqFields_run (d := 9998) h]
  rfl
end
end Go.Eng
