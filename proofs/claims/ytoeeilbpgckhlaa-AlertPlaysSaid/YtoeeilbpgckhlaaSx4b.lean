/- A symbolic run: structs that are compared. -/
import Derived.Test.YtoeeilbpgckhlaaSx4
import Derived.Laws.StructEq
namespace Go.Sx
open Go

def eqFs (P : Program) (eq : TypeId → Value → Value → Option Bool) (xs ys : Array Value) : List Field → Option Bool
  | [] => some true
  | f :: fs =>
    match f.name == "_" with
    | true => eqFs P eq xs ys fs
    | false =>
      match pureRun P (part f.type xs f.offset), pureRun P (part f.type ys f.offset) with
      | some a, some b =>
        match eq f.type a b, eqFs P eq xs ys fs with
        | some p, some q => some (p && q)
        | _, _ => none
      | _, _ => none
/-- Whether two values of a type are equal. -/
def eqIn (P : Program) : Nat → TypeId → Value → Value → Option Bool
  | 0, _, _, _ => none
  | d + 1, t, x, y =>
    match P.underlying t, x, y with
    | some .bool, .bool a, .bool b => some (a == b)
    | some (.int _), .int k a, .int k' b => match decide (k = k') with | true => some (a == b) | false => none
    | some .string, .string a, .string b => some (a.toList == b.toList)
    | some (.struct fs), .agg xs, .agg ys => match P.stoodInHeld t with | false => eqFs P (eqIn P d) xs ys fs.toList | true => none
    | _, _, _ => none
theorem eqFs_run {P : Program} {d : Nat} (ih : ∀ t x y b, eqIn P d t x y = some b → ∀ w, (Op.equalIn d t x y).run P w = .ok b w) {xs ys : Array Value} : ∀ {fs : List Field} {b : Bool}, eqFs P (eqIn P d) xs ys fs = some b →
    ∀ w, (Op.eqFields d xs ys fs).run P w = .ok b w
  | [], b, h, w => by cases h; simp [Op.eqFields]
  | f :: fs, b, h, w => by
    simp only [eqFs] at h
    split at h
    · rename_i hn
      have hn : f.name = "_" := by simpa using hn
      simp only [Op.eqFields, hn]
      exact eqFs_run ih h w
    · rename_i hn
      have hn : f.name ≠ "_" := by simpa using hn
      split at h
      · rename_i a b' ha hb
        split at h
        · rename_i p q hp hq
          cases h
          simp only [Op.eqFields, hn, ne_eq, not_false_eq_true, if_true, Sem.run_bind, pureRun_run ha w, pureRun_run hb w, Result.andThen_ok, ih _ _ _ _ hp w]
          cases p with
          | true => simp [eqFs_run ih hq w]
          | false => simp
        · cases h
      · cases h
theorem eqIn_run {P : Program} : ∀ (d : Nat) (t : TypeId) (x y : Value) (b : Bool), eqIn P d t x y = some b → ∀ w, (Op.equalIn d t x y).run P w = .ok b w
  | 0, _, _, _, _, h, _ => by simp [eqIn] at h
  | d + 1, t, x, y, b, h, w => by
    simp only [eqIn] at h
    split at h
    · rename_i hu; cases h; exact run_equalIn_bool w d t _ _ hu
    · rename_i _ k a k' b' hu
      split at h
      · rename_i he
        have he : k = k' := by simpa using he
        cases h; subst he; exact run_equalIn_int w d t _ _ _ _ hu
      · cases h
    · rename_i hu; cases h; exact run_equalIn_string w d t _ _ hu
    · rename_i fs xs ys hu
      split at h
      · rename_i hs
        have hf : P.fieldsOf t = fs := by simp [Program.fieldsOf, hu]
        rw [run_equalIn_struct w d t xs ys (by rw [hf]; exact hu) hs, hf]
        exact eqFs_run (fun t x y b => eqIn_run d t x y b) h w
      · cases h
    · cases h

/-- Structs by '==' or '!='. -/
def eqAgg (P : Program) (op : BinOp) (t : TypeId) (a b : Value) : Option Bool :=
  match op with
  | .eql => match P.eqGuardType P.depth t with | false => eqIn P 10000 t a b | true => none
  | .neq => match P.eqGuardType P.depth t with | false => (match eqIn P 10000 t a b with | some r => some (!r) | none => none) | true => none
  | _ => none
theorem eqAgg_run {P : Program} {op : BinOp} {t : TypeId} {x y : Operand} {xs ys : Array Value} {r : Bool} (h : eqAgg P op t (.agg xs) (.agg ys) = some r) (w : World) :
    (do eqGuard op t x y (.agg xs) (.agg ys); binOp op t (.agg xs) (.agg ys) : Sem Value).run P w = .ok (.bool r) w := by
  unfold eqAgg at h
  split at h
  · split at h
    · rename_i hg
      rw [Sem.run_bind, run_eqGuard_agg _ _ _ _ _ _ _ hg]
      simp only [Result.andThen_ok]
      rw [run_eql_struct, eqIn_run _ _ _ _ _ h]
      rfl
    · cases h
  · split at h
    · rename_i hg
      split at h
      · rename_i r' hr
        cases h
        rw [Sem.run_bind, run_eqGuard_agg _ _ _ _ _ _ _ hg]
        simp only [Result.andThen_ok]
        rw [run_neq_struct, eqIn_run _ _ _ _ _ hr]
        rfl
      · cases h
    · cases h
  · cases h
end Go.Sx
