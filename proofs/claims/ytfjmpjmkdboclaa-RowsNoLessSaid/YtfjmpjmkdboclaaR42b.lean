/-
  What '==' answers at two spots. Condition: none.
-/
import Derived.Laws.StructEq
import Derived.Test.YtfjmpjmkdboclaaR42
namespace Go.Proofs.Ytfjmpjmkdboclaa
open Go.RowKit

theorem fields66 : Try.prog.underlying 66 = some (.struct (Try.prog.fieldsOf 66)) := by kernel_rfl
theorem stood66 : Try.prog.stoodInHeld 66 = false := by kernel_rfl
theorem guard66 : Try.prog.eqGuardType Try.prog.depth 66 = false := by kernel_rfl
theorem fieldl66 : (Try.prog.fieldsOf 66).toList.map (fun f => ((f.name != "_" : Bool), (f.type : Nat), (f.offset : Nat))) = [(true, 3, 0), (true, 3, 1)] := by kernel_rfl
theorem und3i : Try.prog.underlying 3 = some (.int .i64) := by kernel_rfl
theorem eqg66 (w : World) (op : BinOp) (x y : Operand) (xs ys : Array Value) : (eqGuard op 66 x y (.agg xs) (.agg ys)).run Try.prog w = .ok () w := run_eqGuard_agg w op 66 x y xs ys guard66
theorem eq66 (w : World) (a b c d : Int) : (binOp .eql 66 (.agg #[.int .i64 a, .int .i64 b]) (.agg #[.int .i64 c, .int .i64 d])).run Try.prog w = .ok (.bool (a == c && b == d)) w := by
  rw [run_eql_struct, run_equalIn_agg w 9999 66 _ _ fields66 stood66]
  have hf := fieldl66
  generalize (Try.prog.fieldsOf 66).toList = fs at *
  match fs, hf with
  | [], hf => simp at hf
  | [_], hf => simp at hf
  | _ :: _ :: _ :: _, hf => simp at hf
  | [f, g], hf =>
    simp only [List.map_cons, List.map_nil, List.cons.injEq, Prod.mk.injEq, and_true] at hf
    obtain ⟨⟨hf1, hf2, hf3⟩, hg1, hg2, hg3⟩ := hf
    have p3 : ∀ (cs : Array Value) (off : Nat) (v : Value) (W : World), cs[off]? = some v → (part 3 cs off).run Try.prog W = .ok v W := fun cs off v W hv => by simp [part, isAgg, run_underlying und3i, hv]
    simp only [bne_iff_ne] at hf1 hg1
    simp only [Op.eqFields, hf1, hg1, hf2, hf3, hg2, hg3, ne_eq, not_false_eq_true, if_true, Sem.run_bind]
    rw [p3 _ 0 (.int .i64 a) _ rfl]
    simp only [Result.andThen_ok]
    rw [p3 _ 0 (.int .i64 c) _ rfl]
    simp only [Result.andThen_ok]
    rw [run_equalIn_int _ _ _ _ _ _ _ und3i]
    simp only [Result.andThen_ok]
    by_cases h1 : a = c
    · subst h1
      simp only [beq_self_eq_true, Bool.not_true, Bool.false_eq_true, if_false, Sem.run_bind, Bool.true_and]
      rw [p3 _ 1 (.int .i64 b) _ rfl]
      simp only [Result.andThen_ok]
      rw [p3 _ 1 (.int .i64 d) _ rfl]
      simp only [Result.andThen_ok]
      rw [run_equalIn_int _ _ _ _ _ _ _ und3i]
      simp only [Result.andThen_ok]
      by_cases h2 : b = d
      · subst h2
        simp
      · simp [h2]
    · simp [h1]
end Go.Proofs.Ytfjmpjmkdboclaa
