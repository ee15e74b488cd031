/- What '==' says of two arrays of three numbers and of two events; how such values are built. -/
import Derived.Test.YtnncomhgclffaaaERef
import Derived.Test.YtnncomhgclffaaaWEqStruct
import Derived.Laws.StructEq
import Derived.Laws.Tables
import Derived.Laws.Cover2
import Derived.KernelRfl
namespace Go.Proofs.Ytnncomhgclffaaa.EV
open Go.RowKit Go.Proofs.YtnncomhgclffaaaW.PrintWords Go.Proofs.YtnncomhgclffaaaL Go.Proofs.YtnncomhgclffaaaL.Ev

theorem eq60 (n : Nat) (a b c d e f : Int) (w : World) : (Op.equalIn (n + 2) 60 (.agg #[.int .i64 a, .int .i64 b, .int .i64 c]) (.agg #[.int .i64 d, .int .i64 e, .int .i64 f])).run Try.prog w = .ok (a == d && (b == e && c == f)) w := by
  have u3 := Try.underlying3
  have a3 := Try.isAgg3
  have z3 := Try.sizeOf3
  rw [Op.equalIn]
  simp only [Sem.run_bind, run_underlying Try.underlying60, Result.andThen_ok]
  simp only [Std.Legacy.Range.forIn_eq_forIn_range', Std.Legacy.Range.size, Nat.sub_zero, Nat.add_sub_cancel, Nat.div_one, List.range'_succ, List.range'_zero, List.forIn_cons, List.forIn_nil]
  go_simp
  by_cases h1 : a = d <;> by_cases h2 : b = e <;> by_cases h3 : c = f <;> simp [h1, h2, h3]

theorem eq62 (n : Nat) (k a b c v k' d e f v' : Int) (w : World) : (Op.equalIn (n + 3) 62 (.agg #[.int .i64 k, .int .i64 a, .int .i64 b, .int .i64 c, .int .i64 v]) (.agg #[.int .i64 k', .int .i64 d, .int .i64 e, .int .i64 f, .int .i64 v'])).run Try.prog w = .ok (k == k' && ((a == d && (b == e && c == f)) && v == v')) w := by
  have u3 := Try.underlying3
  have a3 := Try.isAgg3
  have z3 := Try.sizeOf3
  refine eqA_of Try.underlying62 (by kernel_rfl) ?_
  refine eqf_cons (by rfl) (by go_simp <;> rfl) (by go_simp <;> rfl) (by go_simp) ?_
  refine eqf_cons (by rfl) (by go_simp <;> rfl) (by go_simp <;> rfl) (eq60 _ _ _ _ _ _ _ _) ?_
  exact eqf_last (by rfl) (by go_simp <;> rfl) (by go_simp <;> rfl) (by go_simp)
set_option maxRecDepth 100000 in
theorem eq64 (n : Nat) (k a b c v k' d e f v' : Int) (w : World) : (Op.equalIn (n + 3) 64 (.agg #[.int .i64 k, .int .i64 a, .int .i64 b, .int .i64 c, .int .i64 v]) (.agg #[.int .i64 k', .int .i64 d, .int .i64 e, .int .i64 f, .int .i64 v'])).run Try.prog w = .ok (k == k' && ((a == d && (b == e && c == f)) && v == v')) w := by
  have u3 := Try.underlying3
  have a3 := Try.isAgg3
  have z3 := Try.sizeOf3
  refine eqA_of Try.underlying64 (by kernel_rfl) ?_
  refine eqf_cons (by rfl) (by go_simp <;> rfl) (by go_simp <;> rfl) (by go_simp) ?_
  refine eqf_cons (by rfl) (by go_simp <;> rfl) (by go_simp <;> rfl) (eq60 _ _ _ _ _ _ _ _) ?_
  exact eqf_last (by rfl) (by go_simp <;> rfl) (by go_simp <;> rfl) (by go_simp)
theorem build60z (w : World) : (Instr.build 60 #[]).run Try.prog w = .ok (.agg #[.int .i64 0, .int .i64 0, .int .i64 0]) w := run_build w 60 _ _ (by kernel_rfl)
theorem build60c (a b c : Int) (w : World) : (Instr.build 60 #[(0, .int .i64 a), (1, .int .i64 b), (2, .int .i64 c)]).run Try.prog w = .ok (.agg #[.int .i64 a, .int .i64 b, .int .i64 c]) w := run_build w 60 _ _ (by kernel_rfl)
theorem build62a (k a b c : Int) (w : World) : (Instr.build 62 #[(0, .int .i64 k), (1, .agg #[.int .i64 a, .int .i64 b, .int .i64 c])]).run Try.prog w = .ok (.agg #[.int .i64 k, .int .i64 a, .int .i64 b, .int .i64 c, .int .i64 0]) w := run_build w 62 _ _ (by kernel_rfl)
theorem build62b (k v : Int) (w : World) : (Instr.build 62 #[(0, .int .i64 k), (2, .int .i64 v)]).run Try.prog w = .ok (.agg #[.int .i64 k, .int .i64 0, .int .i64 0, .int .i64 0, .int .i64 v]) w := run_build w 62 _ _ (by kernel_rfl)
end Go.Proofs.Ytnncomhgclffaaa.EV
