/- Chapter 10: whether two entries are the same, as the model has it. -/
import Derived.Test.YthkjgkdglphfcaaRows
import Derived.Test.YthkjgkdglphfcaaDirMay
import Derived.Laws.StructEq
import Derived.Tactics
import Derived.Tactics2
import Derived.WalkKit
namespace Go.Proofs.Ythkjgkdglphfcaa
set_option linter.unusedVariables false
set_option linter.unusedSimpArgs false
open Go.RowKit

theorem ent_eq (x y : Ent) (w : World) : (Op.equalIn 10000 35 (.agg #[.string (str x.name), .int .i64 x.kind, .int .i64 x.ref]) (.agg #[.string (str y.name), .int .i64 y.kind, .int .i64 y.ref])).run Try.prog w = .ok (decide (x = y)) w := by
  have hn : decide (x = y) = ((x.name == y.name) && ((x.kind == y.kind) && (x.ref == y.ref))) := by
    cases x; cases y
    rw [Bool.eq_iff_iff]
    simp
  rw [hn]
  have h1 := str_toList x.name
  have h2 := str_toList y.name
  cases hb1 : x.name == y.name <;> cases hb2 : x.kind == y.kind <;> cases hb3 : x.ref == y.ref
  all_goals
    go_simp
theorem ent_neq (x y : Ent) (w : World) : (binOp .neq 35 (.agg #[.string (str x.name), .int .i64 x.kind, .int .i64 x.ref]) (.agg #[.string (str y.name), .int .i64 y.kind, .int .i64 y.ref])).run Try.prog w = .ok (.bool (!decide (x = y))) w := by
  rw [run_neq_struct, ent_eq]; rfl
theorem ent_eql (x y : Ent) (w : World) : (binOp .eql 35 (.agg #[.string (str x.name), .int .i64 x.kind, .int .i64 x.ref]) (.agg #[.string (str y.name), .int .i64 y.kind, .int .i64 y.ref])).run Try.prog w = .ok (.bool (decide (x = y))) w := by
  rw [run_eql_struct, ent_eq]; rfl
end Go.Proofs.Ythkjgkdglphfcaa
