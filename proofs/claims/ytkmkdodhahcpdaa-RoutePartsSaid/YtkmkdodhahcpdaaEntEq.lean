/- Entries compared. -/
import Derived.Test.YtkmkdodhahcpdaaArrEq
import Derived.Laws.StructEq
namespace Go.Proofs.Ytkmkdodhahcpdaa
open Go.RowKit Go.Fb
set_option maxRecDepth 100000 in
theorem val_eq (d : Nat) (a b : Int) (w : World) : (Op.equalIn (d + 2) 44 (.agg #[.int .i64 a, .int .i64 b]) (.agg #[.int .i64 a, .int .i64 b])).run Try.prog w = .ok true w := by
  rw [run_equalIn_struct w (d + 1) 44 _ _ (by kernel_rfl) (by kernel_rfl)]
  simp [Program.fieldsOf, Try.underlying44]
  simp [Op.eqFields, part, isAgg, run_underlying Try.underlying3, run_equalIn_int w d 3 .i64 .i64 _ _ Try.underlying3]
theorem valinfo : (Try.prog.info? 44).map (fun i => (i.zero, i.size, i.bytes)) = some (some (.agg #[.int .i64 0, .int .i64 0]), 2, 16) := by kernel_rfl
set_option maxRecDepth 100000 in
theorem vals_eq (d : Nat) (a b c e : Int) (w : World) : (Op.equalIn (d + 3) 45 (.agg #[.int .i64 a, .int .i64 b, .int .i64 c, .int .i64 e]) (.agg #[.int .i64 a, .int .i64 b, .int .i64 c, .int .i64 e])).run Try.prog w = .ok true w := by
  obtain ⟨i, hi, hz, hsz, hby⟩ := info_parts valinfo
  rw [run_equalIn_array w (d + 2) _ _ Try.underlying45 hi]
  have hc : Try.prog.cellsOf 44 = 2 := by kernel_rfl
  have hsO : ∀ w, (sizeOf 44).run Try.prog w = .ok 2 w := fun w => by kernel_rfl
  have p0 : ∀ w, (part 44 #[.int .i64 a, .int .i64 b, .int .i64 c, .int .i64 e] 0).run Try.prog w = .ok (.agg #[.int .i64 a, .int .i64 b]) w := fun w => by
    simp [part, isAgg, run_underlying Try.underlying44, hsO]
  have p1 : ∀ w, (part 44 #[.int .i64 a, .int .i64 b, .int .i64 c, .int .i64 e] 2).run Try.prog w = .ok (.agg #[.int .i64 c, .int .i64 e]) w := fun w => by
    simp [part, isAgg, run_underlying Try.underlying44, hsO]
  simp [hc, List.range_succ, Op.eqItems, p0, p1, val_eq]
set_option maxRecDepth 100000 in
theorem ent_eq (x0 x1 x2 x3 x4 x5 : Int) (w : World) : (Op.equalIn 10000 47 (.agg #[.int .i64 x0, .int .i64 x1, .int .i64 x2, .int .i64 x3, .int .i64 x4, .int .i64 x5]) (.agg #[.int .i64 x0, .int .i64 x1, .int .i64 x2, .int .i64 x3, .int .i64 x4, .int .i64 x5])).run Try.prog w = .ok true w := by
  rw [run_equalIn_struct w 9999 47 _ _ (by kernel_rfl) (by kernel_rfl)]
  have hsO : ∀ w, (sizeOf 45).run Try.prog w = .ok 4 w := fun w => by kernel_rfl
  have p2 : ∀ w, (part 45 #[.int .i64 x0, .int .i64 x1, .int .i64 x2, .int .i64 x3, .int .i64 x4, .int .i64 x5] 2).run Try.prog w = .ok (.agg #[.int .i64 x2, .int .i64 x3, .int .i64 x4, .int .i64 x5]) w := fun w => by
    simp [part, isAgg, run_underlying Try.underlying45, hsO]
  have p0 : ∀ w, (part 3 #[.int .i64 x0, .int .i64 x1, .int .i64 x2, .int .i64 x3, .int .i64 x4, .int .i64 x5] 0).run Try.prog w = .ok (.int .i64 x0) w := fun w => by
    simp [part, isAgg, run_underlying Try.underlying3]
  have p1 : ∀ w, (part 3 #[.int .i64 x0, .int .i64 x1, .int .i64 x2, .int .i64 x3, .int .i64 x4, .int .i64 x5] 1).run Try.prog w = .ok (.int .i64 x1) w := fun w => by
    simp [part, isAgg, run_underlying Try.underlying3]
  have v := vals_eq 9996 x2 x3 x4 x5 w
  have e0 := run_equalIn_int w 9998 3 .i64 .i64 x0 x0 Try.underlying3
  have e1 := run_equalIn_int w 9998 3 .i64 .i64 x1 x1 Try.underlying3
  simp [Program.fieldsOf, Try.underlying47, Op.eqFields, p0, p1, p2, v, e0, e1]
theorem ent_neq (x0 x1 x2 x3 x4 x5 : Int) (w : World) : (binOp .neq 47 (.agg #[.int .i64 x0, .int .i64 x1, .int .i64 x2, .int .i64 x3, .int .i64 x4, .int .i64 x5]) (.agg #[.int .i64 x0, .int .i64 x1, .int .i64 x2, .int .i64 x3, .int .i64 x4, .int .i64 x5])).run Try.prog w = .ok (.bool false) w := by
  simp [binOp, Op.equal, Op.maxDepth, ent_eq]
end Go.Proofs.Ytkmkdodhahcpdaa
