/-
  Layer 4: two structs compared: heads of superblocks, snapshots. No condition.
-/
import Derived.Test.YteogkgjajhdhjaaSuperB
import Derived.Laws.StructEq
namespace Go.Proofs.Yteogkgjajhdhjaa
open Go.RowKit

section
variable {P : Program} {d : Nat} {xs ys : Array Value} {f : Field} {fs : List Field} {a b : Value} {r s : Bool} {w : World}
/-- one field more is compared -/
theorem eqFields_more (hn : f.name ≠ "_") (ha : (part f.type xs f.offset).run P w = .ok a w) (hb : (part f.type ys f.offset).run P w = .ok b w) (he : (Op.equalIn d f.type a b).run P w = .ok r w) (hr : (Op.eqFields d xs ys fs).run P w = .ok s w) :
    (Op.eqFields d xs ys (f :: fs)).run P w = .ok (r && s) w := by
  rw [Op.eqFields]
  simp only [if_pos hn, Sem.run_bind, ha, hb, he, Result.andThen_ok]
  cases r
  · simp
  · simpa using hr
theorem eqFields_none : (Op.eqFields d xs ys []).run P w = .ok true w := by simp [Op.eqFields]
theorem eqStruct {t : TypeId} {fs : Array Field} (hu : P.underlying t = some (.struct fs)) (hp : P.stoodInHeld t = false) (h : (Op.eqFields d xs ys fs.toList).run P w = .ok r w) : (Op.equalIn (d + 1) t (.agg xs) (.agg ys)).run P w = .ok r w := by
  have hf : P.fieldsOf t = fs := by simp [Program.fieldsOf, hu]
  rw [run_equalIn_struct (P := P) w d t xs ys (by rw [hf]; exact hu) hp, hf]
  exact h
end

theorem neqHead (w : World) (a b c d a' b' c' d' : Int) : (binOp .neq 103 (.agg #[.int .i64 a, .int .i64 b, .int .i64 c, .int .i64 d]) (.agg #[.int .i64 a', .int .i64 b', .int .i64 c', .int .i64 d'])).run Try.prog w = .ok (.bool (!(a == a' && (b == b' && (c == c' && (d == d' && true)))))) w := by
  have h : (Op.equalIn 10000 103 (.agg #[.int .i64 a, .int .i64 b, .int .i64 c, .int .i64 d]) (.agg #[.int .i64 a', .int .i64 b', .int .i64 c', .int .i64 d'])).run Try.prog w = .ok (a == a' && (b == b' && (c == c' && (d == d' && true)))) w := by
    refine eqStruct (d := 9999) Try.underlying103 (by kernel_rfl) ?_
    refine eqFields_more (by decide) (by go_simp; rfl) (by go_simp; rfl) (by go_simp) ?_
    refine eqFields_more (by decide) (by go_simp; rfl) (by go_simp; rfl) (by go_simp) ?_
    refine eqFields_more (by decide) (by go_simp; rfl) (by go_simp; rfl) (by go_simp) ?_
    exact eqFields_more (by decide) (by go_simp; rfl) (by go_simp; rfl) (by go_simp) eqFields_none
  rw [run_neq_struct, h]
  rfl

theorem neqSnap (w : World) (a a' : ByteArray) (b c b' c' : Int) : (binOp .neq 81 (.agg #[.string a, .int .i64 b, .int .i64 c]) (.agg #[.string a', .int .i64 b', .int .i64 c'])).run Try.prog w = .ok (.bool (!(a.toList == a'.toList && (b == b' && (c == c' && true))))) w := by
  have h : (Op.equalIn 10000 81 (.agg #[.string a, .int .i64 b, .int .i64 c]) (.agg #[.string a', .int .i64 b', .int .i64 c'])).run Try.prog w = .ok (a.toList == a'.toList && (b == b' && (c == c' && true))) w := by
    refine eqStruct (d := 9999) Try.underlying81 (by kernel_rfl) ?_
    refine eqFields_more (by decide) (by go_simp; rfl) (by go_simp; rfl) (by go_simp) ?_
    refine eqFields_more (by decide) (by go_simp; rfl) (by go_simp; rfl) (by go_simp) ?_
    exact eqFields_more (by decide) (by go_simp; rfl) (by go_simp; rfl) (by go_simp) eqFields_none
  rw [run_neq_struct, h]
  rfl
end Go.Proofs.Yteogkgjajhdhjaa
