/-
  Two inodes compared by '==': what the answer is. No condition.
-/
import Derived.Test.YteogkgjajhdhjaaDoorInVar
namespace Go.Proofs.YteogkgjajhdhjaaDoor
open Go.RowKit

section
variable {P : Program} {d : Nat} {xs ys : Array Value} {f : Field} {fs : List Field} {a b : Value} {r s : Bool} {w : World}
theorem eqFields_more (hn : f.name ≠ "_") (ha : (part f.type xs f.offset).run P w = .ok a w) (hb : (part f.type ys f.offset).run P w = .ok b w) (he : (Op.equalIn d f.type a b).run P w = .ok r w) (hr : (Op.eqFields d xs ys fs).run P w = .ok s w) :
    (Op.eqFields d xs ys (f :: fs)).run P w = .ok (r && s) w := by
  rw [Op.eqFields]
  simp only [if_pos hn, Sem.run_bind, ha, hb, he, Result.andThen_ok]
  cases r
  · simp
  · simpa using hr
theorem eqFields_none : (Op.eqFields d xs ys []).run P w = .ok true w := by simp [Op.eqFields]
theorem eqStruct {t : TypeId} {fs : Array Field} (hu : P.underlying t = some (.struct fs)) (hp : P.stoodInHeld t = false) (h : (Op.eqFields d xs ys fs.toList).run P w = .ok r w) : (Op.equalIn (d + 1) t (.agg xs) (.agg ys)).run P w = .ok r w := by
  have hf : P.fieldsOf t = fs := by simp [Program.fieldsOf, hu]
  rw [run_equalIn_struct (P := P) w d t xs ys (by rw [hf]; exact hu) hp, hf]
  exact h
end

theorem eqNode (w : World) (a a' : Bool) (b c b' c' : Int) : (binOp .eql 28 (.agg #[.bool a, .int .i64 b, .int .i64 c]) (.agg #[.bool a', .int .i64 b', .int .i64 c'])).run Tryd.prog w = .ok (.bool (a == a' && (b == b' && (c == c' && true)))) w := by
  have h : (Op.equalIn 10000 28 (.agg #[.bool a, .int .i64 b, .int .i64 c]) (.agg #[.bool a', .int .i64 b', .int .i64 c'])).run Tryd.prog w = .ok (a == a' && (b == b' && (c == c' && true))) w := by
    refine eqStruct (d := 9999) Tryd.underlying28 (by kernel_rfl) ?_
    refine eqFields_more (by decide) (by go_simp; rfl) (by go_simp; rfl) (by go_simp) ?_
    refine eqFields_more (by decide) (by go_simp; rfl) (by go_simp; rfl) (by go_simp) ?_
    exact eqFields_more (by decide) (by go_simp; rfl) (by go_simp; rfl) (by go_simp) eqFields_none
  rw [run_eql_struct, h]
  rfl

theorem eqNode_no (w : World) {a a' : Bool} {b c b' c' : Int} (h : ¬ (a = a' ∧ b = b' ∧ c = c')) : (binOp .eql 28 (.agg #[.bool a, .int .i64 b, .int .i64 c]) (.agg #[.bool a', .int .i64 b', .int .i64 c'])).run Tryd.prog w = .ok (.bool false) w := by
  rw [eqNode]
  congr 2
  rw [Bool.eq_false_iff]
  intro e
  apply h
  simpa using e

theorem eqNode_yes (w : World) {a a' : Bool} {b c b' c' : Int} (h : a = a' ∧ b = b' ∧ c = c') : (binOp .eql 28 (.agg #[.bool a, .int .i64 b, .int .i64 c]) (.agg #[.bool a', .int .i64 b', .int .i64 c'])).run Tryd.prog w = .ok (.bool true) w := by
  rw [eqNode]
  congr 2
  obtain ⟨rfl, rfl, rfl⟩ := h
  simp

end Go.Proofs.YteogkgjajhdhjaaDoor
