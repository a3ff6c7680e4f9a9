/-
  Layer 4: within, root and Right of package super: what each tells. No condition but that the snapshots can be read.
-/
import Derived.Test.YteogkgjajhdhjaaSuperFns
import Derived.Test.YteogkgjajhdhjaaOpen2
import Derived.Deep.DeepCutAuto
import Derived.Deep.CutBlock
namespace Go.Proofs.Yteogkgjajhdhjaa
open Go.RowKit

theorem within_any (n a b : Int) (w : World) : Calls Try.prog 78 #[.int .i64 n, .int .i64 a, .int .i64 b] w fun e w' => e = .returned (.bool (Sp.within n a b)) ∧ w = w' := by
  by_cases h1 : a ≤ n
  · by_cases h2 : n ≤ b
    · have e : Sp.within n a b = true := by simp [Sp.within, h1, h2]
      rw [e]
      clear e
      go_enter Try.func78, Try.ntmps78
      go_wp2
      go_ret
      exact ⟨by simp, rfl⟩
    · have e : Sp.within n a b = false := by simp [Sp.within, h2]
      rw [e]
      clear e
      go_enter Try.func78, Try.ntmps78
      go_wp2
      go_ret
      exact ⟨by simp, rfl⟩
  · have e : Sp.within n a b = false := by simp [Sp.within, h1]
    rw [e]
    clear e
    go_enter Try.func78, Try.ntmps78
    go_wp2
    go_ret
    exact ⟨by simp, rfl⟩

theorem root_any (n : Int) (w : World) : Calls Try.prog 79 #[.int .i64 n] w fun e w' => e = .returned (.bool (Sp.rootB n)) ∧ w = w' := by
  by_cases h1 : n = 0
  · subst h1
    go_enter Try.func79, Try.ntmps79
    go_wp2
    go_ret
    exact ⟨by simp [Sp.rootB], rfl⟩
  · have hb : (n == 0) = false := by simpa using h1
    have e : Sp.rootB n = Sp.within n 2 4294967295 := by simp [Sp.rootB, Sp.within, hb]
    rw [e]
    clear e h1
    go_enter Try.func79, Try.ntmps79
    go_wp2_with (go_at_call 78; refine (within_any _ _ _ _).mono ?_; rintro e w' ⟨rfl, rfl⟩)
    go_ret
    exact ⟨by simp, rfl⟩
end Go.Proofs.Yteogkgjajhdhjaa
