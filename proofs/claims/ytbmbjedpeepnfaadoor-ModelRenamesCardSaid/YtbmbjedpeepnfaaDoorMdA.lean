/-
  Package model: dir, directory, New, first, numbers. No condition but that an op's numbers and texts are such.
-/
import Derived.Test.YtbmbjedpeepnfaaDoorMdMem
import Derived.Test.YtbmbjedpeepnfaaDoorRegion
namespace Go.Proofs.YtbmbjedpeepnfaaDoor
open Go.RowKit

/-- an op as a value -/
def opL (o : Md.Op) : List Value := [.int .i64 o.kind, .string o.path, .string o.to', .int .i64 o.off, .int .i64 o.n, .string o.data]

/-- an op after it was cut -/
structure OpOk (o : Md.Op) : Prop where
  k0 : -9223372036854775808 ≤ o.kind
  k1 : o.kind ≤ 9223372036854775807
  p : o.path.size ≤ 300
  t : o.to'.size ≤ 300
  o0 : -9223372036854775808 ≤ o.off
  o1 : o.off ≤ 9223372036854775807
  n0 : -9223372036854775808 ≤ o.n
  n1 : o.n ≤ 9223372036854775807
  d : o.data.size ≤ 5000

theorem neqMap (m : Option Nat) (W : World) : (binOp BinOp.neq 80 (.map m) (.map none)).run Tryd.prog W = .ok (.bool m.isSome) W := by cases m <;> kernel_rfl

set_option maxRecDepth 100000 in
theorem dir_any (b : Nat) (m : Option Nat) (dv lv : Value) (w : World) (B : Blk w b [.map m, dv, lv] 82) : Calls Tryd.prog 63 #[.pointer (some ⟨b, 0, none⟩)] w fun e w' => e = .returned (.bool m.isSome) ∧ w = w' := by
  have q0 := B.cell 0
  simp only [List.getElem?_cons_zero] at q0
  go_enter Tryd.func63, Tryd.ntmps63
  have hn := neqMap m
  go_wp2
  go_ret
  exact ⟨rfl, rfl⟩

set_option maxRecDepth 100000 in
theorem directory_any (w : World) : Calls Tryd.prog 38 #[] w fun e w' => e = .returned (.pointer (some ⟨w.heap.size + 1, 0, none⟩)) ∧ w' = (w.alloc (.map #[] 0)).alloc (.cells #[.map (some w.heap.size), .slice none 0 0, .int .i64 0] 82) := by
  go_enter Tryd.func38, Tryd.ntmps38
  have hmm := @run_makeMap Tryd.prog
  go_wp2
  go_ret
  exact ⟨rfl, rfl⟩

set_option maxRecDepth 100000 in
theorem first_any (a b : Bool) (w : World) : Calls Tryd.prog 66 #[.bool a, .bool b] w fun e w' => e = .returned (.int .i64 (Md.first a b)) ∧ w = w' := by
  go_enter Tryd.func66, Tryd.ntmps66
  cases a with
  | true => go_wp2; go_ret; exact ⟨rfl, rfl⟩
  | false =>
    cases b with
    | true => go_wp2; go_ret; exact ⟨rfl, rfl⟩
    | false => go_wp2; go_ret; exact ⟨rfl, rfl⟩

/-- a new file system: its root alone -/
theorem new_any (w : World) : Calls Tryd.prog 18 #[] w fun e w' => ∃ mb ms, e = .returned (.pointer (some ⟨mb, 0, none⟩)) ∧ IsM w' mb ms Md.new ∧ Keep [] w w' ∧ (∀ k ∈ fps ms, w.heap.size ≤ k) ∧ w.heap.size ≤ mb := by
  go_enter Tryd.func18, Tryd.ntmps18
  go_wp2_with (go_at_call 38; refine (directory_any w).mono ?_; rintro e w1 ⟨rfl, rfl⟩)
  go_ret
  refine ⟨_, [⟨w.heap.size + 1, some w.heap.size, .slice none 0 0⟩], rfl, ⟨?_, ⟨rfl, ?_, ?_⟩, by decide, ?_⟩, (((Keep.refl _ _).alloc _).alloc _).alloc _, ?_, ?_⟩
  · have B := Blk.new' ((w.alloc (.map #[] 0)).alloc (.cells #[.map (some w.heap.size), .slice none 0 0, .int .i64 0] 82)) [.pointer (some ⟨w.heap.size + 1, 0, none⟩)] 64
    rw [World.size_alloc, World.size_alloc] at B
    exact B
  · intro i x nd hx hn
    have hi : i = 0 := by
      have := (List.getElem?_eq_some_iff.1 hx).1
      simp at this
      exact this
    subst hi
    simp only [List.getElem?_cons_zero, Option.some.injEq] at hx
    have hn' : (⟨true, [], [], 0⟩ : Md.Nd) = nd := by simpa [Md.new] using hn
    subst hx hn'
    have B := ((Blk.new' (w.alloc (.map #[] 0)) [.map (some w.heap.size), .slice none 0 0, .int .i64 0] 82).alloc (.cells #[.pointer (some ⟨w.heap.size + 1, 0, none⟩)] 64))
    rw [World.size_alloc] at B
    refine ⟨B, DRow.nil _, Or.inr ⟨_, rfl, rfl, ?_⟩, ?_, ?_⟩
    · exact (NMap.new w).keep (((Keep.refl [] _).alloc _).alloc _) (by simp)
    · simp [rowOf, Value.ownBlock]
    · simp [rowOf, Value.ownBlock]
  · intro i j x y hij hx hy
    have h1 := (List.getElem?_eq_some_iff.1 hx).1
    have h2 := (List.getElem?_eq_some_iff.1 hy).1
    simp at h1 h2
    omega
  · simp [fps, NdM.fp, rowOf, Value.ownBlock]
    omega
  · intro k hk
    simp [fps, NdM.fp, rowOf, Value.ownBlock] at hk
    omega
  · omega
end Go.Proofs.YtbmbjedpeepnfaaDoor
