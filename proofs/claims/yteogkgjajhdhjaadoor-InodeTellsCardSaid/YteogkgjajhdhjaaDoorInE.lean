/-
  The small case with which each statement of layer 11 begins: it works. No condition.
-/
import Derived.Test.YteogkgjajhdhjaaDoorInC
import Derived.Test.YteogkgjajhdhjaaDoorInD
namespace Go.Proofs.YteogkgjajhdhjaaDoor
open Go.RowKit

theorem numbered_ok (s : ByteArray) (w : World) (hs : s.size ≤ 140737488351232) (n : Int) (h : In.numOf s.data.toList = some n) : Calls Tryd.prog 17 #[.string s] w fun e w' => e = .returned (.tuple #[.int .i64 n, .bool true]) ∧ Keep [] w w' := by
  refine (numbered_any s w hs).mono ?_
  rintro e w' ⟨k, ⟨m, hm, he⟩ | ⟨hm, he⟩⟩
  · rw [h] at hm; cases hm; exact ⟨he, k⟩
  · rw [h] at hm; cases hm
theorem numbered_no (s : ByteArray) (w : World) (hs : s.size ≤ 140737488351232) (h : In.numOf s.data.toList = none) : Calls Tryd.prog 17 #[.string s] w fun e w' => e = .returned (.tuple #[.int .i64 0, .bool false]) ∧ Keep [] w w' := by
  refine (numbered_any s w hs).mono ?_
  rintro e w' ⟨k, ⟨m, hm, he⟩ | ⟨hm, he⟩⟩
  · rw [h] at hm; cases hm
  · exact ⟨he, k⟩
theorem of_ok (s : ByteArray) (w : World) (hs : s.size ≤ 140737488351232) (x : In.Nd) (h : In.of s.data.toList = some x) : Calls Tryd.prog 13 #[.string s] w fun e w' => e = .returned (.tuple #[.agg #[.bool x.dir, .int .i64 x.links, .int .i64 x.size], .bool true]) ∧ Keep [] w w' := by
  refine (of_any s w hs).mono ?_
  rintro e w' ⟨k, ⟨m, hm, he⟩ | ⟨hm, he⟩⟩
  · rw [h] at hm; cases hm; exact ⟨he, k⟩
  · rw [h] at hm; cases hm
theorem of_no (s : ByteArray) (w : World) (hs : s.size ≤ 140737488351232) (h : In.of s.data.toList = none) : Calls Tryd.prog 13 #[.string s] w fun e w' => e = .returned (.tuple #[.agg #[.bool false, .int .i64 0, .int .i64 0], .bool false]) ∧ Keep [] w w' := by
  refine (of_any s w hs).mono ?_
  rintro e w' ⟨k, ⟨m, hm, he⟩ | ⟨hm, he⟩⟩
  · rw [h] at hm; cases hm
  · exact ⟨he, k⟩

set_option maxRecDepth 100000 in
set_option maxHeartbeats 1600000 in
theorem shown_any (w : World) : Calls Tryd.prog 8 #[] w fun e w' => e = .returned (.bool true) ∧ Keep [] w w' := by
  go_enter Tryd.func8, Tryd.ntmps8
  go_wp2_with fail
  refine (value_ok false 1 5 w (by decide)).mono ?_
  rintro e w1 ⟨rfl, k1⟩
  rw [show txt (In.value false 1 5) = ⟨#[2, 0, 0, 0, 1, 0, 0, 0, 5]⟩ from rfl]
  go_wp2_with fail
  refine (numbered_ok _ w1 (by decide) 7 (by decide)).mono ?_
  rintro e w2 ⟨rfl, k2⟩
  go_wp2_with fail
  refine (of_no _ w2 (by decide) (by decide)).mono ?_
  rintro e w3 ⟨rfl, k3⟩
  have K3 := (k1.trans k2 (by simp)).trans k3 (by simp)
  clear k1 k2 k3
  go_wp2_with fail
  refine (trim_any ⟨#[97, 0]⟩ _ (by decide)).mono ?_
  rintro e w4 ⟨rfl, rfl⟩
  rw [show txt (In.trim (⟨#[97, 0]⟩ : ByteArray).data.toList) = ⟨#[97]⟩ by decide]
  go_wp2_with fail
  refine (full_any ⟨#[97]⟩ _ (by decide)).mono ?_
  rintro e w4 ⟨rfl, k4⟩
  go_wp2
  go_ret
  exact ⟨rfl, (K3.alloc _).trans k4 (by simp)⟩
end Go.Proofs.YteogkgjajhdhjaaDoor
