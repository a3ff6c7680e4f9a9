/-
  The small case that each law of layer 10 begins with: it holds. No condition but that the library's tables are laid.
-/
import Derived.Test.YtbmbjedpeepnfaaDoorNmC
namespace Go.Proofs.YtbmbjedpeepnfaaDoor
open Go.RowKit

theorem SplitOut.yes {s : ByteArray} {w w' : World} {e : Ending} {l : List ByteArray} (h : SplitOut s w w' e) (hl : Nm.split s = some l) : ∃ ao, e = .returned (.tuple #[.slice ao l.length l.length, .bool true]) ∧ Strs w' ao l ∧ Keep [] w w' := by
  obtain ⟨l', ok, ao, he, h1, h2, _, h3⟩ := h
  rcases h1 with ⟨rfl, h⟩ | ⟨_, h, _⟩
  · rw [hl] at h
    obtain rfl := Option.some.inj h
    exact ⟨ao, he, h2, h3⟩
  · rw [hl] at h; cases h

theorem SplitOut.len {s : ByteArray} {w w' : World} {e : Ending} {l : List ByteArray} (h : SplitOut s w w' e) (hl : Nm.split s = some l) : l.length ≤ 1000 := by
  obtain ⟨l', ok, ao, _, h1, _, h2, _⟩ := h
  rcases h1 with ⟨_, h⟩ | ⟨_, h, _⟩
  · rw [hl] at h
    rw [Option.some.inj h]; exact h2
  · rw [hl] at h; cases h

theorem SplitOut.no {s : ByteArray} {w w' : World} {e : Ending} (h : SplitOut s w w' e) (hl : Nm.split s = none) : ∃ ao, e = .returned (.tuple #[.slice ao 0 0, .bool false]) ∧ Keep [] w w' := by
  obtain ⟨l', ok, ao, he, h1, h2, _, h3⟩ := h
  rcases h1 with ⟨_, h⟩ | ⟨rfl, h, rfl⟩
  · rw [hl] at h; cases h
  · exact ⟨ao, he, h3⟩

theorem ex1 : Nm.split ⟨#[47, 97, 47, 98, 195, 169]⟩ = some [⟨#[97]⟩, ⟨#[98, 195, 169]⟩] := by decide +kernel
theorem ex2 : Nm.split ⟨#[47, 97, 47]⟩ = none := by decide +kernel
theorem ex3 : Nm.short ⟨#[97, 98, 99, 100]⟩ 3 = ⟨#[97, 98, 226, 128, 166]⟩ := by decide +kernel
theorem ex4 : Lib.runeCount ⟨#[98, 195, 169]⟩ = 2 := by decide +kernel
theorem ex5 : Nm.right ⟨#[97]⟩ = true := by decide +kernel
theorem ex6 : Nm.below ⟨#[47, 97, 47, 98]⟩ ⟨#[47, 97]⟩ = true := by decide +kernel

set_option maxRecDepth 100000 in
set_option maxHeartbeats 3200000 in
theorem shown_any (w : World) (T : Tabs w) : Calls Tryd.prog 26 #[] w fun e w' => e = .returned (.bool true) ∧ Keep [] w w' := by
  have HT := Lib.hid T
  clear T
  go_enter Tryd.func26, Tryd.ntmps26
  go_wp2_with fail
  refine (split_any _ w (by decide) HT.out).mono ?_
  intro e w1 o
  obtain ⟨aa, rfl, sa, k1⟩ := o.yes ex1
  rcases sa with ⟨_, h⟩ | ⟨g, rfl, B, _⟩
  · cases h
  go_wp2_with fail
  refine (split_any _ w1 (by decide) (HT.out.step k1)).mono ?_
  intro e w2 o
  obtain ⟨ab, rfl, k2⟩ := o.no ex2
  have K2 := k1.trans k2 (by simp)
  replace B := B.keep k2 (by simp)
  clear k1 k2
  have c0 := B.cell 0
  have c1 := B.cell 1
  simp only [List.map_cons, List.getElem?_cons_zero, List.getElem?_cons_succ] at c0 c1
  go_wp2_with fail
  clear c0 c1
  refine (short_any _ 3 w2 (by decide) (by decide)).mono ?_
  rintro e w3 ⟨rfl, k3⟩
  rw [ex3]
  have K3 := K2.trans k3 (by simp)
  go_wp2_with fail
  refine (width_any _ w3 (by decide)).mono ?_
  rintro e w4 ⟨rfl, k4⟩
  rw [ex4]
  have K4 := K3.trans k4 (by simp)
  go_wp2_with fail
  refine (right_any _ w4 (by decide) (HT.out.step K4)).mono ?_
  rintro e w5 ⟨rfl, k5⟩
  rw [ex5]
  have K5 := K4.trans k5 (by simp)
  go_wp2_with fail
  refine (below_any _ _ w5 (by decide) (by decide) (HT.out.step K5)).mono ?_
  rintro e w6 ⟨rfl, k6⟩
  rw [ex6]
  have K6 := K5.trans k6 (by simp)
  go_wp2
  go_ret
  exact ⟨by simp, K6⟩
end Go.Proofs.YtbmbjedpeepnfaaDoor
