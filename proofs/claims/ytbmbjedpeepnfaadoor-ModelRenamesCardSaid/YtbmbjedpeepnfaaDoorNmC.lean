/-
  Package name: Below; the small case that each law begins with. No condition but that a text is not too long, and that the library's tables are laid.
-/
import Derived.Test.YtbmbjedpeepnfaaDoorNmB
namespace Go.Proofs.YtbmbjedpeepnfaaDoor
open Go.RowKit

namespace Nm
/-- is a path below another one? -/
def below (s t : ByteArray) : Bool :=
  match split s, split t with
  | some a, some b => decide (b.length ≤ a.length) && decide (a.take b.length = b)
  | _, _ => false
end Nm

/-- Equal of a beginning of one row of texts and another one -/
theorem equal_any (aa ab : Option Addr) (a b : List ByteArray) (w : World) (ha : Strs w aa a) (hb : Strs w ab b) (hla : a.length ≤ 1000) (hlb : b.length ≤ 1000) (hle : b.length ≤ a.length) (c d : Nat) :
    Calls Tryd.prog 57 #[.slice aa b.length c, .slice ab b.length d] w fun e w' => e = .returned (.bool (decide (a.take b.length = b))) ∧ Keep [] w w' := by
  rcases hb with ⟨rfl, rfl⟩ | ⟨bb, rfl, Bb, _⟩
  · refine (Tryd.slices_Equal_string_empty aa none c 0 d w (by omega)).mono ?_
    rintro e w' ⟨rfl, rfl⟩
    exact ⟨by simp, Keep.refl _ _⟩
  · rcases ha with ⟨rfl, rfl⟩ | ⟨ba, rfl, Ba, _⟩
    · obtain rfl : b = [] := List.eq_nil_of_length_eq_zero (by simpa using hle)
      refine (Tryd.slices_Equal_string_empty none (some ⟨bb, 0, none⟩) c 0 d w (by omega)).mono ?_
      rintro e w' ⟨rfl, rfl⟩
      exact ⟨by simp, Keep.refl _ _⟩
    · refine (Tryd.slices_Equal_string ba 0 b.length c bb 0 b.length d a b w hle (Nat.le_refl _) (by omega) (by omega) (fun j hj => ?_) (fun j hj => ?_)).mono ?_
      · rw [Nat.zero_add, Ba.cell j, List.getElem?_map, List.getD, List.getElem?_eq_getElem hj]; rfl
      · rw [Nat.zero_add, Bb.cell j, List.getElem?_map, List.getD, List.getElem?_eq_getElem hj]; rfl
      · rintro e w' ⟨rfl, q, rfl⟩
        exact ⟨by rw [List.take_length], (Keep.refl _ _).drewN q⟩

set_option maxRecDepth 100000 in
set_option maxHeartbeats 3200000 in
theorem below_any (s t : ByteArray) (w : World) (hs : s.size ≤ 9223372036854775807) (ht : t.size ≤ 9223372036854775807) (T : Tabs w) : Calls Tryd.prog 30 #[.string s, .string t] w fun e w' => e = .returned (.bool (Nm.below s t)) ∧ Keep [] w w' := by
  have cs := split_any s w hs T
  have HT := Lib.hid T
  clear T
  go_enter Tryd.func30, Tryd.ntmps30
  go_wp2_with fail
  refine cs.mono ?_
  rintro e w1 ⟨a, oka, aa, rfl, ha, sa, la, k1⟩
  have ct := split_any t w1 ht (HT.out.step k1)
  have HA := Lib.hid ha
  clear cs HT ha
  go_wp2_with fail
  refine ct.mono ?_
  rintro e w2 ⟨b, okb, ab, rfl, hb, sb, lb, k2⟩
  have HB := Lib.hid hb
  have K2 := k1.trans k2 (by simp)
  have sa2 := sa.keep k2
  clear ct hb sa k1 k2
  cases oka with
  | false =>
    have hx : Nm.below s t = false := by
      rcases HA.out with ⟨h, _⟩ | ⟨_, h, _⟩
      · cases h
      · unfold Nm.below; rw [h]
    have HX := Lib.hid hx
    clear hx
    go_wp2
    go_ret
    exact ⟨ret_bool HX.out.symm, K2⟩
  | true =>
    have ha : Nm.split s = some a := by
      rcases HA.out with ⟨_, h⟩ | ⟨h, _⟩
      · exact h
      · cases h
    have HA2 := Lib.hid ha
    clear ha HA
    cases okb with
    | false =>
      have hx : Nm.below s t = false := by
        rcases HB.out with ⟨h, _⟩ | ⟨_, h, _⟩
        · cases h
        · unfold Nm.below; rw [h, HA2.out]
      have HX := Lib.hid hx
      clear hx
      go_wp2
      go_ret
      exact ⟨ret_bool HX.out.symm, K2⟩
    | true =>
      have hb : Nm.split t = some b := by
        rcases HB.out with ⟨_, h⟩ | ⟨h, _⟩
        · exact h
        · cases h
      have hx : Nm.below s t = (decide (b.length ≤ a.length) && decide (a.take b.length = b)) := by unfold Nm.below; rw [HA2.out, hb]
      have HX := Lib.hid hx
      clear hx hb HB HA2
      by_cases hle : b.length ≤ a.length
      · have cE := fun c d => equal_any aa ab a b w2 sa2 sb la lb hle c d
        have hleI : (b.length : Int) ≤ (a.length : Int) := by omega
        have haa : aa = none ∨ ∃ g, aa = some ⟨g, 0, none⟩ := by
          rcases sa2 with ⟨h, _⟩ | ⟨g, h, _⟩
          · exact Or.inl h
          · exact Or.inr ⟨g, h⟩
        clear sa2 sb
        rcases haa with rfl | ⟨g, rfl⟩
        all_goals
          go_wp2_with (go_at_call 57; refine (cE _ _).mono ?_; rintro e w3 ⟨rfl, k3⟩)
          go_ret
          refine ⟨ret_bool ?_, K2.trans k3 (by simp)⟩
          rw [HX.out]
          simp [hle]
      · have hleI : ¬ (b.length : Int) ≤ (a.length : Int) := by omega
        have hx2 : Nm.below s t = false := by rw [HX.out]; simp [hle]
        have HX2 := Lib.hid hx2
        clear hx2
        go_wp2
        go_ret
        exact ⟨ret_bool HX2.out.symm, K2⟩

end Go.Proofs.YtbmbjedpeepnfaaDoor
