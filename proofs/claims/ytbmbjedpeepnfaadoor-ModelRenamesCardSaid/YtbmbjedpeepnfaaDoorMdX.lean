/-
  Package model: paths: what is wrong with an op's paths. No condition but that the op was cut, and that the library's tables are laid.
-/
import Derived.Test.YtbmbjedpeepnfaaDoorMdA
import Derived.Test.YtbmbjedpeepnfaaDoorNmC
import Derived.Test.YtbmbjedpeepnfaaDoorShelfC
namespace Go.Proofs.YtbmbjedpeepnfaaDoor
open Go.RowKit

set_option maxRecDepth 100000 in
set_option maxHeartbeats 800000 in
theorem noPath_any (s : ByteArray) (w : World) (hs : s.size ≤ 9223372036854775807) (T : Tabs w) : Calls Tryd.prog 65 #[.string s] w fun e w' => e = .returned (.bool (Nm.split s).isNone) ∧ Keep [] w w' := by
  have c := split_any s w hs T
  go_enter Tryd.func65, Tryd.ntmps65
  go_wp2_with fail
  refine c.mono ?_
  rintro e w1 ⟨l, ok, ao, rfl, ho, _, _, k1⟩
  have hb : (Nm.split s).isNone = !ok := by
    rcases ho with ⟨h1, h2⟩ | ⟨h1, h2, _⟩ <;> rw [h1, h2] <;> rfl
  have HB := Lib.hid hb
  clear hb ho
  go_wp2
  go_ret
  exact ⟨by rw [HB.out]; rfl, k1⟩

/-- a text that is a path -/
def isPath (s : ByteArray) : Bool := (Nm.split s).isSome

set_option maxRecDepth 100000 in
set_option maxHeartbeats 1600000 in
theorem indexPath_any (l : List ByteArray) (b c : Nat) (w : World) (hl : l.length ≤ 1000) (hx : ∀ x ∈ l, x.size ≤ 1000000) (B : ∀ w', Keep [] w w' → ∀ (j : Nat) x, l[j]? = some x → w'.cell? ⟨b, j, none⟩ = some (.string x)) (T : Tabs w) :
    Calls Tryd.prog 77 #[.slice (some ⟨b, 0, none⟩) l.length c, .func (.func 65) #[] #[]] w fun e w' => (∃ i : Int, e = .returned (.int .i64 i) ∧ decide (0 ≤ i) = !l.all isPath) ∧ Keep [] w w' := by
  have HB := Lib.hid B
  clear B
  go_enter Tryd.func77, Tryd.ntmps77
  go_wp2_with fail
  go_loopw [8] (fun i wr => ∃ k : Nat, i = .int .i64 k ∧ k ≤ l.length ∧ Hid (∀ (j : Nat) x, j < k → l[j]? = some x → isPath x = true) ∧ Keep [] w wr) (fun i _ => l.length - (intOf i).toNat)
  case atStart => exact ⟨0, rfl, Nat.zero_le _, Lib.hid (fun j x h => absurd h (by omega)), Keep.refl _ _⟩
  case round =>
    obtain ⟨k, rfl, hk, ha, K⟩ := hrel
    by_cases hlt : k < l.length
    · obtain ⟨x, hxk⟩ : ∃ x, l[k]? = some x := ⟨_, List.getElem?_eq_getElem hlt⟩
      have hcell : wr.cell? ⟨b, k, none⟩ = some (.string x) := HB.out wr K k x hxk
      have hsz := hx x (List.mem_of_getElem? hxk)
      have cW := noPath_any x wr (by omega) (T.step K)
      have HXK := Lib.hid hxk
      have hpx : isPath x = !(Nm.split x).isNone := by unfold isPath; cases Nm.split x <;> rfl
      have HPX := Lib.hid hpx
      clear hxk hpx
      cases hr : (Nm.split x).isNone with
      | false =>
        rw [hr] at cW
        go_wp2_with (go_at_call 65; refine cW.mono ?_; rintro e w' ⟨rfl, k2⟩)
        have K2 := K.trans k2 (by simp)
        go_roundw
        case rel =>
          refine ⟨k + 1, by go_num, by omega, Lib.hid (fun j y h1 h2 => ?_), K2⟩
          by_cases hj : j = k
          · subst hj
            rw [HXK.out] at h2
            rw [← Option.some.inj h2, HPX.out, hr]; rfl
          · exact ha.out j y (by omega) h2
        case measure => simp [intOf]; omega
      | true =>
        rw [hr] at cW
        have hall : l.all isPath = false := by
          cases hq : l.all isPath with
          | false => rfl
          | true =>
            rw [List.all_eq_true] at hq
            have h := hq x (List.mem_of_getElem? HXK.out)
            rw [HPX.out, hr] at h
            cases h
        have HA := Lib.hid hall
        clear hall
        go_wp2_with (go_at_call 65; refine cW.mono ?_; rintro e w' ⟨rfl, k2⟩)
        have K2 := K.trans k2 (by simp)
        go_ret
        exact ⟨⟨k, rfl, by rw [HA.out]; simp⟩, K2⟩
    · have hall : l.all isPath = true := by
        rw [List.all_eq_true]
        intro x hx'
        obtain ⟨j, hj⟩ := List.mem_iff_getElem?.1 hx'
        exact ha.out j x (by have := (List.getElem?_eq_some_iff.1 hj).1; omega) hj
      have HA := Lib.hid hall
      clear hall
      go_wp2
      go_ret
      exact ⟨⟨-1, rfl, by rw [HA.out]; rfl⟩, K⟩

set_option maxRecDepth 100000 in
set_option maxHeartbeats 800000 in
theorem anyPath_any (l : List ByteArray) (b c : Nat) (w : World) (hl : l.length ≤ 1000) (hx : ∀ x ∈ l, x.size ≤ 1000000) (B : ∀ w', Keep [] w w' → ∀ (j : Nat) x, l[j]? = some x → w'.cell? ⟨b, j, none⟩ = some (.string x)) (T : Tabs w) :
    Calls Tryd.prog 54 #[.slice (some ⟨b, 0, none⟩) l.length c, .func (.func 65) #[] #[]] w fun e w' => e = .returned (.bool (!l.all isPath)) ∧ Keep [] w w' := by
  have cc := indexPath_any l b c w hl hx B T
  clear hx B T
  go_enter Tryd.func54, Tryd.ntmps54
  go_wp2_with fail
  refine cc.mono ?_
  rintro e w1 ⟨⟨i, rfl, hi⟩, k1⟩
  have HI := Lib.hid hi
  clear hi
  go_wp2
  go_ret
  exact ⟨ret_bool HI.out, k1⟩
end Go.Proofs.YtbmbjedpeepnfaaDoor
