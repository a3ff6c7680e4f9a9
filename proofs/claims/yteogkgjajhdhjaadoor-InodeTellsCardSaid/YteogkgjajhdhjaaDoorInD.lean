/-
  Package inode: Trim, Full. No condition but that the text is not too long.
-/
import Derived.Test.YteogkgjajhdhjaaDoorInA
import Derived.Test.YteogkgjajhdhjaaDoorShelf
namespace Go.Proofs.YteogkgjajhdhjaaDoor
open Go.RowKit

namespace In
def trim (l : List UInt8) : List UInt8 := Lib.trimRightB (l.take 32) 0
def full (l : List UInt8) : List UInt8 := l.take 32 ++ List.replicate (32 - l.length) 0
end In

theorem ext32 (s : ByteArray) : (s.extract 0 (min (s.size : Int) 32).toNat).data.toList = s.data.toList.take 32 := by
  have hl : s.data.toList.length = s.size := by rw [Array.length_toList]; rfl
  rw [Lib.extract_data, List.drop_zero]
  by_cases h : s.size ≤ 32
  · rw [List.take_of_length_le (by omega), List.take_of_length_le (by omega)]
  · rw [show (min (s.size : Int) 32).toNat - 0 = 32 by omega]

theorem txt_of {t : ByteArray} {l : List UInt8} (h : t.data.toList = l) : t = txt l := by
  subst h
  cases t
  simp [txt]

set_option maxRecDepth 100000 in
set_option maxHeartbeats 800000 in
theorem trim_any (s : ByteArray) (w : World) (hs : s.size ≤ 9223372036854775807) : Calls Tryd.prog 9 #[.string s] w fun e w' => e = .returned (.string (txt (In.trim s.data.toList))) ∧ w = w' := by
  have he := ext32 s
  obtain ⟨t, ht⟩ : ∃ t, t = s.extract 0 (min (s.size : Int) 32).toNat := ⟨_, rfl⟩
  have hts : t.size ≤ 32 := by
    have h1 : t.data.toList.length = t.size := by rw [Array.length_toList]; rfl
    rw [← h1, ht, he, List.length_take]; omega
  rw [← ht] at he
  have HT := Lib.hid ht
  have HE := Lib.hid he
  clear ht he
  go_enter Tryd.func9, Tryd.ntmps9
  go_wp2_with fail
  rw [← HT.out]
  refine (Tryd.strings_TrimRight_one t 0 (by decide) w (by omega)).mono ?_
  rintro e w' ⟨rfl, rfl⟩
  go_wp2
  go_ret
  refine ⟨?_, rfl⟩
  rw [HE.out]
  rfl

set_option maxRecDepth 100000 in
set_option maxHeartbeats 800000 in
theorem full_any (s : ByteArray) (w : World) (hs : s.size ≤ 9223372036854775807) : Calls Tryd.prog 10 #[.string s] w fun e w' => e = .returned (.string (txt (In.full s.data.toList))) ∧ Keep [] w w' := by
  have he := ext32 s
  obtain ⟨t, ht⟩ : ∃ t, t = s.extract 0 (min (s.size : Int) 32).toNat := ⟨_, rfl⟩
  have hl : s.data.toList.length = s.size := by rw [Array.length_toList]; rfl
  have hts : t.size ≤ 32 := by
    have h1 : t.data.toList.length = t.size := by rw [Array.length_toList]; rfl
    rw [← h1, ht, he, List.length_take]; omega
  rw [← ht] at he
  have HT := Lib.hid ht
  have HE := Lib.hid he
  have HL := Lib.hid hl
  clear ht he hl
  go_enter Tryd.func10, Tryd.ntmps10
  go_wp2_with fail
  rw [← HT.out]
  rw [show (32 : Int) - ((min (min (s.size : Int) 32).toNat s.size : Nat) : Int) = ((32 - s.size : Nat) : Int) by omega]
  refine (Tryd.strings_Repeat ⟨#[0]⟩ (32 - s.size) w (by omega) (by show 1 * _ ≤ _; omega)).mono ?_
  rintro e w' ⟨rfl, hb⟩
  obtain ⟨z, hz⟩ : ∃ z, z = Lib.repeatL (⟨#[0]⟩ : ByteArray).data.toList (32 - s.size) := ⟨_, rfl⟩
  have hzl : z.length ≤ 32 := by rw [hz, Lib.repeatL_length]; show _ * 1 ≤ _; omega
  rw [← hz]
  have HZ := Lib.hid hz
  clear hz
  go_wp2
  go_ret
  suffices fin : t ++ (⟨z.toArray⟩ : ByteArray) = txt (In.full s.data.toList) by
    exact ⟨show Ending.returned (.string (t ++ (⟨z.toArray⟩ : ByteArray))) = _ by rw [fin], Keep.ofBelow hb⟩
  apply txt_of
  have h1 : ([0] : List UInt8) = List.replicate 1 0 := rfl
  have hz := HZ.out
  rw [h1, Lib.repeatL_replicate, Nat.mul_one] at hz
  simp [In.full, HE.out, HL.out, hz]
end Go.Proofs.YteogkgjajhdhjaaDoor
