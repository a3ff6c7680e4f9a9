/-
  Layer 4's document: get and cut: a number, and some bytes, at a place of a text. No condition but that the place is small.
-/
import Derived.Test.YteogkgjajhdhjaaSuperN
namespace Go.Proofs.Yteogkgjajhdhjaa
open Go.RowKit

/-- a number of so many bytes at a place, as the document reckons it -/
def getI (t : List UInt8) (at' : Nat) : Nat → Int
  | 0 => 0
  | k + 1 => match t[at' + k]? with
    | some c => wrap64 (wrap64 (getI t at' k * 256) + (c.toNat : Int))
    | none => wrap64 (getI t at' k * 256)

theorem getI_some {t : List UInt8} {at' k : Nat} {c : UInt8} (h : t[at' + k]? = some c) : getI t at' (k + 1) = wrap64 (wrap64 (getI t at' k * 256) + (c.toNat : Int)) := by simp only [getI, h]
theorem getI_none {t : List UInt8} {at' k : Nat} (h : t[at' + k]? = none) : getI t at' (k + 1) = wrap64 (getI t at' k * 256) := by simp only [getI, h]

set_option maxRecDepth 100000 in
set_option maxHeartbeats 1600000 in
theorem kget_any (t : List UInt8) (at' width : Nat) (w : World) (ht : t.length ≤ 1000000000) (ha : at' ≤ 1000000000) (hw : width ≤ 8) :
    Calls Try.prog 76 #[.string (txt t), .int .i64 at', .int .i64 width] w fun e w' => e = .returned (.int .i64 (getI t at' width)) ∧ w = w' := by
  have hsz := txt_len t
  go_enter Try.func76, Try.ntmps76
  go_wp2_with fail
  go_loop [7, 8] (fun s i => ∃ k : Nat, k ≤ width ∧ i = .int .i64 ((at' : Int) + k) ∧ s = .int .i64 (getI t at' k)) (fun _ i => width - ((intOf i).toNat - at'))
  case atStart => exact ⟨0, Nat.zero_le _, by simp, rfl⟩
  case round =>
    obtain ⟨k, hk, rfl, rfl⟩ := hrel
    by_cases hlt : k < width
    · cases hc : t[at' + k]? with
      | some c =>
        have hget := txt_at t (at' + k) c hc
        have hin := (List.getElem?_eq_some_iff.1 hc).1
        have HS := Lib.hid (getI_some hc)
        have hcl := c.toNat_lt
        have hinI : (at' : Int) + k < (t.length : Int) := by omega
        clear hc
        obtain ⟨g, hg⟩ : ∃ g, g = getI t at' k := ⟨_, rfl⟩
        rw [← hg] at HS ⊢
        clear hg
        go_wp2
        go_round
        case rel => exact ⟨k + 1, by omega, by go_num, by rw [HS.out]⟩
        case measure => simp [intOf]; omega
      | none =>
        have HS := Lib.hid (getI_none hc)
        have hin : t.length ≤ at' + k := by
          rcases Nat.lt_or_ge (at' + k) t.length with h | h
          · rw [List.getElem?_eq_getElem h] at hc; cases hc
          · exact h
        clear hc
        obtain ⟨g, hg⟩ : ∃ g, g = getI t at' k := ⟨_, rfl⟩
        rw [← hg] at HS ⊢
        clear hg
        go_wp2
        go_round
        case rel => exact ⟨k + 1, by omega, by go_num, by rw [HS.out]⟩
        case measure => simp [intOf]; omega
    · obtain rfl : k = width := by omega
      go_wp2
      go_ret
      exact ⟨rfl, rfl⟩

def cutI (t : List UInt8) (at' n : Nat) : List UInt8 := if t.length < at' + n then [] else (t.drop at').take n

set_option maxRecDepth 100000 in
theorem kcut_any (t : List UInt8) (at' n : Nat) (w : World) (_ht : t.length ≤ 1000000000) (ha : at' ≤ 1000000000) (hn : n ≤ 1000000000) :
    Calls Try.prog 77 #[.string (txt t), .int .i64 at', .int .i64 n] w fun e w' => e = .returned (.string (txt (cutI t at' n))) ∧ w = w' := by
  have hsz := txt_len t
  by_cases hc : t.length < at' + n
  · have e : cutI t at' n = [] := by unfold cutI; rw [if_pos hc]
    have HE := Lib.hid e
    clear e
    go_enter Try.func77, Try.ntmps77
    go_wp2
    go_ret
    exact ⟨by rw [HE.out]; rfl, rfl⟩
  · have e : cutI t at' n = (t.drop at').take n := by unfold cutI; rw [if_neg hc]
    have HE := Lib.hid e
    clear e
    have hcI : (at' : Int) + n ≤ t.length := by omega
    go_enter Try.func77, Try.ntmps77
    go_wp2
    go_ret
    refine ⟨?_, rfl⟩
    rw [HE.out]
    show Ending.returned (.string ((txt t).extract at' (at' + n))) = _
    rw [txt_extract, List.drop_take, Nat.add_sub_cancel_left]
end Go.Proofs.Yteogkgjajhdhjaa
