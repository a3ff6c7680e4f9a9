/-
  Package name: Split, Below, Join. No condition but that a text is not too long, and that the library's tables are laid.
-/
import Derived.Test.YtbmbjedpeepnfaaDoorNmA
namespace Go.Proofs.YtbmbjedpeepnfaaDoor
open Go.RowKit

namespace Nm
def tx (l : List UInt8) : ByteArray := ⟨l.toArray⟩
def sl : ByteArray := ⟨#[47]⟩
/-- the pieces of a text between slashes -/
def cuts (s : ByteArray) : List ByteArray := Lib.splitB sl 0 (Lib.countB s sl) s
/-- a path's names -/
def split (s : ByteArray) : Option (List ByteArray) :=
  if Lib.hasPrefix s.data.toList [47] = true ∧ s.size ≤ 200 then
    if s.size = 1 then some [] else if (cuts (tx (s.data.toList.drop 1))).all right then some (cuts (tx (s.data.toList.drop 1))) else none
  else none
theorem cuts_length (s : ByteArray) : (cuts s).length = Lib.countB s sl + 1 := Lib.splitB_all sl (by decide) 0 _ s rfl
end Nm

/-- a row of texts in memory -/
def Strs (w : World) (ao : Option Addr) (l : List ByteArray) : Prop := (ao = none ∧ l = []) ∨ ∃ b, ao = some ⟨b, 0, none⟩ ∧ Blk w b (l.map Value.string) 9 ∧ 2 < b

theorem Strs.keep {w w' : World} {ao : Option Addr} {l : List ByteArray} (h : Strs w ao l) (k : Keep [] w w') : Strs w' ao l := by
  rcases h with h | ⟨b, h1, h2, h3⟩
  · exact Or.inl h
  · exact Or.inr ⟨b, h1, h2.keep k (by simp), h3⟩

set_option maxRecDepth 100000 in
set_option maxHeartbeats 800000 in
theorem wrong_any (s : ByteArray) (w : World) (hs : s.size ≤ 9223372036854775807) (T : Tabs w) : Calls Tryd.prog 55 #[.string s] w fun e w' => e = .returned (.bool (!Nm.right s)) ∧ Keep [] w w' := by
  have c := right_any s w hs T
  go_enter Tryd.func55, Tryd.ntmps55
  go_wp2_with fail
  refine c.mono ?_
  rintro e w1 ⟨rfl, k1⟩
  go_wp2
  go_ret
  exact ⟨rfl, k1⟩

theorem firstWrong_all (l : List ByteArray) (h : ∀ (j : Nat) x, l[j]? = some x → Nm.right x = true) : l.all Nm.right = true := by
  rw [List.all_eq_true]
  intro x hx
  obtain ⟨j, hj⟩ := List.mem_iff_getElem?.1 hx
  exact h j x hj

set_option maxRecDepth 100000 in
set_option maxHeartbeats 1600000 in
theorem indexFunc_any (l : List ByteArray) (b : Nat) (w : World) (hl : l.length ≤ 1000) (hx : ∀ x ∈ l, x.size ≤ 1000000) (B : Blk w b (l.map Value.string) 9) (T : Tabs w) :
    Calls Tryd.prog 77 #[.slice (some ⟨b, 0, none⟩) l.length l.length, .func (.func 55) #[] #[]] w fun e w' => (∃ i : Int, e = .returned (.int .i64 i) ∧ decide (0 ≤ i) = !l.all Nm.right) ∧ Keep [] w w' := by
  go_enter Tryd.func77, Tryd.ntmps77
  go_wp2_with fail
  go_loopw [8] (fun i wr => ∃ k : Nat, i = .int .i64 k ∧ k ≤ l.length ∧ Hid (∀ (j : Nat) x, j < k → l[j]? = some x → Nm.right x = true) ∧ Keep [] w wr) (fun i _ => l.length - (intOf i).toNat)
  case atStart => exact ⟨0, rfl, Nat.zero_le _, Lib.hid (fun j x h => absurd h (by omega)), Keep.refl _ _⟩
  case round =>
    obtain ⟨k, rfl, hk, ha, K⟩ := hrel
    by_cases hlt : k < l.length
    · obtain ⟨x, hxk⟩ : ∃ x, l[k]? = some x := ⟨_, List.getElem?_eq_getElem hlt⟩
      have hcell : wr.cell? ⟨b, k, none⟩ = some (.string x) := by
        rw [(B.keep K (by simp)).cell k, List.getElem?_map, hxk]; rfl
      have hsz := hx x (List.mem_of_getElem? hxk)
      have cW := wrong_any x wr (by omega) (T.step K)
      have HXK := Lib.hid hxk
      clear hxk
      cases hr : Nm.right x with
      | true =>
        rw [hr] at cW
        go_wp2_with (go_at_call 55; refine cW.mono ?_; rintro e w' ⟨rfl, k2⟩)
        have K2 := K.trans k2 (by simp)
        go_roundw
        case rel =>
          refine ⟨k + 1, by go_num, by omega, Lib.hid (fun j y h1 h2 => ?_), K2⟩
          by_cases hj : j = k
          · subst hj
            rw [HXK.out] at h2
            rw [← Option.some.inj h2]; exact hr
          · exact ha.out j y (by omega) h2
        case measure => simp [intOf]; omega
      | false =>
        rw [hr] at cW
        have hall : l.all Nm.right = false := by
          cases hq : l.all Nm.right with
          | false => rfl
          | true =>
            rw [List.all_eq_true] at hq
            have h := hq x (List.mem_of_getElem? HXK.out)
            rw [hr] at h
            cases h
        have HA := Lib.hid hall
        clear hall
        go_wp2_with (go_at_call 55; refine cW.mono ?_; rintro e w' ⟨rfl, k2⟩)
        have K2 := K.trans k2 (by simp)
        go_ret
        exact ⟨⟨k, rfl, by rw [HA.out]; simp⟩, K2⟩
    · have hall : l.all Nm.right = true := firstWrong_all l (fun j x h => ha.out j x (by have := (List.getElem?_eq_some_iff.1 h).1; omega) h)
      have HA := Lib.hid hall
      clear hall
      go_wp2
      go_ret
      exact ⟨⟨-1, rfl, by rw [HA.out]; rfl⟩, K⟩

set_option maxRecDepth 100000 in
set_option maxHeartbeats 800000 in
theorem containsFunc_any (l : List ByteArray) (b : Nat) (w : World) (hl : l.length ≤ 1000) (hx : ∀ x ∈ l, x.size ≤ 1000000) (B : Blk w b (l.map Value.string) 9) (T : Tabs w) :
    Calls Tryd.prog 54 #[.slice (some ⟨b, 0, none⟩) l.length l.length, .func (.func 55) #[] #[]] w fun e w' => e = .returned (.bool (!l.all Nm.right)) ∧ Keep [] w w' := by
  have c := indexFunc_any l b w hl hx B T
  clear hx B T
  go_enter Tryd.func54, Tryd.ntmps54
  go_wp2_with fail
  refine c.mono ?_
  rintro e w1 ⟨⟨i, rfl, hi⟩, k1⟩
  have HI := Lib.hid hi
  clear hi
  go_wp2
  go_ret
  exact ⟨ret_bool HI.out, k1⟩

theorem cuts_small (s : ByteArray) : ∀ x ∈ Nm.cuts s, x.size ≤ s.size := by
  suffices h : ∀ (k : Nat) (t : ByteArray), ∀ x ∈ Lib.splitB Nm.sl 0 k t, x.size ≤ t.size from h _ s
  intro k
  induction k with
  | zero => intro t x hx; rw [Lib.splitB_zero, List.mem_singleton] at hx; rw [hx]; exact Nat.le_refl _
  | succ k ih =>
    intro t x hx
    unfold Lib.splitB at hx
    split at hx
    · rw [List.mem_singleton] at hx; rw [hx]; exact Nat.le_refl _
    · rcases List.mem_cons.1 hx with rfl | hx
      · rw [ByteArray.size_extract]; omega
      · have := ih _ x hx
        rw [ByteArray.size_extract] at this
        omega

/-- what Split answers -/
def SplitOut (s : ByteArray) (w w' : World) (e : Ending) : Prop := ∃ (l : List ByteArray) (ok : Bool) (ao : Option Addr), e = .returned (.tuple #[.slice ao l.length l.length, .bool ok]) ∧ ((ok = true ∧ Nm.split s = some l) ∨ (ok = false ∧ Nm.split s = none ∧ l = [])) ∧ Strs w' ao l ∧ l.length ≤ 1000 ∧ Keep [] w w'

set_option maxRecDepth 100000 in
set_option maxHeartbeats 1600000 in
theorem split_any (s : ByteArray) (w : World) (hs : s.size ≤ 9223372036854775807) (T : Tabs w) : Calls Tryd.prog 24 #[.string s] w fun e w' => SplitOut s w w' e := by
  have hl : s.data.toList.length = s.size := by rw [Array.length_toList]; rfl
  have cC := Tryd.strings_CutPrefix s ⟨#[47]⟩ w
  obtain ⟨hp, hhp⟩ : ∃ b, b = Lib.hasPrefix s.data.toList [47] := ⟨_, rfl⟩
  obtain ⟨r, hr⟩ : ∃ r : ByteArray, r = ⟨(Lib.trimPrefix s.data.toList [47]).toArray⟩ := ⟨_, rfl⟩
  rw [show (⟨#[47]⟩ : ByteArray).data.toList = [47] from rfl, ← hhp, ← hr] at cC
  have HP := Lib.hid hhp
  have HR := Lib.hid hr
  have HL := Lib.hid hl
  clear hhp hr hl
  cases hp with
  | false =>
    have hx : Nm.split s = none := by unfold Nm.split; rw [if_neg (by rw [← HP.out]; simp)]
    have HX := Lib.hid hx
    clear hx T
    go_enter Tryd.func24, Tryd.ntmps24
    go_wp2_with (go_at_call 52; refine cC.mono ?_; rintro e w' ⟨rfl, rfl⟩)
    go_ret2
    exact ⟨[], false, none, rfl, Or.inr ⟨rfl, HX.out, rfl⟩, Or.inl ⟨rfl, rfl⟩, Nat.zero_le _, Keep.refl _ _⟩
  | true =>
    by_cases h200 : s.size ≤ 200
    · have h200I : ¬ (200 : Int) < (s.size : Int) := by omega
      have hrd : r.data.toList = s.data.toList.drop 1 := by
        rw [HR.out]
        unfold Lib.trimPrefix
        rw [← HP.out]
        simp
      have hrs : r.size = s.size - 1 := by
        have : r.data.toList.length = r.size := by rw [Array.length_toList]; rfl
        rw [← this, hrd, List.length_drop, HL.out]
      have hs1 : 1 ≤ s.size := by
        have h := HP.out
        rcases Nat.eq_zero_or_pos s.size with h0 | h0
        · have : s.data.toList = [] := List.eq_nil_of_length_eq_zero (by rw [HL.out, h0])
          rw [this] at h; cases h
        · exact h0
      have hrt : Nm.tx (s.data.toList.drop 1) = r := by rw [← hrd]; unfold Nm.tx; cases r; simp
      by_cases h1 : s.size = 1
      · have hx : Nm.split s = some [] := by unfold Nm.split; rw [if_pos ⟨HP.out.symm, h200⟩, if_pos h1]
        have HX := Lib.hid hx
        have hre : r = ⟨#[]⟩ := by
          have : r.data.size = 0 := by have h : r.data.size = r.size := rfl; omega
          cases r; simp at this; rw [this]
        clear hx T hrd hrs hrt HR
        subst hre
        go_enter Tryd.func24, Tryd.ntmps24
        go_wp2_with (go_at_call 52; refine cC.mono ?_; rintro e w' ⟨rfl, rfl⟩)
        go_ret2
        exact ⟨[], true, none, rfl, Or.inl ⟨rfl, HX.out⟩, Or.inl ⟨rfl, rfl⟩, Nat.zero_le _, Keep.refl _ _⟩
      · obtain ⟨m, hm⟩ := T.ml
        have cS := Tryd.strings_Split r ⟨#[47]⟩ m w (by omega) hm (by decide)
        have hcl := Nm.cuts_length r
        obtain ⟨n, hn⟩ : ∃ n, n = Lib.countB r Nm.sl + 1 := ⟨_, rfl⟩
        have hn2 : Lib.countB r ⟨#[47]⟩ + 1 = n := hn.symm
        rw [hn2] at cS
        rw [← hn] at hcl
        have hnle : n ≤ 201 := by
          have := Lib.countB_le Nm.sl (by decide) r.size r (Nat.le_refl _)
          omega
        obtain ⟨l, hll⟩ : ∃ l, l = Nm.cuts r := ⟨_, rfl⟩
        have hle : Lib.splitB ⟨#[47]⟩ 0 (Lib.countB r ⟨#[47]⟩) r = l := by rw [hll]; rfl
        rw [hle] at cS
        rw [← hll] at hcl
        have hlx : ∀ x ∈ l, x.size ≤ 1000000 := fun x hx => by
          rw [hll] at hx
          have := cuts_small r x hx
          omega
        obtain ⟨w1, hw1⟩ : ∃ w1, w1 = w.alloc (.cells (l.map Value.string).toArray 9) := ⟨_, rfl⟩
        have B1 : Blk w1 w.heap.size (l.map Value.string) 9 := by rw [hw1]; exact Blk.new' w _ _
        have K1 : Keep [] w w1 := by rw [hw1]; exact (Keep.refl _ _).alloc _
        rw [← hw1] at cS
        have cF := containsFunc_any l w.heap.size w1 (by omega) hlx B1 (T.step K1)
        rw [hcl] at cF
        have hlo := T.lo
        obtain ⟨b, hb⟩ : ∃ b, b = w.heap.size := ⟨_, rfl⟩
        rw [← hb] at cS cF B1 hlo
        have hsp : Nm.split s = if l.all Nm.right then some l else none := by
          unfold Nm.split
          rw [if_pos ⟨HP.out.symm, h200⟩, if_neg h1, hrt, ← hll]
        have hrne : r.toList.isEmpty = false := by
          rw [Lib.toList_data, List.isEmpty_eq_false_iff]
          intro h
          have : r.data.toList.length = r.size := by rw [Array.length_toList]; rfl
          rw [h] at this
          simp at this
          omega
        have HSP := Lib.hid hsp
        have HCL := Lib.hid hcl
        clear hm hn hn2 hle hlx hw1 hb hsp hll hrd hrt hrs hcl h1 T HR
        cases hall : l.all Nm.right with
        | true =>
          rw [hall] at cF
          go_enter Tryd.func24, Tryd.ntmps24
          go_wp2_with (first | (go_at_call 52; refine cC.mono ?_; rintro e w' ⟨rfl, rfl⟩) | (go_at_call 53; refine cS.mono ?_; rintro e w' ⟨rfl, rfl⟩) | (go_at_call 54; refine cF.mono ?_; rintro e w2 ⟨rfl, k2⟩))
          go_ret2
          exact ⟨l, true, some ⟨b, 0, none⟩, by rw [HCL.out]; rfl, Or.inl ⟨rfl, by rw [HSP.out, hall]; rfl⟩, Or.inr ⟨b, rfl, B1.keep k2 (by simp), hlo⟩, by rw [HCL.out]; omega, K1.trans k2 (by simp)⟩
        | false =>
          rw [hall] at cF
          go_enter Tryd.func24, Tryd.ntmps24
          go_wp2_with (first | (go_at_call 52; refine cC.mono ?_; rintro e w' ⟨rfl, rfl⟩) | (go_at_call 53; refine cS.mono ?_; rintro e w' ⟨rfl, rfl⟩) | (go_at_call 54; refine cF.mono ?_; rintro e w2 ⟨rfl, k2⟩))
          go_ret2
          exact ⟨[], false, none, rfl, Or.inr ⟨rfl, by rw [HSP.out, hall]; rfl, rfl⟩, Or.inl ⟨rfl, rfl⟩, Nat.zero_le _, K1.trans k2 (by simp)⟩
    · have h200I : (200 : Int) < (s.size : Int) := by omega
      have hx : Nm.split s = none := by unfold Nm.split; rw [if_neg (fun h => h200 h.2)]
      have HX := Lib.hid hx
      clear hx T
      go_enter Tryd.func24, Tryd.ntmps24
      go_wp2_with (go_at_call 52; refine cC.mono ?_; rintro e w' ⟨rfl, rfl⟩)
      go_ret2
      exact ⟨[], false, none, rfl, Or.inr ⟨rfl, HX.out, rfl⟩, Or.inl ⟨rfl, rfl⟩, Nat.zero_le _, Keep.refl _ _⟩
end Go.Proofs.YtbmbjedpeepnfaaDoor
