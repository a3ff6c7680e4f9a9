/-
  Package inode: each call with whatever it answers, told by letters. No condition but that a text is not too long.
-/
import Derived.Test.YteogkgjajhdhjaaDoorInLaw
import Derived.Deep.DeepCutAuto
import Derived.Deep.CutBlock
namespace Go.Proofs.YteogkgjajhdhjaaDoor
open Go.RowKit

theorem of_nil : In.of [] = none := by decide
theorem numOf_nil : In.numOf [] = none := by decide
theorem txt_size (l : List UInt8) : (txt l).size = l.length := by simp [txt, ByteArray.size]
theorem txt_list (l : List UInt8) : (txt l).data.toList = l := by simp [txt]

theorem numOf_number {n : Int} (h : In.numbered n = true) : In.numOf (In.number n) = some n := by
  have hb : 1 ≤ n ∧ n < 1073741824 := by simpa [In.numbered] using h
  obtain ⟨m, rfl⟩ := Int.eq_ofNat_of_zero_le (show 0 ≤ n by omega)
  have e1 : Pk.rd (Pk.be m 4) = m := by rw [Pk.rd_be]; omega
  unfold In.numOf In.number
  rw [Int.toNat_natCast, e1, if_pos ⟨Pk.be_length _ _, h⟩]

theorem number_numOf {v : List UInt8} {n : Int} (h : In.numOf v = some n) : In.numbered n = true ∧ In.number n = v := by
  unfold In.numOf at h
  split at h
  · rename_i hc
    obtain rfl : ((Pk.rd v : Nat) : Int) = n := Option.some.inj h
    refine ⟨hc.2, ?_⟩
    have := Pk.be_rd v
    rw [hc.1] at this
    unfold In.number
    rw [Int.toNat_natCast]; exact this
  · cases h

/-- a text and whether it counts: that of the bytes l, or the empty one -/
def TxtIf (b : Bool) (l : List UInt8) (t : ByteArray) : Prop := (b = true → t = txt l) ∧ (b = false → t = txt [])

theorem TxtIf.size {b : Bool} {l : List UInt8} {t : ByteArray} {m : Nat} (h : TxtIf b l t) (hl : l.length ≤ m) : t.size ≤ m := by
  cases b with
  | true => rw [h.1 rfl, txt_size]; exact hl
  | false => rw [h.2 rfl, txt_size]; exact Nat.zero_le _

theorem value_var (d : Bool) (l s : Int) (w : World) : Calls Tryd.prog 11 #[.agg #[.bool d, .int .i64 l, .int .i64 s]] w fun e w' => ∃ t b, e = .returned (.tuple #[.string t, .bool b]) ∧ b = In.right d l s ∧ TxtIf b (In.value d l s) t ∧ Keep [] w w' := by
  cases h : In.right d l s with
  | true => exact (value_ok d l s w h).mono fun e w' ⟨he, hk⟩ => ⟨_, _, he, rfl, ⟨fun _ => rfl, (fun h => by cases h)⟩, hk⟩
  | false => exact (value_no d l s w h).mono fun e w' ⟨he, hk⟩ => ⟨_, _, he, rfl, ⟨(fun h => by cases h), fun _ => rfl⟩, hk⟩

theorem number_var (n : Int) (w : World) : Calls Tryd.prog 15 #[.int .i64 n] w fun e w' => ∃ t b, e = .returned (.tuple #[.string t, .bool b]) ∧ b = In.numbered n ∧ TxtIf b (In.number n) t ∧ Keep [] w w' := by
  cases h : In.numbered n with
  | true => exact (innumber_ok n w h).mono fun e w' ⟨he, hk⟩ => ⟨_, _, he, rfl, ⟨fun _ => rfl, (fun h => by cases h)⟩, hk⟩
  | false => exact (number_no n w h).mono fun e w' ⟨he, hk⟩ => ⟨_, _, he, rfl, ⟨(fun h => by cases h), fun _ => rfl⟩, hk⟩

/-- what Of tells: an inode that is, or none -/
def OfIf (s : ByteArray) (d : Bool) (l z : Int) (b : Bool) : Prop := (b = true ∧ In.of s.data.toList = some ⟨d, l, z⟩) ∨ (b = false ∧ In.of s.data.toList = none ∧ d = false ∧ l = 0 ∧ z = 0)
def NumIf (s : ByteArray) (n : Int) (b : Bool) : Prop := (b = true ∧ In.numOf s.data.toList = some n) ∨ (b = false ∧ In.numOf s.data.toList = none ∧ n = 0)

theorem of_var (s : ByteArray) (w : World) (hs : s.size ≤ 140737488351232) : Calls Tryd.prog 13 #[.string s] w fun e w' => ∃ d l z b, e = .returned (.tuple #[.agg #[.bool d, .int .i64 l, .int .i64 z], .bool b]) ∧ OfIf s d l z b ∧ Keep [] w w' := by
  refine (of_any s w hs).mono ?_
  rintro e w' ⟨k, ⟨m, hm, he⟩ | ⟨hm, he⟩⟩
  · exact ⟨_, _, _, _, he, Or.inl ⟨rfl, hm⟩, k⟩
  · exact ⟨_, _, _, _, he, Or.inr ⟨rfl, hm, rfl, rfl, rfl⟩, k⟩

theorem numbered_var (s : ByteArray) (w : World) (hs : s.size ≤ 140737488351232) : Calls Tryd.prog 17 #[.string s] w fun e w' => ∃ n b, e = .returned (.tuple #[.int .i64 n, .bool b]) ∧ NumIf s n b ∧ Keep [] w w' := by
  refine (numbered_any s w hs).mono ?_
  rintro e w' ⟨k, ⟨m, hm, he⟩ | ⟨hm, he⟩⟩
  · exact ⟨_, _, he, Or.inl ⟨rfl, hm⟩, k⟩
  · exact ⟨_, _, he, Or.inr ⟨rfl, hm, rfl⟩, k⟩

end Go.Proofs.YteogkgjajhdhjaaDoor
