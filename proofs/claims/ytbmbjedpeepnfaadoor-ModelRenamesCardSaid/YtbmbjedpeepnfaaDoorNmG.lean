/-
  A few bytes as a text. No condition.
-/
import Derived.Test.YtbmbjedpeepnfaaDoorNmB
namespace Go.Proofs.YtbmbjedpeepnfaaDoor
open Go.RowKit

def bv (l : List UInt8) : List Value := l.map fun b => Value.int .u8 b.toNat

theorem foldl_push (l : List UInt8) (s : ByteArray) : (l.map fun b => (b.toNat : Int)).foldl (fun r n => r.push (UInt8.ofNat n.toNat)) s = ⟨s.data ++ l.toArray⟩ := by
  induction l generalizing s with
  | nil => simp
  | cons b l ih =>
    rw [List.map_cons, List.foldl_cons, ih]
    simp [ByteArray.push]

theorem conv_str {w : World} {v : Value} {l : List UInt8} (h : RdV w v l.length 1 (bv l)) : (convert 48 9 v).run Tryd.prog w = .ok (.string (Nm.tx l)) w := by
  obtain ⟨hl, ao, c, rfl, hc, hn, hx⟩ := h
  rw [run_convert_bytes_string w 48 9 5 ao l.length c Tryd.underlying48 Tryd.underlying5 Tryd.underlying9]
  cases ao with
  | none =>
    have h0 := (hn rfl).1
    have hl0 : l = [] := List.eq_nil_of_length_eq_zero h0
    subst hl0
    simp [Conv.bytesToString, Nm.tx]
    rfl
  | some a =>
    have hr := run_loadCells_list (P := Tryd.prog) w a (bv l) (hx a rfl)
    rw [hl, Nat.mul_one] at hr
    have e : bv l = (l.map fun b => (b.toNat : Int)).map (Value.int .u8) := by simp [bv]
    rw [e] at hr
    rw [run_bytesToString w a l.length c (l.map fun b => (b.toNat : Int)) hr, foldl_push]
    simp [Nm.tx, ByteArray.empty, ByteArray.emptyWithCapacity]
    rfl

theorem and7 (c : Int) (h0 : 0 ≤ c) (h1 : c ≤ 255) : ∃ m : Nat, bits .and .u8 c 127 = (m : Int) ∧ m < 128 := by
  have h : ∀ k : Fin 256, ∃ m : Fin 128, bits .and .u8 ((k.val : Nat) : Int) 127 = ((m.val : Nat) : Int) := by decide +kernel
  obtain ⟨m, hm⟩ := h ⟨c.toNat, by omega⟩
  refine ⟨m.val, ?_, m.isLt⟩
  rw [← hm]
  congr 1
  simp; omega
end Go.Proofs.YtbmbjedpeepnfaaDoor
