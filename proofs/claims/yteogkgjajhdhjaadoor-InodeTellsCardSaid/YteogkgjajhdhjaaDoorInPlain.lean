/-
  Inodes and numbers as values, chunks: plain functions on bytes, and their laws. No program in sight. No condition.
-/
import Derived.Test.YteogkgjajhdhjaaDoorPackFns
namespace Go.Proofs.YteogkgjajhdhjaaDoor
namespace In
open Pk

def right (d : Bool) (l s : Int) : Bool := if d then decide (l = 0 ∧ s = 0) else decide (1 ≤ l ∧ l ≤ 65535 ∧ 0 ≤ s ∧ s ≤ 1048576)
def value (d : Bool) (l s : Int) : List UInt8 := if d then [1] else 2 :: (be l.toNat 4 ++ be s.toNat 4)

structure Nd where
  dir : Bool
  links : Int
  size : Int
deriving DecidableEq

/-- what a reader reads of an inode's value -/
def rd3 (v : List UInt8) : Nd × Rd :=
  let r : Rd := ⟨v, false⟩
  let k := rd (r.take 1)
  let r1 := r.skip 1
  if k = 1 then (⟨true, 0, 0⟩, r1) else if k = 2 then (⟨false, rd (r1.take 4), rd ((r1.skip 4).take 4)⟩, (r1.skip 4).skip 4) else (⟨false, 0, 0⟩, r1)
/-- the inode whose value some bytes are, if any -/
def of (v : List UInt8) : Option Nd :=
  if (rd3 v).2.bad = false ∧ (rd3 v).2.b.length = 0 ∧ right (rd3 v).1.dir (rd3 v).1.links (rd3 v).1.size = true then some (rd3 v).1 else none

theorem value_length (d : Bool) (l s : Int) : (value d l s).length = if d then 1 else 9 := by
  unfold value; split <;> simp [be_length]

theorem rd_lt256 (l : List UInt8) (h : l.length = 4) : rd l < 4294967296 := by have := rd_lt l; rw [h] at this; simpa using this

theorem rd3_dir : rd3 [1] = (⟨true, 0, 0⟩, ⟨[], false⟩) := by rfl

theorem skip_len {b : List UInt8} {n : Nat} (h : n ≤ b.length) : (⟨b, false⟩ : Rd).skip (n : Int) = ⟨b.drop n, false⟩ := by
  have : (⟨b, false⟩ : Rd).can (n : Int) = true := by simp [Rd.can]; omega
  simp [Rd.skip, this]
theorem take_len {b : List UInt8} {n : Nat} (h : n ≤ b.length) : (⟨b, false⟩ : Rd).take (n : Int) = b.take n := by
  have : (⟨b, false⟩ : Rd).can (n : Int) = true := by simp [Rd.can]; omega
  simp [Rd.take, this]
theorem skip_no {b : List UInt8} {n : Nat} (h : b.length < n) : (⟨b, false⟩ : Rd).skip (n : Int) = ⟨[], true⟩ := by
  have : (⟨b, false⟩ : Rd).can (n : Int) = false := by simp [Rd.can]; omega
  simp [Rd.skip, this]
theorem take_no {b : List UInt8} {n : Nat} (h : b.length < n) : (⟨b, false⟩ : Rd).take (n : Int) = [] := by
  have : (⟨b, false⟩ : Rd).can (n : Int) = false := by simp [Rd.can]; omega
  simp [Rd.take, this]
theorem skip_bad (b : List UInt8) (n : Int) : (⟨b, true⟩ : Rd).skip n = ⟨[], true⟩ := by simp [Rd.skip, Rd.can]
theorem take_bad (b : List UInt8) (n : Int) : (⟨b, true⟩ : Rd).take n = [] := by simp [Rd.take, Rd.can]

theorem of_value {d : Bool} {l s : Int} (h : right d l s = true) : of (value d l s) = some ⟨d, l, s⟩ := by
  unfold right at h
  cases d with
  | true =>
    simp at h
    obtain ⟨rfl, rfl⟩ := h
    rfl
  | false =>
    simp at h
    obtain ⟨h1, h2, h3, h4⟩ := h
    obtain ⟨m, rfl⟩ := Int.eq_ofNat_of_zero_le (show 0 ≤ l by omega)
    obtain ⟨n, rfl⟩ := Int.eq_ofNat_of_zero_le h3
    have e1 : value false (m : Int) (n : Int) = 2 :: (be m 4 ++ be n 4) := rfl
    have hA := be_length m 4
    have hB := be_length n 4
    have ra := rd_be m 4
    have rb := rd_be n 4
    rw [e1]
    generalize be m 4 = A at *
    generalize be n 4 = B at *
    have k0 : (⟨2 :: (A ++ B), false⟩ : Rd).take ((1 : Nat) : Int) = [2] := by rw [take_len (by simp)]; rfl
    have k1 : (⟨2 :: (A ++ B), false⟩ : Rd).skip ((1 : Nat) : Int) = ⟨A ++ B, false⟩ := by rw [skip_len (by simp)]; rfl
    have k2 : (⟨A ++ B, false⟩ : Rd).take ((4 : Nat) : Int) = A := by rw [take_len (by simp [hA]), ← hA, List.take_left]
    have k3 : (⟨A ++ B, false⟩ : Rd).skip ((4 : Nat) : Int) = ⟨B, false⟩ := by rw [skip_len (by simp [hA]), ← hA, List.drop_left]
    have k4 : (⟨B, false⟩ : Rd).take ((4 : Nat) : Int) = B := by rw [take_len (by omega), ← hB, List.take_length]
    have k5 : (⟨B, false⟩ : Rd).skip ((4 : Nat) : Int) = ⟨[], false⟩ := by rw [skip_len (by omega), ← hB, List.drop_length]
    have e3 : rd3 (2 :: (A ++ B)) = (⟨false, (rd A : Nat), (rd B : Nat)⟩, ⟨[], false⟩) := by
      unfold rd3
      simp only [show ((1 : Int)) = ((1 : Nat) : Int) from rfl, show ((4 : Int)) = ((4 : Nat) : Int) from rfl, k0, k1, k2, k3, k4, k5]
      rfl
    have q1 : rd A = m := by rw [ra]; omega
    have q2 : rd B = n := by rw [rb]; omega
    unfold of
    rw [e3, q1, q2]
    simp [right]
    omega

theorem of_some {v : List UInt8} {x : Nd} (h : of v = some x) : right x.dir x.links x.size = true ∧ v = value x.dir x.links x.size := by
  unfold of at h
  split at h
  · rename_i hc
    obtain ⟨c1, c2, c3⟩ := hc
    obtain rfl : (rd3 v).1 = x := Option.some.inj h
    refine ⟨c3, ?_⟩
    clear h
    cases v with
    | nil => exact absurd c3 (by decide)
    | cons c t =>
      have k0 : (⟨c :: t, false⟩ : Rd).take ((1 : Nat) : Int) = [c] := by rw [take_len (by simp)]; rfl
      have k1 : (⟨c :: t, false⟩ : Rd).skip ((1 : Nat) : Int) = ⟨t, false⟩ := by rw [skip_len (by simp)]; rfl
      have kr : rd [c] = c.toNat := by simp [rd]
      have e3 : rd3 (c :: t) = if c.toNat = 1 then (⟨true, 0, 0⟩, ⟨t, false⟩) else if c.toNat = 2 then (⟨false, rd ((⟨t, false⟩ : Rd).take ((4 : Nat) : Int)), rd (((⟨t, false⟩ : Rd).skip ((4 : Nat) : Int)).take ((4 : Nat) : Int))⟩, ((⟨t, false⟩ : Rd).skip ((4 : Nat) : Int)).skip ((4 : Nat) : Int)) else (⟨false, 0, 0⟩, ⟨t, false⟩) := by
        unfold rd3
        simp only [show ((1 : Int)) = ((1 : Nat) : Int) from rfl, show ((4 : Int)) = ((4 : Nat) : Int) from rfl, k0, k1, kr]
      rw [e3] at c1 c2 c3 ⊢
      by_cases h1 : c.toNat = 1
      · rw [if_pos h1] at c1 c2 c3 ⊢
        have ht : t = [] := List.eq_nil_of_length_eq_zero c2
        have hc : c = 1 := UInt8.toNat_inj.1 h1
        rw [ht, hc]; rfl
      · rw [if_neg h1] at c1 c2 c3 ⊢
        by_cases h2 : c.toNat = 2
        · rw [if_pos h2] at c1 c2 c3 ⊢
          have hc : c = 2 := UInt8.toNat_inj.1 h2
          subst hc
          by_cases l4 : 4 ≤ t.length
          · rw [skip_len l4] at c1 c2 ⊢
            rw [take_len l4]
            by_cases l8 : 4 ≤ (t.drop 4).length
            · rw [skip_len l8] at c1 c2
              rw [take_len l8]
              have ht : t.length = 8 := by simp at c2 l8; omega
              have ha : (t.take 4).length = 4 := by simp; omega
              have hb : ((t.drop 4).take 4).length = 4 := by simp; omega
              have e : (t.drop 4).take 4 = t.drop 4 := List.take_of_length_le (by simp; omega)
              have w1 := be_rd (t.take 4)
              have w2 := be_rd ((t.drop 4).take 4)
              rw [ha] at w1
              rw [hb] at w2
              simp only [value, Int.toNat_natCast, w1, w2]
              rw [e]
              simp
            · rw [skip_no (by omega)] at c1
              simp at c1
          · rw [skip_no (by omega), skip_bad] at c1
            simp at c1
        · rw [if_neg h2] at c3
          simp [right] at c3
  · cases h

/-- an entry's number -/
def numbered (n : Int) : Bool := decide (1 ≤ n ∧ n < 1073741824)
def number (n : Int) : List UInt8 := be n.toNat 4
def numOf (v : List UInt8) : Option Int :=
  if v.length = 4 ∧ numbered (rd v) = true then some (rd v) else none

end In
end Go.Proofs.YteogkgjajhdhjaaDoor
