/-
  The plain functions of layer 4: what a superblock may be, its block, and what is read of a block. No program in sight. No condition.
-/
import Derived.Test.YteogkgjajhdhjaaPackE
namespace Go.Proofs.Yteogkgjajhdhjaa
open Go.RowKit
namespace Sp

/-- a snapshot -/
structure Sn where
  name : ByteArray
  root : Int
  commit : Int
def nm (x : Sn) : List UInt8 := x.name.data.toList
def Sn.cells (x : Sn) : List Value := [.string x.name, .int .i64 x.root, .int .i64 x.commit]
def scells (l : List Sn) : List Value := l.flatMap Sn.cells

/-- a superblock -/
structure Su where
  gen : Int
  root : Int
  next : Int
  commit : Int
  snaps : List Sn

def rootB (n : Int) : Bool := n == 0 || (decide (2 ≤ n) && decide (n ≤ 4294967295))
def within (n a b : Int) : Bool := decide (a ≤ n) && decide (n ≤ b)

/-- each snapshot may be, and is behind the one ahead of it -/
def snapOk (commit : Int) (last : List UInt8) (x : Sn) : Bool := decide ((nm x).length ≤ 18) && Op.bytesLess last (nm x) && rootB x.root && within x.commit 0 commit
def chain (commit : Int) : List UInt8 → List Sn → Bool
  | _, [] => true
  | last, x :: l => snapOk commit last x && chain commit (nm x) l

def right (s : Su) : Bool :=
  within s.gen 1 281474976710655 && rootB s.root && within s.next 2 1073741824 && within s.commit 0 281474976710655 && decide (s.snaps.length ≤ 8) && chain s.commit [] s.snaps

def sign : List UInt8 := [87, 65, 73, 78]
def snapB (x : Sn) : List UInt8 := (UInt8.ofNat (nm x).length :: nm x) ++ (Pk.be x.root.toNat 4 ++ Pk.be x.commit.toNat 8)
def head (s : Su) : List UInt8 := Pk.be s.gen.toNat 8 ++ (sign ++ (Pk.be s.root.toNat 4 ++ (Pk.be s.next.toNat 4 ++ (Pk.be s.commit.toNat 8 ++ Pk.be s.snaps.length 1))))
def fields (s : Su) : List UInt8 := head s ++ s.snaps.flatMap snapB
def block (s : Su) : List UInt8 := fields s ++ List.replicate (504 - (fields s).length) 0 ++ Pk.be s.gen.toNat 8

/-- a long number that numbers can hold; -1: none -/
def num (l : List UInt8) : Int := if Pk.rd l < 4611686018427387904 then (Pk.rd l : Int) else -1

/-- so many snapshots read -/
def readSnaps : Nat → Pk.Rd → List Sn × Pk.Rd
  | 0, r => ([], r)
  | n + 1, r => if r.bad then ([], r) else
    let r1 := rtextSkip r
    let r2 := r1.skip 4
    let r3 := r2.skip 8
    let p := readSnaps n r3
    (⟨txt (rtext r), Pk.rd (r1.take 4), num (r2.take 8)⟩ :: p.1, p.2)

/-- what is read of a block, whether it may be or not; and what is left of the reader -/
def readAll (b : List UInt8) : Su × Pk.Rd :=
  let r0 : Pk.Rd := ⟨b.take 504, false⟩
  let r1 := r0.skip 8
  let r2 := r1.skip 4
  let r3 := r2.skip 4
  let r4 := r3.skip 4
  let r5 := r4.skip 8
  let r6 := r5.skip 1
  let p := readSnaps (Pk.rd (r5.take 1)) r6
  (⟨num (r0.take 8), Pk.rd (r2.take 4), Pk.rd (r3.take 4), num (r4.take 8), p.1⟩, p.2)

/-- the superblock whose block this is -/
def of (b : List UInt8) : Option Su :=
  if b.length = 512 ∧ ((⟨b.take 504, false⟩ : Pk.Rd).skip 8).take 4 = sign ∧ (readAll b).2.bad = false ∧ (readAll b).2.noughts = true ∧ num (b.drop 504) = (readAll b).1.gen ∧ right (readAll b).1 = true then some (readAll b).1 else none

theorem good_split (r : Pk.Rd) (n : Int) (k : Nat) (hk : n = k) (h : (r.skip n).bad = false) : r.bad = false ∧ r.b = r.take n ++ (r.skip n).b ∧ (r.take n).length = k := by
  subst hk
  unfold Pk.Rd.skip at h ⊢
  unfold Pk.Rd.take
  by_cases hc : r.can k = true
  · simp only [hc, if_true] at h ⊢
    simp [Pk.Rd.can] at hc
    refine ⟨h, by simp, ?_⟩
    simp
    omega
  · simp [hc] at h

theorem be_num (l : List UInt8) (n : Nat) (h : l.length = n) (h0 : 0 ≤ num l) : Pk.be (num l).toNat n = l := by
  unfold num at h0 ⊢
  split at h0
  · rename_i h1
    rw [if_pos h1, Int.toNat_natCast, ← h, Pk.be_rd]
  · omega

theorem be_int (l : List UInt8) (n : Nat) (h : l.length = n) : Pk.be ((Pk.rd l : Int)).toNat n = l := by
  rw [Int.toNat_natCast, ← h, Pk.be_rd]

theorem text_split (r : Pk.Rd) (h : (rtextSkip r).bad = false) : r.bad = false ∧ r.b = (UInt8.ofNat (rtext r).length :: rtext r) ++ (rtextSkip r).b := by
  unfold rtextSkip at h ⊢
  obtain ⟨h1, h2, h3⟩ := good_split (r.skip 1) _ _ rfl h
  obtain ⟨h4, h5, h6⟩ := good_split r 1 1 rfl h1
  refine ⟨h4, ?_⟩
  have e : rtext r = (r.skip 1).take (Pk.rd (r.take 1)) := rfl
  rw [← e] at h2 h3
  have hc : ∃ c, r.take 1 = [c] := by
    revert h6
    cases r.take 1 with
    | nil => intro h; simp at h
    | cons c l => intro h; simp at h; exact ⟨c, by rw [h]⟩
  obtain ⟨c, hc⟩ := hc
  rw [h3]
  rw [h5, h2, hc]
  simp [Pk.rd]

theorem readSnaps_split (commit : Int) : ∀ (n : Nat) (r : Pk.Rd) (last : List UInt8), (readSnaps n r).2.bad = false → chain commit last (readSnaps n r).1 = true →
    (readSnaps n r).1.length = n ∧ r.bad = false ∧ r.b = (readSnaps n r).1.flatMap snapB ++ (readSnaps n r).2.b
  | 0, r, last, h, _ => ⟨rfl, h, rfl⟩
  | n + 1, r, last, h, hc => by
    unfold readSnaps at h hc ⊢
    by_cases hb : r.bad = true
    · simp [hb] at h
    · simp only [hb] at h hc ⊢
      simp only [Bool.false_eq_true, if_false] at h hc ⊢
      simp only [chain, Bool.and_eq_true] at hc
      obtain ⟨i1, i2, i3⟩ := readSnaps_split commit n _ _ h hc.2
      obtain ⟨j1, j2, j3⟩ := good_split _ 8 8 rfl i2
      obtain ⟨k1, k2, k3⟩ := good_split _ 4 4 rfl j1
      obtain ⟨l1, l2⟩ := text_split r k1
      refine ⟨by simp [i1], ?_⟩
      have hcm : 0 ≤ num ((rtextSkip r |>.skip 4).take 8) := by
        have := hc.1
        simp [snapOk, within] at this
        exact this.2.1
      simp only [List.flatMap_cons]
      have e1 : snapB ⟨txt (rtext r), Pk.rd ((rtextSkip r).take 4), num (((rtextSkip r).skip 4).take 8)⟩ = (UInt8.ofNat (rtext r).length :: rtext r) ++ ((rtextSkip r).take 4 ++ ((rtextSkip r).skip 4).take 8) := by
        unfold snapB
        rw [be_int _ 4 k3, be_num _ 8 j3 hcm]
        rfl
      rw [e1, l2, List.append_assoc, List.append_assoc, List.append_assoc, ← i3, ← j2, ← k2]
      exact ⟨trivial, rfl⟩
end Sp
end Go.Proofs.Yteogkgjajhdhjaa
