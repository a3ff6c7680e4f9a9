/-
  Layer 4's document, plain: what it reads of a superblock's block is that superblock. No program in sight. No condition.
-/
import Derived.Test.YteogkgjajhdhjaaSuperT
import Derived.Test.YteogkgjajhdhjaaSuperP
namespace Go.Proofs.Yteogkgjajhdhjaa
open Go.RowKit

theorem wrap64_step (x : Nat) (c : Nat) : wrap64 (wrap64 (wrap64 (x : Int) * 256) + (c : Int)) = wrap64 ((x * 256 + c : Nat) : Int) := by
  unfold wrap64
  omega

theorem getI_rd (t : List UInt8) (at' : Nat) : ∀ k, at' + k ≤ t.length → getI t at' k = wrap64 (Pk.rd ((t.drop at').take k) : Int)
  | 0, _ => by simp [getI, Pk.rd, wrap64]
  | k + 1, h => by
    have ih := getI_rd t at' k (by omega)
    have hc : t[at' + k]? = some t[at' + k] := List.getElem?_eq_getElem (by omega)
    have hd : (t.drop at')[k]? = some t[at' + k] := by rw [List.getElem?_drop]; exact hc
    rw [getI_some hc, ih, List.take_add_one, hd]
    show _ = wrap64 (Pk.rd ((t.drop at').take k ++ [t[at' + k]]) : Int)
    rw [Pk.rd_snoc]
    exact wrap64_step _ _

/-- a number that stands at a place is read there -/
theorem getI_at (P Q : List UInt8) (v k : Nat) (hv : v < 256 ^ k) (h63 : v ≤ 9223372036854775807) : getI (P ++ (Pk.be v k ++ Q)) P.length k = (v : Int) := by
  have hl : (Pk.be v k).length = k := Pk.be_length v k
  rw [getI_rd _ _ _ (by rw [List.length_append, List.length_append, hl]; omega), List.drop_left]
  have : (Pk.be v k ++ Q).take k = Pk.be v k := List.take_left' hl
  rw [this, Pk.rd_be, Nat.mod_eq_of_lt hv]
  unfold wrap64
  omega

theorem cutI_at (P X Q : List UInt8) : cutI (P ++ (X ++ Q)) P.length X.length = X := by
  unfold cutI
  rw [if_neg (by rw [List.length_append, List.length_append]; omega), List.drop_left, List.take_left]

/-- so many snapshots, as the document reads them -/
def refSnaps (t : List UInt8) : Nat → Nat → List Sp.Sn
  | 0, _ => []
  | m + 1, at' => ⟨txt (cutI t (at' + 1) (getI t at' 1).toNat), getI t (at' + 1 + (getI t at' 1).toNat) 4, getI t (at' + 5 + (getI t at' 1).toNat) 8⟩ :: refSnaps t m (at' + 13 + (getI t at' 1).toNat)

def refS (t : List UInt8) : Sp.Su := ⟨getI t 0 8, getI t 12 4, getI t 16 4, getI t 20 8, refSnaps t (getI t 28 1).toNat 29⟩

theorem refSnaps_whole (commit : Int) (hc : commit ≤ 281474976710655) (Q : List UInt8) : ∀ (l : List Sp.Sn) (P : List UInt8), (∀ x ∈ l, Sp.SnOk commit x) → refSnaps (P ++ (l.flatMap Sp.snapB ++ Q)) l.length P.length = l
  | [], P, _ => rfl
  | x :: l, P, h => by
    obtain ⟨h1, h2, h3, h4, h5⟩ := h x (by simp)
    have ih := refSnaps_whole commit hc Q l (P ++ Sp.snapB x) (fun y hy => h y (by simp [hy]))
    have hnl := nm_len x
    obtain ⟨t, ht⟩ : ∃ t, t = P ++ ((x :: l).flatMap Sp.snapB ++ Q) := ⟨_, rfl⟩
    have eB : Sp.snapB x = Pk.be (Sp.nm x).length 1 ++ (Sp.nm x ++ (Pk.be x.root.toNat 4 ++ Pk.be x.commit.toNat 8)) := rfl
    have t0 : t = P ++ (Pk.be (Sp.nm x).length 1 ++ (Sp.nm x ++ (Pk.be x.root.toNat 4 ++ (Pk.be x.commit.toNat 8 ++ (l.flatMap Sp.snapB ++ Q))))) := by
      rw [ht, List.flatMap_cons, eB]
      simp only [List.append_assoc]
    have t1 : t = (P ++ Pk.be (Sp.nm x).length 1) ++ (Sp.nm x ++ (Pk.be x.root.toNat 4 ++ (Pk.be x.commit.toNat 8 ++ (l.flatMap Sp.snapB ++ Q)))) := by rw [t0]; simp only [List.append_assoc]
    have t2 : t = (P ++ Pk.be (Sp.nm x).length 1 ++ Sp.nm x) ++ (Pk.be x.root.toNat 4 ++ (Pk.be x.commit.toNat 8 ++ (l.flatMap Sp.snapB ++ Q))) := by rw [t0]; simp only [List.append_assoc]
    have t3 : t = (P ++ Pk.be (Sp.nm x).length 1 ++ Sp.nm x ++ Pk.be x.root.toNat 4) ++ (Pk.be x.commit.toNat 8 ++ (l.flatMap Sp.snapB ++ Q)) := by rw [t0]; simp only [List.append_assoc]
    have t4 : t = (P ++ Sp.snapB x) ++ (l.flatMap Sp.snapB ++ Q) := by rw [t0, eB]; simp only [List.append_assoc]
    have g0 : getI t P.length 1 = ((Sp.nm x).length : Int) := by rw [t0]; exact getI_at _ _ _ _ (by omega) (by omega)
    have g1 : cutI t (P.length + 1) (Sp.nm x).length = Sp.nm x := by
      have := cutI_at (P ++ Pk.be (Sp.nm x).length 1) (Sp.nm x) (Pk.be x.root.toNat 4 ++ (Pk.be x.commit.toNat 8 ++ (l.flatMap Sp.snapB ++ Q)))
      rw [← t1, List.length_append, Pk.be_length] at this
      exact this
    have g2 : getI t (P.length + 1 + (Sp.nm x).length) 4 = x.root := by
      have := getI_at (P ++ Pk.be (Sp.nm x).length 1 ++ Sp.nm x) (Pk.be x.commit.toNat 8 ++ (l.flatMap Sp.snapB ++ Q)) x.root.toNat 4 (by omega) (by omega)
      rw [← t2, List.length_append, List.length_append, Pk.be_length] at this
      rw [this]
      omega
    have g3 : getI t (P.length + 5 + (Sp.nm x).length) 8 = x.commit := by
      have := getI_at (P ++ Pk.be (Sp.nm x).length 1 ++ Sp.nm x ++ Pk.be x.root.toNat 4) (l.flatMap Sp.snapB ++ Q) x.commit.toNat 8 (by omega) (by omega)
      rw [← t3, List.length_append, List.length_append, List.length_append, Pk.be_length, Pk.be_length] at this
      rw [show P.length + 5 + (Sp.nm x).length = P.length + 1 + (Sp.nm x).length + 4 by omega, this]
      omega
    rw [← ht, List.length_cons, refSnaps, g0, Int.toNat_natCast, g1, g2, g3]
    rw [← t4] at ih
    have hPl : (P ++ Sp.snapB x).length = P.length + 13 + (Sp.nm x).length := by
      rw [List.length_append, eB]
      simp [Pk.be_length]
      omega
    rw [hPl] at ih
    rw [ih]
    have en : txt (Sp.nm x) = x.name := txt_data x.name
    rw [en]

theorem refS_block {s : Sp.Su} (h : Sp.right s = true) : refS (Sp.block s) = s := by
  obtain ⟨g0, g1, r0, r1, n0, n1, c0, c1, hl, hx⟩ := Sp.right_bd h
  obtain ⟨Z, hZ⟩ : ∃ Z, Z = List.replicate (504 - (Sp.fields s).length) (0 : UInt8) ++ Pk.be s.gen.toNat 8 := ⟨_, rfl⟩
  obtain ⟨t, ht⟩ : ∃ t, t = Sp.block s := ⟨_, rfl⟩
  have t0 : t = [] ++ (Pk.be s.gen.toNat 8 ++ (Sp.sign ++ (Pk.be s.root.toNat 4 ++ (Pk.be s.next.toNat 4 ++ (Pk.be s.commit.toNat 8 ++ (Pk.be s.snaps.length 1 ++ (s.snaps.flatMap Sp.snapB ++ Z))))))) := by
    rw [ht, hZ]
    simp [Sp.block, Sp.fields, Sp.head, List.append_assoc]
  have t1 : t = (Pk.be s.gen.toNat 8 ++ Sp.sign) ++ (Pk.be s.root.toNat 4 ++ (Pk.be s.next.toNat 4 ++ (Pk.be s.commit.toNat 8 ++ (Pk.be s.snaps.length 1 ++ (s.snaps.flatMap Sp.snapB ++ Z))))) := by rw [t0]; simp only [List.append_assoc, List.nil_append]
  have t2 : t = (Pk.be s.gen.toNat 8 ++ Sp.sign ++ Pk.be s.root.toNat 4) ++ (Pk.be s.next.toNat 4 ++ (Pk.be s.commit.toNat 8 ++ (Pk.be s.snaps.length 1 ++ (s.snaps.flatMap Sp.snapB ++ Z)))) := by rw [t0]; simp only [List.append_assoc, List.nil_append]
  have t3 : t = (Pk.be s.gen.toNat 8 ++ Sp.sign ++ Pk.be s.root.toNat 4 ++ Pk.be s.next.toNat 4) ++ (Pk.be s.commit.toNat 8 ++ (Pk.be s.snaps.length 1 ++ (s.snaps.flatMap Sp.snapB ++ Z))) := by rw [t0]; simp only [List.append_assoc, List.nil_append]
  have t4 : t = (Pk.be s.gen.toNat 8 ++ Sp.sign ++ Pk.be s.root.toNat 4 ++ Pk.be s.next.toNat 4 ++ Pk.be s.commit.toNat 8) ++ (Pk.be s.snaps.length 1 ++ (s.snaps.flatMap Sp.snapB ++ Z)) := by rw [t0]; simp only [List.append_assoc, List.nil_append]
  have t5 : t = (Pk.be s.gen.toNat 8 ++ Sp.sign ++ Pk.be s.root.toNat 4 ++ Pk.be s.next.toNat 4 ++ Pk.be s.commit.toNat 8 ++ Pk.be s.snaps.length 1) ++ (s.snaps.flatMap Sp.snapB ++ Z) := by rw [t0]; simp only [List.append_assoc, List.nil_append]
  have a0 : getI t 0 8 = s.gen := by
    have := getI_at [] (Sp.sign ++ (Pk.be s.root.toNat 4 ++ (Pk.be s.next.toNat 4 ++ (Pk.be s.commit.toNat 8 ++ (Pk.be s.snaps.length 1 ++ (s.snaps.flatMap Sp.snapB ++ Z)))))) s.gen.toNat 8 (by omega) (by omega)
    rw [← t0] at this
    rw [show (0 : Nat) = ([] : List UInt8).length from rfl, this]
    omega
  have a1 : getI t 12 4 = s.root := by
    have := getI_at (Pk.be s.gen.toNat 8 ++ Sp.sign) (Pk.be s.next.toNat 4 ++ (Pk.be s.commit.toNat 8 ++ (Pk.be s.snaps.length 1 ++ (s.snaps.flatMap Sp.snapB ++ Z)))) s.root.toNat 4 (by omega) (by omega)
    rw [← t1] at this
    simp only [List.length_append, Pk.be_length, Sp.sign, List.length_cons, List.length_nil] at this
    rw [this]
    omega
  have a2 : getI t 16 4 = s.next := by
    have := getI_at (Pk.be s.gen.toNat 8 ++ Sp.sign ++ Pk.be s.root.toNat 4) (Pk.be s.commit.toNat 8 ++ (Pk.be s.snaps.length 1 ++ (s.snaps.flatMap Sp.snapB ++ Z))) s.next.toNat 4 (by omega) (by omega)
    rw [← t2] at this
    simp only [List.length_append, Pk.be_length, Sp.sign, List.length_cons, List.length_nil] at this
    rw [this]
    omega
  have a3 : getI t 20 8 = s.commit := by
    have := getI_at (Pk.be s.gen.toNat 8 ++ Sp.sign ++ Pk.be s.root.toNat 4 ++ Pk.be s.next.toNat 4) (Pk.be s.snaps.length 1 ++ (s.snaps.flatMap Sp.snapB ++ Z)) s.commit.toNat 8 (by omega) (by omega)
    rw [← t3] at this
    simp only [List.length_append, Pk.be_length, Sp.sign, List.length_cons, List.length_nil] at this
    rw [this]
    omega
  have a4 : getI t 28 1 = (s.snaps.length : Int) := by
    have := getI_at (Pk.be s.gen.toNat 8 ++ Sp.sign ++ Pk.be s.root.toNat 4 ++ Pk.be s.next.toNat 4 ++ Pk.be s.commit.toNat 8) (s.snaps.flatMap Sp.snapB ++ Z) s.snaps.length 1 (by omega) (by omega)
    rw [← t4] at this
    simp only [List.length_append, Pk.be_length, Sp.sign, List.length_cons, List.length_nil] at this
    exact this
  have a5 : refSnaps t s.snaps.length 29 = s.snaps := by
    have := refSnaps_whole s.commit c1 Z s.snaps (Pk.be s.gen.toNat 8 ++ Sp.sign ++ Pk.be s.root.toNat 4 ++ Pk.be s.next.toNat 4 ++ Pk.be s.commit.toNat 8 ++ Pk.be s.snaps.length 1) hx
    rw [← t5] at this
    simp only [List.length_append, Pk.be_length, Sp.sign, List.length_cons, List.length_nil] at this
    exact this
  unfold refS
  rw [← ht, a0, a1, a2, a3, a4, Int.toNat_natCast, a5]

/-- what the document tells of a block is what the program tells of it -/
theorem refS_of (b : List UInt8) : Sp.of b = if Sp.right (refS b) = true ∧ Sp.block (refS b) = b then some (refS b) else none := by
  by_cases hc : Sp.right (refS b) = true ∧ Sp.block (refS b) = b
  · rw [if_pos hc]
    exact (Sp.of_iff b _).2 hc
  · rw [if_neg hc]
    cases ho : Sp.of b with
    | none => rfl
    | some s =>
      obtain ⟨h1, h2⟩ := Sp.of_sound ho
      have h3 := refS_block h1
      rw [h2] at h3
      rw [h3] at hc
      exact absurd ⟨h1, h2⟩ hc
end Go.Proofs.Yteogkgjajhdhjaa
