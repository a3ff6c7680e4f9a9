/-
  The plain functions of package pack: numbers as bytes (the highest first), a writer's and a reader's state and steps. No program in sight. No condition.
-/
namespace Go.Proofs.Yteogkgjajhdhjaa
namespace Pk

/-- a number in n bytes, the highest first -/
def be (v : Nat) : Nat → List UInt8
  | 0 => []
  | n + 1 => be (v / 256) n ++ [UInt8.ofNat v]

/-- the number that bytes are -/
def rd (l : List UInt8) : Nat := l.foldl (fun v c => v * 256 + c.toNat) 0

theorem be_length (v n : Nat) : (be v n).length = n := by
  induction n generalizing v with
  | zero => rfl
  | succ n ih => simp [be, ih]

theorem rd_snoc (l : List UInt8) (c : UInt8) : rd (l ++ [c]) = rd l * 256 + c.toNat := by simp [rd]

theorem rd_be (v n : Nat) : rd (be v n) = v % 256 ^ n := by
  induction n generalizing v with
  | zero => simp [be, rd, Nat.mod_one]
  | succ n ih =>
    rw [be, rd_snoc, ih]
    have h1 : (UInt8.ofNat v).toNat = v % 256 := by simp
    rw [h1, Nat.pow_succ, Nat.mul_comm (256 ^ n) 256, Nat.mod_mul]
    rw [Nat.add_comm, Nat.mul_comm]

theorem rd_lt (l : List UInt8) : rd l < 256 ^ l.length := by
  suffices h : ∀ m : List UInt8, rd m.reverse < 256 ^ m.length by simpa using h l.reverse
  intro m
  induction m with
  | nil => simp [rd]
  | cons c m ih =>
    rw [List.reverse_cons, rd_snoc, List.length_cons, Nat.pow_succ]
    have := c.toNat_lt
    omega

theorem be_rd (l : List UInt8) : be (rd l) l.length = l := by
  suffices h : ∀ m : List UInt8, be (rd m.reverse) m.length = m.reverse by simpa using h l.reverse
  intro m
  induction m with
  | nil => rfl
  | cons c m ih =>
    rw [List.reverse_cons, rd_snoc, List.length_cons, be]
    have hc := c.toNat_lt
    have h1 : (rd m.reverse * 256 + c.toNat) / 256 = rd m.reverse := by omega
    rw [h1, ih]
    congr 2
    apply UInt8.toNat_inj.1
    simp

/-- the j-th byte of a number in n bytes -/
theorem be_get (v n j : Nat) (h : j < n) : (be v n)[j]? = some (UInt8.ofNat (v / 256 ^ (n - 1 - j))) := by
  induction n generalizing v with
  | zero => omega
  | succ n ih =>
    rw [be]
    by_cases hj : j < n
    · rw [List.getElem?_append_left (by rw [be_length]; exact hj), ih _ hj]
      congr 2
      rw [Nat.div_div_eq_div_mul, ← Nat.pow_succ']
      congr 2
      omega
    · have : j = n := by omega
      subst this
      rw [List.getElem?_append_right (by rw [be_length]; exact Nat.le_refl _), be_length]
      simp

theorem be_take (v n j : Nat) (h : j < n) : (be v n).take (j + 1) = (be v n).take j ++ [UInt8.ofNat (v / 256 ^ (n - 1 - j))] := by
  have hl : j < (be v n).length := by rw [be_length]; exact h
  rw [List.take_succ_eq_append_getElem hl]
  have := be_get v n j h
  rw [List.getElem?_eq_getElem hl] at this
  rw [Option.some.inj this]

/-- a writer: what was written, how much there may be, is something wrong? -/
structure Wr where
  b : List UInt8
  most : Nat
  bad : Bool

/-- room for so many bytes more, if they may be -/
def Wr.room (w : Wr) (n : Int) (may : Bool) : Bool := !(w.bad || !may || decide ((w.most : Int) - w.b.length < n))
/-- bytes are put behind, if there is room and they may be -/
def Wr.put (w : Wr) (l : List UInt8) (may : Bool) : Wr := if w.room l.length may then { w with b := w.b ++ l } else { w with bad := true }
def Wr.byte (w : Wr) (v : Int) : Wr := w.put (be v.toNat 1) (decide (0 ≤ v ∧ v ≤ 255))
def Wr.word (w : Wr) (v : Int) : Wr := w.put (be v.toNat 4) (decide (0 ≤ v ∧ v ≤ 4294967295))
def Wr.long (w : Wr) (v : Int) : Wr := w.put (be v.toNat 8) true
def Wr.text (w : Wr) (s : List UInt8) : Wr := w.put (UInt8.ofNat s.length :: s) (decide (s.length ≤ 255))
def Wr.raw (w : Wr) (s : List UInt8) : Wr := w.put s true
def Wr.fill (w : Wr) (n : Int) : Wr :=
  if w.bad || decide (n < w.b.length) || decide ((w.most : Int) < n) then { w with bad := true } else { w with b := w.b ++ List.replicate (n.toNat - w.b.length) 0 }

/-- a reader: what is left; is something wrong? -/
structure Rd where
  b : List UInt8
  bad : Bool

/-- may so many bytes be taken? -/
def Rd.can (r : Rd) (n : Int) : Bool := !(r.bad || decide (n < 0) || decide ((r.b.length : Int) < n))
def Rd.take (r : Rd) (n : Int) : List UInt8 := if r.can n then r.b.take n.toNat else []
def Rd.skip (r : Rd) (n : Int) : Rd := if r.can n then { r with b := r.b.drop n.toNat } else ⟨[], true⟩
def Rd.noughts (r : Rd) : Bool := !r.bad && r.b.all (· == 0)

theorem Wr.put_most (w : Wr) (l : List UInt8) (may : Bool) : (w.put l may).most = w.most := by unfold Wr.put; split <;> rfl
theorem Wr.put_le (w : Wr) (l : List UInt8) (may : Bool) (h : w.b.length ≤ w.most) : (w.put l may).b.length ≤ w.most := by
  unfold Wr.put Wr.room
  split
  · rename_i hr; simp at hr; simp; omega
  · exact h
end Pk
end Go.Proofs.Yteogkgjajhdhjaa
