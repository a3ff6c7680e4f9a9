/-
  Layer 4's laws: small laws that all of them use. No condition.
-/
import Derived.Test.YteogkgjajhdhjaaSuperI
import Derived.Test.YteogkgjajhdhjaaSuperF
import Derived.Test.YteogkgjajhdhjaaSuperG
import Derived.Test.YteogkgjajhdhjaaSuperO
import Derived.Test.YteogkgjajhdhjaaArith
import Derived.Test.YteogkgjajhdhjaaPackH
import Derived.Laws.BitsAllLaws
namespace Go.Proofs.Yteogkgjajhdhjaa
open Go.RowKit

/-- a superblock's five cells are written over -/
theorem set5 {w : World} {b : Nat} {x0 x1 x2 x3 x4 : Value} {t : TypeId} (B : Blk w b [x0, x1, x2, x3, x4] t) (y0 y1 y2 y3 y4 : Value) :
    ∃ W, W = (((((w.setCell ⟨b, 0, none⟩ y0).setCell ⟨b, 1, none⟩ y1).setCell ⟨b, 2, none⟩ y2).setCell ⟨b, 3, none⟩ y3).setCell ⟨b, 4, none⟩ y4) ∧ Blk W b [y0, y1, y2, y3, y4] t ∧ Keep [b] w W :=
  ⟨_, rfl, ((((B.set 0 y0).set 1 y1).set 2 y2).set 3 y3).set 4 y4, (((((Keep.refl _ _).setCell (Or.inl (by simp)) _).setCell (Or.inl (by simp)) _).setCell (Or.inl (by simp)) _).setCell (Or.inl (by simp)) _).setCell (Or.inl (by simp)) _⟩

theorem set5b {w : World} {b : Nat} {x0 x1 x2 x3 x4 : Value} {t : TypeId} (B : Blk w b [x0, x1, x2, x3, x4] t) (y0 y1 y2 y3 y4 : Value) : Blk (((((w.setCell ⟨b, 0, none⟩ y0).setCell ⟨b, 1, none⟩ y1).setCell ⟨b, 2, none⟩ y2).setCell ⟨b, 3, none⟩ y3).setCell ⟨b, 4, none⟩ y4) b [y0, y1, y2, y3, y4] t :=
  ((((B.set 0 y0).set 1 y1).set 2 y2).set 3 y3).set 4 y4
theorem set5k (w : World) (b : Nat) (y0 y1 y2 y3 y4 : Value) : Keep [b] w (((((w.setCell ⟨b, 0, none⟩ y0).setCell ⟨b, 1, none⟩ y1).setCell ⟨b, 2, none⟩ y2).setCell ⟨b, 3, none⟩ y3).setCell ⟨b, 4, none⟩ y4) :=
  (((((Keep.refl _ _).setCell (Or.inl (by simp)) _).setCell (Or.inl (by simp)) _).setCell (Or.inl (by simp)) _).setCell (Or.inl (by simp)) _).setCell (Or.inl (by simp)) _
theorem set5K {w0 w : World} {b : Nat} (K : Keep [] w0 w) (hb : w0.heap.size ≤ b) (y0 y1 y2 y3 y4 : Value) : Keep [] w0 (((((w.setCell ⟨b, 0, none⟩ y0).setCell ⟨b, 1, none⟩ y1).setCell ⟨b, 2, none⟩ y2).setCell ⟨b, 3, none⟩ y3).setCell ⟨b, 4, none⟩ y4) :=
  ((((K.setCell (Or.inr hb) _).setCell (Or.inr hb) _).setCell (Or.inr hb) _).setCell (Or.inr hb) _).setCell (Or.inr hb) _

theorem SuN.of {B : Nat} {w : World} {s : Sp.Su} {ao : Option Addr} {c : Nat} (rd : RdV w (.slice ao s.snaps.length c) s.snaps.length 3 (Sp.scells s.snaps)) (le : s.snaps.length ≤ 9223372036854775807) (fp : ∀ x ∈ fpOf (.slice ao s.snaps.length c), B ≤ x) :
    SuN B w (.agg #[.int .i64 s.gen, .int .i64 s.root, .int .i64 s.next, .int .i64 s.commit, .slice ao s.snaps.length c]) s := ⟨ao, c, rfl, rd, le, fp⟩

theorem AppOut.lenEq {e : TypeId} {size n m : Nat} {w w' : World} {v v' : Value} {zs : List Value} (o : AppOut e size w v n zs v' w') (h : n = m) : AppOut e size w v m zs v' w' := h ▸ o

theorem AppOut.keeps {F : List Nat} {e : TypeId} {size n : Nat} {w0 w w' : World} {v v' : Value} {zs : List Value} (o : AppOut e size w v n zs v' w') (k : Keep F w0 w) (hr : ∀ x ∈ rowOf v, w0.heap.size ≤ x) : Keep F w0 w' ∧ ∀ x ∈ rowOf v', w0.heap.size ≤ x :=
  ⟨k.grown o.2.1 (fun x hx => Or.inr (hr x (mem_rowOf.2 hx))), fun x hx => (o.2.2 x hx).elim (hr x) (fun h => Nat.le_trans k.size h)⟩

theorem own_row_lt {w : World} {base : Nat} {e : TypeId} {size n : Nat} {v : Value} {xs : List Value} (h : w.ownsRow base e size v n xs) : ∀ x ∈ rowOf v, x < w.heap.size := by
  intro x hx
  rcases h.2 with ⟨rfl, _⟩ | ⟨g, cap, cur, rfl, _, hg, _⟩
  · simp [rowOf, Value.ownBlock] at hx
  · simp [rowOf, Value.ownBlock] at hx
    subst hx
    exact (Array.getElem?_eq_some_iff.1 hg).1

theorem cutS_le (s : Sp.Su) : (Sp.cutS s).snaps.length ≤ 10 := by unfold Sp.cutS; rw [List.length_take]; omega

/-- one byte turned is another list -/
theorem turned_ne {B : List UInt8} {j : Nat} {x : UInt8} {t : Nat} (hx : B[j]? = some x) (ht : 0 < t) (ht2 : t < 256) : B.set j (UInt8.ofNat (x.toNat ^^^ t)) ≠ B := by
  intro h
  have h1 : (B.set j (UInt8.ofNat (x.toNat ^^^ t)))[j]? = some (UInt8.ofNat (x.toNat ^^^ t)) := by
    rw [List.getElem?_set_self (List.getElem?_eq_some_iff.1 hx).1]
  rw [h, hx] at h1
  have h2 := congrArg UInt8.toNat (Option.some.inj h1)
  have hxl := x.toNat_lt
  have h3 : x.toNat ^^^ t < 2 ^ 8 := Nat.xor_lt_two_pow (by omega) (by omega)
  have h4 : (UInt8.ofNat (x.toNat ^^^ t)).toNat = x.toNat ^^^ t := by rw [UInt8.toNat_ofNat']; exact Nat.mod_eq_of_lt h3
  rw [h4] at h2
  have h5 : x.toNat ^^^ (x.toNat ^^^ t) = t := by rw [← Nat.xor_assoc, Nat.xor_self, Nat.zero_xor]
  rw [← h2, Nat.xor_self] at h5
  omega

theorem ofE_cases (l : List UInt8) : ofE l = 0 ∨ ofE l = 12 := by unfold ofE; split <;> simp
theorem ofS_len (l : List UInt8) (h : l.length ≠ 512) : ofS l = ⟨0, 0, 0, 0, []⟩ ∧ ofE l = 12 := ofS_none (by unfold Sp.of; rw [if_neg (fun hc => h hc.1)])
theorem of_block {s : Sp.Su} (h : Sp.right s = true) : ofS (Sp.block s) = s ∧ ofE (Sp.block s) = 0 := ofS_some (Sp.of_complete h)
/-- what is none's block is not read as s -/
theorem ofS_ne {l : List UInt8} {s : Sp.Su} (h : Sp.right s = true) (hl : Sp.block s ≠ l) : ofS l ≠ s := by
  intro he
  cases ho : Sp.of l with
  | none =>
    rw [(ofS_none ho).1] at he
    have := (Sp.right_bd h).g0
    rw [← he] at this
    simp at this
  | some u =>
    rw [(ofS_some ho).1] at he
    subst he
    exact hl (Sp.of_sound ho).2
theorem chooseS_eq (la lb : List UInt8) : chooseS la lb = bestOf (bestOf ⟨0, 0, 0, 0, []⟩ 0 la) 1 lb := rfl

theorem bestOf_block {s : Sp.Su} (h : Sp.right s = true) (best : Sp.Su) (p : Int) : bestOf best p (Sp.block s) = if s.gen % 2 = p ∧ best.gen < s.gen then s else best := by
  obtain ⟨h1, h2⟩ := of_block h
  by_cases hc : s.gen % 2 = p ∧ best.gen < s.gen
  · rw [if_pos hc, bestOf_yes h2 (by rw [h1]; exact hc.1) (by rw [h1]; exact hc.2), h1]
  · rw [if_neg hc]
    exact bestOf_no (fun _ a2 a3 => by rw [h1] at a2 a3; exact hc ⟨a2, a3⟩)
theorem bestOf_nil (best : Sp.Su) (p : Int) : bestOf best p [] = best := bestOf_no (fun a1 => by rw [(ofS_none of_nil).2] at a1; exact absurd a1 (by decide))

theorem chooseE_pos {la lb : List UInt8} {s : Sp.Su} (h : chooseS la lb = s) (h0 : s.gen ≠ 0) : chooseE la lb = 0 := by unfold chooseE; rw [h, if_neg h0]

end Go.Proofs.Yteogkgjajhdhjaa
