/-
  The document's Refs: New, is, Free, Take, Inc, Dec, Mark. No condition but that the receiver is one that New made, or a later one.
-/
import Derived.Test.YtlecdappgpbnlaaRfH
namespace Go.Proofs.Ytlecdappgpbnlaa
open Go.RowKit

set_option maxRecDepth 100000 in
set_option maxHeartbeats 800000 in
theorem qnew_any (x : Int) (w : World) (B : Int) (hB : B = min (max x 2) 4294967296) :
    Calls Try.prog 18 #[.int .i64 x] w fun e w' => ∃ p, e = .returned (.pointer (some ⟨p, 0, none⟩)) ∧ IsRR w' p (.slice none 0 0) (fun _ => 0) B ∧ w.heap.size ≤ p ∧ Keep [] w w' := by
  have hu : Rf.used (fun _ => 0) B.toNat = [] := by
    apply List.eq_nil_of_length_eq_zero
    rw [Rf.used_length, Rf.cntN_zero _ (fun _ _ _ => rfl)]
  have hE : IsRR (w.alloc (.cells #[.int .i64 B, .slice none 0 0] 63)) w.heap.size (.slice none 0 0) (fun _ => 0) B :=
    ⟨Blk.new' w [.int .i64 B, .slice none 0 0] 63, Or.inl ⟨hu, rfl⟩, by simp [rowOf, Value.ownBlock], ⟨by omega, by omega, fun k h => absurd rfl h, fun k => Int.le_refl _⟩⟩
  have HE := Lib.hid hE
  have HB := Lib.hid hB
  clear hu hE hB
  by_cases h2 : x < 2
  · obtain rfl : B = 2 := by have := HB.out; omega
    go_enter Try.func18, Try.ntmps18
    go_wp2
    go_ret
    exact ⟨_, rfl, HE.out, Nat.le_refl _, (Keep.refl _ _).alloc _⟩
  · by_cases h3 : 4294967296 < x
    · obtain rfl : B = 4294967296 := by have := HB.out; omega
      go_enter Try.func18, Try.ntmps18
      go_wp2
      go_ret
      exact ⟨_, rfl, HE.out, Nat.le_refl _, (Keep.refl _ _).alloc _⟩
    · obtain rfl : B = x := by have := HB.out; omega
      go_enter Try.func18, Try.ntmps18
      go_wp2
      go_ret
      exact ⟨_, rfl, HE.out, Nat.le_refl _, (Keep.refl _ _).alloc _⟩

set_option maxRecDepth 100000 in
set_option maxHeartbeats 800000 in
theorem qis_any (p : Nat) (v : Value) (f : Int → Int) (B n : Int) (w : World) (h : IsRR w p v f B) (b : Bool) (hb : b = decide (2 ≤ n ∧ n < B)) :
    Calls Try.prog 44 #[.pointer (some ⟨p, 0, none⟩), .int .i64 n] w fun e w' => e = .returned (.bool b) ∧ w = w' := by
  obtain ⟨c0, _, _⟩ := h.cells
  have HB := Lib.hid hb
  clear h hb
  by_cases h2 : 2 ≤ n
  · by_cases h3 : n < B
    · obtain rfl : b = true := by rw [HB.out, decide_eq_true_eq]; exact ⟨h2, h3⟩
      go_enter Try.func44, Try.ntmps44
      go_wp2
      go_ret
      exact ⟨rfl, rfl⟩
    · obtain rfl : b = false := by rw [HB.out, decide_eq_false_iff_not]; exact fun h => h3 h.2
      go_enter Try.func44, Try.ntmps44
      go_wp2
      go_ret
      exact ⟨rfl, rfl⟩
  · obtain rfl : b = false := by rw [HB.out, decide_eq_false_iff_not]; exact fun h => h2 h.1
    go_enter Try.func44, Try.ntmps44
    go_wp2
    go_ret
    exact ⟨rfl, rfl⟩

set_option maxRecDepth 100000 in
set_option maxHeartbeats 800000 in
theorem qfree_any (p : Nat) (v : Value) (f : Int → Int) (B : Int) (w : World) (h : IsRR w p v f B) :
    Calls Try.prog 38 #[.pointer (some ⟨p, 0, none⟩)] w fun e w' => e = .returned (.int .i64 (B - 2 - Rf.cntN f B.toNat)) ∧ Keep [] w w' := by
  obtain ⟨c0, c1, _⟩ := h.cells
  obtain ⟨ao, cc, rfl⟩ := h.row.len
  rw [Rf.used_length] at c1
  have hc := Rf.cntN_le f B.toNat
  have hb0 := h.good.b0
  have hb1 := h.good.b1
  have hw1 : IntKind.i64.wrap (B - 2) = B - 2 := IntWalk.i64_in _ (by omega)
  have hw2 : IntKind.i64.wrap (B - 2 - (Rf.cntN f B.toNat : Int)) = B - 2 - (Rf.cntN f B.toNat : Int) := IntWalk.i64_in _ (by omega)
  clear h
  go_enter Try.func38, Try.ntmps38
  go_wp2_with fail
  go_region
  go_wp2
  go_ret
  exact ⟨rfl, (Keep.refl _ _).drew⟩

/-- what is left behind: the counts are g -/
def QLeft (w w' : World) (p : Nat) (g : Int → Int) (B : Int) : Prop := (∃ v', IsRR w' p v' g B ∧ ∀ x ∈ rowOf v', w.heap.size ≤ x) ∧ Keep [p] w w'

set_option maxRecDepth 100000 in
set_option maxHeartbeats 1600000 in
/-- Take: the least free block, or none -/
theorem qtake_any (p : Nat) (v : Value) (f : Int → Int) (B m : Int) (w : World) (h : IsRR w p v f B) (h2 : 2 ≤ m) (hm : m ≤ B) (hlow : ∀ k, 2 ≤ k → k < m → f k ≠ 0) (hz : m < B → f m = 0) :
    Calls Try.prog 35 #[.pointer (some ⟨p, 0, none⟩)] w fun e w' => (m < B → e = .returned (.tuple #[.int .i64 m, .bool true]) ∧ QLeft w w' p (Rf.upd f m 1) B) ∧ (m = B → e = .returned (.tuple #[.int .i64 0, .bool false]) ∧ w = w') := by
  obtain ⟨c0, c1, _⟩ := h.cells
  obtain ⟨ao, cc, rfl⟩ := h.row.len
  obtain ⟨L, hL⟩ : ∃ L, L = Rf.used f B.toNat := ⟨_, rfl⟩
  have hrow := h.row
  have hle := used_le (f := f) h.good.b1
  rw [← hL] at c1 hrow hle
  have hfront : ∀ i : Nat, i ≤ L.length → (∀ j, j < i → L[j]? = some (2 + (j : Int))) → (∀ k : Int, 2 ≤ k → k < 2 + (i : Int) → f k ≠ 0) ∧ (L[i]? ≠ some (2 + (i : Int)) → 2 + (i : Int) < B → f (2 + (i : Int)) = 0) := fun i hi hf => by
    have := Rf.used_front (f := f) (B := B.toNat) (fun k hk => (h.good.inn k hk).1) (i := i) (by rw [← hL]; exact hi) (by rw [← hL]; exact hf)
    rw [← hL] at this
    exact ⟨this.1, fun h1 h2 => this.2 h1 (by omega)⟩
  have HFR := Lib.hid hfront
  have HH := Lib.hid h
  have HLOW := Lib.hid hlow
  have HZ := Lib.hid hz
  have hb1 := h.good.b1
  have hinn := Lib.hid h.good.inn
  have hstop : ∀ i : Nat, i ≤ L.length → (∀ j, j < i → L[j]? = some (2 + (j : Int))) → L[i]? ≠ some (2 + (i : Int)) → 2 + (i : Int) ≤ B → 2 + (i : Int) = m := fun i hi hf hne hiB => by
    obtain ⟨a1, a2⟩ := HFR.out i hi hf
    rcases Int.lt_trichotomy (2 + (i : Int)) m with h1 | h1 | h1
    · exact absurd (a2 hne (by omega)) (HLOW.out _ (by omega) h1)
    · exact h1
    · exact absurd (HZ.out (by omega)) (a1 m h2 h1)
  have hbound : ∀ i : Nat, i ≤ L.length → (∀ j, j < i → L[j]? = some (2 + (j : Int))) → 2 + (i : Int) ≤ B := fun i hi hf => by
    by_cases h0 : i = 0
    · omega
    · have hj := hf (i - 1) (by omega)
      have hmm := List.mem_of_getElem? hj
      rw [hL] at hmm
      have := (Rf.mem_used.1 hmm).2.1
      omega
  have HST := Lib.hid hstop
  have HBD := Lib.hid hbound
  clear hL hfront h hlow hz hstop hbound
  go_enter Try.func35, Try.ntmps35
  go_wp2_with fail
  go_loopw [4, 5] (fun n i wr => ∃ k : Nat, n = .int .i64 (2 + (k : Int)) ∧ i = .int .i64 k ∧ k ≤ L.length ∧ Hid (∀ j, j < k → L[j]? = some (2 + (j : Int))) ∧ wr = w) (fun _ i _ => L.length - (intOf i).toNat)
  case atStart => exact ⟨0, rfl, rfl, Nat.zero_le _, Lib.hid (fun j h => absurd h (by omega)), rfl⟩
  case round =>
    obtain ⟨k, rfl, rfl, hk, hI, rfl⟩ := hrel
    have hkB := HBD.out k hk hI.out
    by_cases hon : L[k]? = some (2 + (k : Int))
    · have hlt : k < L.length := (List.getElem?_eq_some_iff.1 hon).1
      rcases hrow with ⟨h0, _⟩ | ⟨g, c, he, hg, hc, hx⟩
      · rw [h0] at hlt; simp at hlt
      cases he
      obtain ⟨q0, _⟩ := hx k _ hon
      have HON := Lib.hid hon
      have hadd : IntKind.i64.wrap (2 + (k : Int) + 1) = 2 + ((k + 1 : Nat) : Int) := by rw [IntWalk.i64_in _ (by omega)]; omega
      clear hx hon
      go_wp2
      go_roundw
      case rel =>
        refine ⟨k + 1, by first | rfl | (congr 1; omega), by go_num, by omega, Lib.hid (fun j hj => ?_), by first | rfl | trivial⟩
        by_cases hjk : j < k
        · exact hI.out j hjk
        · obtain rfl : j = k := by omega
          exact HON.out
      case measure => simp [intOf]; omega
    · have hkm := HST.out k hk hI.out hon hkB
      obtain ⟨M, hM⟩ : ∃ M : Int, M = 2 + (k : Int) := ⟨_, rfl⟩
      rw [← hM] at hkm
      subst hkm
      have HM := Lib.hid hM
      have hend : ∀ (P : Prop), (k < L.length → P) → (¬ k < L.length → P) → P := fun P a b => by by_cases h : k < L.length; exact a h; exact b h
      rw [← hM]
      rw [← hM] at hon
      clear hM hI
      by_cases hMB : M < B
      · have hge : ¬ B ≤ M := by omega
        by_cases hlt : k < L.length
        · rcases hrow with ⟨h0, _⟩ | ⟨g, c, he, hg, hc, hx⟩
          · rw [h0] at hlt; simp at hlt
          cases he
          obtain ⟨x, hxk⟩ : ∃ x, L[k]? = some x := ⟨_, List.getElem?_eq_getElem hlt⟩
          obtain ⟨q0, _⟩ := hx k x hxk
          have hxb : (x == M) = false := by rw [beq_eq_false_iff_ne]; intro e; rw [e] at hxk; exact hon hxk
          clear hx hxk hon
          go_wp2_with fail
          refine (qset_any p _ f B M 1 wr HH.out h2 hMB (by omega)).mono ?_
          rintro e w' ⟨rfl, hl, hk'⟩
          go_wp2
          go_ret2
          exact ⟨fun _ => ⟨rfl, hl, hk'⟩, fun h => absurd h (by omega)⟩
        · clear hon
          go_wp2_with fail
          refine (qset_any p _ f B M 1 wr HH.out h2 hMB (by omega)).mono ?_
          rintro e w' ⟨rfl, hl, hk'⟩
          go_wp2
          go_ret2
          exact ⟨fun _ => ⟨rfl, hl, hk'⟩, fun h => absurd h (by omega)⟩
      · have hge : B ≤ M := by omega
        by_cases hlt : k < L.length
        · rcases hrow with ⟨h0, _⟩ | ⟨g, c, he, hg, hc, hx⟩
          · rw [h0] at hlt; simp at hlt
          cases he
          obtain ⟨x, hxk⟩ : ∃ x, L[k]? = some x := ⟨_, List.getElem?_eq_getElem hlt⟩
          obtain ⟨q0, _⟩ := hx k x hxk
          have hxb : (x == M) = false := by rw [beq_eq_false_iff_ne]; intro e; rw [e] at hxk; exact hon hxk
          clear hx hxk hon
          go_wp2
          go_ret2
          exact ⟨fun h => absurd h (by omega), fun _ => ⟨rfl, by first | rfl | trivial⟩⟩
        · clear hon
          go_wp2
          go_ret2
          exact ⟨fun h => absurd h (by omega), fun _ => ⟨rfl, by first | rfl | trivial⟩⟩
end Go.Proofs.Ytlecdappgpbnlaa
