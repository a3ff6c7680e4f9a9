/-
  The writer of package pack: Byte, Word, Long, Text, Raw, Fill, Done, New; slices.Clone of bytes. No condition but that it is a writer.
-/
import Derived.Test.YteogkgjajhdhjaaDoorPackA
namespace Go.Proofs.YteogkgjajhdhjaaDoor
open Go.RowKit

theorem byte_eq (st : Pk.Wr) (x : Int) (h0 : -9223372036854775808 ≤ x) (h1 : x ≤ 9223372036854775807) : st.put (Pk.be (IntKind.u64.wrap x).toNat (1 : Int).toNat) (x == x % 256) = st.byte x := by
  unfold Pk.Wr.byte
  by_cases h : 0 ≤ x ∧ x ≤ 255
  · have e1 : (x == x % 256) = true := by rw [beq_iff_eq]; omega
    have e2 : IntKind.u64.wrap x = x := IntWalk.u64_in _ (by omega)
    rw [e1, e2]; simp [h]
  · have e1 : (x == x % 256) = false := by rw [beq_eq_false_iff_ne]; omega
    rw [e1, decide_eq_false h, put_false, put_false]

theorem word_eq (st : Pk.Wr) (x : Int) (h0 : -9223372036854775808 ≤ x) (h1 : x ≤ 9223372036854775807) : st.put (Pk.be (IntKind.u64.wrap x).toNat (4 : Int).toNat) (x == x % 4294967296) = st.word x := by
  unfold Pk.Wr.word
  by_cases h : 0 ≤ x ∧ x ≤ 4294967295
  · have e1 : (x == x % 4294967296) = true := by rw [beq_iff_eq]; omega
    have e2 : IntKind.u64.wrap x = x := IntWalk.u64_in _ (by omega)
    rw [e1, e2]; simp [h]
  · have e1 : (x == x % 4294967296) = false := by rw [beq_eq_false_iff_ne]; omega
    rw [e1, decide_eq_false h, put_false, put_false]

set_option maxHeartbeats 400000 in
theorem byte_any (bw : Nat) (v : Value) (st : Pk.Wr) (x : Int) (w : World) (h0 : -9223372036854775808 ≤ x) (h1 : x ≤ 9223372036854775807) (h : IsW w bw v st) :
    Calls Tryd.prog 25 #[.pointer (some ⟨bw, 0, none⟩), .int .i64 x] w fun e w' => e = .returned (.tuple #[]) ∧ WOut w w' bw v (st.byte x) := by
  go_enter Tryd.func25, Tryd.ntmps25
  go_wp2_with fail
  refine (number_all bw v st (IntKind.u64.wrap x) 1 (x == x % 256) w (by rw [IntKind.wrap_u64]; omega) (by omega) (by omega) h).mono ?_
  rintro e w1 ⟨rfl, hW⟩
  rw [byte_eq st x h0 h1] at hW
  go_wp2
  go_returns
  exact ⟨rfl, hW⟩

set_option maxHeartbeats 400000 in
theorem word_any (bw : Nat) (v : Value) (st : Pk.Wr) (x : Int) (w : World) (h0 : -9223372036854775808 ≤ x) (h1 : x ≤ 9223372036854775807) (h : IsW w bw v st) :
    Calls Tryd.prog 26 #[.pointer (some ⟨bw, 0, none⟩), .int .i64 x] w fun e w' => e = .returned (.tuple #[]) ∧ WOut w w' bw v (st.word x) := by
  go_enter Tryd.func26, Tryd.ntmps26
  go_wp2_with fail
  refine (number_all bw v st (IntKind.u64.wrap x) 4 (x == x % 4294967296) w (by rw [IntKind.wrap_u64]; omega) (by omega) (by omega) h).mono ?_
  rintro e w1 ⟨rfl, hW⟩
  rw [word_eq st x h0 h1] at hW
  go_wp2
  go_returns
  exact ⟨rfl, hW⟩

theorem strCells_bv (s : ByteArray) : Lib.strCells s = bv s.data.toList := rfl

theorem put_room_false {st : Pk.Wr} {l : List UInt8} {n : Int} {may : Bool} (hl : (l.length : Int) = n) (h : st.room n may = false) : st.put l may = { st with bad := true } := by
  subst hl; unfold Pk.Wr.put; rw [h]; rfl
theorem put_room_true {st : Pk.Wr} {l : List UInt8} {n : Int} {may : Bool} (hl : (l.length : Int) = n) (h : st.room n may = true) : st.put l may = { st with b := st.b ++ l, bad := false } := by
  subst hl; unfold Pk.Wr.put; rw [h, if_pos rfl, (room_true h).1]
theorem WOut.same {w w' : World} {bw : Nat} {v : Value} {st' : Pk.Wr} (h : IsW w' bw v st') (k : Keep [bw] w w') : WOut w w' bw v st' := ⟨v, h, k.mono (by simp), fun _ hk => Or.inl hk⟩
theorem WOut.after {w w1 w2 : World} {bw : Nat} {v : Value} {st' : Pk.Wr} (k : Keep [bw] w w1) (h : WOut w1 w2 bw v st') : WOut w w2 bw v st' := h.step (k.mono (by simp)) (fun _ hk => Or.inl hk)

theorem bv_cons (c : UInt8) (l : List UInt8) : bv (c :: l) = Value.int .u8 c.toNat :: bv l := rfl

theorem text_eq (st : Pk.Wr) (s : ByteArray) : st.text s.data.toList = st.put (UInt8.ofNat s.size :: s.data.toList) (decide ((s.size : Int) ≤ 255)) := by
  have hsl : s.data.toList.length = s.size := by rw [Array.length_toList]; rfl
  rw [Pk.Wr.text, hsl]
  congr 1
  simp only [decide_eq_decide]
  omega

theorem text_cells (st : List UInt8) (s : ByteArray) (h : (s.size : Int) ≤ 255) : bv st ++ [Value.int .u8 (s.size : Int)] ++ Lib.strCells s = bv (st ++ (UInt8.ofNat s.size :: s.data.toList)) := by
  rw [strCells_bv, bv_append, bv_cons, List.append_assoc]
  congr 3
  simp; omega

end Go.Proofs.YteogkgjajhdhjaaDoor