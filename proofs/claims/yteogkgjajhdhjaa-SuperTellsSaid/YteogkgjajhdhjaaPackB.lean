/-
  The writer of package pack: Byte, Word, Long, Text, Raw, Fill, Done, New; slices.Clone of bytes. No condition but that it is a writer.
-/
import Derived.Test.YteogkgjajhdhjaaPackA
namespace Go.Proofs.Yteogkgjajhdhjaa
open Go.RowKit

theorem byte_eq (st : Pk.Wr) (x : Int) (h0 : -9223372036854775808 ≤ x) (h1 : x ≤ 9223372036854775807) : st.put (Pk.be (IntKind.u64.wrap x).toNat (1 : Int).toNat) (x == x % 256) = st.byte x := by
  unfold Pk.Wr.byte
  by_cases h : 0 ≤ x ∧ x ≤ 255
  · have e1 : (x == x % 256) = true := by rw [beq_iff_eq]; omega
    have e2 : IntKind.u64.wrap x = x := IntWalk.u64_in _ (by omega)
    rw [e1, e2]; simp [h]
  · have e1 : (x == x % 256) = false := by rw [beq_eq_false_iff_ne]; omega
    rw [e1, decide_eq_false h, put_false, put_false]

theorem word_eq (st : Pk.Wr) (x : Int) (h0 : -9223372036854775808 ≤ x) (h1 : x ≤ 9223372036854775807) : st.put (Pk.be (IntKind.u64.wrap x).toNat (4 : Int).toNat) (x == x % 4294967296) = st.word x := by
  unfold Pk.Wr.word
  by_cases h : 0 ≤ x ∧ x ≤ 4294967295
  · have e1 : (x == x % 4294967296) = true := by rw [beq_iff_eq]; omega
    have e2 : IntKind.u64.wrap x = x := IntWalk.u64_in _ (by omega)
    rw [e1, e2]; simp [h]
  · have e1 : (x == x % 4294967296) = false := by rw [beq_eq_false_iff_ne]; omega
    rw [e1, decide_eq_false h, put_false, put_false]

set_option maxHeartbeats 400000 in
theorem byte_any (bw : Nat) (v : Value) (st : Pk.Wr) (x : Int) (w : World) (h0 : -9223372036854775808 ≤ x) (h1 : x ≤ 9223372036854775807) (h : IsW w bw v st) :
    Calls Try.prog 39 #[.pointer (some ⟨bw, 0, none⟩), .int .i64 x] w fun e w' => e = .returned (.tuple #[]) ∧ WOut w w' bw v (st.byte x) := by
  go_enter Try.func39, Try.ntmps39
  go_wp2_with fail
  refine (number_all bw v st (IntKind.u64.wrap x) 1 (x == x % 256) w (by rw [IntKind.wrap_u64]; omega) (by omega) (by omega) h).mono ?_
  rintro e w1 ⟨rfl, hW⟩
  rw [byte_eq st x h0 h1] at hW
  go_wp2
  go_returns
  exact ⟨rfl, hW⟩

set_option maxHeartbeats 400000 in
theorem word_any (bw : Nat) (v : Value) (st : Pk.Wr) (x : Int) (w : World) (h0 : -9223372036854775808 ≤ x) (h1 : x ≤ 9223372036854775807) (h : IsW w bw v st) :
    Calls Try.prog 40 #[.pointer (some ⟨bw, 0, none⟩), .int .i64 x] w fun e w' => e = .returned (.tuple #[]) ∧ WOut w w' bw v (st.word x) := by
  go_enter Try.func40, Try.ntmps40
  go_wp2_with fail
  refine (number_all bw v st (IntKind.u64.wrap x) 4 (x == x % 4294967296) w (by rw [IntKind.wrap_u64]; omega) (by omega) (by omega) h).mono ?_
  rintro e w1 ⟨rfl, hW⟩
  rw [word_eq st x h0 h1] at hW
  go_wp2
  go_returns
  exact ⟨rfl, hW⟩

set_option maxHeartbeats 400000 in
theorem long_any (bw : Nat) (v : Value) (st : Pk.Wr) (x : Int) (w : World) (h0 : 0 ≤ x) (h : IsW w bw v st) :
    Calls Try.prog 41 #[.pointer (some ⟨bw, 0, none⟩), .int .u64 x] w fun e w' => e = .returned (.tuple #[]) ∧ WOut w w' bw v (st.long x) := by
  go_enter Try.func41, Try.ntmps41
  go_wp2_with fail
  refine (number_all bw v st x 8 true w h0 (by omega) (by omega) h).mono ?_
  rintro e w1 ⟨rfl, hW⟩
  go_wp2
  go_returns
  exact ⟨rfl, hW⟩

theorem strCells_bv (s : ByteArray) : Lib.strCells s = bv s.data.toList := rfl

theorem put_room_false {st : Pk.Wr} {l : List UInt8} {n : Int} {may : Bool} (hl : (l.length : Int) = n) (h : st.room n may = false) : st.put l may = { st with bad := true } := by
  subst hl; unfold Pk.Wr.put; rw [h]; rfl
theorem put_room_true {st : Pk.Wr} {l : List UInt8} {n : Int} {may : Bool} (hl : (l.length : Int) = n) (h : st.room n may = true) : st.put l may = { st with b := st.b ++ l, bad := false } := by
  subst hl; unfold Pk.Wr.put; rw [h, if_pos rfl, (room_true h).1]
theorem WOut.same {w w' : World} {bw : Nat} {v : Value} {st' : Pk.Wr} (h : IsW w' bw v st') (k : Keep [bw] w w') : WOut w w' bw v st' := ⟨v, h, k.mono (by simp), fun _ hk => Or.inl hk⟩
theorem WOut.after {w w1 w2 : World} {bw : Nat} {v : Value} {st' : Pk.Wr} (k : Keep [bw] w w1) (h : WOut w1 w2 bw v st') : WOut w w2 bw v st' := h.step (k.mono (by simp)) (fun _ hk => Or.inl hk)

set_option maxRecDepth 100000 in
set_option maxHeartbeats 800000 in
theorem raw_any (bw : Nat) (v : Value) (st : Pk.Wr) (s : ByteArray) (w : World) (_hs : s.size ≤ maxLen) (h : IsW w bw v st) :
    Calls Try.prog 47 #[.pointer (some ⟨bw, 0, none⟩), .string s] w fun e w' => e = .returned (.tuple #[]) ∧ WOut w w' bw v (st.raw s.data.toList) := by
  obtain ⟨i0, hi, hz0, hz1, hz2⟩ := info_parts Try.info5
  have hcap := h.cap
  have hsl : s.data.toList.length = s.size := by rw [Array.length_toList]; rfl
  have Hsl := Lib.hid hsl
  clear hsl
  cases hr : st.room s.size true with
  | false =>
    go_enter Try.func47, Try.ntmps47
    go_wp2_with fail
    refine (room_any bw v st s.size true w h).mono ?_
    rintro e w1 ⟨rfl, h1, k1⟩
    rw [hr] at h1 ⊢
    go_wp2
    go_returns
    refine ⟨rfl, ?_⟩
    rw [Pk.Wr.raw, put_room_false (by rw [Hsl.out]) hr]
    exact WOut.same h1 k1
  | true =>
    obtain ⟨hbad, _, hroom⟩ := room_true hr
    go_enter Try.func47, Try.ntmps47
    go_wp2_with fail
    refine (room_any bw v st s.size true w h).mono ?_
    rintro e w1 ⟨rfl, h1, k1⟩
    have e0 : st.raw s.data.toList = { st with b := st.b ++ s.data.toList, bad := false } := by rw [Pk.Wr.raw, put_room_true (by rw [Hsl.out]) hr]
    have E0 := Lib.hid e0
    clear e0
    rw [hr] at h1 ⊢
    have c0 : w1.cell? ⟨bw, 0, none⟩ = some v := h1.blk.cell 0
    have hown : w1.ownsRow 0 5 1 v st.b.length (bv st.b) := h1.own
    go_wp2_with (at_builtin; refine wpList_app rfl _ _ 27 9 rfl _ _ rfl rfl (run_app_str _ 27 9 _ 5 i0 Try.underlying27 Try.underlying9 hi hz0 hz1 hz2 _ _ _ hown s (by unfold maxLen; omega) (by omega)) ?_; intro v2 w2 hO; obtain ⟨ao2, cp2, rfl⟩ := hO.slice; obtain ⟨b2, W2⟩ := app_store (b2 := st.b ++ s.data.toList) h1 (Keep.refl _ _) hO (by rw [strCells_bv, bv_append]) (by simp only [List.length_append, Hsl.out]; omega); have c2 := b2.cell 0; have f2 := b2.free 0)
    go_returns
    refine ⟨rfl, ?_⟩
    rw [E0.out]
    exact W2.after k1

theorem bv_cons (c : UInt8) (l : List UInt8) : bv (c :: l) = Value.int .u8 c.toNat :: bv l := rfl

theorem text_eq (st : Pk.Wr) (s : ByteArray) : st.text s.data.toList = st.put (UInt8.ofNat s.size :: s.data.toList) (decide ((s.size : Int) ≤ 255)) := by
  have hsl : s.data.toList.length = s.size := by rw [Array.length_toList]; rfl
  rw [Pk.Wr.text, hsl]
  congr 1
  simp only [decide_eq_decide]
  omega

theorem text_cells (st : List UInt8) (s : ByteArray) (h : (s.size : Int) ≤ 255) : bv st ++ [Value.int .u8 (s.size : Int)] ++ Lib.strCells s = bv (st ++ (UInt8.ofNat s.size :: s.data.toList)) := by
  rw [strCells_bv, bv_append, bv_cons, List.append_assoc]
  congr 3
  simp; omega

set_option maxRecDepth 100000 in
set_option maxHeartbeats 800000 in
theorem text_any (bw : Nat) (v : Value) (st : Pk.Wr) (s : ByteArray) (w : World) (hs : s.size ≤ 9223372036854775806) (h : IsW w bw v st) :
    Calls Try.prog 19 #[.pointer (some ⟨bw, 0, none⟩), .string s] w fun e w' => e = .returned (.tuple #[]) ∧ WOut w w' bw v (st.text s.data.toList) := by
  obtain ⟨i0, hi, hz0, hz1, hz2⟩ := info_parts Try.info5
  have hcap := h.cap
  have hsl : s.data.toList.length = s.size := by rw [Array.length_toList]; rfl
  have Hsl := Lib.hid hsl
  clear hsl
  have e0 := text_eq st s
  have hl : ((UInt8.ofNat s.size :: s.data.toList).length : Int) = 1 + s.size := by simp [Hsl.out]; omega
  cases hr : st.room (1 + s.size) (decide ((s.size : Int) ≤ 255)) with
  | false =>
    rw [put_room_false hl hr] at e0
    have E0 := Lib.hid e0
    clear e0 hl
    go_enter Try.func19, Try.ntmps19
    go_wp2_with fail
    refine (room_any bw v st (1 + s.size) (decide ((s.size : Int) ≤ 255)) w h).mono ?_
    rintro e w1 ⟨rfl, h1, k1⟩
    rw [hr] at h1 ⊢
    go_wp2
    go_returns
    refine ⟨rfl, ?_⟩
    rw [E0.out]
    exact WOut.same h1 k1
  | true =>
    rw [put_room_true hl hr] at e0
    have E0 := Lib.hid e0
    clear e0 hl
    obtain ⟨hbad, hmay, hroom⟩ := room_true hr
    have hmay' := of_decide_eq_true hmay
    have Hmay := Lib.hid hmay'
    clear hmay hmay'
    go_enter Try.func19, Try.ntmps19
    go_wp2_with fail
    refine (room_any bw v st (1 + s.size) (decide ((s.size : Int) ≤ 255)) w h).mono ?_
    rintro e w1 ⟨rfl, h1, k1⟩
    rw [hr] at h1 ⊢
    have c0 : w1.cell? ⟨bw, 0, none⟩ = some v := h1.blk.cell 0
    have hown : w1.ownsRow 0 5 1 v st.b.length (bv st.b) := h1.own
    have hbw := h1.blk.lt
    have hmay' := Hmay.out
    go_wp2_with (first | (at_builtin; refine wpList_app rfl (.tmp 16) (.tmp 20) 27 27 rfl _ _ rfl rfl (run_app_slice _ 27 _ 5 i0 _ 1 1 Try.underlying27 hi hz0 hz1 hz2 rfl (by decide) _ _ _ (by exact (hown.alloc _)) (some ⟨w1.heap.size, 0, none⟩) 1 1 [_] rfl (fun h => by cases h) (by intro a ha; cases ha; exact World.news_of_block (heap_alloc_new _ _)) (fun u hu => by simp at hu; subst hu; rfl) (by unfold maxLen; omega) (by omega)) ?_; intro v2 w2 hO) | (at_builtin; refine wpList_app rfl (.tmp 21) (.tmp 22) 27 9 rfl _ _ rfl rfl (run_app_str _ 27 9 _ 5 i0 Try.underlying27 Try.underlying9 hi hz0 hz1 hz2 _ _ _ hO.1 s (by unfold maxLen; omega) (by omega)) ?_; intro v3 w3 hO3; obtain ⟨ao2, cp2, rfl⟩ := hO3.slice; obtain ⟨b2, W2⟩ := app_store (b2 := st.b ++ (UInt8.ofNat s.size :: s.data.toList)) h1 ((Keep.refl _ _).alloc _) (hO.trans hO3) (text_cells st.b s hmay') (by simp only [List.length_append, List.length_cons, Hsl.out]; omega); have c2 := b2.cell 0; have f2 := b2.free 0))
    go_returns
    refine ⟨rfl, ?_⟩
    rw [E0.out]
    exact W2.after k1
end Go.Proofs.Yteogkgjajhdhjaa
