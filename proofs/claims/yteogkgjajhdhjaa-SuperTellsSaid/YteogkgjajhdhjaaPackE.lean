/-
  The reader of package pack: Byte, Word, Long, Text, Raw, Noughts, Left, Wrong. No condition but that it is a reader.
-/
import Derived.Test.YteogkgjajhdhjaaPackD
namespace Go.Proofs.Yteogkgjajhdhjaa
open Go.RowKit

theorem or_step (r : Nat) (c : UInt8) (hr : r < 72057594037927936) : bits BinOp.or IntKind.u64 ((r : Int) * 256) (IntKind.u64.wrap (c.toNat : Int)) = ((r * 256 + c.toNat : Nat) : Int) := by
  have hc := c.toNat_lt
  have h1 : IntKind.u64.wrap (c.toNat : Int) = (c.toNat : Int) := IntWalk.u64_in _ (by omega)
  rw [h1, u64_or _ _ (by omega) (by omega) (by omega) (by omega)]
  congr 1
  have h2 : ((r : Int) * 256).toNat = 2 ^ 8 * r := by omega
  rw [h2, Int.toNat_natCast, ← Nat.two_pow_add_eq_or_of_lt (show c.toNat < 2 ^ 8 by omega)]
  omega

theorem rd_lt8 (l : List UInt8) (k : Nat) (h : k < 8) : Pk.rd (l.take k) < 72057594037927936 := by
  have h1 := Pk.rd_lt (l.take k)
  have h2 : 256 ^ (l.take k).length ≤ 256 ^ 7 := Nat.pow_le_pow_right (by omega) (by simp; omega)
  omega

set_option maxHeartbeats 400000 in
theorem rnumber_any (br : Nat) (v : Value) (st : Pk.Rd) (n : Int) (w : World) (hn : n ≤ 8) (h : IsR w br v st) :
    Calls Try.prog 66 #[.pointer (some ⟨br, 0, none⟩), .int .i64 n] w fun e w' => e = .returned (.int .u64 (Pk.rd (st.take n))) ∧ ROut w w' br v (st.skip n) := by
  have htl : (st.take n).length ≤ 8 := by unfold Pk.Rd.take; split <;> simp; omega
  go_enter Try.func66, Try.ntmps66
  go_wp2_with fail
  refine (take_any br v st n w h).mono ?_
  rintro e w1 ⟨x, rfl, hx, hfx, hR⟩
  obtain ⟨hl, ao, cap, rfl, hc, hnn, hcx⟩ := hx
  have Hl := Lib.hid hl
  have HX := Lib.hid hcx
  have Hnn := Lib.hid hnn
  clear hl hcx hnn
  go_wp2_with fail
  go_loop [5, 12] (fun s i => ∃ k : Nat, k ≤ (st.take n).length ∧ i = .int .i64 k ∧ s = .int .u64 (Pk.rd ((st.take n).take k))) (fun _ i => (st.take n).length - (intOf i).toNat)
  case atStart => exact ⟨0, Nat.zero_le _, rfl, rfl⟩
  case round =>
    obtain ⟨k, hk, rfl, rfl⟩ := hrel
    by_cases hlt : k < (st.take n).length
    · obtain ⟨a, rfl⟩ : ∃ a, ao = some a := by
        cases ao with
        | none => have := (Hnn.out rfl).1; omega
        | some a => exact ⟨a, rfl⟩
      obtain ⟨c, hcv⟩ : ∃ c, (st.take n)[k]? = some c := ⟨_, List.getElem?_eq_getElem hlt⟩
      have hcell : w1.cell? (a.add k) = some (.int .u8 (c.toNat : Int)) := HX.out a rfl k _ (by simp [bv, hcv])
      have hlo : (0 : Int) ≤ Pk.rd ((st.take n).take k) := by omega
      have hh := rd_lt8 (st.take n) k (by omega)
      have hhi : (Pk.rd ((st.take n).take k) : Int) < 72057594037927936 := by omega
      have hs : Pk.rd ((st.take n).take (k + 1)) = Pk.rd ((st.take n).take k) * 256 + c.toNat := by
        rw [List.take_add_one, hcv, ← Pk.rd_snoc]; rfl
      have HS := Lib.hid hs
      have HCV := Lib.hid hcv
      clear hs hcv
      go_wp2
      refine ⟨⟨k + 1, by omega, by go_num, ?_⟩, by simp [intOf]; omega⟩
      rw [or_step _ _ hh, HS.out]
    · have hk' : k = (st.take n).length := by omega
      have e : (st.take n).take k = st.take n := List.take_of_length_le (by omega)
      rw [e]
      clear e
      go_wp2
      go_ret
      exact ⟨rfl, hR⟩

set_option maxHeartbeats 400000 in
theorem rbyte_any (br : Nat) (v : Value) (st : Pk.Rd) (w : World) (h : IsR w br v st) :
    Calls Try.prog 28 #[.pointer (some ⟨br, 0, none⟩)] w fun e w' => e = .returned (.int .i64 (Pk.rd (st.take 1))) ∧ ROut w w' br v (st.skip 1) := by
  have hb : Pk.rd (st.take 1) < 256 := by
    have h1 := Pk.rd_lt (st.take 1)
    have h2 : (st.take 1).length ≤ 1 := by unfold Pk.Rd.take; split <;> simp; omega
    have h3 : 256 ^ (st.take 1).length ≤ 256 ^ 1 := Nat.pow_le_pow_right (by omega) h2
    omega
  go_enter Try.func28, Try.ntmps28
  go_wp2_with fail
  refine (rnumber_any br v st 1 w (by omega) h).mono ?_
  rintro e w1 ⟨rfl, hR⟩
  have hb' : (Pk.rd (st.take 1) : Int) < 256 := by omega
  go_wp2
  go_ret
  exact ⟨rfl, hR⟩

set_option maxHeartbeats 400000 in
theorem rword_any (br : Nat) (v : Value) (st : Pk.Rd) (w : World) (h : IsR w br v st) :
    Calls Try.prog 30 #[.pointer (some ⟨br, 0, none⟩)] w fun e w' => e = .returned (.int .i64 (Pk.rd (st.take 4))) ∧ ROut w w' br v (st.skip 4) := by
  have hb : Pk.rd (st.take 4) < 4294967296 := by
    have h1 := Pk.rd_lt (st.take 4)
    have h2 : (st.take 4).length ≤ 4 := by unfold Pk.Rd.take; split <;> simp; omega
    have h3 : 256 ^ (st.take 4).length ≤ 256 ^ 4 := Nat.pow_le_pow_right (by omega) h2
    omega
  go_enter Try.func30, Try.ntmps30
  go_wp2_with fail
  refine (rnumber_any br v st 4 w (by omega) h).mono ?_
  rintro e w1 ⟨rfl, hR⟩
  have hb' : (Pk.rd (st.take 4) : Int) < 4294967296 := by omega
  go_wp2
  go_ret
  exact ⟨rfl, hR⟩

set_option maxHeartbeats 400000 in
theorem rlong_any (br : Nat) (v : Value) (st : Pk.Rd) (w : World) (h : IsR w br v st) :
    Calls Try.prog 32 #[.pointer (some ⟨br, 0, none⟩)] w fun e w' => e = .returned (.int .u64 (Pk.rd (st.take 8))) ∧ ROut w w' br v (st.skip 8) := by
  go_enter Try.func32, Try.ntmps32
  go_wp2_with fail
  refine (rnumber_any br v st 8 w (by omega) h).mono ?_
  rintro e w1 ⟨rfl, hR⟩
  go_wp2
  go_ret
  exact ⟨rfl, hR⟩

/-- the text of some bytes -/
def txt (l : List UInt8) : ByteArray := ⟨l.toArray⟩

theorem foldl_push (l : List UInt8) (s : ByteArray) : (l.map fun b => (b.toNat : Int)).foldl (fun r n => r.push (UInt8.ofNat n.toNat)) s = ⟨s.data ++ l.toArray⟩ := by
  induction l generalizing s with
  | nil => simp
  | cons b l ih =>
    rw [List.map_cons, List.foldl_cons, ih]
    simp [ByteArray.push]

theorem conv_str {w : World} {v : Value} {l : List UInt8} (h : RdV w v l.length 1 (bv l)) : (convert 27 9 v).run Try.prog w = .ok (.string (txt l)) w := by
  obtain ⟨hl, ao, c, rfl, hc, hn, hx⟩ := h
  rw [run_convert_bytes_string w 27 9 5 ao l.length c Try.underlying27 Try.underlying5 Try.underlying9]
  cases ao with
  | none =>
    have h0 := (hn rfl).1
    have hl0 : l = [] := List.eq_nil_of_length_eq_zero h0
    subst hl0
    simp [Conv.bytesToString, txt]
    rfl
  | some a =>
    have hr := run_loadCells_list (P := Try.prog) w a (bv l) (hx a rfl)
    rw [hl, Nat.mul_one] at hr
    have e : bv l = (l.map fun b => (b.toNat : Int)).map (Value.int .u8) := by simp [bv]
    rw [e] at hr
    rw [run_bytesToString w a l.length c (l.map fun b => (b.toNat : Int)) hr, foldl_push]
    simp [txt, ByteArray.empty, ByteArray.emptyWithCapacity]
    rfl

set_option maxHeartbeats 400000 in
theorem rraw_any (br : Nat) (v : Value) (st : Pk.Rd) (n : Int) (w : World) (h : IsR w br v st) :
    Calls Try.prog 35 #[.pointer (some ⟨br, 0, none⟩), .int .i64 n] w fun e w' => e = .returned (.string (txt (st.take n))) ∧ ROut w w' br v (st.skip n) := by
  go_enter Try.func35, Try.ntmps35
  go_wp2_with fail
  refine (take_any br v st n w h).mono ?_
  rintro e w1 ⟨x, rfl, hx, hfx, hR⟩
  have hcv := conv_str hx
  clear hx hfx
  go_wp2
  go_ret
  exact ⟨rfl, hR⟩

theorem ROut.step {w w1 w2 : World} {br : Nat} {v v1 : Value} {st : Pk.Rd} (k1 : Keep [br] w w1) (r1 : ∀ k ∈ fpOf v1, k ∈ fpOf v) (h : ROut w1 w2 br v1 st) : ROut w w2 br v st := by
  obtain ⟨v2, h2, k2, r2⟩ := h
  exact ⟨v2, h2, k1.trans k2 (fun x hx => Or.inl hx), fun k hk => r1 k (r2 k hk)⟩

/-- the text that a reader reads next, and what is left behind it -/
def rtext (st : Pk.Rd) : List UInt8 := (st.skip 1).take (Pk.rd (st.take 1))
def rtextSkip (st : Pk.Rd) : Pk.Rd := (st.skip 1).skip (Pk.rd (st.take 1))

set_option maxHeartbeats 400000 in
theorem rtext_any (br : Nat) (v : Value) (st : Pk.Rd) (w : World) (h : IsR w br v st) :
    Calls Try.prog 23 #[.pointer (some ⟨br, 0, none⟩)] w fun e w' => e = .returned (.string (txt (rtext st))) ∧ ROut w w' br v (rtextSkip st) := by
  go_enter Try.func23, Try.ntmps23
  go_wp2_with fail
  refine (rbyte_any br v st w h).mono ?_
  rintro e w1 ⟨rfl, v1, h1, k1, r1⟩
  go_wp2_with fail
  refine (take_any br v1 (st.skip 1) (Pk.rd (st.take 1)) w1 h1).mono ?_
  rintro e w2 ⟨x, rfl, hx, hfx, hR⟩
  have hcv := conv_str hx
  have hR' := hR.step k1 r1
  clear hx hfx hR
  go_wp2
  go_ret
  exact ⟨rfl, hR'⟩

set_option maxHeartbeats 400000 in
theorem left_any (br : Nat) (v : Value) (st : Pk.Rd) (w : World) (h : IsR w br v st) :
    Calls Try.prog 25 #[.pointer (some ⟨br, 0, none⟩)] w fun e w' => e = .returned (.int .i64 st.b.length) ∧ w = w' := by
  obtain ⟨hl, ao, cap, rfl, hc, hnn, hx⟩ := h.rd
  have c0 : w.cell? ⟨br, 0, none⟩ = some (.slice ao st.b.length cap) := h.blk.cell 0
  clear hx hnn hl
  go_enter Try.func25, Try.ntmps25
  go_wp2
  go_ret
  exact ⟨rfl, rfl⟩

set_option maxHeartbeats 400000 in
theorem wrong_any (br : Nat) (v : Value) (st : Pk.Rd) (w : World) (h : IsR w br v st) :
    Calls Try.prog 24 #[.pointer (some ⟨br, 0, none⟩)] w fun e w' => e = .returned (.bool st.bad) ∧ w = w' := by
  have c1 : w.cell? ⟨br, 1, none⟩ = some (.bool st.bad) := h.blk.cell 1
  go_enter Try.func24, Try.ntmps24
  go_wp2
  go_ret
  exact ⟨rfl, rfl⟩

set_option maxHeartbeats 400000 in
theorem closure_any (c : Int) (w : World) : Calls Try.prog 70 #[.int .u8 c] w fun e w' => e = .returned (.bool (c != 0)) ∧ w = w' := by
  go_enter Try.func70, Try.ntmps70
  go_wp2
  go_ret
  exact ⟨rfl, rfl⟩

/-- some place is told, or none, as a byte is not 0, or all are -/
def IdxOut (l : List UInt8) (w : World) (e : Ending) (w' : World) : Prop := (∃ i : Int, e = .returned (.int .i64 i) ∧ (decide (0 ≤ i) = !l.all (· == 0))) ∧ w = w'

theorem all_take (l : List UInt8) (k : Nat) (c : UInt8) (h : l[k]? = some c) (ha : (l.take k).all (· == 0) = true) : (l.take (k + 1)).all (· == 0) = (c == 0) ∧ ((c == 0) = false → l.all (· == 0) = false) := by
  have e : l.take (k + 1) = l.take k ++ [c] := by rw [List.take_add_one, h]; rfl
  constructor
  · rw [e, List.all_append, ha]; simp
  · intro hc
    have e2 : l = l.take (k + 1) ++ l.drop (k + 1) := (List.take_append_drop _ _).symm
    rw [e2, List.all_append, e, List.all_append]
    simp [hc]

set_option maxHeartbeats 400000 in
theorem indexFunc_any (v : Value) (l : List UInt8) (w : World) (h : RdV w v l.length 1 (bv l)) (hn : l.length ≤ 1000000000) :
    Calls Try.prog 81 #[v, .func (.func 70) #[] #[]] w (IdxOut l w) := by
  obtain ⟨hl, ao, cap, rfl, hc, hnn, hcx⟩ := h
  have Hl := Lib.hid hl
  have HX := Lib.hid hcx
  have Hnn := Lib.hid hnn
  clear hl hcx hnn
  go_enter Try.func81, Try.ntmps81
  go_wp2_with fail
  go_loop [8] (fun i => ∃ k : Nat, k ≤ l.length ∧ i = .int .i64 k ∧ Hid ((l.take k).all (· == 0) = true)) (fun i => l.length - (intOf i).toNat)
  case atStart => exact ⟨0, Nat.zero_le _, rfl, rfl⟩
  case round =>
    obtain ⟨k, hk, rfl, ha⟩ := hrel
    by_cases hlt : k < l.length
    · obtain ⟨a, rfl⟩ : ∃ a, ao = some a := by
        cases ao with
        | none => have := (Hnn.out rfl).1; omega
        | some a => exact ⟨a, rfl⟩
      obtain ⟨c, hcv⟩ : ∃ c, l[k]? = some c := ⟨_, List.getElem?_eq_getElem hlt⟩
      have hcell : w.cell? (a.add k) = some (.int .u8 (c.toNat : Int)) := HX.out a rfl k _ (by simp [bv, hcv])
      obtain ⟨hs1, hs2⟩ := all_take l k c hcv ha.out
      have HS1 := Lib.hid hs1
      have HS2 := Lib.hid hs2
      have HCV := Lib.hid hcv
      clear hs1 hs2 hcv
      by_cases hz : c = 0
      · have hz0 : ((c.toNat : Int) != 0) = false := by subst hz; rfl
        go_wp2_with (go_at_call 70; refine (closure_any _ _).mono ?_; rintro e w' ⟨rfl, rfl⟩)
        refine ⟨⟨k + 1, by omega, by go_num, ?_⟩, by simp [intOf]; omega⟩
        exact (by rw [HS1.out, hz]; rfl : (l.take (k + 1)).all (· == 0) = true)
      · have hz0 : ((c.toNat : Int) != 0) = true := by
          simp only [bne_iff_ne, ne_eq]
          intro e
          exact hz (UInt8.toNat_inj.1 (by simpa using e))
        go_wp2_with (go_at_call 70; refine (closure_any _ _).mono ?_; rintro e w' ⟨rfl, rfl⟩)
        go_ret
        exact ⟨⟨k, rfl, by rw [HS2.out (by simpa using hz)]; simp⟩, rfl⟩
    · have e : l.take k = l := List.take_of_length_le (by omega)
      rw [e] at ha
      clear e
      go_wp2
      go_ret
      exact ⟨⟨-1, rfl, by rw [ha.out]; rfl⟩, rfl⟩

set_option maxHeartbeats 400000 in
theorem containsFunc_any (v : Value) (l : List UInt8) (w : World) (h : RdV w v l.length 1 (bv l)) (hn : l.length ≤ 1000000000) :
    Calls Try.prog 69 #[v, .func (.func 70) #[] #[]] w fun e w' => e = .returned (.bool (!l.all (· == 0))) ∧ w = w' := by
  go_enter Try.func69, Try.ntmps69
  go_wp2_with fail
  refine (indexFunc_any v l w h hn).mono ?_
  rintro e w1 ⟨⟨i, rfl, hi⟩, rfl⟩
  have HI := Lib.hid hi
  clear hi
  go_wp2
  go_ret
  exact ⟨by rw [← HI.out]; rfl, rfl⟩

set_option maxHeartbeats 400000 in
theorem noughts_any (br : Nat) (v : Value) (st : Pk.Rd) (w : World) (h : IsR w br v st) :
    Calls Try.prog 37 #[.pointer (some ⟨br, 0, none⟩)] w fun e w' => e = .returned (.bool st.noughts) ∧ w = w' := by
  have c0 : w.cell? ⟨br, 0, none⟩ = some v := h.blk.cell 0
  have c1 : w.cell? ⟨br, 1, none⟩ = some (.bool st.bad) := h.blk.cell 1
  cases hb : st.bad with
  | true =>
    have e0 : st.noughts = false := by simp [Pk.Rd.noughts, hb]
    rw [hb] at c1
    rw [e0]
    clear e0
    go_enter Try.func37, Try.ntmps37
    go_wp2
    go_ret
    exact ⟨rfl, rfl⟩
  | false =>
    have e0 : st.noughts = st.b.all (· == 0) := by simp [Pk.Rd.noughts, hb]
    rw [hb] at c1
    rw [e0]
    clear e0
    go_enter Try.func37, Try.ntmps37
    go_wp2_with fail
    refine (containsFunc_any v st.b w h.rd h.le).mono ?_
    rintro e w1 ⟨rfl, rfl⟩
    go_wp2
    go_ret
    exact ⟨by simp, rfl⟩
end Go.Proofs.Yteogkgjajhdhjaa
