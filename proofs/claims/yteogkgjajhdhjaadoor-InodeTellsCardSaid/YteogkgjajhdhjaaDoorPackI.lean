/-
  The document's writer (wainscotref01.Writer): what each method does. No condition.
-/
import Derived.Test.YteogkgjajhdhjaaDoorPackH
import Derived.Deep.DeepCutAuto
namespace Go.Proofs.YteogkgjajhdhjaaDoor
open Go.RowKit

theorem txt_append (a b : List UInt8) : txt a ++ txt b = txt (a ++ b) := by
  apply ByteArray.ext
  simp [txt]

/-- the document's writer at block bk has the state st -/
structure IsV (w : World) (bk : Nat) (st : Pk.Wr) : Prop where
  blk : Blk w bk [.string (txt st.b), .int .i64 st.most, .bool st.bad] 82
  le : st.b.length ≤ st.most
  cap : st.most ≤ 1000000

theorem IsV.keep {F : List Nat} {w w' : World} {bk : Nat} {st : Pk.Wr} (h : IsV w bk st) (k : Keep F w w') (hb : bk ∉ F) : IsV w' bk st := ⟨h.blk.keep k hb, h.le, h.cap⟩

def VOut (w w' : World) (bk : Nat) (st' : Pk.Wr) : Prop := IsV w' bk st' ∧ Keep [bk] w w'

theorem room_cases (st : Pk.Wr) (l : List UInt8) (may : Bool) : (st.bad = true ∧ st.put l may = { st with bad := true }) ∨ (st.bad = false ∧ may = false ∧ st.put l may = { st with bad := true }) ∨
    (st.bad = false ∧ may = true ∧ (st.most : Int) - st.b.length < l.length ∧ st.put l may = { st with bad := true }) ∨ (st.bad = false ∧ may = true ∧ (l.length : Int) ≤ st.most - st.b.length ∧ st.put l may = { st with b := st.b ++ l }) := by
  cases hb : st.bad
  · cases may
    · exact Or.inr (Or.inl ⟨rfl, rfl, by simp [Pk.Wr.put, Pk.Wr.room]⟩)
    · by_cases h : (st.most : Int) - st.b.length < l.length
      · exact Or.inr (Or.inr (Or.inl ⟨rfl, rfl, h, by simp [Pk.Wr.put, Pk.Wr.room, hb]; omega⟩))
      · exact Or.inr (Or.inr (Or.inr ⟨rfl, rfl, by omega, by simp [Pk.Wr.put, Pk.Wr.room, hb]; omega⟩))
  · exact Or.inl ⟨rfl, by simp [Pk.Wr.put, Pk.Wr.room, hb]⟩

set_option maxRecDepth 100000 in
set_option maxHeartbeats 400000 in
theorem kput_any (bk : Nat) (st : Pk.Wr) (l : List UInt8) (may : Bool) (w : World) (hl : l.length ≤ 1000000) (h : IsV w bk st) :
    Calls Tryd.prog 53 #[.pointer (some ⟨bk, 0, none⟩), .string (txt l), .bool may] w fun e w' => e = .returned (.tuple #[]) ∧ VOut w w' bk (st.put l may) := by
  have hle := h.le
  have hcap := h.cap
  have hsz := txt_len st.b
  have hszl := txt_len l
  have c0 : w.cell? ⟨bk, 0, none⟩ = some (.string (txt st.b)) := h.blk.cell 0
  have c1 : w.cell? ⟨bk, 1, none⟩ = some (.int .i64 st.most) := h.blk.cell 1
  have c2 : w.cell? ⟨bk, 2, none⟩ = some (.bool st.bad) := h.blk.cell 2
  have f0 := h.blk.free 0
  have f2 := h.blk.free 2
  have bad : st.put l may = { st with bad := true } → ∀ n, VOut w ((w.drewN n).setCell ⟨bk, 2, none⟩ (.bool true)) bk (st.put l may) := fun hp n => by
    rw [hp]
    exact ⟨⟨(h.blk.keep ((Keep.refl [] _).drewN n) (by simp)).set 2 _, h.le, h.cap⟩, ((Keep.refl _ _).drewN n).setCell (Or.inl (by simp)) _⟩
  have BAD := Lib.hid bad
  clear bad
  rcases room_cases st l may with ⟨hb, hp⟩ | ⟨hb, hm, hp⟩ | ⟨hb, hm, hr, hp⟩ | ⟨hb, hm, hr, hp⟩
  · have FIN := Lib.hid (BAD.out hp)
    rw [hb] at c2
    clear BAD hp hb
    go_enter Tryd.func53, Tryd.ntmps53
    go_upto_region 0 with fail
    go_quiet (fail)
    go_wp2
    go_returns
    exact ⟨rfl, FIN.out _⟩
  · have FIN := Lib.hid (BAD.out hp)
    rw [hb] at c2
    subst hm
    clear BAD hp hb
    go_enter Tryd.func53, Tryd.ntmps53
    go_upto_region 0 with fail
    go_quiet (fail)
    go_wp2
    go_returns
    exact ⟨rfl, FIN.out _⟩
  · have FIN := Lib.hid (BAD.out hp)
    rw [hb] at c2
    subst hm
    have hd : decide ((st.most : Int) - st.b.length < l.length) = true := decide_eq_true hr
    clear BAD hp hb
    go_enter Tryd.func53, Tryd.ntmps53
    go_upto_region 0 with fail
    go_quiet (fail)
    go_wp2
    go_returns
    exact ⟨rfl, FIN.out _⟩
  · have fin : ∀ n, VOut w ((w.drewN n).setCell ⟨bk, 0, none⟩ (.string (txt st.b ++ txt l))) bk (st.put l may) := fun n => by
      rw [hp, txt_append]
      exact ⟨⟨by have := (h.blk.keep ((Keep.refl [] _).drewN n) (by simp)).set 0 (.string (txt (st.b ++ l))); simpa [hb] using this, by simp; omega, h.cap⟩, ((Keep.refl _ _).drewN n).setCell (Or.inl (by simp)) _⟩
    have FIN := Lib.hid fin
    rw [hb] at c2
    subst hm
    have hd : decide ((st.most : Int) - st.b.length < l.length) = false := decide_eq_false (by omega)
    clear BAD hp hb fin
    go_enter Tryd.func53, Tryd.ntmps53
    go_upto_region 0 with fail
    go_quiet (fail)
    go_wp2
    go_end0
    exact ⟨rfl, FIN.out _⟩

/-- how far the number's bytes are laid down, from the last one on -/
def laid (v n k : Nat) : List UInt8 := List.replicate k 0 ++ (Pk.be v n).drop k

theorem laid_length (v n k : Nat) (h : k ≤ n) : (laid v n k).length = n := by
  simp [laid, Pk.be_length]
  omega

theorem laid_get (v n k : Nat) : (laid v n (k + 1))[k]? = some 0 := by
  unfold laid
  rw [List.getElem?_append_left (by simp)]
  simp

theorem laid_set (v n k : Nat) (h : k + 1 ≤ n) : (laid v n (k + 1)).set k (UInt8.ofNat (v / 256 ^ (n - 1 - k))) = laid v n k := by
  have hg := Pk.be_get v n k (by omega)
  have hl : k < (Pk.be v n).length := by rw [Pk.be_length]; omega
  have hd : (Pk.be v n).drop k = UInt8.ofNat (v / 256 ^ (n - 1 - k)) :: (Pk.be v n).drop (k + 1) := by
    rw [List.drop_eq_getElem_cons hl]
    rw [List.getElem?_eq_getElem hl] at hg
    rw [Option.some.inj hg]
  unfold laid
  rw [hd, List.replicate_succ', List.append_assoc, List.set_append_right _ _ (by simp)]
  simp

set_option maxRecDepth 100000 in
set_option maxHeartbeats 400000 in
theorem kbig_any (v n : Nat) (w : World) (hn : n ≤ 8) (hv : (v : Int) ≤ 18446744073709551615) : Calls Tryd.prog 54 #[.int .u64 v, .int .i64 n] w fun e w' => e = .returned (.string (txt (Pk.be v n))) ∧ Keep [] w w' := by
  obtain ⟨i0, hi, hz0, hz1, hz2⟩ := info_parts Tryd.info5
  obtain ⟨w1, hmk, o1, g1⟩ := run_makeSlice_full (P := Tryd.prog) w 0 43 5 i0 _ 1 Tryd.underlying43 hi hz0 hz1 .i64 .i64 n (by omega) (by rw [hz2]; omega) (by unfold maxLen; omega) (Nat.zero_le _)
  have hmc : (madeCells (Value.int .u8 0).cells (n * 1)).toList = bv (laid v n n) := by
    rw [show (Value.int .u8 0).cells = #[Value.int .u8 0] from rfl, toList_madeCells_one]
    unfold laid
    rw [List.drop_of_length_le (by rw [Pk.be_length]; omega)]
    simp [bv]
  rw [hmc] at o1
  have k1 : Keep [] w w1 := (Keep.refl _ _).grown g1 (fun k h => by cases h)
  have hg : w.heap.size ≤ w.heap.size := Nat.le_refl _
  obtain ⟨g, hgg⟩ : ∃ g, g = w.heap.size := ⟨_, rfl⟩
  rw [← hgg] at hmk o1
  have HG := Lib.hid hgg
  have O1 := Lib.hid o1
  clear o1 g1 hmc hg hgg
  go_enter Tryd.func54, Tryd.ntmps54
  go_wp2_with fail
  clear hmk
  go_loopw [0, 6] (fun x i wr => ∃ k : Nat, k ≤ n ∧ i = .int .i64 k ∧ x = .int .u64 ((v / 256 ^ (n - k) : Nat) : Int) ∧ Hid (wr.ownsRow 0 5 1 (.slice (some ⟨g, 0, none⟩) n n) n (bv (laid v n k))) ∧ Keep [] w wr) (fun _ i _ => (intOf i).toNat)
  case atStart => exact ⟨n, Nat.le_refl _, rfl, by simp, O1, k1⟩
  case round =>
    clear O1 k1
    obtain ⟨k, hk, rfl, rfl, O, K⟩ := hrel
    cases k with
    | zero =>
      have rd := RdV.ofOwn O.out
      rw [show laid v n 0 = Pk.be v n by simp [laid]] at rd
      have hcv := conv_str (v := .slice (some ⟨g, 0, none⟩) n n) (l := Pk.be v n) (by rw [Pk.be_length]; exact rd)
      clear rd
      go_wp2
      go_ret
      exact ⟨rfl, K⟩
    | succ k =>
      obtain ⟨c0, f0, st⟩ := own_cell O.out (laid_get v n k)
      have ST := Lib.hid (st (UInt8.ofNat (v / 256 ^ (n - 1 - k))))
      have hdiv : v / 256 ^ (n - k) = v / 256 ^ (n - (k + 1)) / 256 := by
        rw [Nat.div_div_eq_div_mul, ← Nat.pow_succ, show (n - (k + 1)).succ = n - k by omega]
      have HD := Lib.hid hdiv
      have hset := Lib.hid (laid_set v n k hk)
      have K' : ∀ u, Keep [] w (wr.setCell ⟨g, k, none⟩ u) := fun u => K.setCell (Or.inr (Nat.le_of_eq HG.out.symm)) u
      clear st hdiv
      obtain ⟨y, hy⟩ : ∃ y, y = v / 256 ^ (n - (k + 1)) := ⟨_, rfl⟩
      have HY := Lib.hid hy
      rw [← hy]
      clear hy
      go_wp2
      have e1 : (y : Int) % 256 = ((UInt8.ofNat (v / 256 ^ (n - 1 - k))).toNat : Int) := by
        rw [show n - 1 - k = n - (k + 1) by omega, ← HY.out]
        simp
      have hy2 : y ≤ v := by rw [HY.out]; exact Nat.div_le_self _ _
      rw [e1]
      refine ⟨⟨k, by omega, rfl, ?_, hset.out ▸ ST, K' _⟩, by simp [intOf]⟩
      rw [HD.out, ← HY.out, IntKind.wrap_u64]
      congr 1
      omega

set_option maxRecDepth 100000 in
set_option maxHeartbeats 400000 in
theorem kwbyte_any (bk : Nat) (st : Pk.Wr) (x : Int) (w : World) (h0 : -9223372036854775808 ≤ x) (h1 : x ≤ 9223372036854775807) (h : IsV w bk st) :
    Calls Tryd.prog 30 #[.pointer (some ⟨bk, 0, none⟩), .int .i64 x] w fun e w' => e = .returned (.tuple #[]) ∧ VOut w w' bk (st.byte x) := by
  obtain ⟨y, hy, hy1⟩ : ∃ y : Nat, IntKind.u64.wrap x = y ∧ (y : Int) ≤ 18446744073709551615 := ⟨(IntKind.u64.wrap x).toNat, by rw [IntKind.wrap_u64]; omega, by rw [IntKind.wrap_u64]; omega⟩
  have hput : ∀ may, may = decide (0 ≤ x ∧ x ≤ 255) → st.put (Pk.be y 1) may = st.byte x := fun may hm => by
    unfold Pk.Wr.byte
    rw [hm]
    by_cases hx : 0 ≤ x ∧ x ≤ 255
    · rw [show y = x.toNat by rw [IntKind.wrap_u64] at hy; omega]
    · rw [decide_eq_false hx, put_false, put_false]
  have HP := Lib.hid hput
  clear hput
  by_cases hx0 : 0 ≤ x
  · by_cases hx1 : x ≤ 255
    all_goals
      go_enter Tryd.func30, Tryd.ntmps30
      go_wp2_with fail
      refine (kbig_any y 1 w (by omega) hy1).mono ?_
      rintro e w1 ⟨rfl, k1⟩
      go_wp2_with fail
      refine (kput_any bk st (Pk.be y 1) _ w1 (by rw [Pk.be_length]; omega) (h.keep k1 (by simp))).mono ?_
      rintro e w2 ⟨rfl, hv, k2⟩
      rw [HP.out _ (by simp [hx0, hx1]; try omega)] at hv
      go_wp2
      go_end0
      exact ⟨rfl, hv, (k1.mono (by simp)).trans k2 (fun x hx => Or.inl hx)⟩
  · go_enter Tryd.func30, Tryd.ntmps30
    go_wp2_with fail
    refine (kbig_any y 1 w (by omega) hy1).mono ?_
    rintro e w1 ⟨rfl, k1⟩
    go_wp2_with fail
    refine (kput_any bk st (Pk.be y 1) _ w1 (by rw [Pk.be_length]; omega) (h.keep k1 (by simp))).mono ?_
    rintro e w2 ⟨rfl, hv, k2⟩
    rw [HP.out _ (by simp; omega)] at hv
    go_wp2
    go_end0
    exact ⟨rfl, hv, (k1.mono (by simp)).trans k2 (fun x hx => Or.inl hx)⟩

set_option maxRecDepth 100000 in
set_option maxHeartbeats 400000 in
theorem kwword_any (bk : Nat) (st : Pk.Wr) (x : Int) (w : World) (h0 : -9223372036854775808 ≤ x) (h1 : x ≤ 9223372036854775807) (h : IsV w bk st) :
    Calls Tryd.prog 32 #[.pointer (some ⟨bk, 0, none⟩), .int .i64 x] w fun e w' => e = .returned (.tuple #[]) ∧ VOut w w' bk (st.word x) := by
  obtain ⟨y, hy, hy1⟩ : ∃ y : Nat, IntKind.u64.wrap x = y ∧ (y : Int) ≤ 18446744073709551615 := ⟨(IntKind.u64.wrap x).toNat, by rw [IntKind.wrap_u64]; omega, by rw [IntKind.wrap_u64]; omega⟩
  have hput : ∀ may, may = decide (0 ≤ x ∧ x ≤ 4294967295) → st.put (Pk.be y 4) may = st.word x := fun may hm => by
    unfold Pk.Wr.word
    rw [hm]
    by_cases hx : 0 ≤ x ∧ x ≤ 4294967295
    · rw [show y = x.toNat by rw [IntKind.wrap_u64] at hy; omega]
    · rw [decide_eq_false hx, put_false, put_false]
  have HP := Lib.hid hput
  clear hput
  by_cases hx0 : 0 ≤ x
  · by_cases hx1 : x ≤ 4294967295
    all_goals
      go_enter Tryd.func32, Tryd.ntmps32
      go_wp2_with fail
      refine (kbig_any y 4 w (by omega) hy1).mono ?_
      rintro e w1 ⟨rfl, k1⟩
      go_wp2_with fail
      refine (kput_any bk st (Pk.be y 4) _ w1 (by rw [Pk.be_length]; omega) (h.keep k1 (by simp))).mono ?_
      rintro e w2 ⟨rfl, hv, k2⟩
      rw [HP.out _ (by simp [hx0, hx1]; try omega)] at hv
      go_wp2
      go_end0
      exact ⟨rfl, hv, (k1.mono (by simp)).trans k2 (fun x hx => Or.inl hx)⟩
  · go_enter Tryd.func32, Tryd.ntmps32
    go_wp2_with fail
    refine (kbig_any y 4 w (by omega) hy1).mono ?_
    rintro e w1 ⟨rfl, k1⟩
    go_wp2_with fail
    refine (kput_any bk st (Pk.be y 4) _ w1 (by rw [Pk.be_length]; omega) (h.keep k1 (by simp))).mono ?_
    rintro e w2 ⟨rfl, hv, k2⟩
    rw [HP.out _ (by simp; omega)] at hv
    go_wp2
    go_end0
    exact ⟨rfl, hv, (k1.mono (by simp)).trans k2 (fun x hx => Or.inl hx)⟩

theorem ptxt_of (s : ByteArray) : s = txt s.data.toList := by
  cases s
  simp [txt]

set_option maxHeartbeats 400000 in
theorem kwdone_any (bk : Nat) (st : Pk.Wr) (w : World) (h : IsV w bk st) :
    Calls Tryd.prog 31 #[.pointer (some ⟨bk, 0, none⟩)] w fun e w' => e = .returned (.tuple #[.string (txt (if st.bad then [] else st.b)), .bool (!st.bad)]) ∧ w = w' := by
  have c0 : w.cell? ⟨bk, 0, none⟩ = some (.string (txt st.b)) := h.blk.cell 0
  have c2 : w.cell? ⟨bk, 2, none⟩ = some (.bool st.bad) := h.blk.cell 2
  cases hb : st.bad with
  | true =>
    rw [hb] at c2
    go_enter Tryd.func31, Tryd.ntmps31
    go_wp2
    go_ret2
    exact ⟨rfl, rfl⟩
  | false =>
    rw [hb] at c2
    go_enter Tryd.func31, Tryd.ntmps31
    go_wp2
    go_ret2
    exact ⟨rfl, rfl⟩

set_option maxHeartbeats 400000 in
theorem kwnew_any (m : Nat) (w : World) (hm : m ≤ 1000000) :
    Calls Tryd.prog 29 #[.int .i64 m] w fun e w' => e = .returned (.pointer (some ⟨w.heap.size, 0, none⟩)) ∧ IsV w' w.heap.size ⟨[], m, false⟩ ∧ Keep [] w w' := by
  go_enter Tryd.func29, Tryd.ntmps29
  go_wp2
  go_ret
  exact ⟨rfl, ⟨Blk.new _ _ _, by simp, hm⟩, (Keep.refl _ _).alloc _⟩

theorem fill_cases (st : Pk.Wr) (n : Int) : (st.bad = true ∧ st.fill n = { st with bad := true }) ∨ (st.bad = false ∧ n < st.b.length ∧ st.fill n = { st with bad := true }) ∨
    (st.bad = false ∧ ¬ n < st.b.length ∧ (st.most : Int) < n ∧ st.fill n = { st with bad := true }) ∨ (st.bad = false ∧ (st.b.length : Int) ≤ n ∧ n ≤ st.most ∧ st.fill n = { st with b := st.b ++ List.replicate (n.toNat - st.b.length) 0 }) := by
  cases hb : st.bad
  · by_cases h1 : n < st.b.length
    · exact Or.inr (Or.inl ⟨rfl, h1, by simp [Pk.Wr.fill, hb, h1]⟩)
    · by_cases h2 : (st.most : Int) < n
      · exact Or.inr (Or.inr (Or.inl ⟨rfl, h1, h2, by simp [Pk.Wr.fill, hb, h2]⟩))
      · refine Or.inr (Or.inr (Or.inr ⟨rfl, by omega, by omega, ?_⟩))
        rw [fill_true st n hb (by omega) (by omega)]
  · exact Or.inl ⟨rfl, by simp [Pk.Wr.fill, hb]⟩

end Go.Proofs.YteogkgjajhdhjaaDoor