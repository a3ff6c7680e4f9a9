/-
  The document's reader (wainscotref01.Reader): what each method does. No condition.
-/
import Derived.Test.YteogkgjajhdhjaaPackF
namespace Go.Proofs.Yteogkgjajhdhjaa
open Go.RowKit

theorem txt_len (l : List UInt8) : (txt l).size = l.length := by simp [txt, ByteArray.size]

theorem txt_extract (l : List UInt8) (i j : Nat) : (txt l).extract i j = txt ((l.take j).drop i) := by
  apply ByteArray.ext
  rw [ByteArray.data_extract]
  apply Array.ext'
  simp [txt, List.extract_eq_take_drop]
  rw [List.drop_take]

theorem txt_at (l : List UInt8) (k : Nat) (c : UInt8) (h : l[k]? = some c) (hk : k < (txt l).size) : (txt l)[k] = c := by
  have h1 : l[k]'(by rw [txt_len] at hk; exact hk) = c := by
    have h2 := h
    rw [List.getElem?_eq_getElem (by rw [txt_len] at hk; exact hk)] at h2
    exact Option.some.inj h2
  rw [← h1]
  simp [txt, ByteArray.getElem_eq_getElem_data]

theorem txt_get (l : List UInt8) (k : Nat) (c : UInt8) (h : l[k]? = some c) : (txt l).data[k]? = some c := by simpa [txt] using h

/-- the document's reader at block bk has the state st -/
structure IsK (w : World) (bk : Nat) (st : Pk.Rd) : Prop where
  blk : Blk w bk [.string (txt st.b), .bool st.bad] 44
  le : st.b.length ≤ 1000000000

theorem IsK.keep {F : List Nat} {w w' : World} {bk : Nat} {st : Pk.Rd} (h : IsK w bk st) (k : Keep F w w') (hb : bk ∉ F) : IsK w' bk st := ⟨h.blk.keep k hb, h.le⟩

def KOut (w w' : World) (bk : Nat) (st' : Pk.Rd) : Prop := IsK w' bk st' ∧ Keep [bk] w w'

set_option maxRecDepth 100000 in
set_option maxHeartbeats 400000 in
theorem ktake_any (bk : Nat) (st : Pk.Rd) (n : Int) (w : World) (h : IsK w bk st) :
    Calls Try.prog 68 #[.pointer (some ⟨bk, 0, none⟩), .int .i64 n] w fun e w' => e = .returned (.string (txt (st.take n))) ∧ KOut w w' bk (st.skip n) := by
  have hle := h.le
  have hsz := txt_len st.b
  have c0 : w.cell? ⟨bk, 0, none⟩ = some (.string (txt st.b)) := h.blk.cell 0
  have c1 : w.cell? ⟨bk, 1, none⟩ = some (.bool st.bad) := h.blk.cell 1
  have f0 := h.blk.free 0
  have f1 := h.blk.free 1
  cases hcan : st.can n with
  | true =>
    obtain ⟨ht, h0, h1, h2⟩ := take_len st n hcan
    rw [h2] at c1
    obtain ⟨m, rfl⟩ := Int.eq_ofNat_of_zero_le h0
    have e1 : st.take (m : Int) = st.b.take m := by unfold Pk.Rd.take; rw [if_pos hcan, Int.toNat_natCast]
    have e2 : st.skip (m : Int) = { st with b := st.b.drop m } := by unfold Pk.Rd.skip; rw [if_pos hcan, Int.toNat_natCast]
    have hm : m ≤ st.b.length := by omega
    have x1 : (txt st.b).extract 0 m = txt (st.b.take m) := by rw [txt_extract]; rfl
    have x2 : (txt st.b).extract m st.b.length = txt (st.b.drop m) := by rw [txt_extract, List.take_length]
    have fin : IsK (w.setCell ⟨bk, 0, none⟩ (.string (txt (st.b.drop m)))) bk (st.skip (m : Int)) ∧ Keep [bk] w (w.setCell ⟨bk, 0, none⟩ (.string (txt (st.b.drop m)))) := by
      refine ⟨⟨?_, ?_⟩, (Keep.refl _ _).setCell (Or.inl (by simp)) _⟩
      · rw [e2]; exact h.blk.set 0 _
      · rw [e2]; simp; omega
    have FIN := Lib.hid fin
    rw [e1]
    clear ht h2 e1 e2 hcan fin
    go_enter Try.func68, Try.ntmps68
    go_wp2
    go_ret
    exact ⟨rfl, FIN.out⟩
  | false =>
    have e1 : st.take n = [] := by unfold Pk.Rd.take; rw [hcan]; rfl
    have e2 : st.skip n = ⟨[], true⟩ := by unfold Pk.Rd.skip; rw [hcan]; rfl
    have fin : IsK ((w.setCell ⟨bk, 1, none⟩ (.bool true)).setCell ⟨bk, 0, none⟩ (.string ⟨#[]⟩)) bk (st.skip n) ∧ Keep [bk] w ((w.setCell ⟨bk, 1, none⟩ (.bool true)).setCell ⟨bk, 0, none⟩ (.string ⟨#[]⟩)) := by
      rw [e2]
      exact ⟨⟨(h.blk.set 1 _).set 0 _, by simp⟩, ((Keep.refl _ _).setCell (Or.inl (by simp)) _).setCell (Or.inl (by simp)) _⟩
    have FIN := Lib.hid fin
    have hcs : st.bad = true ∨ st.bad = false ∧ n < 0 ∨ st.bad = false ∧ ¬ n < 0 ∧ (st.b.length : Int) < n := by
      simp [Pk.Rd.can] at hcan
      cases hb : st.bad
      · by_cases hn : n < 0
        · exact Or.inr (Or.inl ⟨rfl, hn⟩)
        · exact Or.inr (Or.inr ⟨rfl, hn, by have := hcan hb (by omega); omega⟩)
      · exact Or.inl rfl
    rw [e1, show txt [] = ⟨#[]⟩ from rfl]
    clear e1 e2 hcan fin
    rcases hcs with hb | ⟨hb, hn⟩ | ⟨hb, hn, hl⟩
    all_goals
      rw [hb] at c1
      go_enter Try.func68, Try.ntmps68
      go_wp2
      go_ret
      exact ⟨rfl, FIN.out⟩

set_option maxRecDepth 100000 in
set_option maxHeartbeats 400000 in
theorem knumber_any (bk : Nat) (st : Pk.Rd) (n : Int) (w : World) (hn : n ≤ 8) (h : IsK w bk st) :
    Calls Try.prog 67 #[.pointer (some ⟨bk, 0, none⟩), .int .i64 n] w fun e w' => e = .returned (.int .u64 (Pk.rd (st.take n))) ∧ KOut w w' bk (st.skip n) := by
  have htl : (st.take n).length ≤ 8 := by unfold Pk.Rd.take; split <;> simp; omega
  go_enter Try.func67, Try.ntmps67
  go_wp2_with fail
  refine (ktake_any bk st n w h).mono ?_
  rintro e w1 ⟨rfl, hR⟩
  have hsz := txt_len (st.take n)
  go_wp2_with fail
  go_loop [6, 7] (fun s i => ∃ k : Nat, k ≤ (st.take n).length ∧ i = .int .i64 k ∧ s = .int .u64 (Pk.rd ((st.take n).take k))) (fun _ i => (st.take n).length - (intOf i).toNat)
  case atStart => exact ⟨0, Nat.zero_le _, rfl, rfl⟩
  case round =>
    obtain ⟨k, hk, rfl, rfl⟩ := hrel
    by_cases hlt : k < (st.take n).length
    · obtain ⟨c, hcv⟩ : ∃ c, (st.take n)[k]? = some c := ⟨_, List.getElem?_eq_getElem hlt⟩
      have hget := txt_at (st.take n) k c hcv
      have hh := rd_lt8 (st.take n) k (by omega)
      have hhi : (Pk.rd ((st.take n).take k) : Int) < 72057594037927936 := by omega
      have hs : Pk.rd ((st.take n).take (k + 1)) = Pk.rd ((st.take n).take k) * 256 + c.toNat := by
        rw [List.take_add_one, hcv, ← Pk.rd_snoc]; rfl
      have HS := Lib.hid hs
      clear hs hcv
      go_wp2
      refine ⟨⟨k + 1, by omega, by go_num, ?_⟩, by simp [intOf]; omega⟩
      have hc := c.toNat_lt
      rw [HS.out, IntKind.wrap_u64, IntKind.wrap_u64]
      congr 1
      omega
    · have hk' : k = (st.take n).length := by omega
      have e : (st.take n).take k = st.take n := List.take_of_length_le (by omega)
      rw [e]
      clear e
      go_wp2
      go_ret
      exact ⟨rfl, hR⟩

theorem rd_small (st : Pk.Rd) (n : Int) (k : Nat) (hn : n ≤ k) : Pk.rd (st.take n) < 256 ^ k := by
  have h1 := Pk.rd_lt (st.take n)
  have h2 : (st.take n).length ≤ k := by unfold Pk.Rd.take; split <;> simp; omega
  exact Nat.lt_of_lt_of_le h1 (Nat.pow_le_pow_right (by omega) h2)

set_option maxHeartbeats 400000 in
theorem kbyte_any (bk : Nat) (st : Pk.Rd) (w : World) (h : IsK w bk st) :
    Calls Try.prog 29 #[.pointer (some ⟨bk, 0, none⟩)] w fun e w' => e = .returned (.int .i64 (Pk.rd (st.take 1))) ∧ KOut w w' bk (st.skip 1) := by
  have hr := rd_small st 1 1 (by omega)
  have hi : (Pk.rd (st.take 1) : Int) < 256 := by omega
  go_enter Try.func29, Try.ntmps29
  go_wp2_with fail
  refine (knumber_any bk st 1 w (by omega) h).mono ?_
  rintro e w1 ⟨rfl, hR⟩
  have hw : IntKind.i64.wrap (Pk.rd (st.take 1) : Int) = Pk.rd (st.take 1) := by rw [IntKind.wrap_i64]; omega
  go_wp2
  go_ret
  exact ⟨rfl, hR⟩

set_option maxHeartbeats 400000 in
theorem kword_any (bk : Nat) (st : Pk.Rd) (w : World) (h : IsK w bk st) :
    Calls Try.prog 31 #[.pointer (some ⟨bk, 0, none⟩)] w fun e w' => e = .returned (.int .i64 (Pk.rd (st.take 4))) ∧ KOut w w' bk (st.skip 4) := by
  have hr := rd_small st 4 4 (by omega)
  have hi : (Pk.rd (st.take 4) : Int) < 4294967296 := by omega
  clear hr
  go_enter Try.func31, Try.ntmps31
  go_wp2_with fail
  refine (knumber_any bk st 4 w (by omega) h).mono ?_
  rintro e w1 ⟨rfl, hR⟩
  have hw : IntKind.i64.wrap (Pk.rd (st.take 4) : Int) = Pk.rd (st.take 4) := by rw [IntKind.wrap_i64]; omega
  go_wp2
  go_ret
  exact ⟨rfl, hR⟩

set_option maxHeartbeats 400000 in
theorem klong_any (bk : Nat) (st : Pk.Rd) (w : World) (h : IsK w bk st) :
    Calls Try.prog 33 #[.pointer (some ⟨bk, 0, none⟩)] w fun e w' => e = .returned (.int .u64 (Pk.rd (st.take 8))) ∧ KOut w w' bk (st.skip 8) := by
  go_enter Try.func33, Try.ntmps33
  go_wp2_with fail
  refine (knumber_any bk st 8 w (by omega) h).mono ?_
  rintro e w1 ⟨rfl, hR⟩
  go_wp2
  go_ret
  exact ⟨rfl, hR⟩

set_option maxHeartbeats 400000 in
theorem ktext_any (bk : Nat) (st : Pk.Rd) (w : World) (h : IsK w bk st) :
    Calls Try.prog 34 #[.pointer (some ⟨bk, 0, none⟩)] w fun e w' => e = .returned (.string (txt (rtext st))) ∧ KOut w w' bk (rtextSkip st) := by
  go_enter Try.func34, Try.ntmps34
  go_wp2_with fail
  refine (kbyte_any bk st w h).mono ?_
  rintro e w1 ⟨rfl, hR, k1⟩
  go_wp2_with fail
  refine (ktake_any bk (st.skip 1) _ w1 hR).mono ?_
  rintro e w2 ⟨rfl, hR2, k2⟩
  go_wp2
  go_ret
  exact ⟨rfl, hR2, k1.trans k2 (by simp)⟩

set_option maxHeartbeats 400000 in
theorem kraw_any (bk : Nat) (st : Pk.Rd) (n : Int) (w : World) (h : IsK w bk st) :
    Calls Try.prog 36 #[.pointer (some ⟨bk, 0, none⟩), .int .i64 n] w fun e w' => e = .returned (.string (txt (st.take n))) ∧ KOut w w' bk (st.skip n) := by
  go_enter Try.func36, Try.ntmps36
  go_wp2_with fail
  refine (ktake_any bk st n w h).mono ?_
  rintro e w1 ⟨rfl, hR⟩
  go_wp2
  go_ret
  exact ⟨rfl, hR⟩

set_option maxHeartbeats 400000 in
theorem knoughts_any (bk : Nat) (st : Pk.Rd) (w : World) (h : IsK w bk st) :
    Calls Try.prog 38 #[.pointer (some ⟨bk, 0, none⟩)] w fun e w' => e = .returned (.bool st.noughts) ∧ w = w' := by
  have hle := h.le
  have hsz := txt_len st.b
  have c0 : w.cell? ⟨bk, 0, none⟩ = some (.string (txt st.b)) := h.blk.cell 0
  have c1 : w.cell? ⟨bk, 1, none⟩ = some (.bool st.bad) := h.blk.cell 1
  have hno : st.noughts = (!st.bad && st.b.all (· == 0)) := rfl
  have HN := Lib.hid hno
  clear hno
  go_enter Try.func38, Try.ntmps38
  go_wp2_with fail
  go_loop [3] (fun i => ∃ k : Nat, k ≤ st.b.length ∧ i = .int .i64 k ∧ (st.b.take k).all (· == 0) = true) (fun i => st.b.length - (intOf i).toNat)
  case atStart => exact ⟨0, Nat.zero_le _, rfl, rfl⟩
  case round =>
    obtain ⟨k, hk, rfl, ha⟩ := hrel
    have HA := Lib.hid ha
    clear ha
    by_cases hlt : k < st.b.length
    · obtain ⟨c, hcv⟩ : ∃ c, st.b[k]? = some c := ⟨_, List.getElem?_eq_getElem hlt⟩
      have hget := txt_at st.b k c hcv
      have HS := Lib.hid (all_take st.b k c hcv HA.out)
      clear hcv
      by_cases hc : c = 0
      · subst hc
        go_wp2
        exact ⟨⟨k + 1, by omega, by go_num, HS.out.1⟩, by simp [intOf]; omega⟩
      · have hct : ((c.toNat : Int) != 0) = true := by
          rw [bne_iff_ne]
          intro h0
          exact hc (UInt8.toNat_inj.1 (by simpa using h0))
        go_wp2
        go_ret
        rw [HN.out, HS.out.2 (by simp [hc])]
        exact ⟨by simp, rfl⟩
    · go_wp2
      go_ret
      rw [HN.out]
      have e : st.b.take k = st.b := List.take_of_length_le (by omega)
      have := HA.out
      rw [e] at this
      rw [this]
      exact ⟨by simp, rfl⟩
end Go.Proofs.Yteogkgjajhdhjaa
