/-
  Package inode: Of, Numbered. No condition but that the text is not too long.
-/
import Derived.Test.YteogkgjajhdhjaaDoorInA
import Derived.Lib.ConvBytes
namespace Go.Proofs.YteogkgjajhdhjaaDoor
open Go.RowKit

/-- '[]byte(s)' -/
theorem conv_text (w : World) (s : ByteArray) (_hs : s.size ≤ 140737488351232) : ∃ c w1, (convert 9 43 (.string s)).run Tryd.prog w = .ok (.slice (some ⟨w.heap.size, 0, none⟩) s.size c) w1 ∧
    RdV w1 (.slice (some ⟨w.heap.size, 0, none⟩) s.size c) s.data.toList.length 1 (bv s.data.toList) ∧ Keep [] w w1 := by
  have hl : s.data.toList.length = s.size := by rw [Array.length_toList]; rfl
  refine ⟨_, _, Lib.run_convert_string_bytes w 9 43 5 s Tryd.underlying9 Tryd.underlying43 Tryd.underlying5, ?_, ?_⟩
  · rw [hl]
    refine ⟨by rw [bv_length, hl]; omega, some _, _, rfl, grownCap_ge w s.size 0 5, (fun h => by cases h), fun a ha j u hu => ?_⟩
    cases ha
    have hj : j < s.size := by have := (List.getElem?_eq_some_iff.1 hu).1; rw [bv_length, hl] at this; exact this
    have hc := Lib.bytesWorld_cell w 5 s j hj
    rw [Addr.add_lit]
    simp only [Nat.zero_add]
    rw [hc]
    simp only [bv, List.getElem?_map] at hu
    rw [List.getElem?_eq_getElem (by rw [hl]; exact hj)] at hu
    rw [← hu]
    simp [List.getD, hl, hj]
  · exact ⟨rfl, rfl, rfl, by rw [Lib.bytesWorld_size]; omega, fun k hk _ => Lib.bytesWorld_at_old w 5 s k hk⟩

/-- what Numbered answers -/
def NumOut (s : ByteArray) (w w' : World) (e : Ending) : Prop :=
  Keep [] w w' ∧ ((∃ n, In.numOf s.data.toList = some n ∧ e = .returned (.tuple #[.int .i64 n, .bool true])) ∨ (In.numOf s.data.toList = none ∧ e = .returned (.tuple #[.int .i64 0, .bool false])))

set_option maxRecDepth 100000 in
set_option maxHeartbeats 800000 in
theorem numbered_any (s : ByteArray) (w : World) (hs : s.size ≤ 140737488351232) : Calls Tryd.prog 17 #[.string s] w fun e w' => NumOut s w w' e := by
  obtain ⟨c, w1, hcv, rd1, K1⟩ := conv_text w s hs
  have hl : s.data.toList.length = s.size := by rw [Array.length_toList]; rfl
  obtain ⟨g, hg⟩ : ∃ g, g = w.heap.size := ⟨_, rfl⟩
  rw [← hg] at hcv rd1
  obtain ⟨v, hv⟩ : ∃ v, v = s.data.toList := ⟨_, rfl⟩
  have hsz : v.length ≤ 140737488351232 := by rw [hv, hl]; exact hs
  rw [← hv] at rd1
  have HV := Lib.hid hv
  clear hg hl hv
  go_enter Tryd.func17, Tryd.ntmps17
  go_wp2_with fail
  clear hcv
  refine (read_any _ v w1 rd1 hsz).mono ?_
  rintro e w2 ⟨br, u2, rfl, h2, k2, b2, q2⟩
  have R2 := LR.new K1 h2 b2 q2
  have K2 := K1.trans k2 (by simp)
  clear h2 b2 q2 rd1 k2
  go_wp2_with fail
  refine (rword_any br u2 _ _ R2.isr).mono ?_
  rintro e w3 ⟨rfl, o⟩
  obtain ⟨u3, R3, K3, _, _⟩ := LR.step (w0 := w) R2 K2 o
  clear R2 K2 o K1
  by_cases h4 : 4 ≤ v.length
  · have e1 : (⟨v, false⟩ : Pk.Rd).skip 4 = ⟨v.drop 4, false⟩ := In.skip_len (n := 4) h4
    have e2 : (⟨v, false⟩ : Pk.Rd).take 4 = v.take 4 := In.take_len (n := 4) h4
    rw [e1] at R3
    rw [e2]
    have ht : (v.take 4).length = 4 := by rw [List.length_take]; omega
    have hrd := In.rd_lt256 _ ht
    obtain ⟨n, hn⟩ : ∃ n, n = Pk.rd (v.take 4) := ⟨_, rfl⟩
    rw [← hn] at hrd ⊢
    have HN := Lib.hid hn
    clear hn e1 e2
    go_wp2_with fail
    refine (wrong_any br u3 _ _ R3.isr).mono ?_
    rintro e w4 ⟨rfl, rfl⟩
    go_wp2_with fail
    refine (left_any br u3 _ _ R3.isr).mono ?_
    rintro e w4 ⟨rfl, rfl⟩
    have hd : (v.drop 4).length = v.length - 4 := List.length_drop
    by_cases h0 : v.length = 4
    · have hl0 : ((v.drop 4).length : Int) = 0 := by omega
      rw [hl0]
      clear hl0 hd
      have H0 := Lib.hid h0
      clear h0
      go_wp2_with fail
      refine (innum_any n _).mono ?_
      rintro e w4 ⟨rfl, rfl⟩
      have hlv : v.take 4 = v := List.take_of_length_le (by have := H0.out; omega)
      have HL := Lib.hid hlv
      clear hlv
      cases hnb : In.numbered n with
      | true =>
        have HB := Lib.hid hnb
        clear hnb
        go_wp2
        go_ret2
        refine ⟨K3, Or.inl ⟨(n : Int), ?_, rfl⟩⟩
        rw [← HV.out]
        unfold In.numOf
        have e3 : Pk.rd v = n := by rw [HN.out, HL.out]
        rw [e3, if_pos ⟨H0.out, HB.out⟩]
      | false =>
        have HB := Lib.hid hnb
        clear hnb
        go_wp2
        go_ret2
        refine ⟨K3, Or.inr ⟨?_, rfl⟩⟩
        rw [← HV.out]
        unfold In.numOf
        have e3 : Pk.rd v = n := by rw [HN.out, HL.out]
        rw [e3, if_neg (fun h => by rw [HB.out] at h; exact absurd h.2 (by decide))]
    · have hpos : 0 < ((v.drop 4).length : Int) := by omega
      obtain ⟨q, hq⟩ : ∃ q, q = (v.drop 4).length := ⟨_, rfl⟩
      rw [← hq] at hpos ⊢
      have H0 := Lib.hid h0
      clear hd h0 hq
      go_wp2
      go_ret2
      refine ⟨K3, Or.inr ⟨?_, rfl⟩⟩
      rw [← HV.out]
      unfold In.numOf
      rw [if_neg (fun h => H0.out h.1)]
  · have e1 : (⟨v, false⟩ : Pk.Rd).skip 4 = ⟨[], true⟩ := In.skip_no (n := 4) (by omega)
    have e2 : (⟨v, false⟩ : Pk.Rd).take 4 = [] := In.take_no (n := 4) (by omega)
    rw [e1] at R3
    rw [e2]
    rw [show Pk.rd [] = 0 from rfl]
    have H4 := Lib.hid h4
    clear h4 e1 e2
    go_wp2_with fail
    refine (wrong_any br u3 _ _ R3.isr).mono ?_
    rintro e w4 ⟨rfl, rfl⟩
    go_wp2
    go_ret2
    refine ⟨K3, Or.inr ⟨?_, rfl⟩⟩
    rw [← HV.out]
    unfold In.numOf
    rw [if_neg (fun h => H4.out (by omega))]
end Go.Proofs.YteogkgjajhdhjaaDoor
