/-
  The document's answers: Right, pieces, Width, Short. No condition but that a text is not too long.
-/
import Derived.Test.YtbmbjedpeepnfaaDoorNmN
namespace Go.Proofs.YtbmbjedpeepnfaaDoor
open Go.RowKit
namespace Nm

theorem get_from (s : ByteArray) (i j : Nat) (h : i + j < s.size) : (s.extract i s.size).get! j = s.get! (i + j) := by
  have hz : (s.extract i s.size).size = s.size - i := by rw [ByteArray.size_extract]; omega
  rw [get_at (show j < (s.extract i s.size).size by omega), get_at h]
  exact ByteArray.getElem_extract _

theorem size_from (s : ByteArray) (i : Nat) : (s.extract i s.size).size = s.size - i := by rw [ByteArray.size_extract]; omega

theorem data_from (s : ByteArray) (i : Nat) : (s.extract i s.size).data.toList = s.data.toList.drop i := Lib.extract_to_end s i

/-- one step of the decoder in a text, and at the beginning of what is left of it -/
theorem decode_from (s : ByteArray) (i : Nat) (h : i < s.size) : Utf8.decode (s.extract i s.size) 0 = Utf8.decode s i := by
  rw [decode_decP, decode_decP]
  have hz := size_from s i
  have hc : ∀ k, cont (s.extract i s.size) 0 k = cont s i k := fun k => by
    unfold cont
    rw [hz, Nat.zero_add]
    by_cases hk : i + k < s.size
    · rw [get_from s i k hk]
      have : k < s.size - i := by omega
      simp [hk, this]
    · have : ¬ k < s.size - i := by omega
      simp [hk, this]
  rw [hc 1, hc 2, hc 3]
  have hb : ∀ k, cont s i k = true → (s.extract i s.size).get! (0 + k) = s.get! (i + k) := fun k hk => by
    unfold cont at hk
    simp only [Bool.and_eq_true, decide_eq_true_eq] at hk
    rw [Nat.zero_add]
    exact get_from s i k hk.1
  rw [show (s.extract i s.size).get! 0 = s.get! i from get_from s i 0 (by omega)]
  refine decP_bytes (by simp; intro a _; exact a) (by simp; intro a b _; exact ⟨a, b⟩) (fun h => by rw [hb 1 h]) (fun h => ?_) (fun h => ?_)
  · simp only [Bool.and_eq_true] at h
    rw [hb 2 h.2]
  · simp only [Bool.and_eq_true] at h
    rw [hb 3 h.2]

theorem charP_zero {s : ByteArray} {i : Nat} (h : i < s.size) : charP (s.extract i s.size) = (0, 0) ∧ Utf8.decode s i = (65533, 1) ∨ charP (s.extract i s.size) = ((Utf8.decode s i).2, (Utf8.decode s i).1) ∧ Utf8.decode s i ≠ (65533, 1) := by
  have hz := size_from s i
  unfold charP
  rw [if_neg (by omega), decode_from s i h]
  by_cases hd : Utf8.decode s i = (65533, 1)
  · rw [if_pos hd]; exact Or.inl ⟨rfl, hd⟩
  · rw [if_neg hd]; exact Or.inr ⟨rfl, hd⟩

theorem decodeL_drop (s : ByteArray) (i : Nat) (h : i < s.size) : Lib.decodeL (s.data.toList.drop i) = Utf8.decode s i := by
  rw [← decode_from s i h]
  show Utf8.decode ⟨(s.data.toList.drop i).toArray⟩ 0 = _
  congr 1
  rw [← data_from s i]

theorem valid_step (s : ByteArray) (i : Nat) (h : i < s.size) : Lib.validD (s.data.toList.drop i) = if Utf8.decode s i = (65533, 1) then false else Lib.validD (s.data.toList.drop (i + (Utf8.decode s i).2)) := by
  have hne : s.data.toList.drop i ≠ [] := fun e => by
    have := congrArg List.length e
    rw [List.length_drop, data_size] at this
    simp at this; omega
  rw [Lib.validD_step _ hne, decodeL_drop s i h, List.drop_drop]
  by_cases hd : Utf8.decode s i = (65533, 1)
  · rw [if_pos hd, if_pos (by rw [hd]; exact ⟨rfl, rfl⟩)]
  · rw [if_neg hd, if_neg (fun h => hd (Prod.ext h.1 h.2))]

end Nm

set_option maxRecDepth 100000 in
set_option maxHeartbeats 3200000 in
theorem rright_any (s : ByteArray) (w : World) (hs : s.size ≤ 9223372036854775807) : Calls Tryd.prog 33 #[.string s] w fun e w' => e = .returned (.bool (Nm.right s)) ∧ Keep [] w w' := by
  have hno := right_no s
  by_cases hc : 1 ≤ s.size ∧ s.size ≤ 18 ∧ ¬ s.toList = [46] ∧ ¬ s.toList = [46, 46]
  · obtain ⟨h1, h18, hd1, hd2⟩ := hc
    have h1I : ¬ (s.size : Int) < 1 := by omega
    have h18I : ¬ (18 : Int) < (s.size : Int) := by omega
    have HNO := Lib.hid hno
    have HD1 := Lib.hid hd1
    have HD2 := Lib.hid hd2
    have d1 : (s.toList == [46]) = false := by rw [beq_eq_false_iff_ne]; exact hd1
    have d2 : (s.toList == [46, 46]) = false := by rw [beq_eq_false_iff_ne]; exact hd2
    clear hno hd1 hd2
    go_enter Tryd.func33, Tryd.ntmps33
    go_wp2_with fail
    go_loopw [3] (fun i wr => ∃ k : Nat, i = .int .i64 k ∧ k ≤ s.size ∧ Hid (Lib.validD s.data.toList = Lib.validD (s.data.toList.drop k) ∧ ∀ j, j < k → Nm.okB (s.get! j) = true) ∧ Keep [] w wr) (fun i _ => s.size - (intOf i).toNat)
    case atStart => exact ⟨0, rfl, Nat.zero_le _, Lib.hid ⟨rfl, fun j h => absurd h (by omega)⟩, Keep.refl _ _⟩
    case round =>
      obtain ⟨k, rfl, hk, hI, K⟩ := hrel
      by_cases hlt : k < s.size
      · have hzf := Nm.size_from s k
        have hvs := Nm.valid_step s k hlt
        have hin := Nm.decode_in s k hlt
        have hpos := Nm.decode_pos s k hlt
        have cC := char_any (s.extract k s.size) wr (by omega)
        have hbad : Utf8.decode s k = (65533, 1) → Nm.right s = false := fun h => by
          refine HNO.out (Or.inr (Or.inr (Or.inr (Or.inr (Or.inl ?_)))))
          rw [hI.out.1, hvs, if_pos h]
        have hno2 : Nm.okR ((Utf8.decode s k).1 : Int) = false → Nm.right s = false := fun h => by
          refine HNO.out (Or.inr (Or.inr (Or.inr (Or.inr (Or.inr ?_)))))
          cases hx : Nm.allOk s with
          | false => rfl
          | true =>
            have h1 := (Nm.allOk_iff s).1 hx k hlt
            rw [Nm.okR_no s k hlt h] at h1; cases h1
        have hyes := fun h => Nm.okR_yes s k hlt h
        rcases Nm.charP_zero hlt with ⟨hx, hd⟩ | ⟨hx, hd⟩
        · have HR := Lib.hid (hbad hd)
          have HX := Lib.hid hx
          clear hzf hvs hin hpos hbad hno2 hyes hx hd
          go_wp2_with fail
          refine cC.mono ?_
          rintro e w2 ⟨n, v, rfl, hn, hv, k2⟩
          rw [HX.out] at hn hv
          subst hn
          subst hv
          go_wp2
          go_ret
          exact ⟨ret_bool HR.out.symm, K.trans k2 (by simp)⟩
        · obtain ⟨D, hD⟩ : ∃ D, D = Utf8.decode s k := ⟨_, rfl⟩
          rw [← hD] at hx hd hvs hin hpos hno2 hyes
          obtain ⟨dv, dn⟩ := D
          simp only at hx hin hpos hno2 hyes
          rw [if_neg hd] at hvs
          have HX := Lib.hid hx
          have HVS := Lib.hid hvs
          have HNO2 := Lib.hid hno2
          have HY := Lib.hid hyes
          have hn0 : ¬ (dn : Int) = 0 := by omega
          obtain ⟨z, hz⟩ : ∃ z : Int, z = (dv : Int) := ⟨_, rfl⟩
          have HZ := Lib.hid hz
          clear hzf hvs hbad hno2 hyes hx hd hD hz
          go_wp2_with fail
          refine cC.mono ?_
          rintro e w2 ⟨n, v, rfl, hn, hv, k2⟩
          rw [HX.out] at hn hv
          simp only at hn hv
          rw [← HZ.out] at hv
          subst hn
          subst hv
          have K2 := K.trans k2 (by simp)
          have hcase : (v = 47 ∨ v < 32 ∨ v = 127) ∨ (v ≠ 47 ∧ ¬ v < 32 ∧ v ≠ 127) := by omega
          rcases hcase with hc | ⟨hc1, hc2, hc3⟩
          · have hr : Nm.right s = false := HNO2.out (by
              have := HZ.out
              unfold Nm.okR
              rw [decide_eq_false_iff_not]; omega)
            have HR := Lib.hid hr
            clear hr
            have hc' : v = 47 ∨ v = 127 ∨ (v < 32 ∧ v ≠ 47 ∧ v ≠ 127) := by omega
            clear hc
            rcases hc' with rfl | rfl | ⟨hc1, hc2, hc3⟩
            · go_wp2
              go_ret
              exact ⟨ret_bool HR.out.symm, K2⟩
            · go_wp2
              go_ret
              exact ⟨ret_bool HR.out.symm, K2⟩
            · have b1 : (v == 47) = false := by rw [beq_eq_false_iff_ne]; exact hc2
              have b2 : (v == 127) = false := by rw [beq_eq_false_iff_ne]; exact hc3
              go_wp2
              go_ret
              exact ⟨ret_bool HR.out.symm, K2⟩
          · have hy := HY.out (by
              have := HZ.out
              unfold Nm.okR
              rw [decide_eq_true_eq]; omega)
            have HYY := Lib.hid hy
            have b1 : (v == 47) = false := by rw [beq_eq_false_iff_ne]; exact hc1
            have b2 : (v == 127) = false := by rw [beq_eq_false_iff_ne]; exact hc3
            have b0 : ((dn : Int) == 0) = false := by rw [beq_eq_false_iff_ne]; exact hn0
            have b3 : decide (v < 32) = false := by rw [decide_eq_false_iff_not]; exact hc2
            clear hy
            go_wp2
            go_roundw
            case rel =>
              refine ⟨k + dn, by first | rfl | (congr 1; omega), by omega, Lib.hid ⟨by rw [hI.out.1, HVS.out], fun j hj => ?_⟩, K2⟩
              by_cases hjk : j < k
              · exact hI.out.2 j hjk
              · have := (HYY.out (j - k) (by omega)).2
                rwa [show k + (j - k) = j by omega] at this
            case measure => simp [intOf]; omega
      · have hr : Nm.right s = true := by
          have hke : k = s.size := by omega
          have hv : Lib.validD s.data.toList = true := by
            rw [hI.out.1, List.drop_eq_nil_of_le (by rw [Nm.data_size]; omega)]; rfl
          refine right_yes s (fun h => ?_) (by omega) HD1.out HD2.out hv ((Nm.allOk_iff s).2 (fun j hj => hI.out.2 j (by omega)))
          rw [Lib.toList_data] at h
          have := Nm.data_size s
          rw [h] at this
          simp at this; omega
        have HR := Lib.hid hr
        clear hr hI
        go_wp2
        go_ret
        exact ⟨ret_bool HR.out.symm, K⟩
  · have hr : Nm.right s = false := by
      refine hno ?_
      by_cases a1 : 1 ≤ s.size
      · by_cases a2 : s.size ≤ 18
        · by_cases a3 : s.toList = [46]
          · exact Or.inr (Or.inr (Or.inl a3))
          · by_cases a4 : s.toList = [46, 46]
            · exact Or.inr (Or.inr (Or.inr (Or.inl a4)))
            · exact absurd ⟨a1, a2, a3, a4⟩ hc
        · exact Or.inr (Or.inl (by omega))
      · refine Or.inl ?_
        rw [Lib.toList_data]
        exact List.eq_nil_of_length_eq_zero (by rw [Nm.data_size]; omega)
    have HR := Lib.hid hr
    clear hr hno
    have hcase : s.size < 1 ∨ (1 ≤ s.size ∧ 18 < s.size) ∨ (1 ≤ s.size ∧ s.size ≤ 18 ∧ s.toList = [46]) ∨ (1 ≤ s.size ∧ s.size ≤ 18 ∧ ¬ s.toList = [46] ∧ s.toList = [46, 46]) := by
      by_cases a1 : 1 ≤ s.size
      · by_cases a2 : s.size ≤ 18
        · by_cases a3 : s.toList = [46]
          · exact Or.inr (Or.inr (Or.inl ⟨a1, a2, a3⟩))
          · by_cases a4 : s.toList = [46, 46]
            · exact Or.inr (Or.inr (Or.inr ⟨a1, a2, a3, a4⟩))
            · exact absurd ⟨a1, a2, a3, a4⟩ hc
        · exact Or.inr (Or.inl ⟨a1, by omega⟩)
      · exact Or.inl (by omega)
    clear hc
    rcases hcase with a1 | ⟨a1, a2⟩ | ⟨a1, a2, a3⟩ | ⟨a1, a2, a3, a4⟩
    · have i1 : (s.size : Int) < 1 := by omega
      go_enter Tryd.func33, Tryd.ntmps33
      go_wp2
      go_ret
      exact ⟨ret_bool HR.out.symm, Keep.refl _ _⟩
    · have i1 : ¬ (s.size : Int) < 1 := by omega
      have i2 : (18 : Int) < (s.size : Int) := by omega
      go_enter Tryd.func33, Tryd.ntmps33
      go_wp2
      go_ret
      exact ⟨ret_bool HR.out.symm, Keep.refl _ _⟩
    · have i1 : ¬ (s.size : Int) < 1 := by omega
      have i2 : ¬ (18 : Int) < (s.size : Int) := by omega
      have i3 : (s.toList == [46]) = true := by rw [beq_iff_eq]; exact a3
      clear a3
      go_enter Tryd.func33, Tryd.ntmps33
      go_wp2
      go_ret
      exact ⟨ret_bool HR.out.symm, Keep.refl _ _⟩
    · have i1 : ¬ (s.size : Int) < 1 := by omega
      have i2 : ¬ (18 : Int) < (s.size : Int) := by omega
      have i3 : (s.toList == [46]) = false := by rw [beq_eq_false_iff_ne]; exact a3
      have i4 : (s.toList == [46, 46]) = true := by rw [beq_iff_eq]; exact a4
      clear a3 a4
      go_enter Tryd.func33, Tryd.ntmps33
      go_wp2
      go_ret
      exact ⟨ret_bool HR.out.symm, Keep.refl _ _⟩
end Go.Proofs.YtbmbjedpeepnfaaDoor
