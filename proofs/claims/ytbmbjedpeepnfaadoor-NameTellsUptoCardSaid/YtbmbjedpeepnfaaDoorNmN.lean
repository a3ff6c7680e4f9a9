/-
  The document's answer for names: what 'char' answers. No condition but that a text is not too long.
-/
import Derived.Test.YtbmbjedpeepnfaaDoorNmM
import Derived.Test.YtbmbjedpeepnfaaDoorNmE
import Derived.Lib.DecodeN
namespace Go.Proofs.YtbmbjedpeepnfaaDoor
open Go.RowKit
namespace Nm

/-- which character a text begins with: how many bytes it has, and its number; (0, 0): none that is written well -/
def charP (s : ByteArray) : Nat × Nat := if s.size = 0 then (0, 0) else if Utf8.decode s 0 = (65533, 1) then (0, 0) else ((Utf8.decode s 0).2, (Utf8.decode s 0).1)

theorem charP_bad {s : ByteArray} (h0 : 0 < s.size) (h : Utf8.decode s 0 = (65533, 1)) : charP s = (0, 0) := by
  unfold charP; rw [if_neg (by omega), if_pos h]

theorem charP_ok {s : ByteArray} (h0 : 0 < s.size) {v k : Nat} (h : Utf8.decode s 0 = (v, k)) (hk : k ≠ 1 ∨ v ≠ 65533) : charP s = (k, v) := by
  unfold charP
  rw [if_neg (by omega), if_neg (fun e => by rw [h] at e; injection e; omega), h]

theorem dec0 (s : ByteArray) : Utf8.decode s 0 = Lib.decodeN s.size (s.get! 0).toNat (s.get! 1).toNat (s.get! 2).toNat (s.get! 3).toNat := Lib.decode_at s 0

section
variable {s : ByteArray} {x0 x1 x2 x3 : Nat} (h0 : 0 < s.size) (e0 : (s.get! 0).toNat = x0)
include h0 e0

theorem ch1 (h : x0 < 128) : charP s = (1, x0) := by
  refine charP_ok h0 ?_ (Or.inr (by omega))
  rw [dec0, e0]; unfold Lib.decodeN; rw [if_pos h]

theorem ch2 (e1 : (s.get! 1).toNat = x1) (ha : 192 ≤ x0) (hb : x0 < 224) (hn : 2 ≤ s.size) (t1 : 128 ≤ x1 ∧ x1 < 192) {V : Nat} (hV : V + 192 * 64 + 128 = x0 * 64 + x1) :
    charP s = if 128 ≤ V then (2, V) else (0, 0) := by
  have hd : Utf8.decode s 0 = if 128 ≤ V then (V, 2) else (65533, 1) := by
    rw [dec0, e0, e1]; unfold Lib.decodeN
    rw [if_neg (by omega), if_pos (by omega), show x0 % 32 * 64 + x1 % 64 = V by omega]
  by_cases h : 128 ≤ V
  · rw [if_pos h] at hd ⊢; exact charP_ok h0 hd (Or.inl (by omega))
  · rw [if_neg h] at hd ⊢; exact charP_bad h0 hd

theorem ch3 (e1 : (s.get! 1).toNat = x1) (e2 : (s.get! 2).toNat = x2) (ha : 224 ≤ x0) (hb : x0 < 240) (hn : 3 ≤ s.size) (t1 : 128 ≤ x1 ∧ x1 < 192) (t2 : 128 ≤ x2 ∧ x2 < 192) {V : Nat} (hV : V + 224 * 4096 + 128 * 64 + 128 = x0 * 4096 + x1 * 64 + x2) :
    charP s = if 2048 ≤ V ∧ (V < 55296 ∨ 57343 < V) then (3, V) else (0, 0) := by
  have hd : Utf8.decode s 0 = if 2048 ≤ V ∧ (V < 55296 ∨ 57343 < V) then (V, 3) else (65533, 1) := by
    rw [dec0, e0, e1, e2]; unfold Lib.decodeN
    rw [if_neg (by omega), if_neg (by omega), if_pos (by omega), show x0 % 16 * 4096 + x1 % 64 * 64 + x2 % 64 = V by omega]
    have hc : (V ≥ 2048 ∧ (V < 55296 ∨ (57344 ≤ V ∧ V ≤ 1114111))) ↔ (2048 ≤ V ∧ (V < 55296 ∨ 57343 < V)) := by omega
    by_cases h : 2048 ≤ V ∧ (V < 55296 ∨ 57343 < V)
    · rw [if_pos h, if_pos (hc.2 h)]
    · rw [if_neg h, if_neg (fun x => h (hc.1 x))]
  by_cases h : 2048 ≤ V ∧ (V < 55296 ∨ 57343 < V)
  · rw [if_pos h] at hd ⊢; exact charP_ok h0 hd (Or.inl (by omega))
  · rw [if_neg h] at hd ⊢; exact charP_bad h0 hd

theorem ch4 (e1 : (s.get! 1).toNat = x1) (e2 : (s.get! 2).toNat = x2) (e3 : (s.get! 3).toNat = x3) (ha : 240 ≤ x0) (hb : x0 < 248) (hn : 4 ≤ s.size) (t1 : 128 ≤ x1 ∧ x1 < 192) (t2 : 128 ≤ x2 ∧ x2 < 192) (t3 : 128 ≤ x3 ∧ x3 < 192) {V : Nat}
    (hV : V + 240 * 262144 + 128 * 4096 + 128 * 64 + 128 = x0 * 262144 + x1 * 4096 + x2 * 64 + x3) : charP s = if 65536 ≤ V ∧ V ≤ 1114111 then (4, V) else (0, 0) := by
  have hd : Utf8.decode s 0 = if 65536 ≤ V ∧ V ≤ 1114111 then (V, 4) else (65533, 1) := by
    rw [dec0, e0, e1, e2, e3]; unfold Lib.decodeN
    rw [if_neg (by omega), if_neg (by omega), if_neg (by omega), if_pos (by omega), show x0 % 8 * 262144 + x1 % 64 * 4096 + x2 % 64 * 64 + x3 % 64 = V by omega]
    have hc : (V ≥ 65536 ∧ (V < 55296 ∨ (57344 ≤ V ∧ V ≤ 1114111))) ↔ (65536 ≤ V ∧ V ≤ 1114111) := by omega
    by_cases h : 65536 ≤ V ∧ V ≤ 1114111
    · rw [if_pos h, if_pos (hc.2 h)]
    · rw [if_neg h, if_neg (fun x => h (hc.1 x))]
  by_cases h : 65536 ≤ V ∧ V ≤ 1114111
  · rw [if_pos h] at hd ⊢; exact charP_ok h0 hd (Or.inl (by omega))
  · rw [if_neg h] at hd ⊢; exact charP_bad h0 hd

theorem ch0 (e1 : (s.get! 1).toNat = x1) (e2 : (s.get! 2).toNat = x2) (e3 : (s.get! 3).toNat = x3) (h : 128 ≤ x0) (h2 : ¬ (192 ≤ x0 ∧ x0 < 224 ∧ 2 ≤ s.size ∧ 128 ≤ x1 ∧ x1 < 192))
    (h3 : ¬ (224 ≤ x0 ∧ x0 < 240 ∧ 3 ≤ s.size ∧ 128 ≤ x1 ∧ x1 < 192 ∧ 128 ≤ x2 ∧ x2 < 192)) (h4 : ¬ (240 ≤ x0 ∧ x0 < 248 ∧ 4 ≤ s.size ∧ 128 ≤ x1 ∧ x1 < 192 ∧ 128 ≤ x2 ∧ x2 < 192 ∧ 128 ≤ x3 ∧ x3 < 192)) : charP s = (0, 0) := by
  refine charP_bad h0 ?_
  rw [dec0, e0, e1, e2, e3]; unfold Lib.decodeN
  rw [if_neg (by omega), if_neg (by omega), if_neg (by omega), if_neg (by omega)]
end
end Nm

set_option maxRecDepth 100000 in
theorem tail_yes (z : Int) (w : World) (h : 128 ≤ z ∧ z < 192) : Calls Tryd.prog 82 #[.int .u8 z] w fun e w' => e = .returned (.bool true) ∧ w = w' := by
  obtain ⟨h1, h2⟩ := h
  go_enter Tryd.func82, Tryd.ntmps82
  go_wp2
  go_ret
  exact ⟨rfl, rfl⟩

set_option maxRecDepth 100000 in
theorem tail_no (z : Int) (w : World) (h : ¬ (128 ≤ z ∧ z < 192)) : Calls Tryd.prog 82 #[.int .u8 z] w fun e w' => e = .returned (.bool false) ∧ w = w' := by
  by_cases h1 : 128 ≤ z
  · have h2 : ¬ z < 192 := fun x => h ⟨h1, x⟩
    clear h
    go_enter Tryd.func82, Tryd.ntmps82
    go_wp2
    go_ret
    exact ⟨rfl, rfl⟩
  · clear h
    go_enter Tryd.func82, Tryd.ntmps82
    go_wp2
    go_ret
    exact ⟨rfl, rfl⟩

/-- what char answers -/
def CharOut (s : ByteArray) (w w' : World) (e : Ending) : Prop := ∃ n v : Int, e = .returned (.tuple #[.int .i64 n, .int .i64 v]) ∧ n = ((Nm.charP s).1 : Int) ∧ v = ((Nm.charP s).2 : Int) ∧ Keep [] w w'

set_option maxRecDepth 100000 in
set_option maxHeartbeats 32000000 in
theorem char_any (s : ByteArray) (w : World) (hs : s.size ≤ 9223372036854775807) : Calls Tryd.prog 60 #[.string s] w fun e w' => CharOut s w w' e := by
  by_cases hz : s.size = 0
  · have hse : s = ⟨#[]⟩ := by
      have : s.data.size = 0 := hz
      cases s; simp at this; rw [this]
    subst hse
    go_enter Tryd.func60, Tryd.ntmps60
    go_wp2
    go_ret2
    exact ⟨0, 0, rfl, rfl, rfl, Keep.refl _ _⟩
  · have h0 : 0 < s.size := by omega
    have hne : s.toList.isEmpty = false := by
      rw [Lib.toList_data, List.isEmpty_eq_false_iff]
      intro h
      have := Nm.data_size s
      rw [h] at this
      exact hz this.symm
    obtain ⟨c0, hc0⟩ : ∃ c0, c0 = s.get! 0 := ⟨_, rfl⟩
    obtain ⟨c1, hc1⟩ : ∃ c1, c1 = s.get! 1 := ⟨_, rfl⟩
    obtain ⟨c2, hc2⟩ : ∃ c2, c2 = s.get! 2 := ⟨_, rfl⟩
    obtain ⟨c3, hc3⟩ : ∃ c3, c3 = s.get! 3 := ⟨_, rfl⟩
    obtain ⟨x0, hx0⟩ : ∃ x, c0.toNat = x := ⟨_, rfl⟩
    obtain ⟨x1, hx1⟩ : ∃ x, c1.toNat = x := ⟨_, rfl⟩
    obtain ⟨x2, hx2⟩ : ∃ x, c2.toNat = x := ⟨_, rfl⟩
    obtain ⟨x3, hx3⟩ : ∃ x, c3.toNat = x := ⟨_, rfl⟩
    have l0 : x0 < 256 := by rw [← hx0]; exact UInt8.toNat_lt _
    have l1 : x1 < 256 := by rw [← hx1]; exact UInt8.toNat_lt _
    have l2 : x2 < 256 := by rw [← hx2]; exact UInt8.toNat_lt _
    have l3 : x3 < 256 := by rw [← hx3]; exact UInt8.toNat_lt _
    have e0 : (s.get! 0).toNat = x0 := by rw [← hc0]; exact hx0
    have e1 : (s.get! 1).toNat = x1 := by rw [← hc1]; exact hx1
    have e2 : (s.get! 2).toNat = x2 := by rw [← hc2]; exact hx2
    have e3 : (s.get! 3).toNat = x3 := by rw [← hc3]; exact hx3
    have hcase : x0 < 128 ∨ (128 ≤ x0 ∧ x0 < 192) ∨ (192 ≤ x0 ∧ x0 < 224) ∨ (224 ≤ x0 ∧ x0 < 240) ∨ (240 ≤ x0 ∧ x0 < 248) ∨ 248 ≤ x0 := by omega
    rcases hcase with ha | ⟨ha, hb⟩ | ⟨ha, hb⟩ | ⟨ha, hb⟩ | ⟨ha, hb⟩ | ha
    · have hj0 : 0 < s.size := by omega
      have i0 : s[0]'hj0 = c0 := by rw [hc0, Nm.get_at hj0]
      have HX := Lib.hid (Nm.ch1 h0 e0 ha)
      clear hc0 hc1 hc2 hc3 e0 e1 e2 e3
      have q0 : (x0 : Int) < 128 := by omega
      go_enter Tryd.func60, Tryd.ntmps60
      go_wp2_with fail
      go_ret2
      exact ⟨1, (x0 : Int), rfl, by rw [HX.out]; rfl, by rw [HX.out], Keep.refl _ _⟩
    · have hj0 : 0 < s.size := by omega
      have i0 : s[0]'hj0 = c0 := by rw [hc0, Nm.get_at hj0]
      have HX := Lib.hid (Nm.ch0 h0 e0 e1 e2 e3 (by omega) (by omega) (by omega) (by omega))
      clear hc0 hc1 hc2 hc3 e0 e1 e2 e3
      have q0 : ¬ (x0 : Int) < 128 := by omega
      have q1 : ¬ (192 : Int) ≤ (x0 : Int) := by omega
      have q2 : ¬ (224 : Int) ≤ (x0 : Int) := by omega
      have q3 : ¬ (240 : Int) ≤ (x0 : Int) := by omega
      go_enter Tryd.func60, Tryd.ntmps60
      go_wp2_with fail
      go_ret2
      exact ⟨0, 0, rfl, by rw [HX.out]; rfl, by rw [HX.out]; rfl, Keep.refl _ _⟩
    · have hj0 : 0 < s.size := by omega
      have i0 : s[0]'hj0 = c0 := by rw [hc0, Nm.get_at hj0]
      by_cases hn : 2 ≤ s.size
      · have hnI : (2 : Int) ≤ (s.size : Int) := by omega
        have hj1 : 1 < s.size := by omega
        have i1 : s[1]'hj1 = c1 := by rw [hc1, Nm.get_at hj1]
        by_cases t1 : 128 ≤ (x1 : Int) ∧ (x1 : Int) < 192
        · obtain ⟨V, hV⟩ : ∃ V : Nat, V + 192 * 64 + 128 = x0 * 64 + x1 := ⟨x0 * 64 + x1 - (192 * 64 + 128), by omega⟩
          have hX := Nm.ch2 h0 e0 e1 ha hb hn (by omega) hV
          obtain ⟨A1, hA1⟩ : ∃ A : Int, A = (x0 : Int) - 192 := ⟨_, rfl⟩
          obtain ⟨A2, hA2⟩ : ∃ A : Int, A = A1 * 64 := ⟨_, rfl⟩
          obtain ⟨A3, hA3⟩ : ∃ A : Int, A = A2 + (x1 : Int) := ⟨_, rfl⟩
          obtain ⟨A4, hA4⟩ : ∃ A : Int, A = A3 - 128 := ⟨_, rfl⟩
          have w1 : IntKind.i64.wrap ((x0 : Int) - 192) = A1 := by rw [IntWalk.i64_in _ (by omega)]; omega
          have w2 : IntKind.i64.wrap (A1 * 64) = A2 := by rw [IntWalk.i64_in _ (by omega)]; omega
          have w3 : IntKind.i64.wrap (A2 + (x1 : Int)) = A3 := by rw [IntWalk.i64_in _ (by omega)]; omega
          have w4 : IntKind.i64.wrap (A3 - 128) = A4 := by rw [IntWalk.i64_in _ (by omega)]; omega
          have hAV : A4 = (V : Int) := by omega
          have HV := Lib.hid hAV
          by_cases hg : 128 ≤ V
          · rw [if_pos hg] at hX
            have HX := Lib.hid hX
            have g1 : (128 : Int) ≤ A4 := by omega
            clear hA1 hA2 hA3 hA4 hAV hX hV hc0 hc1 hc2 hc3 e0 e1 e2 e3
            have q0 : ¬ (x0 : Int) < 128 := by omega
            have q1 : (192 : Int) ≤ (x0 : Int) := by omega
            have q2 : (x0 : Int) < 224 := by omega
            have q3 : ¬ (224 : Int) ≤ (x0 : Int) := by omega
            have q4 : ¬ (240 : Int) ≤ (x0 : Int) := by omega
            have T1 := Lib.hid t1
            clear t1
            go_enter Tryd.func60, Tryd.ntmps60
            go_wp2_with (first | (go_at_call 82; refine (tail_yes (x1 : Int) _ T1.out).mono ?_; rintro e w' ⟨rfl, rfl⟩))
            go_ret2
            exact ⟨2, A4, rfl, by rw [HX.out]; rfl, by rw [HX.out]; exact HV.out, Keep.refl _ _⟩
          · rw [if_neg hg] at hX
            have HX := Lib.hid hX
            have g1 : ¬ (128 : Int) ≤ A4 := by omega
            clear hA1 hA2 hA3 hA4 hAV hX hV hc0 hc1 hc2 hc3 e0 e1 e2 e3
            have q0 : ¬ (x0 : Int) < 128 := by omega
            have q1 : (192 : Int) ≤ (x0 : Int) := by omega
            have q2 : (x0 : Int) < 224 := by omega
            have q3 : ¬ (224 : Int) ≤ (x0 : Int) := by omega
            have q4 : ¬ (240 : Int) ≤ (x0 : Int) := by omega
            have T1 := Lib.hid t1
            clear t1
            go_enter Tryd.func60, Tryd.ntmps60
            go_wp2_with (first | (go_at_call 82; refine (tail_yes (x1 : Int) _ T1.out).mono ?_; rintro e w' ⟨rfl, rfl⟩))
            go_ret2
            exact ⟨0, 0, rfl, by rw [HX.out]; rfl, by rw [HX.out]; rfl, Keep.refl _ _⟩
        · have HX := Lib.hid (Nm.ch0 h0 e0 e1 e2 e3 (by omega) (by omega) (by omega) (by omega))
          clear hc0 hc1 hc2 hc3 e0 e1 e2 e3
          have q0 : ¬ (x0 : Int) < 128 := by omega
          have q1 : (192 : Int) ≤ (x0 : Int) := by omega
          have q2 : (x0 : Int) < 224 := by omega
          have q3 : ¬ (224 : Int) ≤ (x0 : Int) := by omega
          have q4 : ¬ (240 : Int) ≤ (x0 : Int) := by omega
          have T1 := Lib.hid t1
          clear t1
          go_enter Tryd.func60, Tryd.ntmps60
          go_wp2_with (first | (go_at_call 82; refine (tail_no (x1 : Int) _ T1.out).mono ?_; rintro e w' ⟨rfl, rfl⟩))
          go_ret2
          exact ⟨0, 0, rfl, by rw [HX.out]; rfl, by rw [HX.out]; rfl, Keep.refl _ _⟩
      · have hnI : ¬ (2 : Int) ≤ (s.size : Int) := by omega
        have HX := Lib.hid (Nm.ch0 h0 e0 e1 e2 e3 (by omega) (by omega) (by omega) (by omega))
        clear hc0 hc1 hc2 hc3 e0 e1 e2 e3
        have q0 : ¬ (x0 : Int) < 128 := by omega
        have q1 : (192 : Int) ≤ (x0 : Int) := by omega
        have q2 : (x0 : Int) < 224 := by omega
        have q3 : ¬ (224 : Int) ≤ (x0 : Int) := by omega
        have q4 : ¬ (240 : Int) ≤ (x0 : Int) := by omega
        go_enter Tryd.func60, Tryd.ntmps60
        go_wp2_with fail
        go_ret2
        exact ⟨0, 0, rfl, by rw [HX.out]; rfl, by rw [HX.out]; rfl, Keep.refl _ _⟩
    · have hj0 : 0 < s.size := by omega
      have i0 : s[0]'hj0 = c0 := by rw [hc0, Nm.get_at hj0]
      by_cases hn : 3 ≤ s.size
      · have hnI : (3 : Int) ≤ (s.size : Int) := by omega
        have hj1 : 1 < s.size := by omega
        have i1 : s[1]'hj1 = c1 := by rw [hc1, Nm.get_at hj1]
        have hj2 : 2 < s.size := by omega
        have i2 : s[2]'hj2 = c2 := by rw [hc2, Nm.get_at hj2]
        by_cases t1 : 128 ≤ (x1 : Int) ∧ (x1 : Int) < 192
        · by_cases t2 : 128 ≤ (x2 : Int) ∧ (x2 : Int) < 192
          · obtain ⟨V, hV⟩ : ∃ V : Nat, V + 224 * 4096 + 128 * 64 + 128 = x0 * 4096 + x1 * 64 + x2 := ⟨x0 * 4096 + x1 * 64 + x2 - (224 * 4096 + 128 * 64 + 128), by omega⟩
            have hX := Nm.ch3 h0 e0 e1 e2 ha hb hn (by omega) (by omega) hV
            obtain ⟨A1, hA1⟩ : ∃ A : Int, A = (x0 : Int) - 224 := ⟨_, rfl⟩
            obtain ⟨A2, hA2⟩ : ∃ A : Int, A = A1 * 4096 := ⟨_, rfl⟩
            obtain ⟨B1, hB1⟩ : ∃ A : Int, A = (x1 : Int) - 128 := ⟨_, rfl⟩
            obtain ⟨B2, hB2⟩ : ∃ A : Int, A = B1 * 64 := ⟨_, rfl⟩
            obtain ⟨A3, hA3⟩ : ∃ A : Int, A = A2 + B2 := ⟨_, rfl⟩
            obtain ⟨A4, hA4⟩ : ∃ A : Int, A = A3 + (x2 : Int) := ⟨_, rfl⟩
            obtain ⟨A5, hA5⟩ : ∃ A : Int, A = A4 - 128 := ⟨_, rfl⟩
            have w1 : IntKind.i64.wrap ((x0 : Int) - 224) = A1 := by rw [IntWalk.i64_in _ (by omega)]; omega
            have w2 : IntKind.i64.wrap (A1 * 4096) = A2 := by rw [IntWalk.i64_in _ (by omega)]; omega
            have w3 : IntKind.i64.wrap ((x1 : Int) - 128) = B1 := by rw [IntWalk.i64_in _ (by omega)]; omega
            have w4 : IntKind.i64.wrap (B1 * 64) = B2 := by rw [IntWalk.i64_in _ (by omega)]; omega
            have w5 : IntKind.i64.wrap (A2 + B2) = A3 := by rw [IntWalk.i64_in _ (by omega)]; omega
            have w6 : IntKind.i64.wrap (A3 + (x2 : Int)) = A4 := by rw [IntWalk.i64_in _ (by omega)]; omega
            have w7 : IntKind.i64.wrap (A4 - 128) = A5 := by rw [IntWalk.i64_in _ (by omega)]; omega
            have hAV : A5 = (V : Int) := by omega
            have HV := Lib.hid hAV
            have hcs : V < 2048 ∨ (2048 ≤ V ∧ V < 55296) ∨ (55296 ≤ V ∧ V ≤ 57343) ∨ 57343 < V := by omega
            rcases hcs with hg | ⟨hg, hg2⟩ | ⟨hg, hg2⟩ | hg
            · rw [if_neg (by omega)] at hX
              have HX := Lib.hid hX
              have g1 : ¬ (2048 : Int) ≤ A5 := by omega
              clear hA1 hA2 hA3 hA4 hA5 hB1 hB2 hAV hX hV hc0 hc1 hc2 hc3 e0 e1 e2 e3
              have q0 : ¬ (x0 : Int) < 128 := by omega
              have q1 : (192 : Int) ≤ (x0 : Int) := by omega
              have q2 : ¬ (x0 : Int) < 224 := by omega
              have q3 : (224 : Int) ≤ (x0 : Int) := by omega
              have q4 : (x0 : Int) < 240 := by omega
              have q5 : ¬ (240 : Int) ≤ (x0 : Int) := by omega
              have T1 := Lib.hid t1
              clear t1
              have T2 := Lib.hid t2
              clear t2
              go_enter Tryd.func60, Tryd.ntmps60
              go_wp2_with (first | (go_at_call 82; refine (tail_yes (x1 : Int) _ T1.out).mono ?_; rintro e w' ⟨rfl, rfl⟩) | (go_at_call 82; refine (tail_yes (x2 : Int) _ T2.out).mono ?_; rintro e w' ⟨rfl, rfl⟩))
              go_region
              go_wp2
              go_ret2
              exact ⟨0, 0, rfl, by rw [HX.out]; rfl, by rw [HX.out]; rfl, (Keep.refl _ _).drewN _⟩
            · rw [if_pos (by omega)] at hX
              have HX := Lib.hid hX
              have g1 : (2048 : Int) ≤ A5 := by omega
              have g2 : A5 < 55296 := by omega
              clear hA1 hA2 hA3 hA4 hA5 hB1 hB2 hAV hX hV hc0 hc1 hc2 hc3 e0 e1 e2 e3
              have q0 : ¬ (x0 : Int) < 128 := by omega
              have q1 : (192 : Int) ≤ (x0 : Int) := by omega
              have q2 : ¬ (x0 : Int) < 224 := by omega
              have q3 : (224 : Int) ≤ (x0 : Int) := by omega
              have q4 : (x0 : Int) < 240 := by omega
              have q5 : ¬ (240 : Int) ≤ (x0 : Int) := by omega
              have T1 := Lib.hid t1
              clear t1
              have T2 := Lib.hid t2
              clear t2
              go_enter Tryd.func60, Tryd.ntmps60
              go_wp2_with (first | (go_at_call 82; refine (tail_yes (x1 : Int) _ T1.out).mono ?_; rintro e w' ⟨rfl, rfl⟩) | (go_at_call 82; refine (tail_yes (x2 : Int) _ T2.out).mono ?_; rintro e w' ⟨rfl, rfl⟩))
              go_region
              go_wp2
              go_ret2
              exact ⟨3, A5, rfl, by rw [HX.out]; rfl, by rw [HX.out]; exact HV.out, (Keep.refl _ _).drewN _⟩
            · rw [if_neg (by omega)] at hX
              have HX := Lib.hid hX
              have g1 : (2048 : Int) ≤ A5 := by omega
              have g2 : ¬ A5 < 55296 := by omega
              have g3 : ¬ (57343 : Int) < A5 := by omega
              clear hA1 hA2 hA3 hA4 hA5 hB1 hB2 hAV hX hV hc0 hc1 hc2 hc3 e0 e1 e2 e3
              have q0 : ¬ (x0 : Int) < 128 := by omega
              have q1 : (192 : Int) ≤ (x0 : Int) := by omega
              have q2 : ¬ (x0 : Int) < 224 := by omega
              have q3 : (224 : Int) ≤ (x0 : Int) := by omega
              have q4 : (x0 : Int) < 240 := by omega
              have q5 : ¬ (240 : Int) ≤ (x0 : Int) := by omega
              have T1 := Lib.hid t1
              clear t1
              have T2 := Lib.hid t2
              clear t2
              go_enter Tryd.func60, Tryd.ntmps60
              go_wp2_with (first | (go_at_call 82; refine (tail_yes (x1 : Int) _ T1.out).mono ?_; rintro e w' ⟨rfl, rfl⟩) | (go_at_call 82; refine (tail_yes (x2 : Int) _ T2.out).mono ?_; rintro e w' ⟨rfl, rfl⟩))
              go_region
              go_wp2
              go_ret2
              exact ⟨0, 0, rfl, by rw [HX.out]; rfl, by rw [HX.out]; rfl, (Keep.refl _ _).drewN _⟩
            · rw [if_pos (by omega)] at hX
              have HX := Lib.hid hX
              have g1 : (2048 : Int) ≤ A5 := by omega
              have g2 : ¬ A5 < 55296 := by omega
              have g3 : (57343 : Int) < A5 := by omega
              clear hA1 hA2 hA3 hA4 hA5 hB1 hB2 hAV hX hV hc0 hc1 hc2 hc3 e0 e1 e2 e3
              have q0 : ¬ (x0 : Int) < 128 := by omega
              have q1 : (192 : Int) ≤ (x0 : Int) := by omega
              have q2 : ¬ (x0 : Int) < 224 := by omega
              have q3 : (224 : Int) ≤ (x0 : Int) := by omega
              have q4 : (x0 : Int) < 240 := by omega
              have q5 : ¬ (240 : Int) ≤ (x0 : Int) := by omega
              have T1 := Lib.hid t1
              clear t1
              have T2 := Lib.hid t2
              clear t2
              go_enter Tryd.func60, Tryd.ntmps60
              go_wp2_with (first | (go_at_call 82; refine (tail_yes (x1 : Int) _ T1.out).mono ?_; rintro e w' ⟨rfl, rfl⟩) | (go_at_call 82; refine (tail_yes (x2 : Int) _ T2.out).mono ?_; rintro e w' ⟨rfl, rfl⟩))
              go_region
              go_wp2
              go_ret2
              exact ⟨3, A5, rfl, by rw [HX.out]; rfl, by rw [HX.out]; exact HV.out, (Keep.refl _ _).drewN _⟩
          · have HX := Lib.hid (Nm.ch0 h0 e0 e1 e2 e3 (by omega) (by omega) (by omega) (by omega))
            clear hc0 hc1 hc2 hc3 e0 e1 e2 e3
            have q0 : ¬ (x0 : Int) < 128 := by omega
            have q1 : (192 : Int) ≤ (x0 : Int) := by omega
            have q2 : ¬ (x0 : Int) < 224 := by omega
            have q3 : (224 : Int) ≤ (x0 : Int) := by omega
            have q4 : (x0 : Int) < 240 := by omega
            have q5 : ¬ (240 : Int) ≤ (x0 : Int) := by omega
            have T1 := Lib.hid t1
            clear t1
            have T2 := Lib.hid t2
            clear t2
            go_enter Tryd.func60, Tryd.ntmps60
            go_wp2_with (first | (go_at_call 82; refine (tail_yes (x1 : Int) _ T1.out).mono ?_; rintro e w' ⟨rfl, rfl⟩) | (go_at_call 82; refine (tail_no (x2 : Int) _ T2.out).mono ?_; rintro e w' ⟨rfl, rfl⟩))
            go_ret2
            exact ⟨0, 0, rfl, by rw [HX.out]; rfl, by rw [HX.out]; rfl, Keep.refl _ _⟩
        · have HX := Lib.hid (Nm.ch0 h0 e0 e1 e2 e3 (by omega) (by omega) (by omega) (by omega))
          clear hc0 hc1 hc2 hc3 e0 e1 e2 e3
          have q0 : ¬ (x0 : Int) < 128 := by omega
          have q1 : (192 : Int) ≤ (x0 : Int) := by omega
          have q2 : ¬ (x0 : Int) < 224 := by omega
          have q3 : (224 : Int) ≤ (x0 : Int) := by omega
          have q4 : (x0 : Int) < 240 := by omega
          have q5 : ¬ (240 : Int) ≤ (x0 : Int) := by omega
          have T1 := Lib.hid t1
          clear t1
          go_enter Tryd.func60, Tryd.ntmps60
          go_wp2_with (first | (go_at_call 82; refine (tail_no (x1 : Int) _ T1.out).mono ?_; rintro e w' ⟨rfl, rfl⟩))
          go_ret2
          exact ⟨0, 0, rfl, by rw [HX.out]; rfl, by rw [HX.out]; rfl, Keep.refl _ _⟩
      · have hnI : ¬ (3 : Int) ≤ (s.size : Int) := by omega
        have HX := Lib.hid (Nm.ch0 h0 e0 e1 e2 e3 (by omega) (by omega) (by omega) (by omega))
        clear hc0 hc1 hc2 hc3 e0 e1 e2 e3
        have q0 : ¬ (x0 : Int) < 128 := by omega
        have q1 : (192 : Int) ≤ (x0 : Int) := by omega
        have q2 : ¬ (x0 : Int) < 224 := by omega
        have q3 : (224 : Int) ≤ (x0 : Int) := by omega
        have q4 : (x0 : Int) < 240 := by omega
        have q5 : ¬ (240 : Int) ≤ (x0 : Int) := by omega
        go_enter Tryd.func60, Tryd.ntmps60
        go_wp2_with fail
        go_ret2
        exact ⟨0, 0, rfl, by rw [HX.out]; rfl, by rw [HX.out]; rfl, Keep.refl _ _⟩
    · have hj0 : 0 < s.size := by omega
      have i0 : s[0]'hj0 = c0 := by rw [hc0, Nm.get_at hj0]
      by_cases hn : 4 ≤ s.size
      · have hnI : (4 : Int) ≤ (s.size : Int) := by omega
        have hj1 : 1 < s.size := by omega
        have i1 : s[1]'hj1 = c1 := by rw [hc1, Nm.get_at hj1]
        have hj2 : 2 < s.size := by omega
        have i2 : s[2]'hj2 = c2 := by rw [hc2, Nm.get_at hj2]
        have hj3 : 3 < s.size := by omega
        have i3 : s[3]'hj3 = c3 := by rw [hc3, Nm.get_at hj3]
        by_cases t1 : 128 ≤ (x1 : Int) ∧ (x1 : Int) < 192
        · by_cases t2 : 128 ≤ (x2 : Int) ∧ (x2 : Int) < 192
          · by_cases t3 : 128 ≤ (x3 : Int) ∧ (x3 : Int) < 192
            · obtain ⟨V, hV⟩ : ∃ V : Nat, V + 240 * 262144 + 128 * 4096 + 128 * 64 + 128 = x0 * 262144 + x1 * 4096 + x2 * 64 + x3 := ⟨x0 * 262144 + x1 * 4096 + x2 * 64 + x3 - (240 * 262144 + 128 * 4096 + 128 * 64 + 128), by omega⟩
              have hX := Nm.ch4 h0 e0 e1 e2 e3 ha hb hn (by omega) (by omega) (by omega) hV
              obtain ⟨A1, hA1⟩ : ∃ A : Int, A = (x0 : Int) - 240 := ⟨_, rfl⟩
              obtain ⟨A2, hA2⟩ : ∃ A : Int, A = A1 * 262144 := ⟨_, rfl⟩
              obtain ⟨B1, hB1⟩ : ∃ A : Int, A = (x1 : Int) - 128 := ⟨_, rfl⟩
              obtain ⟨B2, hB2⟩ : ∃ A : Int, A = B1 * 4096 := ⟨_, rfl⟩
              obtain ⟨A3, hA3⟩ : ∃ A : Int, A = A2 + B2 := ⟨_, rfl⟩
              obtain ⟨C1, hC1⟩ : ∃ A : Int, A = (x2 : Int) - 128 := ⟨_, rfl⟩
              obtain ⟨C2, hC2⟩ : ∃ A : Int, A = C1 * 64 := ⟨_, rfl⟩
              obtain ⟨A4, hA4⟩ : ∃ A : Int, A = A3 + C2 := ⟨_, rfl⟩
              obtain ⟨A5, hA5⟩ : ∃ A : Int, A = A4 + (x3 : Int) := ⟨_, rfl⟩
              obtain ⟨A6, hA6⟩ : ∃ A : Int, A = A5 - 128 := ⟨_, rfl⟩
              have w1 : IntKind.i64.wrap ((x0 : Int) - 240) = A1 := by rw [IntWalk.i64_in _ (by omega)]; omega
              have w2 : IntKind.i64.wrap (A1 * 262144) = A2 := by rw [IntWalk.i64_in _ (by omega)]; omega
              have w3 : IntKind.i64.wrap ((x1 : Int) - 128) = B1 := by rw [IntWalk.i64_in _ (by omega)]; omega
              have w4 : IntKind.i64.wrap (B1 * 4096) = B2 := by rw [IntWalk.i64_in _ (by omega)]; omega
              have w5 : IntKind.i64.wrap (A2 + B2) = A3 := by rw [IntWalk.i64_in _ (by omega)]; omega
              have w6 : IntKind.i64.wrap ((x2 : Int) - 128) = C1 := by rw [IntWalk.i64_in _ (by omega)]; omega
              have w7 : IntKind.i64.wrap (C1 * 64) = C2 := by rw [IntWalk.i64_in _ (by omega)]; omega
              have w8 : IntKind.i64.wrap (A3 + C2) = A4 := by rw [IntWalk.i64_in _ (by omega)]; omega
              have w9 : IntKind.i64.wrap (A4 + (x3 : Int)) = A5 := by rw [IntWalk.i64_in _ (by omega)]; omega
              have w10 : IntKind.i64.wrap (A5 - 128) = A6 := by rw [IntWalk.i64_in _ (by omega)]; omega
              have hAV : A6 = (V : Int) := by omega
              have HV := Lib.hid hAV
              have hcs : V < 65536 ∨ (65536 ≤ V ∧ V ≤ 1114111) ∨ 1114111 < V := by omega
              rcases hcs with hg | ⟨hg, hg2⟩ | hg
              · rw [if_neg (by omega)] at hX
                have HX := Lib.hid hX
                have g1 : ¬ (65536 : Int) ≤ A6 := by omega
                clear hA1 hA2 hA3 hA4 hA5 hA6 hB1 hB2 hC1 hC2 hAV hX hV hc0 hc1 hc2 hc3 e0 e1 e2 e3
                have q0 : ¬ (x0 : Int) < 128 := by omega
                have q1 : (192 : Int) ≤ (x0 : Int) := by omega
                have q2 : ¬ (x0 : Int) < 224 := by omega
                have q3 : (224 : Int) ≤ (x0 : Int) := by omega
                have q4 : ¬ (x0 : Int) < 240 := by omega
                have q5 : (240 : Int) ≤ (x0 : Int) := by omega
                have q6 : (x0 : Int) < 248 := by omega
                have T1 := Lib.hid t1
                clear t1
                have T2 := Lib.hid t2
                clear t2
                have T3 := Lib.hid t3
                clear t3
                go_enter Tryd.func60, Tryd.ntmps60
                go_wp2_with (first | (go_at_call 82; refine (tail_yes (x1 : Int) _ T1.out).mono ?_; rintro e w' ⟨rfl, rfl⟩) | (go_at_call 82; refine (tail_yes (x2 : Int) _ T2.out).mono ?_; rintro e w' ⟨rfl, rfl⟩) | (go_at_call 82; refine (tail_yes (x3 : Int) _ T3.out).mono ?_; rintro e w' ⟨rfl, rfl⟩))
                go_region
                go_wp2
                go_ret2
                exact ⟨0, 0, rfl, by rw [HX.out]; rfl, by rw [HX.out]; rfl, (Keep.refl _ _).drewN _⟩
              · rw [if_pos (by omega)] at hX
                have HX := Lib.hid hX
                have g1 : (65536 : Int) ≤ A6 := by omega
                have g2 : A6 ≤ 1114111 := by omega
                clear hA1 hA2 hA3 hA4 hA5 hA6 hB1 hB2 hC1 hC2 hAV hX hV hc0 hc1 hc2 hc3 e0 e1 e2 e3
                have q0 : ¬ (x0 : Int) < 128 := by omega
                have q1 : (192 : Int) ≤ (x0 : Int) := by omega
                have q2 : ¬ (x0 : Int) < 224 := by omega
                have q3 : (224 : Int) ≤ (x0 : Int) := by omega
                have q4 : ¬ (x0 : Int) < 240 := by omega
                have q5 : (240 : Int) ≤ (x0 : Int) := by omega
                have q6 : (x0 : Int) < 248 := by omega
                have T1 := Lib.hid t1
                clear t1
                have T2 := Lib.hid t2
                clear t2
                have T3 := Lib.hid t3
                clear t3
                go_enter Tryd.func60, Tryd.ntmps60
                go_wp2_with (first | (go_at_call 82; refine (tail_yes (x1 : Int) _ T1.out).mono ?_; rintro e w' ⟨rfl, rfl⟩) | (go_at_call 82; refine (tail_yes (x2 : Int) _ T2.out).mono ?_; rintro e w' ⟨rfl, rfl⟩) | (go_at_call 82; refine (tail_yes (x3 : Int) _ T3.out).mono ?_; rintro e w' ⟨rfl, rfl⟩))
                go_region
                go_wp2
                go_ret2
                exact ⟨4, A6, rfl, by rw [HX.out]; rfl, by rw [HX.out]; exact HV.out, (Keep.refl _ _).drewN _⟩
              · rw [if_neg (by omega)] at hX
                have HX := Lib.hid hX
                have g1 : (65536 : Int) ≤ A6 := by omega
                have g2 : ¬ A6 ≤ 1114111 := by omega
                clear hA1 hA2 hA3 hA4 hA5 hA6 hB1 hB2 hC1 hC2 hAV hX hV hc0 hc1 hc2 hc3 e0 e1 e2 e3
                have q0 : ¬ (x0 : Int) < 128 := by omega
                have q1 : (192 : Int) ≤ (x0 : Int) := by omega
                have q2 : ¬ (x0 : Int) < 224 := by omega
                have q3 : (224 : Int) ≤ (x0 : Int) := by omega
                have q4 : ¬ (x0 : Int) < 240 := by omega
                have q5 : (240 : Int) ≤ (x0 : Int) := by omega
                have q6 : (x0 : Int) < 248 := by omega
                have T1 := Lib.hid t1
                clear t1
                have T2 := Lib.hid t2
                clear t2
                have T3 := Lib.hid t3
                clear t3
                go_enter Tryd.func60, Tryd.ntmps60
                go_wp2_with (first | (go_at_call 82; refine (tail_yes (x1 : Int) _ T1.out).mono ?_; rintro e w' ⟨rfl, rfl⟩) | (go_at_call 82; refine (tail_yes (x2 : Int) _ T2.out).mono ?_; rintro e w' ⟨rfl, rfl⟩) | (go_at_call 82; refine (tail_yes (x3 : Int) _ T3.out).mono ?_; rintro e w' ⟨rfl, rfl⟩))
                go_region
                go_wp2
                go_ret2
                exact ⟨0, 0, rfl, by rw [HX.out]; rfl, by rw [HX.out]; rfl, (Keep.refl _ _).drewN _⟩
            · have HX := Lib.hid (Nm.ch0 h0 e0 e1 e2 e3 (by omega) (by omega) (by omega) (by omega))
              clear hc0 hc1 hc2 hc3 e0 e1 e2 e3
              have q0 : ¬ (x0 : Int) < 128 := by omega
              have q1 : (192 : Int) ≤ (x0 : Int) := by omega
              have q2 : ¬ (x0 : Int) < 224 := by omega
              have q3 : (224 : Int) ≤ (x0 : Int) := by omega
              have q4 : ¬ (x0 : Int) < 240 := by omega
              have q5 : (240 : Int) ≤ (x0 : Int) := by omega
              have q6 : (x0 : Int) < 248 := by omega
              have T1 := Lib.hid t1
              clear t1
              have T2 := Lib.hid t2
              clear t2
              have T3 := Lib.hid t3
              clear t3
              go_enter Tryd.func60, Tryd.ntmps60
              go_wp2_with (first | (go_at_call 82; refine (tail_yes (x1 : Int) _ T1.out).mono ?_; rintro e w' ⟨rfl, rfl⟩) | (go_at_call 82; refine (tail_yes (x2 : Int) _ T2.out).mono ?_; rintro e w' ⟨rfl, rfl⟩) | (go_at_call 82; refine (tail_no (x3 : Int) _ T3.out).mono ?_; rintro e w' ⟨rfl, rfl⟩))
              go_ret2
              exact ⟨0, 0, rfl, by rw [HX.out]; rfl, by rw [HX.out]; rfl, Keep.refl _ _⟩
          · have HX := Lib.hid (Nm.ch0 h0 e0 e1 e2 e3 (by omega) (by omega) (by omega) (by omega))
            clear hc0 hc1 hc2 hc3 e0 e1 e2 e3
            have q0 : ¬ (x0 : Int) < 128 := by omega
            have q1 : (192 : Int) ≤ (x0 : Int) := by omega
            have q2 : ¬ (x0 : Int) < 224 := by omega
            have q3 : (224 : Int) ≤ (x0 : Int) := by omega
            have q4 : ¬ (x0 : Int) < 240 := by omega
            have q5 : (240 : Int) ≤ (x0 : Int) := by omega
            have q6 : (x0 : Int) < 248 := by omega
            have T1 := Lib.hid t1
            clear t1
            have T2 := Lib.hid t2
            clear t2
            go_enter Tryd.func60, Tryd.ntmps60
            go_wp2_with (first | (go_at_call 82; refine (tail_yes (x1 : Int) _ T1.out).mono ?_; rintro e w' ⟨rfl, rfl⟩) | (go_at_call 82; refine (tail_no (x2 : Int) _ T2.out).mono ?_; rintro e w' ⟨rfl, rfl⟩))
            go_ret2
            exact ⟨0, 0, rfl, by rw [HX.out]; rfl, by rw [HX.out]; rfl, Keep.refl _ _⟩
        · have HX := Lib.hid (Nm.ch0 h0 e0 e1 e2 e3 (by omega) (by omega) (by omega) (by omega))
          clear hc0 hc1 hc2 hc3 e0 e1 e2 e3
          have q0 : ¬ (x0 : Int) < 128 := by omega
          have q1 : (192 : Int) ≤ (x0 : Int) := by omega
          have q2 : ¬ (x0 : Int) < 224 := by omega
          have q3 : (224 : Int) ≤ (x0 : Int) := by omega
          have q4 : ¬ (x0 : Int) < 240 := by omega
          have q5 : (240 : Int) ≤ (x0 : Int) := by omega
          have q6 : (x0 : Int) < 248 := by omega
          have T1 := Lib.hid t1
          clear t1
          go_enter Tryd.func60, Tryd.ntmps60
          go_wp2_with (first | (go_at_call 82; refine (tail_no (x1 : Int) _ T1.out).mono ?_; rintro e w' ⟨rfl, rfl⟩))
          go_ret2
          exact ⟨0, 0, rfl, by rw [HX.out]; rfl, by rw [HX.out]; rfl, Keep.refl _ _⟩
      · have hnI : ¬ (4 : Int) ≤ (s.size : Int) := by omega
        have HX := Lib.hid (Nm.ch0 h0 e0 e1 e2 e3 (by omega) (by omega) (by omega) (by omega))
        clear hc0 hc1 hc2 hc3 e0 e1 e2 e3
        have q0 : ¬ (x0 : Int) < 128 := by omega
        have q1 : (192 : Int) ≤ (x0 : Int) := by omega
        have q2 : ¬ (x0 : Int) < 224 := by omega
        have q3 : (224 : Int) ≤ (x0 : Int) := by omega
        have q4 : ¬ (x0 : Int) < 240 := by omega
        have q5 : (240 : Int) ≤ (x0 : Int) := by omega
        have q6 : (x0 : Int) < 248 := by omega
        go_enter Tryd.func60, Tryd.ntmps60
        go_wp2_with fail
        go_ret2
        exact ⟨0, 0, rfl, by rw [HX.out]; rfl, by rw [HX.out]; rfl, Keep.refl _ _⟩
    · have hj0 : 0 < s.size := by omega
      have i0 : s[0]'hj0 = c0 := by rw [hc0, Nm.get_at hj0]
      have HX := Lib.hid (Nm.ch0 h0 e0 e1 e2 e3 (by omega) (by omega) (by omega) (by omega))
      clear hc0 hc1 hc2 hc3 e0 e1 e2 e3
      have q0 : ¬ (x0 : Int) < 128 := by omega
      have q1 : (192 : Int) ≤ (x0 : Int) := by omega
      have q2 : ¬ (x0 : Int) < 224 := by omega
      have q3 : (224 : Int) ≤ (x0 : Int) := by omega
      have q4 : ¬ (x0 : Int) < 240 := by omega
      have q5 : (240 : Int) ≤ (x0 : Int) := by omega
      have q6 : ¬ (x0 : Int) < 248 := by omega
      go_enter Tryd.func60, Tryd.ntmps60
      go_wp2_with fail
      go_ret2
      exact ⟨0, 0, rfl, by rw [HX.out]; rfl, by rw [HX.out]; rfl, Keep.refl _ _⟩
end Go.Proofs.YtbmbjedpeepnfaaDoor
