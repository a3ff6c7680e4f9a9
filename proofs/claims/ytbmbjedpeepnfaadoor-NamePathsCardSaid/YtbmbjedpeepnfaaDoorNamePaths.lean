/-
  NamePaths: a path with a name more is a path, as long as it has room: the law returns true, for any path, any text. No condition.
-/
import Derived.Test.YtbmbjedpeepnfaaDoorNmM
import Derived.Test.YtbmbjedpeepnfaaDoorNmL
import Derived.Test.YtbmbjedpeepnfaaDoorNmF
import Derived.Test.YtbmbjedpeepnfaaDoorArith
namespace Go.Proofs.YtbmbjedpeepnfaaDoor
open Go.RowKit

theorem ext300p (s : ByteArray) : (s.extract 0 (min (s.size : Int) 300).toNat).size ≤ 300 := by
  rw [ByteArray.size_extract]; omega
theorem ext40 (s : ByteArray) : (s.extract 0 (min (s.size : Int) 40).toNat).size ≤ 40 := by
  rw [ByteArray.size_extract]; omega

theorem flat_step (u : List UInt8) (k : Nat) (hk : k < u.length) : (u.take (k + 1)).all (fun x => !(x == 47)) = ((u.take k).all (fun x => !(x == 47)) && !(u[k] == 47)) := by
  rw [List.take_add_one, List.getElem?_eq_getElem hk, List.all_append]; simp

theorem flat_all {u : List UInt8} (h : u.all (fun x => !(x == 47)) = true) : 47 ∉ u := by
  intro hm
  have := List.all_eq_true.1 h 47 hm
  simp at this

set_option maxRecDepth 100000 in
set_option maxHeartbeats 3200000 in
theorem namePaths_walk (s t : ByteArray) (w : World) (T : Tabs w) :
    Calls Tryd.prog 7 #[.string s, .string t] w fun e w' => e = .returned (.bool true) ∧ Keep [] w w' := by
  obtain ⟨X, hX⟩ : ∃ X, X = s.extract 0 (min (s.size : Int) 300).toNat := ⟨_, rfl⟩
  have hX1 : X.size ≤ 300 := by rw [hX]; exact ext300p s
  have HX := Lib.hid hX
  obtain ⟨U, hU⟩ : ∃ U, U = t.extract 0 (min (t.size : Int) 40).toNat := ⟨_, rfl⟩
  have hU1 : U.size ≤ 40 := by rw [hU]; exact ext40 t
  have HU := Lib.hid hU
  have HT := Lib.hid T
  clear hX hU T
  go_enter Tryd.func7, Tryd.ntmps7
  go_wp2_with fail
  refine (shown_any w HT.out).mono ?_
  rintro e w1 ⟨rfl, k1⟩
  have hsX : Nm.split X = none ∨ ∃ a, Nm.split X = some a := by cases Nm.split X <;> simp
  go_wp2_with fail
  rw [← HX.out, ← HU.out]
  clear HX HU
  rcases hsX with hsX | ⟨b, hsX⟩
  · have HA := Lib.hid hsX
    clear hsX
    refine (split_any X w1 (by omega) (HT.out.step k1)).mono ?_
    intro e w2 o
    obtain ⟨aa, rfl, k2⟩ := o.no HA.out
    have K := k1.trans k2 (by simp)
    clear k1 k2 o
    go_wp2
    go_ret
    exact ⟨rfl, K⟩
  · obtain ⟨P, hP⟩ : ∃ P, P = Nm.jtx (b ++ [U]) := ⟨_, rfl⟩
    have hXb := (Nm.split_some hsX).1
    have hP1 : b ≠ [] → X ++ ⟨#[47]⟩ ++ U = P := fun h => by rw [hP, Nm.jtx_snoc, if_neg h, ← hXb]; rfl
    have hP0 : b = [] → (⟨#[47]⟩ : ByteArray) ++ U = P := fun h => by rw [hP, Nm.jtx_snoc, if_pos h]; rfl
    have hPs : P.size ≤ 400 := by
      by_cases h : b = []
      · rw [← hP0 h, ByteArray.size_append]; have : (⟨#[47]⟩ : ByteArray).size = 1 := rfl; omega
      · rw [← hP1 h, ByteArray.size_append, ByteArray.size_append]; have : (⟨#[47]⟩ : ByteArray).size = 1 := rfl; omega
    have HA := Lib.hid hsX
    have HP := Lib.hid hP
    have HP1 := Lib.hid hP1
    have HP0 := Lib.hid hP0
    clear hsX hP hP1 hP0 hXb
    refine (split_any X w1 (by omega) (HT.out.step k1)).mono ?_
    intro e w2 o
    have hlb := o.len HA.out
    obtain ⟨aa, rfl, sa, k2⟩ := o.yes HA.out
    have K2 := k1.trans k2 (by simp)
    clear k1 k2 o sa
    have hs1 : ¬ 9223372036854775807 < X.size + 1 := by omega
    have hs2 : ¬ 9223372036854775807 < X.size + 1 + U.size := by omega
    have hs3 : ¬ 9223372036854775807 < 1 + U.size := by omega
    by_cases hb : b = []
    · have hbl : ((b.length : Nat) : Int) = 0 := by rw [hb]; rfl
      have HB := Lib.hid hb
      clear hb
      go_wp2_with fail
      rw [HP0.out HB.out]
      clear hs1 hs2 hs3 HP0 HP1
      by_cases hU0 : U.size = 0
      · have hUe : U = ⟨#[]⟩ := by
          have : U.data.size = 0 := hU0
          cases U; simp at this; rw [this]
        subst hUe
        have h3 := Nm.split_slash HA.out ⟨#[]⟩ rfl
        rw [← HP.out, if_pos HB.out] at h3
        have H3 := Lib.hid h3
        clear h3
        refine (split_any P w2 (by omega) (HT.out.step K2)).mono ?_
        intro e w3 o
        obtain ⟨ac, rfl, sc, k3⟩ := o.yes H3.out
        have K3 := K2.trans k3 (by simp)
        clear o
        go_wp2
        go_ret
        exact ⟨rfl, K3⟩
      · have hUne : U.toList.isEmpty = false := by
          rw [Lib.toList_data, List.isEmpty_eq_false_iff]
          intro h
          have := Nm.data_size U
          rw [h] at this
          exact hU0 this.symm
        have hUl := Nm.data_size U
        have HUL := Lib.hid hUl
        clear hUl
        refine (split_any P w2 (by omega) (HT.out.step K2)).mono ?_
        rintro e w3 ⟨l2, ok2, a2, rfl, h2, s2, hl2, k3⟩
        have K3 := K2.trans k3 (by simp)
        have H2 := Lib.hid h2
        have S2 := Lib.hid s2
        clear h2 s2 K2 k3
        go_wp2_with fail
        go_loopw [11, 12] (fun f i wr => ∃ (k : Nat) (F : Bool), i = .int .i64 k ∧ k ≤ U.size ∧ f = .bool F ∧ Hid (F = (U.data.toList.take k).all (fun x => !(x == 47))) ∧ wr = w3) (fun f i _ => U.size - (intOf i).toNat)
        case atStart => exact ⟨0, true, rfl, Nat.zero_le _, rfl, Lib.hid rfl, rfl⟩
        case round =>
          obtain ⟨k, F, rfl, hk, rfl, hF, rfl⟩ := hrel
          by_cases hlt : k < U.size
          · have hkl : k < U.data.toList.length := by rw [HUL.out]; exact hlt
            have hst := flat_step U.data.toList k hkl
            rw [← hF.out] at hst
            have HST := Lib.hid hst
            obtain ⟨b0, hb0⟩ : ∃ b0, b0 = U.data.toList[k] := ⟨_, rfl⟩
            have hbk : U[k]'hlt = b0 := by rw [hb0]; simp; rfl
            rw [← hb0] at HST
            clear hst hb0 hkl
            cases F with
            | false =>
              go_wp2
              go_roundw
              case rel => exact ⟨k + 1, false, by go_num, by omega, rfl, Lib.hid (by rw [HST.out]; rfl), (by first | rfl | trivial)⟩
              case measure => simp [intOf]; omega
            | true =>
              by_cases h47 : b0 = 47
              · subst h47
                go_wp2
                go_roundw
                case rel => exact ⟨k + 1, false, by go_num, by omega, rfl, Lib.hid (by rw [HST.out]; rfl), (by first | rfl | trivial)⟩
                case measure => simp [intOf]; omega
              · have hbn : ((b0.toNat : Int) != 47) = true := by
                  rw [bne_iff_ne]
                  intro h
                  exact h47 (UInt8.toNat.inj (by have : (47 : UInt8).toNat = 47 := rfl; omega))
                have hx : (b0 == 47) = false := by rw [beq_eq_false_iff_ne]; exact h47
                have HXX := Lib.hid hx
                clear hx h47
                go_wp2
                go_roundw
                case rel => exact ⟨k + 1, true, by go_num, by omega, by simp, Lib.hid (by rw [HST.out, HXX.out]; rfl), (by first | rfl | trivial)⟩
                case measure => simp [intOf]; omega
          · cases F with
            | false =>
              go_wp2
              go_ret
              exact ⟨rfl, K3⟩
            | true =>
              have hfl : 47 ∉ U.data.toList := flat_all (by
                have := hF.out
                rw [List.take_of_length_le (by rw [HUL.out]; omega)] at this
                exact this.symm)
              have hsp := Nm.split_snoc HA.out U hfl (by omega)
              rw [← HP.out] at hsp
              have HSP := Lib.hid hsp
              have cR := right_any U wr (by omega) (HT.out.step K3)
              obtain ⟨R, hR⟩ : ∃ R, R = Nm.right U := ⟨_, rfl⟩
              rw [← hR] at cR
              have HR := Lib.hid hR
              clear hfl hsp hF hR
              by_cases hgood : R = true ∧ P.size ≤ 200
              · obtain ⟨rfl, h200⟩ := hgood
                have h200I : (P.size : Int) ≤ 200 := by omega
                have hs4 : Nm.split P = some (b ++ [U]) := by rw [HSP.out, if_pos ⟨HR.out.symm, h200⟩]
                have hok : ok2 = true ∧ l2 = b ++ [U] := by
                  rcases H2.out with ⟨h, h'⟩ | ⟨_, h', _⟩
                  · rw [hs4] at h'; exact ⟨h, (Option.some.inj h').symm⟩
                  · rw [hs4] at h'; cases h'
                obtain ⟨rfl, hl2e⟩ := hok
                have hll : l2.length = b.length + 1 := by rw [hl2e]; simp
                have hget : l2[b.length]? = some U := by rw [hl2e]; simp
                have hbe1 : Nm.below P X = true := by
                  rw [Nm.below_of hs4 HA.out]; simp
                have hbe2 : Nm.below X P = false := by
                  rw [Nm.below_of HA.out hs4]; simp; intro h; omega
                rcases S2.out with ⟨_, h⟩ | ⟨g, rfl, B, _⟩
                · rw [hl2e] at h; simp at h
                have hB : ∀ w', Keep [] wr w' → w'.cell? ⟨g, 0, none⟩ = some (.string U) := fun w' k => by
                  have e := (B.keep k (by simp)).cell b.length
                  rw [List.getElem?_map, hget] at e
                  simpa [HB.out] using e
                have HB2 := Lib.hid hB
                have hadd : IntKind.i64.wrap ((b.length : Int) + 1) = ((b.length + 1 : Nat) : Int) := by rw [IntWalk.i64_in _ (by omega)]; omega
                have HB1 := Lib.hid hbe1
                have HBE2 := Lib.hid hbe2
                have hlt2 : b.length < l2.length := by omega
                have hll2 : ((l2.length : Nat) : Int) = ((b.length + 1 : Nat) : Int) := by omega
                clear hs4 hl2e hget hbe1 hbe2 hB B hll H2 S2 HSP
                go_wp2_with fail
                refine cR.mono ?_
                rintro e w5 ⟨rfl, k5⟩
                have hc5 := HB2.out w5 k5
                have K5 := K3.trans k5 (by simp)
                go_wp2_with fail
                refine (below_any P X w5 (by omega) (by omega) (HT.out.step K5)).mono ?_
                rintro e w6 ⟨rfl, k6⟩
                rw [HB1.out]
                have K6 := K5.trans k6 (by simp)
                go_wp2_with fail
                refine (below_any X P w6 (by omega) (by omega) (HT.out.step K6)).mono ?_
                rintro e w7 ⟨rfl, k7⟩
                rw [HBE2.out]
                go_wp2
                go_ret
                exact ⟨by simp, K6.trans k7 (by simp)⟩
              · have hs4 : Nm.split P = none := by rw [HSP.out, if_neg (fun h => hgood ⟨by rw [HR.out]; exact h.1, h.2⟩)]
                have hok : ok2 = false := by
                  rcases H2.out with ⟨_, h'⟩ | ⟨h, _⟩
                  · rw [hs4] at h'; cases h'
                  · exact h
                subst hok
                clear hs4 H2 S2 HSP
                cases R with
                | false =>
                  go_wp2_with fail
                  refine cR.mono ?_
                  rintro e w5 ⟨rfl, k5⟩
                  go_wp2
                  go_ret
                  exact ⟨by simp, K3.trans k5 (by simp)⟩
                | true =>
                  have h200I : ¬ (P.size : Int) ≤ 200 := by
                    have : ¬ P.size ≤ 200 := fun h => hgood ⟨rfl, h⟩
                    omega
                  clear hgood
                  go_wp2_with fail
                  refine cR.mono ?_
                  rintro e w5 ⟨rfl, k5⟩
                  go_wp2
                  go_ret
                  exact ⟨by simp, K3.trans k5 (by simp)⟩
    · have hbl : ¬ ((b.length : Nat) : Int) = 0 := by
        have : b.length ≠ 0 := by simpa using hb
        omega
      have HB := Lib.hid hb
      clear hb
      go_wp2_with fail
      rw [HP1.out HB.out]
      clear hs1 hs2 hs3 HP0 HP1
      by_cases hU0 : U.size = 0
      · have hUe : U = ⟨#[]⟩ := by
          have : U.data.size = 0 := hU0
          cases U; simp at this; rw [this]
        subst hUe
        have h3 := Nm.split_slash HA.out ⟨#[]⟩ rfl
        rw [← HP.out, if_neg HB.out] at h3
        have H3 := Lib.hid h3
        clear h3
        refine (split_any P w2 (by omega) (HT.out.step K2)).mono ?_
        intro e w3 o
        obtain ⟨ac, rfl, k3⟩ := o.no H3.out
        have K3 := K2.trans k3 (by simp)
        clear o
        go_wp2
        go_ret
        exact ⟨rfl, K3⟩
      · have hUne : U.toList.isEmpty = false := by
          rw [Lib.toList_data, List.isEmpty_eq_false_iff]
          intro h
          have := Nm.data_size U
          rw [h] at this
          exact hU0 this.symm
        have hUl := Nm.data_size U
        have HUL := Lib.hid hUl
        clear hUl
        refine (split_any P w2 (by omega) (HT.out.step K2)).mono ?_
        rintro e w3 ⟨l2, ok2, a2, rfl, h2, s2, hl2, k3⟩
        have K3 := K2.trans k3 (by simp)
        have H2 := Lib.hid h2
        have S2 := Lib.hid s2
        clear h2 s2 K2 k3
        go_wp2_with fail
        go_loopw [11, 12] (fun f i wr => ∃ (k : Nat) (F : Bool), i = .int .i64 k ∧ k ≤ U.size ∧ f = .bool F ∧ Hid (F = (U.data.toList.take k).all (fun x => !(x == 47))) ∧ wr = w3) (fun f i _ => U.size - (intOf i).toNat)
        case atStart => exact ⟨0, true, rfl, Nat.zero_le _, rfl, Lib.hid rfl, rfl⟩
        case round =>
          obtain ⟨k, F, rfl, hk, rfl, hF, rfl⟩ := hrel
          by_cases hlt : k < U.size
          · have hkl : k < U.data.toList.length := by rw [HUL.out]; exact hlt
            have hst := flat_step U.data.toList k hkl
            rw [← hF.out] at hst
            have HST := Lib.hid hst
            obtain ⟨b0, hb0⟩ : ∃ b0, b0 = U.data.toList[k] := ⟨_, rfl⟩
            have hbk : U[k]'hlt = b0 := by rw [hb0]; simp; rfl
            rw [← hb0] at HST
            clear hst hb0 hkl
            cases F with
            | false =>
              go_wp2
              go_roundw
              case rel => exact ⟨k + 1, false, by go_num, by omega, rfl, Lib.hid (by rw [HST.out]; rfl), (by first | rfl | trivial)⟩
              case measure => simp [intOf]; omega
            | true =>
              by_cases h47 : b0 = 47
              · subst h47
                go_wp2
                go_roundw
                case rel => exact ⟨k + 1, false, by go_num, by omega, rfl, Lib.hid (by rw [HST.out]; rfl), (by first | rfl | trivial)⟩
                case measure => simp [intOf]; omega
              · have hbn : ((b0.toNat : Int) != 47) = true := by
                  rw [bne_iff_ne]
                  intro h
                  exact h47 (UInt8.toNat.inj (by have : (47 : UInt8).toNat = 47 := rfl; omega))
                have hx : (b0 == 47) = false := by rw [beq_eq_false_iff_ne]; exact h47
                have HXX := Lib.hid hx
                clear hx h47
                go_wp2
                go_roundw
                case rel => exact ⟨k + 1, true, by go_num, by omega, by simp, Lib.hid (by rw [HST.out, HXX.out]; rfl), (by first | rfl | trivial)⟩
                case measure => simp [intOf]; omega
          · cases F with
            | false =>
              go_wp2
              go_ret
              exact ⟨rfl, K3⟩
            | true =>
              have hfl : 47 ∉ U.data.toList := flat_all (by
                have := hF.out
                rw [List.take_of_length_le (by rw [HUL.out]; omega)] at this
                exact this.symm)
              have hsp := Nm.split_snoc HA.out U hfl (by omega)
              rw [← HP.out] at hsp
              have HSP := Lib.hid hsp
              have cR := right_any U wr (by omega) (HT.out.step K3)
              obtain ⟨R, hR⟩ : ∃ R, R = Nm.right U := ⟨_, rfl⟩
              rw [← hR] at cR
              have HR := Lib.hid hR
              clear hfl hsp hF hR
              by_cases hgood : R = true ∧ P.size ≤ 200
              · obtain ⟨rfl, h200⟩ := hgood
                have h200I : (P.size : Int) ≤ 200 := by omega
                have hs4 : Nm.split P = some (b ++ [U]) := by rw [HSP.out, if_pos ⟨HR.out.symm, h200⟩]
                have hok : ok2 = true ∧ l2 = b ++ [U] := by
                  rcases H2.out with ⟨h, h'⟩ | ⟨_, h', _⟩
                  · rw [hs4] at h'; exact ⟨h, (Option.some.inj h').symm⟩
                  · rw [hs4] at h'; cases h'
                obtain ⟨rfl, hl2e⟩ := hok
                have hll : l2.length = b.length + 1 := by rw [hl2e]; simp
                have hget : l2[b.length]? = some U := by rw [hl2e]; simp
                have hbe1 : Nm.below P X = true := by
                  rw [Nm.below_of hs4 HA.out]; simp
                have hbe2 : Nm.below X P = false := by
                  rw [Nm.below_of HA.out hs4]; simp; intro h; omega
                rcases S2.out with ⟨_, h⟩ | ⟨g, rfl, B, _⟩
                · rw [hl2e] at h; simp at h
                have hB : ∀ w', Keep [] wr w' → w'.cell? ⟨g, b.length, none⟩ = some (.string U) := fun w' k => by
                  have e := (B.keep k (by simp)).cell b.length
                  rw [List.getElem?_map, hget] at e
                  exact e
                have HB2 := Lib.hid hB
                have hadd : IntKind.i64.wrap ((b.length : Int) + 1) = ((b.length + 1 : Nat) : Int) := by rw [IntWalk.i64_in _ (by omega)]; omega
                have HB1 := Lib.hid hbe1
                have HBE2 := Lib.hid hbe2
                have hlt2 : b.length < l2.length := by omega
                have hll2 : ((l2.length : Nat) : Int) = ((b.length + 1 : Nat) : Int) := by omega
                clear hs4 hl2e hget hbe1 hbe2 hB B hll H2 S2 HSP
                go_wp2_with fail
                refine cR.mono ?_
                rintro e w5 ⟨rfl, k5⟩
                have hc5 := HB2.out w5 k5
                have K5 := K3.trans k5 (by simp)
                go_wp2_with fail
                refine (below_any P X w5 (by omega) (by omega) (HT.out.step K5)).mono ?_
                rintro e w6 ⟨rfl, k6⟩
                rw [HB1.out]
                have K6 := K5.trans k6 (by simp)
                go_wp2_with fail
                refine (below_any X P w6 (by omega) (by omega) (HT.out.step K6)).mono ?_
                rintro e w7 ⟨rfl, k7⟩
                rw [HBE2.out]
                go_wp2
                go_ret
                exact ⟨by simp, K6.trans k7 (by simp)⟩
              · have hs4 : Nm.split P = none := by rw [HSP.out, if_neg (fun h => hgood ⟨by rw [HR.out]; exact h.1, h.2⟩)]
                have hok : ok2 = false := by
                  rcases H2.out with ⟨_, h'⟩ | ⟨h, _⟩
                  · rw [hs4] at h'; cases h'
                  · exact h
                subst hok
                clear hs4 H2 S2 HSP
                cases R with
                | false =>
                  go_wp2_with fail
                  refine cR.mono ?_
                  rintro e w5 ⟨rfl, k5⟩
                  go_wp2
                  go_ret
                  exact ⟨by simp, K3.trans k5 (by simp)⟩
                | true =>
                  have h200I : ¬ (P.size : Int) ≤ 200 := by
                    have : ¬ P.size ≤ 200 := fun h => hgood ⟨rfl, h⟩
                    omega
                  clear hgood
                  go_wp2_with fail
                  refine cR.mono ?_
                  rintro e w5 ⟨rfl, k5⟩
                  go_wp2
                  go_ret
                  exact ⟨by simp, K3.trans k5 (by simp)⟩


theorem namePaths_readable : Tryd.f7.params.toList.all (fun t => Tryd.prog.readableRec t && decide (t < Tryd.prog.types.size)) = true := by kernel_rfl

open Go.ChangeShapes Go.WideShapes Go.ChangeAt in
set_option maxRecDepth 100000 in
theorem namePaths_contract (H : Type) (enc : TypeId × Value → H) (W : World) (base : Nat) (args : Array Value) (ds gs : List (DataW H)) (before : List MemPlace)
    (hval : ∀ (j : Nat) t v, Tryd.f7.params[j]? = some t → args[j]? = some v → Value.okWide Tryd.prog W .any base t v)
    (hW : DataW.Whole enc Tryd.prog Tryd.f7.params.toList Rows.namePathsSpec.vars false W args.toList ds gs before) (hL : laidMetH Tryd.prog Rows.namePathsRow.laid W) (hSh : W.ShapedOpen Tryd.prog) (hS : (DataW.weightsEach Tryd.prog (Tryd.f7.params.toList ++ Rows.namePathsSpec.plain.varTypes Tryd.prog) (ds ++ gs)).all (· ≤ reachBytes) = true) :
    Calls Tryd.prog 7 args W fun e W' => ∃ v, e = .returned v ∧ Rows.namePathsSpec.post enc Tryd.prog Tryd.f7 false true false false W args v W' := by
  have hW' := hW
  obtain ⟨p, q, hA0, hV, rfl, _, _⟩ := hW
  have hA : DataW.TrodAll enc Tryd.prog W 0 (fun _ => true) true Tryd.f7.params.toList args.toList ds p := hA0
  rw [Tryd.params7] at hA hval
  obtain ⟨v0, v1, d0, d1, p0, p1, rfl, rfl, rfl, h0, h1⟩ := trodAll_two hA
  obtain ⟨rfl, rfl⟩ := trodVars_none hV
  obtain ⟨s, rfl, rfl, rfl, _⟩ := Go.ChangeMaps.open_string Tryd.underlying9 (hval 0 9 v0 rfl rfl) h0
  obtain ⟨t, rfl, rfl, rfl, _⟩ := Go.ChangeMaps.open_string Tryd.underlying9 (hval 1 9 v1 rfl rfl) h1
  refine (namePaths_walk s t W (tabs_of hL hSh)).mono fun e W' ⟨he, hk⟩ => ?_
  have _u := hS
  subst he
  exact ⟨_, rfl, law_post Tryd.laidOut namePaths_readable rfl Tryd.underlying4 rfl hW' rfl hk.below0⟩

set_option maxRecDepth 100000 in
theorem namePaths_lifted (os : Os) (started : os.Started) (H : Type) (enc : TypeId × Value → H) :
    ReturnsInHanded {} Tryd.checked os 7 .any (fun w args => (Rows.namePathsSpec.pre enc Tryd.prog Tryd.f7 Rows.namePathsRow.domain false w args ∧ laidMetH Tryd.prog Rows.namePathsRow.laid w) ∧ sizedMet enc Tryd.prog Tryd.f7 (OpenSpec.ofChange Rows.namePathsSpec) false w args)
      (Rows.namePathsSpec.post enc Tryd.prog Tryd.f7 false true false false) := by
  refine handed_and_shaped (C := Tryd.checked) (X := fun w _ => laidMetH Tryd.prog Rows.namePathsRow.laid w) (fun _ _ _ hh h => h.of_heap hh) Tryd.own started (by kernel_rfl) Tryd.func7
    (ChangeSpec.witness_shaped (enc := enc) (C := Tryd.checked) (os := os) (X := fun w _ => laidMetH Tryd.prog Rows.namePathsRow.laid w) false (World.laidAll Tryd.prog os Rows.namePathsRow.laid) #[.string ⟨#[]⟩, .string ⟨#[]⟩] 8 (World.laidAll_os _ _ _)
      (World.shaped_of_ZipB (by kernel_rfl) (by kernel_rfl)) (by kernel_rfl) (by kernel_rfl) (by kernel_rfl)
      (by rw [MakeChecks.laidMetH_plain _ _ _ (by kernel_rfl)]; exact laidMet_laidAll _ (by kernel_rfl) (by kernel_rfl))) ?_
  intro W base args ds gs before hval hW _ hS hL hSh _
  exact namePaths_contract H enc W base args ds gs before hval hW hL hSh hS

theorem namePaths_row_holds : Rows.NamePathsSaid :=
  OpenClaim.holds_of_wide 7 Tryd.f7 rfl rfl rfl rfl rfl rfl rfl ⟨rfl, rfl, rfl, rfl, rfl⟩ rfl rfl rfl rfl rfl (by kernel_rfl) Tryd.func7 (by kernel_rfl)
    (of_decide_eq_true (by kernel_rfl)) (by unfold Func.isWrapper; first | (rw [if_pos (by decide +kernel)]; kernel_rfl) | (rw [if_neg (by decide +kernel)]; exact ⟨rfl, rfl⟩))
    (fun os started H enc _ => namePaths_lifted os started H enc)

theorem namePaths_holds : Rows.NamePathsCardSaid :=
  Claim7.holds_tied_plain_at .later [] [.data, .pinned] true (true, "284c49cd6a5ef03cb0b10374fb715a4f6b6efd2702ce299b808f79c75d858a0b") false namePaths_row_holds (fun _ h => by cases h) (by kernel_rfl) (fun _ h => by cases h) namePaths_row_tie rfl ⟨rfl, rfl⟩ (by kernel_rfl) rfl
    (fun f fn hf hfn => by
      obtain rfl : f = 7 := Option.some.inj ((show Tryd.prog.funcNamed "wainscot/wainscotlaw10.NamePaths" = some 7 by kernel_rfl).symm.trans hf) |>.symm
      obtain rfl : fn = Tryd.f7 := (Option.some.inj (Tryd.func7.symm.trans hfn)).symm
      exact ⟨by kernel_rfl, fun j t ht => by
        have hm : t ∈ Tryd.f7.params.toList := by simpa using Array.mem_of_getElem? ht
        have hall : (Tryd.f7.params.toList.all fun u => !Tryd.prog.wantsStandIn u) = true := by kernel_rfl
        exact (show Tryd.prog.wantsStandIn t = false by simpa using List.all_eq_true.1 hall t hm)⟩)
    (by kernel_rfl)

#print axioms namePaths_holds
end Go.Proofs.YtbmbjedpeepnfaaDoor
