/-
  NameBelow: a path is below each of its beginnings, and below no other one: the law returns true, for any two texts. No condition.
-/
import Derived.Test.YtbmbjedpeepnfaaDoorNmM
import Derived.Test.YtbmbjedpeepnfaaDoorNmL
import Derived.Test.YtbmbjedpeepnfaaDoorArith
namespace Go.Proofs.YtbmbjedpeepnfaaDoor
open Go.RowKit

theorem ext300w (s : ByteArray) : (s.extract 0 (min (s.size : Int) 300).toNat).size ≤ 300 := by
  rw [ByteArray.size_extract]; omega

set_option maxRecDepth 100000 in
set_option maxHeartbeats 3200000 in
theorem nameBelow_walk (s t : ByteArray) (w : World) (T : Tabs w) :
    Calls Tryd.prog 11 #[.string s, .string t] w fun e w' => e = .returned (.bool true) ∧ Keep [] w w' := by
  obtain ⟨X, hX⟩ : ∃ X, X = s.extract 0 (min (s.size : Int) 300).toNat := ⟨_, rfl⟩
  have hX1 : X.size ≤ 300 := by rw [hX]; exact ext300w s
  have HX := Lib.hid hX
  obtain ⟨U, hU⟩ : ∃ U, U = t.extract 0 (min (t.size : Int) 300).toNat := ⟨_, rfl⟩
  have hU1 : U.size ≤ 300 := by rw [hU]; exact ext300w t
  have HU := Lib.hid hU
  have HT := Lib.hid T
  clear hX hU T
  go_enter Tryd.func11, Tryd.ntmps11
  go_wp2_with fail
  refine (shown_any w HT.out).mono ?_
  rintro e w1 ⟨rfl, k1⟩
  have hsX : Nm.split X = none ∨ ∃ a, Nm.split X = some a := by cases Nm.split X <;> simp
  go_wp2_with fail
  rw [← HX.out, ← HU.out]
  clear HX HU
  have cB1 := fun w T => below_any X U w (by omega) (by omega) T
  have cB2 := fun w T => below_any U X w (by omega) (by omega) T
  rcases hsX with hsX | ⟨b, hsX⟩
  · have h1 := (Nm.below_none hsX (t := U)).1
    have h2 := (Nm.below_none hsX (t := U)).2
    rw [h1] at cB1
    rw [h2] at cB2
    have HA := Lib.hid hsX
    clear hsX h1 h2
    refine (split_any X w1 (by omega) (HT.out.step k1)).mono ?_
    intro e w2 o
    obtain ⟨aa, rfl, k2⟩ := o.no HA.out
    have K := k1.trans k2 (by simp)
    clear k1 k2 o
    go_wp2_with fail
    refine (cB1 w2 (HT.out.step K)).mono ?_
    rintro e w3 ⟨rfl, k3⟩
    have K3 := K.trans k3 (by simp)
    go_wp2_with fail
    refine (cB2 w3 (HT.out.step K3)).mono ?_
    rintro e w4 ⟨rfl, k4⟩
    go_wp2
    go_ret
    exact ⟨by simp, K3.trans k4 (by simp)⟩
  · have HA := Lib.hid hsX
    have hXb := (Nm.split_some hsX).1
    have hjb : (Nm.jl b).length ≤ 300 := by rw [hXb, Nm.jtx_size] at hX1; omega
    have HXB := Lib.hid hXb
    clear hsX hXb
    refine (split_any X w1 (by omega) (HT.out.step k1)).mono ?_
    intro e w2 o
    have hlb := o.len HA.out
    obtain ⟨aa, rfl, sa, k2⟩ := o.yes HA.out
    have K2 := k1.trans k2 (by simp)
    have SA := Lib.hid sa
    have hao : (aa = none ∧ b = []) ∨ ∃ g, aa = some ⟨g, 0, none⟩ := by
      rcases sa with h | ⟨g, h, _⟩
      · exact Or.inl h
      · exact Or.inr ⟨g, h⟩
    have HAO := Lib.hid hao
    clear k1 k2 o sa hao
    go_wp2_with fail
    go_loopw [8] (fun i wr => ∃ k : Nat, i = .int .i64 k ∧ k ≤ b.length + 1 ∧ Keep [] w2 wr) (fun i _ => b.length + 1 - (intOf i).toNat)
    case atStart => exact ⟨0, rfl, Nat.zero_le _, Keep.refl _ _⟩
    case round =>
      obtain ⟨k, rfl, hk, kr⟩ := hrel
      have KR := K2.trans kr (by simp)
      by_cases hlt : k ≤ b.length
      · have hkl : (b.take k).length = k := by rw [List.length_take]; omega
        have hsp := Nm.split_take HA.out k
        have hb1 := Nm.below_take HA.out k
        have hjs : (Nm.jtx (b.take k)).size ≤ 400 := by
          have := Nm.jtx_take_le b k
          rw [← HXB.out] at this
          omega
        have hjk : (Nm.jl (b.take k)).length ≤ 140737488355328 := by rw [Nm.jtx_size] at hjs; omega
        have HSP := Lib.hid hsp
        have hkI : (k : Int) ≤ (b.length : Int) := by omega
        have hb2 : k < b.length → Nm.below (Nm.jtx (b.take k)) X = false := fun h => Nm.take_below HA.out h
        obtain ⟨P, hP⟩ : ∃ P, P = Nm.jtx (b.take k) := ⟨_, rfl⟩
        rw [← hP] at hb1 hb2 hjs
        have cP1 := fun w T => below_any X P w (by omega) (by omega) T
        have cP2 := fun w T => below_any P X w (by omega) (by omega) T
        rw [hb1] at cP1
        have HP := Lib.hid hP
        have HB2 := Lib.hid hb2
        have HKL := Lib.hid hkl
        clear hsp hb1 hb2 hP hkl
        have cJ := fun d (hd : k ≤ d) => join_any aa (b.take k) d wr ((SA.out.keep kr).p.take k) (by rw [HKL.out]; omega) (by rw [HKL.out]; exact hd) hjk (HT.out.step KR)
        rw [HKL.out] at cJ
        have hmono : ∀ d (hd : k ≤ d), Calls Tryd.prog 25 #[.slice aa k d] wr fun e w' => e = .returned (.tuple #[.string P, .bool true]) ∧ Keep [] wr w' := fun d hd => (cJ d hd).mono fun e w' o => by
          have := o.yes HSP.out
          rw [← HP.out] at this
          exact this
        clear cJ
        rcases HAO.out with ⟨rfl, hbn⟩ | ⟨g, rfl⟩
        · obtain rfl : k = 0 := by rw [hbn] at hlt; simpa using hlt
          have hkbI : ¬ ((0 : Nat) : Int) < (b.length : Int) := by rw [hbn]; simp
          have hkb0 : ¬ (0 : Int) < (b.length : Int) := by rw [hbn]; simp
          clear hbn HAO
          go_wp2_with fail
          refine (hmono _ hlt).mono ?_
          rintro e w3 ⟨rfl, k3⟩
          have K3 := KR.trans k3 (by simp)
          go_wp2_with fail
          refine (cP1 w3 (HT.out.step K3)).mono ?_
          rintro e w4 ⟨rfl, k4⟩
          have K4 := K3.trans k4 (by simp)
          have kr4 := (kr.trans k3 (by simp)).trans k4 (by simp)
          go_wp2
          go_roundw
          case rel => exact ⟨0 + 1, by go_num, by omega, kr4⟩
          case measure => simp [intOf]
        · clear HAO
          go_wp2_with fail
          refine (hmono _ hlt).mono ?_
          rintro e w3 ⟨rfl, k3⟩
          have K3 := KR.trans k3 (by simp)
          go_wp2_with fail
          refine (cP1 w3 (HT.out.step K3)).mono ?_
          rintro e w4 ⟨rfl, k4⟩
          have K4 := K3.trans k4 (by simp)
          have kr4 := (kr.trans k3 (by simp)).trans k4 (by simp)
          by_cases hkb : k < b.length
          · have hb2 := HB2.out hkb
            rw [hb2] at cP2
            have hkbI : (k : Int) < (b.length : Int) := by omega
            clear hb2
            go_wp2_with fail
            refine (cP2 w4 (HT.out.step K4)).mono ?_
            rintro e w5 ⟨rfl, k5⟩
            go_wp2
            go_roundw
            case rel => exact ⟨k + 1, by go_num, by omega, kr4.trans k5 (by simp)⟩
            case measure => simp [intOf]; omega
          · have hkbI : ¬ (k : Int) < (b.length : Int) := by omega
            go_wp2
            go_roundw
            case rel => exact ⟨k + 1, by go_num, by omega, kr4⟩
            case measure => simp [intOf]; omega
      · have hltI : ¬ (k : Int) ≤ (b.length : Int) := by omega
        cases hbe : Nm.below X U with
        | false =>
          rw [hbe] at cB1
          clear hbe cB2
          go_wp2_with fail
          refine (cB1 wr (HT.out.step KR)).mono ?_
          rintro e w3 ⟨rfl, k3⟩
          go_wp2
          go_ret
          exact ⟨rfl, KR.trans k3 (by simp)⟩
        | true =>
          have hbg := Nm.below_begins hbe
          have hbo := Nm.below_both hbe
          rw [hbe] at cB1
          rw [hbo] at cB2
          have HBG := Lib.hid hbg
          clear hbe hbo hbg
          go_wp2_with fail
          refine (cB1 wr (HT.out.step KR)).mono ?_
          rintro e w3 ⟨rfl, k3⟩
          have K3 := KR.trans k3 (by simp)
          by_cases hsl : U = ⟨#[47]⟩
          · subst hsl
            have h47l : (⟨#[47]⟩ : ByteArray).toList = [47] := by rw [Lib.toList_data]
            by_cases hXU : X = ⟨#[47]⟩
            · have h1 : decide (X = (⟨#[47]⟩ : ByteArray)) = true := by simp [hXU]
              rw [h1] at cB2
              clear h1
              have HXU := Lib.hid hXU
              clear hXU
              go_wp2_with fail
              refine (cB2 w3 (HT.out.step K3)).mono ?_
              rintro e w4 ⟨rfl, k4⟩
              go_wp2
              go_ret
              refine ⟨?_, K3.trans k4 (by simp)⟩
              rw [HXU.out]
              simp [h47l]
            · have h1 : decide (X = (⟨#[47]⟩ : ByteArray)) = false := by simp [hXU]
              rw [h1] at cB2
              clear h1
              have hXl : ¬ X.toList = [47] := fun h => hXU (Nm.data_inj (by rw [← Lib.toList_data, h]))
              clear hXU
              go_wp2_with fail
              refine (cB2 w3 (HT.out.step K3)).mono ?_
              rintro e w4 ⟨rfl, k4⟩
              go_wp2
              go_ret
              exact ⟨by simp [hXl], K3.trans k4 (by simp)⟩
          · obtain ⟨hz, hext, h47⟩ : U.size ≤ X.size ∧ X.extract 0 U.size = U ∧ (U.size < X.size → X.get! U.size = 47) := by
              rcases HBG.out with h | h
              · exact absurd h hsl
              · exact h
            have hUl : ¬ U.toList = [47] := fun h => hsl (Nm.data_inj (by rw [← Lib.toList_data, h]))
            have H47 := Lib.hid h47
            clear h47 hsl
            by_cases hXU : X = U
            · subst hXU
              have h1 : decide (X = X) = true := by simp
              rw [h1] at cB2
              clear h1 H47
              have hlt0 : ¬ (X.size : Int) < (X.size : Int) := by omega
              have hle0 : (X.size : Int) ≤ (X.size : Int) := by omega
              go_wp2_with fail
              refine (cB2 w3 (HT.out.step K3)).mono ?_
              rintro e w4 ⟨rfl, k4⟩
              go_wp2
              go_ret
              exact ⟨by simp, K3.trans k4 (by simp)⟩
            · have h1 : decide (X = U) = false := by simp [hXU]
              rw [h1] at cB2
              have hXl : ¬ X.toList = U.toList := fun h => hXU (Nm.data_inj (by rw [← Lib.toList_data, h, Lib.toList_data]))
              have hlt : U.size < X.size := by
                rcases Nat.lt_or_ge U.size X.size with h | h
                · exact h
                · refine absurd ?_ hXU
                  have e : U.size = X.size := by omega
                  rw [← hext, e, ByteArray.extract_zero_size]
              have h47 := H47.out hlt
              rw [Nm.get_at hlt] at h47
              have hlt0 : ¬ (X.size : Int) < (U.size : Int) := by omega
              have hle0 : (U.size : Int) ≤ (X.size : Int) := by omega
              have hgt0 : (U.size : Int) < (X.size : Int) := by omega
              clear h1 H47 hXU
              go_wp2_with fail
              refine (cB2 w3 (HT.out.step K3)).mono ?_
              rintro e w4 ⟨rfl, k4⟩
              go_wp2
              go_ret
              exact ⟨by simp [hXl], K3.trans k4 (by simp)⟩


theorem nameBelow_readable : Tryd.f11.params.toList.all (fun t => Tryd.prog.readableRec t && decide (t < Tryd.prog.types.size)) = true := by kernel_rfl

open Go.ChangeShapes Go.WideShapes Go.ChangeAt in
set_option maxRecDepth 100000 in
theorem nameBelow_contract (H : Type) (enc : TypeId × Value → H) (W : World) (base : Nat) (args : Array Value) (ds gs : List (DataW H)) (before : List MemPlace)
    (hval : ∀ (j : Nat) t v, Tryd.f11.params[j]? = some t → args[j]? = some v → Value.okWide Tryd.prog W .any base t v)
    (hW : DataW.Whole enc Tryd.prog Tryd.f11.params.toList Rows.nameBelowSpec.vars false W args.toList ds gs before) (hL : laidMetH Tryd.prog Rows.nameBelowRow.laid W) (hSh : W.ShapedOpen Tryd.prog) (hS : (DataW.weightsEach Tryd.prog (Tryd.f11.params.toList ++ Rows.nameBelowSpec.plain.varTypes Tryd.prog) (ds ++ gs)).all (· ≤ reachBytes) = true) :
    Calls Tryd.prog 11 args W fun e W' => ∃ v, e = .returned v ∧ Rows.nameBelowSpec.post enc Tryd.prog Tryd.f11 false true false false W args v W' := by
  have hW' := hW
  obtain ⟨p, q, hA0, hV, rfl, _, _⟩ := hW
  have hA : DataW.TrodAll enc Tryd.prog W 0 (fun _ => true) true Tryd.f11.params.toList args.toList ds p := hA0
  rw [Tryd.params11] at hA hval
  obtain ⟨v0, v1, d0, d1, p0, p1, rfl, rfl, rfl, h0, h1⟩ := trodAll_two hA
  obtain ⟨rfl, rfl⟩ := trodVars_none hV
  obtain ⟨s, rfl, rfl, rfl, _⟩ := Go.ChangeMaps.open_string Tryd.underlying9 (hval 0 9 v0 rfl rfl) h0
  obtain ⟨t, rfl, rfl, rfl, _⟩ := Go.ChangeMaps.open_string Tryd.underlying9 (hval 1 9 v1 rfl rfl) h1
  refine (nameBelow_walk s t W (tabs_of hL hSh)).mono fun e W' ⟨he, hk⟩ => ?_
  have _u := hS
  subst he
  exact ⟨_, rfl, law_post Tryd.laidOut nameBelow_readable rfl Tryd.underlying4 rfl hW' rfl hk.below0⟩

set_option maxRecDepth 100000 in
theorem nameBelow_lifted (os : Os) (started : os.Started) (H : Type) (enc : TypeId × Value → H) :
    ReturnsInHanded {} Tryd.checked os 11 .any (fun w args => (Rows.nameBelowSpec.pre enc Tryd.prog Tryd.f11 Rows.nameBelowRow.domain false w args ∧ laidMetH Tryd.prog Rows.nameBelowRow.laid w) ∧ sizedMet enc Tryd.prog Tryd.f11 (OpenSpec.ofChange Rows.nameBelowSpec) false w args)
      (Rows.nameBelowSpec.post enc Tryd.prog Tryd.f11 false true false false) := by
  refine handed_and_shaped (C := Tryd.checked) (X := fun w _ => laidMetH Tryd.prog Rows.nameBelowRow.laid w) (fun _ _ _ hh h => h.of_heap hh) Tryd.own started (by kernel_rfl) Tryd.func11
    (ChangeSpec.witness_shaped (enc := enc) (C := Tryd.checked) (os := os) (X := fun w _ => laidMetH Tryd.prog Rows.nameBelowRow.laid w) false (World.laidAll Tryd.prog os Rows.nameBelowRow.laid) #[.string ⟨#[]⟩, .string ⟨#[]⟩] 8 (World.laidAll_os _ _ _)
      (World.shaped_of_ZipB (by kernel_rfl) (by kernel_rfl)) (by kernel_rfl) (by kernel_rfl) (by kernel_rfl)
      (by rw [MakeChecks.laidMetH_plain _ _ _ (by kernel_rfl)]; exact laidMet_laidAll _ (by kernel_rfl) (by kernel_rfl))) ?_
  intro W base args ds gs before hval hW _ hS hL hSh _
  exact nameBelow_contract H enc W base args ds gs before hval hW hL hSh hS

theorem nameBelow_row_holds : Rows.NameBelowSaid :=
  OpenClaim.holds_of_wide 11 Tryd.f11 rfl rfl rfl rfl rfl rfl rfl ⟨rfl, rfl, rfl, rfl, rfl⟩ rfl rfl rfl rfl rfl (by kernel_rfl) Tryd.func11 (by kernel_rfl)
    (of_decide_eq_true (by kernel_rfl)) (by unfold Func.isWrapper; first | (rw [if_pos (by decide +kernel)]; kernel_rfl) | (rw [if_neg (by decide +kernel)]; exact ⟨rfl, rfl⟩))
    (fun os started H enc _ => nameBelow_lifted os started H enc)

theorem nameBelow_holds : Rows.NameBelowCardSaid :=
  Claim7.holds_tied_plain_at .later [] [.data, .pinned] true (true, "284c49cd6a5ef03cb0b10374fb715a4f6b6efd2702ce299b808f79c75d858a0b") false nameBelow_row_holds (fun _ h => by cases h) (by kernel_rfl) (fun _ h => by cases h) nameBelow_row_tie rfl ⟨rfl, rfl⟩ (by kernel_rfl) rfl
    (fun f fn hf hfn => by
      obtain rfl : f = 11 := Option.some.inj ((show Tryd.prog.funcNamed "wainscot/wainscotlaw10.NameBelow" = some 11 by kernel_rfl).symm.trans hf) |>.symm
      obtain rfl : fn = Tryd.f11 := (Option.some.inj (Tryd.func11.symm.trans hfn)).symm
      exact ⟨by kernel_rfl, fun j t ht => by
        have hm : t ∈ Tryd.f11.params.toList := by simpa using Array.mem_of_getElem? ht
        have hall : (Tryd.f11.params.toList.all fun u => !Tryd.prog.wantsStandIn u) = true := by kernel_rfl
        exact (show Tryd.prog.wantsStandIn t = false by simpa using List.all_eq_true.1 hall t hm)⟩)
    (by kernel_rfl)

#print axioms nameBelow_holds
end Go.Proofs.YtbmbjedpeepnfaaDoor
