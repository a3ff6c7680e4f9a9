/-
  NameShort: what is short is not longer than it may be, and begins as the text does: the law returns true, for any text, any number. No condition.
-/
import Derived.Test.YtbmbjedpeepnfaaDoorNmLaw
import Derived.Test.YtbmbjedpeepnfaaDoorNmE
import Derived.Test.YtbmbjedpeepnfaaDoorArith
namespace Go.Proofs.YtbmbjedpeepnfaaDoor
open Go.RowKit

theorem ext300 (s : ByteArray) : (s.extract 0 (min (s.size : Int) 300).toNat).size ≤ 300 := by
  rw [ByteArray.size_extract]; omega

set_option maxRecDepth 100000 in
set_option maxHeartbeats 1600000 in
theorem nameShort_walk (s : ByteArray) (n : Int) (w : World) (hs : s.size ≤ 140737488351232) (T : Tabs w) :
    Calls Tryd.prog 5 #[.string s, .int .i64 n] w fun e w' => e = .returned (.bool true) ∧ Keep [] w w' := by
  obtain ⟨S, hS⟩ : ∃ S, S = s.extract 0 (min (s.size : Int) 300).toNat := ⟨_, rfl⟩
  have hS1 : S.size ≤ 300 := by rw [hS]; exact ext300 s
  have HS := Lib.hid hS
  have HT := Lib.hid T
  clear hS T
  obtain ⟨m, hm, hm1, hmm⟩ := mask9 n
  clear hmm
  go_enter Tryd.func5, Tryd.ntmps5
  go_wp2_with fail
  refine (shown_any w HT.out).mono ?_
  rintro e w1 ⟨rfl, k1⟩
  go_wp2_with fail
  rw [← HS.out]
  clear hm
  refine (short_any S m w1 (by omega) (by omega)).mono ?_
  rintro e w2 ⟨rfl, k2⟩
  have K2 := k1.trans k2 (by simp)
  clear k1 k2
  go_wp2_with fail
  refine (width_any S w2 (by omega)).mono ?_
  rintro e w3 ⟨rfl, k3⟩
  have K3 := K2.trans k3 (by simp)
  clear K2 k3
  obtain ⟨x, hx⟩ : ∃ x, x = Nm.short S m := ⟨_, rfl⟩
  obtain ⟨r, hr⟩ : ∃ r, r = Lib.runeCount S := ⟨_, rfl⟩
  rw [← hx, ← hr]
  have HX := Lib.hid hx
  have HR := Lib.hid hr
  clear hx hr
  have hrl : r ≤ 300 := by rw [HR.out]; have := Lib.runeCount_le S; omega
  by_cases h0 : m = 0
  · subst h0
    have hxe : x = ⟨#[]⟩ := by rw [HX.out]; unfold Nm.short; rw [if_pos (by decide)]
    subst hxe
    go_wp2
    go_ret
    exact ⟨by simp, K3⟩
  · have h0I : ¬ (m : Int) = 0 := by omega
    by_cases hle : r ≤ m
    · have hleI : (r : Int) ≤ (m : Int) := by omega
      have hxe : x = S := by rw [HX.out]; unfold Nm.short; rw [if_neg (by omega), if_pos (by rw [← HR.out]; exact hleI)]
      subst hxe
      go_wp2
      go_ret
      exact ⟨by simp, K3⟩
    · have hleI : ¬ (r : Int) ≤ (m : Int) := by omega
      have hmr : m - 1 ≤ Lib.runeCount S := by rw [← HR.out]; omega
      obtain ⟨p, hp⟩ : ∃ p, p = Nm.posAt S (m - 1) := ⟨_, rfl⟩
      have hpS : p ≤ S.size := by rw [hp]; exact Nm.posAt_le S hmr
      obtain ⟨u, hu⟩ : ∃ u, u = S.extract 0 p := ⟨_, rfl⟩
      have hxu : x = u ++ Nm.more := by
        rw [HX.out]; unfold Nm.short
        rw [if_neg (by omega), if_neg (by rw [← HR.out]; exact hleI), hu, hp, Int.toNat_natCast]
      have hus : u.size = p := by rw [hu, ByteArray.size_extract]; omega
      obtain ⟨L, hL⟩ : ∃ L, L = x.size := ⟨_, rfl⟩
      have hL3 : L = p + 3 := by rw [hL, hxu, ByteArray.size_append, hus]; rfl
      have hcu : Lib.runeCount u = m - 1 := by rw [hu, hp]; exact Nm.count_cut S (m - 1) hmr
      have huw : u.size ≤ 1000000 := by omega
      have cW := fun w => width_any u w huw
      rw [hcu] at cW
      have hul : u.data.toList.length = p := by rw [← hus, Array.length_toList]; rfl
      have hxl : x.data.toList = u.data.toList ++ [226, 128, 166] := by rw [hxu]; simp [Nm.more]
      have e1 : (x.extract p L).toList = [226, 128, 166] := by
        rw [Lib.toList_data, Lib.extract_data, hxl, show L - p = 3 by omega, List.drop_left' hul]; rfl
      have e2 : x.extract 0 p = u := by
        apply ByteArray.ext
        apply Array.toList_inj.1
        rw [Lib.extract_data, hxl, ← hul]; simp
      have e3 : S.extract 0 p = u := hu.symm
      have hpI : (p : Int) ≤ (S.size : Int) := by omega
      have hpL : (p : Int) ≤ (L : Int) := by omega
      have hL3I : ¬ (L : Int) < 3 := by omega
      have hsub : IntKind.i64.wrap ((L : Int) - 3) = (p : Int) := by rw [IntWalk.i64_in _ (by omega)]; omega
      have hm1 : IntKind.i64.wrap ((m : Int) - 1) = ((m - 1 : Nat) : Int) := by rw [IntWalk.i64_in _ (by omega)]; omega
      have hpn : ¬ ((S.size : Int) < (p : Int)) := by omega
      have hL' : x.size = L := hL.symm
      clear hL hL3 hxu hus hcu hul hxl hp hu HX HS
      go_upto_region 10 with fail
      go_quiet (fail)
      go_wp2_with fail
      refine (cW _).mono ?_
      rintro e w4 ⟨rfl, k4⟩
      go_wp2
      go_ret
      exact ⟨by simp, (K3.drewN _).trans k4 (by simp)⟩


theorem nameShort_readable : Tryd.f5.params.toList.all (fun t => Tryd.prog.readableRec t && decide (t < Tryd.prog.types.size)) = true := by kernel_rfl

open Go.ChangeShapes Go.WideShapes Go.ChangeAt in
set_option maxRecDepth 100000 in
theorem nameShort_contract (H : Type) (enc : TypeId × Value → H) (W : World) (base : Nat) (args : Array Value) (ds gs : List (DataW H)) (before : List MemPlace)
    (hval : ∀ (j : Nat) t v, Tryd.f5.params[j]? = some t → args[j]? = some v → Value.okWide Tryd.prog W .any base t v)
    (hW : DataW.Whole enc Tryd.prog Tryd.f5.params.toList Rows.nameShortSpec.vars false W args.toList ds gs before) (hL : laidMetH Tryd.prog Rows.nameShortRow.laid W) (hSh : W.ShapedOpen Tryd.prog) (hS : (DataW.weightsEach Tryd.prog (Tryd.f5.params.toList ++ Rows.nameShortSpec.plain.varTypes Tryd.prog) (ds ++ gs)).all (· ≤ reachBytes) = true) :
    Calls Tryd.prog 5 args W fun e W' => ∃ v, e = .returned v ∧ Rows.nameShortSpec.post enc Tryd.prog Tryd.f5 false true false false W args v W' := by
  have hW' := hW
  obtain ⟨p, q, hA0, hV, rfl, _, _⟩ := hW
  have hA : DataW.TrodAll enc Tryd.prog W 0 (fun _ => true) true Tryd.f5.params.toList args.toList ds p := hA0
  rw [Tryd.params5] at hA hval
  obtain ⟨v0, v1, d0, d1, p0, p1, rfl, rfl, rfl, h0, h1⟩ := trodAll_two hA
  obtain ⟨rfl, rfl⟩ := trodVars_none hV
  obtain ⟨s, rfl, rfl, rfl, _⟩ := Go.ChangeMaps.open_string Tryd.underlying9 (hval 0 9 v0 rfl rfl) h0
  obtain ⟨a1, rfl, rfl, rfl, _⟩ := open_int Tryd.underlying3 (hval 1 3 v1 rfl rfl) h1
  have hsl := sized_string hS (j := 0) (t := 9) (bytes := s.data.toList) rfl rfl
  have hsz : s.size ≤ 140737488351232 := by
    have h1 : s.data.toList.length = s.size := by rw [Array.length_toList]; rfl
    unfold reachBytes at hsl
    omega
  refine (nameShort_walk s a1 W hsz (tabs_of hL hSh)).mono fun e W' ⟨he, hk⟩ => ?_
  have _u := hS
  subst he
  exact ⟨_, rfl, law_post Tryd.laidOut nameShort_readable rfl Tryd.underlying4 rfl hW' rfl hk.below0⟩

set_option maxRecDepth 100000 in
theorem nameShort_lifted (os : Os) (started : os.Started) (H : Type) (enc : TypeId × Value → H) :
    ReturnsInHanded {} Tryd.checked os 5 .any (fun w args => (Rows.nameShortSpec.pre enc Tryd.prog Tryd.f5 Rows.nameShortRow.domain false w args ∧ laidMetH Tryd.prog Rows.nameShortRow.laid w) ∧ sizedMet enc Tryd.prog Tryd.f5 (OpenSpec.ofChange Rows.nameShortSpec) false w args)
      (Rows.nameShortSpec.post enc Tryd.prog Tryd.f5 false true false false) := by
  refine handed_and_shaped (C := Tryd.checked) (X := fun w _ => laidMetH Tryd.prog Rows.nameShortRow.laid w) (fun _ _ _ hh h => h.of_heap hh) Tryd.own started (by kernel_rfl) Tryd.func5
    (ChangeSpec.witness_shaped (enc := enc) (C := Tryd.checked) (os := os) (X := fun w _ => laidMetH Tryd.prog Rows.nameShortRow.laid w) false (World.laidAll Tryd.prog os Rows.nameShortRow.laid) #[.string ⟨#[]⟩, .int .i64 0] 8 (World.laidAll_os _ _ _)
      (World.shaped_of_ZipB (by kernel_rfl) (by kernel_rfl)) (by kernel_rfl) (by kernel_rfl) (by kernel_rfl)
      (by rw [MakeChecks.laidMetH_plain _ _ _ (by kernel_rfl)]; exact laidMet_laidAll _ (by kernel_rfl) (by kernel_rfl))) ?_
  intro W base args ds gs before hval hW _ hS hL hSh _
  exact nameShort_contract H enc W base args ds gs before hval hW hL hSh hS

theorem nameShort_row_holds : Rows.NameShortSaid :=
  OpenClaim.holds_of_wide 5 Tryd.f5 rfl rfl rfl rfl rfl rfl rfl ⟨rfl, rfl, rfl, rfl, rfl⟩ rfl rfl rfl rfl rfl (by kernel_rfl) Tryd.func5 (by kernel_rfl)
    (of_decide_eq_true (by kernel_rfl)) (by unfold Func.isWrapper; first | (rw [if_pos (by decide +kernel)]; kernel_rfl) | (rw [if_neg (by decide +kernel)]; exact ⟨rfl, rfl⟩))
    (fun os started H enc _ => nameShort_lifted os started H enc)

theorem nameShort_holds : Rows.NameShortCardSaid :=
  Claim7.holds_tied_plain_at .later [] [.data, .pinned] true (true, "284c49cd6a5ef03cb0b10374fb715a4f6b6efd2702ce299b808f79c75d858a0b") false nameShort_row_holds (fun _ h => by cases h) (by kernel_rfl) (fun _ h => by cases h) nameShort_row_tie rfl ⟨rfl, rfl⟩ (by kernel_rfl) rfl
    (fun f fn hf hfn => by
      obtain rfl : f = 5 := Option.some.inj ((show Tryd.prog.funcNamed "wainscot/wainscotlaw10.NameShort" = some 5 by kernel_rfl).symm.trans hf) |>.symm
      obtain rfl : fn = Tryd.f5 := (Option.some.inj (Tryd.func5.symm.trans hfn)).symm
      exact ⟨by kernel_rfl, fun j t ht => by
        have hm : t ∈ Tryd.f5.params.toList := by simpa using Array.mem_of_getElem? ht
        have hall : (Tryd.f5.params.toList.all fun u => !Tryd.prog.wantsStandIn u) = true := by kernel_rfl
        exact (show Tryd.prog.wantsStandIn t = false by simpa using List.all_eq_true.1 hall t hm)⟩)
    (by kernel_rfl)

#print axioms nameShort_holds
end Go.Proofs.YtbmbjedpeepnfaaDoor
