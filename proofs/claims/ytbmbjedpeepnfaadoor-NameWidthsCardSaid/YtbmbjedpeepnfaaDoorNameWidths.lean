/-
  NameWidths: pieces are counted one behind the other: the law returns true, for any two texts, any byte. No condition.
-/
import Derived.Test.YtbmbjedpeepnfaaDoorNmLaw
import Derived.Test.YtbmbjedpeepnfaaDoorNmF
import Derived.Test.YtbmbjedpeepnfaaDoorArith
import Derived.Test.YtbmbjedpeepnfaaDoorNmG
namespace Go.Proofs.YtbmbjedpeepnfaaDoor
open Go.RowKit

theorem ext100 (s : ByteArray) : (s.extract 0 (min (s.size : Int) 100).toNat).size ≤ 100 := by
  rw [ByteArray.size_extract]; omega

set_option maxRecDepth 100000 in
set_option maxHeartbeats 800000 in
theorem nameWidths_walk (s t : ByteArray) (c : Int) (w : World) (T : Tabs w) (c0 : 0 ≤ c) (c1 : c ≤ 255) :
    Calls Tryd.prog 8 #[.string s, .string t, .int .u8 c] w fun e w' => e = .returned (.bool true) ∧ Keep [] w w' := by
  obtain ⟨S, hS⟩ : ∃ S, S = s.extract 0 (min (s.size : Int) 100).toNat := ⟨_, rfl⟩
  have hS1 : S.size ≤ 100 := by rw [hS]; exact ext100 s
  have HS := Lib.hid hS
  obtain ⟨U, hU⟩ : ∃ U, U = t.extract 0 (min (t.size : Int) 100).toNat := ⟨_, rfl⟩
  have hU1 : U.size ≤ 100 := by rw [hU]; exact ext100 t
  have HU := Lib.hid hU
  have HT := Lib.hid T
  clear hS hU T
  go_enter Tryd.func8, Tryd.ntmps8
  go_wp2_with fail
  refine (shown_any w HT.out).mono ?_
  rintro e w1 ⟨rfl, k1⟩
  obtain ⟨m, hm, hm1⟩ := and7 c c0 c1
  obtain ⟨b, hb⟩ : ∃ b : UInt8, b = UInt8.ofNat m := ⟨_, rfl⟩
  have hbm : b.toNat = m := by rw [hb]; simp; omega
  obtain ⟨k, hk⟩ : ∃ k, k = w1.heap.size := ⟨_, rfl⟩
  have hcell : ((w1.alloc (.cells #[.int .u8 (m : Int)] 5)).drew).cell? ⟨w1.heap.size, 0, none⟩ = some (.int .u8 (m : Int)) := ((Blk.new' w1 [.int .u8 (m : Int)] 5).drew).cell 0
  have hrd : RdV ((w1.alloc (.cells #[.int .u8 (m : Int)] 5)).drew) (.slice (some ⟨w1.heap.size, 0, none⟩) 1 1) 1 1 (bv [b]) := by
    refine ⟨rfl, some ⟨w1.heap.size, 0, none⟩, 1, rfl, Nat.le_refl _, (fun h => by cases h), ?_⟩
    intro a ha j u hu
    cases ha
    cases j with
    | zero =>
      simp [bv] at hu
      rw [← hu, hbm, Addr.add_lit]
      exact hcell
    | succ j => simp [bv] at hu
  have hcv := conv_str (w := (w1.alloc (.cells #[.int .u8 (m : Int)] 5)).drew) (v := .slice (some ⟨w1.heap.size, 0, none⟩) 1 1) (l := [b]) hrd
  have K1 : Keep [] w ((w1.alloc (.cells #[.int .u8 (m : Int)] 5)).drew) := (k1.alloc _).drew
  obtain ⟨V1, hV1⟩ : ∃ V, V = Nm.tx [b] := ⟨_, rfl⟩
  rw [← hV1] at hcv
  have hv1 : V1.size = 1 := by rw [hV1]; rfl
  obtain ⟨V, hV⟩ : ∃ V, V = V1 ++ U := ⟨_, rfl⟩
  have hvs : V.size = 1 + U.size := by rw [hV, ByteArray.size_append, hv1]
  have hv0 : V.get! 0 = b := by rw [hV, Nm.get_left V1 U 0 (by omega), hV1]; rfl
  have hca := Nm.count_app S V (by omega) (by rw [hv0]; omega)
  have hcp := Nm.count_pos V (by omega)
  have hcs := Lib.runeCount_le S
  have hcvv := Lib.runeCount_le V
  have hSV : (S ++ V).size = S.size + V.size := ByteArray.size_append
  have cA := fun w => width_any (S ++ V) w (by omega)
  have cS := fun w => width_any S w (by omega)
  have cV := fun w => width_any V w (by omega)
  rw [hca] at cA
  have hsum1 : ¬ 9223372036854775807 < 1 + U.size := by omega
  have hsum2 : ¬ 9223372036854775807 < S.size + V.size := by omega
  obtain ⟨p, hp⟩ : ∃ p, p = Lib.runeCount S := ⟨_, rfl⟩
  obtain ⟨q, hq⟩ : ∃ q, q = Lib.runeCount V := ⟨_, rfl⟩
  rw [← hp] at cA cS hcs
  rw [← hq] at cA cV hcp hcvv
  have hadd : IntKind.i64.wrap ((p : Int) + (q : Int)) = ((p + q : Nat) : Int) := by rw [IntWalk.i64_in _ (by omega)]; omega
  have hqI : (1 : Int) ≤ (q : Int) := by omega
  have hpI : (p : Int) ≤ (S.size : Int) := by omega
  have HV := Lib.hid hV
  clear hrd hb hbm hk hcell hV1 hV hvs hv0 hca hSV hp hq k1
  go_upto_region 3 with fail
  rw [← HS.out]
  go_region
  rw [← HU.out, ← HV.out]
  go_wp2_with (first | (go_at_call 28; refine (cA _).mono ?_; rintro e w2 ⟨rfl, k2⟩) | (go_at_call 28; refine (cS _).mono ?_; rintro e w3 ⟨rfl, k3⟩) | (go_at_call 28; refine (cV _).mono ?_; rintro e w4 ⟨rfl, k4⟩))
  rename_i wa ka wb kb
  go_ret
  exact ⟨by simp, ((((K1.trans k2 (by simp)).trans ka (by simp)).trans kb (by simp)).trans k4 (by simp)).trans k3 (by simp)⟩

theorem wf_u8 {n : Int} (h : (Lit.int .u8 n).wf = true) : 0 ≤ n ∧ n ≤ 255 := by
  simpa [Lit.wf, IntKind.min, IntKind.max, IntKind.signed, IntKind.bits] using h


theorem nameWidths_readable : Tryd.f8.params.toList.all (fun t => Tryd.prog.readableRec t && decide (t < Tryd.prog.types.size)) = true := by kernel_rfl

open Go.ChangeShapes Go.WideShapes Go.ChangeAt in
set_option maxRecDepth 100000 in
theorem nameWidths_contract (H : Type) (enc : TypeId × Value → H) (W : World) (base : Nat) (args : Array Value) (ds gs : List (DataW H)) (before : List MemPlace)
    (hval : ∀ (j : Nat) t v, Tryd.f8.params[j]? = some t → args[j]? = some v → Value.okWide Tryd.prog W .any base t v)
    (hW : DataW.Whole enc Tryd.prog Tryd.f8.params.toList Rows.nameWidthsSpec.vars false W args.toList ds gs before) (hL : laidMetH Tryd.prog Rows.nameWidthsRow.laid W) (hSh : W.ShapedOpen Tryd.prog) (hS : (DataW.weightsEach Tryd.prog (Tryd.f8.params.toList ++ Rows.nameWidthsSpec.plain.varTypes Tryd.prog) (ds ++ gs)).all (· ≤ reachBytes) = true) :
    Calls Tryd.prog 8 args W fun e W' => ∃ v, e = .returned v ∧ Rows.nameWidthsSpec.post enc Tryd.prog Tryd.f8 false true false false W args v W' := by
  have hW' := hW
  obtain ⟨p, q, hA0, hV, rfl, _, _⟩ := hW
  have hA : DataW.TrodAll enc Tryd.prog W 0 (fun _ => true) true Tryd.f8.params.toList args.toList ds p := hA0
  rw [Tryd.params8] at hA hval
  obtain ⟨v0, v1, v2, d0, d1, d2, p0, p1, p2, rfl, rfl, rfl, h0, h1, h2⟩ := trodAll_three hA
  obtain ⟨rfl, rfl⟩ := trodVars_none hV
  obtain ⟨s, rfl, rfl, rfl, _⟩ := Go.ChangeMaps.open_string Tryd.underlying9 (hval 0 9 v0 rfl rfl) h0
  obtain ⟨t, rfl, rfl, rfl, _⟩ := Go.ChangeMaps.open_string Tryd.underlying9 (hval 1 9 v1 rfl rfl) h1
  obtain ⟨c, rfl, rfl, rfl, w2⟩ := open_int Tryd.underlying5 (hval 2 5 v2 rfl rfl) h2
  have hb := wf_u8 w2
  refine (nameWidths_walk s t c W (tabs_of hL hSh) hb.1 hb.2).mono fun e W' ⟨he, hk⟩ => ?_
  have _u := hS
  subst he
  exact ⟨_, rfl, law_post Tryd.laidOut nameWidths_readable rfl Tryd.underlying4 rfl hW' rfl hk.below0⟩

set_option maxRecDepth 100000 in
theorem nameWidths_lifted (os : Os) (started : os.Started) (H : Type) (enc : TypeId × Value → H) :
    ReturnsInHanded {} Tryd.checked os 8 .any (fun w args => (Rows.nameWidthsSpec.pre enc Tryd.prog Tryd.f8 Rows.nameWidthsRow.domain false w args ∧ laidMetH Tryd.prog Rows.nameWidthsRow.laid w) ∧ sizedMet enc Tryd.prog Tryd.f8 (OpenSpec.ofChange Rows.nameWidthsSpec) false w args)
      (Rows.nameWidthsSpec.post enc Tryd.prog Tryd.f8 false true false false) := by
  refine handed_and_shaped (C := Tryd.checked) (X := fun w _ => laidMetH Tryd.prog Rows.nameWidthsRow.laid w) (fun _ _ _ hh h => h.of_heap hh) Tryd.own started (by kernel_rfl) Tryd.func8
    (ChangeSpec.witness_shaped (enc := enc) (C := Tryd.checked) (os := os) (X := fun w _ => laidMetH Tryd.prog Rows.nameWidthsRow.laid w) false (World.laidAll Tryd.prog os Rows.nameWidthsRow.laid) #[.string ⟨#[]⟩, .string ⟨#[]⟩, .int .u8 0] 8 (World.laidAll_os _ _ _)
      (World.shaped_of_ZipB (by kernel_rfl) (by kernel_rfl)) (by kernel_rfl) (by kernel_rfl) (by kernel_rfl)
      (by rw [MakeChecks.laidMetH_plain _ _ _ (by kernel_rfl)]; exact laidMet_laidAll _ (by kernel_rfl) (by kernel_rfl))) ?_
  intro W base args ds gs before hval hW _ hS hL hSh _
  exact nameWidths_contract H enc W base args ds gs before hval hW hL hSh hS

theorem nameWidths_row_holds : Rows.NameWidthsSaid :=
  OpenClaim.holds_of_wide 8 Tryd.f8 rfl rfl rfl rfl rfl rfl rfl ⟨rfl, rfl, rfl, rfl, rfl⟩ rfl rfl rfl rfl rfl (by kernel_rfl) Tryd.func8 (by kernel_rfl)
    (of_decide_eq_true (by kernel_rfl)) (by unfold Func.isWrapper; first | (rw [if_pos (by decide +kernel)]; kernel_rfl) | (rw [if_neg (by decide +kernel)]; exact ⟨rfl, rfl⟩))
    (fun os started H enc _ => nameWidths_lifted os started H enc)

theorem nameWidths_holds : Rows.NameWidthsCardSaid :=
  Claim7.holds_tied_plain_at .later [] [.data, .pinned] true (true, "284c49cd6a5ef03cb0b10374fb715a4f6b6efd2702ce299b808f79c75d858a0b") false nameWidths_row_holds (fun _ h => by cases h) (by kernel_rfl) (fun _ h => by cases h) nameWidths_row_tie rfl ⟨rfl, rfl⟩ (by kernel_rfl) rfl
    (fun f fn hf hfn => by
      obtain rfl : f = 8 := Option.some.inj ((show Tryd.prog.funcNamed "wainscot/wainscotlaw10.NameWidths" = some 8 by kernel_rfl).symm.trans hf) |>.symm
      obtain rfl : fn = Tryd.f8 := (Option.some.inj (Tryd.func8.symm.trans hfn)).symm
      exact ⟨by kernel_rfl, fun j t ht => by
        have hm : t ∈ Tryd.f8.params.toList := by simpa using Array.mem_of_getElem? ht
        have hall : (Tryd.f8.params.toList.all fun u => !Tryd.prog.wantsStandIn u) = true := by kernel_rfl
        exact (show Tryd.prog.wantsStandIn t = false by simpa using List.all_eq_true.1 hall t hm)⟩)
    (by kernel_rfl)

#print axioms nameWidths_holds
end Go.Proofs.YtbmbjedpeepnfaaDoor
