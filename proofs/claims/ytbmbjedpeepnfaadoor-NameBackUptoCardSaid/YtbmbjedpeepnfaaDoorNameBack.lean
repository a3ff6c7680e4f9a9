/-
  NameBack, of a bulk of at most 1048576: Split and Join are each other's: the law returns true, for any text, any names. Condition: the arguments' bulk, as the statement's own form has it.
-/
import Derived.Test.YtbmbjedpeepnfaaDoorNmM
import Derived.Test.YtbmbjedpeepnfaaDoorArith
namespace Go.Proofs.YtbmbjedpeepnfaaDoor
open Go.RowKit

theorem ext300b (s : ByteArray) : (s.extract 0 (min (s.size : Int) 300).toNat).size ≤ 300 := by
  rw [ByteArray.size_extract]; omega

set_option maxRecDepth 100000 in
set_option maxHeartbeats 3200000 in
theorem nameBack_walk (s : ByteArray) (ao : Option Addr) (l : List ByteArray) (c : Nat) (w : World) (hc : l.length ≤ c) (hcm : c ≤ 9223372036854775807) (hn : ao = none → l = [] ∧ c = 0) (S : StrsP w ao l) (hj : (Nm.jl (l.take 30)).length ≤ 1048576) (T : Tabs w) :
    Calls Tryd.prog 10 #[.string s, .slice ao l.length c] w fun e w' => e = .returned (.bool true) ∧ Keep [] w w' := by
  obtain ⟨X, hX⟩ : ∃ X, X = s.extract 0 (min (s.size : Int) 300).toNat := ⟨_, rfl⟩
  have hX1 : X.size ≤ 300 := by rw [hX]; exact ext300b s
  have HX := Lib.hid hX
  obtain ⟨L, hL⟩ : ∃ L, L = l.take 30 := ⟨_, rfl⟩
  have SL : StrsP w ao L := by rw [hL]; exact S.take 30
  have hLl : (min (l.length : Int) 30).toNat = L.length := by rw [hL, List.length_take]; omega
  have hL30 : L.length ≤ 30 := by rw [hL, List.length_take]; omega
  have hLc : L.length ≤ c := by rw [hL, List.length_take]; omega
  rw [← hL] at hj
  have HLl := Lib.hid hLl
  have HT := Lib.hid T
  have HSL := Lib.hid SL
  have hao : (ao = none ∧ l = [] ∧ c = 0) ∨ ∃ a, ao = some a := by
    cases ao with
    | none => exact Or.inl ⟨rfl, hn rfl⟩
    | some a => exact Or.inr ⟨a, rfl⟩
  clear hX hLl T S SL hL hn
  go_enter Tryd.func10, Tryd.ntmps10
  go_wp2_with fail
  refine (shown_any w HT.out).mono ?_
  rintro e w1 ⟨rfl, k1⟩
  have hsX : Nm.split X = none ∨ ∃ a, Nm.split X = some a := by cases Nm.split X <;> simp
  rcases hao with ⟨rfl, rfl, rfl⟩ | ⟨a, rfl⟩
  · go_wp2_with fail
    have h0 : (min (0 : Int) 30).toNat = L.length := by rw [List.eq_nil_of_length_eq_zero (show L.length = 0 by omega)]; rfl
    rw [h0, ← HX.out]
    clear h0 HLl HX
    rcases hsX with hsX | ⟨b, hsX⟩
    · have HA := Lib.hid hsX
      clear hsX
      refine (split_any X w1 (by omega) (HT.out.step k1)).mono ?_
      intro e w2 o
      obtain ⟨aa, rfl, k2⟩ := o.no HA.out
      have K := k1.trans k2 (by simp)
      clear k1 k2 o
      by_cases hs6 : Nm.split (Nm.jtx L) = some L
      · have cS6 := fun w T => split_any (Nm.jtx L) w (by rw [Nm.jtx_size]; omega) T
        obtain ⟨P, hP⟩ : ∃ P, P = Nm.jtx L := ⟨_, rfl⟩
        have h200 : ((Nm.jtx L).size : Int) ≤ 200 := by have := (Nm.split_some hs6).2.2; omega
        have H6 := Lib.hid hs6
        rw [← hP] at cS6 h200
        have HP := Lib.hid hP
        clear hs6 hP
        go_wp2_with fail
        refine (join_any _ L _ _ (HSL.out.keep K) (by omega) hLc (by omega) (HT.out.step K)).mono ?_
        intro e w5 o5
        obtain ⟨rfl, k5⟩ := o5.yes H6.out
        rw [← HP.out]
        have K5 := K.trans k5 (by simp)
        clear K k5 o5
        go_wp2_with fail
        refine (cS6 w5 (HT.out.step K5)).mono ?_
        intro e w6 o6
        obtain ⟨ab, rfl, sb, k6⟩ := o6.yes (by rw [HP.out]; exact H6.out)
        have K6 := K5.trans k6 (by simp)
        clear K5 k6 o6 cS6
        go_wp2_with fail
        refine (same_any _ _ L _ _ _ sb.p (HSL.out.keep K6) (by omega)).mono ?_
        rintro e w7 ⟨rfl, k7⟩
        go_wp2
        go_ret
        exact ⟨by simp, K6.trans k7 (by simp)⟩
      · have H6 := Lib.hid hs6
        clear hs6
        go_wp2_with fail
        refine (join_any _ L _ _ (HSL.out.keep K) (by omega) hLc (by omega) (HT.out.step K)).mono ?_
        intro e w5 o5
        obtain ⟨rfl, k5⟩ := o5.no H6.out
        have K5 := K.trans k5 (by simp)
        clear K k5 o5
        go_wp2
        go_ret
        exact ⟨by simp, K5⟩
    · have hXa := (Nm.split_some hsX).1
      have hra := (Nm.split_some hsX).2.1
      have hsa : Nm.split (Nm.jtx b) = some b := by rw [← hXa]; exact hsX
      have hja : (Nm.jl b).length ≤ 300 := by rw [hXa, Nm.jtx_size] at hX1; omega
      have HA := Lib.hid hsX
      have HSA := Lib.hid hsa
      have HXA := Lib.hid hXa
      have HRA := Lib.hid hra
      clear hsX hsa hXa hra
      refine (split_any X w1 (by omega) (HT.out.step k1)).mono ?_
      intro e w2 o
      have hlb := o.len HA.out
      obtain ⟨aa, rfl, sa, k2⟩ := o.yes HA.out
      have K2 := k1.trans k2 (by simp)
      have SA := Lib.hid sa
      clear k1 k2 o sa
      go_wp2_with fail
      refine (join_any _ b b.length _ SA.out.p hlb (Nat.le_refl _) (by omega) (HT.out.step K2)).mono ?_
      intro e w3 o3
      obtain ⟨rfl, k3⟩ := o3.yes HSA.out
      rw [← HXA.out]
      clear o3
      go_wp2_with fail
      go_loopw [10] (fun i wr => ∃ k : Nat, i = .int .i64 k ∧ k ≤ b.length ∧ Keep [] w2 wr) (fun i _ => b.length - (intOf i).toNat)
      case atStart => exact ⟨0, rfl, Nat.zero_le _, k3⟩
      case round =>
        obtain ⟨k, rfl, hk, kr⟩ := hrel
        by_cases hlt : k < b.length
        · obtain ⟨x, hxk⟩ : ∃ x, b[k]? = some x := ⟨_, List.getElem?_eq_getElem hlt⟩
          have hrx := HRA.out x (List.mem_of_getElem? hxk)
          have hxz := Nm.right_le hrx
          rcases SA.out with ⟨_, h⟩ | ⟨g, rfl, B, _⟩
          · rw [h] at hlt; exact absurd hlt (by simp)
          have hcell : wr.cell? ⟨g, k, none⟩ = some (.string x) := by
            rw [(B.keep kr (by simp)).cell k, List.getElem?_map, hxk]; rfl
          have cR := right_any x wr (by omega) (HT.out.step (K2.trans kr (by simp)))
          rw [hrx] at cR
          clear hxk hrx B
          go_wp2_with (go_at_call 29; refine cR.mono ?_; rintro e w' ⟨rfl, k5⟩)
          go_roundw
          case rel => exact ⟨k + 1, by go_num, by omega, kr.trans k5 (by simp)⟩
          case measure => simp [intOf]; omega
        · have K := K2.trans kr (by simp)
          clear kr k3
          by_cases hs6 : Nm.split (Nm.jtx L) = some L
          · have cS6 := fun w T => split_any (Nm.jtx L) w (by rw [Nm.jtx_size]; omega) T
            obtain ⟨P, hP⟩ : ∃ P, P = Nm.jtx L := ⟨_, rfl⟩
            have h200 : ((Nm.jtx L).size : Int) ≤ 200 := by have := (Nm.split_some hs6).2.2; omega
            have H6 := Lib.hid hs6
            rw [← hP] at cS6 h200
            have HP := Lib.hid hP
            clear hs6 hP
            go_wp2_with fail
            refine (join_any _ L _ _ (HSL.out.keep K) (by omega) hLc (by omega) (HT.out.step K)).mono ?_
            intro e w5 o5
            obtain ⟨rfl, k5⟩ := o5.yes H6.out
            rw [← HP.out]
            have K5 := K.trans k5 (by simp)
            clear K k5 o5
            go_wp2_with fail
            refine (cS6 w5 (HT.out.step K5)).mono ?_
            intro e w6 o6
            obtain ⟨ab, rfl, sb, k6⟩ := o6.yes (by rw [HP.out]; exact H6.out)
            have K6 := K5.trans k6 (by simp)
            clear K5 k6 o6 cS6
            go_wp2_with fail
            refine (same_any _ _ L _ _ _ sb.p (HSL.out.keep K6) (by omega)).mono ?_
            rintro e w7 ⟨rfl, k7⟩
            go_wp2
            go_ret
            exact ⟨by simp, K6.trans k7 (by simp)⟩
          · have H6 := Lib.hid hs6
            clear hs6
            go_wp2_with fail
            refine (join_any _ L _ _ (HSL.out.keep K) (by omega) hLc (by omega) (HT.out.step K)).mono ?_
            intro e w5 o5
            obtain ⟨rfl, k5⟩ := o5.no H6.out
            have K5 := K.trans k5 (by simp)
            clear K k5 o5
            go_wp2
            go_ret
            exact ⟨by simp, K5⟩
  · go_wp2_with fail
    rw [HLl.out, ← HX.out]
    clear HLl HX
    rcases hsX with hsX | ⟨b, hsX⟩
    · have HA := Lib.hid hsX
      clear hsX
      refine (split_any X w1 (by omega) (HT.out.step k1)).mono ?_
      intro e w2 o
      obtain ⟨aa, rfl, k2⟩ := o.no HA.out
      have K := k1.trans k2 (by simp)
      clear k1 k2 o
      by_cases hs6 : Nm.split (Nm.jtx L) = some L
      · have cS6 := fun w T => split_any (Nm.jtx L) w (by rw [Nm.jtx_size]; omega) T
        obtain ⟨P, hP⟩ : ∃ P, P = Nm.jtx L := ⟨_, rfl⟩
        have h200 : ((Nm.jtx L).size : Int) ≤ 200 := by have := (Nm.split_some hs6).2.2; omega
        have H6 := Lib.hid hs6
        rw [← hP] at cS6 h200
        have HP := Lib.hid hP
        clear hs6 hP
        go_wp2_with fail
        refine (join_any _ L _ _ (HSL.out.keep K) (by omega) hLc (by omega) (HT.out.step K)).mono ?_
        intro e w5 o5
        obtain ⟨rfl, k5⟩ := o5.yes H6.out
        rw [← HP.out]
        have K5 := K.trans k5 (by simp)
        clear K k5 o5
        go_wp2_with fail
        refine (cS6 w5 (HT.out.step K5)).mono ?_
        intro e w6 o6
        obtain ⟨ab, rfl, sb, k6⟩ := o6.yes (by rw [HP.out]; exact H6.out)
        have K6 := K5.trans k6 (by simp)
        clear K5 k6 o6 cS6
        go_wp2_with fail
        refine (same_any _ _ L _ _ _ sb.p (HSL.out.keep K6) (by omega)).mono ?_
        rintro e w7 ⟨rfl, k7⟩
        go_wp2
        go_ret
        exact ⟨by simp, K6.trans k7 (by simp)⟩
      · have H6 := Lib.hid hs6
        clear hs6
        go_wp2_with fail
        refine (join_any _ L _ _ (HSL.out.keep K) (by omega) hLc (by omega) (HT.out.step K)).mono ?_
        intro e w5 o5
        obtain ⟨rfl, k5⟩ := o5.no H6.out
        have K5 := K.trans k5 (by simp)
        clear K k5 o5
        go_wp2
        go_ret
        exact ⟨by simp, K5⟩
    · have hXa := (Nm.split_some hsX).1
      have hra := (Nm.split_some hsX).2.1
      have hsa : Nm.split (Nm.jtx b) = some b := by rw [← hXa]; exact hsX
      have hja : (Nm.jl b).length ≤ 300 := by rw [hXa, Nm.jtx_size] at hX1; omega
      have HA := Lib.hid hsX
      have HSA := Lib.hid hsa
      have HXA := Lib.hid hXa
      have HRA := Lib.hid hra
      clear hsX hsa hXa hra
      refine (split_any X w1 (by omega) (HT.out.step k1)).mono ?_
      intro e w2 o
      have hlb := o.len HA.out
      obtain ⟨aa, rfl, sa, k2⟩ := o.yes HA.out
      have K2 := k1.trans k2 (by simp)
      have SA := Lib.hid sa
      clear k1 k2 o sa
      go_wp2_with fail
      refine (join_any _ b b.length _ SA.out.p hlb (Nat.le_refl _) (by omega) (HT.out.step K2)).mono ?_
      intro e w3 o3
      obtain ⟨rfl, k3⟩ := o3.yes HSA.out
      rw [← HXA.out]
      clear o3
      go_wp2_with fail
      go_loopw [10] (fun i wr => ∃ k : Nat, i = .int .i64 k ∧ k ≤ b.length ∧ Keep [] w2 wr) (fun i _ => b.length - (intOf i).toNat)
      case atStart => exact ⟨0, rfl, Nat.zero_le _, k3⟩
      case round =>
        obtain ⟨k, rfl, hk, kr⟩ := hrel
        by_cases hlt : k < b.length
        · obtain ⟨x, hxk⟩ : ∃ x, b[k]? = some x := ⟨_, List.getElem?_eq_getElem hlt⟩
          have hrx := HRA.out x (List.mem_of_getElem? hxk)
          have hxz := Nm.right_le hrx
          rcases SA.out with ⟨_, h⟩ | ⟨g, rfl, B, _⟩
          · rw [h] at hlt; exact absurd hlt (by simp)
          have hcell : wr.cell? ⟨g, k, none⟩ = some (.string x) := by
            rw [(B.keep kr (by simp)).cell k, List.getElem?_map, hxk]; rfl
          have cR := right_any x wr (by omega) (HT.out.step (K2.trans kr (by simp)))
          rw [hrx] at cR
          clear hxk hrx B
          go_wp2_with (go_at_call 29; refine cR.mono ?_; rintro e w' ⟨rfl, k5⟩)
          go_roundw
          case rel => exact ⟨k + 1, by go_num, by omega, kr.trans k5 (by simp)⟩
          case measure => simp [intOf]; omega
        · have K := K2.trans kr (by simp)
          clear kr k3
          by_cases hs6 : Nm.split (Nm.jtx L) = some L
          · have cS6 := fun w T => split_any (Nm.jtx L) w (by rw [Nm.jtx_size]; omega) T
            obtain ⟨P, hP⟩ : ∃ P, P = Nm.jtx L := ⟨_, rfl⟩
            have h200 : ((Nm.jtx L).size : Int) ≤ 200 := by have := (Nm.split_some hs6).2.2; omega
            have H6 := Lib.hid hs6
            rw [← hP] at cS6 h200
            have HP := Lib.hid hP
            clear hs6 hP
            go_wp2_with fail
            refine (join_any _ L _ _ (HSL.out.keep K) (by omega) hLc (by omega) (HT.out.step K)).mono ?_
            intro e w5 o5
            obtain ⟨rfl, k5⟩ := o5.yes H6.out
            rw [← HP.out]
            have K5 := K.trans k5 (by simp)
            clear K k5 o5
            go_wp2_with fail
            refine (cS6 w5 (HT.out.step K5)).mono ?_
            intro e w6 o6
            obtain ⟨ab, rfl, sb, k6⟩ := o6.yes (by rw [HP.out]; exact H6.out)
            have K6 := K5.trans k6 (by simp)
            clear K5 k6 o6 cS6
            go_wp2_with fail
            refine (same_any _ _ L _ _ _ sb.p (HSL.out.keep K6) (by omega)).mono ?_
            rintro e w7 ⟨rfl, k7⟩
            go_wp2
            go_ret
            exact ⟨by simp, K6.trans k7 (by simp)⟩
          · have H6 := Lib.hid hs6
            clear hs6
            go_wp2_with fail
            refine (join_any _ L _ _ (HSL.out.keep K) (by omega) hLc (by omega) (HT.out.step K)).mono ?_
            intro e w5 o5
            obtain ⟨rfl, k5⟩ := o5.no H6.out
            have K5 := K.trans k5 (by simp)
            clear K k5 o5
            go_wp2
            go_ret
            exact ⟨by simp, K5⟩


theorem nameBack_readable : Tryd.f10.params.toList.all (fun t => Tryd.prog.readableRec t && decide (t < Tryd.prog.types.size)) = true := by kernel_rfl

open Go.ChangeShapes Go.WideShapes Go.ChangeAt in
set_option maxRecDepth 100000 in
theorem nameBack_contract (H : Type) (enc : TypeId × Value → H) (W : World) (base : Nat) (args : Array Value) (ds gs : List (DataW H)) (before : List MemPlace)
    (hval : ∀ (j : Nat) t v, Tryd.f10.params[j]? = some t → args[j]? = some v → Value.okWide Tryd.prog W .any base t v)
    (hW : DataW.Whole enc Tryd.prog Tryd.f10.params.toList Rows.nameBackSpec.vars false W args.toList ds gs before) (hB : Rows.uptoBulkAll (ds ++ gs) ≤ 1048576) (hL : laidMetH Tryd.prog Rows.nameBackUptoRow.laid W) (hSh : W.ShapedOpen Tryd.prog) (hS : (DataW.weightsEach Tryd.prog (Tryd.f10.params.toList ++ Rows.nameBackSpec.plain.varTypes Tryd.prog) (ds ++ gs)).all (· ≤ reachBytes) = true) :
    Calls Tryd.prog 10 args W fun e W' => ∃ v, e = .returned v ∧ Rows.nameBackSpec.post enc Tryd.prog Tryd.f10 false true false false W args v W' := by
  have hW' := hW
  obtain ⟨p, q, hA0, hV, rfl, _, _⟩ := hW
  have hA : DataW.TrodAll enc Tryd.prog W 0 (fun _ => true) true Tryd.f10.params.toList args.toList ds p := hA0
  rw [Tryd.params10] at hA hval
  obtain ⟨v0, v1, d0, d1, p0, p1, rfl, rfl, rfl, h0, h1⟩ := trodAll_two hA
  obtain ⟨rfl, rfl⟩ := trodVars_none hV
  obtain ⟨s, rfl, rfl, rfl, _⟩ := Go.ChangeMaps.open_string Tryd.underlying9 (hval 0 9 v0 rfl rfl) h0
  obtain ⟨ao, l, c, rfl, hc, hcm, hn, hS1, hd⟩ := open_names (e := 9) Tryd.underlying29 Tryd.underlying9 (by kernel_rfl) (hval 1 29 v1 rfl rfl) h1
  have hb1 : Rows.uptoBulk d1 ≤ 1048576 := by
    simp only [List.cons_append, List.nil_append, Rows.uptoBulkAll] at hB
    omega
  refine (nameBack_walk s ao l c W hc hcm hn hS1 (jl_bound hd hb1 30) (tabs_of hL hSh)).mono fun e W' ⟨he, hk⟩ => ?_
  have _u := hS
  subst he
  exact ⟨_, rfl, law_post Tryd.laidOut nameBack_readable rfl Tryd.underlying4 rfl hW' rfl hk.below0⟩

set_option maxRecDepth 100000 in
theorem nameBack_reads (os : Os) {H : Type} (enc : TypeId × Value → H) : ∃ places, DataW.whole enc Tryd.prog ((World.laidAll Tryd.prog os Rows.nameBackUptoRow.laid).forCall (fun _ _ => 0) ⟨#[], #[.string ⟨#[]⟩, .slice none 0 0], []⟩).memory Tryd.f10.params.toList Rows.nameBackSpec.vars false (#[.string ⟨#[]⟩, .slice none 0 0] : Array Value).toList 8 = some ([.lit (.string []), .nil], [], places) :=
  ⟨[], by kernel_rfl⟩

set_option maxRecDepth 100000 in
theorem nameBack_met (os : Os) : laidMetH Tryd.prog Rows.nameBackUptoRow.laid ((World.laidAll Tryd.prog os Rows.nameBackUptoRow.laid).forCall (fun _ _ => 0) ⟨#[], #[.string ⟨#[]⟩, .slice none 0 0], []⟩).memory := by
  rw [MakeChecks.laidMetH_plain _ _ _ (by kernel_rfl)]
  exact laidMet_laidAll _ (by kernel_rfl) (by kernel_rfl)

set_option maxRecDepth 100000 in
theorem nameBack_lifted (os : Os) (started : os.Started) (H : Type) (enc : TypeId × Value → H) (F : Stop.Interp) :
    ReturnsInHanded {} Tryd.checked os 10 .any ((Rows.OpenSpec.upto Rows.nameBackSpec).preRow enc Tryd.prog Tryd.f10 Rows.nameBackUptoRow.domain false Rows.nameBackUptoRow.laid) (((Rows.OpenSpec.upto Rows.nameBackSpec).at F).post enc Tryd.prog Tryd.f10 false true false false) := by
  obtain ⟨places, hx⟩ := nameBack_reads os enc
  refine returnsInHanded_of_row (C := Tryd.checked) (s := Rows.OpenSpec.upto Rows.nameBackSpec) Tryd.own started (by kernel_rfl) Tryd.func10
    (witness_row_at (enc := enc) (C := Tryd.checked) false (World.laidAll Tryd.prog os Rows.nameBackUptoRow.laid) #[.string ⟨#[]⟩, .slice none 0 0] (World.laidAll_os _ _ _) (by kernel_rfl) (by kernel_rfl) (by kernel_rfl)
      (OpenSpec.preRow_of_cond 8 hx (by kernel_rfl) (fun k hk => by cases hk; kernel_rfl) (by kernel_rfl) (nameBack_met os))) ?_
  intro W base args ds gs before hval hW _ hcond hS hL hSh _
  exact nameBack_contract H enc W base args ds gs before hval hW (of_decide_eq_true (hcond _ rfl)) hL hSh hS

theorem nameBack_row_holds : Rows.NameBackUptoSaid :=
  OpenClaim.holds_of_cond 10 Tryd.f10 rfl rfl rfl rfl rfl rfl rfl ⟨rfl, rfl, rfl, rfl, rfl⟩ rfl rfl rfl rfl rfl (by kernel_rfl) Tryd.func10 (by kernel_rfl)
    (of_decide_eq_true (by kernel_rfl)) (by unfold Func.isWrapper; first | (rw [if_pos (by decide +kernel)]; kernel_rfl) | (rw [if_neg (by decide +kernel)]; exact ⟨rfl, rfl⟩))
    (fun os started H enc _ F => by rw [OpenClaim.pre_eq_preRow]; exact nameBack_lifted os started H enc F)

theorem nameBack_holds : Rows.NameBackUptoCardSaid :=
  Claim7.holds_tied_plain_at .later [] _ _ _ _ nameBack_row_holds (fun _ h => by cases h) (by kernel_rfl) (fun _ h => by cases h) nameBackUpto_row_tie rfl ⟨rfl, rfl⟩ (by kernel_rfl) rfl
    (fun f fn hf hfn => by
      obtain rfl : f = 10 := Option.some.inj ((show Tryd.prog.funcNamed "wainscot/wainscotlaw10.NameBack" = some 10 by kernel_rfl).symm.trans hf) |>.symm
      obtain rfl : fn = Tryd.f10 := (Option.some.inj (Tryd.func10.symm.trans hfn)).symm
      exact ⟨by kernel_rfl, fun j t ht => by
        have hm : t ∈ Tryd.f10.params.toList := by simpa using Array.mem_of_getElem? ht
        have hall : (Tryd.f10.params.toList.all fun u => !Tryd.prog.wantsStandIn u) = true := by kernel_rfl
        exact (show Tryd.prog.wantsStandIn t = false by simpa using List.all_eq_true.1 hall t hm)⟩)
    (by kernel_rfl)

#print axioms nameBack_holds
end Go.Proofs.YtbmbjedpeepnfaaDoor
