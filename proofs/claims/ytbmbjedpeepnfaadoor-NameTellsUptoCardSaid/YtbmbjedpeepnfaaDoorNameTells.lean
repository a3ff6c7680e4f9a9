/-
  NameTells, of a bulk of at most 1048576: names and paths are what the document says: the law returns true, for any texts, names and number. Condition: the arguments' bulk, as the statement's own form has it.
-/
import Derived.Test.YtbmbjedpeepnfaaDoorNmR
import Derived.Test.YtbmbjedpeepnfaaDoorArith
namespace Go.Proofs.YtbmbjedpeepnfaaDoor
open Go.RowKit

theorem ext300t (s : ByteArray) : (s.extract 0 (min (s.size : Int) 300).toNat).size ≤ 300 := by
  rw [ByteArray.size_extract]; omega

set_option maxRecDepth 100000 in
set_option maxHeartbeats 12800000 in
theorem nameTells_walk (s t : ByteArray) (ao : Option Addr) (l : List ByteArray) (c : Nat) (n : Int) (w : World) (hc : l.length ≤ c) (hcm : c ≤ 9223372036854775807) (hn : ao = none → l = [] ∧ c = 0) (S : StrsP w ao l) (hj : (Nm.jl (l.take 30)).length ≤ 1048576)
    (hz : ∀ x ∈ l, x.size ≤ 1048576) (hn1 : n ≤ 9223372036854775807) (T : Tabs w) :
    Calls Tryd.prog 9 #[.string s, .string t, .slice ao l.length c, .int .i64 n] w fun e w' => e = .returned (.bool true) ∧ Keep [] w w' := by
  obtain ⟨i0, hi, hz0, hz1, hz2⟩ := info_parts info9
  obtain ⟨X, hX⟩ : ∃ X, X = s.extract 0 (min (s.size : Int) 300).toNat := ⟨_, rfl⟩
  have hX1 : X.size ≤ 300 := by rw [hX]; exact ext300t s
  have HX := Lib.hid hX
  obtain ⟨U, hU⟩ : ∃ U, U = t.extract 0 (min (t.size : Int) 300).toNat := ⟨_, rfl⟩
  have hU1 : U.size ≤ 300 := by rw [hU]; exact ext300t t
  have HU := Lib.hid hU
  obtain ⟨L, hL⟩ : ∃ L, L = l.take 30 := ⟨_, rfl⟩
  have SL : StrsP w ao L := by rw [hL]; exact S.take 30
  have hLl : (min (l.length : Int) 30).toNat = L.length := by rw [hL, List.length_take]; omega
  have hL30 : L.length ≤ 30 := by rw [hL, List.length_take]; omega
  have hLc : L.length ≤ c := by rw [hL, List.length_take]; omega
  have hzL : ∀ x ∈ L, x.size ≤ 10000000 := fun x hx => by
    have := hz x (by rw [hL] at hx; exact List.mem_of_mem_take hx)
    omega
  have HZ := Lib.hid hzL
  have hNW : ∀ W, Keep [] w W → ∀ a, ao = some a → ∀ (j : Nat) u, (L.map Value.string)[j]? = some u → W.cell? (a.add j) = some u := fun W kW a ha j u hu => by
    rcases SL with h | ⟨b, o, h1, h2, h3⟩
    · rw [h] at hu; simp at hu
    · rw [ha] at h1
      cases h1
      rw [List.getElem?_map] at hu
      obtain ⟨x, hx, rfl⟩ := Option.map_eq_some_iff.1 hu
      rw [Addr.add_lit, kW.cell (by exact h2) (by simp)]
      exact h3 j x hx
  have HNW := Lib.hid hNW
  rw [← hL] at hj
  have HLl := Lib.hid hLl
  have HT := Lib.hid T
  have HSL := Lib.hid SL
  have hao : (ao = none ∧ l = [] ∧ c = 0) ∨ ∃ a, ao = some a := by
    cases ao with
    | none => exact Or.inl ⟨rfl, hn rfl⟩
    | some a => exact Or.inr ⟨a, rfl⟩
  clear hX hU hLl T S SL hL hn hz hzL hNW
  go_enter Tryd.func9, Tryd.ntmps9
  go_wp2_with fail
  refine (shown_any w HT.out).mono ?_
  rintro e w1 ⟨rfl, K1⟩
  rcases hao with ⟨rfl, rfl, rfl⟩ | ⟨a0, rfl⟩
  · go_upto_region 5 with fail
    have h0 : (min (0 : Int) 30).toNat = L.length := by rw [List.eq_nil_of_length_eq_zero (show L.length = 0 by omega)]; rfl
    rw [h0, ← HX.out, ← HU.out]
    have hL0 : L.length = 0 := by omega
    have HL0 := Lib.hid hL0
    clear h0 HLl HX HU hL0
    have FA := Lib.hid (run_app_slice (P := Tryd.prog) (w1.alloc (.cells #[] 9)) 29 29 9 i0 _ 1 16 Tryd.underlying29 hi hz0 hz1 hz2 rfl (by decide) _ 0 [] (ownsRow_made0 w1 9 1) none L.length 0 (L.map Value.string) (by rw [List.length_map]; omega) (fun _ => ⟨HL0.out, rfl⟩) (HNW.out _ (K1.alloc _)) (fun u hu => by obtain ⟨y, _, rfl⟩ := List.mem_map.1 hu; rfl) (by unfold maxLen; omega) (by omega))
    simp only [Nat.zero_add, List.nil_append] at FA
    go_wp2_with (at_builtin; refine wpList_app rfl (.tmp 35) (.tmp 36) 29 29 rfl _ _ rfl rfl FA.out ?_; intro hv w8 hO; obtain ⟨ao8, cp8, rfl⟩ := hO.slice)
    have k8 : Keep [] w w8 := by
      have kA : Keep [] w (w1.alloc (.cells #[] 9)) := K1.alloc _
      refine (kA.mono (by simp)).grown hO.2.1 (fun x hx => Or.inr ?_)
      simp [Value.ownBlock] at hx
      have := K1.size
      omega
    obtain ⟨so, ho8, _⟩ := StrsP.ofOwn hO.1
    have SO := Lib.hid so
    clear so hO FA
    refine (split_any X w8 (by omega) (HT.out.step k8)).mono ?_
    rintro e w9 ⟨a, oka, aa, rfl, ha, sa, la, k9⟩
    have K9 := k8.trans k9 (by simp)
    have HA := Lib.hid ha
    have SA := Lib.hid sa
    clear ha sa
    go_wp2_with fail
    refine (rsplit_any X w9 (by omega)).mono ?_
    rintro e w10 ⟨b, okb, ab, cb, rfl, hb, sb, lb, hcb, k10⟩
    have K10 := K9.trans k10 (by simp)
    have hbe : okb = oka ∧ b = a := by
      rcases HA.out with ⟨h1, h2⟩ | ⟨h1, h2, h3⟩
      · rcases hb with ⟨h4, h5⟩ | ⟨h4, h5, h6⟩
        · rw [h2] at h5; exact ⟨by rw [h1, h4], (Option.some.inj h5).symm⟩
        · rw [h2] at h5; cases h5
      · rcases hb with ⟨h4, h5⟩ | ⟨h4, h5, h6⟩
        · rw [h2] at h5; cases h5
        · exact ⟨by rw [h1, h4], by rw [h3, h6]⟩
    obtain ⟨rfl, rfl⟩ := hbe
    have SB := Lib.hid sb
    have SA2 := Lib.hid (SA.out.keep k10)
    have SO2 := Lib.hid (SO.out.keep (k9.trans k10 (by simp)))
    clear hb sb HA SA SO k9 k10
    go_wp2_with fail
    refine (join_any ao8 L cp8 _ SO2.out (by omega) ho8 (by omega) (HT.out.step K10)).mono ?_
    rintro e w11 ⟨p, okp, rfl, hp, k11⟩
    have K11 := K10.trans k11 (by simp)
    have HP := Lib.hid hp
    clear hp
    go_wp2_with fail
    refine (rjoin_any none L 0 _ (HSL.out.keep K11) (by omega) HZ.out).mono ?_
    rintro e w12 ⟨q, okq, rfl, hq, k12⟩
    have K12 := K11.trans k12 (by simp)
    have hqe : okq = okp ∧ q = p := by
      rcases HP.out with ⟨h1, h2, h3⟩ | ⟨h1, h2, h3⟩
      · rcases hq with ⟨h4, h5, h6⟩ | ⟨h4, h5, h6⟩
        · exact ⟨by rw [h1, h4], by rw [h3, h6]⟩
        · exact absurd h2 h5
      · rcases hq with ⟨h4, h5, h6⟩ | ⟨h4, h5, h6⟩
        · exact absurd h5 h2
        · exact ⟨by rw [h1, h4], by rw [h3, h6]⟩
    obtain ⟨rfl, rfl⟩ := hqe
    have SB3 := Lib.hid (SB.out.keep (k11.trans k12 (by simp)))
    have SA3 := Lib.hid (SA2.out.keep (k11.trans k12 (by simp)))
    have SO3 := Lib.hid (SO2.out.keep (k11.trans k12 (by simp)))
    clear hq HP SB SA2 SO2 k11 k12
    go_wp2_with fail
    refine (right_any X _ (by omega) (HT.out.step K12)).mono ?_
    rintro e w13 ⟨rfl, k13⟩
    go_wp2_with fail
    refine (rright_any X _ (by omega)).mono ?_
    rintro e w14 ⟨rfl, k14⟩
    have k14' := k13.trans k14 (by simp)
    have K14 := K12.trans k14' (by simp)
    have beq1 : (Nm.right X == Nm.right X) = true := beq_self_eq_true _
    go_wp2_with fail
    refine (same_any _ _ b _ _ _ (SA3.out.keep k14').p (SB3.out.keep k14') lb).mono ?_
    rintro e w15 ⟨rfl, k15⟩
    have k15' := k14'.trans k15 (by simp)
    have K15 := K12.trans k15' (by simp)
    go_wp2_with fail
    refine (same_any _ _ L _ _ _ (SO3.out.keep k15') (HSL.out.keep K15) (by omega)).mono ?_
    rintro e w16 ⟨rfl, k16⟩
    have K16 := K15.trans k16 (by simp)
    go_wp2_with fail
    refine (width_any X _ (by omega)).mono ?_
    rintro e w17 ⟨rfl, k17⟩
    have K17 := K16.trans k17 (by simp)
    go_wp2_with fail
    refine (rwidth_any X _ (by omega)).mono ?_
    rintro e w18 ⟨rfl, k18⟩
    have K18 := K17.trans k18 (by simp)
    go_wp2_with fail
    refine (short_any X n _ (by omega) hn1).mono ?_
    rintro e w19 ⟨rfl, k19⟩
    have K19 := K18.trans k19 (by simp)
    go_wp2_with fail
    refine (rshort_any X n _ (by omega)).mono ?_
    rintro e w20 ⟨rfl, k20⟩
    have K20 := K19.trans k20 (by simp)
    go_wp2_with fail
    refine (below_any X U _ (by omega) (by omega) (HT.out.step K20)).mono ?_
    rintro e w21 ⟨rfl, k21⟩
    have K21 := K20.trans k21 (by simp)
    go_wp2_with fail
    refine (rbelow_any X U _ (by omega) (by omega)).mono ?_
    rintro e w22 ⟨rfl, k22⟩
    go_wp2
    go_ret
    exact ⟨by simp, K21.trans k22 (by simp)⟩
  · go_upto_region 5 with fail
    rw [HLl.out, ← HX.out, ← HU.out]
    clear HLl HX HU
    have FA := Lib.hid (run_app_slice (P := Tryd.prog) (w1.alloc (.cells #[] 9)) 29 29 9 i0 _ 1 16 Tryd.underlying29 hi hz0 hz1 hz2 rfl (by decide) _ 0 [] (ownsRow_made0 w1 9 1) (some a0) L.length c (L.map Value.string) (by rw [List.length_map]; omega) (fun h => by cases h) (HNW.out _ (K1.alloc _)) (fun u hu => by obtain ⟨y, _, rfl⟩ := List.mem_map.1 hu; rfl) (by unfold maxLen; omega) (by omega))
    simp only [Nat.zero_add, List.nil_append] at FA
    go_wp2_with (at_builtin; refine wpList_app rfl (.tmp 35) (.tmp 36) 29 29 rfl _ _ rfl rfl FA.out ?_; intro hv w8 hO; obtain ⟨ao8, cp8, rfl⟩ := hO.slice)
    have k8 : Keep [] w w8 := by
      have kA : Keep [] w (w1.alloc (.cells #[] 9)) := K1.alloc _
      refine (kA.mono (by simp)).grown hO.2.1 (fun x hx => Or.inr ?_)
      simp [Value.ownBlock] at hx
      have := K1.size
      omega
    obtain ⟨so, ho8, _⟩ := StrsP.ofOwn hO.1
    have SO := Lib.hid so
    clear so hO FA
    refine (split_any X w8 (by omega) (HT.out.step k8)).mono ?_
    rintro e w9 ⟨a, oka, aa, rfl, ha, sa, la, k9⟩
    have K9 := k8.trans k9 (by simp)
    have HA := Lib.hid ha
    have SA := Lib.hid sa
    clear ha sa
    go_wp2_with fail
    refine (rsplit_any X w9 (by omega)).mono ?_
    rintro e w10 ⟨b, okb, ab, cb, rfl, hb, sb, lb, hcb, k10⟩
    have K10 := K9.trans k10 (by simp)
    have hbe : okb = oka ∧ b = a := by
      rcases HA.out with ⟨h1, h2⟩ | ⟨h1, h2, h3⟩
      · rcases hb with ⟨h4, h5⟩ | ⟨h4, h5, h6⟩
        · rw [h2] at h5; exact ⟨by rw [h1, h4], (Option.some.inj h5).symm⟩
        · rw [h2] at h5; cases h5
      · rcases hb with ⟨h4, h5⟩ | ⟨h4, h5, h6⟩
        · rw [h2] at h5; cases h5
        · exact ⟨by rw [h1, h4], by rw [h3, h6]⟩
    obtain ⟨rfl, rfl⟩ := hbe
    have SB := Lib.hid sb
    have SA2 := Lib.hid (SA.out.keep k10)
    have SO2 := Lib.hid (SO.out.keep (k9.trans k10 (by simp)))
    clear hb sb HA SA SO k9 k10
    go_wp2_with fail
    refine (join_any ao8 L cp8 _ SO2.out (by omega) ho8 (by omega) (HT.out.step K10)).mono ?_
    rintro e w11 ⟨p, okp, rfl, hp, k11⟩
    have K11 := K10.trans k11 (by simp)
    have HP := Lib.hid hp
    clear hp
    go_wp2_with fail
    refine (rjoin_any (some a0) L c _ (HSL.out.keep K11) (by omega) HZ.out).mono ?_
    rintro e w12 ⟨q, okq, rfl, hq, k12⟩
    have K12 := K11.trans k12 (by simp)
    have hqe : okq = okp ∧ q = p := by
      rcases HP.out with ⟨h1, h2, h3⟩ | ⟨h1, h2, h3⟩
      · rcases hq with ⟨h4, h5, h6⟩ | ⟨h4, h5, h6⟩
        · exact ⟨by rw [h1, h4], by rw [h3, h6]⟩
        · exact absurd h2 h5
      · rcases hq with ⟨h4, h5, h6⟩ | ⟨h4, h5, h6⟩
        · exact absurd h5 h2
        · exact ⟨by rw [h1, h4], by rw [h3, h6]⟩
    obtain ⟨rfl, rfl⟩ := hqe
    have SB3 := Lib.hid (SB.out.keep (k11.trans k12 (by simp)))
    have SA3 := Lib.hid (SA2.out.keep (k11.trans k12 (by simp)))
    have SO3 := Lib.hid (SO2.out.keep (k11.trans k12 (by simp)))
    clear hq HP SB SA2 SO2 k11 k12
    go_wp2_with fail
    refine (right_any X _ (by omega) (HT.out.step K12)).mono ?_
    rintro e w13 ⟨rfl, k13⟩
    go_wp2_with fail
    refine (rright_any X _ (by omega)).mono ?_
    rintro e w14 ⟨rfl, k14⟩
    have k14' := k13.trans k14 (by simp)
    have K14 := K12.trans k14' (by simp)
    have beq1 : (Nm.right X == Nm.right X) = true := beq_self_eq_true _
    go_wp2_with fail
    refine (same_any _ _ b _ _ _ (SA3.out.keep k14').p (SB3.out.keep k14') lb).mono ?_
    rintro e w15 ⟨rfl, k15⟩
    have k15' := k14'.trans k15 (by simp)
    have K15 := K12.trans k15' (by simp)
    go_wp2_with fail
    refine (same_any _ _ L _ _ _ (SO3.out.keep k15') (HSL.out.keep K15) (by omega)).mono ?_
    rintro e w16 ⟨rfl, k16⟩
    have K16 := K15.trans k16 (by simp)
    go_wp2_with fail
    refine (width_any X _ (by omega)).mono ?_
    rintro e w17 ⟨rfl, k17⟩
    have K17 := K16.trans k17 (by simp)
    go_wp2_with fail
    refine (rwidth_any X _ (by omega)).mono ?_
    rintro e w18 ⟨rfl, k18⟩
    have K18 := K17.trans k18 (by simp)
    go_wp2_with fail
    refine (short_any X n _ (by omega) hn1).mono ?_
    rintro e w19 ⟨rfl, k19⟩
    have K19 := K18.trans k19 (by simp)
    go_wp2_with fail
    refine (rshort_any X n _ (by omega)).mono ?_
    rintro e w20 ⟨rfl, k20⟩
    have K20 := K19.trans k20 (by simp)
    go_wp2_with fail
    refine (below_any X U _ (by omega) (by omega) (HT.out.step K20)).mono ?_
    rintro e w21 ⟨rfl, k21⟩
    have K21 := K20.trans k21 (by simp)
    go_wp2_with fail
    refine (rbelow_any X U _ (by omega) (by omega)).mono ?_
    rintro e w22 ⟨rfl, k22⟩
    go_wp2
    go_ret
    exact ⟨by simp, K21.trans k22 (by simp)⟩

theorem bulk_mem {H : Type} {l : List ByteArray} {x : ByteArray} (h : x ∈ l) : x.size ≤ Rows.uptoBulkAll (Go.ChangeShapes.strs (H := H) l) := by
  have h1 := bulk_strs (H := H) l
  have h2 : ∀ m : List ByteArray, x ∈ m → x.size + 1 ≤ (m.map (fun x => x.size + 1)).sum := by
    intro m
    induction m with
    | nil => intro h; cases h
    | cons y m ih =>
      intro h
      simp only [List.map_cons, List.sum_cons]
      rcases List.mem_cons.1 h with rfl | h
      · omega
      · have := ih h; omega
  have h3 := h2 l h
  omega

theorem names_bound {H : Type} {l : List ByteArray} {d : DataW H} (hd : (d = .nil ∧ l = []) ∨ ∃ sp, d = .slice (Go.ChangeShapes.strs l) sp) (hb : Rows.uptoBulk d ≤ 1048576) : ∀ x ∈ l, x.size ≤ 1048576 := by
  intro x hx
  rcases hd with ⟨_, rfl⟩ | ⟨sp, rfl⟩
  · cases hx
  · have := bulk_mem (H := H) hx
    simp only [Rows.uptoBulk] at hb
    omega

theorem wf_i64n {n : Int} (h : (Lit.int .i64 n).wf = true) : -9223372036854775808 ≤ n ∧ n ≤ 9223372036854775807 := by
  simpa [Lit.wf, IntKind.min, IntKind.max, IntKind.signed, IntKind.bits] using h


theorem nameTells_readable : Tryd.f9.params.toList.all (fun t => Tryd.prog.readableRec t && decide (t < Tryd.prog.types.size)) = true := by kernel_rfl

open Go.ChangeShapes Go.WideShapes Go.ChangeAt in
set_option maxRecDepth 100000 in
theorem nameTells_contract (H : Type) (enc : TypeId × Value → H) (W : World) (base : Nat) (args : Array Value) (ds gs : List (DataW H)) (before : List MemPlace)
    (hval : ∀ (j : Nat) t v, Tryd.f9.params[j]? = some t → args[j]? = some v → Value.okWide Tryd.prog W .any base t v)
    (hW : DataW.Whole enc Tryd.prog Tryd.f9.params.toList Rows.nameTellsSpec.vars false W args.toList ds gs before) (hB : Rows.uptoBulkAll (ds ++ gs) ≤ 1048576) (hL : laidMetH Tryd.prog Rows.nameTellsUptoRow.laid W) (hSh : W.ShapedOpen Tryd.prog) (hS : (DataW.weightsEach Tryd.prog (Tryd.f9.params.toList ++ Rows.nameTellsSpec.plain.varTypes Tryd.prog) (ds ++ gs)).all (· ≤ reachBytes) = true) :
    Calls Tryd.prog 9 args W fun e W' => ∃ v, e = .returned v ∧ Rows.nameTellsSpec.post enc Tryd.prog Tryd.f9 false true false false W args v W' := by
  have hW' := hW
  obtain ⟨p, q, hA0, hV, rfl, _, _⟩ := hW
  have hA : DataW.TrodAll enc Tryd.prog W 0 (fun _ => true) true Tryd.f9.params.toList args.toList ds p := hA0
  rw [Tryd.params9] at hA hval
  obtain ⟨v0, v1, v2, v3, d0, d1, d2, d3, p0, p1, p2, p3, rfl, rfl, rfl, h0, h1, h2, h3⟩ := trodAll_four hA
  obtain ⟨rfl, rfl⟩ := trodVars_none hV
  obtain ⟨s, rfl, rfl, rfl, _⟩ := Go.ChangeMaps.open_string Tryd.underlying9 (hval 0 9 v0 rfl rfl) h0
  obtain ⟨t, rfl, rfl, rfl, _⟩ := Go.ChangeMaps.open_string Tryd.underlying9 (hval 1 9 v1 rfl rfl) h1
  obtain ⟨ao, l, c, rfl, hc, hcm, hn, hS1, hd⟩ := open_names (e := 9) Tryd.underlying29 Tryd.underlying9 (by kernel_rfl) (hval 2 29 v2 rfl rfl) h2
  obtain ⟨n, rfl, rfl, rfl, w3⟩ := open_int Tryd.underlying3 (hval 3 3 v3 rfl rfl) h3
  have hb1 : Rows.uptoBulk d2 ≤ 1048576 := by
    simp only [List.cons_append, List.nil_append, Rows.uptoBulkAll] at hB
    omega
  refine (nameTells_walk s t ao l c n W hc hcm hn hS1 (jl_bound hd hb1 30) (names_bound hd hb1) (wf_i64n w3).2 (tabs_of hL hSh)).mono fun e W' ⟨he, hk⟩ => ?_
  have _u := hS
  subst he
  exact ⟨_, rfl, law_post Tryd.laidOut nameTells_readable rfl Tryd.underlying4 rfl hW' rfl hk.below0⟩

set_option maxRecDepth 100000 in
theorem nameTells_reads (os : Os) {H : Type} (enc : TypeId × Value → H) : ∃ places, DataW.whole enc Tryd.prog ((World.laidAll Tryd.prog os Rows.nameTellsUptoRow.laid).forCall (fun _ _ => 0) ⟨#[], #[.string ⟨#[]⟩, .string ⟨#[]⟩, .slice none 0 0, .int .i64 0], []⟩).memory Tryd.f9.params.toList Rows.nameTellsSpec.vars false (#[.string ⟨#[]⟩, .string ⟨#[]⟩, .slice none 0 0, .int .i64 0] : Array Value).toList 8 = some ([.lit (.string []), .lit (.string []), .nil, .lit (.int .i64 0)], [], places) :=
  ⟨[], by kernel_rfl⟩

set_option maxRecDepth 100000 in
theorem nameTells_met (os : Os) : laidMetH Tryd.prog Rows.nameTellsUptoRow.laid ((World.laidAll Tryd.prog os Rows.nameTellsUptoRow.laid).forCall (fun _ _ => 0) ⟨#[], #[.string ⟨#[]⟩, .string ⟨#[]⟩, .slice none 0 0, .int .i64 0], []⟩).memory := by
  rw [MakeChecks.laidMetH_plain _ _ _ (by kernel_rfl)]
  exact laidMet_laidAll _ (by kernel_rfl) (by kernel_rfl)

set_option maxRecDepth 100000 in
theorem nameTells_lifted (os : Os) (started : os.Started) (H : Type) (enc : TypeId × Value → H) (F : Stop.Interp) :
    ReturnsInHanded {} Tryd.checked os 9 .any ((Rows.OpenSpec.upto Rows.nameTellsSpec).preRow enc Tryd.prog Tryd.f9 Rows.nameTellsUptoRow.domain false Rows.nameTellsUptoRow.laid) (((Rows.OpenSpec.upto Rows.nameTellsSpec).at F).post enc Tryd.prog Tryd.f9 false true false false) := by
  obtain ⟨places, hx⟩ := nameTells_reads os enc
  refine returnsInHanded_of_row (C := Tryd.checked) (s := Rows.OpenSpec.upto Rows.nameTellsSpec) Tryd.own started (by kernel_rfl) Tryd.func9
    (witness_row_at (enc := enc) (C := Tryd.checked) false (World.laidAll Tryd.prog os Rows.nameTellsUptoRow.laid) #[.string ⟨#[]⟩, .string ⟨#[]⟩, .slice none 0 0, .int .i64 0] (World.laidAll_os _ _ _) (by kernel_rfl) (by kernel_rfl) (by kernel_rfl)
      (OpenSpec.preRow_of_cond 8 hx (by kernel_rfl) (fun k hk => by cases hk; kernel_rfl) (by kernel_rfl) (nameTells_met os))) ?_
  intro W base args ds gs before hval hW _ hcond hS hL hSh _
  exact nameTells_contract H enc W base args ds gs before hval hW (of_decide_eq_true (hcond _ rfl)) hL hSh hS

theorem nameTells_row_holds : Rows.NameTellsUptoSaid :=
  OpenClaim.holds_of_cond 9 Tryd.f9 rfl rfl rfl rfl rfl rfl rfl ⟨rfl, rfl, rfl, rfl, rfl⟩ rfl rfl rfl rfl rfl (by kernel_rfl) Tryd.func9 (by kernel_rfl)
    (of_decide_eq_true (by kernel_rfl)) (by unfold Func.isWrapper; first | (rw [if_pos (by decide +kernel)]; kernel_rfl) | (rw [if_neg (by decide +kernel)]; exact ⟨rfl, rfl⟩))
    (fun os started H enc _ F => by rw [OpenClaim.pre_eq_preRow]; exact nameTells_lifted os started H enc F)

theorem nameTells_holds : Rows.NameTellsUptoCardSaid :=
  Claim7.holds_tied_plain_at .later [] _ _ _ _ nameTells_row_holds (fun _ h => by cases h) (by kernel_rfl) (fun _ h => by cases h) nameTellsUpto_row_tie rfl ⟨rfl, rfl⟩ (by kernel_rfl) rfl
    (fun f fn hf hfn => by
      obtain rfl : f = 9 := Option.some.inj ((show Tryd.prog.funcNamed "wainscot/wainscotlaw10.NameTells" = some 9 by kernel_rfl).symm.trans hf) |>.symm
      obtain rfl : fn = Tryd.f9 := (Option.some.inj (Tryd.func9.symm.trans hfn)).symm
      exact ⟨by kernel_rfl, fun j t ht => by
        have hm : t ∈ Tryd.f9.params.toList := by simpa using Array.mem_of_getElem? ht
        have hall : (Tryd.f9.params.toList.all fun u => !Tryd.prog.wantsStandIn u) = true := by kernel_rfl
        exact (show Tryd.prog.wantsStandIn t = false by simpa using List.all_eq_true.1 hall t hm)⟩)
    (by kernel_rfl)

#print axioms nameTells_holds
end Go.Proofs.YtbmbjedpeepnfaaDoor
