/-
  InodeTells: values are what the document says: the law returns true, for any inode, number and text. No condition.
-/
import Derived.Test.YteogkgjajhdhjaaDoorInRefC
import Derived.Test.YteogkgjajhdhjaaDoorInEq
import Derived.Test.YteogkgjajhdhjaaDoorInLaw
namespace Go.Proofs.YteogkgjajhdhjaaDoor
open Go.RowKit

theorem txtif_eq {b : Bool} {l : List UInt8} {t u : ByteArray} (h : TxtIf b l t) (h' : TxtIf b l u) : t = u := by
  cases b with
  | true => rw [h.1 rfl, h'.1 rfl]
  | false => rw [h.2 rfl, h'.2 rfl]

theorem numif_eq {s : ByteArray} {n n' : Int} {b b' : Bool} (h : NumIf s n b) (h' : NumIf s n' b') : n = n' ∧ b = b' := by
  rcases h with ⟨rfl, h⟩ | ⟨rfl, h, rfl⟩ <;> rcases h' with ⟨rfl, h'⟩ | ⟨rfl, h', rfl⟩
  · rw [h] at h'; exact ⟨Option.some.inj h', rfl⟩
  · rw [h] at h'; cases h'
  · rw [h] at h'; cases h'
  · exact ⟨rfl, rfl⟩

theorem ofif_eq {s : ByteArray} {d d' : Bool} {l l' z z' : Int} {b b' : Bool} (h : OfIf s d l z b) (h' : OfIf s d' l' z' b') : d = d' ∧ l = l' ∧ z = z' ∧ b = b' := by
  rcases h with ⟨rfl, h⟩ | ⟨rfl, h, rfl, rfl, rfl⟩ <;> rcases h' with ⟨rfl, h'⟩ | ⟨rfl, h', rfl, rfl, rfl⟩
  · rw [h] at h'; injection h' with h'; injection h' with e1 e2 e3; exact ⟨e1, e2, e3, rfl⟩
  · rw [h] at h'; cases h'
  · rw [h] at h'; cases h'
  · exact ⟨rfl, rfl, rfl, rfl⟩

theorem ext100 (s : ByteArray) : (s.extract 0 (min (s.size : Int) 100).toNat).size ≤ 100 := by
  rw [ByteArray.size_extract]
  omega

set_option maxRecDepth 100000 in
set_option maxHeartbeats 3200000 in
theorem inodeTells_walk (d : Bool) (l sz n : Int) (s : ByteArray) (w : World) (hs : s.size ≤ 140737488351232) :
    Calls Tryd.prog 5 #[.agg #[.bool d, .int .i64 l, .int .i64 sz], .int .i64 n, .string s] w fun e w' => e = .returned (.bool true) ∧ Keep [] w w' := by
  obtain ⟨S, hS⟩ : ∃ S, S = s.extract 0 (min (s.size : Int) 100).toNat := ⟨_, rfl⟩
  have hS1 : S.size ≤ 100 := by rw [hS]; exact ext100 s
  have HS := Lib.hid hS
  clear hS
  go_enter Tryd.func5, Tryd.ntmps5
  go_wp2_with fail
  have BX := Blk.new' w [.bool d, .int .i64 l, .int .i64 sz] 28
  refine (shown_any _).mono ?_
  rintro e w1 ⟨rfl, k1⟩
  have K1 : Keep [] w w1 := ((Keep.refl _ _).alloc _).trans k1 (by simp)
  have B1 := BX.keep k1 (by simp)
  clear BX k1
  have p0 := B1.cell 0
  have p1 := B1.cell 1
  have p2 := B1.cell 2
  simp only [List.getElem?_cons_zero, List.getElem?_cons_succ] at p0 p1 p2
  go_wp2_with fail
  clear p0 p1 p2
  rw [← HS.out]
  refine (value_var d l sz w1).mono ?_
  rintro e w2 ⟨a, b, rfl, hb, ha, k2⟩
  have HBA := Lib.hid (And.intro hb ha)
  have K2 := K1.trans k2 (by simp)
  have B2 := B1.keep k2 (by simp)
  clear k2 B1 K1 hb ha
  have p0 := B2.cell 0
  have p1 := B2.cell 1
  have p2 := B2.cell 2
  simp only [List.getElem?_cons_zero, List.getElem?_cons_succ] at p0 p1 p2
  go_wp2_with fail
  clear p0 p1 p2
  refine (rvalue_var d l sz w2).mono ?_
  rintro e w3 ⟨c, b', rfl, hb', hc, k3⟩
  obtain rfl : b = b' := by rw [HBA.out.1, hb']
  obtain rfl := txtif_eq HBA.out.2 hc
  have K3 := K2.trans k3 (by simp)
  clear k3 B2 K2 hc hb' HBA
  go_wp2_with fail
  refine (of_var S w3 (by omega)).mono ?_
  rintro e w4 ⟨d4, l4, z4, f, rfl, ho, k4⟩
  have HO := Lib.hid ho
  have K4 := K3.trans k4 (by simp)
  clear k4 K3 ho
  go_wp2_with fail
  have B5 := Blk.new' w4 [.bool d4, .int .i64 l4, .int .i64 z4] 28
  have K5 : Keep [] w (w4.alloc (.cells #[.bool d4, .int .i64 l4, .int .i64 z4] 28)) := K4.alloc _
  refine (rof_var S _ (by omega)).mono ?_
  rintro e w6 ⟨d6, l6, z6, f', rfl, ho', k6⟩
  obtain ⟨rfl, rfl, rfl, rfl⟩ := ofif_eq HO.out ho'
  have B6 := B5.keep k6 (by simp)
  have K6 := K5.trans k6 (by simp)
  clear k6 K5 B5 HO ho' K4
  go_wp2_with fail
  have B7 := B6.keep ((Keep.refl [] w6).alloc (.cells #[.bool d4, .int .i64 l4, .int .i64 z4] 28)) (by simp)
  have C7 := Blk.new' w6 [.bool d4, .int .i64 l4, .int .i64 z4] 28
  have K7 : Keep [] w (w6.alloc (.cells #[.bool d4, .int .i64 l4, .int .i64 z4] 28)) := K6.alloc _
  refine (number_var n _).mono ?_
  rintro e w8 ⟨g, h, rfl, hh, hg, k8⟩
  have HG := Lib.hid (And.intro hh hg)
  have B8 := B7.keep k8 (by simp)
  have C8 := C7.keep k8 (by simp)
  have K8 := K7.trans k8 (by simp)
  clear k8 hh hg B6 B7 C7 K6 K7
  obtain ⟨b14, hb14⟩ : ∃ b, b = w6.heap.size := ⟨_, rfl⟩
  obtain ⟨b12, hb12⟩ : ∃ b, b = w4.heap.size := ⟨_, rfl⟩
  rw [← hb14] at C8 ⊢
  rw [← hb12] at B8 ⊢
  clear hb14 hb12
  go_wp2_with fail
  refine (rnumber_var n w8).mono ?_
  rintro e w9 ⟨g', h', rfl, hh', hg', k9⟩
  obtain rfl : h = h' := by rw [HG.out.1, hh']
  obtain rfl := txtif_eq HG.out.2 hg'
  have B9 := B8.keep k9 (by simp)
  have C9 := C8.keep k9 (by simp)
  have K9 := K8.trans k9 (by simp)
  clear k9 hh' hg' HG B8 C8 K8
  go_wp2_with fail
  refine (numbered_var S w9 (by omega)).mono ?_
  rintro e w10 ⟨o, p, rfl, ho, k10⟩
  have HO := Lib.hid ho
  have B10 := B9.keep k10 (by simp)
  have C10 := C9.keep k10 (by simp)
  have K10 := K9.trans k10 (by simp)
  clear k10 ho B9 C9 K9
  go_wp2_with fail
  refine (rnumbered_var S w10 (by omega)).mono ?_
  rintro e w11 ⟨o', p', rfl, ho', k11⟩
  obtain ⟨rfl, rfl⟩ := numif_eq HO.out ho'
  have B11 := B10.keep k11 (by simp)
  have C11 := C10.keep k11 (by simp)
  have K11 := K10.trans k11 (by simp)
  clear k11 ho' HO B10 C10 K10
  have p0 := B11.cell 0
  have p1 := B11.cell 1
  have p2 := B11.cell 2
  have q0 := C11.cell 0
  have q1 := C11.cell 1
  have q2 := C11.cell 2
  simp only [List.getElem?_cons_zero, List.getElem?_cons_succ] at p0 p1 p2 q0 q1 q2
  have heq := eqNode_yes w11 (a := d4) (a' := d4) (b := l4) (b' := l4) (c := z4) (c' := z4) ⟨rfl, rfl, rfl⟩
  go_wp2_with fail
  clear heq p0 p1 p2 q0 q1 q2 B11 C11
  refine (trim_any S w11 (by omega)).mono ?_
  rintro e w12 ⟨rfl, rfl⟩
  go_wp2_with fail
  refine (rtrim_any S _ (by omega)).mono ?_
  rintro e w12 ⟨rfl, rfl⟩
  go_wp2_with fail
  refine (full_any S _ (by omega)).mono ?_
  rintro e w13 ⟨rfl, k13⟩
  have K13 := K11.trans k13 (by simp)
  go_wp2_with fail
  refine (rfull_any S _ (by omega)).mono ?_
  rintro e w14 ⟨rfl, k14⟩
  have K14 := K13.trans k14 (by simp)
  clear K11 k13 K13 k14
  go_wp2
  go_ret
  exact ⟨by simp, K14⟩


theorem inodeTells_readable : Tryd.f5.params.toList.all (fun t => Tryd.prog.readableRec t && decide (t < Tryd.prog.types.size)) = true := by kernel_rfl

open Go.ChangeShapes Go.WideShapes Go.ChangeAt in
set_option maxRecDepth 100000 in
theorem inodeTells_contract (H : Type) (enc : TypeId × Value → H) (W : World) (base : Nat) (args : Array Value) (ds gs : List (DataW H)) (before : List MemPlace)
    (hval : ∀ (j : Nat) t v, Tryd.f5.params[j]? = some t → args[j]? = some v → Value.okWide Tryd.prog W .any base t v)
    (hW : DataW.Whole enc Tryd.prog Tryd.f5.params.toList Rows.inodeTellsSpec.vars false W args.toList ds gs before) (_hL : laidMetH Tryd.prog Rows.inodeTellsRow.laid W) (hS : (DataW.weightsEach Tryd.prog (Tryd.f5.params.toList ++ Rows.inodeTellsSpec.plain.varTypes Tryd.prog) (ds ++ gs)).all (· ≤ reachBytes) = true) :
    Calls Tryd.prog 5 args W fun e W' => ∃ v, e = .returned v ∧ Rows.inodeTellsSpec.post enc Tryd.prog Tryd.f5 false true false false W args v W' := by
  have hW' := hW
  obtain ⟨p, q, hA0, hV, rfl, _, _⟩ := hW
  have hA : DataW.TrodAll enc Tryd.prog W 0 (fun _ => true) true Tryd.f5.params.toList args.toList ds p := hA0
  rw [Tryd.params5] at hA hval
  obtain ⟨v0, v1, v2, d0, d1, d2, p0, p1, p2, rfl, rfl, rfl, h0, h1, h2⟩ := trodAll_three hA
  obtain ⟨rfl, rfl⟩ := trodVars_none hV
  obtain ⟨nd, nl, ns, rfl, _, _⟩ := open_node' (hval 0 28 v0 rfl rfl) h0
  obtain ⟨a1, rfl, rfl, rfl, _⟩ := open_int Tryd.underlying3 (hval 1 3 v1 rfl rfl) h1
  obtain ⟨s, rfl, rfl, rfl, _⟩ := Go.ChangeMaps.open_string Tryd.underlying9 (hval 2 9 v2 rfl rfl) h2
  have hsl := sized_string hS (j := 2) (t := 9) (bytes := s.data.toList) rfl rfl
  have hsz : s.size ≤ 140737488351232 := by
    have h1 : s.data.toList.length = s.size := by rw [Array.length_toList]; rfl
    unfold reachBytes at hsl
    omega
  refine (inodeTells_walk nd nl ns a1 s W hsz).mono fun e W' ⟨he, hk⟩ => ?_
  have _u := hS
  subst he
  exact ⟨_, rfl, law_post Tryd.laidOut inodeTells_readable rfl Tryd.underlying4 rfl hW' rfl hk.below0⟩

set_option maxRecDepth 100000 in
theorem inodeTells_lifted (os : Os) (started : os.Started) (H : Type) (enc : TypeId × Value → H) :
    ReturnsInHanded {} Tryd.checked os 5 .any (fun w args => (Rows.inodeTellsSpec.pre enc Tryd.prog Tryd.f5 Rows.inodeTellsRow.domain false w args ∧ laidMetH Tryd.prog Rows.inodeTellsRow.laid w) ∧ sizedMet enc Tryd.prog Tryd.f5 (OpenSpec.ofChange Rows.inodeTellsSpec) false w args)
      (Rows.inodeTellsSpec.post enc Tryd.prog Tryd.f5 false true false false) := by
  refine returnsInHanded_of_change_and (C := Tryd.checked) (X := fun w _ => laidMetH Tryd.prog Rows.inodeTellsRow.laid w) (fun _ _ _ hh h => h.of_heap hh) Tryd.own started (by kernel_rfl) Tryd.func5
    (ChangeSpec.witness_shaped (enc := enc) (C := Tryd.checked) (os := os) (X := fun w _ => laidMetH Tryd.prog Rows.inodeTellsRow.laid w) false (World.laidAll Tryd.prog os Rows.inodeTellsRow.laid) #[.agg #[.bool false, .int .i64 0, .int .i64 0], .int .i64 0, .string ⟨#[]⟩] 8 (World.laidAll_os _ _ _)
      (World.shaped_of_ZipB (by kernel_rfl) (by kernel_rfl)) (by kernel_rfl) (by kernel_rfl) (by kernel_rfl)
      (by rw [MakeChecks.laidMetH_plain _ _ _ (by kernel_rfl)]; exact laidMet_laidAll _ (by kernel_rfl) (by kernel_rfl))) ?_
  intro W base args ds gs before hval hW _ hS hL _
  exact inodeTells_contract H enc W base args ds gs before hval hW hL hS

theorem inodeTells_row_holds : Rows.InodeTellsSaid :=
  OpenClaim.holds_of_wide 5 Tryd.f5 rfl rfl rfl rfl rfl rfl rfl ⟨rfl, rfl, rfl, rfl, rfl⟩ rfl rfl rfl rfl rfl (by kernel_rfl) Tryd.func5 (by kernel_rfl)
    (of_decide_eq_true (by kernel_rfl)) (by unfold Func.isWrapper; first | (rw [if_pos (by decide +kernel)]; kernel_rfl) | (rw [if_neg (by decide +kernel)]; exact ⟨rfl, rfl⟩))
    (fun os started H enc _ => inodeTells_lifted os started H enc)

theorem inodeTells_holds : Rows.InodeTellsCardSaid :=
  Claim7.holds_tied_plain_at .later [] [.data, .pinned] true (true, "879644d4b576a1fb53cab3707f05e46681989cab49cb3ebe5b14112d0615c62a") false inodeTells_row_holds (fun _ h => by cases h) (by kernel_rfl) (fun _ h => by cases h) inodeTells_row_tie rfl ⟨rfl, rfl⟩ (by kernel_rfl) rfl
    (fun f fn hf hfn => by
      obtain rfl : f = 5 := Option.some.inj ((show Tryd.prog.funcNamed "wainscot/wainscotlaw11.InodeTells" = some 5 by kernel_rfl).symm.trans hf) |>.symm
      obtain rfl : fn = Tryd.f5 := (Option.some.inj (Tryd.func5.symm.trans hfn)).symm
      exact ⟨by kernel_rfl, fun j t ht => by
        have hm : t ∈ Tryd.f5.params.toList := by simpa using Array.mem_of_getElem? ht
        have hall : (Tryd.f5.params.toList.all fun u => !Tryd.prog.wantsStandIn u) = true := by kernel_rfl
        exact (show Tryd.prog.wantsStandIn t = false by simpa using List.all_eq_true.1 hall t hm)⟩)
    (by kernel_rfl)

#print axioms inodeTells_holds
end Go.Proofs.YteogkgjajhdhjaaDoor
