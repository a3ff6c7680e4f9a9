/-
  InodeBack: what is written is read, and there is one value of each: the law returns true, for any inode, number and text. No condition.
-/
import Derived.Test.YteogkgjajhdhjaaDoorInVar
namespace Go.Proofs.YteogkgjajhdhjaaDoor
open Go.RowKit

/-- Of behind Value -/
theorem back_inode {d d' : Bool} {l s l' s' : Int} {t : ByteArray} {b b' : Bool} (hb : b = In.right d l s) (ht : TxtIf b (In.value d l s) t) (ho : OfIf t d' l' s' b') (h : b = true) : b' = true ∧ d' = d ∧ l' = l ∧ s' = s := by
  rw [ht.1 h] at ho
  have hr := In.of_value (hb ▸ h)
  rcases ho with ⟨h1, h2⟩ | ⟨h1, h2, _⟩
  · rw [txt_list, hr] at h2
    injection h2 with h2
    injection h2 with e1 e2 e3
    exact ⟨h1, e1.symm, e2.symm, e3.symm⟩
  · rw [txt_list, hr] at h2; cases h2

theorem back_number {n n' : Int} {t : ByteArray} {b b' : Bool} (hb : b = In.numbered n) (ht : TxtIf b (In.number n) t) (ho : NumIf t n' b') (h : b = true) : b' = true ∧ n' = n := by
  rw [ht.1 h] at ho
  have hr := numOf_number (hb ▸ h)
  rcases ho with ⟨h1, h2⟩ | ⟨h1, h2, _⟩
  · rw [txt_list, hr] at h2
    exact ⟨h1, (Option.some.inj h2).symm⟩
  · rw [txt_list, hr] at h2; cases h2

theorem back_text {s : ByteArray} {d : Bool} {l z : Int} {b b' : Bool} {t : ByteArray} (ho : OfIf s d l z b) (hb : b' = In.right d l z) (ht : TxtIf b' (In.value d l z) t) (h : b = true) : b' = true ∧ t = s := by
  rcases ho with ⟨_, h2⟩ | ⟨h1, _⟩
  · obtain ⟨h3, h4⟩ := In.of_some h2
    have hb' : b' = true := by rw [hb]; exact h3
    exact ⟨hb', by rw [ht.1 hb']; exact (txt_of h4).symm⟩
  · rw [h] at h1; cases h1

theorem back_numtext {s : ByteArray} {n : Int} {b b' : Bool} {t : ByteArray} (ho : NumIf s n b) (hb : b' = In.numbered n) (ht : TxtIf b' (In.number n) t) (h : b = true) : b' = true ∧ t = s := by
  rcases ho with ⟨_, h2⟩ | ⟨h1, _⟩
  · obtain ⟨h3, h4⟩ := number_numOf h2
    have hb' : b' = true := by rw [hb]; exact h3
    exact ⟨hb', by rw [ht.1 hb']; exact (txt_of h4.symm).symm⟩
  · rw [h] at h1; cases h1

set_option maxRecDepth 100000 in
set_option maxHeartbeats 3200000 in
theorem inodeBack_walk (d : Bool) (l sz n : Int) (s : ByteArray) (w : World) (hs : s.size ≤ 140737488351232) :
    Calls Tryd.prog 6 #[.agg #[.bool d, .int .i64 l, .int .i64 sz], .int .i64 n, .string s] w fun e w' => e = .returned (.bool true) ∧ Keep [] w w' := by
  go_enter Tryd.func6, Tryd.ntmps6
  go_wp2_with fail
  have BX := Blk.new' w [.bool d, .int .i64 l, .int .i64 sz] 28
  refine (shown_any _).mono ?_
  rintro e w1 ⟨rfl, k1⟩
  have K1 : Keep [] w w1 := ((Keep.refl _ _).alloc _).trans k1 (by simp)
  have B1 := BX.keep k1 (by simp)
  clear BX k1
  have p0 := B1.cell 0
  have p1 := B1.cell 1
  have p2 := B1.cell 2
  simp only [List.getElem?_cons_zero, List.getElem?_cons_succ] at p0 p1 p2
  go_wp2_with fail
  clear p0 p1 p2
  refine (value_var d l sz w1).mono ?_
  rintro e w2 ⟨t, ok, rfl, hb, ht, k2⟩
  have K2 := K1.trans k2 (by simp)
  have B2 := B1.keep k2 (by simp)
  have hts : t.size ≤ 9 := ht.size (by rw [In.value_length]; split <;> omega)
  clear k2 B1 K1
  have HB := Lib.hid hb
  clear hb
  go_wp2_with fail
  refine (of_var t w2 (by omega)).mono ?_
  rintro e w3 ⟨d', l', z', is, rfl, ho, k3⟩
  have H1 := Lib.hid (back_inode HB.out ht ho)
  have K3 := K2.trans k3 (by simp)
  have B3 := B2.keep k3 (by simp)
  clear k3 B2 K2 ht ho HB
  have hlt := B3.lt
  have hne : ¬ (w.heap.size = w3.heap.size) := by omega
  have p0 := B3.cell 0
  have p1 := B3.cell 1
  have p2 := B3.cell 2
  simp only [List.getElem?_cons_zero, List.getElem?_cons_succ] at p0 p1 p2
  go_upto_region 4 with fail
  go_cut [44] (fun s44 wx => s44 = .bool false ∧ Keep [] w wx)
  case first =>
    cases hok : ok with
    | true =>
      obtain ⟨rfl, rfl, rfl, rfl⟩ := H1.out hok
      subst hok
      go_wp2
      go_meet
      case rel => exact ⟨rfl, K3.alloc _⟩
    | false =>
      subst hok
      go_wp2
      go_meet
      case rel => exact ⟨rfl, K3.alloc _⟩
  case rest =>
    obtain ⟨rfl, K⟩ := hcut
    clear K3 B3 p0 p1 p2 hlt hne H1
    go_wp2_with fail
    refine (number_var n wc).mono ?_
    rintro e w4 ⟨u, has, rfl, hb, hu, k4⟩
    have K4 := K.trans k4 (by simp)
    have hus : u.size ≤ 9 := hu.size (by unfold In.number; rw [Pk.be_length]; omega)
    have HB := Lib.hid hb
    clear hb k4 K
    go_wp2_with fail
    refine (numbered_var u w4 (by omega)).mono ?_
    rintro e w5 ⟨k, good, rfl, ho, k5⟩
    have H1 := Lib.hid (back_number HB.out hu ho)
    have K5 := K4.trans k5 (by simp)
    clear k5 K4 hu ho HB
    go_upto_region 8 with fail
    go_cut [64] (fun s64 wx => s64 = .bool false ∧ Keep [] w wx)
    case first =>
      cases hok : has with
      | true =>
        obtain ⟨rfl, rfl⟩ := H1.out hok
        subst hok
        go_wp2
        go_meet
        case rel => exact ⟨rfl, K5⟩
      | false =>
        subst hok
        go_wp2
        go_meet
        case rel => exact ⟨rfl, K5⟩
    case rest =>
      obtain ⟨rfl, K⟩ := hcut
      clear K5 H1
      rename_i wc0
      go_wp2_with fail
      refine (of_var s wc hs).mono ?_
      rintro e w6 ⟨x1, x2, x3, a, rfl, ho, k6⟩
      have K6 := K.trans k6 (by simp)
      clear k6 K
      go_wp2_with fail
      have BX := Blk.new' w6 [.bool x1, .int .i64 x2, .int .i64 x3] 28
      have K6' := K6.alloc (.cells #[.bool x1, .int .i64 x2, .int .i64 x3] 28)
      refine (value_var x1 x2 x3 _).mono ?_
      rintro e w7 ⟨y, b, rfl, hb, hy, k7⟩
      have H1 := Lib.hid (back_text ho hb hy)
      have K7 := K6'.trans k7 (by simp)
      clear k7 K6 K6' BX ho hb hy
      go_upto_region 12 with fail
      go_cut [84] (fun s84 wx => s84 = .bool false ∧ Keep [] w wx)
      case first =>
        cases hok : a with
        | true =>
          obtain ⟨rfl, rfl⟩ := H1.out hok
          subst hok
          go_wp2
          go_meet
          case rel => exact ⟨rfl, K7⟩
        | false =>
          subst hok
          go_wp2
          go_meet
          case rel => exact ⟨rfl, K7⟩
      case rest =>
        obtain ⟨rfl, K⟩ := hcut
        clear K7 H1
        go_wp2_with fail
        refine (numbered_var s wc hs).mono ?_
        rintro e w8 ⟨z, c, rfl, ho, k8⟩
        have K8 := K.trans k8 (by simp)
        clear k8 K
        go_wp2_with fail
        refine (number_var z _).mono ?_
        rintro e w9 ⟨q, dd, rfl, hb, hq, k9⟩
        have H1 := Lib.hid (back_numtext ho hb hq)
        have K9 := K8.trans k9 (by simp)
        clear k9 K8 ho hb hq
        cases hok : c with
        | true =>
          obtain ⟨rfl, rfl⟩ := H1.out hok
          subst hok
          go_wp2
          go_ret
          exact ⟨by simp; (try omega), K9⟩
        | false =>
          subst hok
          go_wp2
          go_ret
          exact ⟨by simp; (try omega), K9⟩


theorem inodeBack_readable : Tryd.f6.params.toList.all (fun t => Tryd.prog.readableRec t && decide (t < Tryd.prog.types.size)) = true := by kernel_rfl

open Go.ChangeShapes Go.WideShapes Go.ChangeAt in
set_option maxRecDepth 100000 in
theorem inodeBack_contract (H : Type) (enc : TypeId × Value → H) (W : World) (base : Nat) (args : Array Value) (ds gs : List (DataW H)) (before : List MemPlace)
    (hval : ∀ (j : Nat) t v, Tryd.f6.params[j]? = some t → args[j]? = some v → Value.okWide Tryd.prog W .any base t v)
    (hW : DataW.Whole enc Tryd.prog Tryd.f6.params.toList Rows.inodeBackSpec.vars false W args.toList ds gs before) (_hL : laidMetH Tryd.prog Rows.inodeBackRow.laid W) (hS : (DataW.weightsEach Tryd.prog (Tryd.f6.params.toList ++ Rows.inodeBackSpec.plain.varTypes Tryd.prog) (ds ++ gs)).all (· ≤ reachBytes) = true) :
    Calls Tryd.prog 6 args W fun e W' => ∃ v, e = .returned v ∧ Rows.inodeBackSpec.post enc Tryd.prog Tryd.f6 false true false false W args v W' := by
  have hW' := hW
  obtain ⟨p, q, hA0, hV, rfl, _, _⟩ := hW
  have hA : DataW.TrodAll enc Tryd.prog W 0 (fun _ => true) true Tryd.f6.params.toList args.toList ds p := hA0
  rw [Tryd.params6] at hA hval
  obtain ⟨v0, v1, v2, d0, d1, d2, p0, p1, p2, rfl, rfl, rfl, h0, h1, h2⟩ := trodAll_three hA
  obtain ⟨rfl, rfl⟩ := trodVars_none hV
  obtain ⟨nd, nl, ns, rfl, _, _⟩ := open_node' (hval 0 28 v0 rfl rfl) h0
  obtain ⟨a1, rfl, rfl, rfl, _⟩ := open_int Tryd.underlying3 (hval 1 3 v1 rfl rfl) h1
  obtain ⟨s, rfl, rfl, rfl, _⟩ := Go.ChangeMaps.open_string Tryd.underlying9 (hval 2 9 v2 rfl rfl) h2
  have hsl := sized_string hS (j := 2) (t := 9) (bytes := s.data.toList) rfl rfl
  have hsz : s.size ≤ 140737488351232 := by
    have h1 : s.data.toList.length = s.size := by rw [Array.length_toList]; rfl
    unfold reachBytes at hsl
    omega
  refine (inodeBack_walk nd nl ns a1 s W hsz).mono fun e W' ⟨he, hk⟩ => ?_
  subst he
  exact ⟨_, rfl, law_post Tryd.laidOut inodeBack_readable rfl Tryd.underlying4 rfl hW' rfl hk.below0⟩

set_option maxRecDepth 100000 in
theorem inodeBack_lifted (os : Os) (started : os.Started) (H : Type) (enc : TypeId × Value → H) :
    ReturnsInHanded {} Tryd.checked os 6 .any (fun w args => (Rows.inodeBackSpec.pre enc Tryd.prog Tryd.f6 Rows.inodeBackRow.domain false w args ∧ laidMetH Tryd.prog Rows.inodeBackRow.laid w) ∧ sizedMet enc Tryd.prog Tryd.f6 (OpenSpec.ofChange Rows.inodeBackSpec) false w args)
      (Rows.inodeBackSpec.post enc Tryd.prog Tryd.f6 false true false false) := by
  refine returnsInHanded_of_change_and (C := Tryd.checked) (X := fun w _ => laidMetH Tryd.prog Rows.inodeBackRow.laid w) (fun _ _ _ hh h => h.of_heap hh) Tryd.own started (by kernel_rfl) Tryd.func6
    (ChangeSpec.witness_shaped (enc := enc) (C := Tryd.checked) (os := os) (X := fun w _ => laidMetH Tryd.prog Rows.inodeBackRow.laid w) false (World.laidAll Tryd.prog os Rows.inodeBackRow.laid) #[.agg #[.bool false, .int .i64 0, .int .i64 0], .int .i64 0, .string ⟨#[]⟩] 8 (World.laidAll_os _ _ _)
      (World.shaped_of_ZipB (by kernel_rfl) (by kernel_rfl)) (by kernel_rfl) (by kernel_rfl) (by kernel_rfl)
      (by rw [MakeChecks.laidMetH_plain _ _ _ (by kernel_rfl)]; exact laidMet_laidAll _ (by kernel_rfl) (by kernel_rfl))) ?_
  intro W base args ds gs before hval hW _ hS hL _
  exact inodeBack_contract H enc W base args ds gs before hval hW hL hS

theorem inodeBack_row_holds : Rows.InodeBackSaid :=
  OpenClaim.holds_of_wide 6 Tryd.f6 rfl rfl rfl rfl rfl rfl rfl ⟨rfl, rfl, rfl, rfl, rfl⟩ rfl rfl rfl rfl rfl (by kernel_rfl) Tryd.func6 (by kernel_rfl)
    (of_decide_eq_true (by kernel_rfl)) (by unfold Func.isWrapper; first | (rw [if_pos (by decide +kernel)]; kernel_rfl) | (rw [if_neg (by decide +kernel)]; exact ⟨rfl, rfl⟩))
    (fun os started H enc _ => inodeBack_lifted os started H enc)

theorem inodeBack_holds : Rows.InodeBackCardSaid :=
  Claim7.holds_tied_plain_at .later [] [.data, .pinned] true (true, "879644d4b576a1fb53cab3707f05e46681989cab49cb3ebe5b14112d0615c62a") false inodeBack_row_holds (fun _ h => by cases h) (by kernel_rfl) (fun _ h => by cases h) inodeBack_row_tie rfl ⟨rfl, rfl⟩ (by kernel_rfl) rfl
    (fun f fn hf hfn => by
      obtain rfl : f = 6 := Option.some.inj ((show Tryd.prog.funcNamed "wainscot/wainscotlaw11.InodeBack" = some 6 by kernel_rfl).symm.trans hf) |>.symm
      obtain rfl : fn = Tryd.f6 := (Option.some.inj (Tryd.func6.symm.trans hfn)).symm
      exact ⟨by kernel_rfl, fun j t ht => by
        have hm : t ∈ Tryd.f6.params.toList := by simpa using Array.mem_of_getElem? ht
        have hall : (Tryd.f6.params.toList.all fun u => !Tryd.prog.wantsStandIn u) = true := by kernel_rfl
        exact (show Tryd.prog.wantsStandIn t = false by simpa using List.all_eq_true.1 hall t hm)⟩)
    (by kernel_rfl)

#print axioms inodeBack_holds
end Go.Proofs.YteogkgjajhdhjaaDoor
