/-
  InodeUnlike: unlike things have unlike values: the law returns true, for any two inodes and any two numbers. No condition.
-/
import Derived.Test.YteogkgjajhdhjaaDoorInVar
import Derived.Laws.StructEq
namespace Go.Proofs.YteogkgjajhdhjaaDoor
open Go.RowKit

theorem unlike_inode {d d' : Bool} {l s l' s' : Int} {t t' : ByteArray} {b b' : Bool} (hb : b = In.right d l s) (ht : TxtIf b (In.value d l s) t) (hb' : b' = In.right d' l' s') (ht' : TxtIf b' (In.value d' l' s') t') (h : b = true) (h' : b' = true) :
    t = t' ↔ (d = d' ∧ l = l' ∧ s = s') := by
  have e1 := ht.1 h
  have e2 := ht'.1 h'
  constructor
  · intro e
    have h1 := In.of_value (hb ▸ h)
    have h2 := In.of_value (hb' ▸ h')
    have e3 : In.value d l s = In.value d' l' s' := by
      rw [← txt_list (In.value d l s), ← txt_list (In.value d' l' s'), ← e1, ← e2, e]
    rw [e3, h2] at h1
    injection h1 with h1
    injection h1 with a1 a2 a3
    exact ⟨a1.symm, a2.symm, a3.symm⟩
  · rintro ⟨rfl, rfl, rfl⟩
    rw [e1, e2]

theorem unlike_number {n n' : Int} {t t' : ByteArray} {b b' : Bool} (hb : b = In.numbered n) (ht : TxtIf b (In.number n) t) (hb' : b' = In.numbered n') (ht' : TxtIf b' (In.number n') t') (h : b = true) (h' : b' = true) : t = t' ↔ n = n' := by
  have e1 := ht.1 h
  have e2 := ht'.1 h'
  constructor
  · intro e
    have h1 := numOf_number (hb ▸ h)
    have h2 := numOf_number (hb' ▸ h')
    have e3 : In.number n = In.number n' := by
      rw [← txt_list (In.number n), ← txt_list (In.number n'), ← e1, ← e2, e]
    rw [e3, h2] at h1
    exact (Option.some.inj h1).symm
  · rintro rfl
    rw [e1, e2]

theorem unlike_as {d : Bool} {l s n : Int} {t : ByteArray} {b c : Bool} (ht : TxtIf b (In.value d l s) t) (ho : NumIf t n c) (h : b = true) : c = false := by
  rw [ht.1 h] at ho
  rcases ho with ⟨_, h2⟩ | ⟨h1, _⟩
  · rw [txt_list] at h2
    unfold In.numOf at h2
    rw [if_neg] at h2
    · cases h2
    · intro hh
      have := hh.1
      rw [In.value_length] at this
      split at this <;> omega
  · exact h1

theorem unlike_is {n : Int} {t : ByteArray} {b c d : Bool} {l z : Int} (ht : TxtIf b (In.number n) t) (ho : OfIf t d l z c) (h : b = true) : c = false := by
  rw [ht.1 h] at ho
  rcases ho with ⟨_, h2⟩ | ⟨h1, _⟩
  · rw [txt_list] at h2
    have h3 := congrArg List.length (In.of_some h2).2
    rw [In.value_length] at h3
    unfold In.number at h3
    rw [Pk.be_length] at h3
    split at h3 <;> omega
  · exact h1

theorem toList_ne {s t : ByteArray} (h : s ≠ t) : (s.toList == t.toList) = false := by
  rw [beq_eq_false_iff_ne]
  intro e
  apply h
  rw [Lib.toList_data, Lib.toList_data] at e
  cases s; cases t
  simp only at e
  congr 1
  exact Array.toList_inj.1 e

section
variable {P : Program} {d : Nat} {xs ys : Array Value} {f : Field} {fs : List Field} {a b : Value} {r s : Bool} {w : World}
theorem eqFields_more (hn : f.name ≠ "_") (ha : (part f.type xs f.offset).run P w = .ok a w) (hb : (part f.type ys f.offset).run P w = .ok b w) (he : (Op.equalIn d f.type a b).run P w = .ok r w) (hr : (Op.eqFields d xs ys fs).run P w = .ok s w) :
    (Op.eqFields d xs ys (f :: fs)).run P w = .ok (r && s) w := by
  rw [Op.eqFields]
  simp only [if_pos hn, Sem.run_bind, ha, hb, he, Result.andThen_ok]
  cases r
  · simp
  · simpa using hr
theorem eqFields_none : (Op.eqFields d xs ys []).run P w = .ok true w := by simp [Op.eqFields]
theorem eqStruct {t : TypeId} {fs : Array Field} (hu : P.underlying t = some (.struct fs)) (hp : P.stoodInHeld t = false) (h : (Op.eqFields d xs ys fs.toList).run P w = .ok r w) : (Op.equalIn (d + 1) t (.agg xs) (.agg ys)).run P w = .ok r w := by
  have hf : P.fieldsOf t = fs := by simp [Program.fieldsOf, hu]
  rw [run_equalIn_struct (P := P) w d t xs ys (by rw [hf]; exact hu) hp, hf]
  exact h
end

theorem eqNode (w : World) (a a' : Bool) (b c b' c' : Int) : (binOp .eql 28 (.agg #[.bool a, .int .i64 b, .int .i64 c]) (.agg #[.bool a', .int .i64 b', .int .i64 c'])).run Tryd.prog w = .ok (.bool (a == a' && (b == b' && (c == c' && true)))) w := by
  have h : (Op.equalIn 10000 28 (.agg #[.bool a, .int .i64 b, .int .i64 c]) (.agg #[.bool a', .int .i64 b', .int .i64 c'])).run Tryd.prog w = .ok (a == a' && (b == b' && (c == c' && true))) w := by
    refine eqStruct (d := 9999) Tryd.underlying28 (by kernel_rfl) ?_
    refine eqFields_more (by decide) (by go_simp; rfl) (by go_simp; rfl) (by go_simp) ?_
    refine eqFields_more (by decide) (by go_simp; rfl) (by go_simp; rfl) (by go_simp) ?_
    exact eqFields_more (by decide) (by go_simp; rfl) (by go_simp; rfl) (by go_simp) eqFields_none
  rw [run_eql_struct, h]
  rfl

theorem eqNode_no (w : World) {a a' : Bool} {b c b' c' : Int} (h : ¬ (a = a' ∧ b = b' ∧ c = c')) : (binOp .eql 28 (.agg #[.bool a, .int .i64 b, .int .i64 c]) (.agg #[.bool a', .int .i64 b', .int .i64 c'])).run Tryd.prog w = .ok (.bool false) w := by
  rw [eqNode]
  congr 2
  rw [Bool.eq_false_iff]
  intro e
  apply h
  simpa using e

theorem eqNode_yes (w : World) {a a' : Bool} {b c b' c' : Int} (h : a = a' ∧ b = b' ∧ c = c') : (binOp .eql 28 (.agg #[.bool a, .int .i64 b, .int .i64 c]) (.agg #[.bool a', .int .i64 b', .int .i64 c'])).run Tryd.prog w = .ok (.bool true) w := by
  rw [eqNode]
  congr 2
  obtain ⟨rfl, rfl, rfl⟩ := h
  simp

set_option maxRecDepth 100000 in
set_option maxHeartbeats 6400000 in
theorem inodeUnlike_walk (d d' : Bool) (l s l' s' n k : Int) (w : World) :
    Calls Tryd.prog 7 #[.agg #[.bool d, .int .i64 l, .int .i64 s], .agg #[.bool d', .int .i64 l', .int .i64 s'], .int .i64 n, .int .i64 k] w fun e w' => e = .returned (.bool true) ∧ Keep [] w w' := by
  have B1 := (Blk.new' w [.bool d, .int .i64 l, .int .i64 s] 28).alloc (.cells #[.bool d', .int .i64 l', .int .i64 s'] 28)
  have B2 := Blk.new' (w.alloc (.cells #[.bool d, .int .i64 l, .int .i64 s] 28)) [.bool d', .int .i64 l', .int .i64 s'] 28
  rw [World.size_alloc] at B2
  have K0 : Keep [] w ((w.alloc (.cells #[.bool d, .int .i64 l, .int .i64 s] 28)).alloc (.cells #[.bool d', .int .i64 l', .int .i64 s'] 28)) := ((Keep.refl _ _).alloc _).alloc _
  go_enter Tryd.func7, Tryd.ntmps7
  go_wp2_with fail
  refine (shown_any _).mono ?_
  rintro e w1 ⟨rfl, k1⟩
  have K1 := K0.trans k1 (by simp)
  have B1 := B1.keep k1 (by simp)
  have B2 := B2.keep k1 (by simp)
  have p0 := B1.cell 0
  have p1 := B1.cell 1
  have p2 := B1.cell 2
  simp only [List.getElem?_cons_zero, List.getElem?_cons_succ] at p0 p1 p2
  clear K0 k1
  go_wp2_with fail
  clear p0 p1 p2
  refine (value_var d l s w1).mono ?_
  rintro e w2 ⟨x, one, rfl, hb1, hx, k2⟩
  have K2 := K1.trans k2 (by simp)
  have B1 := B1.keep k2 (by simp)
  have B2 := B2.keep k2 (by simp)
  have p0 := B2.cell 0
  have p1 := B2.cell 1
  have p2 := B2.cell 2
  simp only [List.getElem?_cons_zero, List.getElem?_cons_succ] at p0 p1 p2
  have HB1 := Lib.hid hb1
  clear K1 k2 hb1
  go_wp2_with fail
  clear p0 p1 p2
  refine (value_var d' l' s' w2).mono ?_
  rintro e w3 ⟨y, two, rfl, hb2, hy, k3⟩
  have K3 := K2.trans k3 (by simp)
  have B1 := B1.keep k3 (by simp)
  have B2 := B2.keep k3 (by simp)
  have H1 := Lib.hid (unlike_inode HB1.out hx hb2 hy)
  have hxs : x.size ≤ 9 := hx.size (by rw [In.value_length]; split <;> omega)
  have HX := Lib.hid hx
  clear K2 k3 hb2 HB1 hx hy
  go_wp2_with fail
  refine (number_var n w3).mono ?_
  rintro e w4 ⟨u, three, rfl, hb3, hu, k4⟩
  have K4 := K3.trans k4 (by simp)
  have B1 := B1.keep k4 (by simp)
  have B2 := B2.keep k4 (by simp)
  have HB3 := Lib.hid hb3
  clear K3 k4 hb3
  go_wp2_with fail
  refine (number_var k w4).mono ?_
  rintro e w5 ⟨v, four, rfl, hb4, hv, k5⟩
  have K5 := K4.trans k5 (by simp)
  have B1 := B1.keep k5 (by simp)
  have B2 := B2.keep k5 (by simp)
  have H2 := Lib.hid (unlike_number HB3.out hu hb4 hv)
  have hus : u.size ≤ 4 := hu.size (by unfold In.number; rw [Pk.be_length]; omega)
  have HU := Lib.hid hu
  clear K4 k5 hb4 HB3 hu hv
  have p0 := B1.cell 0
  have p1 := B1.cell 1
  have p2 := B1.cell 2
  have q0 := B2.cell 0
  have q1 := B2.cell 1
  have q2 := B2.cell 2
  simp only [List.getElem?_cons_zero, List.getElem?_cons_succ] at p0 p1 p2 q0 q1 q2
  clear B1 B2
  go_upto_region 6 with fail
  go_cut [0, 1, 70] (fun _ _ s70 wx => s70 = .bool false ∧ Keep [] w wx)
  case first =>
    have N : (three = true ∧ four = true ∧ (n == k) = true ∧ (u.toList == v.toList) = true) ∨ (three = true ∧ four = true ∧ (n == k) = false ∧ (u.toList == v.toList) = false) ∨ (three = true ∧ four = false) ∨ three = false := by
      cases h3 : three with
      | false => simp
      | true =>
        cases h4 : four with
        | false => simp
        | true =>
          have G2 := H2.out h3 h4
          by_cases e : n = k
          · exact Or.inl ⟨rfl, rfl, by rw [beq_iff_eq]; exact e, by rw [G2.2 e]; exact beq_self_eq_true _⟩
          · exact Or.inr (Or.inl ⟨rfl, rfl, by rw [beq_eq_false_iff_ne]; exact e, toList_ne (fun h => e (G2.1 h))⟩)
    have M : (one = true ∧ two = true ∧ (d = d' ∧ l = l' ∧ s = s') ∧ (x.toList == y.toList) = true) ∨ (one = true ∧ two = true ∧ ¬ (d = d' ∧ l = l' ∧ s = s') ∧ (x.toList == y.toList) = false) ∨ (one = true ∧ two = false) ∨ one = false := by
      cases h3 : one with
      | false => simp
      | true =>
        cases h4 : two with
        | false => simp
        | true =>
          have G2 := H1.out h3 h4
          by_cases e : d = d' ∧ l = l' ∧ s = s'
          · exact Or.inl ⟨rfl, rfl, e, by rw [G2.2 e]; exact beq_self_eq_true _⟩
          · exact Or.inr (Or.inl ⟨rfl, rfl, e, toList_ne (fun h => e (G2.1 h))⟩)
    clear H1 H2 HX HU hxs hus
    rcases N with ⟨rfl, rfl, hnk, huv⟩ | ⟨rfl, rfl, hnk, huv⟩ | ⟨rfl, rfl⟩ | rfl
    all_goals
      rcases M with ⟨rfl, rfl, hab, hxy⟩ | ⟨rfl, rfl, hab, hxy⟩ | ⟨rfl, rfl⟩ | rfl
      all_goals
        try
          first
            | have heq := eqNode_no w5 hab
            | have heq := eqNode_yes w5 hab
          have HAB := Lib.hid hab
          clear hab
        go_wp2
        all_goals
          first
            | (exfalso; refine HAB.out ⟨?_, ?_, ?_⟩ <;> first | rfl | assumption)
            | (exfalso; obtain ⟨h1, h2, h3⟩ := HAB.out; contradiction)
            | (go_meet; exact ⟨rfl, K5⟩)
  case rest =>
    obtain ⟨rfl, K⟩ := hcut
    clear K5 p0 p1 p2 q0 q1 q2 H1 H2
    go_wp2_with fail
    refine (numbered_var x wc (by omega)).mono ?_
    rintro e w6 ⟨z, bas, rfl, ho, k6⟩
    have H3 := Lib.hid (unlike_as HX.out ho)
    have K6 := K.trans k6 (by simp)
    clear K k6 ho
    go_wp2_with fail
    refine (of_var u _ (by omega)).mono ?_
    rintro e w7 ⟨x1, x2, x3, is, rfl, ho, k7⟩
    have H4 := Lib.hid (unlike_is HU.out ho)
    have K7 := K6.trans k7 (by simp)
    clear k7 ho K6 hxs HX HU
    have hb : (one = true ∧ bas = false ∨ one = false) ∧ (three = true ∧ is = false ∨ three = false) := by
      constructor
      · cases h : one with
        | true => exact Or.inl ⟨rfl, H3.out h⟩
        | false => exact Or.inr rfl
      · cases h : three with
        | true => exact Or.inl ⟨rfl, H4.out h⟩
        | false => exact Or.inr rfl
    clear H3 H4
    obtain ⟨⟨rfl, rfl⟩ | rfl, ⟨rfl, rfl⟩ | rfl⟩ := hb
    all_goals
      go_wp2
      go_ret
      exact ⟨by simp, K7.alloc _⟩


theorem inodeUnlike_readable : Tryd.f7.params.toList.all (fun t => Tryd.prog.readableRec t && decide (t < Tryd.prog.types.size)) = true := by kernel_rfl

open Go.ChangeShapes Go.WideShapes Go.ChangeAt in
set_option maxRecDepth 100000 in
theorem inodeUnlike_contract (H : Type) (enc : TypeId × Value → H) (W : World) (base : Nat) (args : Array Value) (ds gs : List (DataW H)) (before : List MemPlace)
    (hval : ∀ (j : Nat) t v, Tryd.f7.params[j]? = some t → args[j]? = some v → Value.okWide Tryd.prog W .any base t v)
    (hW : DataW.Whole enc Tryd.prog Tryd.f7.params.toList Rows.inodeUnlikeSpec.vars false W args.toList ds gs before) (_hL : laidMetH Tryd.prog Rows.inodeUnlikeRow.laid W) (hS : (DataW.weightsEach Tryd.prog (Tryd.f7.params.toList ++ Rows.inodeUnlikeSpec.plain.varTypes Tryd.prog) (ds ++ gs)).all (· ≤ reachBytes) = true) :
    Calls Tryd.prog 7 args W fun e W' => ∃ v, e = .returned v ∧ Rows.inodeUnlikeSpec.post enc Tryd.prog Tryd.f7 false true false false W args v W' := by
  have hW' := hW
  obtain ⟨p, q, hA0, hV, rfl, _, _⟩ := hW
  have hA : DataW.TrodAll enc Tryd.prog W 0 (fun _ => true) true Tryd.f7.params.toList args.toList ds p := hA0
  rw [Tryd.params7] at hA hval
  obtain ⟨v0, v1, v2, v3, d0, d1, d2, d3, p0, p1, p2, p3, rfl, rfl, rfl, h0, h1, h2, h3⟩ := trodAll_four hA
  obtain ⟨rfl, rfl⟩ := trodVars_none hV
  obtain ⟨nd, nl, ns, rfl, _, _⟩ := open_node' (hval 0 28 v0 rfl rfl) h0
  obtain ⟨md, ml, ms, rfl, _, _⟩ := open_node' (hval 1 28 v1 rfl rfl) h1
  obtain ⟨a2, rfl, rfl, rfl, _⟩ := open_int Tryd.underlying3 (hval 2 3 v2 rfl rfl) h2
  obtain ⟨a3, rfl, rfl, rfl, _⟩ := open_int Tryd.underlying3 (hval 3 3 v3 rfl rfl) h3
  refine (inodeUnlike_walk nd md nl ns ml ms a2 a3 W).mono fun e W' ⟨he, hk⟩ => ?_
  have _u := hS
  subst he
  exact ⟨_, rfl, law_post Tryd.laidOut inodeUnlike_readable rfl Tryd.underlying4 rfl hW' rfl hk.below0⟩

set_option maxRecDepth 100000 in
theorem inodeUnlike_lifted (os : Os) (started : os.Started) (H : Type) (enc : TypeId × Value → H) :
    ReturnsInHanded {} Tryd.checked os 7 .any (fun w args => (Rows.inodeUnlikeSpec.pre enc Tryd.prog Tryd.f7 Rows.inodeUnlikeRow.domain false w args ∧ laidMetH Tryd.prog Rows.inodeUnlikeRow.laid w) ∧ sizedMet enc Tryd.prog Tryd.f7 (OpenSpec.ofChange Rows.inodeUnlikeSpec) false w args)
      (Rows.inodeUnlikeSpec.post enc Tryd.prog Tryd.f7 false true false false) := by
  refine returnsInHanded_of_change_and (C := Tryd.checked) (X := fun w _ => laidMetH Tryd.prog Rows.inodeUnlikeRow.laid w) (fun _ _ _ hh h => h.of_heap hh) Tryd.own started (by kernel_rfl) Tryd.func7
    (ChangeSpec.witness_shaped (enc := enc) (C := Tryd.checked) (os := os) (X := fun w _ => laidMetH Tryd.prog Rows.inodeUnlikeRow.laid w) false (World.laidAll Tryd.prog os Rows.inodeUnlikeRow.laid) #[.agg #[.bool false, .int .i64 0, .int .i64 0], .agg #[.bool false, .int .i64 0, .int .i64 0], .int .i64 0, .int .i64 0] 8 (World.laidAll_os _ _ _)
      (World.shaped_of_ZipB (by kernel_rfl) (by kernel_rfl)) (by kernel_rfl) (by kernel_rfl) (by kernel_rfl)
      (by rw [MakeChecks.laidMetH_plain _ _ _ (by kernel_rfl)]; exact laidMet_laidAll _ (by kernel_rfl) (by kernel_rfl))) ?_
  intro W base args ds gs before hval hW _ hS hL _
  exact inodeUnlike_contract H enc W base args ds gs before hval hW hL hS

theorem inodeUnlike_row_holds : Rows.InodeUnlikeSaid :=
  OpenClaim.holds_of_wide 7 Tryd.f7 rfl rfl rfl rfl rfl rfl rfl ⟨rfl, rfl, rfl, rfl, rfl⟩ rfl rfl rfl rfl rfl (by kernel_rfl) Tryd.func7 (by kernel_rfl)
    (of_decide_eq_true (by kernel_rfl)) (by unfold Func.isWrapper; first | (rw [if_pos (by decide +kernel)]; kernel_rfl) | (rw [if_neg (by decide +kernel)]; exact ⟨rfl, rfl⟩))
    (fun os started H enc _ => inodeUnlike_lifted os started H enc)

theorem inodeUnlike_holds : Rows.InodeUnlikeCardSaid :=
  Claim7.holds_tied_plain_at .later [] [.data, .pinned] true (true, "879644d4b576a1fb53cab3707f05e46681989cab49cb3ebe5b14112d0615c62a") false inodeUnlike_row_holds (fun _ h => by cases h) (by kernel_rfl) (fun _ h => by cases h) inodeUnlike_row_tie rfl ⟨rfl, rfl⟩ (by kernel_rfl) rfl
    (fun f fn hf hfn => by
      obtain rfl : f = 7 := Option.some.inj ((show Tryd.prog.funcNamed "wainscot/wainscotlaw11.InodeUnlike" = some 7 by kernel_rfl).symm.trans hf) |>.symm
      obtain rfl : fn = Tryd.f7 := (Option.some.inj (Tryd.func7.symm.trans hfn)).symm
      exact ⟨by kernel_rfl, fun j t ht => by
        have hm : t ∈ Tryd.f7.params.toList := by simpa using Array.mem_of_getElem? ht
        have hall : (Tryd.f7.params.toList.all fun u => !Tryd.prog.wantsStandIn u) = true := by kernel_rfl
        exact (show Tryd.prog.wantsStandIn t = false by simpa using List.all_eq_true.1 hall t hm)⟩)
    (by kernel_rfl)

#print axioms inodeUnlike_holds
end Go.Proofs.YteogkgjajhdhjaaDoor
