/-
  PackOrder: numbers are ordered as their bytes: the law returns true, for any two numbers. No condition.
-/
import Derived.Test.YteogkgjajhdhjaaPackF
import Derived.Test.YteogkgjajhdhjaaOpen2
import Derived.Test.YteogkgjajhdhjaaArith
namespace Go.Proofs.Yteogkgjajhdhjaa
open Go.RowKit

theorem less_snoc : ∀ (x y : List UInt8) (c d : UInt8), x.length = y.length → Op.bytesLess (x ++ [c]) (y ++ [d]) = (Op.bytesLess x y || (x == y && decide (c < d)))
  | [], [], c, d, _ => by simp [Op.bytesLess]
  | a :: x, b :: y, c, d, h => by
    have ih := less_snoc x y c d (by simpa using h)
    simp only [List.cons_append, Op.bytesLess, ih]
    by_cases hab : a = b
    · subst hab
      simp
    · have h1 : (a == b) = false := by simp [hab]
      simp [h1]
  | [], _ :: _, _, _, h => by simp at h
  | _ :: _, [], _, _, h => by simp at h

theorem be_inj (n a b : Nat) (ha : a < 256 ^ n) (hb : b < 256 ^ n) (h : Pk.be a n = Pk.be b n) : a = b := by
  have := congrArg Pk.rd h
  rwa [Pk.rd_be, Pk.rd_be, Nat.mod_eq_of_lt ha, Nat.mod_eq_of_lt hb] at this

theorem be_less : ∀ (n a b : Nat), a < 256 ^ n → b < 256 ^ n → Op.bytesLess (Pk.be a n) (Pk.be b n) = decide (a < b)
  | 0, a, b, ha, hb => by
    simp at ha hb
    subst ha hb
    rfl
  | n + 1, a, b, ha, hb => by
    have ha' : a / 256 < 256 ^ n := by rw [Nat.pow_succ] at ha; omega
    have hb' : b / 256 < 256 ^ n := by rw [Nat.pow_succ] at hb; omega
    have ih := be_less n (a / 256) (b / 256) ha' hb'
    simp only [Pk.be]
    rw [less_snoc _ _ _ _ (by rw [Pk.be_length, Pk.be_length]), ih]
    have hc : ∀ x : Nat, (UInt8.ofNat x).toNat = x % 256 := fun x => by simp
    by_cases hq : a / 256 = b / 256
    · have e1 : (Pk.be (a / 256) n == Pk.be (b / 256) n) = true := by rw [hq]; simp
      rw [e1]
      have : decide (UInt8.ofNat a < UInt8.ofNat b) = decide (a < b) := by
        rw [decide_eq_decide, UInt8.lt_iff_toNat_lt, hc, hc]
        omega
      rw [this]
      simp
      omega
    · have e1 : (Pk.be (a / 256) n == Pk.be (b / 256) n) = false := by
        rw [beq_eq_false_iff_ne]
        exact fun h => hq (be_inj n _ _ ha' hb' h)
      rw [e1]
      simp
      omega

theorem txt_toList (l : List UInt8) : (txt l).toList = l := by
  rw [ByteArray.toList_eq]
  simp [txt]

set_option maxRecDepth 100000 in
set_option maxHeartbeats 400000 in
theorem lawLong_any (a : Int) (w : World) (h0 : 0 ≤ a) : Calls Try.prog 26 #[.int .u64 a] w fun e w' => e = .returned (.tuple #[.string (txt (Pk.be a.toNat 8)), .bool true]) ∧ Keep [] w w' := by
  go_enter Try.func26, Try.ntmps26
  go_wp2_with fail
  refine (new_any 8 w (by omega)).mono ?_
  rintro e w2 ⟨rfl, h2, k2, _⟩
  obtain ⟨bw, hbw⟩ : ∃ bw, bw = w.heap.size := ⟨_, rfl⟩
  have L2 : LW w.heap.size w2 bw (.slice none 0 0) ⟨[], 8, false⟩ := by rw [hbw]; simpa using LW.new (Keep.refl [] w) h2
  rw [← hbw]
  clear hbw h2
  go_wp2_with fail
  refine (long_any bw _ _ a w2 (by omega) L2.isw).mono ?_
  rintro e w3 ⟨rfl, o3⟩
  obtain ⟨v3, L3, K3, _, _⟩ := LW.step (w0 := w) L2 k2 o3
  have hl : (⟨[], 8, false⟩ : Pk.Wr).long a = ⟨Pk.be a.toNat 8, 8, false⟩ := by
    have e8 := Pk.be_length a.toNat 8
    unfold Pk.Wr.long Pk.Wr.put Pk.Wr.room
    simp [e8]
  rw [hl] at L3
  clear o3 L2 k2 hl
  go_wp2_with fail
  refine (done_ok bw v3 _ _ w3 L3.isw).mono ?_
  rintro e w4 ⟨ao4, c4, rfl, o4, k4, r4⟩
  have K4 : Keep [] w w4 := K3.trans k4 (by simp)
  have rd4 : RdV w4 (.slice ao4 (Pk.be a.toNat 8).length c4) (Pk.be a.toNat 8).length 1 (bv (Pk.be a.toNat 8)) := RdV.ofOwn o4
  have hcv := conv_str rd4
  rw [Pk.be_length] at hcv ⊢
  clear k4 K3 L3 rd4
  go_wp2
  go_ret2
  exact ⟨rfl, K4⟩

set_option maxRecDepth 100000 in
set_option maxHeartbeats 400000 in
theorem lawWord_ok (a : Int) (w : World) (h0 : 0 ≤ a) (ha : a < 4294967296) : Calls Try.prog 27 #[.int .u64 a] w fun e w' => e = .returned (.tuple #[.string (txt (Pk.be a.toNat 4)), .bool true]) ∧ Keep [] w w' := by
  go_enter Try.func27, Try.ntmps27
  go_wp2_with fail
  refine (new_any 4 w (by omega)).mono ?_
  rintro e w2 ⟨rfl, h2, k2, _⟩
  obtain ⟨bw, hbw⟩ : ∃ bw, bw = w.heap.size := ⟨_, rfl⟩
  have L2 : LW w.heap.size w2 bw (.slice none 0 0) ⟨[], 4, false⟩ := by rw [hbw]; simpa using LW.new (Keep.refl [] w) h2
  rw [← hbw]
  clear hbw h2
  have hi : IntKind.i64.wrap a = a := by rw [IntKind.wrap_i64]; omega
  go_wp2_with fail
  refine (word_any bw _ _ a w2 (by omega) (by omega) L2.isw).mono ?_
  rintro e w3 ⟨rfl, o3⟩
  obtain ⟨v3, L3, K3, _, _⟩ := LW.step (w0 := w) L2 k2 o3
  have hl : (⟨[], 4, false⟩ : Pk.Wr).word a = ⟨Pk.be a.toNat 4, 4, false⟩ := by
    have e8 := Pk.be_length a.toNat 4
    unfold Pk.Wr.word Pk.Wr.put Pk.Wr.room
    simp [e8]
    omega
  rw [hl] at L3
  clear o3 L2 k2 hl
  go_wp2_with fail
  refine (done_ok bw v3 _ _ w3 L3.isw).mono ?_
  rintro e w4 ⟨ao4, c4, rfl, o4, k4, r4⟩
  have K4 : Keep [] w w4 := K3.trans k4 (by simp)
  have rd4 : RdV w4 (.slice ao4 (Pk.be a.toNat 4).length c4) (Pk.be a.toNat 4).length 1 (bv (Pk.be a.toNat 4)) := RdV.ofOwn o4
  have hcv := conv_str rd4
  rw [Pk.be_length] at hcv ⊢
  clear k4 K3 L3 rd4
  go_wp2
  go_ret2
  exact ⟨rfl, K4⟩

theorem word_not (x : Int) (h : x < 0 ∨ 4294967295 < x) (m : Nat) : (⟨[], m, false⟩ : Pk.Wr).word x = ⟨[], m, true⟩ := by
  have : decide (0 ≤ x ∧ x ≤ 4294967295) = false := by rw [decide_eq_false_iff_not]; omega
  unfold Pk.Wr.word
  rw [this, put_false]

set_option maxRecDepth 100000 in
set_option maxHeartbeats 400000 in
theorem lawWord_bad (a : Int) (w : World) (_h0 : 0 ≤ a) (ha : ¬ a < 4294967296) : Calls Try.prog 27 #[.int .u64 a] w fun e w' => e = .returned (.tuple #[.string ⟨#[]⟩, .bool false]) ∧ Keep [] w w' := by
  go_enter Try.func27, Try.ntmps27
  go_wp2_with fail
  refine (new_any 4 w (by omega)).mono ?_
  rintro e w2 ⟨rfl, h2, k2, _⟩
  obtain ⟨bw, hbw⟩ : ∃ bw, bw = w.heap.size := ⟨_, rfl⟩
  have L2 : LW w.heap.size w2 bw (.slice none 0 0) ⟨[], 4, false⟩ := by rw [hbw]; simpa using LW.new (Keep.refl [] w) h2
  rw [← hbw]
  clear hbw h2
  by_cases hb : a < 4611686018427387904
  all_goals
    have hi : a < 4611686018427387904 → IntKind.i64.wrap a = a := fun h => by rw [IntKind.wrap_i64]; omega
    first | have hi := hi hb | clear hi
    go_wp2_with fail
    refine (word_any bw _ _ _ w2 (by omega) (by omega) L2.isw).mono ?_
    rintro e w3 ⟨rfl, o3⟩
    obtain ⟨v3, L3, K3, _, _⟩ := LW.step (w0 := w) L2 k2 o3
    rw [word_not _ (by omega)] at L3
    clear o3 L2 k2
    go_wp2_with fail
    refine (done_bad bw v3 _ _ w3 L3.isw).mono ?_
    rintro e w4 ⟨ao4, c4, rfl, o4, k4, r4⟩
    have K4 : Keep [] w w4 := K3.trans k4 (by simp)
    have rd4 : RdV w4 (.slice ao4 0 c4) ([] : List UInt8).length 1 (bv []) := RdV.ofOwn o4
    have hcv := conv_str rd4
    rw [show txt [] = ⟨#[]⟩ from rfl] at hcv
    clear k4 K3 L3 rd4
    go_wp2
    go_ret2
    exact ⟨rfl, K4⟩

/-- how two numbers' bytes stand to one another -/
theorem order_facts (n : Nat) (a b : Int) (ha0 : 0 ≤ a) (hb0 : 0 ≤ b) (ha : a.toNat < 256 ^ n) (hb : b.toNat < 256 ^ n) :
    Op.bytesLess (txt (Pk.be a.toNat n)).toList (txt (Pk.be b.toNat n)).toList = decide (a < b) ∧ ((txt (Pk.be a.toNat n)).toList = (txt (Pk.be b.toNat n)).toList ↔ a = b) := by
  rw [txt_toList, txt_toList]
  refine ⟨by rw [be_less n _ _ ha hb, decide_eq_decide]; omega, fun h => ?_, fun h => by rw [h]⟩
  have := be_inj n _ _ ha hb h
  omega

theorem txt_size (l : List UInt8) : (txt l).size = l.length := by simp [txt, ByteArray.size]

set_option maxRecDepth 100000 in
set_option maxHeartbeats 400000 in
theorem packOrder_walk (a b : Int) (w : World) (ha0 : 0 ≤ a) (ha1 : a ≤ 18446744073709551615) (hb0 : 0 ≤ b) (hb1 : b ≤ 18446744073709551615) :
    Calls Try.prog 5 #[.int .u64 a, .int .u64 b] w fun e w' => e = .returned (.bool true) ∧ Keep [] w w' := by
  have f8 := order_facts 8 a b ha0 hb0 (show _ < 18446744073709551616 by omega) (show _ < 18446744073709551616 by omega)
  have f4 := fun (h : a < 4294967296) (k : b < 4294967296) => order_facts 4 a b ha0 hb0 (show _ < 4294967296 by omega) (show _ < 4294967296 by omega)
  have la := fun w => lawLong_any a w ha0
  have lb := fun w => lawLong_any b w hb0
  have wa := fun (h : a < 4294967296) w => lawWord_ok a w ha0 h
  have wb := fun (h : b < 4294967296) w => lawWord_ok b w hb0 h
  have xa := fun (h : ¬ a < 4294967296) w => lawWord_bad a w ha0 h
  have xb := fun (h : ¬ b < 4294967296) w => lawWord_bad b w hb0 h
  have sa := (txt_size (Pk.be a.toNat 8)).trans (Pk.be_length _ _)
  have sa4 := (txt_size (Pk.be a.toNat 4)).trans (Pk.be_length _ _)
  generalize txt (Pk.be a.toNat 8) = x8 at *
  generalize txt (Pk.be b.toNat 8) = y8 at *
  generalize txt (Pk.be a.toNat 4) = x4 at *
  generalize txt (Pk.be b.toNat 4) = y4 at *
  obtain ⟨g1, g2⟩ := f8
  have e1 : (a == b) = (x8.toList == y8.toList) := by rw [Bool.eq_iff_iff, beq_iff_eq, beq_iff_eq]; exact g2.symm
  obtain ⟨z, ta, hta, ua⟩ : ∃ (z : ByteArray) (t : Bool), t = decide (a < 4294967296) ∧ (∀ w, Calls Try.prog 27 #[.int .u64 a] w fun e w' => e = .returned (.tuple #[.string z, .bool t]) ∧ Keep [] w w') ∧ (t = true → z = x4) := by
    by_cases h : a < 4294967296
    · exact ⟨x4, true, by simp [h], wa h, fun _ => rfl⟩
    · exact ⟨_, false, by simp [h], xa h, fun h => by cases h⟩
  obtain ⟨z', tb, htb, ub⟩ : ∃ (z : ByteArray) (t : Bool), t = decide (b < 4294967296) ∧ (∀ w, Calls Try.prog 27 #[.int .u64 b] w fun e w' => e = .returned (.tuple #[.string z, .bool t]) ∧ Keep [] w w') ∧ (t = true → z = y4) := by
    by_cases h : b < 4294967296
    · exact ⟨y4, true, by simp [h], wb h, fun _ => rfl⟩
    · exact ⟨_, false, by simp [h], xb h, fun h => by cases h⟩
  clear wa wb xa xb
  obtain ⟨ua, va⟩ := ua
  obtain ⟨ub, vb⟩ := ub
  have h4 : ta = true → tb = true → z.size = 4 ∧ Op.bytesLess z.toList z'.toList = decide (a < b) := by
    intro p q
    rw [va p, vb q]
    rw [p] at hta
    rw [q] at htb
    exact ⟨sa4, (f4 (of_decide_eq_true hta.symm) (of_decide_eq_true htb.symm)).1⟩
  clear f4 va vb sa4
  go_enter Try.func5, Try.ntmps5
  go_wp2_with fail
  refine (shown_any w).mono ?_
  rintro e w1 ⟨rfl, k1⟩
  go_wp2_with fail
  refine (la w1).mono ?_
  rintro e w2 ⟨rfl, k2⟩
  replace k2 : Keep [] w w2 := k1.trans k2 (by simp)
  clear k1 la
  go_wp2_with fail
  refine (lb w2).mono ?_
  rintro e w3 ⟨rfl, k3⟩
  replace k3 : Keep [] w w3 := k2.trans k3 (by simp)
  clear k2 lb
  go_wp2_with fail
  refine (ua w3).mono ?_
  rintro e w4 ⟨rfl, k4⟩
  replace k4 : Keep [] w w4 := k3.trans k4 (by simp)
  clear k3 ua
  go_wp2_with fail
  refine (ub w4).mono ?_
  rintro e w5 ⟨rfl, k5⟩
  replace k5 : Keep [] w w5 := k4.trans k5 (by simp)
  clear k4 ub
  have key : (a < b ∧ ¬ a = b ∨ ¬ a < b ∧ a = b ∨ ¬ a < b ∧ ¬ a = b) := by omega
  rcases key with ⟨p, q⟩ | ⟨p, q⟩ | ⟨p, q⟩
  all_goals
    simp only [p, decide_true, decide_false] at g1 h4
    have g2' := (not_congr g2)
    first | have g2 := g2.2 q | have g2 := g2'.2 q
    clear g2'
    cases ta <;> cases tb
    all_goals
      have pa := hta.symm
      have pb := htb.symm
      simp only [decide_eq_true_eq, decide_eq_false_iff_not] at pa pb
      clear hta htb
      first | obtain ⟨h4, h5⟩ := h4 rfl rfl | clear h4
      go_wp2
      all_goals go_ret
      all_goals first
        | exact ⟨rfl, k5⟩
        | (exfalso; contradiction)
        | (exfalso; rename_i h; rcases h with h | h <;> contradiction)
        | (exfalso; rename_i h; rw [g1] at h; cases h)
        | (exfalso; omega)
        | (refine ⟨?_, k5⟩; clear k5; simp_all; done)


theorem packOrder_readable : Try.f5.params.toList.all (fun t => Try.prog.readableRec t && decide (t < Try.prog.types.size)) = true := by kernel_rfl

open Go.ChangeShapes Go.WideShapes Go.ChangeAt in
set_option maxRecDepth 100000 in
theorem packOrder_contract (H : Type) (enc : TypeId × Value → H) (W : World) (base : Nat) (args : Array Value) (ds gs : List (DataW H)) (before : List MemPlace)
    (hval : ∀ (j : Nat) t v, Try.f5.params[j]? = some t → args[j]? = some v → Value.okWide Try.prog W .any base t v)
    (hW : DataW.Whole enc Try.prog Try.f5.params.toList Rows.packOrderSpec.vars false W args.toList ds gs before) :
    Calls Try.prog 5 args W fun e W' => ∃ v, e = .returned v ∧ Rows.packOrderSpec.post enc Try.prog Try.f5 false true false false W args v W' := by
  have hW' := hW
  obtain ⟨p, q, hA0, hV, rfl, _, _⟩ := hW
  have hA : DataW.TrodAll enc Try.prog W 0 (fun _ => true) true Try.f5.params.toList args.toList ds p := hA0
  rw [Try.params5] at hA hval
  obtain ⟨v0, v1, d0, d1, p0, p1, rfl, rfl, rfl, h0, h1⟩ := trodAll_two hA
  obtain ⟨rfl, rfl⟩ := trodVars_none hV
  obtain ⟨a0, rfl, rfl, rfl, w0⟩ := open_int Try.underlying37 (hval 0 37 v0 rfl rfl) h0
  obtain ⟨a1, rfl, rfl, rfl, w1⟩ := open_int Try.underlying37 (hval 1 37 v1 rfl rfl) h1
  refine (packOrder_walk a0 a1 W (wf_u64 w0).1 (wf_u64 w0).2 (wf_u64 w1).1 (wf_u64 w1).2).mono fun e W' ⟨he, hk⟩ => ?_
  subst he
  exact ⟨_, rfl, law_post Try.laidOut packOrder_readable rfl Try.underlying4 rfl hW' rfl hk.below0⟩

set_option maxRecDepth 100000 in
theorem packOrder_lifted (os : Os) (started : os.Started) (H : Type) (enc : TypeId × Value → H) :
    ReturnsInHanded {} Try.checked os 5 .any (Rows.packOrderSpec.pre6 enc Try.prog Try.f5 Rows.packOrderRow.domain false) (Rows.packOrderSpec.post enc Try.prog Try.f5 false true false false) := by
  refine returnsInHanded_of_change_sized (C := Try.checked) Try.own started (by kernel_rfl) Try.func5
    (ChangeSpec.witness6 (enc := enc) (C := Try.checked) false ⟨#[], #[.int .u64 0, .int .u64 0], []⟩ 8 (by kernel_rfl) (by kernel_rfl) (by kernel_rfl) (by kernel_rfl)) ?_
  intro W base args ds gs before hval hW _ _ _
  exact packOrder_contract H enc W base args ds gs before hval hW

theorem packOrder_holds : Rows.PackOrderSaid :=
  OpenClaim.holds_of_wide 5 Try.f5 rfl rfl rfl rfl rfl rfl rfl ⟨rfl, rfl, rfl, rfl, rfl⟩ rfl rfl rfl rfl rfl (by kernel_rfl) Try.func5 (by kernel_rfl)
    (of_decide_eq_true (by kernel_rfl)) (by unfold Func.isWrapper; first | (rw [if_pos (by decide +kernel)]; kernel_rfl) | (rw [if_neg (by decide +kernel)]; exact ⟨rfl, rfl⟩))
    (fun os started H enc _ => packOrder_lifted os started H enc)

#print axioms packOrder_holds
end Go.Proofs.Yteogkgjajhdhjaa
