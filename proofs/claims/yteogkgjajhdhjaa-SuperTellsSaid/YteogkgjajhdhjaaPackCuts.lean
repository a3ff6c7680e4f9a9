/-
  PackCuts: what is cut is not read: the law returns true, for any text and any place. No condition.
-/
import Derived.Test.YteogkgjajhdhjaaPackF
import Derived.Test.YteogkgjajhdhjaaOpen2
import Derived.Test.YteogkgjajhdhjaaArith
namespace Go.Proofs.Yteogkgjajhdhjaa
open Go.RowKit

theorem txt_data (s : ByteArray) : txt s.data.toList = s := by
  cases s
  simp [txt]

theorem rd_good (a r : List UInt8) (n : Int) (h : (a.length : Int) = n) : (⟨a ++ r, false⟩ : Pk.Rd).take n = a ∧ (⟨a ++ r, false⟩ : Pk.Rd).skip n = ⟨r, false⟩ := by
  subst h
  simp [Pk.Rd.skip, Pk.Rd.take, Pk.Rd.can]
  omega

theorem rd_short (l : List UInt8) (bad : Bool) (n : Int) (h : (l.length : Int) < n) : (⟨l, bad⟩ : Pk.Rd).take n = [] ∧ (⟨l, bad⟩ : Pk.Rd).skip n = ⟨[], true⟩ := by
  simp [Pk.Rd.skip, Pk.Rd.take, Pk.Rd.can]
  omega

theorem rd_one (n : Nat) (h : n ≤ 255) : Pk.rd [UInt8.ofNat n] = n := by
  simp [Pk.rd]
  omega

theorem cut_text (s : List UInt8) (hs : s.length ≤ 255) (c : Nat) (hc : c < s.length + 1) :
    rtext ⟨(UInt8.ofNat s.length :: s).take c, false⟩ = [] ∧ rtextSkip ⟨(UInt8.ofNat s.length :: s).take c, false⟩ = ⟨[], true⟩ := by
  cases c with
  | zero => simp [rtext, rtextSkip, Pk.Rd.skip, Pk.Rd.take, Pk.Rd.can]
  | succ c =>
    obtain ⟨e1, e2⟩ := rd_good [UInt8.ofNat s.length] (s.take c) 1 rfl
    have e3 := rd_one s.length hs
    have e4 := rd_short (s.take c) false s.length (by simp; omega)
    unfold rtext rtextSkip
    rw [List.take_succ_cons, show UInt8.ofNat s.length :: s.take c = [UInt8.ofNat s.length] ++ s.take c from rfl, e1, e2, e3]
    exact e4

theorem whole_text (s : List UInt8) (hs : s.length ≤ 255) (r : List UInt8) :
    rtext ⟨UInt8.ofNat s.length :: (s ++ r), false⟩ = s ∧ rtextSkip ⟨UInt8.ofNat s.length :: (s ++ r), false⟩ = ⟨r, false⟩ := by
  obtain ⟨e1, e2⟩ := rd_good [UInt8.ofNat s.length] (s ++ r) 1 rfl
  have e3 := rd_one s.length hs
  have e4 := rd_good s r s.length rfl
  unfold rtext rtextSkip
  rw [show UInt8.ofNat s.length :: (s ++ r) = [UInt8.ofNat s.length] ++ (s ++ r) from rfl, e1, e2, e3]
  exact e4

set_option maxRecDepth 100000 in
set_option maxHeartbeats 400000 in
theorem packCuts_walk (s : ByteArray) (at' : Int) (w : World) (_hs : s.size ≤ 9223372036854775807) :
    Calls Try.prog 4 #[.string s, .int .i64 at'] w fun e w' => e = .returned (.bool true) ∧ Keep [] w w' := by
  go_enter Try.func4, Try.ntmps4
  go_wp2_with fail
  refine (shown_any w).mono ?_
  rintro e w1 ⟨rfl, k1⟩
  obtain ⟨m, hm, hm1, hm2⟩ := mask10 at'
  clear hm2
  obtain ⟨s', hs', hl'⟩ : ∃ s' : ByteArray, (if 255 < s.size then s.extract 0 255 else s.extract 0 s.size) = s' ∧ s'.size ≤ 255 := ⟨_, rfl, by split <;> simp [ByteArray.size_extract] <;> omega⟩
  by_cases hmin : 255 < s.size
  all_goals
    simp only [hmin, if_true, if_false] at hs'
    go_wp2_with fail
    refine (new_any 300 w1 (by omega)).mono ?_
    rintro e w2 ⟨rfl, h2, k2, _⟩
    obtain ⟨bw, hbw⟩ : ∃ bw, bw = w1.heap.size := ⟨_, rfl⟩
    have L2 : LW w.heap.size w2 bw (.slice none 0 0) ⟨[], 300, false⟩ := by rw [hbw]; simpa using LW.new k1 h2
    rw [← hbw]
    have K2 : Keep [] w w2 := k1.trans k2 (by simp)
    clear hbw h2
    go_wp2_with fail
    refine (text_any bw _ _ s' w2 (by omega) L2.isw).mono ?_
    rintro e w3 ⟨rfl, o3⟩
    obtain ⟨v3, L3, K3, _, _⟩ := LW.step (w0 := w) L2 K2 o3
    have hsl : s'.data.toList.length = s'.size := by rw [Array.length_toList]; rfl
    obtain ⟨l, hl, hll, hlt, hlw, hlc⟩ : ∃ l : List UInt8, (⟨[], 300, false⟩ : Pk.Wr).text s'.data.toList = ⟨l, 300, false⟩ ∧ l.length = s'.size + 1 ∧ l = UInt8.ofNat s'.data.toList.length :: s'.data.toList ∧ (rtext ⟨l, false⟩ = s'.data.toList ∧ rtextSkip ⟨l, false⟩ = ⟨[], false⟩) ∧ (∀ c, c < s'.size + 1 → rtext ⟨l.take c, false⟩ = [] ∧ rtextSkip ⟨l.take c, false⟩ = ⟨[], true⟩) := by
      refine ⟨_, ?_, ?_, rfl, ?_, fun c hc => cut_text _ (by omega) c (by omega)⟩
      · rw [text_eq, put_room_true (n := 1 + s'.size) (by simp [hsl]; omega)]
        · simp [hsl]
        · simp [Pk.Wr.room]; omega
      · simp [hsl]
      · simpa using whole_text s'.data.toList (by omega) []
    rw [hl] at L3
    clear o3 L2 K2 hl hsl hlt
    go_wp2_with fail
    refine (done_ok bw v3 _ _ w3 L3.isw).mono ?_
    rintro e w4 ⟨ao4, c4, rfl, o4, k4, r4⟩
    have K4 : Keep [] w w4 := K3.trans k4 (by simp)
    clear k4 K3 L3
    obtain ⟨_, ao4', c4', e4, hc4, hnn4, hcl4⟩ := RdV.ofOwn o4
    cases e4
    have rd4 : RdV w4 (.slice ao4 (s'.size + 1) c4) l.length 1 (bv l) := by rw [← hll]; exact RdV.ofOwn o4
    obtain ⟨c, hcm, hcl⟩ : ∃ c : Nat, (m : Int) % ((s'.size : Int) + 1) = c ∧ c < s'.size + 1 := ⟨m % (s'.size + 1), by rw [Int.natCast_emod]; rfl, Nat.mod_lt _ (by omega)⟩
    have rdc : RdV w4 (.slice ao4 c c4) (l.take c).length 1 (bv (l.take c)) := by
      rw [List.length_take, Nat.min_eq_left (by omega)]
      exact rd_take hc4 (by omega) hnn4 hcl4
    have hcc : c ≤ c4 := by omega
    have hlc1 := hlc c (by omega)
    clear o4 hcl4 hlc
    go_wp2_with fail
    refine (read_any _ (l.take c) w4 rdc (by simp; omega)).mono ?_
    rintro e w5 ⟨br, u5, rfl, h5, k5, b5, q5⟩
    have hd5 : br ∉ fpOf (.slice ao4 (s'.size + 1) c4) := fun hx => by have := rd4.lt (by omega) _ hx; omega
    have rd5 := rd4.keep k5 (by simp)
    have K5 : Keep [] w w5 := K4.trans k5 (by simp)
    have L5 := LR.new K4 h5 b5 q5
    clear h5 rd4 rdc
    go_wp2_with fail
    refine (read_any _ l w5 rd5 (by omega)).mono ?_
    rintro e w6 ⟨bs, u6, rfl, h6, k6, b6, q6⟩
    have K6 : Keep [] w w6 := K5.trans k6 (by simp)
    have M6 := LR.new K5 h6 b6 q6
    have hne : ∀ x ∈ rfp br u5, x ∉ [bs] := fun x hx hx' => by simp at hx'; subst hx'; have := L5.lt _ hx; omega
    have hne' : ∀ x ∈ rfp bs u6, x ∉ [br] := fun x hx hx' => by
      simp at hx'
      subst hx'
      have h1 := L5.isr.blk.lt
      rcases List.mem_cons.1 hx with h | h
      · omega
      · have := q6 _ h; omega
    have L6 := L5.keep k6 (by simp)
    clear h6 L5 rd5 k5 q5 q6 hd5
    go_wp2_with fail
    refine (rtext_any br _ _ w6 L6.isr).mono ?_
    rintro e w7 ⟨rfl, o7⟩
    obtain ⟨u7, L7, K7, k7, r7⟩ := LR.step (w0 := w) L6 K6 o7
    have M7 := M6.keep k7 hne'
    rw [hlc1.1, show txt [] = ⟨#[]⟩ from rfl]
    rw [hlc1.2] at L7
    clear o7 L6 M6
    go_wp2_with fail
    refine (rtext_any bs _ _ w7 M7.isr).mono ?_
    rintro e w8 ⟨rfl, o8⟩
    obtain ⟨u8, M8, K8, k8, _⟩ := LR.step (w0 := w) M7 K7 o8
    rw [hlw.1, txt_data]
    rw [hlw.2] at M8
    have hne7 : ∀ x ∈ rfp br u7, x ∉ [bs] := fun x hx => hne x (r7 x hx)
    have L8 := L7.keep k8 hne7
    clear o8 L7 M7
    go_wp2_with (first | (go_at_call 24; refine (wrong_any br _ _ _ L8.isr).mono ?_; rintro e w' ⟨rfl, rfl⟩) | (go_at_call 24; refine (wrong_any bs _ _ _ M8.isr).mono ?_; rintro e w' ⟨rfl, rfl⟩) | (go_at_call 25; refine (left_any bs _ _ _ M8.isr).mono ?_; rintro e w' ⟨rfl, rfl⟩))
    go_ret
    exact ⟨rfl, K8⟩


theorem packCuts_readable : Try.f4.params.toList.all (fun t => Try.prog.readableRec t && decide (t < Try.prog.types.size)) = true := by kernel_rfl

open Go.ChangeShapes Go.WideShapes Go.ChangeAt in
set_option maxRecDepth 100000 in
theorem packCuts_contract (H : Type) (enc : TypeId × Value → H) (W : World) (base : Nat) (args : Array Value) (ds gs : List (DataW H)) (before : List MemPlace)
    (hval : ∀ (j : Nat) t v, Try.f4.params[j]? = some t → args[j]? = some v → Value.okWide Try.prog W .any base t v)
    (hW : DataW.Whole enc Try.prog Try.f4.params.toList Rows.packCutsSpec.vars false W args.toList ds gs before) :
    Calls Try.prog 4 args W fun e W' => ∃ v, e = .returned v ∧ Rows.packCutsSpec.post enc Try.prog Try.f4 false true false false W args v W' := by
  have hW' := hW
  obtain ⟨p, q, hA0, hV, rfl, _, _⟩ := hW
  have hA : DataW.TrodAll enc Try.prog W 0 (fun _ => true) true Try.f4.params.toList args.toList ds p := hA0
  rw [Try.params4] at hA hval
  obtain ⟨v0, v1, d0, d1, p0, p1, rfl, rfl, rfl, h0, h1⟩ := trodAll_two hA
  obtain ⟨rfl, rfl⟩ := trodVars_none hV
  obtain ⟨s, rfl, hs⟩ := open_text Try.underlying9 (hval 0 9 v0 rfl rfl) h0
  obtain ⟨a1, rfl, rfl, rfl, w1⟩ := open_int Try.underlying3 (hval 1 3 v1 rfl rfl) h1
  refine (packCuts_walk s a1 W hs).mono fun e W' ⟨he, hk⟩ => ?_
  subst he
  exact ⟨_, rfl, law_post Try.laidOut packCuts_readable rfl Try.underlying4 rfl hW' rfl hk.below0⟩

set_option maxRecDepth 100000 in
theorem packCuts_lifted (os : Os) (started : os.Started) (H : Type) (enc : TypeId × Value → H) :
    ReturnsInHanded {} Try.checked os 4 .any (Rows.packCutsSpec.pre6 enc Try.prog Try.f4 Rows.packCutsRow.domain false) (Rows.packCutsSpec.post enc Try.prog Try.f4 false true false false) := by
  refine returnsInHanded_of_change_sized (C := Try.checked) Try.own started (by kernel_rfl) Try.func4
    (ChangeSpec.witness6 (enc := enc) (C := Try.checked) false ⟨#[], #[.string ⟨#[]⟩, .int .i64 0], []⟩ 8 (by kernel_rfl) (by kernel_rfl) (by kernel_rfl) (by kernel_rfl)) ?_
  intro W base args ds gs before hval hW _ _ _
  exact packCuts_contract H enc W base args ds gs before hval hW

theorem packCuts_holds : Rows.PackCutsSaid :=
  OpenClaim.holds_of_wide 4 Try.f4 rfl rfl rfl rfl rfl rfl rfl ⟨rfl, rfl, rfl, rfl, rfl⟩ rfl rfl rfl rfl rfl (by kernel_rfl) Try.func4 (by kernel_rfl)
    (of_decide_eq_true (by kernel_rfl)) (by unfold Func.isWrapper; first | (rw [if_pos (by decide +kernel)]; kernel_rfl) | (rw [if_neg (by decide +kernel)]; exact ⟨rfl, rfl⟩))
    (fun os started H enc _ => packCuts_lifted os started H enc)

#print axioms packCuts_holds
end Go.Proofs.Yteogkgjajhdhjaa
