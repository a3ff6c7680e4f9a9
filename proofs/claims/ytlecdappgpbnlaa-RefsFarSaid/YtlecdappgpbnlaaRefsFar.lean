/-
  RefsFar: a device may be as large as it likes: the law returns true, for any number of blocks, any of them, marked any number of times. No condition.
-/
import Derived.Test.YtlecdappgpbnlaaRefsTakes
namespace Go.Proofs.Ytlecdappgpbnlaa
open Go.RowKit

theorem mask6 (x : Int) : ∃ m : Nat, bits BinOp.and IntKind.i64 x 63 = (m : Int) ∧ m ≤ 63 ∧ (m : Int) = x % 64 := by
  obtain ⟨m, h1, h2, h3⟩ := mask_nat x 6 (by omega)
  exact ⟨m, h1, by omega, h3⟩

/-- one block is needed j times, no other one -/
def fOne (n j : Int) : Int → Int := fun k => if k = n then j else 0

theorem fOne_at (n j : Int) : fOne n j n = j := by simp [fOne]
theorem fOne_upd (n j i k : Int) : Rf.upd (fOne n j) n i k = fOne n i k := by
  unfold Rf.upd fOne; split <;> rfl
theorem fOne_cnt {n : Nat} {B : Nat} {j : Int} (h : n < B) (hj : j ≠ 0) : Rf.cntN (fOne n j) B = 1 := by
  have h1 := Rf.cntN_upd (fun _ => 0) (n : Int) j B (by omega) (by omega)
  rw [if_pos rfl, if_neg hj, Rf.cntN_zero B (fun _ _ _ => rfl)] at h1
  have h2 : Rf.cntN (fOne n j) B = Rf.cntN (Rf.upd (fun _ => 0) (n : Int) j) B := Rf.cntN_congr B (fun i _ _ => by unfold Rf.upd fOne; exact Iff.rfl)
  rw [h2]; omega
theorem fOne_used {n : Nat} {B : Nat} {j : Int} (h : n < B) (hj : j ≠ 0) : Rf.used (fOne n j) B = [(n : Int)] := by
  have hl := Rf.used_length (fOne n j) B
  rw [fOne_cnt h hj] at hl
  match hu : Rf.used (fOne n j) B, hl with
  | [x], _ =>
    have hx : x ∈ Rf.used (fOne n j) B := by rw [hu]; simp
    have := (Rf.mem_used.1 hx).2.2
    unfold fOne at this
    split at this
    · rename_i e; rw [e]
    · exact absurd rfl this

set_option maxRecDepth 100000 in
set_option maxHeartbeats 3200000 in
theorem refsFar_walk (blocks n0 times : Int) (w : World) :
    Calls Try.prog 5 #[.int .i64 blocks, .int .i64 n0, .int .i64 times] w fun e w' => e = .returned (.bool true) ∧ Keep [] w w' := by
  go_enter Try.func5, Try.ntmps5
  go_wp2_with fail
  refine (shown_any w).mono ?_
  rintro e w1 ⟨rfl, k1⟩
  obtain ⟨m, hm, hm1, hmm⟩ := mask32 blocks
  clear hmm
  obtain ⟨B, hB, hB3, hB5⟩ : ∃ B : Nat, 3 + (m : Int) % 4294967293 = (B : Int) ∧ 3 ≤ B ∧ B ≤ 4294967295 := ⟨3 + m % 4294967293, by omega, by omega, by omega⟩
  have hB3I : (3 : Int) ≤ (B : Int) := by omega
  have hB5I : (B : Int) ≤ 4294967295 := by omega
  obtain ⟨m2, hm2, hm21, hmm⟩ := mask32 n0
  clear hmm
  obtain ⟨q, hq, hq2, hqB⟩ : ∃ q : Nat, 2 + (m2 : Int) % ((B : Int) - 2) = (q : Int) ∧ 2 ≤ q ∧ q < B := by
    have h1 := Int.emod_nonneg (m2 : Int) (show (B : Int) - 2 ≠ 0 by omega)
    have h2 := Int.emod_lt_of_pos (m2 : Int) (show 0 < (B : Int) - 2 by omega)
    exact ⟨(2 + (m2 : Int) % ((B : Int) - 2)).toNat, by omega, by omega, by omega⟩
  obtain ⟨m3, hm3, hm31, hmm⟩ := mask6 times
  clear hmm
  obtain ⟨T, hT, hT1, hT2⟩ : ∃ T : Nat, 1 + (m3 : Int) = (T : Int) ∧ 1 ≤ T ∧ T ≤ 64 := ⟨1 + m3, by omega, by omega, by omega⟩
  have hT1I : (1 : Int) ≤ (T : Int) := by omega
  go_wp2_with fail
  clear hm hm2 hm3
  refine (lnew B w w1 k1 (by omega) (by omega) B (by omega)).mono ?_
  rintro e w2 ⟨r, bm, rfl, h2, k2, _, _⟩
  have hr := h2.hr
  have hbm := h2.hm
  have K2 := k1.trans k2 (by simp)
  have h2' : LRf w.heap.size w2 r bm (fOne q 0) B := h2.congr (fun k => by unfold fOne; split <;> rfl)
  have HBE := Lib.hid (And.intro hB (And.intro hq hT))
  clear h2 k1 k2 hB hq hT
  go_wp2_with fail
  go_loopw [9] (fun i wr => ∃ j : Nat, j ≤ T ∧ i = .int .i64 j ∧ LRf w.heap.size wr r bm (fOne q j) B ∧ Keep [] w wr) (fun i _ => T - (intOf i).toNat)
  case atStart => exact ⟨0, Nat.zero_le _, rfl, h2', K2⟩
  case round =>
    clear h2' K2
    obtain ⟨j, hjT, rfl, L, K⟩ := hrel
    by_cases hlt : j < T
    · have hltI : (j : Int) < (T : Int) := by omega
      by_cases hj0 : j = 0
      all_goals
        first
          | have hjb : ((j : Int) == 0) = true := by rw [beq_iff_eq]; omega
          | have hjb : ((j : Int) == 0) = false := by rw [beq_eq_false_iff_ne]; omega
        have HJ := Lib.hid hj0
        clear hj0
        go_wp2_with fail
        refine (lmark (q : Int) L (by omega) (by omega) (by rw [fOne_at]; omega) _ (by rw [fOne_at])).mono ?_
        rintro e w4 ⟨rfl, L4, k4⟩
        have L5 := L4.congr (g := fOne q ((j + 1 : Nat) : Int)) (fun k => by rw [fOne_at]; exact fOne_upd _ _ _ _)
        have K4 := own_keep K k4 hr hbm
        clear L4 L k4 K
        go_wp2
        go_roundw
        case rel => exact ⟨j + 1, by omega, by go_num, L5, K4⟩
        case measure => simp [intOf]; omega
    · obtain rfl : j = T := by omega
      clear hlt hjT
      have hcn := fOne_cnt (n := q) (B := B) (j := (j : Int)) hqB (by omega)
      have hus := fOne_used (n := q) (B := B) (j := (j : Int)) hqB (by omega)
      have HCN := Lib.hid hcn
      have HUS := Lib.hid hus
      clear hcn hus
      go_wp2_with fail
      have L0 := L
      obtain ⟨⟨low, h5⟩, _, _⟩ := L0
      refine (rused_any r bm _ _ low wr h5).mono ?_
      rintro e w4 ⟨v, rfl, o4, k4⟩
      have L4 := L.keep k4 (by simp) (by simp)
      have K4 := K.trans k4 (by simp)
      rw [Int.toNat_natCast, HCN.out, HUS.out] at o4
      obtain ⟨g, cap, rfl, _, _⟩ := o4.form (by omega)
      have cq : w4.cell? ⟨g, 0, none⟩ = some (.int .i64 q) := o4.cells (g := g) rfl 0 _ rfl
      clear L K k4 h5 o4
      go_wp2_with fail
      refine (lcount L4 (q : Int) (by omega) (by omega)).mono ?_
      rintro e w5 ⟨rfl, rfl⟩
      rw [fOne_at]
      go_wp2_with fail
      refine (lfree L4 ((B : Int) - 3) (by rw [Int.toNat_natCast, HCN.out]; omega)).mono ?_
      rintro e w5 ⟨rfl, k5⟩
      have L5 := L4.keep k5 (by simp) (by simp)
      have K5 := K4.trans k5 (by simp)
      have cq5 : w5.cell? ⟨g, 0, none⟩ = some (.int .i64 q) := by rw [k5.cell (World.block_lt_of_cell? _ _ cq) (by simp)]; exact cq
      clear L4 K4 k5 cq
      go_wp2_with fail
      clear cq5
      obtain ⟨wo, rfl⟩ : ∃ wo : World, wo = wr := ⟨_, rfl⟩
      go_loopw [13] (fun i wr => ∃ t : Nat, t ≤ j ∧ i = .int .i64 t ∧ LRf w.heap.size wr r bm (fOne q ((j : Int) - t)) B ∧ Keep [] w wr) (fun i _ => j - (intOf i).toNat)
      case atStart => exact ⟨0, Nat.zero_le _, rfl, by simpa using L5, K5⟩
      case round =>
        clear L5 K5
        obtain ⟨t, htj, rfl, L, K⟩ := hrel
        by_cases hlt : t < j
        · have hltI : (t : Int) < (j : Int) := by omega
          by_cases ht1 : (t : Int) = (j : Int) - 1
          all_goals
            first
              | have htb : ((j : Int) - t == 1) = true := by rw [beq_iff_eq]; omega
              | have htb : ((j : Int) - t == 1) = false := by rw [beq_eq_false_iff_ne]; omega
            first
              | have htc : ((t : Int) == (j : Int) - 1) = true := by rw [beq_iff_eq]; omega
              | have htc : ((t : Int) == (j : Int) - 1) = false := by rw [beq_eq_false_iff_ne]; omega
            have HT1 := Lib.hid ht1
            clear ht1
            go_wp2_with fail
            refine (ldec (q : Int) L (by omega) (by omega) (by rw [fOne_at]; omega) (by rw [fOne_at]; omega) _ (by rw [fOne_at])).mono ?_
            rintro e w6 ⟨rfl, L6, k6⟩
            have L7 := L6.congr (g := fOne q ((j : Int) - ((t + 1 : Nat) : Int))) (fun k => by rw [fOne_at, fOne_upd]; congr 1; omega)
            have K6 := own_keep K k6 hr hbm
            clear L6 L k6 K
            go_wp2
            go_roundw
            case rel => exact ⟨t + 1, by omega, by go_num, L7, K6⟩
            case measure => simp [intOf]; omega
        · obtain rfl : t = j := by omega
          have L8 := L.congr (g := fun _ => 0) (fun k => by unfold fOne; split <;> omega)
          clear L hlt htj
          go_wp2_with fail
          refine (ltake 2 L8 (by omega) (by omega) rfl (fun k a b => by omega)).mono ?_
          rintro e w6 ⟨rfl, L9, k6⟩
          have K6 := own_keep K k6 hr hbm
          have hc2 : (B : Int) - 2 - Rf.cntN (Rf.upd (fun _ => 0) 2 1) (B : Int).toNat = (B : Int) - 3 := by
            have h1 := Rf.cntN_upd (fun _ => 0) 2 1 B (by omega) (by omega)
            rw [if_pos rfl, if_neg (by omega), Rf.cntN_zero B (fun _ _ _ => rfl)] at h1
            rw [Int.toNat_natCast]; omega
          have HC2 := Lib.hid hc2
          clear hc2 L8 K k6
          go_wp2_with fail
          refine (lfree L9 ((B : Int) - 3) HC2.out).mono ?_
          rintro e w7 ⟨rfl, k7⟩
          go_wp2
          go_ret
          exact ⟨by simp, K6.trans k7 (by simp)⟩


theorem refsFar_readable : Try.f5.params.toList.all (fun t => Try.prog.readableRec t && decide (t < Try.prog.types.size)) = true := by kernel_rfl

open Go.ChangeShapes Go.WideShapes Go.ChangeAt in
set_option maxRecDepth 100000 in
theorem refsFar_contract (H : Type) (enc : TypeId × Value → H) (W : World) (base : Nat) (args : Array Value) (ds gs : List (DataW H)) (before : List MemPlace)
    (hval : ∀ (j : Nat) t v, Try.f5.params[j]? = some t → args[j]? = some v → Value.okWide Try.prog W .any base t v)
    (hW : DataW.Whole enc Try.prog Try.f5.params.toList Rows.refsFarSpec.vars false W args.toList ds gs before) :
    Calls Try.prog 5 args W fun e W' => ∃ v, e = .returned v ∧ Rows.refsFarSpec.post enc Try.prog Try.f5 false true false false W args v W' := by
  have hW' := hW
  obtain ⟨p, q, hA0, hV, rfl, _, _⟩ := hW
  have hA : DataW.TrodAll enc Try.prog W 0 (fun _ => true) true Try.f5.params.toList args.toList ds p := hA0
  rw [Try.params5] at hA hval
  obtain ⟨v0, v1, v2, d0, d1, d2, p0, p1, p2, rfl, rfl, rfl, h0, h1, h2⟩ := trodAll_three hA
  obtain ⟨rfl, rfl⟩ := trodVars_none hV
  obtain ⟨a0, rfl, rfl, rfl, w0⟩ := open_int Try.underlying3 (hval 0 3 v0 rfl rfl) h0
  obtain ⟨a1, rfl, rfl, rfl, w1⟩ := open_int Try.underlying3 (hval 1 3 v1 rfl rfl) h1
  obtain ⟨a2, rfl, rfl, rfl, w2⟩ := open_int Try.underlying3 (hval 2 3 v2 rfl rfl) h2
  refine (refsFar_walk a0 a1 a2 W).mono fun e W' ⟨he, hk⟩ => ?_
  subst he
  exact ⟨_, rfl, law_post Try.laidOut refsFar_readable rfl Try.underlying4 rfl hW' rfl hk.below0⟩

set_option maxRecDepth 100000 in
theorem refsFar_lifted (os : Os) (started : os.Started) (H : Type) (enc : TypeId × Value → H) :
    ReturnsInHanded {} Try.checked os 5 .any (Rows.refsFarSpec.pre6 enc Try.prog Try.f5 Rows.refsFarRow.domain false) (Rows.refsFarSpec.post enc Try.prog Try.f5 false true false false) := by
  refine returnsInHanded_of_change_sized (C := Try.checked) Try.own started (by kernel_rfl) Try.func5
    (ChangeSpec.witness6 (enc := enc) (C := Try.checked) false ⟨#[], #[.int .i64 0, .int .i64 0, .int .i64 0], []⟩ 8 (by kernel_rfl) (by kernel_rfl) (by kernel_rfl) (by kernel_rfl)) ?_
  intro W base args ds gs before hval hW _ _ _
  exact refsFar_contract H enc W base args ds gs before hval hW

theorem refsFar_holds : Rows.RefsFarSaid :=
  OpenClaim.holds_of_wide 5 Try.f5 rfl rfl rfl rfl rfl rfl rfl ⟨rfl, rfl, rfl, rfl, rfl⟩ rfl rfl rfl rfl rfl (by kernel_rfl) Try.func5 (by kernel_rfl)
    (of_decide_eq_true (by kernel_rfl)) (by unfold Func.isWrapper; first | (rw [if_pos (by decide +kernel)]; kernel_rfl) | (rw [if_neg (by decide +kernel)]; exact ⟨rfl, rfl⟩))
    (fun os started H enc _ => refsFar_lifted os started H enc)

#print axioms refsFar_holds
end Go.Proofs.Ytlecdappgpbnlaa
