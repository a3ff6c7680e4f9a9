/-
  SuperChooses: of two places one counts, or none, as the document says: the law returns true, for any two texts. No condition.
-/
import Derived.Test.YteogkgjajhdhjaaSuperY
import Derived.Test.YteogkgjajhdhjaaSuperI
namespace Go.Proofs.Yteogkgjajhdhjaa
open Go.RowKit

/-- a text that is read, behind an empty one of the world's own -/
theorem append_of {w : World} {i : TypeInfo} {v : Value} {l : List UInt8} {ao : Option Addr} {n c : Nat} (hi : Try.prog.info? 5 = some i) (hz : i.zero = some (.int .u8 0)) (h1 : i.size = 1) (h2 : i.bytes = 1) (o : w.ownsRow 0 5 1 v 0 []) (h : RdV w (.slice ao n c) l.length 1 (bv l)) (hl : l.length = n) (hn : n ≤ 600) :
    ∃ v' w', (Builtin.append_ #[27, 27] 27 #[v, .slice ao n c]).run Try.prog w = .ok v' w' ∧ AppOut 5 1 w v n (bv l) v' w' := by
  obtain ⟨hl', ao', c', e, _, hn', hx⟩ := h
  injection e with e1 e2 e3
  subst e1 e3
  have := run_app_slice (P := Try.prog) w 27 27 5 i _ 1 1 Try.underlying27 hi hz h1 h2 rfl (by decide) v 0 [] o ao n c (bv l) (by rw [hl] at hl'; exact hl') (fun h => by have := hn' h; rw [hl] at this; exact this) hx (bv_one _) (by unfold maxLen; omega) (by omega)
  simpa only [Nat.zero_add, List.nil_append] using this

set_option maxRecDepth 100000 in
set_option maxHeartbeats 40000000 in
theorem superChooses_walk (va vb : Value) (la0 lb0 : List UInt8) (w : World) (ha : RdV w va la0.length 1 (bv la0)) (hb : RdV w vb lb0.length 1 (bv lb0)) (hla0 : la0.length ≤ 9223372036854775807) (hlb0 : lb0.length ≤ 9223372036854775807) :
    Calls Try.prog 11 #[va, vb] w fun e w' => e = .returned (.bool true) ∧ Keep [] w w' := by
  obtain ⟨ham, aoA, cA, rfl, hcA, hnA, hxA⟩ := ha
  obtain ⟨hbm, aoB, cB, rfl, hcB, hnB, hxB⟩ := hb
  have HXA := Lib.hid hxA
  have HNA := Lib.hid hnA
  have HXB := Lib.hid hxB
  have HNB := Lib.hid hnB
  clear ham hbm hxA hnA hxB hnB
  obtain ⟨i0, hi, hz0, hz1, hz2⟩ := info_parts Try.info5
  obtain ⟨m, hm⟩ : ∃ m, m = min la0.length 600 := ⟨_, rfl⟩
  obtain ⟨n, hn⟩ : ∃ m, m = min lb0.length 600 := ⟨_, rfl⟩
  have m1 : min (la0.length : Int) 600 = (m : Int) := by omega
  have m2 : min 600 (la0.length : Int) = (m : Int) := by omega
  have n1 : min (lb0.length : Int) 600 = (n : Int) := by omega
  have n2 : min 600 (lb0.length : Int) = (n : Int) := by omega
  have m3 : m ≤ cA := by omega
  have n3 : n ≤ cB := by omega
  have m4 : (m : Int) ≤ (cA : Int) := by omega
  have n4 : (n : Int) ≤ (cB : Int) := by omega
  have m5 : m ≤ la0.length := by omega
  have n5 : n ≤ lb0.length := by omega
  have m6 : m ≤ 600 := by omega
  have n6 : n ≤ 600 := by omega
  clear hm hn
  obtain ⟨la, hla⟩ : ∃ l, l = la0.take m := ⟨_, rfl⟩
  obtain ⟨lb, hlb⟩ : ∃ l, l = lb0.take n := ⟨_, rfl⟩
  have ea : la.length = m := by rw [hla, List.length_take]; omega
  have eb : lb.length = n := by rw [hlb, List.length_take]; omega
  have RA : RdV w (.slice aoA m cA) m 1 (bv la) := by rw [hla]; exact rd_take hcA m5 HNA.out HXA.out
  have RB : RdV w (.slice aoB n cB) n 1 (bv lb) := by rw [hlb]; exact rd_take hcB n5 HNB.out HXB.out
  have RA2 : ∀ W, Keep [] w W → RdV W (.slice aoA m cA) la.length 1 (bv la) := fun W K => by rw [ea]; exact RA.keep K (by simp)
  have RB2 : ∀ W, Keep [] w W → RdV W (.slice aoB n cB) lb.length 1 (bv lb) := fun W K => by rw [eb]; exact RB.keep K (by simp)
  have HRA := Lib.hid RA2
  have HRB := Lib.hid RB2
  have EA := Lib.hid ea
  have EB := Lib.hid eb
  clear hla hlb ea eb RA RB RA2 RB2 HXA HNA HXB HNB
  go_enter Try.func11, Try.ntmps11
  go_wp2_with fail
  refine (shown4_any _).mono ?_
  rintro e w1 ⟨rfl, k1⟩
  have O1 := ownsRow_made0 w1 5 1
  have FA := Lib.hid (append_of hi hz0 hz1 hz2 O1 (HRA.out _ (k1.alloc (.cells #[] 5))) EA.out m6)
  clear O1
  go_wp2_with (first
    | (at_builtin; refine wpList_app rfl (.tmp 23) (.tmp 24) 27 27 rfl _ _ rfl rfl FA.out ?_; intro v2 w2 hO; obtain ⟨ao2, cp2, rfl⟩ := hO.slice; have M1 := hO.keeps ((Keep.refl [] w1).alloc (.cells #[] 5)) (by intro x hx; simp [rowOf, Value.ownBlock] at hx; omega); have o2 := RdV.ofOwn hO.1; have k2 := M1.1; have O2 := ownsRow_made0 w2 5 1; have FB := append_of hi hz0 hz1 hz2 O2 (HRB.out _ ((k1.trans k2 (by simp)).alloc (.cells #[] 5))) EB.out n6; clear O2 hO M1)
    | (at_builtin; refine wpList_app rfl (.tmp 26) (.tmp 27) 27 27 rfl _ _ rfl rfl FB ?_; intro v3 w3 hO; obtain ⟨ao3, cp3, rfl⟩ := hO.slice; have M1 := hO.keeps ((Keep.refl [] w2).alloc (.cells #[] 5)) (by intro x hx; simp [rowOf, Value.ownBlock] at hx; omega); have o3 := RdV.ofOwn hO.1; have k3 := M1.1; clear hO M1 FB)
    | (go_at_call 60; have R2 := o2.keep k3 (by simp); have k13 := (k1.trans k2 (by simp)).trans k3 (by simp); refine (choose_any _ _ la lb w3 (by rw [EA.out]; exact R2) (by rw [EB.out]; exact o3)).mono ?_; rintro e w4 ⟨vx, rfl, hx, k4⟩; obtain ⟨xo, xc, rfl, rdx, lex, fpx⟩ := hx; clear R2 o2 o3; obtain ⟨x, hx⟩ : ∃ x, x = chooseS la lb := ⟨_, rfl⟩; obtain ⟨ec, hec⟩ : ∃ x, x = chooseE la lb := ⟨_, rfl⟩; rw [← hx] at rdx lex fpx ⊢; rw [← hec]; have HX := Lib.hid hx; have HEC := Lib.hid hec; clear hx hec; have k14 := k13.trans k4 (by simp); have c1 := conv_str (HRA.out _ (k14.alloc (.cells #[.int .i64 x.gen, .int .i64 x.root, .int .i64 x.next, .int .i64 x.commit, .slice xo x.snaps.length xc] 59))); have c2 := conv_str (HRB.out _ (k14.alloc (.cells #[.int .i64 x.gen, .int .i64 x.root, .int .i64 x.next, .int .i64 x.commit, .slice xo x.snaps.length xc] 59))))
    | (go_at_call 61; refine (kchoose_any la lb _ (by rw [EA.out]; omega) (by rw [EB.out]; omega)).mono ?_; rintro e w5 ⟨vy, rfl, hy, k5⟩; obtain ⟨yo, yc, rfl, rdy, ley, fpy⟩ := hy; rw [← HX.out] at rdy ley fpy ⊢; rw [← HEC.out]; have BX := ((Blk.new' w4 [.int .i64 x.gen, .int .i64 x.root, .int .i64 x.next, .int .i64 x.commit, .slice xo x.snaps.length xc] 59).keep k5 (by simp)).alloc (.cells #[.int .i64 x.gen, .int .i64 x.root, .int .i64 x.next, .int .i64 x.commit, .slice yo x.snaps.length yc] 59); have BY := Blk.new' w5 [.int .i64 x.gen, .int .i64 x.root, .int .i64 x.next, .int .i64 x.commit, .slice yo x.snaps.length yc] 59; have q0 := BX.cell 0; have q1 := BX.cell 1; have q2 := BX.cell 2; have q3 := BX.cell 3; have q4 := BX.cell 4; have z0 := BY.cell 0; have z1 := BY.cell 1; have z2 := BY.cell 2; have z3 := BY.cell 3; have z4 := BY.cell 4; simp only [List.getElem?_cons_zero, List.getElem?_cons_succ] at q0 q1 q2 q3 q4 z0 z1 z2 z3 z4; have k46 := (((Keep.refl [] w4).alloc (.cells #[.int .i64 x.gen, .int .i64 x.root, .int .i64 x.next, .int .i64 x.commit, .slice xo x.snaps.length xc] 59)).trans k5 (by simp)).alloc (.cells #[.int .i64 x.gen, .int .i64 x.root, .int .i64 x.next, .int .i64 x.commit, .slice yo x.snaps.length yc] 59); have SX := (SuN.of rdx lex fpx).su.keep k46 (by simp); have SY := (SuN.of rdy ley fpy).su.keep ((Keep.refl [] w5).alloc (.cells #[.int .i64 x.gen, .int .i64 x.root, .int .i64 x.next, .int .i64 x.commit, .slice yo x.snaps.length yc] 59)) (by simp); have K6 := k14.trans k46 (by simp); clear BX BY c1 c2)
    | (go_at_call 57; refine (same_any x x _ _ _ SX SY).mono ?_; rintro e w7 ⟨rfl, k7⟩; rw [Sp.sameB_self]))
  go_ret
  exact ⟨rfl, K6.trans k7 (by simp)⟩


theorem superChooses_readable : Try.f11.params.toList.all (fun t => Try.prog.readableRec t && decide (t < Try.prog.types.size)) = true := by kernel_rfl

open Go.ChangeShapes Go.WideShapes Go.ChangeAt in
set_option maxRecDepth 100000 in
theorem superChooses_contract (H : Type) (enc : TypeId × Value → H) (W : World) (base : Nat) (args : Array Value) (ds gs : List (DataW H)) (before : List MemPlace)
    (hval : ∀ (j : Nat) t v, Try.f11.params[j]? = some t → args[j]? = some v → Value.okWide Try.prog W .any base t v)
    (hW : DataW.Whole enc Try.prog Try.f11.params.toList Rows.superChoosesSpec.vars false W args.toList ds gs before) :
    Calls Try.prog 11 args W fun e W' => ∃ v, e = .returned v ∧ Rows.superChoosesSpec.post enc Try.prog Try.f11 false true false false W args v W' := by
  have hW' := hW
  obtain ⟨p, q, hA0, hV, rfl, _, _⟩ := hW
  have hA : DataW.TrodAll enc Try.prog W 0 (fun _ => true) true Try.f11.params.toList args.toList ds p := hA0
  rw [Try.params11] at hA hval
  obtain ⟨v0, v1, d0, d1, p0, p1, rfl, rfl, rfl, h0, h1⟩ := trodAll_two hA
  obtain ⟨rfl, rfl⟩ := trodVars_none hV
  obtain ⟨la, ha, hla⟩ := open_bytes Try.underlying27 Try.underlying5 (by kernel_rfl) (hval 0 27 v0 rfl rfl) h0
  obtain ⟨lb, hb, hlb⟩ := open_bytes Try.underlying27 Try.underlying5 (by kernel_rfl) (hval 1 27 v1 rfl rfl) h1
  refine (superChooses_walk v0 v1 la lb W ha hb hla hlb).mono fun e W' ⟨he, hk⟩ => ?_
  subst he
  exact ⟨_, rfl, law_post Try.laidOut superChooses_readable rfl Try.underlying4 rfl hW' rfl hk.below0⟩

set_option maxRecDepth 100000 in
theorem superChooses_lifted (os : Os) (started : os.Started) (H : Type) (enc : TypeId × Value → H) :
    ReturnsInHanded {} Try.checked os 11 .any (Rows.superChoosesSpec.pre6 enc Try.prog Try.f11 Rows.superChoosesRow.domain false) (Rows.superChoosesSpec.post enc Try.prog Try.f11 false true false false) := by
  refine returnsInHanded_of_change_sized (C := Try.checked) Try.own started (by kernel_rfl) Try.func11
    (ChangeSpec.witness6 (enc := enc) (C := Try.checked) false ⟨#[], #[.slice none 0 0, .slice none 0 0], []⟩ 8 (by kernel_rfl) (by kernel_rfl) (by kernel_rfl) (by kernel_rfl)) ?_
  intro W base args ds gs before hval hW _ _ _
  exact superChooses_contract H enc W base args ds gs before hval hW

theorem superChooses_holds : Rows.SuperChoosesSaid :=
  OpenClaim.holds_of_wide 11 Try.f11 rfl rfl rfl rfl rfl rfl rfl ⟨rfl, rfl, rfl, rfl, rfl⟩ rfl rfl rfl rfl rfl (by kernel_rfl) Try.func11 (by kernel_rfl)
    (of_decide_eq_true (by kernel_rfl)) (by unfold Func.isWrapper; first | (rw [if_pos (by decide +kernel)]; kernel_rfl) | (rw [if_neg (by decide +kernel)]; exact ⟨rfl, rfl⟩))
    (fun os started H enc _ => superChooses_lifted os started H enc)

#print axioms superChooses_holds
end Go.Proofs.Yteogkgjajhdhjaa
