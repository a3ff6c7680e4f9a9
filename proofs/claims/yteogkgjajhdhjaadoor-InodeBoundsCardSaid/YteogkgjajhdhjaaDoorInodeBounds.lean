/-
  InodeBounds: what may be an inode is one: the law returns true, for any links and size. No condition.
-/
import Derived.Test.YteogkgjajhdhjaaDoorInLaw
namespace Go.Proofs.YteogkgjajhdhjaaDoor
open Go.RowKit

/-- Value, whether there is one or not: what is told of it -/
theorem value_any (d : Bool) (l s : Int) (w : World) : Calls Tryd.prog 11 #[.agg #[.bool d, .int .i64 l, .int .i64 s]] w fun e w' => ∃ t, e = .returned (.tuple #[.string t, .bool (In.right d l s)]) ∧ Keep [] w w' := by
  cases h : In.right d l s with
  | true => exact (value_ok d l s w h).mono fun e w' ⟨he, hk⟩ => ⟨_, he, hk⟩
  | false => exact (value_no d l s w h).mono fun e w' ⟨he, hk⟩ => ⟨_, he, hk⟩

theorem right_false (l s : Int) : In.right false l s = (decide (1 ≤ l) && (decide (l ≤ 65535) && (decide (0 ≤ s) && decide (s ≤ 1048576)))) := by
  rw [Bool.eq_iff_iff]; simp [In.right]
theorem right_true (l s : Int) : In.right true l s = (l == 0 && s == 0) := by
  rw [Bool.eq_iff_iff]; simp [In.right]

set_option maxRecDepth 100000 in
set_option maxHeartbeats 1600000 in
theorem inodeBounds_walk (l s : Int) (w : World) :
    Calls Tryd.prog 4 #[.int .i64 l, .int .i64 s] w fun e w' => e = .returned (.bool true) ∧ Keep [] w w' := by
  go_enter Tryd.func4, Tryd.ntmps4
  go_wp2_with fail
  refine (shown_any w).mono ?_
  rintro e w1 ⟨rfl, k1⟩
  go_wp2_with fail
  refine (value_any false l s w1).mono ?_
  rintro e w2 ⟨t2, rfl, k2⟩
  have K2 := k1.trans k2 (by simp)
  clear k1 k2
  go_wp2_with fail
  refine (value_any true l s _).mono ?_
  rintro e w3 ⟨t3, rfl, k3⟩
  rw [right_false, right_true]
  have K3 := K2.trans k3 (by simp)
  clear K2 k3
  go_wp2
  all_goals
    go_ret
    exact ⟨by simp; (try exact Or.inl ‹_›), K3⟩


theorem inodeBounds_readable : Tryd.f4.params.toList.all (fun t => Tryd.prog.readableRec t && decide (t < Tryd.prog.types.size)) = true := by kernel_rfl

open Go.ChangeShapes Go.WideShapes Go.ChangeAt in
set_option maxRecDepth 100000 in
theorem inodeBounds_contract (H : Type) (enc : TypeId × Value → H) (W : World) (base : Nat) (args : Array Value) (ds gs : List (DataW H)) (before : List MemPlace)
    (hval : ∀ (j : Nat) t v, Tryd.f4.params[j]? = some t → args[j]? = some v → Value.okWide Tryd.prog W .any base t v)
    (hW : DataW.Whole enc Tryd.prog Tryd.f4.params.toList Rows.inodeBoundsSpec.vars false W args.toList ds gs before) (_hL : laidMetH Tryd.prog Rows.inodeBoundsRow.laid W) :
    Calls Tryd.prog 4 args W fun e W' => ∃ v, e = .returned v ∧ Rows.inodeBoundsSpec.post enc Tryd.prog Tryd.f4 false true false false W args v W' := by
  have hW' := hW
  obtain ⟨p, q, hA0, hV, rfl, _, _⟩ := hW
  have hA : DataW.TrodAll enc Tryd.prog W 0 (fun _ => true) true Tryd.f4.params.toList args.toList ds p := hA0
  rw [Tryd.params4] at hA hval
  obtain ⟨v0, v1, d0, d1, p0, p1, rfl, rfl, rfl, h0, h1⟩ := trodAll_two hA
  obtain ⟨rfl, rfl⟩ := trodVars_none hV
  obtain ⟨a0, rfl, rfl, rfl, w0⟩ := open_int Tryd.underlying3 (hval 0 3 v0 rfl rfl) h0
  obtain ⟨a1, rfl, rfl, rfl, w1⟩ := open_int Tryd.underlying3 (hval 1 3 v1 rfl rfl) h1
  refine (inodeBounds_walk a0 a1 W).mono fun e W' ⟨he, hk⟩ => ?_
  subst he
  exact ⟨_, rfl, law_post Tryd.laidOut inodeBounds_readable rfl Tryd.underlying4 rfl hW' rfl hk.below0⟩

set_option maxRecDepth 100000 in
theorem inodeBounds_lifted (os : Os) (started : os.Started) (H : Type) (enc : TypeId × Value → H) :
    ReturnsInHanded {} Tryd.checked os 4 .any (fun w args => (Rows.inodeBoundsSpec.pre enc Tryd.prog Tryd.f4 Rows.inodeBoundsRow.domain false w args ∧ laidMetH Tryd.prog Rows.inodeBoundsRow.laid w) ∧ sizedMet enc Tryd.prog Tryd.f4 (OpenSpec.ofChange Rows.inodeBoundsSpec) false w args)
      (Rows.inodeBoundsSpec.post enc Tryd.prog Tryd.f4 false true false false) := by
  refine returnsInHanded_of_change_and (C := Tryd.checked) (X := fun w _ => laidMetH Tryd.prog Rows.inodeBoundsRow.laid w) (fun _ _ _ hh h => h.of_heap hh) Tryd.own started (by kernel_rfl) Tryd.func4
    (ChangeSpec.witness_shaped (enc := enc) (C := Tryd.checked) (os := os) (X := fun w _ => laidMetH Tryd.prog Rows.inodeBoundsRow.laid w) false (World.laidAll Tryd.prog os Rows.inodeBoundsRow.laid) #[.int .i64 0, .int .i64 0] 8 (World.laidAll_os _ _ _)
      (World.shaped_of_ZipB (by kernel_rfl) (by kernel_rfl)) (by kernel_rfl) (by kernel_rfl) (by kernel_rfl)
      (by rw [MakeChecks.laidMetH_plain _ _ _ (by kernel_rfl)]; exact laidMet_laidAll _ (by kernel_rfl) (by kernel_rfl))) ?_
  intro W base args ds gs before hval hW _ _ hL _
  exact inodeBounds_contract H enc W base args ds gs before hval hW hL

theorem inodeBounds_row_holds : Rows.InodeBoundsSaid :=
  OpenClaim.holds_of_wide 4 Tryd.f4 rfl rfl rfl rfl rfl rfl rfl ⟨rfl, rfl, rfl, rfl, rfl⟩ rfl rfl rfl rfl rfl (by kernel_rfl) Tryd.func4 (by kernel_rfl)
    (of_decide_eq_true (by kernel_rfl)) (by unfold Func.isWrapper; first | (rw [if_pos (by decide +kernel)]; kernel_rfl) | (rw [if_neg (by decide +kernel)]; exact ⟨rfl, rfl⟩))
    (fun os started H enc _ => inodeBounds_lifted os started H enc)

theorem inodeBounds_holds : Rows.InodeBoundsCardSaid :=
  Claim7.holds_tied_plain_at .later [] [.data, .pinned] true (true, "879644d4b576a1fb53cab3707f05e46681989cab49cb3ebe5b14112d0615c62a") false inodeBounds_row_holds (fun _ h => by cases h) (by kernel_rfl) (fun _ h => by cases h) inodeBounds_row_tie rfl ⟨rfl, rfl⟩ (by kernel_rfl) rfl
    (fun f fn hf hfn => by
      obtain rfl : f = 4 := Option.some.inj ((show Tryd.prog.funcNamed "wainscot/wainscotlaw11.InodeBounds" = some 4 by kernel_rfl).symm.trans hf) |>.symm
      obtain rfl : fn = Tryd.f4 := (Option.some.inj (Tryd.func4.symm.trans hfn)).symm
      exact ⟨by kernel_rfl, fun j t ht => by
        have hm : t ∈ Tryd.f4.params.toList := by simpa using Array.mem_of_getElem? ht
        have hall : (Tryd.f4.params.toList.all fun u => !Tryd.prog.wantsStandIn u) = true := by kernel_rfl
        exact (show Tryd.prog.wantsStandIn t = false by simpa using List.all_eq_true.1 hall t hm)⟩)
    (by kernel_rfl)

#print axioms inodeBounds_holds
end Go.Proofs.YteogkgjajhdhjaaDoor
