/-
  PackRoom: a writer takes as many bytes as it has room for, and no more: the law returns true, for any room and any texts. No condition.
-/
import Derived.Test.YteogkgjajhdhjaaPackF
import Derived.Test.YteogkgjajhdhjaaLawOpen
import Derived.Test.YteogkgjajhdhjaaArith
namespace Go.Proofs.Yteogkgjajhdhjaa
open Go.RowKit

theorem text_room (b : List UInt8) (m : Nat) (s : ByteArray) (hs : s.size ≤ 255) :
    (b.length + 1 + s.size ≤ m → ∃ b', (⟨b, m, false⟩ : Pk.Wr).text s.data.toList = ⟨b', m, false⟩ ∧ b'.length = b.length + 1 + s.size) ∧ (¬ b.length + 1 + s.size ≤ m → (⟨b, m, false⟩ : Pk.Wr).text s.data.toList = ⟨b, m, true⟩) := by
  have hsl : s.data.toList.length = s.size := by rw [Array.length_toList]; rfl
  constructor
  · intro h
    refine ⟨b ++ (UInt8.ofNat s.size :: s.data.toList), ?_, by simp [hsl]; omega⟩
    rw [text_eq, put_room_true (n := 1 + s.size) (by simp [hsl]; omega)]
    simp [Pk.Wr.room]; omega
  · intro h
    rw [text_eq, put_room_false (n := 1 + s.size) (by simp [hsl]; omega)]
    simp [Pk.Wr.room]; omega

theorem fill_room (b : List UInt8) (m : Nat) (h : b.length ≤ m) : ∃ b', (⟨b, m, false⟩ : Pk.Wr).fill m = ⟨b', m, false⟩ ∧ b'.length = m := by
  refine ⟨_, fill_true ⟨b, m, false⟩ m rfl ?_ (Int.le_refl _), ?_⟩
  · exact Int.ofNat_le.2 h
  · simp; omega

set_option maxRecDepth 100000 in
set_option maxHeartbeats 200000 in
theorem packRoom_walk (most : Int) (v : Value) (ss : List ByteArray) (w : World) (_h0 : -9223372036854775808 ≤ most) (_h1 : most ≤ 9223372036854775807) (hrd : RdV w v ss.length 1 (ss.map Value.string)) (_hss : ss.length ≤ 9223372036854775807) (hsz : ∀ s ∈ ss, s.size ≤ 9223372036854775807) :
    Calls Try.prog 3 #[.int .i64 most, v] w fun e w' => e = .returned (.bool true) ∧ Keep [] w w' := by
  obtain ⟨hl, ao, cap, rfl, hc, hnn, hcx⟩ := hrd
  have HX := Lib.hid hcx
  have Hnn := Lib.hid hnn
  have HS := Lib.hid hsz
  clear hl hcx hnn hsz
  go_enter Try.func3, Try.ntmps3
  go_wp2_with fail
  refine (shown_any w).mono ?_
  rintro e w1 ⟨rfl, k1⟩
  obtain ⟨m, hm, hm1, hm2⟩ := mask10 most
  clear hm2
  go_wp2_with fail
  clear hm
  refine (new_any m w1 (by omega)).mono ?_
  rintro e w2 ⟨rfl, h2, k2, _⟩
  obtain ⟨bw, hbw⟩ : ∃ bw, bw = w1.heap.size := ⟨_, rfl⟩
  have L2 : LW w.heap.size w2 bw (.slice none 0 0) ⟨[], m, false⟩ := by rw [hbw]; simpa using LW.new k1 h2
  rw [← hbw]
  have K2 : Keep [] w w2 := k1.trans k2 (by simp)
  clear hbw h2
  go_wp2_with fail
  go_loopw [7, 8] (fun size i wr => ∃ (k : Nat) (b : List UInt8) (v' : Value), k ≤ ss.length ∧ k ≤ 30 ∧ i = .int .i64 k ∧ size = .int .i64 b.length ∧ LW w.heap.size wr bw v' ⟨b, m, false⟩ ∧ Keep [] w wr) (fun _ i _ => 30 - (intOf i).toNat)
  case atStart => exact ⟨0, [], _, Nat.zero_le _, Nat.zero_le _, rfl, rfl, L2, K2⟩
  case round =>
    obtain ⟨k, b, v', hk, hk30, rfl, rfl, L, K⟩ := hrel
    by_cases hlt : k < ss.length
    · by_cases h30 : k < 30
      · obtain ⟨a, rfl⟩ : ∃ a, ao = some a := by
          cases ao with
          | none => have := (Hnn.out rfl).1; omega
          | some a => exact ⟨a, rfl⟩
        obtain ⟨s, hs⟩ : ∃ s, ss[k]? = some s := ⟨_, List.getElem?_eq_getElem hlt⟩
        have hc0 : w.cell? (a.add k) = some (.string s) := HX.out a rfl k _ (by simp [hs])
        have hcell : wr.cell? (a.add k) = some (.string s) := by rw [K.cell (World.block_lt_of_cell? w _ hc0) (by simp)]; exact hc0
        have hsl : s.size ≤ 9223372036854775807 := HS.out s (List.mem_of_getElem? hs)
        clear hc0 hs
        have hbm : b.length ≤ m := L.isw.le
        obtain ⟨s', hs', hl'⟩ : ∃ s' : ByteArray, (if 255 < s.size then s.extract 0 255 else s.extract 0 s.size) = s' ∧ s'.size ≤ 255 := ⟨_, rfl, by split <;> simp [ByteArray.size_extract] <;> omega⟩
        by_cases hmin : 255 < s.size
        all_goals
          simp only [hmin, if_true, if_false] at hs'
          go_wp2_with fail
          go_quiet (fail)
          go_wp2_with fail
          have Lq : LW w.heap.size (wr.drewN nq) bw v' ⟨b, m, false⟩ := L.keep ((Keep.refl [] wr).drewN nq) (by simp)
          have Kq := K.drewN nq
          clear L K hcell
          generalize wr.drewN nq = wq at *
          refine (text_any bw v' _ s' wq (by omega) Lq.isw).mono ?_
          rintro e w3 ⟨rfl, o3⟩
          obtain ⟨v3, L3, K3, _, _⟩ := LW.step (w0 := w) Lq Kq o3
          clear o3 Lq Kq
          by_cases hfit : b.length + 1 + s'.size ≤ m
          · obtain ⟨b', e3, hb'⟩ := (text_room b m s' hl').1 hfit
            rw [e3] at L3
            clear e3
            go_wp2_with fail
            refine (done_ok bw v3 _ _ w3 L3.isw).mono ?_
            rintro e w4 ⟨ao4, c4, rfl, _, k4, _⟩
            have K4 : Keep [] w w4 := K3.trans k4 (by simp)
            have L4 := L3.keep k4 (by simp)
            clear k4 K3 L3
            go_wp2
            exact ⟨⟨k + 1, b', v3, by omega, by omega, by go_num, by rw [hb']; go_num, L4, K4⟩, by simp [intOf]; omega⟩
          · rw [(text_room b m s' hl').2 hfit] at L3
            have hfit' : (m : Int) < b.length + 1 + s'.size := by omega
            clear hfit
            go_wp2_with fail
            refine (done_bad bw v3 _ _ w3 L3.isw).mono ?_
            rintro e w4 ⟨ao4, c4, rfl, _, k4, _⟩
            have K4 : Keep [] w w4 := K3.trans k4 (by simp)
            clear k4 K3 L3
            go_wp2
            go_ret
            exact ⟨rfl, K4⟩
      · go_wp2_with fail
        refine (fill_any bw v' _ m wr L.isw).mono ?_
        rintro e w3 ⟨rfl, o3⟩
        obtain ⟨v3, L3, K3, _, _⟩ := LW.step (w0 := w) L K o3
        obtain ⟨b3, e3, hb3⟩ := fill_room b m L.isw.le
        rw [e3] at L3
        clear o3 L K
        go_wp2_with fail
        refine (done_ok bw v3 _ _ w3 L3.isw).mono ?_
        rintro e w4 ⟨ao4, c4, rfl, _, k4, _⟩
        have K4 : Keep [] w w4 := K3.trans k4 (by simp)
        clear k4 K3 L3
        go_wp2
        go_ret
        exact ⟨by simp, K4⟩
    · go_wp2_with fail
      refine (fill_any bw v' _ m wr L.isw).mono ?_
      rintro e w3 ⟨rfl, o3⟩
      obtain ⟨v3, L3, K3, _, _⟩ := LW.step (w0 := w) L K o3
      obtain ⟨b3, e3, hb3⟩ := fill_room b m L.isw.le
      rw [e3] at L3
      clear o3 L K
      go_wp2_with fail
      refine (done_ok bw v3 _ _ w3 L3.isw).mono ?_
      rintro e w4 ⟨ao4, c4, rfl, _, k4, _⟩
      have K4 : Keep [] w w4 := K3.trans k4 (by simp)
      clear k4 K3 L3
      go_wp2
      go_ret
      exact ⟨by simp, K4⟩


theorem packRoom_readable : Try.f3.params.toList.all (fun t => Try.prog.readableRec t && decide (t < Try.prog.types.size)) = true := by kernel_rfl

open Go.ChangeShapes Go.WideShapes Go.ChangeAt in
set_option maxRecDepth 100000 in
theorem packRoom_contract (H : Type) (enc : TypeId × Value → H) (W : World) (base : Nat) (args : Array Value) (ds gs : List (DataW H)) (before : List MemPlace)
    (hval : ∀ (j : Nat) t v, Try.f3.params[j]? = some t → args[j]? = some v → Value.okWide Try.prog W .any base t v)
    (hW : DataW.Whole enc Try.prog Try.f3.params.toList Rows.packRoomSpec.vars false W args.toList ds gs before) :
    Calls Try.prog 3 args W fun e W' => ∃ v, e = .returned v ∧ Rows.packRoomSpec.post enc Try.prog Try.f3 false true false false W args v W' := by
  have hW' := hW
  obtain ⟨p, q, hA0, hV, rfl, _, _⟩ := hW
  have hA : DataW.TrodAll enc Try.prog W 0 (fun _ => true) true Try.f3.params.toList args.toList ds p := hA0
  rw [Try.params3] at hA hval
  obtain ⟨v0, v1, d0, d1, p0, p1, rfl, rfl, rfl, h0, h1⟩ := trodAll_two hA
  obtain ⟨rfl, rfl⟩ := trodVars_none hV
  obtain ⟨a0, rfl, rfl, rfl, w0⟩ := open_int Try.underlying3 (hval 0 3 v0 rfl rfl) h0
  obtain ⟨ss, hrd, hs, hl⟩ := open_strs (e := 9) Try.underlying22 Try.underlying9 (by kernel_rfl) (hval 1 22 v1 rfl rfl) h1
  have hb := wf_i64 w0
  refine (packRoom_walk a0 v1 ss W hb.1 hb.2 hrd hl hs).mono fun e W' ⟨he, hk⟩ => ?_
  subst he
  exact ⟨_, rfl, law_post Try.laidOut packRoom_readable rfl Try.underlying4 rfl hW' rfl hk.below0⟩

set_option maxRecDepth 100000 in
theorem packRoom_lifted (os : Os) (started : os.Started) (H : Type) (enc : TypeId × Value → H) :
    ReturnsInHanded {} Try.checked os 3 .any (Rows.packRoomSpec.pre6 enc Try.prog Try.f3 Rows.packRoomRow.domain false) (Rows.packRoomSpec.post enc Try.prog Try.f3 false true false false) := by
  refine returnsInHanded_of_change_sized (C := Try.checked) Try.own started (by kernel_rfl) Try.func3
    (ChangeSpec.witness6 (enc := enc) (C := Try.checked) false ⟨#[], #[.int .i64 0, .slice none 0 0], []⟩ 8 (by kernel_rfl) (by kernel_rfl) (by kernel_rfl) (by kernel_rfl)) ?_
  intro W base args ds gs before hval hW _ _ _
  exact packRoom_contract H enc W base args ds gs before hval hW

theorem packRoom_holds : Rows.PackRoomSaid :=
  OpenClaim.holds_of_wide 3 Try.f3 rfl rfl rfl rfl rfl rfl rfl ⟨rfl, rfl, rfl, rfl, rfl⟩ rfl rfl rfl rfl rfl (by kernel_rfl) Try.func3 (by kernel_rfl)
    (of_decide_eq_true (by kernel_rfl)) (by unfold Func.isWrapper; first | (rw [if_pos (by decide +kernel)]; kernel_rfl) | (rw [if_neg (by decide +kernel)]; exact ⟨rfl, rfl⟩))
    (fun os started H enc _ => packRoom_lifted os started H enc)

#print axioms packRoom_holds
end Go.Proofs.Yteogkgjajhdhjaa
