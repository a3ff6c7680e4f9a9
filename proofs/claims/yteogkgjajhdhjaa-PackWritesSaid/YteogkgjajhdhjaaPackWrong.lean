/-
  PackWrong: once wrong, always wrong: the law returns true, for any room, fields, bytes and number. No condition.
-/
import Derived.Test.YteogkgjajhdhjaaPackCuts
import Derived.Test.YteogkgjajhdhjaaFlds
import Derived.Test.YteogkgjajhdhjaaArith
import Derived.Deep.RegionWith
import Derived.Deep.DeepCutAuto
import Derived.Deep.CutBlock
namespace Go.Proofs.Yteogkgjajhdhjaa
open Go.RowKit

theorem put_bad (b : List UInt8) (m : Nat) (l : List UInt8) (may : Bool) : (⟨b, m, true⟩ : Pk.Wr).put l may = ⟨b, m, true⟩ := by simp [Pk.Wr.put, Pk.Wr.room]
theorem fill_bad (b : List UInt8) (m : Nat) (n : Int) : (⟨b, m, true⟩ : Pk.Wr).fill n = ⟨b, m, true⟩ := by simp [Pk.Wr.fill]
theorem skip_bad (n : Int) : (⟨[], true⟩ : Pk.Rd).skip n = ⟨[], true⟩ := by simp [Pk.Rd.skip, Pk.Rd.can]
theorem take_bad (n : Int) : (⟨[], true⟩ : Pk.Rd).take n = [] := by simp [Pk.Rd.take, Pk.Rd.can]
theorem byte_not (b : List UInt8) (m : Nat) (x : Int) (h : 255 < x) : (⟨b, m, false⟩ : Pk.Wr).byte x = ⟨b, m, true⟩ := by
  have : decide (0 ≤ x ∧ x ≤ 255) = false := by rw [decide_eq_false_iff_not]; omega
  unfold Pk.Wr.byte
  rw [this, put_false]

/-- a text cut to some length -/
theorem cut_string (s : ByteArray) (n : Nat) : ∃ s' : ByteArray, (if n < s.size then s.extract 0 n else s.extract 0 s.size) = s' ∧ s'.size ≤ n ∧ s'.size ≤ s.size := ⟨_, rfl, by split <;> simp [ByteArray.size_extract] <;> omega, by split <;> simp [ByteArray.size_extract] <;> omega⟩

set_option maxRecDepth 100000 in
set_option maxHeartbeats 4000000 in
theorem packWrong_walk (most : Int) (vl vb : Value) (n : Int) (fs : List Fld) (l0 : List UInt8) (w : World) (hl : RdV w vl fs.length 4 (fcells fs)) (hb : RdV w vb l0.length 1 (bv l0)) (_hbl : l0.length ≤ 9223372036854775807) (_hfl : fs.length ≤ 9223372036854775807) (hok : ∀ f ∈ fs, f.Ok) :
    Calls Try.prog 9 #[.int .i64 most, vl, vb, .int .i64 n] w fun e w' => e = .returned (.bool true) ∧ Keep [] w w' := by
  obtain ⟨nb, hN⟩ : ∃ nb, nb = l0.length := ⟨_, rfl⟩
  rw [← hN] at hb _hbl
  have HN := Lib.hid hN
  clear hN
  obtain ⟨hbl, ab, cb, rfl, hcb, hnnb, hxb⟩ := hb
  obtain ⟨hll, al, cl, rfl, hcl, hnnl, hxl⟩ := hl
  have HXB := Lib.hid hxb
  have HNB := Lib.hid hnnb
  have HXL := Lib.hid hxl
  have HNL := Lib.hid hnnl
  have HOK := Lib.hid hok
  have cut : ∀ (w1 : World) (m : Nat), Keep [] w w1 → m ≤ nb → RdV w1 (.slice ab m cb) (l0.take m).length 1 (bv (l0.take m)) := by
    intro w1 m k1 hm
    have hN := HN.out
    rw [List.length_take, Nat.min_eq_left (by omega)]
    refine rd_take (by omega) (by omega) (fun h => by rw [← hN]; exact HNB.out h) (fun a ha j u hu => ?_)
    have h0 := HXB.out a ha j u hu
    rw [k1.cell (World.block_lt_of_cell? w _ h0) (by simp)]
    exact h0
  have CUT := Lib.hid cut
  clear hbl hxb hnnb hll hxl hnnl hok cut
  obtain ⟨m, hm, hm1, hm2⟩ := mask10 most
  clear hm2
  obtain ⟨q, hq, hq1, hq2⟩ := mask8 n
  clear hq2
  go_enter Try.func9, Try.ntmps9
  go_wp2_with fail
  refine (shown_any w).mono ?_
  rintro e w1 ⟨rfl, k1⟩
  go_wp2_with fail
  refine (new_any m w1 (by omega)).mono ?_
  rintro e w2 ⟨rfl, h2, k2, _⟩
  obtain ⟨bw, hbw⟩ : ∃ bw, bw = w1.heap.size := ⟨_, rfl⟩
  have L2 : LW w.heap.size w2 bw (.slice none 0 0) ⟨[], m, false⟩ := by rw [hbw]; simpa using LW.new k1 h2
  rw [← hbw]
  have K2 : Keep [] w w2 := k1.trans k2 (by simp)
  clear hbw h2 hm
  go_upto_region 3 with fail
  go_cut [11] (fun s11 wx => ∃ (br : Nat) (v : Value) (l : List UInt8), s11 = .pointer (some ⟨br, 0, none⟩) ∧ l.length ≤ 1000 ∧ LR w.heap.size wx br v ⟨l, false⟩ ∧ Keep [] w wx ∧ LW w.heap.size wx bw (.slice none 0 0) ⟨[], m, false⟩ ∧ (∀ x ∈ rfp br v, x ≠ bw))
  case first =>
    have fin : ∀ (w3 : World) (br : Nat) (v' : Value) (l : List UInt8), IsR w3 br v' ⟨l, false⟩ → Keep [] w2 w3 → w2.heap.size ≤ br → (∀ k ∈ fpOf v', w2.heap.size ≤ k) → l.length ≤ 1000 →
        ∃ (br' : Nat) (v : Value) (l : List UInt8), Value.pointer (some ⟨br, 0, none⟩) = .pointer (some ⟨br', 0, none⟩) ∧ l.length ≤ 1000 ∧ LR w.heap.size w3 br' v ⟨l, false⟩ ∧ Keep [] w w3 ∧ LW w.heap.size w3 bw (.slice none 0 0) ⟨[], m, false⟩ ∧ (∀ x ∈ rfp br' v, x ≠ bw) := by
      intro w3 br v' l h3 k3 b3 q3 hl
      refine ⟨br, v', l, rfl, hl, LR.new K2 h3 b3 q3, K2.trans k3 (by simp), L2.keep k3 (by simp), fun x hx h => ?_⟩
      have := L2.isw.blk.lt
      rcases List.mem_cons.1 hx with h' | h'
      · omega
      · have := q3 x h'; omega
    have FIN := Lib.hid fin
    clear fin
    by_cases hmin : 1000 < nb
    · have rd := CUT.out w2 1000 K2 (by omega)
      go_wp2_with fail
      refine (read_any _ _ w2 rd (by simp; omega)).mono ?_
      rintro e w3 ⟨br, v', rfl, h3, k3, b3, q3⟩
      go_wp2_with fail
      go_meet
      case rel => exact FIN.out _ _ _ _ h3 k3 b3 q3 (by simp; omega)
    · have rd := CUT.out w2 nb K2 (by omega)
      go_wp2_with fail
      refine (read_any _ _ w2 rd (by simp; omega)).mono ?_
      rintro e w3 ⟨br, v', rfl, h3, k3, b3, q3⟩
      go_wp2_with fail
      go_meet
      case rel => exact FIN.out _ _ _ _ h3 k3 b3 q3 (by simp; omega)
  case rest =>
    clear L2 K2 k1 k2 CUT
    obtain ⟨br, v3, l, rfl, hl, R3, K3, L3, hne⟩ := hcut
    go_wp2_with fail
    refine (byte_any bw _ _ _ _ (by omega) (by omega) L3.isw).mono ?_
    rintro e w4 ⟨rfl, o4⟩
    obtain ⟨v4, L4, K4, k4, r4⟩ := LW.step (w0 := w) L3 K3 o4
    rw [byte_not _ _ _ (by omega)] at L4
    have R4 := R3.keep k4 (fun x hx h => by simp [wfp, rowOf, Value.ownBlock] at h; exact hne x hx h)
    have hne4 : ∀ x ∈ rfp br v3, x ∉ wfp bw v4 := fun x hx h => by
      rcases r4 x h with h | h
      · simp [wfp, rowOf, Value.ownBlock] at h; exact hne x hx h
      · have := R3.lt x hx; omega
    clear o4 L3 K3 k4 r4 R3
    go_wp2_with fail
    refine (rraw_any br v3 _ _ w4 R4.isr).mono ?_
    rintro e w5 ⟨rfl, o5⟩
    obtain ⟨v5, R5, K5, k5, r5⟩ := LR.step (w0 := w) R4 K4 o5
    rw [(rd_short l false (1001 + (q : Int)) (by omega)).2] at R5
    have hbr : ∀ x ∈ wfp bw v4, x ∉ [br] := fun x hx h => by rw [List.mem_singleton] at h; subst h; exact hne4 x (by simp [rfp]) hx
    have L5 := L4.keep k5 hbr
    have hne5 : ∀ x ∈ rfp br v5, x ∉ wfp bw v4 := fun x hx => hne4 x (r5 x hx)
    clear o5 R4 K4 k5 r5 hbr hne4 L4 hne
    go_wp2_with fail
    go_loopw [12] (fun i wr => ∃ (k : Nat) (v u : Value), k ≤ fs.length ∧ k ≤ 30 ∧ i = .int .i64 k ∧ Keep [] w wr ∧ LW w.heap.size wr bw v ⟨[], m, true⟩ ∧ LR w.heap.size wr br u ⟨[], true⟩ ∧ ∀ x ∈ rfp br u, x ∉ wfp bw v) (fun i _ => 30 - (intOf i).toNat)
    case atStart => exact ⟨0, _, _, Nat.zero_le _, Nat.zero_le _, rfl, K5, L5, R5, hne5⟩
    case round =>
      clear K5 L5 R5 hne5
      obtain ⟨j, v, u, hj, hj30, rfl, K, L, R, hd⟩ := hrel
      by_cases hlt : j < fs.length
      · by_cases h30 : j < 30
        · obtain ⟨a, rfl⟩ : ∃ a, al = some a := by
            cases al with
            | none => have := (HNL.out rfl).1; omega
            | some a => exact ⟨a, rfl⟩
          obtain ⟨f, hf⟩ : ∃ f, fs[j]? = some f := ⟨_, List.getElem?_eq_getElem hlt⟩
          have hokf := HOK.out f (List.mem_of_getElem? hf)
          obtain ⟨lt0, FC⟩ := field_cells HXL.out rfl hf
          obtain ⟨_, _, d3, d4⟩ := FC wr K
          have HFC := Lib.hid FC
          have hs1 := hokf.s1
          have hv0 := hokf.v0
          clear FC hokf hf
          obtain ⟨s', hs', hl', _⟩ := cut_string f.s 300
          go_upto_region 11 with fail
          go_cut [] (fun wx => ∃ v' : Value, Keep [] w wx ∧ LW w.heap.size wx bw v' ⟨[], m, true⟩ ∧ LR w.heap.size wx br u ⟨[], true⟩ ∧ ∀ x ∈ rfp br u, x ∉ wfp bw v')
          case first =>
            have Ld := L.keep (Keep.refl [] _).drew (by simp)
            have Rd := R.keep (Keep.refl [] _).drew (by simp)
            have Kd := K.drew
            by_cases hmin : 300 < f.s.size
            all_goals
              simp only [hmin, if_true, if_false] at hs'
              (refine wp_region_quiet_tail 14 (by kernel_rfl) (by kernel_rfl) ?_; simp only [List.take_succ_cons, List.take_zero, List.drop_succ_cons, List.drop_zero]; (repeat (go_big_quiet_step (fail))); with_reducible refine wpQuiet_nil ?_)
              go_wp2_with fail
              refine (raw_any bw v _ s' _ (by unfold maxLen; omega) Ld.isw).mono ?_
              rintro e w6 ⟨rfl, o6⟩
              obtain ⟨v6, L6, K6, k6, r6⟩ := LW.step (w0 := w) Ld Kd o6
              go_wp2_with fail
              go_meet
              case rel => exact ⟨v6, K6, by simpa [Pk.Wr.raw, put_bad] using L6, Rd.keep k6 hd, fun x hx h => (r6 x h).elim (hd x hx) (fun h => by have := Rd.lt x hx; omega)⟩
          case rest =>
            clear L R K hd d3 d4 hs' hs1 hl'
            obtain ⟨v6, K6, L6, R6, hd6⟩ := hcut
            obtain ⟨_, _, d6, _⟩ := HFC.out _ K6
            have L := L6
            have K := K6
            have R := R6
            have hd := hd6
            clear L6 K6 R6 hd6
            go_wp2_with fail
            refine (long_any bw _ _ f.v _ hv0 L.isw).mono ?_
            rintro e w7 ⟨rfl, o7⟩
            obtain ⟨v7, L7, K7, k7, r7⟩ := LW.step (w0 := w) L K o7
            have R7 := R.keep k7 hd
            have hd7 : ∀ x ∈ rfp br u, x ∉ wfp bw v7 := fun x hx h => (r7 x h).elim (hd x hx) (fun h => by have := R.lt x hx; omega)
            simp only [Pk.Wr.long, put_bad] at L7
            clear L K R hd o7 k7 r7
            have L := L7
            have K := K7
            have R := R7
            have hd := hd7
            clear L7 K7 R7 hd7
            go_wp2_with fail
            refine (fill_any bw _ _ 0 _ L.isw).mono ?_
            rintro e w7 ⟨rfl, o7⟩
            obtain ⟨v7, L7, K7, k7, r7⟩ := LW.step (w0 := w) L K o7
            have R7 := R.keep k7 hd
            have hd7 : ∀ x ∈ rfp br u, x ∉ wfp bw v7 := fun x hx h => (r7 x h).elim (hd x hx) (fun h => by have := R.lt x hx; omega)
            simp only [fill_bad] at L7
            clear L K R hd o7 k7 r7
            have L := L7
            have K := K7
            have R := R7
            have hd := hd7
            clear L7 K7 R7 hd7
            go_wp2_with fail
            refine (rbyte_any br _ _ _ R.isr).mono ?_
            rintro e w8 ⟨rfl, o8⟩
            obtain ⟨u8', R8, K8, k8, r8⟩ := LR.step (w0 := w) R K o8
            rw [take_bad]
            have hbr : ∀ x ∈ wfp bw _, x ∉ [br] := fun x hx h => by rw [List.mem_singleton] at h; subst h; exact hd x (by simp [rfp]) hx
            have L8 := L.keep k8 hbr
            have hd8 := fun x hx => hd x (r8 x hx)
            rw [skip_bad] at R8
            clear L K R hd o8 k8 r8 hbr
            have L := L8
            have K := K8
            have R := R8
            have hd := hd8
            clear L8 K8 R8 hd8
            go_wp2_with fail
            refine (rword_any br _ _ _ R.isr).mono ?_
            rintro e w8 ⟨rfl, o8⟩
            obtain ⟨u8', R8, K8, k8, r8⟩ := LR.step (w0 := w) R K o8
            rw [take_bad]
            have hbr : ∀ x ∈ wfp bw _, x ∉ [br] := fun x hx h => by rw [List.mem_singleton] at h; subst h; exact hd x (by simp [rfp]) hx
            have L8 := L.keep k8 hbr
            have hd8 := fun x hx => hd x (r8 x hx)
            rw [skip_bad] at R8
            clear L K R hd o8 k8 r8 hbr
            have L := L8
            have K := K8
            have R := R8
            have hd := hd8
            clear L8 K8 R8 hd8
            go_wp2_with fail
            refine (rlong_any br _ _ _ R.isr).mono ?_
            rintro e w8 ⟨rfl, o8⟩
            obtain ⟨u8', R8, K8, k8, r8⟩ := LR.step (w0 := w) R K o8
            rw [take_bad]
            have hbr : ∀ x ∈ wfp bw _, x ∉ [br] := fun x hx h => by rw [List.mem_singleton] at h; subst h; exact hd x (by simp [rfp]) hx
            have L8 := L.keep k8 hbr
            have hd8 := fun x hx => hd x (r8 x hx)
            rw [skip_bad] at R8
            clear L K R hd o8 k8 r8 hbr
            have L := L8
            have K := K8
            have R := R8
            have hd := hd8
            clear L8 K8 R8 hd8
            go_wp2_with fail
            refine (rtext_any br _ _ _ R.isr).mono ?_
            rintro e w8 ⟨rfl, o8⟩
            obtain ⟨u8', R8, K8, k8, r8⟩ := LR.step (w0 := w) R K o8
            rw [show rtext ⟨[], true⟩ = [] from by simp [rtext, skip_bad, take_bad], show txt [] = ⟨#[]⟩ from rfl]
            have hbr : ∀ x ∈ wfp bw _, x ∉ [br] := fun x hx h => by rw [List.mem_singleton] at h; subst h; exact hd x (by simp [rfp]) hx
            have L8 := L.keep k8 hbr
            have hd8 := fun x hx => hd x (r8 x hx)
            simp only [rtextSkip, skip_bad] at R8
            clear L K R hd o8 k8 r8 hbr
            have L := L8
            have K := K8
            have R := R8
            have hd := hd8
            clear L8 K8 R8 hd8
            go_wp2_with fail
            refine (rraw_any br _ _ 0 _ R.isr).mono ?_
            rintro e w8 ⟨rfl, o8⟩
            obtain ⟨u8', R8, K8, k8, r8⟩ := LR.step (w0 := w) R K o8
            rw [take_bad, show txt [] = ⟨#[]⟩ from rfl]
            have hbr : ∀ x ∈ wfp bw _, x ∉ [br] := fun x hx h => by rw [List.mem_singleton] at h; subst h; exact hd x (by simp [rfp]) hx
            have L8 := L.keep k8 hbr
            have hd8 := fun x hx => hd x (r8 x hx)
            rw [skip_bad] at R8
            clear L K R hd o8 k8 r8 hbr
            have L := L8
            have K := K8
            have R := R8
            have hd := hd8
            clear L8 K8 R8 hd8
            go_wp2
            exact ⟨⟨j + 1, _, _, by omega, by omega, by go_num, K, L, R, hd⟩, by simp [intOf]; omega⟩
        · go_wp2_with fail
          refine (done_bad bw v _ _ _ L.isw).mono ?_
          rintro e w8 ⟨ao8, c8, rfl, _, k8, _⟩
          have R8 := R.keep k8 (by simp)
          have K8 : Keep [] w w8 := K.trans k8 (by simp)
          clear L R K hd k8
          go_wp2_with (first | (go_at_call 24; refine (wrong_any br _ _ _ R8.isr).mono ?_; rintro e w' ⟨rfl, rfl⟩) | (go_at_call 25; refine (left_any br _ _ _ R8.isr).mono ?_; rintro e w' ⟨rfl, rfl⟩) | (go_at_call 37; refine (noughts_any br _ _ _ R8.isr).mono ?_; rintro e w' ⟨rfl, rfl⟩))
          go_ret
          exact ⟨by simp [Pk.Rd.noughts], K8⟩
      · go_wp2_with fail
        refine (done_bad bw v _ _ _ L.isw).mono ?_
        rintro e w8 ⟨ao8, c8, rfl, _, k8, _⟩
        have R8 := R.keep k8 (by simp)
        have K8 : Keep [] w w8 := K.trans k8 (by simp)
        clear L R K hd k8
        go_wp2_with (first | (go_at_call 24; refine (wrong_any br _ _ _ R8.isr).mono ?_; rintro e w' ⟨rfl, rfl⟩) | (go_at_call 25; refine (left_any br _ _ _ R8.isr).mono ?_; rintro e w' ⟨rfl, rfl⟩) | (go_at_call 37; refine (noughts_any br _ _ _ R8.isr).mono ?_; rintro e w' ⟨rfl, rfl⟩))
        go_ret
        exact ⟨by simp [Pk.Rd.noughts], K8⟩


theorem packWrong_readable : Try.f9.params.toList.all (fun t => Try.prog.readableRec t && decide (t < Try.prog.types.size)) = true := by kernel_rfl

open Go.ChangeShapes Go.WideShapes Go.ChangeAt in
set_option maxRecDepth 100000 in
theorem packWrong_contract (H : Type) (enc : TypeId × Value → H) (W : World) (base : Nat) (args : Array Value) (ds gs : List (DataW H)) (before : List MemPlace)
    (hval : ∀ (j : Nat) t v, Try.f9.params[j]? = some t → args[j]? = some v → Value.okWide Try.prog W .any base t v)
    (hW : DataW.Whole enc Try.prog Try.f9.params.toList Rows.packWrongSpec.vars false W args.toList ds gs before) :
    Calls Try.prog 9 args W fun e W' => ∃ v, e = .returned v ∧ Rows.packWrongSpec.post enc Try.prog Try.f9 false true false false W args v W' := by
  have hW' := hW
  obtain ⟨p, q, hA0, hV, rfl, _, _⟩ := hW
  have hA : DataW.TrodAll enc Try.prog W 0 (fun _ => true) true Try.f9.params.toList args.toList ds p := hA0
  rw [Try.params9] at hA hval
  obtain ⟨v0, v1, v2, v3, d0, d1, d2, d3, p0, p1, p2, p3, rfl, rfl, rfl, h0, h1, h2, h3⟩ := trodAll_four hA
  obtain ⟨rfl, rfl⟩ := trodVars_none hV
  obtain ⟨a0, rfl, rfl, rfl, w0⟩ := open_int Try.underlying3 (hval 0 3 v0 rfl rfl) h0
  obtain ⟨fs, hf, hfl, hok⟩ := open_fields Try.underlying41 Try.underlying46 (by kernel_rfl) rfl rfl rfl rfl (by kernel_rfl) (by kernel_rfl) (by kernel_rfl) (by kernel_rfl) Try.underlying3 Try.underlying3 Try.underlying37 Try.underlying9 (hval 1 41 v1 rfl rfl) h1
  obtain ⟨l, hl, hll⟩ := open_bytes Try.underlying27 Try.underlying5 (by kernel_rfl) (hval 2 27 v2 rfl rfl) h2
  obtain ⟨a3, rfl, rfl, rfl, w3⟩ := open_int Try.underlying3 (hval 3 3 v3 rfl rfl) h3
  refine (packWrong_walk a0 v1 v2 a3 fs l W hf hl hll hfl hok).mono fun e W' ⟨he, hk⟩ => ?_
  subst he
  exact ⟨_, rfl, law_post Try.laidOut packWrong_readable rfl Try.underlying4 rfl hW' rfl hk.below0⟩

set_option maxRecDepth 100000 in
theorem packWrong_lifted (os : Os) (started : os.Started) (H : Type) (enc : TypeId × Value → H) :
    ReturnsInHanded {} Try.checked os 9 .any (Rows.packWrongSpec.pre6 enc Try.prog Try.f9 Rows.packWrongRow.domain false) (Rows.packWrongSpec.post enc Try.prog Try.f9 false true false false) := by
  refine returnsInHanded_of_change_sized (C := Try.checked) Try.own started (by kernel_rfl) Try.func9
    (ChangeSpec.witness6 (enc := enc) (C := Try.checked) false ⟨#[], #[.int .i64 0, .slice none 0 0, .slice none 0 0, .int .i64 0], []⟩ 8 (by kernel_rfl) (by kernel_rfl) (by kernel_rfl) (by kernel_rfl)) ?_
  intro W base args ds gs before hval hW _ _ _
  exact packWrong_contract H enc W base args ds gs before hval hW

theorem packWrong_holds : Rows.PackWrongSaid :=
  OpenClaim.holds_of_wide 9 Try.f9 rfl rfl rfl rfl rfl rfl rfl ⟨rfl, rfl, rfl, rfl, rfl⟩ rfl rfl rfl rfl rfl (by kernel_rfl) Try.func9 (by kernel_rfl)
    (of_decide_eq_true (by kernel_rfl)) (by unfold Func.isWrapper; first | (rw [if_pos (by decide +kernel)]; kernel_rfl) | (rw [if_neg (by decide +kernel)]; exact ⟨rfl, rfl⟩))
    (fun os started H enc _ => packWrong_lifted os started H enc)

#print axioms packWrong_holds
end Go.Proofs.Yteogkgjajhdhjaa
