/-
  Package model: create: a new file or directory. No condition but that the op was cut, that the nodes lie in memory, and that a directory has not too many entries.
-/
import Derived.Test.YtbmbjedpeepnfaaDoorMdI
namespace Go.Proofs.YtbmbjedpeepnfaaDoor
open Go.RowKit

set_option maxRecDepth 100000 in
set_option maxHeartbeats 8000000 in
theorem create_any (mb : Nat) (ms : List NdM) (s : Md.St) (o : Md.Op) (w : World) (h : IsM w mb ms s) (k : Ok s) (ok : OpOk o) (T : Tabs w) (hsz : ∀ q, (Md.entsOf s q).length < 1000000) :
    Calls Tryd.prog 47 #[.pointer (some ⟨mb, 0, none⟩), .agg (opL o).toArray] w fun e w' => DoneOut mb ms (Md.create s o) w w' e := by
  obtain ⟨w0, hw0⟩ : ∃ W, W = w.alloc (.cells #[.int .i64 o.kind, .string o.path, .string o.to', .int .i64 o.off, .int .i64 o.n, .string o.data] 36) := ⟨_, rfl⟩
  simp only [opL]
  go_enter Tryd.func47, Tryd.ntmps47
  go_wp2_with fail
  rw [← hw0]
  have K0 : Keep [] w w0 := by rw [hw0]; exact (Keep.refl _ _).alloc _
  obtain ⟨b3, hb3⟩ : ∃ b, b = w.heap.size := ⟨_, rfl⟩
  have BO : Blk w0 b3 [.int .i64 o.kind, .string o.path, .string o.to', .int .i64 o.off, .int .i64 o.n, .string o.data] 36 := by rw [hw0, hb3]; exact Blk.new' _ _ _
  rw [← hb3]
  clear hw0 hb3
  have hPl := Md.walk_ok k.leads k.pos o.path
  refine (walk_any mb ms s o.path w0 (h.keep K0 (by simp) (by simp)) k ok.p (T.keep K0 (by simp))).mono ?_
  rintro e w1 ⟨rfl, k1⟩
  have K1 := K0.trans k1 (by simp)
  have BO1 := BO.keep k1 (by simp)
  obtain ⟨R, hR⟩ : ∃ R, R = Md.walk s o.path := ⟨_, rfl⟩
  have hroot : R.2 = 0 → R.1.parent = none → R.1.is' = some 0 := by rw [hR]; exact walk_root
  have hF : Md.create s o = if R.2 = 0 then match R.1.is', R.1.parent with | some _, _ => (s, 3) | none, some q => (Md.enter (s ++ [if o.kind = 6 then ⟨true, [], [], 0⟩ else ⟨false, [], [], 1⟩]) q R.1.name s.length, 0) | none, none => (s, 3) else (s, R.2) := by unfold Md.create; rw [← hR]; rfl
  rw [← hR] at hPl ⊢
  have HF := Lib.hid hF
  obtain ⟨⟨par, nm, is⟩, er⟩ := R
  obtain ⟨pv, hpv⟩ : ∃ v, v = par.map (fun i => at0 (blkOf ms i)) := ⟨_, rfl⟩
  obtain ⟨iv, hiv⟩ : ∃ v, v = is.map (fun i => at0 (blkOf ms i)) := ⟨_, rfl⟩
  simp only [plL]
  rw [← hpv, ← hiv]
  have HIV := Lib.hid hiv
  have HPV := Lib.hid hpv
  have hM := h.keep K1 (by simp) (by simp)
  clear hF hR hpv hiv k1 K0
  go_upto_region 3 with fail
  obtain ⟨W, hW⟩ : ∃ W, W = w1.alloc (.cells #[.pointer pv, .string nm, .pointer iv] 88) := ⟨_, rfl⟩
  obtain ⟨b6, hb6⟩ : ∃ b, b = w1.heap.size := ⟨_, rfl⟩
  have BP : Blk W b6 [.pointer pv, .string nm, .pointer iv] 88 := by rw [hW, hb6]; exact Blk.new' w1 _ _
  have k1 : Keep [] w1 W := by rw [hW]; exact (Keep.refl _ _).alloc _
  have KW : Keep [] w W := K1.trans k1 (by simp)
  have BOW := BO1.keep k1 (by simp)
  have hMW := hM.keep k1 (by simp) (by simp)
  have h6w : w.heap.size ≤ b6 := by rw [hb6]; exact K1.size
  rw [← hW, ← hb6]
  clear hW hb6 K1 k1 hM
  have z0 := BP.cell 0
  have z1 := BP.cell 1
  have z2 := BP.cell 2
  have o0 := BOW.cell 0
  simp only [List.getElem?_cons_zero, List.getElem?_cons_succ] at z0 z1 z2 o0
  by_cases he : er = 0
  · subst he
    cases is with
    | some i =>
      obtain ⟨ai, hai⟩ : ∃ a, a = at0 (blkOf ms i) := ⟨_, rfl⟩
      obtain rfl : iv = some ai := by rw [HIV.out, hai]; rfl
      have hf : Md.create s o = (s, 3) := by rw [HF.out]; rfl
      have HF2 := Lib.hid hf
      clear hf hai
      go_wp2
      go_ret
      rw [HF2.out]
      exact DoneOut.no h KW
    | none =>
      obtain rfl : iv = none := HIV.out
      cases par with
      | none => exact absurd (hroot rfl rfl) (by simp)
      | some q =>
        obtain ⟨hqd, hlk, hns⟩ := hPl.par q rfl
        obtain ⟨qd, hqn, hqdir⟩ := Md.isDir_lt hqd
        obtain ⟨yq, hyq⟩ := hMW.mem.both' hqn
        have hNq := hMW.mem.at' q yq qd hyq hqn
        obtain ⟨mq, hmq, hnq⟩ : ∃ m, yq.m = some m ∧ NMap W m (bents (blkOf ms) qd.ents) := by
          rcases hNq.ents with ⟨_, e, _⟩ | ⟨m, e1, _, e3⟩
          · rw [hqdir] at e; cases e
          · exact ⟨m, e1, e3⟩
        obtain ⟨bq, hbq⟩ : ∃ b, b = blkOf ms q := ⟨_, rfl⟩
        have hyqb : yq.b = bq := by rw [hbq]; unfold blkOf; rw [hyq]
        have Bq := hNq.blk
        rw [hyqb, hmq] at Bq
        obtain rfl : pv = some (at0 bq) := by rw [HPV.out, hbq]; rfl
        have hmf : mq ∈ fps ms := mem_fps.2 ⟨q, yq, hyq, by simp [NdM.fp, hmq]⟩
        have hbl : (bents (blkOf ms) qd.ents).length < 1000000 := by
          have := hsz q
          unfold Md.entsOf at this
          rw [hqn] at this
          unfold bents; rw [List.length_map]; exact this
        have hq6 : b6 ≠ mq := fun e => by have := h.mem.lt mq hmf; omega
        have hqm : bq ≠ mq := fun e => hNq.apart.1 (by rw [hyqb, e, hmq]; simp)
        have MK : ∀ W', Keep [mq] W W' → (W'.cell? ⟨b6, 0, none⟩ = some (.pointer (some (at0 bq))) ∧ W'.cell? ⟨b6, 1, none⟩ = some (.string nm) ∧ W'.cell? ⟨bq, 0, none⟩ = some (.map (some mq))) := fun W' kk =>
          ⟨(BP.keep kk (by simp; exact hq6)).cell 0, (BP.keep kk (by simp; exact hq6)).cell 1, (Bq.keep kk (by simp; exact hqm)).cell 0⟩
        have HMK := Lib.hid MK
        have HN := Lib.hid hnq
        have HX := Lib.hid (And.intro hyq (And.intro hqn hmq))
        have kd : Keep [mq] W W.drew := (Keep.refl [mq] W).drew
        have HMW := Lib.hid hMW
        have HBQ := Lib.hid hbq
        clear MK hnq hPl hroot hqd hlk hqdir hqn hyq hNq hmq hyqb Bq hMW hbq hq6 hqm
        by_cases hk6 : o.kind = 6
        · have hf : Md.create s o = (Md.enter (s ++ [⟨true, [], [], 0⟩]) q nm s.length, 0) := by rw [HF.out]; show (Md.enter (s ++ [if o.kind = 6 then _ else _]) q nm s.length, (0 : Int)) = _; rw [if_pos hk6]
          have HF2 := Lib.hid hf
          clear hf
          rw [hk6] at o0
          go_upto_region 8 with fail
          have KA : Keep [] W ((W.alloc (.map #[] 0)).alloc (.cells #[.map (some W.heap.size), .slice none 0 0, .int .i64 0] 82)).drew := (((Keep.refl [] W).alloc _).alloc _).drew
          obtain ⟨w5, hrun, N5, k5'⟩ := (HN.out.keep KA (by simp)).storeRun (b := W.heap.size + 1) hns hbl
          have k5 : Keep [mq] W w5 := (KA.mono (by simp)).trans k5' (fun x hx => Or.inl hx)
          have HN5 := Lib.hid N5
          have HK5 := Lib.hid k5'
          clear N5 k5'
          go_region_held3 (fun W' => W'.cell? ⟨b6, 0, none⟩ = some (.pointer (some (at0 bq))) ∧ W'.cell? ⟨b6, 1, none⟩ = some (.string nm) ∧ W'.cell? ⟨bq, 0, none⟩ = some (.map (some mq))) (first | exact HMK.out _ kd | exact HMK.out _ (KA.mono (by simp)) | exact HMK.out _ k5 | exact HMK.out _ ((kd.alloc _).alloc _))
            (first
              | (go_at_call 38; (with_reducible refine (directory_any _).mono ?_); rintro e w' ⟨rfl, rfl⟩))
          all_goals
            go_simp
            go_wp2
            go_ret
            rw [HF2.out]
            obtain ⟨hyq, hqn, hmq⟩ := HX.out
            refine created_out (x := ⟨W.heap.size + 1, some W.heap.size, .slice none 0 0⟩) (nd := ⟨true, [], [], 0⟩) HMW.out KW k hyq hqn hmq KA ?_ rfl ?_ HK5.out HN5.out
            · intro j hj
              simp [NdM.fp, rowOf, Value.ownBlock] at hj
              omega
            · have B := Blk.new' (W.alloc (.map #[] 0)) [.map (some W.heap.size), .slice none 0 0, .int .i64 0] 82
              rw [World.size_alloc] at B
              exact ⟨B.drew, DRow.nil _, Or.inr ⟨_, rfl, rfl, (NMap.new W).keep (((Keep.refl [] _).alloc _).drew) (by simp)⟩, by simp [rowOf, Value.ownBlock], by simp [rowOf, Value.ownBlock]⟩
        · have hf : Md.create s o = (Md.enter (s ++ [⟨false, [], [], 1⟩]) q nm s.length, 0) := by rw [HF.out]; show (Md.enter (s ++ [if o.kind = 6 then _ else _]) q nm s.length, (0 : Int)) = _; rw [if_neg hk6]
          have HF2 := Lib.hid hf
          have hkb : (o.kind == 6) = false := by rw [beq_eq_false_iff_ne]; exact hk6
          clear hf hk6
          go_upto_region 2 with fail
          have KA : Keep [] W (W.alloc (.cells #[.map none, .slice none 0 0, .int .i64 1] 82)).drew := ((Keep.refl [] W).alloc _).drew
          obtain ⟨w5, hrun, N5, k5'⟩ := (HN.out.keep KA (by simp)).storeRun (b := W.heap.size) hns hbl
          have k5 : Keep [mq] W w5 := (KA.mono (by simp)).trans k5' (fun x hx => Or.inl hx)
          have HN5 := Lib.hid N5
          have HK5 := Lib.hid k5'
          clear N5 k5'
          go_region_held3 (fun W' => W'.cell? ⟨b6, 0, none⟩ = some (.pointer (some (at0 bq))) ∧ W'.cell? ⟨b6, 1, none⟩ = some (.string nm) ∧ W'.cell? ⟨bq, 0, none⟩ = some (.map (some mq))) (first | exact HMK.out _ kd | exact HMK.out _ (KA.mono (by simp)) | exact HMK.out _ k5 | exact HMK.out _ (kd.alloc _))
            (fail)
          all_goals
            go_simp
            go_wp2
            go_ret
            rw [HF2.out]
            obtain ⟨hyq, hqn, hmq⟩ := HX.out
            refine created_out (x := ⟨W.heap.size, none, .slice none 0 0⟩) (nd := ⟨false, [], [], 1⟩) HMW.out KW k hyq hqn hmq KA ?_ rfl ?_ HK5.out HN5.out
            · intro j hj
              simp [NdM.fp, rowOf, Value.ownBlock] at hj
              omega
            · exact ⟨(Blk.new' W [.map none, .slice none 0 0, .int .i64 1] 82).drew, DRow.nil _, Or.inl ⟨rfl, rfl, rfl⟩, by simp [rowOf, Value.ownBlock], by simp⟩
  · have heb : (er == 0) = false := by rw [beq_eq_false_iff_ne]; exact he
    have hf : Md.create s o = (s, er) := by rw [HF.out]; show (if er = 0 then _ else _) = _; rw [if_neg he]
    have HF2 := Lib.hid hf
    clear he hf
    go_wp2
    go_ret
    rw [HF2.out]
    exact DoneOut.no h KW
end Go.Proofs.YtbmbjedpeepnfaaDoor
