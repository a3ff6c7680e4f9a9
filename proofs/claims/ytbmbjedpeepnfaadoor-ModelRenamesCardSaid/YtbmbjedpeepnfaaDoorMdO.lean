/-
  Package model: rename. No condition but that the op was cut and its paths are right, that the nodes lie in memory, and that links and entries are not too many.
-/
import Derived.Test.YtbmbjedpeepnfaaDoorMdK
import Derived.Test.YtbmbjedpeepnfaaDoorMdPa
import Derived.Deep.DeepCutAuto
import Derived.LaidEqlPtr
import Derived.Deep.CutBlock
namespace Go.Proofs.YtbmbjedpeepnfaaDoor
open Go.RowKit Go.Maps

theorem neqPtr (o : Option Addr) (W : World) : (binOp BinOp.neq 61 (.pointer o) (.pointer none)).run Tryd.prog W = .ok (.bool o.isSome) W := by cases o <;> kernel_rfl

theorem infoN : (Tryd.prog.info? 82).map (fun i => i.size) = some 3 := by kernel_rfl

theorem eqPtr0 (b : Nat) (W : World) : (binOp BinOp.eql 61 (.pointer none) (.pointer (some (at0 b)))).run Tryd.prog W = .ok (.bool false) W := by kernel_rfl

theorem eqPtr1 (b : Nat) (W : World) : (binOp BinOp.eql 61 (.pointer (some (at0 b))) (.pointer (some (at0 b)))).run Tryd.prog W = .ok (.bool true) W := by
  obtain ⟨j, hj, _⟩ : ∃ j, Tryd.prog.info? 82 = some j ∧ j.size = 3 := by
    have := infoN
    cases h : Tryd.prog.info? 82 with
    | none => rw [h] at this; cases this
    | some j => rw [h] at this; exact ⟨j, rfl, by simpa using this⟩
  exact run_eql_ptr_same W _ Tryd.underlying61 hj

theorem eqPtr2 {a b : Nat} {W : World} {ca cb : List Value} {ta tb : TypeId} (h : a ≠ b) (ha : Blk W a ca ta) (hb : Blk W b cb tb) : (binOp BinOp.eql 61 (.pointer (some (at0 a))) (.pointer (some (at0 b)))).run Tryd.prog W = .ok (.bool false) W := by
  obtain ⟨j, hj, hs⟩ : ∃ j, Tryd.prog.info? 82 = some j ∧ j.size = 3 := by
    have := infoN
    cases h : Tryd.prog.info? 82 with
    | none => rw [h] at this; cases this
    | some j => rw [h] at this; exact ⟨j, rfl, by simpa using this⟩
  exact run_eql_ptr_other W Tryd.underlying61 hj (by omega) (fun e => h (by injection e)) ha hb

/-- the end of a rename -/
def Md.renTail (s : Md.St) (i q r : Nat) (x y : ByteArray) : Option Nat → Md.St × Int
  | some j => if j = i then (s, 0) else if Md.replaces s i j ≠ 0 then (s, Md.replaces s i j) else (Md.enter (Md.leave (Md.more s j (-1)) q x) r y i, 0)
  | none => (Md.enter (Md.leave s q x) r y i, 0)

/-- the nodes ahead of the last two steps of a rename -/
structure RenAt (ms : List NdM) (s S : Md.St) (W wx : World) : Prop where
  mem : Mem wx ms S
  keep : Keep (fps ms) W wx
  dirs : ∀ n, Md.isDir S n = Md.isDir s n
  ents : ∀ n, Md.entsOf S n = Md.entsOf s n
  len : S.length = s.length

set_option maxRecDepth 100000 in
set_option maxHeartbeats 8000000 in
theorem rename_any (mb : Nat) (ms : List NdM) (s : Md.St) (o : Md.Op) (w : World) (h : IsM w mb ms s) (k : Ok s) (ok : OpOk o) (T : Tabs w) (few : Few s) (hsz : ∀ q, (Md.entsOf s q).length < 1000000) (hp : Md.paths o = 0) (hk : o.kind = 9) :
    Calls Tryd.prog 51 #[.pointer (some ⟨mb, 0, none⟩), .agg (opL o).toArray] w fun e w' => DoneOut mb ms (Md.rename s o) w w' e := by
  obtain ⟨l1, hl1, hl2⟩ := Md.paths_zero hp
  obtain ⟨n1, l2, hl3, n2⟩ := hl2 (by unfold Md.two; simp [hk])
  have hparts := fun a b => @Md.rename_parts s o l1 l2 hl1 hl3 n1 n2 a b
  clear hk hp
  obtain ⟨w0, hw0⟩ : ∃ W, W = w.alloc (.cells #[.int .i64 o.kind, .string o.path, .string o.to', .int .i64 o.off, .int .i64 o.n, .string o.data] 36) := ⟨_, rfl⟩
  simp only [opL]
  go_enter Tryd.func51, Tryd.ntmps51
  go_wp2_with fail
  rw [← hw0]
  have K0 : Keep [] w w0 := by rw [hw0]; exact (Keep.refl _ _).alloc _
  obtain ⟨b3, hb3⟩ : ∃ b, b = w.heap.size := ⟨_, rfl⟩
  have BO : Blk w0 b3 [.int .i64 o.kind, .string o.path, .string o.to', .int .i64 o.off, .int .i64 o.n, .string o.data] 36 := by rw [hw0, hb3]; exact Blk.new' _ _ _
  have h3w : w.heap.size ≤ b3 := by omega
  rw [← hb3]
  clear hw0 hb3 hl1 hl2 hl3 n1 n2
  refine (there_any mb ms s o.path w0 (h.keep K0 (by simp) (by simp)) k ok.p (T.keep K0 (by simp))).mono ?_
  rintro e w1 ⟨rfl, k1⟩
  have K1 := K0.trans k1 (by simp)
  have BO1 := BO.keep k1 (by simp)
  obtain ⟨R, hR⟩ : ∃ R, R = Md.there s o.path := ⟨_, rfl⟩
  obtain ⟨V, hV⟩ : ∃ V, V = Md.walk s o.to' := ⟨_, rfl⟩
  have hF1 : R.2 ≠ 0 → Md.rename s o = (s, R.2) := fun e => by unfold Md.rename; rw [hR] at e ⊢; simp only; rw [if_pos e]
  have hF2 : R.2 = 0 → V.2 ≠ 0 → Md.rename s o = (s, V.2) := fun e1 e => by
    unfold Md.rename; rw [hR] at e1; rw [hV] at e ⊢; simp only; rw [if_neg (fun z => z e1), if_pos e]
  rw [← hR, ← hV] at hparts
  rw [← hR]
  have HV := Lib.hid hV
  have HR := Lib.hid hR
  have o1 := BO1.cell 1
  have o2 := BO1.cell 2
  simp only [List.getElem?_cons_zero, List.getElem?_cons_succ] at o1 o2
  obtain ⟨⟨par, nm, is⟩, er⟩ := R
  obtain ⟨pv, hpv⟩ : ∃ v, v = par.map (fun i => at0 (blkOf ms i)) := ⟨_, rfl⟩
  obtain ⟨iv, hiv⟩ : ∃ v, v = is.map (fun i => at0 (blkOf ms i)) := ⟨_, rfl⟩
  simp only [plL]
  rw [← hpv, ← hiv]
  have HIV := Lib.hid hiv
  have HPV := Lib.hid hpv
  have hM1 := h.keep K1 (by simp) (by simp)
  have T1 := T.keep K1 (by simp)
  clear hR hV hiv hpv k1 K0 BO
  go_upto_region 2 with fail
  obtain ⟨W, hW⟩ : ∃ W, W = w1.alloc (.cells #[.pointer pv, .string nm, .pointer iv] 88) := ⟨_, rfl⟩
  obtain ⟨b5, hb5⟩ : ∃ b, b = w1.heap.size := ⟨_, rfl⟩
  have BP : Blk W b5 [.pointer pv, .string nm, .pointer iv] 88 := by rw [hW, hb5]; exact Blk.new' w1 _ _
  have kW : Keep [] w1 W := by rw [hW]; exact (Keep.refl _ _).alloc _
  have KW : Keep [] w W := K1.trans kW (by simp)
  have BOW := BO1.keep kW (by simp)
  have hMW := hM1.keep kW (by simp) (by simp)
  have TW := T1.keep kW (by simp)
  have h5w : w.heap.size ≤ b5 := by rw [hb5]; exact K1.size
  rw [← hW, ← hb5]
  have o2 := BOW.cell 2
  simp only [List.getElem?_cons_zero, List.getElem?_cons_succ] at o2
  clear hW hb5 K1 kW hM1 T1 BO1 o1
  by_cases he : er = 0
  · subst he
    go_wp2_with fail
    refine (walk_any mb ms s o.to' W hMW k ok.t TW).mono ?_
    rintro e w2 ⟨rfl, k2⟩
    have K2 := KW.trans k2 (by simp)
    rw [← HV.out]
    obtain ⟨⟨par2, nm2, is2⟩, ev⟩ := V
    obtain ⟨qv, hqv⟩ : ∃ v, v = par2.map (fun i => at0 (blkOf ms i)) := ⟨_, rfl⟩
    obtain ⟨jv, hjv⟩ : ∃ v, v = is2.map (fun i => at0 (blkOf ms i)) := ⟨_, rfl⟩
    simp only [plL]
    rw [← hqv, ← hjv]
    have HQV := Lib.hid hqv
    have HJV := Lib.hid hjv
    have BP1 := BP.keep k2 (by simp)
    have BO2 := BOW.keep k2 (by simp)
    have hM2 := hMW.keep k2 (by simp) (by simp)
    have T2 := TW.keep k2 (by simp)
    clear hqv hjv o2 hMW BP BOW KW
    go_upto_block 0 with fail
    obtain ⟨X, hX⟩ : ∃ X, X = w2.alloc (.cells #[.pointer qv, .string nm2, .pointer jv] 88) := ⟨_, rfl⟩
    obtain ⟨b7, hb7⟩ : ∃ b, b = w2.heap.size := ⟨_, rfl⟩
    have BT : Blk X b7 [.pointer qv, .string nm2, .pointer jv] 88 := by rw [hX, hb7]; exact Blk.new' w2 _ _
    have kX : Keep [] w2 X := by rw [hX]; exact (Keep.refl _ _).alloc _
    have KX : Keep [] w X := K2.trans kX (by simp)
    have BFX := BP1.keep kX (by simp)
    have BOX := BO2.keep kX (by simp)
    have hMX := hM2.keep kX (by simp) (by simp)
    have TX := T2.keep kX (by simp)
    have h7w : w.heap.size ≤ b7 := by rw [hb7]; exact K2.size
    rw [← hX, ← hb7]
    clear hX hb7 K2 kX hM2 T2 BO2 BP1 k2
    by_cases hv : ev = 0
    · subst hv
      obtain ⟨i, q, r, a, b, x, y, M, hwk⟩ := hparts (by trivial) (by trivial)
      have e1 : ((⟨par, nm, is⟩, 0) : Md.Pl × Int) = (⟨some q, x, some i⟩, 0) := by rw [hwk, M.wf]
      have e2 : ((⟨par2, nm2, is2⟩, 0) : Md.Pl × Int) = (⟨some r, y, Md.edge s r y⟩, 0) := by rw [HV.out, M.wt]
      simp only [Prod.mk.injEq, Md.Pl.mk.injEq, and_true] at e1 e2
      obtain ⟨rfl, rfl, rfl⟩ := e1
      obtain ⟨rfl, rfl, hoj⟩ := e2
      have hRI := Md.rename_is M (HR.out.symm.trans hwk)
      rw [← hoj] at hRI
      obtain ⟨bq, hbq⟩ : ∃ b, b = blkOf ms q := ⟨_, rfl⟩
      obtain ⟨br, hbr⟩ : ∃ b, b = blkOf ms r := ⟨_, rfl⟩
      obtain ⟨bi, hbi⟩ : ∃ b, b = blkOf ms i := ⟨_, rfl⟩
      obtain rfl : pv = some (at0 bq) := by rw [HPV.out, hbq]; rfl
      obtain rfl : iv = some (at0 bi) := by rw [HIV.out, hbi]; rfl
      obtain rfl : qv = some (at0 br) := by rw [HQV.out, hbr]; rfl
      have hil : i < s.length := Md.goL_lt k (a ++ [nm]) 0 i k.pos (Md.goL_snoc.2 ⟨q, M.ga, M.ei⟩)
      obtain ⟨nd, hnd⟩ : ∃ nd, s[i]? = some nd := ⟨_, List.getElem?_eq_getElem hil⟩
      obtain ⟨yi, hyi⟩ := hMX.mem.both' hnd
      have hNi := hMX.mem.at' i yi nd hyi hnd
      have hyb : yi.b = bi := by rw [hbi]; unfold blkOf; rw [hyi]
      have Bi := hNi.blk
      rw [hyb] at Bi
      have hdm : Md.isDir s i = yi.m.isSome := by
        unfold Md.isDir
        rw [hnd]
        rcases hNi.ents with ⟨em, ed, _⟩ | ⟨m, em, ed, _⟩ <;> rw [em] <;> exact ed
      obtain ⟨m, hm⟩ : ∃ m, m = yi.m := ⟨_, rfl⟩
      rw [← hm] at Bi hdm
      obtain ⟨t, ht⟩ : ∃ t, t = o.to' := ⟨_, rfl⟩
      obtain ⟨p, hpt⟩ : ∃ p, p = o.path := ⟨_, rfl⟩
      have hts := ok.t
      have hps := ok.p
      rw [← ht, ← hpt] at BOX
      rw [← ht] at hts
      rw [← hpt] at hps
      rw [← ht, ← hpt, hdm] at hRI
      obtain ⟨B, hB⟩ : ∃ B, B = Nm.below t p := ⟨_, rfl⟩
      rw [← hB] at hRI
      obtain ⟨NC, hNC⟩ : ∃ P : Prop, P = (¬ (m.isSome = true ∧ t ≠ p ∧ B = true) ∧ is2 ≠ some i) := ⟨_, rfl⟩
      have HNC := Lib.hid hNC
      have HRI := Lib.hid hRI
      have HM := Lib.hid M
      have HBI := Lib.hid hbi
      have HBQ := Lib.hid hbq
      have HBR := Lib.hid hbr
      have HB := Lib.hid hB
      have HOJ := Lib.hid hoj
      have HMX := Lib.hid hMX
      have HJ : (is2 = none ∧ jv = none) ∨ (is2 = some i ∧ jv = some (at0 bi)) ∨ ∃ j bj, is2 = some j ∧ j ≠ i ∧ bj ≠ bi ∧ bj = blkOf ms j ∧ (∃ cs, Blk X bj cs 82) ∧ jv = some (at0 bj) := by
        cases c : is2 with
        | none => exact Or.inl ⟨rfl, by rw [HJV.out, c]; rfl⟩
        | some j =>
          right
          by_cases e : j = i
          · left; exact ⟨by rw [e], by rw [HJV.out, c, e, hbi]; rfl⟩
          · right
            have hjl : j < s.length := by
              rw [c] at hoj
              exact Md.goL_lt k (b ++ [nm2]) 0 j k.pos (Md.goL_snoc.2 ⟨r, M.gb, hoj.symm⟩)
            exact ⟨j, _, rfl, e, (fun z => e (blkOf_inj hMX.mem hjl hil (by rw [z, hbi]))), rfl, (by
              obtain ⟨jd, hjd⟩ : ∃ nd, s[j]? = some nd := ⟨_, List.getElem?_eq_getElem hjl⟩
              obtain ⟨yj, hyj⟩ := hMX.mem.both' hjd
              have hyjb : yj.b = blkOf ms j := by unfold blkOf; rw [hyj]
              rw [← hyjb]
              exact ⟨_, (hMX.mem.at' j yj jd hyj hjd).blk⟩), by rw [HJV.out, c]; rfl⟩
      clear hRI M hbi hbq hbr hB hoj hMX hNC hF1 hF2 hparts hwk hnd hyi hNi hyb hdm hm ht hpt
      go_cut [] (fun wx => Keep [] X wx ∧ NC)
      case first =>
        have f52 := BFX.cell 2
        have z72 := BT.cell 2
        have o1 := BOX.cell 1
        have o2 := BOX.cell 2
        simp only [List.getElem?_cons_zero, List.getElem?_cons_succ] at f52 z72 o1 o2
        rcases HJ with ⟨rfl, rfl⟩ | ⟨rfl, rfl⟩ | ⟨j, bj, rfl, hji, hbj, hbjl, hbjb, rfl⟩
        · cases m with
          | none =>
            have hq := fun W => eqPtr0 bi W
            go_wp2_with (go_at_call 63; refine (dir_any bi none _ _ _ Bi).mono ?_; rintro e w' ⟨rfl, rfl⟩)
            go_meet
            case rel => exact ⟨Keep.refl [] X, by rw [HNC.out]; exact ⟨fun z => by simpa using z.1, by simp⟩⟩
          | some mm =>
            by_cases htp : t = p
            · subst htp
              have hq := fun W => eqPtr0 bi W
              go_wp2_with (go_at_call 63; refine (dir_any bi (some mm) _ _ _ Bi).mono ?_; rintro e w' ⟨rfl, rfl⟩)
              go_meet
              case rel => exact ⟨Keep.refl [] X, by rw [HNC.out]; exact ⟨fun z => z.2.1 rfl, by simp⟩⟩
            · have htb : (t.toList == p.toList) = false := by rw [beq_eq_false_iff_ne, Lib.toList_data, Lib.toList_data]; exact fun e => htp (Nm.data_inj e)
              cases B with
              | true =>
                go_wp2_with (first | (go_at_call 63; refine (dir_any bi (some mm) _ _ _ Bi).mono ?_; rintro e w' ⟨rfl, rfl⟩) | (go_at_call 30; refine (below_any t p _ (by omega) (by omega) TX).mono ?_; rw [← HB.out]; rintro e w3 ⟨rfl, k3⟩))
                go_ret
                have hf : Md.rename s o = (s, 1) := by rw [HRI.out, if_pos (by simpa using htp)]
                rw [hf]
                exact DoneOut.no h (KX.trans k3 (by simp))
              | false =>
                go_wp2_with (first | (go_at_call 63; refine (dir_any bi (some mm) _ _ _ Bi).mono ?_; rintro e w' ⟨rfl, rfl⟩) | (go_at_call 30; refine (below_any t p _ (by omega) (by omega) TX).mono ?_; rw [← HB.out]; rintro e w3 ⟨rfl, k3⟩; have f53 := (BFX.keep k3 (by simp)).cell 2; have z73 := (BT.keep k3 (by simp)).cell 2; simp only [List.getElem?_cons_zero, List.getElem?_cons_succ] at f53 z73; have hq := fun W => eqPtr0 bi W))
                go_meet
                case rel => exact ⟨k3, by rw [HNC.out]; exact ⟨fun z => by simpa using z.2.2, by simp⟩⟩
        · cases m with
          | none =>
            have hq := fun W => eqPtr1 bi W
            go_wp2_with (go_at_call 63; refine (dir_any bi none _ _ _ Bi).mono ?_; rintro e w' ⟨rfl, rfl⟩)
            go_ret
            have hf : Md.rename s o = (s, 0) := by
              rw [HRI.out, if_neg (fun z => by simpa using z.1)]
              simp
            rw [hf]
            exact DoneOut.no h (KX.trans (Keep.refl [] X) (by simp))
          | some mm =>
            by_cases htp : t = p
            · subst htp
              have hq := fun W => eqPtr1 bi W
              go_wp2_with (go_at_call 63; refine (dir_any bi (some mm) _ _ _ Bi).mono ?_; rintro e w' ⟨rfl, rfl⟩)
              go_ret
              have hf : Md.rename s o = (s, 0) := by
                rw [HRI.out, if_neg (fun z => z.2.1 rfl)]
                simp
              rw [hf]
              exact DoneOut.no h (KX.trans (Keep.refl [] X) (by simp))
            · have htb : (t.toList == p.toList) = false := by rw [beq_eq_false_iff_ne, Lib.toList_data, Lib.toList_data]; exact fun e => htp (Nm.data_inj e)
              cases B with
              | true =>
                go_wp2_with (first | (go_at_call 63; refine (dir_any bi (some mm) _ _ _ Bi).mono ?_; rintro e w' ⟨rfl, rfl⟩) | (go_at_call 30; refine (below_any t p _ (by omega) (by omega) TX).mono ?_; rw [← HB.out]; rintro e w3 ⟨rfl, k3⟩))
                go_ret
                have hf : Md.rename s o = (s, 1) := by rw [HRI.out, if_pos (by simpa using htp)]
                rw [hf]
                exact DoneOut.no h (KX.trans k3 (by simp))
              | false =>
                go_wp2_with (first | (go_at_call 63; refine (dir_any bi (some mm) _ _ _ Bi).mono ?_; rintro e w' ⟨rfl, rfl⟩) | (go_at_call 30; refine (below_any t p _ (by omega) (by omega) TX).mono ?_; rw [← HB.out]; rintro e w3 ⟨rfl, k3⟩; have f53 := (BFX.keep k3 (by simp)).cell 2; have z73 := (BT.keep k3 (by simp)).cell 2; simp only [List.getElem?_cons_zero, List.getElem?_cons_succ] at f53 z73; have hq := fun W => eqPtr1 bi W))
                go_ret
                have hf : Md.rename s o = (s, 0) := by
                  rw [HRI.out, if_neg (fun z => by simpa using z.2.2)]
                  simp
                rw [hf]
                exact DoneOut.no h (KX.trans (k3) (by simp))
        · have HQ := Lib.hid (show ∀ wz, Keep [] X wz → (binOp BinOp.eql 61 (.pointer (some (at0 bj))) (.pointer (some (at0 bi)))).run Tryd.prog wz = .ok (.bool false) wz from fun wz kz => by
            obtain ⟨cj, hcj⟩ := hbjb
            exact eqPtr2 hbj (hcj.keep kz (by simp)) (Bi.keep kz (by simp)))
          clear hbjb
          cases m with
          | none =>
            clear hbjl
            have hq := HQ.out _ (Keep.refl [] X)
            go_wp2_with (go_at_call 63; refine (dir_any bi none _ _ _ Bi).mono ?_; rintro e w' ⟨rfl, rfl⟩)
            go_meet
            case rel => exact ⟨Keep.refl [] X, by rw [HNC.out]; exact ⟨fun z => by simpa using z.1, fun z => hji (by injection z)⟩⟩
          | some mm =>
            clear hbjl
            by_cases htp : t = p
            · subst htp
              have hq := HQ.out _ (Keep.refl [] X)
              go_wp2_with (go_at_call 63; refine (dir_any bi (some mm) _ _ _ Bi).mono ?_; rintro e w' ⟨rfl, rfl⟩)
              go_meet
              case rel => exact ⟨Keep.refl [] X, by rw [HNC.out]; exact ⟨fun z => z.2.1 rfl, fun z => hji (by injection z)⟩⟩
            · have htb : (t.toList == p.toList) = false := by rw [beq_eq_false_iff_ne, Lib.toList_data, Lib.toList_data]; exact fun e => htp (Nm.data_inj e)
              cases B with
              | true =>
                go_wp2_with (first | (go_at_call 63; refine (dir_any bi (some mm) _ _ _ Bi).mono ?_; rintro e w' ⟨rfl, rfl⟩) | (go_at_call 30; refine (below_any t p _ (by omega) (by omega) TX).mono ?_; rw [← HB.out]; rintro e w3 ⟨rfl, k3⟩))
                go_ret
                have hf : Md.rename s o = (s, 1) := by rw [HRI.out, if_pos (by simpa using htp)]
                rw [hf]
                exact DoneOut.no h (KX.trans k3 (by simp))
              | false =>
                go_wp2_with (first | (go_at_call 63; refine (dir_any bi (some mm) _ _ _ Bi).mono ?_; rintro e w' ⟨rfl, rfl⟩) | (go_at_call 30; refine (below_any t p _ (by omega) (by omega) TX).mono ?_; rw [← HB.out]; rintro e w3 ⟨rfl, k3⟩; have f53 := (BFX.keep k3 (by simp)).cell 2; have z73 := (BT.keep k3 (by simp)).cell 2; simp only [List.getElem?_cons_zero, List.getElem?_cons_succ] at f53 z73; have hq := HQ.out _ (k3)))
                go_meet
                case rel => exact ⟨k3, by rw [HNC.out]; exact ⟨fun z => by simpa using z.2.2, fun z => hji (by injection z)⟩⟩
      case rest =>
        obtain ⟨KC, hnc⟩ := hcut
        rw [HNC.out] at hnc
        obtain ⟨hnc1, hnc2⟩ := hnc
        have hR2 : Md.rename s o = Md.renTail s i q r nm nm2 is2 := by rw [HRI.out, if_neg hnc1]; cases is2 <;> rfl
        have HR2 := Lib.hid hR2
        have BF := BFX.keep KC (by simp)
        have BT2 := BT.keep KC (by simp)
        have hMC := HMX.out.keep KC (by simp) (by simp)
        have KXC := KX.trans KC (by simp)
        have f52 := BF.cell 2
        have z72 := BT2.cell 2
        simp only [List.getElem?_cons_zero, List.getElem?_cons_succ] at f52 z72
        have HMC := Lib.hid hMC
        have hji : ∀ j, is2 = some j → j < s.length := fun j e => by
          have := HOJ.out
          rw [e] at this
          exact Md.goL_lt k (b ++ [nm2]) 0 j k.pos (Md.goL_snoc.2 ⟨r, HM.out.gb, this.symm⟩)
        have HJI := Lib.hid hji
        have HBIL := Lib.hid (And.intro hil few)
        clear hR2 hnc1 BFX BT BOX Bi KC hMC hji hil few
        have hq := neqPtr jv
        go_upto_if 56 with fail
        go_cut [] (fun wx => ∃ S, RenAt ms s S wc wx ∧ Md.rename s o = (Md.enter (Md.leave S q nm) r nm2 i, 0))
        case first =>
          rcases HJ with ⟨rfl, rfl⟩ | ⟨rfl, rfl⟩ | ⟨j, bj, rfl, hji, hbj, hbjl, _, rfl⟩
          · go_simp
            go_wp2
            go_meet
            case rel => exact ⟨s, ⟨HMC.out.mem, Keep.refl _ _, fun _ => rfl, fun _ => rfl, rfl⟩, HR2.out⟩
          · exact absurd rfl hnc2
          · have hjl := HJI.out j rfl
            obtain ⟨jd, hjd⟩ : ∃ nd, s[j]? = some nd := ⟨_, List.getElem?_eq_getElem hjl⟩
            obtain ⟨yj, hyj⟩ := HMC.out.mem.both' hjd
            have hyjb : yj.b = bj := by rw [hbjl]; unfold blkOf; rw [hyj]
            have Bj := (HMC.out.mem.at' j yj jd hyj hjd).blk
            rw [hyjb] at Bj
            have l2 := Bj.cell 2
            have g2 := Bj.free 2
            simp only [List.getElem?_cons_zero, List.getElem?_cons_succ] at l2
            have hfew := HBIL.out.2 j jd hjd
            obtain ⟨E, hE⟩ : ∃ E, E = Md.replaces s i j := ⟨_, rfl⟩
            have cR := replaces_any ms s wc HMC.out.mem i j HBIL.out.1 hjl
            rw [← HBI.out, ← hbjl, ← hE] at cR
            have HE := Lib.hid hE
            have HYJ := Lib.hid (And.intro hjd (And.intro hyj hyjb))
            clear hE hbjl hjl hjd hyj hyjb Bj
            by_cases hE0 : E = 0
            · subst hE0
              go_wp2_with (go_at_call 74; refine cR.mono ?_; rintro e w' ⟨rfl, rfl⟩)
              go_meet
              case rel =>
                obtain ⟨hjd, hyj, hyjb⟩ := HYJ.out
                have r4 := HMC.out.mem.linked hyj hjd (jd.links - 1)
                rw [hyjb] at r4
                have e4 : Md.more s j (-1) = Md.setNd s j fun nd' => { nd' with links := jd.links - 1 } := by
                  unfold Md.more
                  rw [Md.setNd_set hjd, Md.setNd_set hjd, Int.sub_eq_add_neg]
                rw [← e4] at r4
                refine ⟨Md.more s j (-1), ⟨r4, (Keep.refl _ _).setCell (Or.inl (mem_fps.2 ⟨j, yj, hyj, by rw [← hyjb]; simp [NdM.fp]⟩)) _, fun n => Md.isDir_more s j (-1) n, fun n => Md.entsOf_kept s j (fun nd => { nd with links := nd.links + -1 }) (fun _ => rfl) n, by unfold Md.more; rw [Md.setNd_length]⟩, ?_⟩
                rw [HR2.out]
                show (if j = i then (s, (0 : Int)) else if Md.replaces s i j ≠ 0 then (s, Md.replaces s i j) else (Md.enter (Md.leave (Md.more s j (-1)) q nm) r nm2 i, 0)) = _
                rw [if_neg hji, ← HE.out, if_neg (by simp)]
            · have hEb : (E == 0) = false := by rw [beq_eq_false_iff_ne]; exact hE0
              go_wp2_with (go_at_call 74; refine cR.mono ?_; rintro e w' ⟨rfl, rfl⟩)
              go_ret
              have hf : Md.rename s o = (s, E) := by
                rw [HR2.out]
                show (if j = i then (s, (0 : Int)) else if Md.replaces s i j ≠ 0 then (s, Md.replaces s i j) else (Md.enter (Md.leave (Md.more s j (-1)) q nm) r nm2 i, 0)) = _
                rw [if_neg hji, ← HE.out, if_pos hE0]
              rw [hf]
              exact DoneOut.no h KXC
        case rest =>
          rename_i wc0
          obtain ⟨S, RA, hRN⟩ := hcut
          have HRN := Lib.hid hRN
          have M := HM.out
          have hns1 : nm.size ≤ 1000 := split_sizes M.sf nm (by simp)
          have hns2 : nm2.size ≤ 1000 := split_sizes M.st nm2 (by simp)
          have h5n : b5 ∉ fps ms := fun e => by have := h.mem.lt b5 e; omega
          have h7n : b7 ∉ fps ms := fun e => by have := h.mem.lt b7 e; omega
          have BF3 := BF.keep RA.keep h5n
          have BT3 := BT2.keep RA.keep h7n
          have hqd : Md.isDir S q = true := by rw [RA.dirs]; exact M.dq
          have hrd : Md.isDir S r = true := by rw [RA.dirs]; exact M.dr
          obtain ⟨qd, hqn, hqdir⟩ := Md.isDir_lt hqd
          obtain ⟨rd0, hrn0, hrdir⟩ := Md.isDir_lt hrd
          obtain ⟨yq, hyq⟩ := RA.mem.both' hqn
          have hNq := RA.mem.at' q yq qd hyq hqn
          obtain ⟨mq, hmq, hnq⟩ : ∃ m, yq.m = some m ∧ NMap wc m (bents (blkOf ms) qd.ents) := by
            rcases hNq.ents with ⟨_, e, _⟩ | ⟨m, e1, _, e3⟩
            · rw [hqdir] at e; cases e
            · exact ⟨m, e1, e3⟩
          have hyqb : yq.b = bq := by rw [HBQ.out]; unfold blkOf; rw [hyq]
          have Bq := hNq.blk
          rw [hyqb, hmq] at Bq
          have KD : Keep [] wc wc.drew := (Keep.refl [] wc).drew
          have hnqd := hnq.keep KD (by simp)
          have d0 := (BF3.keep KD (by simp)).cell 0
          have d1 := (BF3.keep KD (by simp)).cell 1
          have e0 := (Bq.keep KD (by simp)).cell 0
          simp only [List.getElem?_cons_zero, List.getElem?_cons_succ] at d0 d1 e0
          have hmf : mq ∈ fps ms := mem_fps.2 ⟨q, yq, hyq, by simp [NdM.fp, hmq]⟩
          have hMD := RA.mem.keep KD (by simp)
          have h5m : b5 ≠ mq := fun e => h5n (by rw [e]; exact hmf)
          have h7m : b7 ≠ mq := fun e => h7n (by rw [e]; exact hmf)
          have hdl : ∀ rd, (Md.leave S q nm)[r]? = some rd → rd.ents.length < 1000000 := fun rd e => by
            have h1 := hsz r
            rw [← RA.ents, Md.entsOf_get hrn0] at h1
            obtain ⟨md, g1, g2⟩ := Md.get_setNd e
            rw [hrn0] at g1
            injection g1 with g1
            subst g1
            rw [g2]
            split
            · exact Nat.lt_of_le_of_lt (Md.del_le rd0.ents nm) h1
            · exact h1
          have AFT : ∀ w3, NMap w3 mq (Md.del (bents (blkOf ms) qd.ents) nm) → Keep [mq] wc.drew w3 → ∃ rd yr mr dvr, Mem w3 ms (Md.leave S q nm) ∧ (Md.leave S q nm)[r]? = some rd ∧ ms[r]? = some yr ∧ yr.m = some mr ∧ NMap w3.drew mr (bents (blkOf ms) rd.ents) ∧
              Blk w3.drew br [.map (some mr), dvr, .int .i64 rd.links] 82 ∧ Blk w3.drew b5 [.pointer (some (at0 bq)), .string nm, .pointer (some (at0 bi))] 88 ∧ Blk w3.drew b7 [.pointer (some (at0 br)), .string nm2, .pointer jv] 88 ∧ (bents (blkOf ms) rd.ents).length < 1000000 ∧ mr ∈ fps ms := fun w3 N k4 => by
            rw [← bents_del] at N
            have r3 := hMD.entered hyq hqn hmq k4 N
            have e1 : Md.leave S q nm = Md.setNd S q fun nd => { nd with ents := Md.del qd.ents nm } := by
              unfold Md.leave
              rw [Md.setNd_set hqn, Md.setNd_set hqn]
            rw [← e1] at r3
            have hrd3 : Md.isDir (Md.leave S q nm) r = true := by rw [Md.isDir_leave]; exact hrd
            obtain ⟨rd, hrn, hrd4⟩ := Md.isDir_lt hrd3
            obtain ⟨yr, hyr⟩ := r3.both' hrn
            have hNr := r3.at' r yr rd hyr hrn
            obtain ⟨mr, hmr, hnr⟩ : ∃ m, yr.m = some m ∧ NMap w3 m (bents (blkOf ms) rd.ents) := by
              rcases hNr.ents with ⟨_, e, _⟩ | ⟨m, e1, _, e3⟩
              · rw [hrd4] at e; cases e
              · exact ⟨m, e1, e3⟩
            have hyrb : yr.b = br := by rw [HBR.out]; unfold blkOf; rw [hyr]
            have Br := hNr.blk
            rw [hyrb, hmr] at Br
            have K3 : Keep [] w3 w3.drew := (Keep.refl [] w3).drew
            refine ⟨rd, yr, mr, yr.dv, r3, hrn, hyr, hmr, hnr.keep K3 (by simp), Br.keep K3 (by simp), ((BF3.keep KD (by simp)).keep k4 (by simpa using h5m)).keep K3 (by simp), ((BT3.keep KD (by simp)).keep k4 (by simpa using h7m)).keep K3 (by simp), ?_, mem_fps.2 ⟨r, yr, hyr, by simp [NdM.fp, hmr]⟩⟩
            unfold bents
            rw [List.length_map]
            exact hdl rd hrn
          have HA := Lib.hid AFT
          have hKS : Keep (fps ms) w wc.drew := ((KXC.mono (by simp)).trans RA.keep (fun x hx => Or.inl hx)).trans KD (by simp)
          have HMC2 := Lib.hid RA.len
          clear AFT hdl RA BF3 BT3 hqd hrd hqn hqdir hrn0 hrdir hyq hNq hnq hyqb Bq hMD BF BT2 M hmq hq hRN hsz h5n h7n h5m h7m KD hnc2 HJ HJV f52 z72
          go_upto_region 16 with fail
          (refine wp_region_quiet_tail 7 (by kernel_rfl) (by kernel_rfl) ?_; simp only [List.take_succ_cons, List.take_zero, List.drop_succ_cons, List.drop_zero]; (repeat (go_big_quiet_step (fail))); with_reducible refine wpQuiet_nil ?_)
          go_upto_region 17 with (at_delete; refine wpList_ndrop hnqd hns1 rfl _ _ rfl rfl rfl ?_; intro w3 N3 k4; obtain ⟨rd, yr, mr, dvr, r3, hrn, hyr, hmr, hnr, Br, B5, B7, hbl, hmrf⟩ := HA.out w3 N3 k4; have x0 := B7.cell 0; have x1 := B7.cell 1; have x2 := B5.cell 2; have y0 := Br.cell 0; simp only [List.getElem?_cons_zero, List.getElem?_cons_succ] at x0 x1 x2 y0; have HR3 := Lib.hid (And.intro r3 (And.intro hrn (And.intro hyr hmr))); clear r3 hrn hyr hmr Br B5 B7)
          go_simp
          (refine wp_region_quiet_tail 9 (by kernel_rfl) (by kernel_rfl) ?_; simp only [List.take_succ_cons, List.take_zero, List.drop_succ_cons, List.drop_zero]; (repeat (go_big_quiet_step (fail))); with_reducible refine wpQuiet_nil ?_)
          go_wp2_with (at_mapUpdate; refine wpList_nstore (b := bi) hnr hns2 hbl rfl _ _ _ rfl rfl rfl rfl ?_; intro w5 N5 k5)
          go_ret
          rw [HRN.out]
          obtain ⟨r3, hrn, hyr, hmr⟩ := HR3.out
          rw [HBI.out, ← bents_put] at N5
          have k35 : Keep [] w3 w3.drew := (Keep.refl [] w3).drew
          have r5 := (r3.keep k35 (by simp)).entered hyr hrn hmr k5 N5
          have e3 : Md.enter (Md.leave S q nm) r nm2 i = Md.setNd (Md.leave S q nm) r fun nd' => { nd' with ents := Md.put rd.ents nm2 i } := by
            unfold Md.enter
            rw [Md.setNd_set hrn, Md.setNd_set hrn]
          have K5 : Keep (fps ms) w w5 := (((hKS.trans k4 (fun x hx => by simp at hx; subst hx; exact Or.inl hmf)).trans k35 (by simp)).trans k5 (fun x hx => by simp at hx; subst hx; exact Or.inl hmrf))
          refine ⟨ms, rfl, ⟨h.blk.keep K5 h.out, by rw [e3]; exact r5, ?_, h.out⟩, K5, fun _ hk => Or.inl hk⟩
          show 0 < (Md.enter (Md.leave S q nm) r nm2 i).length
          unfold Md.enter Md.leave
          rw [Md.setNd_length, Md.setNd_length, HMC2.out]
          exact k.pos
    · have hvb : (ev == 0) = false := by rw [beq_eq_false_iff_ne]; exact hv
      have hf : Md.rename s o = (s, ev) := hF2 (by trivial) hv
      have HF2 := Lib.hid hf
      clear hv hf hF1 hF2 hparts
      go_wp2
      go_ret
      rw [HF2.out]
      exact DoneOut.no h KX
  · have heb : (er == 0) = false := by rw [beq_eq_false_iff_ne]; exact he
    have hf : Md.rename s o = (s, er) := hF1 he
    have HF2 := Lib.hid hf
    clear he hf hF1 hF2 hparts
    go_wp2
    go_ret
    rw [HF2.out]
    exact DoneOut.no h KW
end Go.Proofs.YtbmbjedpeepnfaaDoor
