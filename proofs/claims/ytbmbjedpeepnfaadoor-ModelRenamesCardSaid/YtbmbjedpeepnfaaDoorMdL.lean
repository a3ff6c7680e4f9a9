/-
  Package model: link. No condition but that the op was cut, that the nodes lie in memory, and that links and entries are not too many.
-/
import Derived.Test.YtbmbjedpeepnfaaDoorMdJ
namespace Go.Proofs.YtbmbjedpeepnfaaDoor
open Go.RowKit Go.Maps

/-- link, behind the file -/
def Md.linkTo (s : Md.St) (i : Nat) (V : Md.Pl × Int) : Md.St × Int :=
  if V.2 = 0 then match V.1.is', V.1.parent with
    | some _, _ => (s, 3)
    | none, some q => if Md.linksOf s i = 65535 then (s, 8) else (Md.enter (Md.more s i 1) q V.1.name i, 0)
    | none, none => (s, 3)
  else (s, V.2)

set_option maxRecDepth 100000 in
set_option maxHeartbeats 8000000 in
theorem link_any (mb : Nat) (ms : List NdM) (s : Md.St) (o : Md.Op) (w : World) (h : IsM w mb ms s) (k : Ok s) (ok : OpOk o) (T : Tabs w) (few : Few s) (hsz : ∀ q, (Md.entsOf s q).length < 1000000) :
    Calls Tryd.prog 50 #[.pointer (some ⟨mb, 0, none⟩), .agg (opL o).toArray] w fun e w' => DoneOut mb ms (Md.link s o) w w' e := by
  obtain ⟨w0, hw0⟩ : ∃ W, W = w.alloc (.cells #[.int .i64 o.kind, .string o.path, .string o.to', .int .i64 o.off, .int .i64 o.n, .string o.data] 36) := ⟨_, rfl⟩
  simp only [opL]
  go_enter Tryd.func50, Tryd.ntmps50
  go_wp2_with fail
  rw [← hw0]
  have K0 : Keep [] w w0 := by rw [hw0]; exact (Keep.refl _ _).alloc _
  obtain ⟨b3, hb3⟩ : ∃ b, b = w.heap.size := ⟨_, rfl⟩
  have BO : Blk w0 b3 [.int .i64 o.kind, .string o.path, .string o.to', .int .i64 o.off, .int .i64 o.n, .string o.data] 36 := by rw [hw0, hb3]; exact Blk.new' _ _ _
  rw [← hb3]
  clear hw0 hb3
  have hPt := Md.there_ok k.leads k.pos o.path
  have hPl := Md.walk_ok k.leads k.pos o.to'
  refine (file_any mb ms s o.path w0 (h.keep K0 (by simp) (by simp)) k ok.p (T.keep K0 (by simp)) hPt.lt).mono ?_
  rintro e w1 ⟨rfl, k1⟩
  have K1 := K0.trans k1 (by simp)
  have BO1 := BO.keep k1 (by simp)
  obtain ⟨R, hR⟩ : ∃ R, R = Md.file s o.path := ⟨_, rfl⟩
  obtain ⟨V, hV⟩ : ∃ V, V = Md.walk s o.to' := ⟨_, rfl⟩
  have hF : Md.link s o = match R.1, decide (R.2 = 0) with | some i, true => Md.linkTo s i V | _, _ => (s, R.2) := by unfold Md.link; rw [← hR, ← hV]; rfl
  have hfacts := file_walk k R hR
  have hroot : V.2 = 0 → V.1.parent = none → V.1.is' = some 0 := by rw [hV]; exact walk_root
  rw [← hV] at hPl
  rw [← hR]
  have HF := Lib.hid hF
  have HV := Lib.hid hV
  have o1 := BO1.cell 2
  simp only [List.getElem?_cons_zero, List.getElem?_cons_succ] at o1
  obtain ⟨is, er⟩ := R
  obtain ⟨iv, hiv⟩ : ∃ v, v = is.map (fun i => at0 (blkOf ms i)) := ⟨_, rfl⟩
  rw [← hiv]
  have HIV := Lib.hid hiv
  have hM1 := h.keep K1 (by simp) (by simp)
  have T1 := T.keep K1 (by simp)
  clear hF hR hV hiv k1 K0 BO
  by_cases he : er = 0
  · subst he
    obtain ⟨i, q0, his, _, hid, _, _, hil⟩ := hfacts rfl
    simp only at his
    subst his
    obtain ⟨bi, hbi⟩ : ∃ b, b = blkOf ms i := ⟨_, rfl⟩
    obtain rfl : iv = some (at0 bi) := by rw [HIV.out, hbi]; rfl
    have HBI := Lib.hid hbi
    clear hbi hfacts
    go_wp2_with fail
    refine (walk_any mb ms s o.to' w1 hM1 k ok.t T1).mono ?_
    rintro e w2 ⟨rfl, k2⟩
    have K2 := K1.trans k2 (by simp)
    rw [← HV.out]
    obtain ⟨⟨par, nm, is⟩, ev⟩ := V
    obtain ⟨pv, hpv⟩ : ∃ v, v = par.map (fun i => at0 (blkOf ms i)) := ⟨_, rfl⟩
    obtain ⟨jv, hjv⟩ : ∃ v, v = is.map (fun i => at0 (blkOf ms i)) := ⟨_, rfl⟩
    simp only [plL]
    rw [← hpv, ← hjv]
    have HPV := Lib.hid hpv
    have HJV := Lib.hid hjv
    have hM2 := hM1.keep k2 (by simp) (by simp)
    clear hjv hpv k2 o1 hM1 BO1
    go_upto_region 5 with fail
    obtain ⟨W, hW⟩ : ∃ W, W = w2.alloc (.cells #[.pointer pv, .string nm, .pointer jv] 88) := ⟨_, rfl⟩
    obtain ⟨b6, hb6⟩ : ∃ b, b = w2.heap.size := ⟨_, rfl⟩
    have BP : Blk W b6 [.pointer pv, .string nm, .pointer jv] 88 := by rw [hW, hb6]; exact Blk.new' w2 _ _
    have k3 : Keep [] w2 W := by rw [hW]; exact (Keep.refl _ _).alloc _
    have KW : Keep [] w W := K2.trans k3 (by simp)
    have hMW := hM2.keep k3 (by simp) (by simp)
    have h6w : w.heap.size ≤ b6 := by rw [hb6]; exact K2.size
    rw [← hW, ← hb6]
    clear hW hb6 K1 K2 k3 hM2
    have z2 := BP.cell 2
    simp only [List.getElem?_cons_zero, List.getElem?_cons_succ] at z2
    have hF1 : Md.link s o = Md.linkTo s i (⟨par, nm, is⟩, ev) := by rw [HF.out]; rfl
    by_cases hv : ev = 0
    · subst hv
      cases is with
      | some j =>
        obtain ⟨aj, haj⟩ : ∃ a, a = at0 (blkOf ms j) := ⟨_, rfl⟩
        obtain rfl : jv = some aj := by rw [HJV.out, haj]; rfl
        have hf : Md.link s o = (s, 3) := by rw [hF1]; rfl
        have HF2 := Lib.hid hf
        clear hf haj hF1
        go_wp2
        go_ret
        rw [HF2.out]
        exact DoneOut.no h KW
      | none =>
        obtain rfl : jv = none := HJV.out
        cases par with
        | none => exact absurd (hroot rfl rfl) (by simp)
        | some q =>
          obtain ⟨hqd, _, hns⟩ := hPl.par q rfl
          obtain ⟨nd, hnd⟩ : ∃ nd, s[i]? = some nd := ⟨_, List.getElem?_eq_getElem hil⟩
          obtain ⟨y, hy⟩ := hMW.mem.both' hnd
          have hyb : y.b = bi := by rw [HBI.out]; unfold blkOf; rw [hy]
          have Bi := (hMW.mem.at' i y nd hy hnd).blk
          rw [hyb] at Bi
          have l2 := Bi.cell 2
          have g2 := Bi.free 2
          simp only [List.getElem?_cons_zero, List.getElem?_cons_succ] at l2
          have hli : Md.linksOf s i = nd.links := by unfold Md.linksOf; rw [hnd]
          have hl := few i nd hnd
          by_cases h65 : nd.links = 65535
          · have hf : Md.link s o = (s, 8) := by rw [hF1]; show (if Md.linksOf s i = 65535 then _ else _) = _; rw [hli, if_pos h65]
            have HF2 := Lib.hid hf
            rw [h65] at l2
            clear hf hF1 hli hnd hy hyb h65 hl
            go_wp2
            go_ret
            rw [HF2.out]
            exact DoneOut.no h KW
          · have h65b : (nd.links == 65535) = false := by rw [beq_eq_false_iff_ne]; exact h65
            have hf : Md.link s o = (Md.enter (Md.more s i 1) q nm i, 0) := by rw [hF1]; show (if Md.linksOf s i = 65535 then _ else _) = _; rw [hli, if_neg h65]
            have HF2 := Lib.hid hf
            clear hf hF1 hli h65
            obtain ⟨qd, hqn, hqdir⟩ := Md.isDir_lt hqd
            have hqi : i ≠ q := fun e => by rw [e, hqd] at hid; cases hid
            obtain ⟨bq, hbq⟩ : ∃ b, b = blkOf ms q := ⟨_, rfl⟩
            obtain rfl : pv = some (at0 bq) := by rw [HPV.out, hbq]; rfl
            have HBQ := Lib.hid hbq
            clear hbq
            go_upto_region 12 with fail
            obtain ⟨W2, hW2⟩ : ∃ W', W' = W.setCell ⟨bi, 2, none⟩ (.int .i64 (nd.links + 1)) := ⟨_, rfl⟩
            have r1 := hMW.mem.linked hy hnd (nd.links + 1)
            rw [hyb, ← hW2] at r1
            have hbf : bi ∈ fps ms := mem_fps.2 ⟨i, y, hy, by rw [← hyb]; simp [NdM.fp]⟩
            have k12 : Keep [bi] W W2 := by rw [hW2]; exact (Keep.refl _ _).setCell (Or.inl (by simp)) _
            have hb6i : b6 ≠ bi := fun e => by have := h.mem.lt bi hbf; omega
            have BP2 := BP.keep k12 (by simp; exact hb6i)
            rw [← hW2]
            have e1 : Md.more s i 1 = Md.setNd s i fun nd' => { nd' with links := nd.links + 1 } := by
              unfold Md.more
              rw [Md.setNd_set hnd, Md.setNd_set hnd]
            rw [← e1] at r1
            have hq2 : (Md.more s i 1)[q]? = some qd := by rw [e1, Md.setNd_set hnd, List.getElem?_set_ne hqi]; exact hqn
            obtain ⟨yq, hyq⟩ := hMW.mem.both' hqn
            have hNq := r1.at' q yq qd hyq hq2
            obtain ⟨mq, hmq, hnq⟩ : ∃ m, yq.m = some m ∧ NMap W2 m (bents (blkOf ms) qd.ents) := by
              rcases hNq.ents with ⟨_, e, _⟩ | ⟨m, e1, _, e3⟩
              · rw [hqdir] at e; cases e
              · exact ⟨m, e1, e3⟩
            have hyqb : yq.b = bq := by rw [HBQ.out]; unfold blkOf; rw [hyq]
            have Bq := hNq.blk
            rw [hyqb, hmq] at Bq
            have KD : Keep [] W2 W2.drew := (Keep.refl [] W2).drew
            have hnqd := hnq.keep KD (by simp)
            have d0 := (BP2.keep KD (by simp)).cell 0
            have d1 := (BP2.keep KD (by simp)).cell 1
            have e0 := (Bq.keep KD (by simp)).cell 0
            simp only [List.getElem?_cons_zero, List.getElem?_cons_succ] at d0 d1 e0
            have hmf : mq ∈ fps ms := mem_fps.2 ⟨q, yq, hyq, by simp [NdM.fp, hmq]⟩
            have hbl : (bents (blkOf ms) qd.ents).length < 1000000 := by
              have := hsz q
              unfold Md.entsOf at this
              rw [hqn] at this
              unfold bents; rw [List.length_map]; exact this
            have hrD := r1.keep KD (by simp)
            have HX := Lib.hid (And.intro hyq (And.intro hq2 (And.intro hmq hrD)))
            have HMW := Lib.hid hMW
            have HK12 := Lib.hid k12
            clear hPl hPt hqd hnd hy hyb hqn hyq hNq hnq hyqb hmq hMW hqdir Bq hid hil hrD r1 hW2 e1 hq2 BP BP2 Bi l2 g2 z2 hqi k12 hb6i hroot
            (refine wp_region_quiet_tail 8 (by kernel_rfl) (by kernel_rfl) ?_; simp only [List.take_succ_cons, List.take_zero, List.drop_succ_cons, List.drop_zero]; (repeat (go_big_quiet_step (fail))); with_reducible refine wpQuiet_nil ?_)
            go_wp2_with (at_mapUpdate; refine wpList_nstore (b := bi) hnqd hns hbl rfl _ _ _ rfl rfl rfl rfl ?_; intro w5 N5 k5)
            go_ret
            rw [HF2.out]
            obtain ⟨hyq, hq2, hmq, hrD⟩ := HX.out
            rw [HBI.out, ← bents_put] at N5
            have r := hrD.entered hyq hq2 hmq k5 N5
            have e3 : Md.enter (Md.more s i 1) q nm i = Md.setNd (Md.more s i 1) q fun nd' => { nd' with ents := Md.put qd.ents nm i } := by
              unfold Md.enter
              rw [Md.setNd_set hq2, Md.setNd_set hq2]
            have K5 : Keep [bi, mq] W w5 := ((HK12.out.trans KD (by simp)).mono (G := [bi, mq]) (by simp)).trans k5 (fun x hx => by simp at hx; subst hx; exact Or.inl (by simp))
            have hsub : ∀ x ∈ [bi, mq], x ∈ fps ms := fun x hx => by
              simp at hx
              rcases hx with rfl | rfl
              · exact hbf
              · exact hmf
            refine ⟨ms, rfl, ⟨HMW.out.blk.keep K5 (fun e => HMW.out.out (hsub _ e)), by rw [e3]; exact r, ?_, HMW.out.out⟩, ?_, fun _ hk => Or.inl hk⟩
            · show 0 < (Md.enter (Md.more s i 1) q nm i).length
              unfold Md.enter Md.more Md.setNd
              simp
              exact k.pos
            · exact ((KW.mono (G := [bi, mq]) (by simp)).trans K5 (fun x hx => Or.inl hx)).mono (fun x hx => Or.inl (hsub x hx))
    · have hvb : (ev == 0) = false := by rw [beq_eq_false_iff_ne]; exact hv
      have hf : Md.link s o = (s, ev) := by rw [hF1]; unfold Md.linkTo; rw [if_neg hv]
      have HF2 := Lib.hid hf
      clear hv hf hF1
      go_wp2
      go_ret
      rw [HF2.out]
      exact DoneOut.no h KW
  · have heb : (er == 0) = false := by rw [beq_eq_false_iff_ne]; exact he
    have hf : Md.link s o = (s, er) := by
      rw [HF.out]
      have hd : decide (er = 0) = false := decide_eq_false he
      cases is with
      | none => rfl
      | some i => simp only [hd]
    have HF2 := Lib.hid hf
    clear he hf
    go_wp2
    go_ret
    rw [HF2.out]
    exact DoneOut.no h K1
end Go.Proofs.YtbmbjedpeepnfaaDoor
