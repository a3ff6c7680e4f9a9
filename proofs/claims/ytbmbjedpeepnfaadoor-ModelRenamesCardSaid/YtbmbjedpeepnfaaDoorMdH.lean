/-
  Package model: unlink. No condition but that the op was cut, that the nodes lie in memory, and that links are not too many.
-/
import Derived.Test.YtbmbjedpeepnfaaDoorMdG
namespace Go.Proofs.YtbmbjedpeepnfaaDoor
open Go.RowKit

/-- a node's links changed -/
theorem Mem.linked {w : World} {ms : List NdM} {s : Md.St} (h : Mem w ms s) {i : Nat} {x : NdM} {nd : Md.Nd} (hx : ms[i]? = some x) (hn : s[i]? = some nd) (v : Int) :
    Mem (w.setCell ⟨x.b, 2, none⟩ (.int .i64 v)) ms (Md.setNd s i fun nd => { nd with links := v }) := by
  have hN := h.at' i x nd hx hn
  have k : Keep [x.b] w (w.setCell ⟨x.b, 2, none⟩ (.int .i64 v)) := (Keep.refl _ _).setCell (Or.inl (by simp)) _
  have ha := hN.apart.1
  have r := h.set (F := [x.b]) (x' := x) (nd' := { nd with links := v }) hx k (fun j hj => by simp at hj; subst hj; exact Or.inl (by simp [NdM.fp])) rfl (fun j hj => Or.inl hj)
    ⟨hN.blk.set 2 _, hN.own.keep k (fun j hj e => by
        simp at e
        subst e
        exact ha (by simp [hj])), by
      rcases hN.ents with e | ⟨m, e1, e2, e3⟩
      · exact Or.inl e
      · exact Or.inr ⟨m, e1, e2, e3.keep k (fun e => by
          simp at e
          exact ha (by rw [← e, e1]; simp))⟩, hN.apart⟩
  rw [show ms.set i x = ms from set_same hx] at r
  rw [Md.setNd_set hn]
  exact r

/-- links that are not too many -/
def Few (s : Md.St) : Prop := ∀ (i : Nat) (nd : Md.Nd), s[i]? = some nd → -1000000 ≤ nd.links ∧ nd.links ≤ 1000000

theorem walkP_root {s : Md.St} : ∀ (l : List ByteArray) (p : Md.Pl), (p.parent = none → p.is' = some 0) → (Md.walkP s p l).2 = 0 → (Md.walkP s p l).1.parent = none → (Md.walkP s p l).1.is' = some 0
  | [], _, h, _, hp => h hp
  | x :: l, p, h, he, hp => by
    unfold Md.walkP at he hp ⊢
    cases e : p.is' with
    | none => rw [e] at he; exact absurd (show (2 : Int) = 0 from he) (by decide)
    | some i =>
      rw [e] at he hp
      simp only at he hp ⊢
      by_cases d : Md.isDir s i = true
      · rw [if_pos d] at he hp ⊢
        exact walkP_root l _ (fun h => by cases h) he hp
      · rw [if_neg d] at he
        exact absurd he (by decide)

theorem walk_root {s : Md.St} {path : ByteArray} (he : (Md.walk s path).2 = 0) (hp : (Md.walk s path).1.parent = none) : (Md.walk s path).1.is' = some 0 := by
  unfold Md.walk at he hp ⊢
  cases e : Nm.split path with
  | none => rw [e] at he; exact absurd (show (1 : Int) = 0 from he) (by decide)
  | some l =>
    rw [e] at he hp
    exact walkP_root l _ (fun _ => rfl) he hp

theorem there_walk {s : Md.St} {path : ByteArray} (h : (Md.there s path).2 = 0) : Md.there s path = Md.walk s path := by
  unfold Md.there at h ⊢
  by_cases c : (Md.walk s path).2 = 0 ∧ (Md.walk s path).1.is' = none
  · simp only [if_pos c] at h
    exact absurd h (by decide)
  · simp only [if_neg c]

/-- a file that a path leads to lies in a directory -/
theorem file_walk {s : Md.St} {path : ByteArray} (k : Ok s) (R : Option Nat × Int) (hR : R = Md.file s path) : R.2 = 0 → ∃ i q, R.1 = some i ∧ (Md.walk s path).1.parent = some q ∧ Md.isDir s i = false ∧ i ≠ q ∧ (Md.walk s path).2 = 0 ∧ i < s.length := by
  subst hR
  intro h0
  have hs := there_some s path
  have hw := @there_walk s path
  unfold Md.file at h0 ⊢
  cases e : (Md.there s path).1.is' with
  | none =>
    simp only [e] at h0
    exact absurd e (hs h0)
  | some i =>
    simp only [e] at h0 ⊢
    by_cases c : (Md.there s path).2 = 0 ∧ Md.isDir s i = true
    · rw [if_pos c] at h0
      exact absurd (show (5 : Int) = 0 from h0) (by decide)
    · rw [if_neg c] at h0 ⊢
      have ht : (Md.there s path).2 = 0 := h0
      have hd : Md.isDir s i = false := by
        cases hd : Md.isDir s i with
        | false => rfl
        | true => exact absurd ⟨ht, hd⟩ c
      have hw := hw ht
      rw [hw] at e ht
      have hok := Md.walk_ok k.leads k.pos path
      cases hp : (Md.walk s path).1.parent with
      | none =>
        have := walk_root ht hp
        rw [e] at this
        injection this with this
        rw [this, k.root] at hd
        cases hd
      | some q => exact ⟨i, q, rfl, rfl, hd, (fun h => by rw [h, (hok.par q hp).1] at hd; cases hd), ht, hok.lt i e⟩

set_option maxRecDepth 100000 in
set_option maxHeartbeats 8000000 in
theorem unlink_any (mb : Nat) (ms : List NdM) (s : Md.St) (o : Md.Op) (w : World) (h : IsM w mb ms s) (k : Ok s) (ok : OpOk o) (T : Tabs w) (few : Few s) :
    Calls Tryd.prog 48 #[.pointer (some ⟨mb, 0, none⟩), .agg (opL o).toArray] w fun e w' => DoneOut mb ms (Md.unlink s o) w w' e := by
  obtain ⟨w0, hw0⟩ : ∃ W, W = w.alloc (.cells #[.int .i64 o.kind, .string o.path, .string o.to', .int .i64 o.off, .int .i64 o.n, .string o.data] 36) := ⟨_, rfl⟩
  simp only [opL]
  go_enter Tryd.func48, Tryd.ntmps48
  go_wp2_with fail
  rw [← hw0]
  have K0 : Keep [] w w0 := by rw [hw0]; exact (Keep.refl _ _).alloc _
  obtain ⟨b3, hb3⟩ : ∃ b, b = w.heap.size := ⟨_, rfl⟩
  have BO : Blk w0 b3 [.int .i64 o.kind, .string o.path, .string o.to', .int .i64 o.off, .int .i64 o.n, .string o.data] 36 := by rw [hw0, hb3]; exact Blk.new' _ _ _
  rw [← hb3]
  clear hw0 hb3
  have hPt := Md.there_ok k.leads k.pos o.path
  have hPl := Md.walk_ok k.leads k.pos o.path
  refine (file_any mb ms s o.path w0 (h.keep K0 (by simp) (by simp)) k ok.p (T.keep K0 (by simp)) hPt.lt).mono ?_
  rintro e w1 ⟨rfl, k1⟩
  have K1 := K0.trans k1 (by simp)
  have BO1 := BO.keep k1 (by simp)
  obtain ⟨R, hR⟩ : ∃ R, R = Md.file s o.path := ⟨_, rfl⟩
  obtain ⟨V, hV⟩ : ∃ V, V = Md.walk s o.path := ⟨_, rfl⟩
  have hF : Md.unlink s o = match R.1, V.1.parent, decide (R.2 = 0) with | some i, some q, true => (Md.more (Md.leave s q V.1.name) i (-1), 0) | _, _, _ => (s, R.2) := by unfold Md.unlink; rw [← hR, ← hV]; rfl
  have hfacts := file_walk k R hR
  rw [← hV] at hPl hfacts
  rw [← hR]
  have HF := Lib.hid hF
  have HV := Lib.hid hV
  have o1 := BO1.cell 1
  simp only [List.getElem?_cons_zero, List.getElem?_cons_succ] at o1
  obtain ⟨is, er⟩ := R
  obtain ⟨iv, hiv⟩ : ∃ v, v = is.map (fun i => at0 (blkOf ms i)) := ⟨_, rfl⟩
  rw [← hiv]
  have HIV := Lib.hid hiv
  have hM1 := h.keep K1 (by simp) (by simp)
  have T1 := T.keep K1 (by simp)
  clear hF hR hV hiv k1 K0 BO
  by_cases he : er = 0
  · subst he
    obtain ⟨i, q, his, hpq, hid, hiq, hV0, hil⟩ := hfacts rfl
    simp only at his
    subst his
    obtain ⟨bi, hbi⟩ : ∃ b, b = blkOf ms i := ⟨_, rfl⟩
    obtain rfl : iv = some (at0 bi) := by rw [HIV.out, hbi]; rfl
    have HBI := Lib.hid hbi
    have hf : Md.unlink s o = (Md.more (Md.leave s q V.1.name) i (-1), 0) := by rw [HF.out]; show (match some i, V.1.parent, decide True with | some i, some q, true => _ | _, _, _ => _) = _; rw [hpq]; simp
    have HF2 := Lib.hid hf
    clear hf hbi hfacts
    go_wp2_with fail
    refine (walk_any mb ms s o.path w1 hM1 k ok.p T1).mono ?_
    rintro e w2 ⟨rfl, k2⟩
    have K2 := K1.trans k2 (by simp)
    rw [← HV.out]
    obtain ⟨⟨par, nm, is⟩, ev⟩ := V
    simp only at hpq hV0
    subst hpq hV0
    obtain ⟨bq, hbq⟩ : ∃ b, b = blkOf ms q := ⟨_, rfl⟩
    obtain ⟨jv, hjv⟩ : ∃ v, v = is.map (fun i => at0 (blkOf ms i)) := ⟨_, rfl⟩
    simp only [plL, Option.map_some]
    rw [← hbq, ← hjv]
    have HBQ := Lib.hid hbq
    have hM2 := hM1.keep k2 (by simp) (by simp)
    clear hjv hbq k2 o1 hM1 BO1
    go_upto_region 5 with fail
    obtain ⟨W, hW⟩ : ∃ W, W = w2.alloc (.cells #[.pointer (some (at0 bq)), .string nm, .pointer jv] 88) := ⟨_, rfl⟩
    obtain ⟨b6, hb6⟩ : ∃ b, b = w2.heap.size := ⟨_, rfl⟩
    have BP : Blk W b6 [.pointer (some (at0 bq)), .string nm, .pointer jv] 88 := by rw [hW, hb6]; exact Blk.new' w2 _ _
    have k3 : Keep [] w2 W := by rw [hW]; exact (Keep.refl _ _).alloc _
    have KW : Keep [] w W := K2.trans k3 (by simp)
    have hMW := hM2.keep k3 (by simp) (by simp)
    rw [← hW, ← hb6]
    clear hW hb6 K1 K2 k3 hM2
    obtain ⟨hqd, _, hns⟩ := hPl.par q rfl
    obtain ⟨nd, hnd⟩ : ∃ nd, s[i]? = some nd := ⟨_, List.getElem?_eq_getElem hil⟩
    obtain ⟨y, hy⟩ := hMW.mem.both' hnd
    have hyb : y.b = bi := by rw [HBI.out]; unfold blkOf; rw [hy]
    obtain ⟨qd, hqn, hqdir⟩ := Md.isDir_lt hqd
    obtain ⟨yq, hyq⟩ := hMW.mem.both' hqn
    have hNq := hMW.mem.at' q yq qd hyq hqn
    obtain ⟨mq, hmq, hnq⟩ : ∃ m, yq.m = some m ∧ NMap W m (bents (blkOf ms) qd.ents) := by
      rcases hNq.ents with ⟨_, e, _⟩ | ⟨m, e1, _, e3⟩
      · rw [hqdir] at e; cases e
      · exact ⟨m, e1, e3⟩
    have hyqb : yq.b = bq := by rw [HBQ.out]; unfold blkOf; rw [hyq]
    have Bq := hNq.blk
    rw [hyqb, hmq] at Bq
    have KD : Keep [] W W.drew := (Keep.refl [] W).drew
    have hnqd := hnq.keep KD (by simp)
    have d0 := (BP.keep KD (by simp)).cell 0
    have d1 := (BP.keep KD (by simp)).cell 1
    have e0 := (Bq.keep KD (by simp)).cell 0
    simp only [List.getElem?_cons_zero, List.getElem?_cons_succ] at d0 d1 e0
    have hmf : mq ∈ fps ms := mem_fps.2 ⟨q, yq, hyq, by simp [NdM.fp, hmq]⟩
    have hbf : bi ∈ fps ms := mem_fps.2 ⟨i, y, hy, by rw [← hyb]; simp [NdM.fp]⟩
    have hMD := hMW.keep KD (by simp) (by simp)
    have AFT : ∀ w3, NMap w3 mq (Md.del (bents (blkOf ms) qd.ents) nm) → Keep [mq] W.drew w3 → Mem w3 ms (Md.leave s q nm) ∧ (Md.leave s q nm)[i]? = some nd ∧ Blk w3 bi [.map y.m, y.dv, .int .i64 nd.links] 82 := fun w3 N k4 => by
      rw [← bents_del] at N
      have r := hMD.mem.entered hyq hqn hmq k4 N
      have e1 : Md.leave s q nm = Md.setNd s q fun nd => { nd with ents := Md.del qd.ents nm } := by
        unfold Md.leave
        rw [Md.setNd_set hqn, Md.setNd_set hqn]
      have e2 : (Md.leave s q nm)[i]? = some nd := by
        rw [e1, Md.setNd_set hqn, List.getElem?_set_ne (fun h => hiq h.symm)]; exact hnd
      rw [← e1] at r
      refine ⟨r, e2, ?_⟩
      rw [← hyb]
      exact (r.at' i y nd hy e2).blk
    have hl := few i nd hnd
    have HA := Lib.hid AFT
    have HY := Lib.hid (And.intro hy hyb)
    have hIM := Lib.hid hMD
    clear AFT hPl hPt hqd hnd hy hyb hqn hyq hNq hnq hyqb hmq hMW hqdir Bq hMD hid hil
    (refine wp_region_quiet_tail 7 (by kernel_rfl) (by kernel_rfl) ?_; simp only [List.take_succ_cons, List.take_zero, List.drop_succ_cons, List.drop_zero]; (repeat (go_big_quiet_step (fail))); with_reducible refine wpQuiet_nil ?_)
    go_wp2_with (at_delete; refine wpList_ndrop hnqd hns rfl _ _ rfl rfl rfl ?_; intro w3 N3 k4; obtain ⟨r3, n3, B3⟩ := HA.out w3 N3 k4; have l2 := B3.cell 2; have g2 := B3.free 2; simp only [List.getElem?_cons_zero, List.getElem?_cons_succ] at l2)
    go_ret
    rw [HF2.out]
    obtain ⟨hy, hyb⟩ := HY.out
    have hMD := hIM.out
    have r4 := r3.linked hy n3 (nd.links - 1)
    rw [hyb] at r4
    have e4 : Md.more (Md.leave s q nm) i (-1) = Md.setNd (Md.leave s q nm) i fun nd' => { nd' with links := nd.links - 1 } := by
      unfold Md.more
      rw [Md.setNd_set n3, Md.setNd_set n3, Int.sub_eq_add_neg]
    have K5 : Keep [mq, bi] W.drew (w3.setCell ⟨bi, 2, none⟩ (.int .i64 (nd.links - 1))) := (k4.mono (G := [mq, bi]) (by simp)).setCell (Or.inl (by simp)) _
    have hsub : ∀ x ∈ [mq, bi], x ∈ fps ms := fun x hx => by
      simp at hx
      rcases hx with rfl | rfl
      · exact hmf
      · exact hbf
    refine ⟨ms, rfl, ⟨hMD.blk.keep K5 (fun e => hMD.out (hsub _ e)), by show Mem _ _ (Md.more (Md.leave s q nm) i (-1)); rw [e4]; exact r4, ?_, hMD.out⟩, ?_, fun _ hk => Or.inl hk⟩
    · show 0 < (Md.more (Md.leave s q nm) i (-1)).length
      unfold Md.more Md.leave Md.setNd
      simp
      exact k.pos
    · exact (((KW.trans KD (by simp)).mono (G := [mq, bi]) (by simp)).trans K5 (fun x hx => Or.inl hx)).mono (fun x hx => Or.inl (hsub x hx))
  · have heb : (er == 0) = false := by rw [beq_eq_false_iff_ne]; exact he
    have hf : Md.unlink s o = (s, er) := by
      rw [HF.out]
      have hd : decide (er = 0) = false := decide_eq_false he
      cases is with
      | none => rfl
      | some i => cases V.1.parent with
        | none => rfl
        | some q => simp only [hd]
    have HF2 := Lib.hid hf
    clear he hf
    go_wp2
    go_ret
    rw [HF2.out]
    exact DoneOut.no h K1
end Go.Proofs.YtbmbjedpeepnfaaDoor
