/-
  Package model: write. No condition but that the op was cut, that its numbers are right, and that the nodes lie in memory.
-/
import Derived.Test.YtbmbjedpeepnfaaDoorMdQ
namespace Go.Proofs.YtbmbjedpeepnfaaDoor
open Go.RowKit

set_option maxRecDepth 100000 in
set_option maxHeartbeats 8000000 in
theorem write_any (mb : Nat) (ms : List NdM) (s : Md.St) (o : Md.Op) (w : World) (h : IsM w mb ms s) (k : Ok s) (ok : OpOk o) (T : Tabs w) (c : Nat) (bd : Md.Bd c s) (h0 : 0 ≤ o.off) (h1 : o.off + o.data.size ≤ 1048576) :
    Calls Tryd.prog 45 #[.pointer (some ⟨mb, 0, none⟩), .agg (opL o).toArray] w fun e w' => DoneOut mb ms (Md.write s o) w w' e := by
  obtain ⟨f, hN⟩ : ∃ f, f = o.off.toNat := ⟨_, rfl⟩
  have hNI : o.off = (f : Int) := by omega
  have hN1 : f + o.data.size ≤ 1048576 := by omega
  obtain ⟨w0, hw0⟩ : ∃ W, W = w.alloc (.cells #[.int .i64 o.kind, .string o.path, .string o.to', .int .i64 o.off, .int .i64 o.n, .string o.data] 36) := ⟨_, rfl⟩
  have HNI := Lib.hid hNI
  simp only [opL]
  clear hNI h0
  go_enter Tryd.func45, Tryd.ntmps45
  go_wp2_with fail
  rw [← hw0]
  have K0 : Keep [] w w0 := by rw [hw0]; exact (Keep.refl _ _).alloc _
  obtain ⟨b3, hb3⟩ : ∃ b, b = w.heap.size := ⟨_, rfl⟩
  have BO : Blk w0 b3 [.int .i64 o.kind, .string o.path, .string o.to', .int .i64 o.off, .int .i64 o.n, .string o.data] 36 := by rw [hw0, hb3]; exact Blk.new' _ _ _
  have h3w : w.heap.size ≤ b3 := by omega
  rw [← hb3]
  clear hw0 hb3
  refine (file_any mb ms s o.path w0 (h.keep K0 (by simp) (by simp)) k ok.p (T.keep K0 (by simp)) (Md.there_ok k.leads k.pos o.path).lt).mono ?_
  rintro e w1 ⟨rfl, k1⟩
  have K1 := K0.trans k1 (by simp)
  have BO1 := BO.keep k1 (by simp)
  obtain ⟨R, hR⟩ : ∃ R, R = Md.file s o.path := ⟨_, rfl⟩
  have hF : Md.write s o = match R.1, decide (R.2 = 0) with | some i, true => if o.data.size = 0 then (s, 0) else (Md.setNd s i fun nd => { nd with data := Md.over (Md.grown nd.data (o.off.toNat + o.data.size)) o.off.toNat o.data.data.toList }, 0) | _, _ => (s, R.2) := by unfold Md.write; rw [← hR]; rfl
  have hfacts := file_walk k R hR
  rw [← hR]
  have HF := Lib.hid hF
  obtain ⟨is, er⟩ := R
  obtain ⟨iv, hiv⟩ : ∃ v, v = is.map (fun i => at0 (blkOf ms i)) := ⟨_, rfl⟩
  rw [← hiv]
  have HIV := Lib.hid hiv
  have hM1 := h.keep K1 (by simp) (by simp)
  clear hF hR hiv k1 K0 BO
  by_cases he : er = 0
  · subst he
    obtain ⟨i, q0, his, _, hid, _, _, hil⟩ := hfacts (by trivial)
    simp only at his
    subst his
    obtain ⟨bi, hbi⟩ : ∃ b, b = blkOf ms i := ⟨_, rfl⟩
    obtain rfl : iv = some (at0 bi) := by rw [HIV.out, hbi]; rfl
    obtain ⟨t, ht⟩ : ∃ t, t = o.data := ⟨_, rfl⟩
    rw [← ht] at BO1 hN1
    have hf1 : Md.write s o = if t.size = 0 then (s, 0) else (Md.setNd s i fun nd => { nd with data := Md.over (Md.grown nd.data (f + t.size)) f t.data.toList }, 0) := by rw [HF.out, ht, hN]; simp
    have o3 := BO1.cell 3
    have o5 := BO1.cell 5
    simp only [List.getElem?_cons_zero, List.getElem?_cons_succ] at o3 o5
    rw [HNI.out] at o3
    by_cases ht0 : t.size = 0
    · have hte : t = ⟨#[]⟩ := by
        have : t.data.toList = [] := List.eq_nil_of_length_eq_zero ht0
        have h2 : t.data = #[] := by rw [← Array.toArray_toList (xs := t.data), this]
        cases t; exact congrArg _ h2
      have hf : Md.write s o = (s, 0) := by rw [hf1, if_pos ht0]
      have HF2 := Lib.hid hf
      clear hf hf1 ht hfacts ht0 HF hN hbi
      subst hte
      go_wp2
      go_ret
      rw [HF2.out]
      exact DoneOut.no h K1
    · obtain ⟨nd, hnd⟩ : ∃ nd, s[i]? = some nd := ⟨_, List.getElem?_eq_getElem hil⟩
      obtain ⟨y, hy⟩ := hM1.mem.both' hnd
      have hNd := hM1.mem.at' i y nd hy hnd
      have hyb : y.b = bi := by rw [hbi]; unfold blkOf; rw [hy]
      have Bi := hNd.blk
      rw [hyb] at Bi
      have hb := (bd i nd hnd).data
      have hbr : bi ∉ rowOf y.dv := fun e => hNd.apart.1 (by rw [hyb]; simp [e])
      obtain ⟨N, hNN⟩ : ∃ N, N = f + t.size := ⟨_, rfl⟩
      have hNI2 : (f : Int) + (t.size : Int) = (N : Int) := by omega
      have hNb : N ≤ 1048576 := by omega
      have hf : Md.write s o = (Md.setNd s i fun nd' => { nd' with data := Md.over (Md.grown nd.data N) f t.data.toList }, 0) := by
        rw [hf1, if_neg ht0, hNN, Md.setNd_set hnd, Md.setNd_set hnd]
      have HF2 := Lib.hid hf
      have htb : t.toList.isEmpty = false := by
        rw [Lib.toList_data]
        cases e : t.data.toList with
        | nil => exact absurd (show t.data.toList.length = 0 by rw [e]; rfl) ht0
        | cons _ _ => rfl
      have cG := grown_any bi y.m y.dv nd.links nd.data N w1 Bi hNd.own hbr hb hNb
      have HY := Lib.hid (And.intro hnd (And.intro hy hyb))
      have h3n : ∀ j, j = bi ∨ j ∈ rowOf y.dv → b3 ≠ j := fun j e z => by
        have : j ∈ fps ms := mem_fps.2 ⟨i, y, hy, by rcases e with e | e <;> simp [NdM.fp, hyb, e]⟩
        have := h.mem.lt j this
        omega
      have hbil := Bi.lt
      have hgl := Md.grown_length nd.data N
      have htp : 0 < t.size := by omega
      have HNN := Lib.hid hNN
      clear hf hf1 ht hbi hfacts hnd hy hyb hNd HF hN ht0 hNN
      go_upto_region 5 with (go_at_call 71; refine cG.mono ?_; rintro e w2 ⟨rfl, dv', G⟩)
      have BO2 := BO1.keep G.keep (fun e => by
        rcases List.mem_cons.1 e with e | e
        · exact h3n _ (Or.inl e) rfl
        · exact h3n _ (Or.inr e) rfl)
      have KD : Keep [] w2 w2.drew := (Keep.refl [] w2).drew
      obtain ⟨L, hL⟩ : ∃ L, L = (Md.grown nd.data N).length := ⟨_, rfl⟩
      obtain ⟨g, cp, w3, hdv, hcf, hfc, hLc, hrun, D3, k3⟩ := (G.row.keep KD (by simp)).over f t htp (by rw [hgl, HNN.out]; omega) (by rw [hgl]; unfold maxLen; omega) 3
      rw [← hL] at hdv hrun hLc
      have hfL : f + t.size ≤ L := by rw [hL, hgl, ← HNN.out]; omega
      have Gb := G.blk
      rw [hdv] at Gb
      have e1 := (Gb.keep KD (by simp)).cell 1
      have o3' := (BO2.keep KD (by simp)).cell 3
      have o5' := (BO2.keep KD (by simp)).cell 5
      simp only [List.getElem?_cons_zero, List.getElem?_cons_succ] at e1 o3' o5'
      rw [HNI.out] at o3'
      have HG := Lib.hid G
      have HDV := Lib.hid hdv
      have HD3 := Lib.hid D3
      have hI1 : (f : Int) ≤ (L : Int) := by omega
      have hI2 : (f : Int) ≤ (cp : Int) := by omega
      clear G Gb hdv hL o3 o5 cG hgl D3
      (refine wp_region_quiet_tail 9 (by kernel_rfl) (by kernel_rfl) ?_; simp only [List.take_succ_cons, List.take_zero, List.drop_succ_cons, List.drop_zero]; (repeat (go_big_quiet_step (fail))); with_reducible refine wpQuiet_nil ?_)
      go_wp2_with (at_builtin; refine Lib.wpList_copy_run _ rfl _ _ 48 9 rfl _ _ rfl rfl hrun ?_)
      go_ret
      rw [HF2.out]
      obtain ⟨hnd, hy, hyb⟩ := HY.out
      have G := HG.out
      have hdv := HDV.out
      have hgr : g ∈ rowOf dv' := by rw [hdv]; simp [rowOf, Value.ownBlock]
      have KF : Keep (bi :: rowOf y.dv) w1 w3 := (G.keep.trans KD (by simp)).trans k3 (fun j hj => by
        simp at hj
        subst hj
        rcases G.rows j hgr with e | e
        · exact Or.inl (by simp [e])
        · exact Or.inr e)
      have hgb : bi ≠ g := fun e => by
        rcases G.rows g hgr with z | z
        · exact hbr (by rw [e]; exact z)
        · omega
      refine data_out hM1 K1 hy hnd KF (fun j hj => ?_) ?_ HD3.out G.rows
      · rcases List.mem_cons.1 hj with e | e
        · exact Or.inl (by rw [e, hyb])
        · exact Or.inr (Or.inl e)
      · rw [hyb]
        exact (G.blk.keep KD (by simp)).keep k3 (by simpa using hgb)
  · have heb : (er == 0) = false := by rw [beq_eq_false_iff_ne]; exact he
    have hf : Md.write s o = (s, er) := by
      rw [HF.out]
      have hd : decide (er = 0) = false := decide_eq_false he
      cases is with
      | none => rfl
      | some i => simp only [hd]
    have HF2 := Lib.hid hf
    clear hf
    go_wp2
    go_ret
    rw [HF2.out]
    exact DoneOut.no h K1
end Go.Proofs.YtbmbjedpeepnfaaDoor
