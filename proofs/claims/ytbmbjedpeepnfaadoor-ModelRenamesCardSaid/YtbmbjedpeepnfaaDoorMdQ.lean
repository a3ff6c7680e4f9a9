/-
  Package model: truncate and write. No condition but that the op was cut, that its numbers are right, and that the nodes lie in memory.
-/
import Derived.Test.YtbmbjedpeepnfaaDoorMdP
namespace Go.Proofs.YtbmbjedpeepnfaaDoor
open Go.RowKit

theorem fps_set {ms : List NdM} {i : Nat} {x' : NdM} {j : Nat} (h : j ∈ fps (ms.set i x')) : j ∈ fps ms ∨ j ∈ x'.fp := by
  obtain ⟨k, y, hy, hj⟩ := mem_fps.1 h
  by_cases e : i = k
  · subst e
    have hi : i < ms.length := by
      have := (List.getElem?_eq_some_iff.1 hy).1
      simpa using this
    rw [List.getElem?_set_self hi] at hy
    injection hy with hy
    subst hy
    exact Or.inr hj
  · rw [List.getElem?_set_ne e] at hy
    exact Or.inl (mem_fps.2 ⟨k, y, hy, hj⟩)

/-- a file's bytes are changed: what is told -/
theorem data_out {w w1 w' : World} {mb : Nat} {ms : List NdM} {s : Md.St} (h : IsM w1 mb ms s) (K : Keep [] w w1) {i : Nat} {x : NdM} {nd : Md.Nd} (hx : ms[i]? = some x) (hn : s[i]? = some nd) {F : List Nat} (k : Keep F w1 w') (hF : ∀ j ∈ F, j = x.b ∨ j ∈ rowOf x.dv ∨ w1.heap.size ≤ j)
    {dv' : Value} {xs' : List UInt8} (B : Blk w' x.b [.map x.m, dv', .int .i64 nd.links] 82) (D : DRow w' dv' xs') (hr : ∀ j ∈ rowOf dv', j ∈ rowOf x.dv ∨ w1.heap.size ≤ j) :
    DoneOut mb ms (Md.setNd s i (fun nd => { nd with data := xs' }), 0) w w' (.returned (.int .i64 0)) := by
  have hm := h.mem.dataSet hx hn k hF B D hr
  have hxf : ∀ j, j = x.b ∨ j ∈ rowOf x.dv → j ∈ fps ms := fun j e => mem_fps.2 ⟨i, x, hx, by
    rcases e with e | e <;> simp [NdM.fp, e]⟩
  have hmb := h.blk.lt
  have hmF : mb ∉ F := fun e => by
    rcases hF mb e with e | e | e
    · exact h.out (hxf _ (Or.inl e))
    · exact h.out (hxf _ (Or.inr e))
    · omega
  have hfp : ∀ j ∈ fps (ms.set i { x with dv := dv' }), j ∈ fps ms ∨ w1.heap.size ≤ j := fun j hj => by
    rcases fps_set hj with e | e
    · exact Or.inl e
    · rcases List.mem_cons.1 e with e | e
      · exact Or.inl (hxf _ (Or.inl e))
      · rcases List.mem_append.1 e with e | e
        · exact Or.inl (mem_fps.2 ⟨i, x, hx, by simp [NdM.fp] at e ⊢; exact Or.inr (Or.inl e)⟩)
        · rcases hr j e with e | e
          · exact Or.inl (hxf _ (Or.inr e))
          · exact Or.inr e
  refine ⟨ms.set i { x with dv := dv' }, rfl, ⟨?_, hm, ?_, fun e => ?_⟩, ?_, fun j hj => ?_⟩
  · rw [blkOf_set (x' := { x with dv := dv' }) hx rfl]
    exact h.blk.keep k hmF
  · show 0 < (Md.setNd s i _).length
    rw [Md.setNd_length]; exact h.pos
  · rcases hfp mb e with e | e
    · exact h.out e
    · omega
  · refine (K.mono (G := fps ms) (by simp)).trans (k.mono (G := fps ms) (fun j hj => ?_)) (fun j hj => Or.inl hj)
    rcases hF j hj with e | e | e
    · exact Or.inl (hxf _ (Or.inl e))
    · exact Or.inl (hxf _ (Or.inr e))
    · exact Or.inr e
  · rcases hfp j hj with e | e
    · exact Or.inl e
    · exact Or.inr (Nat.le_trans K.size e)

set_option maxRecDepth 100000 in
set_option maxHeartbeats 8000000 in
theorem truncate_any (mb : Nat) (ms : List NdM) (s : Md.St) (o : Md.Op) (w : World) (h : IsM w mb ms s) (k : Ok s) (ok : OpOk o) (T : Tabs w) (c : Nat) (bd : Md.Bd c s) (h0 : 0 ≤ o.n) (h1 : o.n ≤ 1048576) :
    Calls Tryd.prog 46 #[.pointer (some ⟨mb, 0, none⟩), .agg (opL o).toArray] w fun e w' => DoneOut mb ms (Md.truncate s o) w w' e := by
  obtain ⟨N, hN⟩ : ∃ N, N = o.n.toNat := ⟨_, rfl⟩
  have hNI : o.n = (N : Int) := by omega
  have hN1 : N ≤ 1048576 := by omega
  obtain ⟨w0, hw0⟩ : ∃ W, W = w.alloc (.cells #[.int .i64 o.kind, .string o.path, .string o.to', .int .i64 o.off, .int .i64 o.n, .string o.data] 36) := ⟨_, rfl⟩
  have HNI := Lib.hid hNI
  simp only [opL]
  clear hNI h0
  go_enter Tryd.func46, Tryd.ntmps46
  go_wp2_with fail
  rw [← hw0]
  have K0 : Keep [] w w0 := by rw [hw0]; exact (Keep.refl _ _).alloc _
  obtain ⟨b3, hb3⟩ : ∃ b, b = w.heap.size := ⟨_, rfl⟩
  have BO : Blk w0 b3 [.int .i64 o.kind, .string o.path, .string o.to', .int .i64 o.off, .int .i64 o.n, .string o.data] 36 := by rw [hw0, hb3]; exact Blk.new' _ _ _
  have h3w : w.heap.size ≤ b3 := by omega
  rw [← hb3]
  clear hw0 hb3
  refine (file_any mb ms s o.path w0 (h.keep K0 (by simp) (by simp)) k ok.p (T.keep K0 (by simp)) (Md.there_ok k.leads k.pos o.path).lt).mono ?_
  rintro e w1 ⟨rfl, k1⟩
  have K1 := K0.trans k1 (by simp)
  have BO1 := BO.keep k1 (by simp)
  obtain ⟨R, hR⟩ : ∃ R, R = Md.file s o.path := ⟨_, rfl⟩
  have hF : Md.truncate s o = match R.1, decide (R.2 = 0) with | some i, true => (Md.setNd s i fun nd => { nd with data := (Md.grown nd.data o.n.toNat).take o.n.toNat }, 0) | _, _ => (s, R.2) := by unfold Md.truncate; rw [← hR]; rfl
  have hfacts := file_walk k R hR
  rw [← hR]
  have HF := Lib.hid hF
  obtain ⟨is, er⟩ := R
  obtain ⟨iv, hiv⟩ : ∃ v, v = is.map (fun i => at0 (blkOf ms i)) := ⟨_, rfl⟩
  rw [← hiv]
  have HIV := Lib.hid hiv
  have hM1 := h.keep K1 (by simp) (by simp)
  clear hF hR hiv k1 K0 BO
  by_cases he : er = 0
  · subst he
    obtain ⟨i, q0, his, _, hid, _, _, hil⟩ := hfacts (by trivial)
    simp only at his
    subst his
    obtain ⟨bi, hbi⟩ : ∃ b, b = blkOf ms i := ⟨_, rfl⟩
    obtain rfl : iv = some (at0 bi) := by rw [HIV.out, hbi]; rfl
    obtain ⟨nd, hnd⟩ : ∃ nd, s[i]? = some nd := ⟨_, List.getElem?_eq_getElem hil⟩
    obtain ⟨y, hy⟩ := hM1.mem.both' hnd
    have hNd := hM1.mem.at' i y nd hy hnd
    have hyb : y.b = bi := by rw [hbi]; unfold blkOf; rw [hy]
    have Bi := hNd.blk
    rw [hyb] at Bi
    have hb := (bd i nd hnd).data
    have hbr : bi ∉ rowOf y.dv := fun e => hNd.apart.1 (by rw [hyb]; simp [e])
    have hf : Md.truncate s o = (Md.setNd s i fun nd' => { nd' with data := (Md.grown nd.data N).take N }, 0) := by
      rw [HF.out, hN]
      show (Md.setNd s i fun nd => { nd with data := (Md.grown nd.data o.n.toNat).take o.n.toNat }, (0 : Int)) = _
      rw [Md.setNd_set hnd, Md.setNd_set hnd]
    have HF2 := Lib.hid hf
    have o4 := BO1.cell 4
    simp only [List.getElem?_cons_zero, List.getElem?_cons_succ] at o4
    rw [HNI.out] at o4
    have cG := grown_any bi y.m y.dv nd.links nd.data N w1 Bi hNd.own hbr hb (by omega)
    have HY := Lib.hid (And.intro hnd (And.intro hy hyb))
    have h3n : ∀ j, j = bi ∨ j ∈ rowOf y.dv → b3 ≠ j := fun j e z => by
      have : j ∈ fps ms := mem_fps.2 ⟨i, y, hy, by rcases e with e | e <;> simp [NdM.fp, hyb, e]⟩
      have := h.mem.lt j this
      omega
    have hbil := Bi.lt
    have hgl := Md.grown_length nd.data N
    clear hf hbi hfacts hnd hy hyb hNd HF hN
    go_upto_region 5 with (go_at_call 71; refine cG.mono ?_; rintro e w2 ⟨rfl, dv', G⟩)
    have BO2 := BO1.keep G.keep (fun e => by
      rcases List.mem_cons.1 e with e | e
      · exact h3n _ (Or.inl e) rfl
      · exact h3n _ (Or.inr e) rfl)
    obtain ⟨ao, cp, hdv⟩ := G.row.slice
    obtain ⟨L, hL⟩ : ∃ L, L = (Md.grown nd.data N).length := ⟨_, rfl⟩
    have hLN : N ≤ L := by rw [hL, hgl]; omega
    have hcap : N ≤ cp := by
      have := (G.row.rd).2
      obtain ⟨ao', c', e1, e2, _⟩ := this
      rw [hdv] at e1
      injection e1 with _ _ e3
      omega
    have KD : Keep [] w2 w2.drew := (Keep.refl [] w2).drew
    have Gb := G.blk
    have Gr := G.row
    rw [hdv] at Gb
    have e1 := (Gb.keep KD (by simp)).cell 1
    have o4' := (BO2.keep KD (by simp)).cell 4
    have fr := (Gb.keep KD (by simp)).free 1
    simp only [List.getElem?_cons_zero, List.getElem?_cons_succ] at e1 o4'
    rw [HNI.out] at o4'
    rw [← hL] at e1
    have cC := clip_any ao N cp w2.drew hcap
    have HG := Lib.hid G
    have HDV := Lib.hid hdv
    have HL := Lib.hid hL
    have hLNI : (N : Int) ≤ (L : Int) := by omega
    have hcI : (N : Int) ≤ (cp : Int) := by omega
    clear G Gb Gr hdv hL o4 cG hgl
    (refine wp_region_quiet_tail 11 (by kernel_rfl) (by kernel_rfl) ?_; simp only [List.take_succ_cons, List.take_zero, List.drop_succ_cons, List.drop_zero]; (repeat (first | go_big_quiet_skip | (go_big_quiet_want; go_big_quiet_op; first | go_big_quiet_on | (apply Exists.intro; refine ⟨?_, ?_⟩; (· exact cC); go_big_quiet_on)))); with_reducible refine wpQuiet_nil ?_)
    go_wp2
    go_ret
    rw [HF2.out]
    obtain ⟨hnd, hy, hyb⟩ := HY.out
    have G := HG.out
    have hdv := HDV.out
    have hL := HL.out
    have kS : Keep [bi] w2.drew (w2.drew.setCell ⟨bi, 1, none⟩ (.slice ao N N)) := (Keep.refl _ _).setCell (Or.inl (by simp)) _
    have KF : Keep (bi :: rowOf y.dv) w1 (w2.drew.setCell ⟨bi, 1, none⟩ (.slice ao N N)) := (G.keep.trans KD (by simp)).trans kS (fun j hj => Or.inl (by simp at hj; simp [hj]))
    have hrow : DRow w2 (.slice ao (Md.grown nd.data N).length cp) (Md.grown nd.data N) := by rw [← hdv]; exact G.row
    have hcut := hrow.cut N (by omega) (by rw [Md.grown_length]; unfold maxLen; omega)
    have hrr : ∀ j ∈ rowOf (.slice ao N N), j ∈ rowOf y.dv ∨ w1.heap.size ≤ j := fun j hj => G.rows j (by
      rw [hdv]
      cases ao with
      | none => simp [rowOf, Value.ownBlock] at hj
      | some a => simpa [rowOf, Value.ownBlock] using hj)
    have hb2 : bi ∉ rowOf (.slice ao N N) := fun e => by
      rcases hrr bi e with e | e
      · exact hbr e
      · omega
    refine data_out hM1 K1 hy hnd KF (fun j hj => ?_) ?_ ?_ hrr
    · rcases List.mem_cons.1 hj with e | e
      · exact Or.inl (by rw [e, hyb])
      · exact Or.inr (Or.inl e)
    · rw [hyb]
      exact (G.blk.keep KD (by simp)).set 1 (.slice ao N N)
    · exact (hcut.keep KD (by simp)).keep kS (fun j hj e => hb2 (by simp at e; rw [← e]; exact hj))
  · have heb : (er == 0) = false := by rw [beq_eq_false_iff_ne]; exact he
    have hf : Md.truncate s o = (s, er) := by
      rw [HF.out]
      have hd : decide (er = 0) = false := decide_eq_false he
      cases is with
      | none => rfl
      | some i => simp only [hd]
    have HF2 := Lib.hid hf
    clear he hf
    go_wp2
    go_ret
    rw [HF2.out]
    exact DoneOut.no h K1
end Go.Proofs.YtbmbjedpeepnfaaDoor
