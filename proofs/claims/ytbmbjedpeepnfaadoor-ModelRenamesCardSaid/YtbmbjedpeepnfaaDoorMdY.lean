/-
  Package model: paths: what is wrong with an op's paths, the whole. No condition but that the op was cut, and that the library's tables are laid.
-/
import Derived.Test.YtbmbjedpeepnfaaDoorMdX
namespace Go.Proofs.YtbmbjedpeepnfaaDoor
open Go.RowKit

theorem infoS : (Tryd.prog.info? 9).map (fun i => (i.zero, i.size, i.bytes)) = some (some (.string ⟨#[]⟩), 1, 16) := by kernel_rfl

theorem all1 (p : ByteArray) : (!([p].all isPath)) = (Nm.split p).isNone := by simp [isPath]
theorem all2 (p t : ByteArray) : (!([p, t].all isPath)) = ((Nm.split p).isNone || (Nm.split t).isNone) := by simp [isPath]

theorem AppOut.two {w w' : World} {v v2 : Value} {p t : ByteArray} (h : AppOut 9 1 w v 2 [.string p, .string t] v2 w') : ∃ g cp, v2 = .slice (some ⟨g, 0, none⟩) 2 cp ∧ ∀ w'', Keep [] w' w'' → ∀ (j : Nat) x, [p, t][j]? = some x → w''.cell? ⟨g, j, none⟩ = some (.string x) := by
  have ho := h.1
  rcases ho.2 with ⟨_, h0⟩ | ⟨g, cap, cur, rfl, _, hg, _, _, _, htk⟩
  · cases h0
  · refine ⟨g, cap, rfl, fun w'' k j x hj => ?_⟩
    have hgl : g < w'.heap.size := (Array.getElem?_eq_some_iff.1 hg).1
    have hg2 := (k.block g hgl (by simp)).trans hg
    rw [cell_of_row w'' g j cur 9 (0, 0) hg2]
    have e : [Value.string p, Value.string t][j]? = some (.string x) := by
      cases j with
      | zero => simp at hj; subst hj; rfl
      | succ j => cases j with
        | zero => simp at hj; subst hj; rfl
        | succ j => simp at hj
    have hj2 : j < 2 := by have := (List.getElem?_eq_some_iff.1 hj).1; simpa using this
    have htk' : cur.toList.take 2 = [Value.string p, Value.string t] := by simpa using htk
    rw [← htk', List.getElem?_take, if_pos hj2] at e
    simpa using e

set_option maxRecDepth 100000 in
set_option maxHeartbeats 4000000 in
theorem paths_any (o : Md.Op) (w : World) (ok : OpOk o) (T : Tabs w) : Calls Tryd.prog 40 #[.agg (opL o).toArray] w fun e w' => e = .returned (.int .i64 (Md.paths o)) ∧ Keep [] w w' := by
  obtain ⟨p, hp⟩ : ∃ p, p = o.path := ⟨_, rfl⟩
  obtain ⟨t, ht⟩ : ∃ t, t = o.to' := ⟨_, rfl⟩
  have hps := ok.p
  have hts := ok.t
  rw [← hp] at hps
  rw [← ht] at hts
  simp only [opL]
  rw [← hp, ← ht]
  have hP : Md.paths o = if Md.two o then (if p = Md.slash ∨ t = Md.slash then 1 else if (Nm.split p).isNone || (Nm.split t).isNone then 1 else 0) else if (Nm.split p).isNone then 1 else 0 := by unfold Md.paths; rw [hp, ht]
  have HP := Lib.hid hP
  clear hP hp ht
  obtain ⟨W, hW⟩ : ∃ W, W = (w.alloc (.cells #[.int .i64 o.kind, .string p, .string t, .int .i64 o.off, .int .i64 o.n, .string o.data] 36)).alloc (.cells #[.string p] 9) := ⟨_, rfl⟩
  obtain ⟨b2, hb2⟩ : ∃ b, b = w.heap.size + 1 := ⟨_, rfl⟩
  have B2 : Blk W b2 [.string p] 9 := by
    have := Blk.new' (w.alloc (.cells #[.int .i64 o.kind, .string p, .string t, .int .i64 o.off, .int .i64 o.n, .string o.data] 36)) [.string p] 9
    rw [hW, hb2]
    simpa using this
  have BO : Blk W w.heap.size [.int .i64 o.kind, .string p, .string t, .int .i64 o.off, .int .i64 o.n, .string o.data] 36 := by rw [hW]; exact (Blk.new' _ _ _).alloc _
  have K : Keep [] w W := by rw [hW]; exact ((Keep.refl _ _).alloc _).alloc _
  have hsz : W.heap.size = b2 + 1 := by rw [hW, hb2]; simp
  go_enter Tryd.func40, Tryd.ntmps40
  obtain ⟨b1, hb1⟩ : ∃ b, b = w.heap.size := ⟨_, rfl⟩
  rw [← hb1] at BO
  have HW := Lib.hid hW
  have HB1 := Lib.hid hb1
  have HB2 := Lib.hid hb2
  have HSZ := Lib.hid hsz
  have HBB := Lib.hid (And.intro B2 BO)
  clear hW hb1 hb2 hsz B2 BO
  by_cases h2 : o.kind = 10 ∨ o.kind = 9
  · obtain ⟨i0, hi, hz0, hz1, hz2⟩ := info_parts infoS
    have htw : Md.two o = true := by unfold Md.two; rcases h2 with e | e <;> simp [e]
    have hf : Md.paths o = if p = Md.slash ∨ t = Md.slash then 1 else if (Nm.split p).isNone || (Nm.split t).isNone then 1 else 0 := by rw [HP.out, htw]; rfl
    have HF := Lib.hid hf
    clear htw hf
    obtain ⟨kd, hkd⟩ : ∃ k, k = o.kind := ⟨_, rfl⟩
    have HKD := Lib.hid hkd
    rw [← hkd] at h2 ⊢
    clear hkd
    rcases h2 with h2 | h2
    all_goals
      subst h2
      go_upto_region 2 with fail
      rw [HKD.out, ← HW.out, ← HB2.out, ← HB1.out]
      obtain ⟨B2, BO⟩ := HBB.out
      rw [← HKD.out] at BO ⊢
      have o0 := BO.cell 0
      have o2 := BO.cell 2
      simp only [List.getElem?_cons_zero, List.getElem?_cons_succ] at o0 o2
      have hown : W.ownsRow 0 9 1 (.slice (some ⟨b2, 0, none⟩) 1 1) 1 [.string p] := ⟨rfl, Or.inr ⟨b2, 1, #[.string p], rfl, Nat.zero_le _, B2, Nat.le_refl _, by unfold maxLen; omega, rfl, rfl⟩⟩
      have hownA := hown.alloc (.cells #[.string t] 9)
      have hrun := run_app_slice (P := Tryd.prog) (W.alloc (.cells #[.string t] 9)) 29 29 9 i0 _ 1 16 Tryd.underlying29 hi hz0 hz1 hz2 rfl (by decide) (.slice (some ⟨b2, 0, none⟩) 1 1) 1 [.string p] hownA (some ⟨W.heap.size, 0, none⟩) 1 1 [.string t] rfl (fun h => by cases h) (by intro a ha; cases ha; exact World.news_of_block (heap_alloc_new _ _)) (fun u hu => by simp at hu; subst hu; rfl) (by unfold maxLen; omega) (by omega)
      have HRUN := Lib.hid hrun
      have HB2c := Lib.hid (show w.heap.size ≤ b2 by rw [HB2.out]; omega)
      clear B2 BO hown hownA hrun
      go_upto_region 4 with (at_builtin; refine wpList_app rfl (.tmp 15) (.tmp 18) 29 29 rfl _ _ rfl rfl HRUN.out ?_; intro v2 w2 hO; have K2 := (K.alloc (.cells #[.string t] 9)).grown hO.2.1 (fun j hj => by simp [Value.ownBlock] at hj; subst hj; exact Or.inr HB2c.out); obtain ⟨g, cp, rfl, hcs⟩ := hO.two; have HCS := Lib.hid hcs; clear hcs hO)
      have cC := Tryd.slices_Contains_string g 0 2 cp [p, t] Md.slash w2 (Nat.le_refl _) (by omega) (fun j hj => by
        have := HCS.out w2 (Keep.refl _ _) j ([p, t].getD j ByteArray.empty) (by
          rw [List.getD_eq_getElem?_getD, List.getElem?_eq_getElem hj]; rfl)
        rw [Nat.zero_add]; exact this)
      have hcc : Lib.containsS ([p, t].take 2) Md.slash = decide (p = Md.slash ∨ t = Md.slash) := by
        have h := Lib.containsS_iff [p, t] Md.slash
        by_cases e : p = Md.slash ∨ t = Md.slash
        · rw [decide_eq_true e]
          exact h.2 (by rcases e with e | e <;> (rw [← e]; simp))
        · rw [decide_eq_false e]
          cases q : Lib.containsS [p, t] Md.slash with
          | false => exact q
          | true =>
            have := h.1 q
            simp at this
            exact absurd (this.elim (fun z => Or.inl z.symm) (fun z => Or.inr z.symm)) e
      rw [hcc] at cC
      by_cases hsl : p = Md.slash ∨ t = Md.slash
      · rw [decide_eq_true hsl] at cC
        have hf2 : Md.paths o = 1 := by rw [HF.out, if_pos hsl]
        have HF2 := Lib.hid hf2
        clear hf2 hsl hcc
        unfold Md.slash at cC
        go_wp2_with (go_at_call 64; refine cC.mono ?_; rintro e w' ⟨rfl, rfl⟩)
        go_ret
        exact ⟨by rw [HF2.out]; rfl, K2⟩
      · rw [decide_eq_false hsl] at cC
        have hf2 : Md.paths o = if (Nm.split p).isNone || (Nm.split t).isNone then 1 else 0 := by rw [HF.out, if_neg hsl]
        have HF2 := Lib.hid hf2
        have cA := anyPath_any [p, t] g cp w2 (by simp) (fun x hx => by simp at hx; rcases hx with rfl | rfl <;> omega) HCS.out (T.keep K2 (by simp))
        rw [all2] at cA
        clear hf2 hsl hcc
        unfold Md.slash at cC
        cases hr : ((Nm.split p).isNone || (Nm.split t).isNone) with
        | true =>
          rw [hr] at cA
          go_wp2_with (first
            | (go_at_call 64; refine cC.mono ?_; rintro e w' ⟨rfl, rfl⟩)
            | (go_at_call 54; refine cA.mono ?_; rintro e w' ⟨rfl, k2⟩))
          go_ret
          exact ⟨by rw [HF2.out, hr]; rfl, K2.trans k2 (by simp)⟩
        | false =>
          rw [hr] at cA
          go_wp2_with (first
            | (go_at_call 64; refine cC.mono ?_; rintro e w' ⟨rfl, rfl⟩)
            | (go_at_call 54; refine cA.mono ?_; rintro e w' ⟨rfl, k2⟩))
          go_ret
          exact ⟨by rw [HF2.out, hr]; rfl, K2.trans k2 (by simp)⟩
  · have e1 : (o.kind == 10) = false := by rw [beq_eq_false_iff_ne]; exact fun e => h2 (Or.inl e)
    have e2 : (o.kind == 9) = false := by rw [beq_eq_false_iff_ne]; exact fun e => h2 (Or.inr e)
    have htw : Md.two o = false := by unfold Md.two; simp; exact ⟨fun e => h2 (Or.inl e), fun e => h2 (Or.inr e)⟩
    have hf : Md.paths o = if (Nm.split p).isNone then 1 else 0 := by rw [HP.out, htw]; rfl
    have HF := Lib.hid hf
    clear h2 htw hf
    go_upto_region 2 with fail
    rw [← HW.out, ← HB2.out, ← HB1.out]
    obtain ⟨B2, BO⟩ := HBB.out
    have o0 := BO.cell 0
    simp only [List.getElem?_cons_zero] at o0
    have cA := anyPath_any [p] b2 1 W (by simp) (fun x hx => by simp at hx; subst hx; omega) (fun w' k j x hj => by
      have := (B2.keep k (by simp)).cell j
      rw [this]
      cases j with
      | zero => simp at hj; subst hj; rfl
      | succ j => simp at hj) (T.keep K (by simp))
    rw [all1] at cA
    clear B2 BO
    cases hr : (Nm.split p).isNone with
    | true =>
      rw [hr] at cA
      go_wp2_with (go_at_call 54; refine cA.mono ?_; rintro e w' ⟨rfl, k2⟩)
      go_ret
      exact ⟨by rw [HF.out, hr]; rfl, K.trans k2 (by simp)⟩
    | false =>
      rw [hr] at cA
      go_wp2_with (go_at_call 54; refine cA.mono ?_; rintro e w' ⟨rfl, k2⟩)
      go_ret
      exact ⟨by rw [HF.out, hr]; rfl, K.trans k2 (by simp)⟩
end Go.Proofs.YtbmbjedpeepnfaaDoor
