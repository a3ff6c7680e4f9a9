/-
  Package model: rmdir. No condition but that the op was cut, and that the nodes lie in memory.
-/
import Derived.Test.YtbmbjedpeepnfaaDoorMdF
namespace Go.Proofs.YtbmbjedpeepnfaaDoor
open Go.RowKit

/-- what is done: an error or none, and the nodes behind it -/
def DoneOut (mb : Nat) (ms : List NdM) (r : Md.St × Int) (w w' : World) (e : Ending) : Prop :=
  ∃ ms', e = .returned (.int .i64 r.2) ∧ IsM w' mb ms' r.1 ∧ Keep (fps ms) w w' ∧ (∀ k ∈ fps ms', k ∈ fps ms ∨ w.heap.size ≤ k)

/-- nothing is done -/
theorem DoneOut.no {mb : Nat} {ms : List NdM} {s : Md.St} {x : Int} {w w' : World} (h : IsM w mb ms s) (k : Keep [] w w') : DoneOut mb ms (s, x) w w' (.returned (.int .i64 x)) :=
  ⟨ms, rfl, h.keep k (by simp) (by simp), k.mono (by simp), fun _ hk => Or.inl hk⟩

set_option maxRecDepth 100000 in
set_option maxHeartbeats 8000000 in
theorem rmdir_any (mb : Nat) (ms : List NdM) (s : Md.St) (o : Md.Op) (w : World) (h : IsM w mb ms s) (k : Ok s) (ok : OpOk o) (T : Tabs w) :
    Calls Tryd.prog 49 #[.pointer (some ⟨mb, 0, none⟩), .agg (opL o).toArray] w fun e w' => DoneOut mb ms (Md.rmdir s o) w w' e := by
  obtain ⟨w0, hw0⟩ : ∃ W, W = w.alloc (.cells #[.int .i64 o.kind, .string o.path, .string o.to', .int .i64 o.off, .int .i64 o.n, .string o.data] 36) := ⟨_, rfl⟩
  simp only [opL]
  go_enter Tryd.func49, Tryd.ntmps49
  go_wp2_with fail
  rw [← hw0]
  have K0 : Keep [] w w0 := by rw [hw0]; exact (Keep.refl _ _).alloc _
  clear hw0
  have hPl := Md.there_ok k.leads k.pos o.path
  refine (there_any mb ms s o.path w0 (h.keep K0 (by simp) (by simp)) k ok.p (T.keep K0 (by simp))).mono ?_
  rintro e w1 ⟨rfl, k1⟩
  have K1 := K0.trans k1 (by simp)
  obtain ⟨R, hR⟩ : ∃ R, R = Md.there s o.path := ⟨_, rfl⟩
  have hsome : R.2 = 0 → R.1.is' ≠ none := by rw [hR]; exact there_some s o.path
  have hF : Md.rmdir s o = if R.2 = 0 then match R.1.is', R.1.parent with | some i, some q => if Md.isDir s i = false then (s, 4) else if (Md.entsOf s i).length = 0 then (Md.leave s q R.1.name, 0) else (s, 6) | _, _ => (s, 1) else (s, R.2) := by unfold Md.rmdir; rw [← hR]; rfl
  rw [← hR] at hPl ⊢
  have HF := Lib.hid hF
  obtain ⟨⟨par, nm, is⟩, er⟩ := R
  obtain ⟨pv, hpv⟩ : ∃ v, v = par.map (fun i => at0 (blkOf ms i)) := ⟨_, rfl⟩
  obtain ⟨iv, hiv⟩ : ∃ v, v = is.map (fun i => at0 (blkOf ms i)) := ⟨_, rfl⟩
  simp only [plL]
  rw [← hpv, ← hiv]
  have HIV := Lib.hid hiv
  have HPV := Lib.hid hpv
  have hM := h.keep K1 (by simp) (by simp)
  clear hF hR hpv hiv k1 K0
  go_upto_region 2 with fail
  obtain ⟨W, hW⟩ : ∃ W, W = w1.alloc (.cells #[.pointer pv, .string nm, .pointer iv] 88) := ⟨_, rfl⟩
  obtain ⟨b6, hb6⟩ : ∃ b, b = w1.heap.size := ⟨_, rfl⟩
  have BP : Blk W b6 [.pointer pv, .string nm, .pointer iv] 88 := by rw [hW, hb6]; exact Blk.new' w1 _ _
  have k1 : Keep [] w1 W := by rw [hW]; exact (Keep.refl _ _).alloc _
  have KW : Keep [] w W := K1.trans k1 (by simp)
  have hMW := hM.keep k1 (by simp) (by simp)
  rw [← hW, ← hb6]
  clear hW hb6 K1 k1 hM
  have z0 := BP.cell 0
  have z1 := BP.cell 1
  have z2 := BP.cell 2
  simp only [List.getElem?_cons_zero, List.getElem?_cons_succ] at z0 z1 z2
  by_cases he : er = 0
  · subst he
    cases is with
    | none => exact absurd rfl (hsome rfl)
    | some i =>
      cases par with
      | none =>
        obtain rfl : pv = none := HPV.out
        have hf : Md.rmdir s o = (s, 1) := by rw [HF.out]; rfl
        have HF2 := Lib.hid hf
        clear hf hPl hsome
        go_wp2
        go_ret
        rw [HF2.out]
        exact DoneOut.no h KW
      | some q =>
        have hi := hPl.lt i rfl
        obtain ⟨hqd, hlk, hns⟩ := hPl.par q rfl
        obtain ⟨nd, hnd⟩ : ∃ nd, s[i]? = some nd := ⟨_, List.getElem?_eq_getElem hi⟩
        obtain ⟨y, hy⟩ := hMW.mem.both' hnd
        have hN := hMW.mem.at' i y nd hy hnd
        obtain ⟨bi, hbi⟩ : ∃ b, b = blkOf ms i := ⟨_, rfl⟩
        have hyb : y.b = bi := by rw [hbi]; unfold blkOf; rw [hy]
        have Bi := hN.blk
        rw [hyb] at Bi
        obtain ⟨qd, hqn, hqdir⟩ := Md.isDir_lt hqd
        obtain ⟨yq, hyq⟩ := hMW.mem.both' hqn
        have hNq := hMW.mem.at' q yq qd hyq hqn
        obtain ⟨mq, hmq, hnq⟩ : ∃ m, yq.m = some m ∧ NMap W m (bents (blkOf ms) qd.ents) := by
          rcases hNq.ents with ⟨_, e, _⟩ | ⟨m, e1, _, e3⟩
          · rw [hqdir] at e; cases e
          · exact ⟨m, e1, e3⟩
        obtain ⟨bq, hbq⟩ : ∃ b, b = blkOf ms q := ⟨_, rfl⟩
        have hyqb : yq.b = bq := by rw [hbq]; unfold blkOf; rw [hyq]
        have Bq := hNq.blk
        rw [hyqb, hmq] at Bq
        obtain rfl : iv = some (at0 bi) := by rw [HIV.out, hbi]; rfl
        obtain rfl : pv = some (at0 bq) := by rw [HPV.out, hbq]; rfl
        have hde : Md.isDir s i = nd.dir := by unfold Md.isDir; rw [hnd]
        have hee : Md.entsOf s i = nd.ents := by unfold Md.entsOf; rw [hnd]
        rcases hN.ents with ⟨em, ed, _⟩ | ⟨m, em, ed, hm⟩
        · have hf : Md.rmdir s o = (s, 4) := by rw [HF.out]; show (if Md.isDir s i = false then _ else _) = _; rw [if_pos (by rw [hde]; exact ed)]
          have HF2 := Lib.hid hf
          rw [em] at Bi
          clear hf hPl hsome hde hee hN hNq hnd hqn hy hyq hyb hyqb hbi hbq hlk
          go_wp2_with (go_at_call 63; refine (dir_any bi none _ _ _ Bi).mono ?_; rintro e w' ⟨rfl, rfl⟩)
          go_ret
          rw [HF2.out]
          exact DoneOut.no h KW
        · rw [em] at Bi
          have c0 := Bi.cell 0
          simp only [List.getElem?_cons_zero] at c0
          have ln := hm.len 3
          have hbl : (bents (blkOf ms) nd.ents).length = nd.ents.length := by unfold bents; rw [List.length_map]
          rw [hbl] at ln
          obtain ⟨n, hn⟩ : ∃ n, n = nd.ents.length := ⟨_, rfl⟩
          rw [← hn] at ln
          by_cases h0 : n = 0
          · have hf : Md.rmdir s o = (Md.leave s q nm, 0) := by
              rw [HF.out]; show (if Md.isDir s i = false then _ else _) = _
              rw [if_neg (by rw [hde, ed]; simp)]
              show (if (Md.entsOf s i).length = 0 then _ else _) = _
              rw [if_pos (by rw [hee, ← hn]; exact h0)]
            have HF2 := Lib.hid hf
            have KD : Keep [] W W.drew := (Keep.refl [] W).drew
            have hnqd := hnq.keep KD (by simp)
            have d0 := (BP.keep KD (by simp)).cell 0
            have d1 := (BP.keep KD (by simp)).cell 1
            have e0 := (Bq.keep KD (by simp)).cell 0
            simp only [List.getElem?_cons_zero, List.getElem?_cons_succ] at d0 d1 e0
            subst h0
            have HX := Lib.hid (And.intro hyq (And.intro hqn hmq))
            have HMD := Lib.hid (hMW.keep KD (by simp) (by simp))
            clear hf hPl hsome hde hee hN hNq hnd hqn hy hyq hyb hyqb hbi hbq hlk hbl hn hm hnq
            go_upto_region 10 with (go_at_call 63; refine (dir_any bi (some m) _ _ _ Bi).mono ?_; rintro e w' ⟨rfl, rfl⟩)
            (refine wp_region_quiet_tail 7 (by kernel_rfl) (by kernel_rfl) ?_; simp only [List.take_succ_cons, List.take_zero, List.drop_succ_cons, List.drop_zero]; (repeat (go_big_quiet_step (fail))); with_reducible refine wpQuiet_nil ?_)
            go_wp2_with (at_delete; refine wpList_ndrop hnqd hns rfl _ _ rfl rfl rfl ?_; intro w2 N2 k2)
            go_ret
            rw [HF2.out]
            obtain ⟨hyq, hqn, hmq⟩ := HX.out
            have hMD := HMD.out
            rw [← bents_del] at N2
            have hmf : mq ∈ fps ms := mem_fps.2 ⟨q, yq, hyq, by simp [NdM.fp, hmq]⟩
            have r := hMD.mem.entered hyq hqn hmq k2 N2
            have e1 : Md.leave s q nm = Md.setNd s q fun nd => { nd with ents := Md.del qd.ents nm } := by
              unfold Md.leave
              rw [Md.setNd_set hqn, Md.setNd_set hqn]
            refine ⟨ms, rfl, ⟨hMD.blk.keep k2 (fun e => hMD.out (by simp at e; rw [e]; exact hmf)), by rw [e1]; exact r, ?_, hMD.out⟩, ?_, fun _ hk => Or.inl hk⟩
            · rw [e1, Md.setNd_set hqn]; simp; exact k.pos
            · have K2 : Keep [mq] w w2 := ((KW.trans KD (by simp)).mono (G := [mq]) (by simp)).trans k2 (fun x hx => Or.inl hx)
              exact K2.mono (fun x hx => by simp at hx; subst hx; exact Or.inl hmf)
          · have hnI : (0 : Int) < (n : Int) := by omega
            have hf : Md.rmdir s o = (s, 6) := by
              rw [HF.out]; show (if Md.isDir s i = false then _ else _) = _
              rw [if_neg (by rw [hde, ed]; simp)]
              show (if (Md.entsOf s i).length = 0 then _ else _) = _
              rw [if_neg (by rw [hee, ← hn]; exact h0)]
            have HF2 := Lib.hid hf
            clear hf hPl hsome hde hee hN hNq hnd hqn hy hyq hyb hyqb hbi hbq hlk hbl hn hm h0
            go_wp2_with (go_at_call 63; refine (dir_any bi (some m) _ _ _ Bi).mono ?_; rintro e w' ⟨rfl, rfl⟩)
            go_ret
            rw [HF2.out]
            exact DoneOut.no h KW
  · have heb : (er == 0) = false := by rw [beq_eq_false_iff_ne]; exact he
    have hf : Md.rmdir s o = (s, er) := by rw [HF.out]; show (if er = 0 then _ else _) = _; rw [if_neg he]
    have HF2 := Lib.hid hf
    clear he hf
    go_wp2
    go_ret
    rw [HF2.out]
    exact DoneOut.no h KW
end Go.Proofs.YtbmbjedpeepnfaaDoor
