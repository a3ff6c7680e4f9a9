/-
  Package model: list: a directory's names, told. No condition but that the op was cut, that the nodes lie in memory, and that a directory has not too many entries.
-/
import Derived.Test.YtbmbjedpeepnfaaDoorMdS
import Derived.Deep.DeepCutAuto
namespace Go.Proofs.YtbmbjedpeepnfaaDoor
open Go.RowKit Go.Shelf

/-- who answers and changes nothing -/
def TellsOut (r : Md.Rep) (w w' : World) (e : Ending) : Prop := ∃ ao c, e = .returned (repV ao c r) ∧ w'.ownsRow w.heap.size 9 1 (.slice ao r.names.length c) r.names.length (r.names.map Value.string) ∧ Keep [] w w'

theorem TellOut.tells {r : Md.Rep} {w w' : World} {e : Ending} (h : TellOut r w w' e) : TellsOut r w w' e := by
  obtain ⟨h1, h2, h3⟩ := h
  refine ⟨none, 0, h1, ?_, h3⟩
  rw [h2]
  exact World.ownsRow_nil _ _ _ _

set_option maxRecDepth 100000 in
set_option maxHeartbeats 8000000 in
theorem list_any (mb : Nat) (ms : List NdM) (s : Md.St) (o : Md.Op) (w : World) (h : IsM w mb ms s) (k : Ok s) (ok : OpOk o) (T : Tabs w) (hsz : ∀ q, (Md.entsOf s q).length < 1000000) (hin : ∀ i, (Md.there s o.path).1.is' = some i → i < s.length) :
    Calls Tryd.prog 43 #[.pointer (some ⟨mb, 0, none⟩), .agg (opL o).toArray] w fun e w' => TellsOut (Md.list s o) w w' e := by
  obtain ⟨w0, hw0⟩ : ∃ W, W = (w.alloc (.cells #[.int .i64 o.kind, .string o.path, .string o.to', .int .i64 o.off, .int .i64 o.n, .string o.data] 36)).alloc (.cells #[.int .i64 0, .string ⟨#[]⟩, .slice none 0 0, .bool false, .int .i64 0, .int .i64 0] 33) := ⟨_, rfl⟩
  simp only [opL]
  go_enter Tryd.func43, Tryd.ntmps43
  go_wp2_with fail
  rw [← hw0]
  have K0 : Keep [] w w0 := by rw [hw0]; exact ((Keep.refl _ _).alloc _).alloc _
  obtain ⟨b4, hb4⟩ : ∃ b, b = w.heap.size + 1 := ⟨_, rfl⟩
  have B40 : Blk w0 b4 [.int .i64 0, .string ⟨#[]⟩, .slice none 0 0, .bool false, .int .i64 0, .int .i64 0] 33 := by
    have := Blk.new' (w.alloc (.cells #[.int .i64 o.kind, .string o.path, .string o.to', .int .i64 o.off, .int .i64 o.n, .string o.data] 36)) [.int .i64 0, .string ⟨#[]⟩, .slice none 0 0, .bool false, .int .i64 0, .int .i64 0] 33
    rw [hw0, hb4]
    simpa using this
  have h4w : w.heap.size ≤ b4 := by omega
  rw [← hb4]
  clear hw0 hb4
  refine (there_any mb ms s o.path w0 (h.keep K0 (by simp) (by simp)) k ok.p (T.keep K0 (by simp))).mono ?_
  rintro e w1 ⟨rfl, k1⟩
  have K1 := K0.trans k1 (by simp)
  have B41 := B40.keep k1 (by simp)
  obtain ⟨R, hR⟩ : ∃ R, R = Md.there s o.path := ⟨_, rfl⟩
  have hsome : R.2 = 0 → R.1.is' ≠ none := by rw [hR]; exact there_some s o.path
  have hF : Md.list s o = match R.1.is', decide (R.2 = 0) with | some i, true => if Md.isDir s i then ⟨0, ⟨#[]⟩, Md.names (Md.entsOf s i), false, 0, 0⟩ else Md.er 4 | _, _ => Md.er R.2 := by unfold Md.list; rw [← hR]; rfl
  rw [← hR] at hin ⊢
  have HF := Lib.hid hF
  obtain ⟨⟨par, nm, is⟩, er⟩ := R
  obtain ⟨pv, hpv⟩ : ∃ v, v = par.map (fun i => at0 (blkOf ms i)) := ⟨_, rfl⟩
  obtain ⟨iv, hiv⟩ : ∃ v, v = is.map (fun i => at0 (blkOf ms i)) := ⟨_, rfl⟩
  simp only [plL]
  rw [← hpv, ← hiv]
  have HIV := Lib.hid hiv
  have hM := h.mem.keep K1 (by simp)
  clear hF hR hpv hiv k1 K0 B40
  go_upto_region 2 with fail
  obtain ⟨W, hW⟩ : ∃ W, W = w1.alloc (.cells #[.pointer pv, .string nm, .pointer iv] 88) := ⟨_, rfl⟩
  obtain ⟨b6, hb6⟩ : ∃ b, b = w1.heap.size := ⟨_, rfl⟩
  have BP : Blk W b6 [.pointer pv, .string nm, .pointer iv] 88 := by rw [hW, hb6]; exact Blk.new' w1 _ _
  have k1 : Keep [] w1 W := by rw [hW]; exact (Keep.refl _ _).alloc _
  have KW : Keep [] w W := K1.trans k1 (by simp)
  have hMW := hM.keep k1 (by simp)
  have B4 := B41.keep k1 (by simp)
  rw [← hW, ← hb6]
  clear hW hb6 K1 k1 hM B41
  have p0 := B4.cell 0
  have p1 := B4.cell 1
  have p2 := B4.cell 2
  have p3 := B4.cell 3
  have p4 := B4.cell 4
  have p5 := B4.cell 5
  simp only [List.getElem?_cons_zero, List.getElem?_cons_succ] at p0 p1 p2 p3 p4 p5
  have f0 := B4.free 0
  have f1 := B4.free 1
  have f2 := B4.free 2
  have f3 := B4.free 3
  have f4 := B4.free 4
  have f5 := B4.free 5
  have R0 : ∀ x0, (W.setCell ⟨b4, 0, none⟩ x0).cell? ⟨b4, 0, none⟩ = some x0 := fun x0 => (B4.set 0 x0).cell 0
  have R1 : ∀ x0 x1, ((W.setCell ⟨b4, 0, none⟩ x0).setCell ⟨b4, 1, none⟩ x1).cell? ⟨b4, 1, none⟩ = some x1 := fun x0 x1 => ((B4.set 0 x0).set 1 x1).cell 1
  have R2 : ∀ x0 x1 x2, (((W.setCell ⟨b4, 0, none⟩ x0).setCell ⟨b4, 1, none⟩ x1).setCell ⟨b4, 2, none⟩ x2).cell? ⟨b4, 2, none⟩ = some x2 := fun x0 x1 x2 => (((B4.set 0 x0).set 1 x1).set 2 x2).cell 2
  have R3 : ∀ x0 x1 x2 x3, ((((W.setCell ⟨b4, 0, none⟩ x0).setCell ⟨b4, 1, none⟩ x1).setCell ⟨b4, 2, none⟩ x2).setCell ⟨b4, 3, none⟩ x3).cell? ⟨b4, 3, none⟩ = some x3 := fun x0 x1 x2 x3 => ((((B4.set 0 x0).set 1 x1).set 2 x2).set 3 x3).cell 3
  have R4 : ∀ x0 x1 x2 x3 x4, (((((W.setCell ⟨b4, 0, none⟩ x0).setCell ⟨b4, 1, none⟩ x1).setCell ⟨b4, 2, none⟩ x2).setCell ⟨b4, 3, none⟩ x3).setCell ⟨b4, 4, none⟩ x4).cell? ⟨b4, 4, none⟩ = some x4 := fun x0 x1 x2 x3 x4 => (((((B4.set 0 x0).set 1 x1).set 2 x2).set 3 x3).set 4 x4).cell 4
  have R5 : ∀ x0 x1 x2 x3 x4 x5, ((((((W.setCell ⟨b4, 0, none⟩ x0).setCell ⟨b4, 1, none⟩ x1).setCell ⟨b4, 2, none⟩ x2).setCell ⟨b4, 3, none⟩ x3).setCell ⟨b4, 4, none⟩ x4).setCell ⟨b4, 5, none⟩ x5).cell? ⟨b4, 5, none⟩ = some x5 := fun x0 x1 x2 x3 x4 x5 => ((((((B4.set 0 x0).set 1 x1).set 2 x2).set 3 x3).set 4 x4).set 5 x5).cell 5
  have KF : ∀ x0 x1 x2 x3 x4 x5, Keep [] w ((((((W.setCell ⟨b4, 0, none⟩ x0).setCell ⟨b4, 1, none⟩ x1).setCell ⟨b4, 2, none⟩ x2).setCell ⟨b4, 3, none⟩ x3).setCell ⟨b4, 4, none⟩ x4).setCell ⟨b4, 5, none⟩ x5) := fun x0 x1 x2 x3 x4 x5 => ((((((KW.setCell (Or.inr h4w) _).setCell (Or.inr h4w) _).setCell (Or.inr h4w) _).setCell (Or.inr h4w) _).setCell (Or.inr h4w) _).setCell (Or.inr h4w) _)
  have z2 := BP.cell 2
  simp only [List.getElem?_cons_zero, List.getElem?_cons_succ] at z2
  by_cases he : er = 0
  · subst he
    cases is with
    | none => exact absurd rfl (hsome (by trivial))
    | some q =>
      have hq := hin q rfl
      obtain ⟨nd, hnd⟩ : ∃ nd, s[q]? = some nd := ⟨_, List.getElem?_eq_getElem hq⟩
      obtain ⟨y, hy⟩ := hMW.both' hnd
      have hN := hMW.at' q y nd hy hnd
      obtain ⟨bq, hbq⟩ : ∃ b, b = blkOf ms q := ⟨_, rfl⟩
      have hyb : y.b = bq := by rw [hbq]; unfold blkOf; rw [hy]
      have Bq := hN.blk
      rw [hyb] at Bq
      obtain rfl : iv = some (at0 bq) := by rw [HIV.out, hbq]; rfl
      have hdq : Md.isDir s q = nd.dir := by unfold Md.isDir; rw [hnd]
      have heq : Md.entsOf s q = nd.ents := Md.entsOf_get hnd
      have hlen := hsz q
      rw [heq] at hlen
      rcases hN.ents with ⟨em, ed, _⟩ | ⟨m, em, ed, hm⟩
      · have hf : Md.list s o = Md.er 4 := by
          rw [HF.out]
          show (if Md.isDir s q = true then _ else _) = _
          rw [if_neg (by rw [hdq, ed]; decide)]
        have HF2 := Lib.hid hf
        rw [em] at Bq
        clear hf hdq heq hN hy hnd hbq hyb hin hsome em
        go_wp2_with (go_at_call 63; refine (dir_any bq none _ _ _ Bq).mono ?_; rintro e w' ⟨rfl, rfl⟩)
        refine bodyPost_ret (v := repV none 0 (Md.er 4)) ?_ rfl ?_
        · simp [repV, Md.er, results, Tryd.results43, go_sem, R0, R1, R2, R3, R4, R5]
        · rw [HF2.out]
          exact TellOut.tells ⟨rfl, rfl, KF _ _ _ _ _ _⟩
      · have hf : Md.list s o = ⟨0, ⟨#[]⟩, Md.names nd.ents, false, 0, 0⟩ := by
          rw [HF.out]
          show (if Md.isDir s q = true then _ else _) = _
          rw [if_pos (by rw [hdq, ed]), heq]
        have HF2 := Lib.hid hf
        rw [em] at Bq
        have c0 := Bq.cell 0
        simp only [List.getElem?_cons_zero] at c0
        have hbl : (bents (blkOf ms) nd.ents).length = nd.ents.length := by unfold bents; rw [List.length_map]
        have cN := names_any m _ W hm (by rw [hbl]; exact hlen)
        rw [hbl] at cN
        obtain ⟨n, hn⟩ : ∃ n, n = nd.ents.length := ⟨_, rfl⟩
        have hnn : Md.names (bents (blkOf ms) nd.ents) = Md.names nd.ents := by unfold Md.names bents; rw [List.map_map]; rfl
        rw [hnn, ← hn] at cN
        have cK := keys_any m W
        have HN := Lib.hid hn
        have HB4 := Lib.hid B4
        have h4W := B4.lt
        have HBR := Lib.hid (show ∀ ao c {w5 : World}, w5.ownsRow W.heap.size 9 1 (.slice ao n c) n ((Md.names nd.ents).map Value.string) → b4 ∉ rowOf (.slice ao n c) from fun ao c w5 hr e => by
          rcases hr.2 with ⟨h1, _⟩ | ⟨g, cap, cur, h1, hb, _⟩
          · rw [h1] at e; simp [rowOf, Value.ownBlock] at e
          · rw [h1] at e; simp [rowOf, Value.ownBlock] at e; omega)
        clear hf hdq heq hN hy hnd hbq hyb hin hsome em hnn hn hbl hm p0 p1 p2 p3 p4 p5 f0 f1 f2 f3 f4 f5 R0 R1 R2 R3 R4 R5 KF B4
        go_upto_region 6 with (go_at_call 63; refine (dir_any bq (some m) _ _ _ Bq).mono ?_; rintro e w' ⟨rfl, rfl⟩)
        go_wp2_with (first
          | (go_at_call 69; refine cK.mono ?_; rintro e w' ⟨rfl, rfl⟩)
          | (go_at_call 68; refine cN.mono ?_; rintro e w5 ⟨ao, c, rfl, hrow, k5⟩
             have B4 := HB4.out.keep k5 (by simp)
             have KW5 := KW.trans k5 (by simp)
             have p0 := B4.cell 0
             have p1 := B4.cell 1
             have p2 := B4.cell 2
             have p3 := B4.cell 3
             have p4 := B4.cell 4
             have p5 := B4.cell 5
             simp only [List.getElem?_cons_zero, List.getElem?_cons_succ] at p0 p1 p2 p3 p4 p5
             have f0 := B4.free 0
             have f1 := B4.free 1
             have f2 := B4.free 2
             have f3 := B4.free 3
             have f4 := B4.free 4
             have f5 := B4.free 5))
        have hw5 : w.heap.size ≤ b4 := h4w
        have R0 : ∀ x0, (w5.setCell ⟨b4, 0, none⟩ x0).cell? ⟨b4, 0, none⟩ = some x0 := fun x0 => (B4.set 0 x0).cell 0
        have R1 : ∀ x0 x1, ((w5.setCell ⟨b4, 0, none⟩ x0).setCell ⟨b4, 1, none⟩ x1).cell? ⟨b4, 1, none⟩ = some x1 := fun x0 x1 => ((B4.set 0 x0).set 1 x1).cell 1
        have R2 : ∀ x0 x1 x2, (((w5.setCell ⟨b4, 0, none⟩ x0).setCell ⟨b4, 1, none⟩ x1).setCell ⟨b4, 2, none⟩ x2).cell? ⟨b4, 2, none⟩ = some x2 := fun x0 x1 x2 => (((B4.set 0 x0).set 1 x1).set 2 x2).cell 2
        have R3 : ∀ x0 x1 x2 x3, ((((w5.setCell ⟨b4, 0, none⟩ x0).setCell ⟨b4, 1, none⟩ x1).setCell ⟨b4, 2, none⟩ x2).setCell ⟨b4, 3, none⟩ x3).cell? ⟨b4, 3, none⟩ = some x3 := fun x0 x1 x2 x3 => ((((B4.set 0 x0).set 1 x1).set 2 x2).set 3 x3).cell 3
        have R4 : ∀ x0 x1 x2 x3 x4, (((((w5.setCell ⟨b4, 0, none⟩ x0).setCell ⟨b4, 1, none⟩ x1).setCell ⟨b4, 2, none⟩ x2).setCell ⟨b4, 3, none⟩ x3).setCell ⟨b4, 4, none⟩ x4).cell? ⟨b4, 4, none⟩ = some x4 := fun x0 x1 x2 x3 x4 => (((((B4.set 0 x0).set 1 x1).set 2 x2).set 3 x3).set 4 x4).cell 4
        have R5 : ∀ x0 x1 x2 x3 x4 x5, ((((((w5.setCell ⟨b4, 0, none⟩ x0).setCell ⟨b4, 1, none⟩ x1).setCell ⟨b4, 2, none⟩ x2).setCell ⟨b4, 3, none⟩ x3).setCell ⟨b4, 4, none⟩ x4).setCell ⟨b4, 5, none⟩ x5).cell? ⟨b4, 5, none⟩ = some x5 := fun x0 x1 x2 x3 x4 x5 => ((((((B4.set 0 x0).set 1 x1).set 2 x2).set 3 x3).set 4 x4).set 5 x5).cell 5
        have KF : ∀ x0 x1 x2 x3 x4 x5, Keep [b4] w5 ((((((w5.setCell ⟨b4, 0, none⟩ x0).setCell ⟨b4, 1, none⟩ x1).setCell ⟨b4, 2, none⟩ x2).setCell ⟨b4, 3, none⟩ x3).setCell ⟨b4, 4, none⟩ x4).setCell ⟨b4, 5, none⟩ x5) := fun x0 x1 x2 x3 x4 x5 =>
          (((((((Keep.refl [b4] w5).setCell (Or.inl (by simp)) _).setCell (Or.inl (by simp)) _).setCell (Or.inl (by simp)) _).setCell (Or.inl (by simp)) _).setCell (Or.inl (by simp)) _).setCell (Or.inl (by simp)) _)
        refine bodyPost_ret (v := .agg #[.int .i64 0, .string ⟨#[]⟩, .slice ao n c, .bool false, .int .i64 0, .int .i64 0]) ?_ rfl ?_
        · simp [results, Tryd.results43, go_sem, R0, R1, R2, R3, R4, R5]
        · have hnl : (Md.names nd.ents).length = n := by rw [Md.names_length, HN.out]
          have hg : b4 ∉ rowOf (.slice ao n c) := HBR.out ao c hrow
          rw [HF2.out]
          refine ⟨ao, c, by unfold repV; simp only [hnl], ?_, ?_⟩
          · simp only [hnl]
            exact (ownsRow_keep (ownsRow_base_a hrow KW.size) (KF _ _ _ _ _ _) (fun x hx e => hg (by simp at e; rw [← e]; exact hx)))
          · exact (KW5.mono (G := []) (by simp)).trans (KF _ _ _ _ _ _) (fun x hx => Or.inr (by simp at hx; rw [hx]; exact hw5))
  · have heb : (er == 0) = false := by rw [beq_eq_false_iff_ne]; exact he
    have hf : Md.list s o = Md.er er := by
      rw [HF.out]
      have hd : decide (er = 0) = false := decide_eq_false he
      cases is with
      | none => rfl
      | some i => simp only [hd]
    have HF2 := Lib.hid hf
    clear he hf
    go_wp2
    refine bodyPost_ret (v := repV none 0 (Md.er er)) ?_ rfl ?_
    · simp [repV, Md.er, results, Tryd.results43, go_sem, R0, R1, R2, R3, R4, R5]
    · rw [HF2.out]
      exact TellOut.tells ⟨rfl, rfl, KF _ _ _ _ _ _⟩
end Go.Proofs.YtbmbjedpeepnfaaDoor
