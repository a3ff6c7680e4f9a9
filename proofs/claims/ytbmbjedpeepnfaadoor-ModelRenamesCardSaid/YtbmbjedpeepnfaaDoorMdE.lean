/-
  Package model: stat: what a path leads to, told. No condition but that the op was cut, and that the nodes lie in memory.
-/
import Derived.Test.YtbmbjedpeepnfaaDoorMdD
namespace Go.Proofs.YtbmbjedpeepnfaaDoor
open Go.RowKit

theorem DRow.slice {w : World} {v : Value} {xs : List UInt8} (h : DRow w v xs) : ∃ ao c, v = .slice ao xs.length c := by
  rcases h with h | ⟨g, cur, rfl, _⟩
  · rcases h.2 with ⟨rfl, h0⟩ | ⟨g, cap, cur, rfl, _⟩
    · exact ⟨none, 0, by rw [h0]⟩
    · exact ⟨_, _, rfl⟩
  · exact ⟨_, _, rfl⟩

/-- an answer as a value; its names stand at no -/
def repV (no : Option Addr) (c : Nat) (r : Md.Rep) : Value := .agg #[.int .i64 r.err, .string r.data, .slice no r.names.length c, .bool r.dir, .int .i64 r.links, .int .i64 r.size]

/-- who answers without names and changes nothing -/
def TellOut (r : Md.Rep) (w w' : World) (e : Ending) : Prop := e = .returned (repV none 0 r) ∧ r.names = [] ∧ Keep [] w w'

set_option maxRecDepth 100000 in
set_option maxHeartbeats 8000000 in
theorem stat_any (mb : Nat) (ms : List NdM) (s : Md.St) (o : Md.Op) (w : World) (h : IsM w mb ms s) (k : Ok s) (ok : OpOk o) (T : Tabs w) (hin : ∀ i, (Md.there s o.path).1.is' = some i → i < s.length) :
    Calls Tryd.prog 42 #[.pointer (some ⟨mb, 0, none⟩), .agg (opL o).toArray] w fun e w' => TellOut (Md.stat s o) w w' e := by
  obtain ⟨w0, hw0⟩ : ∃ W, W = (w.alloc (.cells #[.int .i64 o.kind, .string o.path, .string o.to', .int .i64 o.off, .int .i64 o.n, .string o.data] 36)).alloc (.cells #[.int .i64 0, .string ⟨#[]⟩, .slice none 0 0, .bool false, .int .i64 0, .int .i64 0] 33) := ⟨_, rfl⟩
  simp only [opL]
  go_enter Tryd.func42, Tryd.ntmps42
  go_wp2_with fail
  rw [← hw0]
  have K0 : Keep [] w w0 := by rw [hw0]; exact ((Keep.refl _ _).alloc _).alloc _
  obtain ⟨b4, hb4⟩ : ∃ b, b = w.heap.size + 1 := ⟨_, rfl⟩
  have B40 : Blk w0 b4 [.int .i64 0, .string ⟨#[]⟩, .slice none 0 0, .bool false, .int .i64 0, .int .i64 0] 33 := by
    have := Blk.new' (w.alloc (.cells #[.int .i64 o.kind, .string o.path, .string o.to', .int .i64 o.off, .int .i64 o.n, .string o.data] 36)) [.int .i64 0, .string ⟨#[]⟩, .slice none 0 0, .bool false, .int .i64 0, .int .i64 0] 33
    rw [hw0, hb4]
    simpa using this
  have h4w : w.heap.size ≤ b4 := by omega
  rw [← hb4]
  clear hw0 hb4
  refine (there_any mb ms s o.path w0 (h.keep K0 (by simp) (by simp)) k ok.p (T.keep K0 (by simp))).mono ?_
  rintro e w1 ⟨rfl, k1⟩
  have K1 := K0.trans k1 (by simp)
  have B41 := B40.keep k1 (by simp)
  obtain ⟨R, hR⟩ : ∃ R, R = Md.there s o.path := ⟨_, rfl⟩
  have hsome : R.2 = 0 → R.1.is' ≠ none := by rw [hR]; exact there_some s o.path
  have hF : Md.stat s o = match R.1.is', decide (R.2 = 0) with | some i, true => ⟨0, ⟨#[]⟩, [], Md.isDir s i, Md.linksOf s i, (Md.dataOf s i).length⟩ | _, _ => Md.er R.2 := by unfold Md.stat; rw [← hR]; rfl
  rw [← hR] at hin ⊢
  have HF := Lib.hid hF
  obtain ⟨⟨par, nm, is⟩, er⟩ := R
  obtain ⟨pv, hpv⟩ : ∃ v, v = par.map (fun i => at0 (blkOf ms i)) := ⟨_, rfl⟩
  obtain ⟨iv, hiv⟩ : ∃ v, v = is.map (fun i => at0 (blkOf ms i)) := ⟨_, rfl⟩
  simp only [plL]
  rw [← hpv, ← hiv]
  have HIV := Lib.hid hiv
  have hM := h.mem.keep K1 (by simp)
  clear hF hR hpv hiv k1 K0 B40
  go_upto_region 2 with fail
  obtain ⟨W, hW⟩ : ∃ W, W = w1.alloc (.cells #[.pointer pv, .string nm, .pointer iv] 88) := ⟨_, rfl⟩
  obtain ⟨b6, hb6⟩ : ∃ b, b = w1.heap.size := ⟨_, rfl⟩
  have BP : Blk W b6 [.pointer pv, .string nm, .pointer iv] 88 := by rw [hW, hb6]; exact Blk.new' w1 _ _
  have k1 : Keep [] w1 W := by rw [hW]; exact (Keep.refl _ _).alloc _
  have KW : Keep [] w W := K1.trans k1 (by simp)
  have hMW := hM.keep k1 (by simp)
  have B4 := B41.keep k1 (by simp)
  rw [← hW, ← hb6]
  clear hW hb6 K1 k1 hM B41
  have p0 := B4.cell 0
  have p1 := B4.cell 1
  have p2 := B4.cell 2
  have p3 := B4.cell 3
  have p4 := B4.cell 4
  have p5 := B4.cell 5
  simp only [List.getElem?_cons_zero, List.getElem?_cons_succ] at p0 p1 p2 p3 p4 p5
  have f0 := B4.free 0
  have f1 := B4.free 1
  have f2 := B4.free 2
  have f3 := B4.free 3
  have f4 := B4.free 4
  have f5 := B4.free 5
  have R0 : ∀ x0, (W.setCell ⟨b4, 0, none⟩ x0).cell? ⟨b4, 0, none⟩ = some x0 := fun x0 => (B4.set 0 x0).cell 0
  have R1 : ∀ x0 x1, ((W.setCell ⟨b4, 0, none⟩ x0).setCell ⟨b4, 1, none⟩ x1).cell? ⟨b4, 1, none⟩ = some x1 := fun x0 x1 => ((B4.set 0 x0).set 1 x1).cell 1
  have R2 : ∀ x0 x1 x2, (((W.setCell ⟨b4, 0, none⟩ x0).setCell ⟨b4, 1, none⟩ x1).setCell ⟨b4, 2, none⟩ x2).cell? ⟨b4, 2, none⟩ = some x2 := fun x0 x1 x2 => (((B4.set 0 x0).set 1 x1).set 2 x2).cell 2
  have R3 : ∀ x0 x1 x2 x3, ((((W.setCell ⟨b4, 0, none⟩ x0).setCell ⟨b4, 1, none⟩ x1).setCell ⟨b4, 2, none⟩ x2).setCell ⟨b4, 3, none⟩ x3).cell? ⟨b4, 3, none⟩ = some x3 := fun x0 x1 x2 x3 => ((((B4.set 0 x0).set 1 x1).set 2 x2).set 3 x3).cell 3
  have R4 : ∀ x0 x1 x2 x3 x4, (((((W.setCell ⟨b4, 0, none⟩ x0).setCell ⟨b4, 1, none⟩ x1).setCell ⟨b4, 2, none⟩ x2).setCell ⟨b4, 3, none⟩ x3).setCell ⟨b4, 4, none⟩ x4).cell? ⟨b4, 4, none⟩ = some x4 := fun x0 x1 x2 x3 x4 => (((((B4.set 0 x0).set 1 x1).set 2 x2).set 3 x3).set 4 x4).cell 4
  have R5 : ∀ x0 x1 x2 x3 x4 x5, ((((((W.setCell ⟨b4, 0, none⟩ x0).setCell ⟨b4, 1, none⟩ x1).setCell ⟨b4, 2, none⟩ x2).setCell ⟨b4, 3, none⟩ x3).setCell ⟨b4, 4, none⟩ x4).setCell ⟨b4, 5, none⟩ x5).cell? ⟨b4, 5, none⟩ = some x5 := fun x0 x1 x2 x3 x4 x5 => ((((((B4.set 0 x0).set 1 x1).set 2 x2).set 3 x3).set 4 x4).set 5 x5).cell 5
  have KF : ∀ x0 x1 x2 x3 x4 x5, Keep [] w ((((((W.setCell ⟨b4, 0, none⟩ x0).setCell ⟨b4, 1, none⟩ x1).setCell ⟨b4, 2, none⟩ x2).setCell ⟨b4, 3, none⟩ x3).setCell ⟨b4, 4, none⟩ x4).setCell ⟨b4, 5, none⟩ x5) := fun x0 x1 x2 x3 x4 x5 => ((((((KW.setCell (Or.inr h4w) _).setCell (Or.inr h4w) _).setCell (Or.inr h4w) _).setCell (Or.inr h4w) _).setCell (Or.inr h4w) _).setCell (Or.inr h4w) _)
  have z2 := BP.cell 2
  simp only [List.getElem?_cons_zero, List.getElem?_cons_succ] at z2
  by_cases he : er = 0
  · subst he
    cases is with
    | none => exact absurd rfl (hsome rfl)
    | some q =>
      have hq := hin q rfl
      obtain ⟨nd, hnd⟩ : ∃ nd, s[q]? = some nd := ⟨_, List.getElem?_eq_getElem hq⟩
      obtain ⟨y, hy⟩ := hMW.both' hnd
      have hN := hMW.at' q y nd hy hnd
      obtain ⟨bq, hbq⟩ : ∃ b, b = blkOf ms q := ⟨_, rfl⟩
      have hyb : y.b = bq := by rw [hbq]; unfold blkOf; rw [hy]
      have Bq := hN.blk
      rw [hyb] at Bq
      obtain rfl : iv = some (at0 bq) := by rw [HIV.out, hbq]; rfl
      have hdir : nd.dir = y.m.isSome := by rcases hN.ents with ⟨em, ed, _⟩ | ⟨m, em, ed, _⟩ <;> rw [em] <;> exact ed
      have hf : Md.stat s o = ⟨0, ⟨#[]⟩, [], y.m.isSome, nd.links, nd.data.length⟩ := by
        rw [HF.out]
        show (⟨0, ⟨#[]⟩, [], Md.isDir s q, Md.linksOf s q, (Md.dataOf s q).length⟩ : Md.Rep) = _
        unfold Md.isDir Md.linksOf Md.dataOf
        rw [hnd]
        simp only [hdir]
      obtain ⟨ao, c, hdv⟩ := hN.own.slice
      rw [hdv] at Bq
      obtain ⟨m, hm⟩ : ∃ m, m = y.m := ⟨_, rfl⟩
      rw [← hm] at Bq hf
      have HF2 := Lib.hid hf
      have KD : Keep [] W W.drew := (Keep.refl [] W).drew
      have qd : Calls Tryd.prog 63 #[.pointer (some ⟨bq, 0, none⟩)] W.drew fun e w'' => e = .returned (.bool m.isSome) ∧ w'' = W.drew := (dir_any bq m _ _ _ (Bq.keep KD (by simp))).mono fun _ _ h => ⟨h.1, h.2.symm⟩
      have d2 := (BP.keep KD (by simp)).cell 2
      have e1 := (Bq.keep KD (by simp)).cell 1
      have e2 := (Bq.keep KD (by simp)).cell 2
      simp only [List.getElem?_cons_zero, List.getElem?_cons_succ] at d2 e1 e2
      clear hf hdir hN hy hnd hbq hyb hdv hm hin hsome
      go_upto_region 4 with fail
      (refine wp_region_quiet_tail 16 (by kernel_rfl) (by kernel_rfl) ?_; simp only [List.take_succ_cons, List.take_zero, List.drop_succ_cons, List.drop_zero]; (repeat (first | go_big_quiet_skip | (go_big_quiet_want; go_big_quiet_op; first | go_big_quiet_on | (apply Exists.intro; refine ⟨?_, ?_⟩; (· exact qd); go_big_quiet_on)))); with_reducible refine wpQuiet_nil ?_)
      go_wp2
      refine bodyPost_ret (v := repV none 0 ⟨0, ⟨#[]⟩, [], m.isSome, nd.links, nd.data.length⟩) ?_ rfl ?_
      · simp [repV, results, Tryd.results42, go_sem, R0, R1, R2, R3, R4, R5]
      · unfold TellOut
        rw [HF2.out]
        exact ⟨rfl, rfl, (KF _ _ _ _ _ _).drew⟩
  · have heb : (er == 0) = false := by rw [beq_eq_false_iff_ne]; exact he
    have hf : Md.stat s o = Md.er er := by
      rw [HF.out]
      have hd : decide (er = 0) = false := decide_eq_false he
      cases is with
      | none => rfl
      | some i => simp only [hd]
    have HF2 := Lib.hid hf
    clear he hf
    go_wp2
    refine bodyPost_ret (v := repV none 0 (Md.er er)) ?_ rfl ?_
    · simp [repV, Md.er, results, Tryd.results42, go_sem, R0, R1, R2, R3, R4, R5]
    · unfold TellOut
      rw [HF2.out]
      exact ⟨rfl, rfl, KF _ _ _ _ _ _⟩
end Go.Proofs.YtbmbjedpeepnfaaDoor
