/-
  Package model: walk: where a path leads. No condition but that the path is not too long, and that the nodes lie in memory.
-/
import Derived.Test.YtbmbjedpeepnfaaDoorMdA
import Derived.Test.YtbmbjedpeepnfaaDoorNmC
namespace Go.Proofs.YtbmbjedpeepnfaaDoor
open Go.RowKit

/-- a place as a value -/
def plL (loc : Nat → Nat) (p : Md.Pl) : List Value := [.pointer (p.parent.map fun i => at0 (loc i)), .string p.name, .pointer (p.is'.map fun i => at0 (loc i))]

/-- a file system's nodes, whose entries lead to nodes and have names -/
structure Ok (s : Md.St) : Prop where
  leads : Leads s
  pos : 0 < s.length
  root : Md.isDir s 0 = true

theorem split_sizes {s : ByteArray} {l : List ByteArray} (h : Nm.split s = some l) : ∀ x ∈ l, x.size ≤ 1000 := by
  unfold Nm.split at h
  split at h
  · split at h
    · injection h with h; subst h; intro x hx; cases hx
    · split at h
      · rename_i ha
        injection h with h
        subst h
        intro x hx
        have := List.all_eq_true.1 ha x hx
        unfold Nm.right at this
        simp only [Bool.and_eq_true, decide_eq_true_eq] at this
        omega
      · cases h
  · cases h

def WalkOut (_s : Md.St) (ms : List NdM) (r : Md.Pl × Int) (w w' : World) (e : Ending) : Prop := e = .returned (.tuple #[.agg (plL (blkOf ms) r.1).toArray, .int .i64 r.2]) ∧ Keep [] w w'

set_option maxRecDepth 100000 in
set_option maxHeartbeats 4000000 in
theorem walk_any (mb : Nat) (ms : List NdM) (s : Md.St) (path : ByteArray) (w : World) (h : IsM w mb ms s) (k : Ok s) (hp : path.size ≤ 300) (T : Tabs w) :
    Calls Tryd.prog 73 #[.pointer (some ⟨mb, 0, none⟩), .string path] w fun e w' => WalkOut s ms (Md.walk s path) w w' e := by
  obtain ⟨wA, hwA⟩ : ∃ W, W = w.alloc (.cells #[.pointer none, .string ⟨#[]⟩, .pointer none] 88) := ⟨_, rfl⟩
  have KA : Keep [] w wA := by rw [hwA]; exact (Keep.refl _ _).alloc _
  have BA : Blk wA w.heap.size [.pointer none, .string ⟨#[]⟩, .pointer none] 88 := by rw [hwA]; exact Blk.new' _ _ _
  have HWA := Lib.hid hwA
  have TA : Tabs wA := T.keep KA (by simp)
  go_enter Tryd.func73, Tryd.ntmps73
  go_wp2_with fail
  rw [← HWA.out]
  clear hwA
  refine (split_any path wA (by omega) TA).mono ?_
  rintro e w1 ⟨l, okk, ao, rfl, hok, S1, hl, k1⟩
  obtain ⟨b4, hb4⟩ : ∃ b, b = w.heap.size := ⟨_, rfl⟩
  have B4 := BA.keep k1 (by simp)
  have K1 : Keep [] w w1 := KA.trans k1 (by simp)
  rw [← hb4] at B4 ⊢
  have h1 := h.keep K1 (by simp) (by simp)
  have HB4 := Lib.hid hb4
  have h4w : w.heap.size ≤ b4 := by omega
  have h41 : b4 < w1.heap.size := B4.lt
  clear hb4 BA TA KA HWA k1 T
  cases okk with
  | false =>
    have hsp : Nm.split path = none := by rcases hok with ⟨h, _⟩ | ⟨_, h, _⟩; cases h; exact h
    have hw : Md.walk s path = (Md.Pl.no, 1) := by unfold Md.walk; rw [hsp]
    have HW := Lib.hid hw
    have p0 := B4.cell 0
    have p1 := B4.cell 1
    have p2 := B4.cell 2
    simp only [List.getElem?_cons_zero, List.getElem?_cons_succ] at p0 p1 p2
    have f0 := B4.free 0
    have f1 := B4.free 1
    have f2 := B4.free 2
    have R0 : ∀ x0, (w1.setCell ⟨b4, 0, none⟩ x0).cell? ⟨b4, 0, none⟩ = some x0 := fun x0 => (B4.set 0 x0).cell 0
    have R1 : ∀ x0 x1, ((w1.setCell ⟨b4, 0, none⟩ x0).setCell ⟨b4, 1, none⟩ x1).cell? ⟨b4, 1, none⟩ = some x1 := fun x0 x1 => ((B4.set 0 x0).set 1 x1).cell 1
    have R2 : ∀ x0 x1 x2, (((w1.setCell ⟨b4, 0, none⟩ x0).setCell ⟨b4, 1, none⟩ x1).setCell ⟨b4, 2, none⟩ x2).cell? ⟨b4, 2, none⟩ = some x2 := fun x0 x1 x2 => (((B4.set 0 x0).set 1 x1).set 2 x2).cell 2
    have KF : ∀ x0 x1 x2, Keep [] w (((w1.setCell ⟨b4, 0, none⟩ x0).setCell ⟨b4, 1, none⟩ x1).setCell ⟨b4, 2, none⟩ x2) := fun x0 x1 x2 => ((K1.setCell (Or.inr h4w) _).setCell (Or.inr h4w) _).setCell (Or.inr h4w) _
    clear hok hsp hw
    go_wp2
    refine bodyPost_ret (v := .tuple #[.agg #[.pointer none, .string ⟨#[]⟩, .pointer none], .int .i64 1]) ?_ rfl ?_
    · simp [results, Tryd.results73, go_sem, R0, R1, R2]
    · unfold WalkOut
      rw [HW.out]
      exact ⟨rfl, KF _ _ _⟩
  | true =>
    have hsp : Nm.split path = some l := by rcases hok with ⟨_, h⟩ | ⟨h, _⟩; exact h; cases h
    obtain ⟨R, hR⟩ : ∃ R, R = Md.walkP s ⟨none, ⟨#[]⟩, some 0⟩ l := ⟨_, rfl⟩
    have hw : Md.walk s path = R := by unfold Md.walk; rw [hsp, hR]
    have HW := Lib.hid hw
    have HR := Lib.hid hR
    have HSP := Lib.hid hsp
    have m0 := h1.blk.cell 0
    simp only [List.getElem?_cons_zero] at m0
    clear hok hsp hw hR
    go_wp2_with fail
    obtain ⟨w2, hw2⟩ : ∃ W, W = w1.alloc (.cells #[.pointer none, .string ⟨#[]⟩, .pointer (some (at0 (blkOf ms 0)))] 88) := ⟨_, rfl⟩
    obtain ⟨b8, hb8⟩ : ∃ b, b = w1.heap.size := ⟨_, rfl⟩
    have k2 : Keep [] w1 w2 := by rw [hw2]; exact (Keep.refl _ _).alloc _
    have B8 : Blk w2 b8 (plL (blkOf ms) ⟨none, ⟨#[]⟩, some 0⟩) 88 := by rw [hw2, hb8]; exact Blk.new' w1 _ _
    have B42 := B4.keep k2 (by simp)
    have h2 := h1.mem.keep k2 (by simp)
    have hms : ∀ q, q ∈ fps ms → q ≠ b8 := fun q hq e => by have := h1.mem.lt q hq; omega
    have hS : ∀ j x, l[j]? = some x → ∃ bS, ao = some ⟨bS, 0, none⟩ ∧ bS ≠ b8 ∧ w2.cell? ⟨bS, j, none⟩ = some (.string x) ∧ bS < w2.heap.size := fun j x hx => by
      rcases S1 with ⟨_, e⟩ | ⟨bS, e, B, _⟩
      · rw [e] at hx; cases hx
      · refine ⟨bS, e, by have := B.lt; omega, ?_, (B.keep k2 (by simp)).lt⟩
        have := (B.keep k2 (by simp)).cell j
        rw [this, List.getElem?_map, hx]; rfl
    have hsz : ∀ x ∈ l, x.size ≤ 1000 := split_sizes HSP.out
    have HS := Lib.hid hS
    have HSZ := Lib.hid hsz
    have HMS := Lib.hid hms
    have h84 : b4 ≠ b8 := by omega
    have K2 : Keep [] w w2 := K1.trans k2 (by simp)
    have h8w : w.heap.size ≤ b8 := by have := K1.size; omega
    rw [← hw2, ← hb8]
    clear hw2 hb8 k2 S1 hS hsz hms m0 B4 h1 h41 K1
    go_loopw [26] (fun i wr => ∃ (j : Nat) (p : Md.Pl), j ≤ l.length ∧ i = .int .i64 j ∧ Md.walkP s p (l.drop j) = R ∧ (∀ q, p.is' = some q → q < s.length) ∧ Blk wr b8 (plL (blkOf ms) p) 88 ∧ Keep [b8] w2 wr) (fun i _ => l.length - (intOf i).toNat)
    case atStart => exact ⟨0, _, Nat.zero_le _, rfl, HR.out.symm, fun q hq => by injection hq with hq; subst hq; exact k.pos, B8, Keep.refl _ _⟩
    case round =>
      clear B8
      obtain ⟨j, ⟨par, nm, is⟩, hj, rfl, hwp, hlt, B8, K⟩ := hrel
      have B4r := B42.keep K (by simp; exact h84)
      have KW : Keep [] w wr := K2.trans K (fun x hx => by simp at hx; subst hx; exact Or.inr h8w)
      have hM := h2.keep K (fun q hq hb => by simp at hb; exact HMS.out q hq hb)
      obtain ⟨pv, hpv⟩ : ∃ v, v = par.map (fun i => at0 (blkOf ms i)) := ⟨_, rfl⟩
      have B8' : Blk wr b8 [.pointer pv, .string nm, .pointer (is.map fun i => at0 (blkOf ms i))] 88 := by rw [hpv]; exact B8
      by_cases hjl : j < l.length
      · obtain ⟨x, hx⟩ : ∃ x, l[j]? = some x := ⟨_, List.getElem?_eq_getElem hjl⟩
        have hd : l.drop j = x :: l.drop (j + 1) := by
          rw [List.drop_eq_getElem_cons hjl]
          have := List.getElem?_eq_getElem hjl
          rw [hx] at this
          injection this with this
          rw [this]
        obtain ⟨bS, rfl, nS, cS, ltS⟩ := HS.out j x hx
        have cx : wr.cell? ⟨bS, j, none⟩ = some (.string x) := by rw [K.cell ltS (by simp; exact nS)]; exact cS
        have hxs := HSZ.out x (List.mem_of_getElem? hx)
        have hjI : (j : Int) < (l.length : Int) := by omega
        have z2 := B8'.cell 2
        simp only [List.getElem?_cons_zero, List.getElem?_cons_succ] at z2
        rw [hd] at hwp
        clear hd hx cS nS ltS
        cases is with
        | none =>
          have hR2 : R = (Md.Pl.no, 2) := by rw [← hwp]; rfl
          have HR2 := Lib.hid hR2
          simp only [Option.map_none] at z2
          clear hwp hR2
          have p0 := B4r.cell 0
          have p1 := B4r.cell 1
          have p2 := B4r.cell 2
          simp only [List.getElem?_cons_zero, List.getElem?_cons_succ] at p0 p1 p2
          have f0 := B4r.free 0
          have f1 := B4r.free 1
          have f2 := B4r.free 2
          have R0 : ∀ x0, (wr.setCell ⟨b4, 0, none⟩ x0).cell? ⟨b4, 0, none⟩ = some x0 := fun x0 => (B4r.set 0 x0).cell 0
          have R1 : ∀ x0 x1, ((wr.setCell ⟨b4, 0, none⟩ x0).setCell ⟨b4, 1, none⟩ x1).cell? ⟨b4, 1, none⟩ = some x1 := fun x0 x1 => ((B4r.set 0 x0).set 1 x1).cell 1
          have R2 : ∀ x0 x1 x2, (((wr.setCell ⟨b4, 0, none⟩ x0).setCell ⟨b4, 1, none⟩ x1).setCell ⟨b4, 2, none⟩ x2).cell? ⟨b4, 2, none⟩ = some x2 := fun x0 x1 x2 => (((B4r.set 0 x0).set 1 x1).set 2 x2).cell 2
          have KF : ∀ x0 x1 x2, Keep [] w (((wr.setCell ⟨b4, 0, none⟩ x0).setCell ⟨b4, 1, none⟩ x1).setCell ⟨b4, 2, none⟩ x2) := fun x0 x1 x2 => ((KW.setCell (Or.inr h4w) _).setCell (Or.inr h4w) _).setCell (Or.inr h4w) _
          go_wp2
          refine bodyPost_ret (v := .tuple #[.agg #[.pointer none, .string ⟨#[]⟩, .pointer none], .int .i64 2]) ?_ rfl ?_
          · simp [results, Tryd.results73, go_sem, R0, R1, R2]
          · unfold WalkOut
            rw [HW.out, HR2.out]
            exact ⟨rfl, KF _ _ _⟩
        | some q =>
          simp only [Option.map_some] at z2
          have hq := hlt q rfl
          obtain ⟨nd, hnd⟩ : ∃ nd, s[q]? = some nd := ⟨_, List.getElem?_eq_getElem hq⟩
          obtain ⟨y, hy⟩ := hM.both' hnd
          have hN := hM.at' q y nd hy hnd
          obtain ⟨bq, hbq⟩ : ∃ b, b = blkOf ms q := ⟨_, rfl⟩
          have hyb : y.b = bq := by rw [hbq]; unfold blkOf; rw [hy]
          have Bq := hN.blk
          rw [hyb] at Bq
          rw [← hbq] at z2
          have hdir : Md.isDir s q = nd.dir := by unfold Md.isDir; rw [hnd]
          have hents : Md.entsOf s q = nd.ents := by unfold Md.entsOf; rw [hnd]
          rcases hN.ents with ⟨em, ed, ee⟩ | ⟨m, em, ed, hm⟩
          · have hR2 : R = (Md.Pl.no, 4) := by rw [← hwp]; show (if Md.isDir s q = true then _ else _) = _; rw [hdir, ed]; rfl
            have HR2 := Lib.hid hR2
            rw [em] at Bq
            clear hwp hR2 hdir hents em ed ee hy hnd hN hbq hyb
            have p0 := B4r.cell 0
            have p1 := B4r.cell 1
            have p2 := B4r.cell 2
            simp only [List.getElem?_cons_zero, List.getElem?_cons_succ] at p0 p1 p2
            have f0 := B4r.free 0
            have f1 := B4r.free 1
            have f2 := B4r.free 2
            have R0 : ∀ x0, (wr.setCell ⟨b4, 0, none⟩ x0).cell? ⟨b4, 0, none⟩ = some x0 := fun x0 => (B4r.set 0 x0).cell 0
            have R1 : ∀ x0 x1, ((wr.setCell ⟨b4, 0, none⟩ x0).setCell ⟨b4, 1, none⟩ x1).cell? ⟨b4, 1, none⟩ = some x1 := fun x0 x1 => ((B4r.set 0 x0).set 1 x1).cell 1
            have R2 : ∀ x0 x1 x2, (((wr.setCell ⟨b4, 0, none⟩ x0).setCell ⟨b4, 1, none⟩ x1).setCell ⟨b4, 2, none⟩ x2).cell? ⟨b4, 2, none⟩ = some x2 := fun x0 x1 x2 => (((B4r.set 0 x0).set 1 x1).set 2 x2).cell 2
            have KF : ∀ x0 x1 x2, Keep [] w (((wr.setCell ⟨b4, 0, none⟩ x0).setCell ⟨b4, 1, none⟩ x1).setCell ⟨b4, 2, none⟩ x2) := fun x0 x1 x2 => ((KW.setCell (Or.inr h4w) _).setCell (Or.inr h4w) _).setCell (Or.inr h4w) _
            go_wp2_with (go_at_call 63; refine (dir_any bq none _ _ _ Bq).mono ?_; rintro e w' ⟨rfl, rfl⟩)
            refine bodyPost_ret (v := .tuple #[.agg #[.pointer none, .string ⟨#[]⟩, .pointer none], .int .i64 4]) ?_ rfl ?_
            · simp [results, Tryd.results73, go_sem, R0, R1, R2]
            · unfold WalkOut
              rw [HW.out, HR2.out]
              exact ⟨rfl, KF _ _ _⟩
          · have hw2 : Md.walkP s ⟨some q, x, Md.look nd.ents x⟩ (l.drop (j + 1)) = R := by
              rw [← hwp]
              show _ = if Md.isDir s q = true then _ else _
              rw [hdir, ed, hents]
              rfl
            have hlt2 : ∀ i, Md.look nd.ents x = some i → i < s.length := fun i hi => k.leads q nd hnd (x, i) (Md.look_mem hi)
            rw [em] at Bq
            have KD : Keep [] wr wr.drew := (Keep.refl [] wr).drew
            have lk := (hm.keep KD (by simp)).look hxs
            rw [look_bents] at lk
            obtain ⟨o, ho⟩ : ∃ o, o = Md.look nd.ents x := ⟨_, rfl⟩
            rw [← ho] at lk hw2 hlt2
            obtain ⟨po, hpo⟩ : ∃ po, po = Option.map at0 (Option.map (blkOf ms) o) := ⟨_, rfl⟩
            rw [← hpo] at lk
            have d2 := (B8'.keep KD (by simp)).cell 2
            have dq := (Bq.keep KD (by simp)).cell 0
            simp only [List.getElem?_cons_zero, List.getElem?_cons_succ, Option.map_some] at d2 dq
            rw [← hbq] at d2
            have d0 := B8'.cell 0
            have d1 := B8'.cell 1
            simp only [List.getElem?_cons_zero, List.getElem?_cons_succ] at d0 d1
            have B8d := B8'.keep KD (by simp)
            have e0 := B8d.cell 0
            have e1 := B8d.cell 1
            simp only [List.getElem?_cons_zero, List.getElem?_cons_succ] at e0 e1
            have g0 := B8'.free 0
            have g1 := B8'.free 1
            have g2 := B8'.free 2
            have HW2 := Lib.hid hw2
            have HPO := Lib.hid hpo
            have HBQ := Lib.hid hbq
            clear hwp hdir hents em ed hy hnd hN hm ho hw2 hpo hbq hyb
            go_upto_region 12 with (go_at_call 63; refine (dir_any bq (some m) _ _ _ Bq).mono ?_; rintro e w' ⟨rfl, rfl⟩)
            (refine wp_region_quiet_tail 11 (by kernel_rfl) (by kernel_rfl) ?_; simp only [List.take_succ_cons, List.take_zero, List.drop_succ_cons, List.drop_zero]; (repeat (go_big_quiet_step (fail))); with_reducible refine wpQuiet_nil ?_)
            go_wp2
            go_roundw
            case rel =>
              refine ⟨j + 1, ⟨some q, x, o⟩, by omega, by go_num, HW2.out, hlt2, ?_, ?_⟩
              · have B := ((B8'.set 0 (.pointer (some (at0 bq)))).set 1 (.string x)).set 2 (.pointer po)
                have e : plL (blkOf ms) ⟨some q, x, o⟩ = [.pointer (some (at0 bq)), .string x, .pointer po] := by
                  rw [HBQ.out, HPO.out, Option.map_map]; rfl
                rw [e]
                exact B.drew
              · exact (((K.setCell (Or.inl (by simp)) _).setCell (Or.inl (by simp)) _).setCell (Or.inl (by simp)) _).drew
            case measure => simp [intOf]; omega
      · obtain rfl : j = l.length := by omega
        have hR2 : R = (⟨par, nm, is⟩, 0) := by rw [← hwp, List.drop_length]; rfl
        have HR2 := Lib.hid hR2
        have z0 := B8'.cell 0
        have z1 := B8'.cell 1
        have z2 := B8'.cell 2
        simp only [List.getElem?_cons_zero, List.getElem?_cons_succ] at z0 z1 z2
        obtain ⟨iv, hiv⟩ : ∃ v, v = is.map (fun i => at0 (blkOf ms i)) := ⟨_, rfl⟩
        rw [← hiv] at z2
        have HPV := Lib.hid hpv
        have HIV := Lib.hid hiv
        clear hwp hR2 hpv hiv B8 B8'
        have p0 := B4r.cell 0
        have p1 := B4r.cell 1
        have p2 := B4r.cell 2
        simp only [List.getElem?_cons_zero, List.getElem?_cons_succ] at p0 p1 p2
        have f0 := B4r.free 0
        have f1 := B4r.free 1
        have f2 := B4r.free 2
        have R0 : ∀ x0, (wr.setCell ⟨b4, 0, none⟩ x0).cell? ⟨b4, 0, none⟩ = some x0 := fun x0 => (B4r.set 0 x0).cell 0
        have R1 : ∀ x0 x1, ((wr.setCell ⟨b4, 0, none⟩ x0).setCell ⟨b4, 1, none⟩ x1).cell? ⟨b4, 1, none⟩ = some x1 := fun x0 x1 => ((B4r.set 0 x0).set 1 x1).cell 1
        have R2 : ∀ x0 x1 x2, (((wr.setCell ⟨b4, 0, none⟩ x0).setCell ⟨b4, 1, none⟩ x1).setCell ⟨b4, 2, none⟩ x2).cell? ⟨b4, 2, none⟩ = some x2 := fun x0 x1 x2 => (((B4r.set 0 x0).set 1 x1).set 2 x2).cell 2
        have KF : ∀ x0 x1 x2, Keep [] w (((wr.setCell ⟨b4, 0, none⟩ x0).setCell ⟨b4, 1, none⟩ x1).setCell ⟨b4, 2, none⟩ x2) := fun x0 x1 x2 => ((KW.setCell (Or.inr h4w) _).setCell (Or.inr h4w) _).setCell (Or.inr h4w) _
        go_wp2
        refine bodyPost_ret (v := .tuple #[.agg #[.pointer pv, .string nm, .pointer iv], .int .i64 0]) ?_ rfl ?_
        · simp [results, Tryd.results73, go_sem, R0, R1, R2]
        · unfold WalkOut
          rw [HW.out, HR2.out, HPV.out, HIV.out]
          exact ⟨rfl, KF _ _ _⟩

end Go.Proofs.YtbmbjedpeepnfaaDoor
