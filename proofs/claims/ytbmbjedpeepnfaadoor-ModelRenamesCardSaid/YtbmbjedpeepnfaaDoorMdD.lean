/-
  Package model: there and file: what a path leads to. No condition but that the path is not too long, and that the nodes lie in memory.
-/
import Derived.Test.YtbmbjedpeepnfaaDoorMdC
namespace Go.Proofs.YtbmbjedpeepnfaaDoor
open Go.RowKit

theorem there_some (s : Md.St) (path : ByteArray) : (Md.there s path).2 = 0 → (Md.there s path).1.is' ≠ none := by
  unfold Md.there
  intro h
  by_cases c : (Md.walk s path).2 = 0 ∧ (Md.walk s path).1.is' = none
  · simp only [if_pos c] at h
    exact absurd h (by decide)
  · simp only [if_neg c] at h ⊢
    exact fun e => c ⟨h, e⟩

/-- a file's number and what is wrong, as told -/
def FileOut (ms : List NdM) (r : Option Nat × Int) (w w' : World) (e : Ending) : Prop := e = .returned (.tuple #[.pointer (r.1.map fun i => at0 (blkOf ms i)), .int .i64 r.2]) ∧ Keep [] w w'

set_option maxRecDepth 100000 in
set_option maxHeartbeats 4000000 in
theorem there_any (mb : Nat) (ms : List NdM) (s : Md.St) (path : ByteArray) (w : World) (h : IsM w mb ms s) (k : Ok s) (hp : path.size ≤ 300) (T : Tabs w) :
    Calls Tryd.prog 67 #[.pointer (some ⟨mb, 0, none⟩), .string path] w fun e w' => WalkOut s ms (Md.there s path) w w' e := by
  have KA : Keep [] w (w.alloc (.cells #[.pointer none, .string ⟨#[]⟩, .pointer none] 88)) := (Keep.refl _ _).alloc _
  have BA : Blk (w.alloc (.cells #[.pointer none, .string ⟨#[]⟩, .pointer none] 88)) w.heap.size [.pointer none, .string ⟨#[]⟩, .pointer none] 88 := Blk.new' _ _ _
  go_enter Tryd.func67, Tryd.ntmps67
  go_wp2_with fail
  refine (walk_any mb ms s path _ (h.keep KA (by simp) (by simp)) k hp (T.keep KA (by simp))).mono ?_
  rintro e w1 ⟨rfl, k1⟩
  have B41 := BA.keep k1 (by simp)
  have K1 := KA.trans k1 (by simp)
  obtain ⟨b4, hb4⟩ : ∃ b, b = w.heap.size := ⟨_, rfl⟩
  rw [← hb4] at B41 ⊢
  have h4w : w.heap.size ≤ b4 := by omega
  obtain ⟨R, hR⟩ : ∃ R, R = Md.walk s path := ⟨_, rfl⟩
  have hT : Md.there s path = if R.2 = 0 ∧ R.1.is' = none then (R.1, 2) else R := by unfold Md.there; rw [← hR]
  rw [← hR]
  have HT := Lib.hid hT
  obtain ⟨⟨par, nm, is⟩, er⟩ := R
  obtain ⟨pv, hpv⟩ : ∃ v, v = par.map (fun i => at0 (blkOf ms i)) := ⟨_, rfl⟩
  obtain ⟨iv, hiv⟩ : ∃ v, v = is.map (fun i => at0 (blkOf ms i)) := ⟨_, rfl⟩
  simp only [plL]
  rw [← hpv, ← hiv]
  have HPV := Lib.hid hpv
  have HIV := Lib.hid hiv
  clear hT hR hpv hiv hb4 BA k1 KA
  go_upto_region 2 with fail
  obtain ⟨W, hW⟩ : ∃ W, W = w1.alloc (.cells #[.pointer pv, .string nm, .pointer iv] 88) := ⟨_, rfl⟩
  obtain ⟨b6, hb6⟩ : ∃ b, b = w1.heap.size := ⟨_, rfl⟩
  have BP : Blk W b6 [.pointer pv, .string nm, .pointer iv] 88 := by rw [hW, hb6]; exact Blk.new' w1 _ _
  have B4r : Blk W b4 [.pointer none, .string ⟨#[]⟩, .pointer none] 88 := by rw [hW]; exact B41.alloc _
  have KW : Keep [] w W := by rw [hW]; exact K1.alloc _
  rw [← hW, ← hb6]
  clear hW hb6 B41 K1
  have z0 := BP.cell 0
  have z1 := BP.cell 1
  have z2 := BP.cell 2
  have p0 := B4r.cell 0
  have p1 := B4r.cell 1
  have p2 := B4r.cell 2
  simp only [List.getElem?_cons_zero, List.getElem?_cons_succ] at z0 z1 z2 p0 p1 p2
  have f0 := B4r.free 0
  have f1 := B4r.free 1
  have f2 := B4r.free 2
  have R0 : ∀ x0, (W.setCell ⟨b4, 0, none⟩ x0).cell? ⟨b4, 0, none⟩ = some x0 := fun x0 => (B4r.set 0 x0).cell 0
  have R1 : ∀ x0 x1, ((W.setCell ⟨b4, 0, none⟩ x0).setCell ⟨b4, 1, none⟩ x1).cell? ⟨b4, 1, none⟩ = some x1 := fun x0 x1 => ((B4r.set 0 x0).set 1 x1).cell 1
  have R2 : ∀ x0 x1 x2, (((W.setCell ⟨b4, 0, none⟩ x0).setCell ⟨b4, 1, none⟩ x1).setCell ⟨b4, 2, none⟩ x2).cell? ⟨b4, 2, none⟩ = some x2 := fun x0 x1 x2 => (((B4r.set 0 x0).set 1 x1).set 2 x2).cell 2
  have KF : ∀ x0 x1 x2, Keep [] w (((W.setCell ⟨b4, 0, none⟩ x0).setCell ⟨b4, 1, none⟩ x1).setCell ⟨b4, 2, none⟩ x2) := fun x0 x1 x2 => ((KW.setCell (Or.inr h4w) _).setCell (Or.inr h4w) _).setCell (Or.inr h4w) _
  by_cases he : er = 0
  · subst he
    cases is with
    | none =>
      obtain rfl : iv = none := HIV.out
      go_wp2
      refine bodyPost_ret (v := .tuple #[.agg #[.pointer pv, .string nm, .pointer none], .int .i64 2]) ?_ rfl ?_
      · simp [results, Tryd.results67, go_sem, R0, R1, R2]
      · unfold WalkOut
        rw [HT.out, if_pos (by simp), HPV.out]
        exact ⟨rfl, KF _ _ _⟩
    | some q =>
      obtain ⟨a, ha⟩ : ∃ a, a = at0 (blkOf ms q) := ⟨_, rfl⟩
      obtain rfl : iv = some a := by rw [HIV.out, ha]; rfl
      have HA := Lib.hid ha
      clear ha
      go_wp2
      refine bodyPost_ret (v := .tuple #[.agg #[.pointer pv, .string nm, .pointer (some a)], .int .i64 0]) ?_ rfl ?_
      · simp [results, Tryd.results67, go_sem, R0, R1, R2]
      · unfold WalkOut
        rw [HT.out, if_neg (fun h => by cases h.2), HPV.out, HA.out]
        exact ⟨rfl, KF _ _ _⟩
  · have heb : (er == 0) = false := by rw [beq_eq_false_iff_ne]; exact he
    have HE := Lib.hid he
    clear he
    go_wp2
    refine bodyPost_ret (v := .tuple #[.agg #[.pointer pv, .string nm, .pointer iv], .int .i64 er]) ?_ rfl ?_
    · simp [results, Tryd.results67, go_sem, R0, R1, R2]
    · unfold WalkOut
      rw [HT.out, if_neg (fun h => HE.out h.1), HPV.out, HIV.out]
      exact ⟨rfl, KF _ _ _⟩

set_option maxRecDepth 100000 in
set_option maxHeartbeats 4000000 in
theorem file_any (mb : Nat) (ms : List NdM) (s : Md.St) (path : ByteArray) (w : World) (h : IsM w mb ms s) (k : Ok s) (hp : path.size ≤ 300) (T : Tabs w) (hin : ∀ i, (Md.there s path).1.is' = some i → i < s.length) :
    Calls Tryd.prog 70 #[.pointer (some ⟨mb, 0, none⟩), .string path] w fun e w' => FileOut ms (Md.file s path) w w' e := by
  go_enter Tryd.func70, Tryd.ntmps70
  go_wp2_with fail
  refine (there_any mb ms s path _ h k hp T).mono ?_
  rintro e w1 ⟨rfl, K1⟩
  obtain ⟨R, hR⟩ : ∃ R, R = Md.there s path := ⟨_, rfl⟩
  have hsome : R.2 = 0 → R.1.is' ≠ none := by rw [hR]; exact there_some s path
  rw [← hR] at hin ⊢
  have hF : Md.file s path = match R.1.is' with | some i => if R.2 = 0 ∧ Md.isDir s i = true then (some i, 5) else (some i, R.2) | none => (none, R.2) := by unfold Md.file; rw [← hR]; rfl
  have HF := Lib.hid hF
  obtain ⟨⟨par, nm, is⟩, er⟩ := R
  obtain ⟨pv, hpv⟩ : ∃ v, v = par.map (fun i => at0 (blkOf ms i)) := ⟨_, rfl⟩
  obtain ⟨iv, hiv⟩ : ∃ v, v = is.map (fun i => at0 (blkOf ms i)) := ⟨_, rfl⟩
  simp only [plL]
  rw [← hpv, ← hiv]
  have HIV := Lib.hid hiv
  have hM := h.mem.keep K1 (by simp)
  clear hF hR hpv hiv
  go_upto_region 2 with fail
  obtain ⟨W, hW⟩ : ∃ W, W = w1.alloc (.cells #[.pointer pv, .string nm, .pointer iv] 88) := ⟨_, rfl⟩
  obtain ⟨b6, hb6⟩ : ∃ b, b = w1.heap.size := ⟨_, rfl⟩
  have BP : Blk W b6 [.pointer pv, .string nm, .pointer iv] 88 := by rw [hW, hb6]; exact Blk.new' w1 _ _
  have k1 : Keep [] w1 W := by rw [hW]; exact (Keep.refl _ _).alloc _
  have KW : Keep [] w W := K1.trans k1 (by simp)
  have hMW := hM.keep k1 (by simp)
  rw [← hW, ← hb6]
  clear hW hb6 K1 k1 hM
  have z0 := BP.cell 0
  have z1 := BP.cell 1
  have z2 := BP.cell 2
  simp only [List.getElem?_cons_zero, List.getElem?_cons_succ] at z0 z1 z2
  by_cases he : er = 0
  · subst he
    cases is with
    | none => exact absurd rfl (hsome rfl)
    | some q =>
      have hq := hin q rfl
      obtain ⟨nd, hnd⟩ : ∃ nd, s[q]? = some nd := ⟨_, List.getElem?_eq_getElem hq⟩
      obtain ⟨y, hy⟩ := hMW.both' hnd
      have hN := hMW.at' q y nd hy hnd
      obtain ⟨bq, hbq⟩ : ∃ b, b = blkOf ms q := ⟨_, rfl⟩
      have hyb : y.b = bq := by rw [hbq]; unfold blkOf; rw [hy]
      have Bq := hN.blk
      rw [hyb] at Bq
      obtain rfl : iv = some (at0 bq) := by rw [HIV.out, hbq]; rfl
      have hdir : Md.isDir s q = y.m.isSome := by
        unfold Md.isDir
        rw [hnd]
        rcases hN.ents with ⟨em, ed, _⟩ | ⟨m, em, ed, _⟩ <;> rw [em] <;> exact ed
      have HBQ := Lib.hid hbq
      cases hm : y.m with
      | none =>
        rw [hm] at Bq hdir
        have hf : Md.file s path = (some q, 0) := by rw [HF.out]; show (if _ then _ else _) = _; rw [if_neg (by rw [hdir]; simp)]
        have HF2 := Lib.hid hf
        clear hf hdir hN hy hnd hbq hyb
        go_wp2_with (go_at_call 63; refine (dir_any bq none _ _ _ Bq).mono ?_; rintro e w' ⟨rfl, rfl⟩)
        refine bodyPost_ret (v := .tuple #[.pointer (some (at0 bq)), .int .i64 0]) ?_ rfl ?_
        · simp [results, Tryd.results70, go_sem]
        · unfold FileOut
          rw [HF2.out, HBQ.out]
          exact ⟨rfl, KW⟩
      | some m =>
        rw [hm] at Bq hdir
        have hf : Md.file s path = (some q, 5) := by rw [HF.out]; show (if _ then _ else _) = _; rw [if_pos ⟨rfl, by rw [hdir]; rfl⟩]
        have HF2 := Lib.hid hf
        clear hf hdir hN hy hnd hbq hyb
        go_wp2_with (go_at_call 63; refine (dir_any bq (some m) _ _ _ Bq).mono ?_; rintro e w' ⟨rfl, rfl⟩)
        refine bodyPost_ret (v := .tuple #[.pointer (some (at0 bq)), .int .i64 5]) ?_ rfl ?_
        · simp [results, Tryd.results70, go_sem]
        · unfold FileOut
          rw [HF2.out, HBQ.out]
          exact ⟨rfl, KW⟩
  · have heb : (er == 0) = false := by rw [beq_eq_false_iff_ne]; exact he
    have hf : Md.file s path = (is, er) := by
      rw [HF.out]
      cases is with
      | none => rfl
      | some i => show (if _ then _ else _) = _; rw [if_neg (fun h => he h.1)]
    have HF2 := Lib.hid hf
    clear he hf
    go_wp2
    refine bodyPost_ret (v := .tuple #[.pointer iv, .int .i64 er]) ?_ rfl ?_
    · simp [results, Tryd.results70, go_sem]
    · unfold FileOut
      rw [HF2.out, HIV.out]
      exact ⟨rfl, KW⟩
end Go.Proofs.YtbmbjedpeepnfaaDoor
