/-
  What the laws of package model share: a law's own file system, the small case, ops cut and done, two answers that are the same. No condition but what each theorem says.
-/
import Derived.Test.YtbmbjedpeepnfaaDoorMdAC
import Derived.Test.YtbmbjedpeepnfaaDoorMdPa
import Derived.Test.YtbmbjedpeepnfaaDoorNmM
import Derived.Deep.Slices
import Derived.Laws.StructEq
/-
  A law's own file system: what Do does to it, and to what else the law has. No condition but that the op was cut.
-/
namespace Go.Proofs.YtbmbjedpeepnfaaDoor
open Go.RowKit Go.Shelf

/-- a file system that the law made -/
structure LM (w0 w : World) (mb : Nat) (ms : List NdM) (s : Md.St) : Prop where
  is : IsM w mb ms s
  keep : Keep [] w0 w
  new : ∀ k ∈ fps ms, w0.heap.size ≤ k

theorem LM.step {w0 w w' : World} {mb : Nat} {ms : List NdM} {s : Md.St} (h : LM w0 w mb ms s) (k : Keep [] w w') : LM w0 w' mb ms s :=
  ⟨h.is.keep k (by simp) (by simp), h.keep.trans k (by simp), h.new⟩

theorem LM.over {w0 w w' : World} {mb : Nat} {ms : List NdM} {s : Md.St} {F : List Nat} (h : LM w0 w mb ms s) (k : Keep F w w') (hm : mb ∉ F) (hF : ∀ x ∈ F, x ∉ fps ms ∧ w0.heap.size ≤ x) : LM w0 w' mb ms s :=
  ⟨h.is.keep k hm (fun i hi e => (hF i e).1 hi), h.keep.trans k (fun x hx => Or.inr (hF x hx).2), h.new⟩

/-- an answer's cells -/
abbrev repL (ao : Option Addr) (c : Nat) (r : Md.Rep) : List Value := [.int .i64 r.err, .string r.data, .slice ao r.names.length c, .bool r.dir, .int .i64 r.links, .int .i64 r.size]

def LDo (w0 : World) (mb : Nat) (ms : List NdM) (s' : Md.St) (r : Md.Rep) (w w' : World) (e : Ending) : Prop :=
  ∃ ms' ao c, e = .returned (.agg #[.int .i64 r.err, .string r.data, .slice ao r.names.length c, .bool r.dir, .int .i64 r.links, .int .i64 r.size]) ∧ w'.ownsRow w.heap.size 9 1 (.slice ao r.names.length c) r.names.length (r.names.map Value.string) ∧ LM w0 w' mb ms' s' ∧ Keep (fps ms) w w' ∧ (∀ b, b < w.heap.size → b ∉ fps ms → b ∉ fps ms') ∧ (∀ k ∈ rowOf (.slice ao r.names.length c), k ∉ fps ms')

theorem ldo {w0 w : World} {mb : Nat} {ms : List NdM} {s s' : Md.St} {o : Md.Op} {r : Md.Rep} {c : Nat} (h : LM w0 w mb ms s) (g : Md.Good c s) (hc : c < 100000) (ok : OpOk o) (T : Tabs w0) (hs : Md.step s o = (s', r)) :
    Calls Tryd.prog 22 #[.pointer (some ⟨mb, 0, none⟩), .agg (opL o).toArray] w fun e w' => LDo w0 mb ms s' r w w' e := by
  refine (do_any mb ms s o w h.is c g hc ok (T.keep h.keep (by simp))).mono ?_
  rintro e w' ⟨ms', ao, cp, rfl, hrow, hM, k, hf, hd⟩
  rw [hs] at hrow hM hd ⊢
  refine ⟨ms', ao, cp, rfl, hrow, ⟨hM, h.keep.trans k (fun x hx => Or.inr (h.new x hx)), fun x hx => ?_⟩, k, fun b hb hn hb' => ?_, hd⟩
  · rcases hf x hx with e | e
    · exact h.new x e
    · exact Nat.le_trans h.keep.size e
  · rcases hf b hb' with e | e
    · exact hn e
    · omega

/-- a new one -/
theorem lnew (w : World) : Calls Tryd.prog 18 #[] w fun e w' => ∃ mb ms, e = .returned (.pointer (some ⟨mb, 0, none⟩)) ∧ LM w w' mb ms Md.new := by
  refine (new_any w).mono ?_
  rintro e w' ⟨mb, ms, rfl, hI, k, hn, _⟩
  exact ⟨mb, ms, rfl, ⟨hI, k, hn⟩⟩
end Go.Proofs.YtbmbjedpeepnfaaDoor

/-
  The small case that each law of package model begins with: it answers true. No condition but that the library's tables are laid.
-/
namespace Go.Proofs.YtbmbjedpeepnfaaDoor
open Go.RowKit Go.Shelf

theorem okOp {o : Md.Op} (h0 : 0 ≤ o.kind) (h1 : o.kind ≤ 1000) (hp : o.path.size ≤ 300) (ht : o.to'.size ≤ 300) (ho : 0 ≤ o.off) (ho1 : o.off ≤ 100000000) (hn : 0 ≤ o.n) (hn1 : o.n ≤ 100000000) (hd : o.data.size ≤ 5000) : OpOk o :=
  ⟨by omega, by omega, hp, ht, by omega, by omega, by omega, by omega, hd⟩

set_option maxRecDepth 100000 in
set_option maxHeartbeats 8000000 in
theorem lshown_any (w : World) (T : Tabs w) : Calls Tryd.prog 17 #[] w fun e w' => e = .returned (.bool true) ∧ Keep [] w w' := by
  have HT := Lib.hid T
  have g0 := Md.Good_new
  have g1 : Md.Good 2 Md.S1 := by have := g0.step (⟨5, ⟨#[47, 97]⟩, ⟨#[]⟩, 0, 0, ⟨#[]⟩⟩ : Md.Op); rw [Md.st1] at this; exact this
  have g2 : Md.Good 4 Md.S2 := by have := g1.step (⟨4, ⟨#[47, 97]⟩, ⟨#[]⟩, 2, 0, ⟨#[120]⟩⟩ : Md.Op); rw [Md.st2] at this; exact this
  have g3 : Md.Good 6 Md.S2 := by have := g2.step (⟨3, ⟨#[47, 97]⟩, ⟨#[]⟩, 0, 9, ⟨#[]⟩⟩ : Md.Op); rw [Md.st3] at this; exact this
  have g4 : Md.Good 8 Md.S4 := by have := g3.step (⟨6, ⟨#[47, 100]⟩, ⟨#[]⟩, 0, 0, ⟨#[]⟩⟩ : Md.Op); rw [Md.st4] at this; exact this
  have g5 : Md.Good 10 Md.S4 := by have := g4.step (⟨9, ⟨#[47, 100]⟩, ⟨#[47, 100, 47, 101]⟩, 0, 0, ⟨#[]⟩⟩ : Md.Op); rw [Md.st5] at this; exact this
  have g6 : Md.Good 12 Md.S4 := by have := g5.step (⟨2, ⟨#[47]⟩, ⟨#[]⟩, 0, 0, ⟨#[]⟩⟩ : Md.Op); rw [Md.st6] at this; exact this
  have HG0 := Lib.hid g0
  have HG1 := Lib.hid g1
  have HG2 := Lib.hid g2
  have HG3 := Lib.hid g3
  have HG4 := Lib.hid g4
  have HG5 := Lib.hid g5
  clear T g0 g1 g2 g3 g4 g5 g6
  go_enter Tryd.func17, Tryd.ntmps17
  go_wp2_with fail
  refine (lnew w).mono ?_
  rintro e w1 ⟨mb, m0, rfl, L0⟩
  have c1 := ldo L0 HG0.out (by omega) (okOp (o := ⟨5, ⟨#[47, 97]⟩, ⟨#[]⟩, 0, 0, ⟨#[]⟩⟩) (by decide) (by decide) (by decide) (by decide) (by decide) (by decide) (by decide) (by decide) (by decide)) HT.out Md.st1
  simp only [opL] at c1
  clear L0
  go_upto_region 5 with (go_at_call 22; refine c1.mono ?_; rintro e v1 ⟨m1, a1, q1, rfl, row1, L1, k1, d1, sep1⟩)
  simp only [Md.er, List.length_nil, List.map_nil] at row1 sep1 ⊢
  obtain ⟨W1, hW1⟩ : ∃ W, W = v1.alloc (.cells ([.int .i64 0, .string ⟨#[]⟩, .slice a1 0 q1, .bool false, .int .i64 0, .int .i64 0] : List Value).toArray 33) := ⟨_, rfl⟩
  obtain ⟨r1, hr1⟩ : ∃ b, b = v1.heap.size := ⟨_, rfl⟩
  have R1 : Blk W1 r1 [.int .i64 0, .string ⟨#[]⟩, .slice a1 0 q1, .bool false, .int .i64 0, .int .i64 0] 33 := by rw [hW1, hr1]; exact Blk.new' v1 _ _
  have kW1 : Keep [] v1 W1 := by rw [hW1]; exact (Keep.refl _ _).alloc _
  have n1 : r1 ∉ fps m1 := fun e => by have := L1.is.mem.lt r1 e; omega
  have L1 := L1.step kW1
  rw [← hW1, ← hr1]
  clear c1 k1 d1 hW1 hr1 row1 sep1 kW1
  have c2 := ldo L1 HG1.out (by omega) (okOp (o := ⟨4, ⟨#[47, 97]⟩, ⟨#[]⟩, 2, 0, ⟨#[120]⟩⟩) (by decide) (by decide) (by decide) (by decide) (by decide) (by decide) (by decide) (by decide) (by decide)) HT.out Md.st2
  simp only [opL] at c2
  clear L1
  go_upto_region 6 with (go_at_call 22; refine c2.mono ?_; rintro e v2 ⟨m2, a2, q2, rfl, row2, L2, k2, d2, sep2⟩)
  simp only [Md.er, List.length_nil, List.map_nil] at row2 sep2 ⊢
  obtain ⟨W2, hW2⟩ : ∃ W, W = v2.alloc (.cells ([.int .i64 0, .string ⟨#[]⟩, .slice a2 0 q2, .bool false, .int .i64 0, .int .i64 0] : List Value).toArray 33) := ⟨_, rfl⟩
  obtain ⟨r2, hr2⟩ : ∃ b, b = v2.heap.size := ⟨_, rfl⟩
  have R2 : Blk W2 r2 [.int .i64 0, .string ⟨#[]⟩, .slice a2 0 q2, .bool false, .int .i64 0, .int .i64 0] 33 := by rw [hW2, hr2]; exact Blk.new' v2 _ _
  have kW2 : Keep [] v2 W2 := by rw [hW2]; exact (Keep.refl _ _).alloc _
  have n2 : r2 ∉ fps m2 := fun e => by have := L2.is.mem.lt r2 e; omega
  have L2 := L2.step kW2
  have R1x := (R1.keep k2 n1).keep kW2 (by simp)
  have n1 := d2 r1 R1.lt n1
  clear R1
  have R1 := R1x
  clear R1x
  rw [← hW2, ← hr2]
  clear c2 k2 d2 hW2 hr2 row2 sep2 kW2
  have c3 := ldo L2 HG2.out (by omega) (okOp (o := ⟨3, ⟨#[47, 97]⟩, ⟨#[]⟩, 0, 9, ⟨#[]⟩⟩) (by decide) (by decide) (by decide) (by decide) (by decide) (by decide) (by decide) (by decide) (by decide)) HT.out Md.st3
  simp only [opL] at c3
  clear L2
  go_upto_region 7 with (go_at_call 22; refine c3.mono ?_; rintro e v3 ⟨m3, a3, q3, rfl, row3, L3, k3, d3, sep3⟩)
  simp only [List.length_nil, List.map_nil] at row3 sep3 ⊢
  obtain ⟨W3, hW3⟩ : ∃ W, W = v3.alloc (.cells ([.int .i64 0, .string ⟨#[0, 0, 120]⟩, .slice a3 0 q3, .bool false, .int .i64 0, .int .i64 0] : List Value).toArray 33) := ⟨_, rfl⟩
  obtain ⟨r3, hr3⟩ : ∃ b, b = v3.heap.size := ⟨_, rfl⟩
  have R3 : Blk W3 r3 [.int .i64 0, .string ⟨#[0, 0, 120]⟩, .slice a3 0 q3, .bool false, .int .i64 0, .int .i64 0] 33 := by rw [hW3, hr3]; exact Blk.new' v3 _ _
  have kW3 : Keep [] v3 W3 := by rw [hW3]; exact (Keep.refl _ _).alloc _
  have n3 : r3 ∉ fps m3 := fun e => by have := L3.is.mem.lt r3 e; omega
  have L3 := L3.step kW3
  have R1x := (R1.keep k3 n1).keep kW3 (by simp)
  have n1 := d3 r1 R1.lt n1
  clear R1
  have R1 := R1x
  clear R1x
  have R2x := (R2.keep k3 n2).keep kW3 (by simp)
  have n2 := d3 r2 R2.lt n2
  clear R2
  have R2 := R2x
  clear R2x
  rw [← hW3, ← hr3]
  clear c3 k3 d3 hW3 hr3 row3 sep3 kW3
  have c4 := ldo L3 HG3.out (by omega) (okOp (o := ⟨6, ⟨#[47, 100]⟩, ⟨#[]⟩, 0, 0, ⟨#[]⟩⟩) (by decide) (by decide) (by decide) (by decide) (by decide) (by decide) (by decide) (by decide) (by decide)) HT.out Md.st4
  simp only [opL] at c4
  clear L3
  go_upto_region 8 with (go_at_call 22; refine c4.mono ?_; rintro e v4 ⟨m4, a4, q4, rfl, row4, L4, k4, d4, sep4⟩)
  simp only [Md.er, List.length_nil, List.map_nil] at row4 sep4 ⊢
  obtain ⟨W4, hW4⟩ : ∃ W, W = v4.alloc (.cells ([.int .i64 0, .string ⟨#[]⟩, .slice a4 0 q4, .bool false, .int .i64 0, .int .i64 0] : List Value).toArray 33) := ⟨_, rfl⟩
  obtain ⟨r4, hr4⟩ : ∃ b, b = v4.heap.size := ⟨_, rfl⟩
  have R4 : Blk W4 r4 [.int .i64 0, .string ⟨#[]⟩, .slice a4 0 q4, .bool false, .int .i64 0, .int .i64 0] 33 := by rw [hW4, hr4]; exact Blk.new' v4 _ _
  have kW4 : Keep [] v4 W4 := by rw [hW4]; exact (Keep.refl _ _).alloc _
  have n4 : r4 ∉ fps m4 := fun e => by have := L4.is.mem.lt r4 e; omega
  have L4 := L4.step kW4
  have R1x := (R1.keep k4 n1).keep kW4 (by simp)
  have n1 := d4 r1 R1.lt n1
  clear R1
  have R1 := R1x
  clear R1x
  have R2x := (R2.keep k4 n2).keep kW4 (by simp)
  have n2 := d4 r2 R2.lt n2
  clear R2
  have R2 := R2x
  clear R2x
  have R3x := (R3.keep k4 n3).keep kW4 (by simp)
  have n3 := d4 r3 R3.lt n3
  clear R3
  have R3 := R3x
  clear R3x
  rw [← hW4, ← hr4]
  clear c4 k4 d4 hW4 hr4 row4 sep4 kW4
  have c5 := ldo L4 HG4.out (by omega) (okOp (o := ⟨9, ⟨#[47, 100]⟩, ⟨#[47, 100, 47, 101]⟩, 0, 0, ⟨#[]⟩⟩) (by decide) (by decide) (by decide) (by decide) (by decide) (by decide) (by decide) (by decide) (by decide)) HT.out Md.st5
  simp only [opL] at c5
  clear L4
  go_upto_region 9 with (go_at_call 22; refine c5.mono ?_; rintro e v5 ⟨m5, a5, q5, rfl, row5, L5, k5, d5, sep5⟩)
  simp only [Md.er, List.length_nil, List.map_nil] at row5 sep5 ⊢
  obtain ⟨W5, hW5⟩ : ∃ W, W = v5.alloc (.cells ([.int .i64 1, .string ⟨#[]⟩, .slice a5 0 q5, .bool false, .int .i64 0, .int .i64 0] : List Value).toArray 33) := ⟨_, rfl⟩
  obtain ⟨r5, hr5⟩ : ∃ b, b = v5.heap.size := ⟨_, rfl⟩
  have R5 : Blk W5 r5 [.int .i64 1, .string ⟨#[]⟩, .slice a5 0 q5, .bool false, .int .i64 0, .int .i64 0] 33 := by rw [hW5, hr5]; exact Blk.new' v5 _ _
  have kW5 : Keep [] v5 W5 := by rw [hW5]; exact (Keep.refl _ _).alloc _
  have n5 : r5 ∉ fps m5 := fun e => by have := L5.is.mem.lt r5 e; omega
  have L5 := L5.step kW5
  have R1x := (R1.keep k5 n1).keep kW5 (by simp)
  have n1 := d5 r1 R1.lt n1
  clear R1
  have R1 := R1x
  clear R1x
  have R2x := (R2.keep k5 n2).keep kW5 (by simp)
  have n2 := d5 r2 R2.lt n2
  clear R2
  have R2 := R2x
  clear R2x
  have R3x := (R3.keep k5 n3).keep kW5 (by simp)
  have n3 := d5 r3 R3.lt n3
  clear R3
  have R3 := R3x
  clear R3x
  have R4x := (R4.keep k5 n4).keep kW5 (by simp)
  have n4 := d5 r4 R4.lt n4
  clear R4
  have R4 := R4x
  clear R4x
  rw [← hW5, ← hr5]
  clear c5 k5 d5 hW5 hr5 row5 sep5 kW5
  have c6 := ldo L5 HG5.out (by omega) (okOp (o := ⟨2, ⟨#[47]⟩, ⟨#[]⟩, 0, 0, ⟨#[]⟩⟩) (by decide) (by decide) (by decide) (by decide) (by decide) (by decide) (by decide) (by decide) (by decide)) HT.out Md.st6
  simp only [opL] at c6
  clear L5
  go_upto_region 10 with (go_at_call 22; refine c6.mono ?_; rintro e v6 ⟨m6, a6, q6, rfl, row6, L6, k6, d6, sep6⟩)
  simp only [List.length_nil, List.length_cons, Nat.reduceAdd, List.map_nil, List.map_cons] at row6 sep6 ⊢
  obtain ⟨W6, hW6⟩ : ∃ W, W = v6.alloc (.cells ([.int .i64 0, .string ⟨#[]⟩, .slice a6 2 q6, .bool false, .int .i64 0, .int .i64 0] : List Value).toArray 33) := ⟨_, rfl⟩
  obtain ⟨r6, hr6⟩ : ∃ b, b = v6.heap.size := ⟨_, rfl⟩
  have R6 : Blk W6 r6 [.int .i64 0, .string ⟨#[]⟩, .slice a6 2 q6, .bool false, .int .i64 0, .int .i64 0] 33 := by rw [hW6, hr6]; exact Blk.new' v6 _ _
  have kW6 : Keep [] v6 W6 := by rw [hW6]; exact (Keep.refl _ _).alloc _
  have n6 : r6 ∉ fps m6 := fun e => by have := L6.is.mem.lt r6 e; omega
  have L6 := L6.step kW6
  have R1x := (R1.keep k6 n1).keep kW6 (by simp)
  have n1 := d6 r1 R1.lt n1
  clear R1
  have R1 := R1x
  clear R1x
  have R2x := (R2.keep k6 n2).keep kW6 (by simp)
  have n2 := d6 r2 R2.lt n2
  clear R2
  have R2 := R2x
  clear R2x
  have R3x := (R3.keep k6 n3).keep kW6 (by simp)
  have n3 := d6 r3 R3.lt n3
  clear R3
  have R3 := R3x
  clear R3x
  have R4x := (R4.keep k6 n4).keep kW6 (by simp)
  have n4 := d6 r4 R4.lt n4
  clear R4
  have R4 := R4x
  clear R4x
  have R5x := (R5.keep k6 n5).keep kW6 (by simp)
  have n5 := d6 r5 R5.lt n5
  clear R5
  have R5 := R5x
  clear R5x
  have row6 := row6
  rw [← hW6, ← hr6]
  clear c6 k6 d6 hW6 hr6
  have z1 := R1.cell 0
  have z2 := R2.cell 0
  have z3 := R3.cell 1
  have z4 := R4.cell 0
  have z5 := R5.cell 0
  have z6 := R6.cell 2
  simp only [List.getElem?_cons_zero, List.getElem?_cons_succ] at z1 z2 z3 z4 z5 z6
  rcases row6.2 with ⟨_, h0⟩ | ⟨gg, cap, cur, e, _, hg, hcap, _, hcs, htk⟩
  · cases h0
  · injection e with e1 _ e3
    subst e1 e3
    have hgW := (kW6.block gg (Array.getElem?_eq_some_iff.1 hg).1 (by simp)).trans hg
    have y0 := cell_of_row W6 gg 0 cur 9 (0, 0) hgW
    have hc0 : cur[0]? = some (.string Md.a1) := by
      have : (cur.toList.take (2 * 1))[0]? = some (.string Md.a1) := by rw [htk]; rfl
      rw [List.getElem?_take, if_pos (by omega)] at this
      simpa using this
    rw [hc0] at y0
    unfold Md.a1 at y0
    have KL := L6.keep
    clear row6 sep6 hg hcap hcs htk hgW hc0 R1 R2 R3 R4 R5 R6 n1 n2 n3 n4 n5 n6 L6 kW6
    go_wp2
    go_ret
    exact ⟨rfl, KL⟩
end Go.Proofs.YtbmbjedpeepnfaaDoor

/-
  A law's ops among its arguments; an op is cut; all ops are done. No condition.
-/
namespace Go.Proofs.YtbmbjedpeepnfaaDoor
open Go.RowKit Go.ChangeMaps

/-- an op's cells, from a place on -/
def OpCells (W : World) (b f : Nat) (o : Md.Op) : Prop :=
  W.cell? ⟨b, f, none⟩ = some (.int .i64 o.kind) ∧ W.cell? ⟨b, f + 1, none⟩ = some (.string o.path) ∧ W.cell? ⟨b, f + 2, none⟩ = some (.string o.to') ∧ W.cell? ⟨b, f + 3, none⟩ = some (.int .i64 o.off) ∧ W.cell? ⟨b, f + 4, none⟩ = some (.int .i64 o.n) ∧ W.cell? ⟨b, f + 5, none⟩ = some (.string o.data)

/-- what an op's numbers and texts are -/
structure OpFit (o : Md.Op) : Prop where
  k0 : -9223372036854775808 ≤ o.kind
  k1 : o.kind ≤ 9223372036854775807
  o0 : -9223372036854775808 ≤ o.off
  o1 : o.off ≤ 9223372036854775807
  n0 : -9223372036854775808 ≤ o.n
  n1 : o.n ≤ 9223372036854775807
  p : o.path.size ≤ 9223372036854775807
  t : o.to'.size ≤ 9223372036854775807
  d : o.data.size ≤ 9223372036854775807

/-- ops in memory, as a slice -/
def OpsA (W : World) (ao : Option Addr) (l : List Md.Op) : Prop :=
  (∀ o ∈ l, OpFit o) ∧ (l = [] ∨ ∃ b f, ao = some ⟨b, f, none⟩ ∧ b < W.heap.size ∧ ∀ (i : Nat) o, l[i]? = some o → OpCells W b (f + i * 6) o)

theorem OpsA.keep {W W' : World} {ao : Option Addr} {l : List Md.Op} (h : OpsA W ao l) (k : Keep [] W W') : OpsA W' ao l := by
  refine ⟨h.1, ?_⟩
  rcases h.2 with e | ⟨b, f, e1, e2, e3⟩
  · exact Or.inl e
  · refine Or.inr ⟨b, f, e1, Nat.lt_of_lt_of_le e2 k.size, fun i o ho => ?_⟩
    obtain ⟨a0, a1, a2, a3, a4, a5⟩ := e3 i o ho
    exact ⟨(k.cell e2 (by simp)).trans a0, (k.cell e2 (by simp)).trans a1, (k.cell e2 (by simp)).trans a2, (k.cell e2 (by simp)).trans a3, (k.cell e2 (by simp)).trans a4, (k.cell e2 (by simp)).trans a5⟩

/-- an op, cut -/
def Md.cut (o : Md.Op) : Md.Op := ⟨o.kind, o.path.extract 0 (min (o.path.size : Int) 300).toNat, o.to'.extract 0 (min (o.to'.size : Int) 300).toNat, o.off, o.n, o.data.extract 0 (min (o.data.size : Int) 5000).toNat⟩

theorem cut_ok {o : Md.Op} (h : OpFit o) : OpOk (Md.cut o) := by
  refine ⟨h.k0, h.k1, ?_, ?_, h.o0, h.o1, h.n0, h.n1, ?_⟩ <;> (unfold Md.cut; simp only [ByteArray.size_extract]; omega)

set_option maxRecDepth 100000 in
set_option maxHeartbeats 4000000 in
theorem cut_any (o : Md.Op) (w : World) (h : OpFit o) : Calls Tryd.prog 23 #[.agg #[.int .i64 o.kind, .string o.path, .string o.to', .int .i64 o.off, .int .i64 o.n, .string o.data]] w fun e w' => e = .returned (.agg (opL (Md.cut o)).toArray) ∧ Keep [] w w' := by
  obtain ⟨kd, p, t, off, n, d⟩ := o
  have hp := h.p
  have ht := h.t
  have hd := h.d
  simp only at hp ht hd
  simp only [opL, Md.cut]
  go_enter Tryd.func23, Tryd.ntmps23
  go_wp2
  refine bodyPost_ret (v := .agg #[.int .i64 kd, .string (p.extract 0 (min (p.size : Int) 300).toNat), .string (t.extract 0 (min (t.size : Int) 300).toNat), .int .i64 off, .int .i64 n, .string (d.extract 0 (min (d.size : Int) 5000).toNat)]) ?_ rfl ⟨rfl, ((Keep.refl _ _).alloc _).alloc _⟩
  simp [results, Tryd.results23, go_sem]
end Go.Proofs.YtbmbjedpeepnfaaDoor

/-
  Ops among a law's arguments, opened; a row of ops is done. No condition.
-/
namespace Go.Proofs.YtbmbjedpeepnfaaDoor
open Go.RowKit Go.ChangeShapes Go.WideShapes Go.ChangeAt Go.Deep

theorem wf_i64s {n : Int} (h : (Lit.int .i64 n).wf = true) : -9223372036854775808 ≤ n ∧ n ≤ 9223372036854775807 := by
  simpa [Lit.wf, IntKind.min, IntKind.max, IntKind.signed, IntKind.bits] using h

theorem choose_lt' {α : Type} [Inhabited α] {n : Nat} {P : Nat → α → Prop} (h : ∀ i, i < n → ∃ x, P i x) : ∃ C : Nat → α, ∀ i, i < n → P i (C i) := by
  induction n with
  | zero => exact ⟨fun _ => default, fun i hi => absurd hi (by omega)⟩
  | succ n ih =>
    obtain ⟨C, hC⟩ := ih (fun i hi => h i (by omega))
    obtain ⟨x, hx⟩ := h n (by omega)
    refine ⟨fun i => if i = n then x else C i, fun i hi => ?_⟩
    by_cases e : i = n
    · subst e; simpa using hx
    · simp only [e, if_false]; exact hC i (by omega)

instance : Inhabited Md.Op := ⟨⟨0, ⟨#[]⟩, ⟨#[]⟩, 0, 0, ⟨#[]⟩⟩⟩

theorem open_ops {H : Type} {enc : TypeId × Value → H} {P : Program} {t e : TypeId} {f0 f1 f2 f3 f4 f5 : Field} (ht : P.underlying t = some (.slice e)) (he : P.underlying e = some (.struct #[f0, f1, f2, f3, f4, f5])) (ce : P.cellsOf e = 6)
    (o0 : f0.offset = 0) (o1 : f1.offset = 1) (o2 : f2.offset = 2) (o3 : f3.offset = 3) (o4 : f4.offset = 4) (o5 : f5.offset = 5)
    (c0 : P.cellsOf f0.type = 1) (c1 : P.cellsOf f1.type = 1) (c2 : P.cellsOf f2.type = 1) (c3 : P.cellsOf f3.type = 1) (c4 : P.cellsOf f4.type = 1) (c5 : P.cellsOf f5.type = 1)
    (t0 : P.underlying f0.type = some (.int .i64)) (t1 : P.underlying f1.type = some .string) (t2 : P.underlying f2.type = some .string) (t3 : P.underlying f3.type = some (.int .i64)) (t4 : P.underlying f4.type = some (.int .i64)) (t5 : P.underlying f5.type = some .string)
    {W : World} {base : Nat} {v : Value} {d : DataW H} {p : List MemPlace}
    (hval : Value.okWide P W .any base t v) (h : DataW.Trod enc P W 0 (fun _ => true) true t v d p) : ∃ (ao : Option Addr) (l : List Md.Op) (c : Nat), v = .slice ao l.length c ∧ l.length ≤ c ∧ l.length ≤ 9223372036854775807 ∧ OpsA W ao l := by
  obtain ⟨a0, len, cap, rfl⟩ := okWide_slice ht hval
  obtain ⟨fuel, hf⟩ := h
  rcases open_slice ht hf with ⟨hcs, hx⟩ | ⟨a, len', cap', m, n, D, Pl, hcs, _, hl, hm, hmm, _, hx⟩
  · simp [Value.cells] at hcs
    obtain ⟨rfl, rfl, rfl⟩ := hcs
    exact ⟨none, [], 0, rfl, Nat.le_refl _, by simp, by simp, Or.inl rfl⟩
  · simp [Value.cells] at hcs
    obtain ⟨rfl, rfl, rfl⟩ := hcs
    simp only [if_true] at hmm
    unfold maxLen at hm
    have key : ∀ i, i < len → ∃ o : Md.Op, OpFit o ∧ ∀ j u, [Value.int .i64 o.kind, .string o.path, .string o.to', .int .i64 o.off, .int .i64 o.n, .string o.data][j]? = some u → W.cell? ((a.add (i * 6)).add j) = some u := by
      intro i hi
      obtain ⟨cs', h1, h2⟩ := hx i (by omega)
      rw [ce] at h1
      obtain ⟨_, hlen, hcell⟩ := World.cells?_some h1
      obtain ⟨xs, k, hk, hxy, _, hxl, hf⟩ := DataW.trod_struct he h2
      match xs, hxl, cs', hlen with
      | [y0, y1, y2, y3, y4, y5], _, [u0, u1, u2, u3, u4, u5], _ =>
        have g0 := hf 0 f0 rfl
        have g1 := hf 1 f1 rfl
        have g2 := hf 2 f2 rfl
        have g3 := hf 3 f3 rfl
        have g4 := hf 4 f4 rfl
        have g5 := hf 5 f5 rfl
        simp [o0, o1, o2, o3, o4, o5, c0, c1, c2, c3, c4, c5] at g0 g1 g2 g3 g4 g5
        obtain ⟨n0, e0, _, w0⟩ := DataW.trod_int t0 g0
        obtain ⟨n1, e1, _, w1⟩ := DataW.trod_string t1 g1
        obtain ⟨n2, e2, _, w2⟩ := DataW.trod_string t2 g2
        obtain ⟨n3, e3, _, w3⟩ := DataW.trod_int t3 g3
        obtain ⟨n4, e4, _, w4⟩ := DataW.trod_int t4 g4
        obtain ⟨n5, e5, _, w5⟩ := DataW.trod_string t5 g5
        simp only [List.cons.injEq, and_true] at e0 e1 e2 e3 e4 e5
        subst e0 e1 e2 e3 e4 e5
        unfold maxLen at w1 w2 w5
        refine ⟨⟨n0, n1, n2, n3, n4, n5⟩, ⟨(wf_i64s w0).1, (wf_i64s w0).2, (wf_i64s w3).1, (wf_i64s w3).2, (wf_i64s w4).1, (wf_i64s w4).2, w1, w2, w5⟩, fun j u hu => ?_⟩
        have hj : j < 6 := by have := (List.getElem?_eq_some_iff.1 hu).1; simpa using this
        have := hcell j (by omega)
        rw [this]
        exact hu
    obtain ⟨C, hC⟩ := choose_lt' key
    have hlen : ((List.range len).map C).length = len := by simp
    refine ⟨some a, (List.range len).map C, cap, by rw [hlen], by rw [hlen]; exact hl, by rw [hlen]; omega, fun x hx => ?_, ?_⟩
    · obtain ⟨i, hi, rfl⟩ := List.mem_map.1 hx
      exact (hC i (by simpa using hi)).1
    · by_cases h0 : len = 0
      · left; subst h0; rfl
      · have c0 := (hC 0 (by omega)).2 0 _ rfl
        rw [Nat.zero_mul] at c0
        have hsp := World.cell?_spot c0
        have hb := World.block_lt_of_cell? W _ c0
        rw [show (a.add 0).add 0 = a from rfl] at hsp hb
        have ea : a = ⟨a.block, a.off, none⟩ := by cases a; simp at hsp; rw [hsp]
        refine Or.inr ⟨a.block, a.off, by rw [← ea], hb, fun i o ho => ?_⟩
        have hil : i < len := by have := (List.getElem?_eq_some_iff.1 ho).1; simpa using this
        rw [List.getElem?_map, List.getElem?_range hil] at ho
        have := Option.some.inj ho
        subst this
        have hc := (hC i hil).2
        have ad : ∀ j, (a.add (i * 6)).add j = ⟨a.block, a.off + i * 6 + j, none⟩ := fun j => by
          rw [add_add, ea]
          unfold Addr.add
          by_cases e : i * 6 + j = 0
          · rw [if_pos e]; simp <;> omega
          · rw [if_neg e]; simp <;> omega
        have q : ∀ j u, [Value.int .i64 (C i).kind, .string (C i).path, .string (C i).to', .int .i64 (C i).off, .int .i64 (C i).n, .string (C i).data][j]? = some u → W.cell? ⟨a.block, a.off + i * 6 + j, none⟩ = some u := fun j u hu => by rw [← ad]; exact hc j u hu
        exact ⟨q 0 _ rfl, q 1 _ rfl, q 2 _ rfl, q 3 _ rfl, q 4 _ rfl, q 5 _ rfl⟩
end Go.Proofs.YtbmbjedpeepnfaaDoor

/-
  A row of ops is done. No condition but that the ops lie in memory.
-/
namespace Go.Proofs.YtbmbjedpeepnfaaDoor
open Go.RowKit

theorem Md.steps_snoc (s : Md.St) (l : List Md.Op) (o : Md.Op) : Md.steps s (l ++ [o]) = (Md.step (Md.steps s l) o).1 := by
  induction l generalizing s with
  | nil => rfl
  | cons x l ih => exact ih _

theorem Md.good_steps {c : Nat} {s : Md.St} (g : Md.Good c s) : ∀ l : List Md.Op, Md.Good (c + 2 * l.length) (Md.steps s l) := by
  intro l
  induction l generalizing c s with
  | nil => exact g
  | cons o l ih =>
    have := ih (g.step o)
    refine Md.Good.mono ?_ this
    simp only [List.length_cons]; omega

theorem Md.U_steps {c : Nat} {s : Md.St} (u : Md.U s) (g : Md.Good c s) : ∀ l : List Md.Op, Md.U (Md.steps s l) := by
  intro l
  induction l generalizing c s with
  | nil => exact u
  | cons o l ih => exact ih (Md.U_step u g.ok o) (g.step o)

theorem take_succ_map {l : List Md.Op} {k : Nat} {o : Md.Op} (h : l[k]? = some o) : (l.take (k + 1)).map Md.cut = (l.take k).map Md.cut ++ [Md.cut o] := by
  rw [List.take_add_one, h]
  simp

set_option maxRecDepth 100000 in
set_option maxHeartbeats 4000000 in
theorem does_any {w0 : World} (mb : Nat) (ms : List NdM) (s : Md.St) (ao : Option Addr) (l : List Md.Op) (cap : Nat) (most : Nat) (w : World) (c : Nat) (h : LM w0 w mb ms s) (g : Md.Good c s) (hc : c + 2 * most < 100000) (A : OpsA w0 ao l) (hl : l.length ≤ 9223372036854775807) (T : Tabs w0) :
    Calls Tryd.prog 19 #[.pointer (some ⟨mb, 0, none⟩), .slice ao l.length cap, .int .i64 most] w fun e w' => e = .returned (.tuple #[]) ∧ ∃ ms', LM w0 w' mb ms' (Md.steps s ((l.take most).map Md.cut)) ∧ Keep (fps ms) w w' ∧ (∀ b, b < w.heap.size → b ∉ fps ms → b ∉ fps ms') := by
  have HA := Lib.hid A
  have HT := Lib.hid T
  have HG := Lib.hid g
  have HL := Lib.hid h
  obtain ⟨S, hS⟩ : ∃ S : Nat → Md.St, S = fun k => Md.steps s ((l.take k).map Md.cut) := ⟨_, rfl⟩
  have HS := Lib.hid hS
  clear A T g h hS
  go_enter Tryd.func19, Tryd.ntmps19
  go_wp2_with fail
  go_loopw [6] (fun i wr => ∃ (k : Nat) (ms' : List NdM), i = .int .i64 k ∧ k ≤ l.length ∧ k ≤ most ∧ LM w0 wr mb ms' (S k) ∧ Keep (fps ms) w wr ∧ Hid (∀ b, b < w.heap.size → b ∉ fps ms → b ∉ fps ms')) (fun i _ => l.length - (intOf i).toNat)
  case atStart => exact ⟨0, ms, rfl, by omega, by omega, by rw [HS.out]; exact HL.out, Keep.refl _ _, Lib.hid (fun _ _ hb => hb)⟩
  case round =>
    obtain ⟨k, ms', rfl, hk, hm, L, K, hd⟩ := hrel
    by_cases hlt : k < l.length
    · by_cases hmt : k < most
      · obtain ⟨o, ho⟩ : ∃ o, l[k]? = some o := ⟨_, List.getElem?_eq_getElem hlt⟩
        obtain ⟨hfit, hin⟩ := HA.out
        have hof := hfit o (List.mem_of_getElem? ho)
        rcases hin with e | ⟨b, f, rfl, hb, hcs⟩
        · rw [e] at hlt; simp at hlt
        · have hbr := Nat.lt_of_lt_of_le hb L.keep.size
          obtain ⟨a0, a1, a2, a3, a4, a5⟩ := hcs k o ho
          have x0 := (L.keep.cell (p := ⟨b, f + k * 6, none⟩) hb (by simp)).trans a0
          have x1 := (L.keep.cell (p := ⟨b, f + k * 6 + 1, none⟩) hb (by simp)).trans a1
          have x2 := (L.keep.cell (p := ⟨b, f + k * 6 + 2, none⟩) hb (by simp)).trans a2
          have x3 := (L.keep.cell (p := ⟨b, f + k * 6 + 3, none⟩) hb (by simp)).trans a3
          have x4 := (L.keep.cell (p := ⟨b, f + k * 6 + 4, none⟩) hb (by simp)).trans a4
          have x5 := (L.keep.cell (p := ⟨b, f + k * 6 + 5, none⟩) hb (by simp)).trans a5
          have cC := cut_any o wr hof
          have gk : Md.Good (c + 2 * k) (S k) := by
            rw [HS.out]
            have := Md.good_steps HG.out ((l.take k).map Md.cut)
            rw [List.length_map, List.length_take, Nat.min_eq_left (by omega)] at this
            exact this
          have hss : S (k + 1) = (Md.step (S k) (Md.cut o)).1 := by rw [HS.out]; show Md.steps s ((l.take (k + 1)).map Md.cut) = (Md.step (Md.steps s ((l.take k).map Md.cut)) _).1; rw [take_succ_map ho, Md.steps_snoc]
          have HSS := Lib.hid hss
          have HCU := Lib.hid (cut_ok hof)
          have HGK := Lib.hid gk
          have HLR := Lib.hid L
          clear gk hss hcs hfit hof ho a0 a1 a2 a3 a4 a5 L hb
          go_upto_region 2 with (first
            | (go_at_call 23; refine cC.mono ?_; rintro e w1 ⟨rfl, k1⟩)
            | (go_at_call 22; refine (ldo (HLR.out.step k1) HGK.out (by omega) HCU.out HT.out (Prod.eta _).symm).mono ?_; rintro e w2 ⟨ms2, ao2, q2, rfl, _, L2, k2, d2, _⟩))
          rw [← HSS.out] at L2
          have K2 : Keep (fps ms) w w2 := (K.trans k1 (by simp)).trans k2 (fun x hx => by
            by_cases e : x < w.heap.size
            · exact Or.inl (Decidable.byContradiction fun hn => hd.out x e hn hx)
            · exact Or.inr (by omega))
          have D2 : ∀ b, b < w.heap.size → b ∉ fps ms → b ∉ fps ms2 := fun b hb hn => d2 b (by have := K.size; have := k1.size; omega) (hd.out b hb hn)
          have HD2 := Lib.hid D2
          have HL2 := Lib.hid L2
          clear D2 L2 k1 k2 d2 HLR x0 x1 x2 x3 x4 x5 K cC
          go_wp2
          go_roundw
          case rel => exact ⟨k + 1, ms2, by go_num, by omega, by omega, HL2.out, K2, HD2⟩
          case measure => simp [intOf]; omega
      · obtain rfl : k = most := by omega
        have hS2 : S k = Md.steps s ((l.take k).map Md.cut) := by rw [HS.out]
        have HS2 := Lib.hid hS2
        have HL2 := Lib.hid L
        clear hS2 L
        go_wp2
        go_end0
        exact ⟨rfl, ms', by rw [← HS2.out]; exact HL2.out, K, hd.out⟩
    · have hS2 : S k = Md.steps s ((l.take most).map Md.cut) := by
        rw [HS.out]
        show Md.steps s ((l.take k).map Md.cut) = _
        rw [List.take_of_length_le (by omega : l.length ≤ k), List.take_of_length_le (by omega : l.length ≤ most)]
      have HS2 := Lib.hid hS2
      have HL2 := Lib.hid L
      clear hS2 L
      go_wp2
      go_end0
      exact ⟨rfl, ms', by rw [← HS2.out]; exact HL2.out, K, hd.out⟩
end Go.Proofs.YtbmbjedpeepnfaaDoor

/-
  Two answers that are the same: the document's Same says so. No condition but that their names lie in memory.
-/
namespace Go.Proofs.YtbmbjedpeepnfaaDoor
open Go.RowKit

section
variable {P : Program} {d : Nat} {xs ys : Array Value} {f : Field} {fs : List Field} {a b : Value} {r s : Bool} {w : World}
/-- one field more is compared -/
theorem eqFields_more (hn : f.name ≠ "_") (ha : (part f.type xs f.offset).run P w = .ok a w) (hb : (part f.type ys f.offset).run P w = .ok b w) (he : (Op.equalIn d f.type a b).run P w = .ok r w) (hr : (Op.eqFields d xs ys fs).run P w = .ok s w) :
    (Op.eqFields d xs ys (f :: fs)).run P w = .ok (r && s) w := by
  rw [Op.eqFields]
  simp only [if_pos hn, Sem.run_bind, ha, hb, he, Result.andThen_ok]
  cases r
  · simp
  · simpa using hr
theorem eqFields_none : (Op.eqFields d xs ys []).run P w = .ok true w := by simp [Op.eqFields]
theorem eqStruct {t : TypeId} {fs : Array Field} (hu : P.underlying t = some (.struct fs)) (hp : P.stoodInHeld t = false) (h : (Op.eqFields d xs ys fs.toList).run P w = .ok r w) : (Op.equalIn (d + 1) t (.agg xs) (.agg ys)).run P w = .ok r w := by
  have hf : P.fieldsOf t = fs := by simp [Program.fieldsOf, hu]
  rw [run_equalIn_struct (P := P) w d t xs ys (by rw [hf]; exact hu) hp, hf]
  exact h
end

theorem neqStat (w : World) (b : Bool) (x y : Int) (b' : Bool) (x' y' : Int) : (binOp .neq 31 (.agg #[.bool b, .int .i64 x, .int .i64 y]) (.agg #[.bool b', .int .i64 x', .int .i64 y'])).run Tryd.prog w = .ok (.bool (!(b == b' && (x == x' && (y == y' && true))))) w := by
  have h : (Op.equalIn 10000 31 (.agg #[.bool b, .int .i64 x, .int .i64 y]) (.agg #[.bool b', .int .i64 x', .int .i64 y'])).run Tryd.prog w = .ok (b == b' && (x == x' && (y == y' && true))) w := by
    refine eqStruct (d := 9999) Tryd.underlying31 (by kernel_rfl) ?_
    refine eqFields_more (by decide) (by go_simp; rfl) (by go_simp; rfl) (by go_simp) ?_
    refine eqFields_more (by decide) (by go_simp; rfl) (by go_simp; rfl) (by go_simp) ?_
    exact eqFields_more (by decide) (by go_simp; rfl) (by go_simp; rfl) (by go_simp) eqFields_none
  rw [run_neq_struct, h]
  rfl

theorem stat_neq (b : Bool) (x y : Int) (w : World) : (binOp BinOp.neq 31 (.agg #[.bool b, .int .i64 x, .int .i64 y]) (.agg #[.bool b, .int .i64 x, .int .i64 y])).run Tryd.prog w = .ok (.bool false) w := by
  rw [neqStat]
  simp

/-- names that lie in memory -/
def NamesA (w : World) (ao : Option Addr) (l : List ByteArray) : Prop := l = [] ∨ ∃ g, ao = some ⟨g, 0, none⟩ ∧ g < w.heap.size ∧ ∀ (j : Nat) x, l[j]? = some x → w.cell? ⟨g, j, none⟩ = some (.string x)

theorem NamesA.keep {w w' : World} {ao : Option Addr} {l : List ByteArray} (h : NamesA w ao l) (k : Keep [] w w') : NamesA w' ao l := by
  rcases h with e | ⟨g, e1, e2, e3⟩
  · exact Or.inl e
  · exact Or.inr ⟨g, e1, Nat.lt_of_lt_of_le e2 k.size, fun j x hj => (k.cell e2 (by simp)).trans (e3 j x hj)⟩

theorem NamesA.of {w : World} {base c : Nat} {ao : Option Addr} {l : List ByteArray} (h : w.ownsRow base 9 1 (.slice ao l.length c) l.length (l.map Value.string)) : NamesA w ao l := by
  rcases h.2 with ⟨_, h0⟩ | ⟨g, cap, cur, e, _, hg, _, _, _, htk⟩
  · exact Or.inl (List.eq_nil_of_length_eq_zero h0)
  · injection e with e1
    refine Or.inr ⟨g, e1, (Array.getElem?_eq_some_iff.1 hg).1, fun j x hj => ?_⟩
    have hjl : j < l.length := (List.getElem?_eq_some_iff.1 hj).1
    rw [cell_of_row w g j cur 9 (0, 0) hg]
    have : (cur.toList.take (l.length * 1))[j]? = some (.string x) := by rw [htk, List.getElem?_map, hj]; rfl
    rw [List.getElem?_take, if_pos (by omega)] at this
    simpa using this

set_option maxRecDepth 100000 in
set_option maxHeartbeats 4000000 in
theorem lsame_any (r : Md.Rep) (aa ab : Option Addr) (ca cb : Nat) (w : World) (ha : NamesA w aa r.names) (hb : NamesA w ab r.names) (hl : r.names.length ≤ 1000000) :
    Calls Tryd.prog 21 #[.agg #[.int .i64 r.err, .string r.data, .slice aa r.names.length ca, .bool r.dir, .int .i64 r.links, .int .i64 r.size], .agg #[.int .i64 r.err, .string r.data, .slice ab r.names.length cb, .bool r.dir, .int .i64 r.links, .int .i64 r.size]] w fun e w' => e = .returned (.bool true) ∧ Keep [] w w' := by
  obtain ⟨er, da, l, di, li, sz⟩ := r
  simp only at ha hb hl ⊢
  obtain ⟨w0, hw0⟩ : ∃ W, W = (w.alloc (.cells #[.int .i64 er, .string da, .slice aa l.length ca, .bool di, .int .i64 li, .int .i64 sz] 33)).alloc (.cells #[.int .i64 er, .string da, .slice ab l.length cb, .bool di, .int .i64 li, .int .i64 sz] 33) := ⟨_, rfl⟩
  obtain ⟨b2, hb2⟩ : ∃ b, b = w.heap.size := ⟨_, rfl⟩
  obtain ⟨b3, hb3⟩ : ∃ b, b = w.heap.size + 1 := ⟨_, rfl⟩
  have K0 : Keep [] w w0 := by rw [hw0]; exact ((Keep.refl _ _).alloc _).alloc _
  have B2 : Blk w0 b2 [.int .i64 er, .string da, .slice aa l.length ca, .bool di, .int .i64 li, .int .i64 sz] 33 := by rw [hw0, hb2]; exact (Blk.new' _ _ _).alloc _
  have B3 : Blk w0 b3 [.int .i64 er, .string da, .slice ab l.length cb, .bool di, .int .i64 li, .int .i64 sz] 33 := by
    have := Blk.new' (w.alloc (.cells #[.int .i64 er, .string da, .slice aa l.length ca, .bool di, .int .i64 li, .int .i64 sz] 33)) [.int .i64 er, .string da, .slice ab l.length cb, .bool di, .int .i64 li, .int .i64 sz] 33
    rw [hw0, hb3]
    simpa using this
  have HW := Lib.hid hw0
  have H2 := Lib.hid hb2
  have H3 := Lib.hid hb3
  have HA := Lib.hid (ha.keep K0)
  have HB := Lib.hid (hb.keep K0)
  clear hw0 hb2 hb3 ha hb
  have hneq := stat_neq di li sz
  go_enter Tryd.func21, Tryd.ntmps21
  go_upto_region 1 with fail
  rw [← HW.out, ← H3.out, ← H2.out]
  have p0 := B2.cell 0
  have p1 := B2.cell 1
  have p2 := B2.cell 2
  have p3 := B2.cell 3
  have p4 := B2.cell 4
  have p5 := B2.cell 5
  have q0 := B3.cell 0
  have q1 := B3.cell 1
  have q2 := B3.cell 2
  have q3 := B3.cell 3
  have q4 := B3.cell 4
  have q5 := B3.cell 5
  simp only [List.getElem?_cons_zero, List.getElem?_cons_succ] at p0 p1 p2 p3 p4 p5 q0 q1 q2 q3 q4 q5
  have HB23 := Lib.hid (And.intro B2 B3)
  clear B2 B3
  go_wp2_with fail
  go_loopw [5] (fun i wr => ∃ k : Nat, i = .int .i64 k ∧ k ≤ l.length ∧ Keep [] w0 wr) (fun i _ => l.length - (intOf i).toNat)
  case atStart => exact ⟨0, rfl, by omega, Keep.refl _ _⟩
  case round =>
    obtain ⟨k, rfl, hk, K⟩ := hrel
    have x2 := (HB23.out.1.keep K (by simp)).cell 2
    have y2 := (HB23.out.2.keep K (by simp)).cell 2
    simp only [List.getElem?_cons_zero, List.getElem?_cons_succ] at x2 y2
    by_cases hlt : k < l.length
    · obtain ⟨s, hs⟩ : ∃ s, l[k]? = some s := ⟨_, List.getElem?_eq_getElem hlt⟩
      rcases HA.out with e | ⟨g, rfl, hg, hgc⟩
      · rw [e] at hlt; simp at hlt
      · rcases HB.out with e | ⟨g', rfl, hg', hgc'⟩
        · rw [e] at hlt; simp at hlt
        · have KD : Keep [] wr wr.drew := (Keep.refl [] wr).drew
          have hx := (K.cell (p := ⟨g, k, none⟩) hg (by simp)).trans (hgc k s hs)
          have hy := (K.cell (p := ⟨g', k, none⟩) hg' (by simp)).trans (hgc' k s hs)
          clear hgc hgc' hs hg hg'
          go_upto_region 6 with fail
          go_quiet (fail)
          go_wp2
          go_roundw
          case rel => exact ⟨k + 1, by go_num, by omega, K.drewN _⟩
          case measure => simp [intOf]; omega
    · go_wp2
      go_ret
      exact ⟨rfl, K0.trans K (by simp)⟩
end Go.Proofs.YtbmbjedpeepnfaaDoor
