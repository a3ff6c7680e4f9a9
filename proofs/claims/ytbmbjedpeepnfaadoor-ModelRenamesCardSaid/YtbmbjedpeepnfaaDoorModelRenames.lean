/-
  ModelRenames: what is renamed is there by its new name, and not by the old one: the law returns true, for any ops, any two texts. Condition: none but the statement's own form.
-/
import Derived.Test.YtbmbjedpeepnfaaDoorMdLa
import Derived.Test.YtbmbjedpeepnfaaDoorMdPa
import Derived.Test.YtbmbjedpeepnfaaDoorArith
namespace Go.Proofs.YtbmbjedpeepnfaaDoor
open Go.RowKit Go.ChangeMaps

/-- names that lie by themselves -/
def NamesS (w : World) (ao : Option Addr) (l : List ByteArray) (ms : List NdM) : Prop := l = [] ∨ ∃ g, ao = some ⟨g, 0, none⟩ ∧ g < w.heap.size ∧ (∀ (j : Nat) x, l[j]? = some x → w.cell? ⟨g, j, none⟩ = some (.string x)) ∧ g ∉ fps ms

theorem NamesS.a {w : World} {ao : Option Addr} {l : List ByteArray} {ms : List NdM} (h : NamesS w ao l ms) : NamesA w ao l := by
  rcases h with e | ⟨g, e1, e2, e3, _⟩
  · exact Or.inl e
  · exact Or.inr ⟨g, e1, e2, e3⟩

theorem NamesS.keep {w w' : World} {ao : Option Addr} {l : List ByteArray} {ms : List NdM} (h : NamesS w ao l ms) (k : Keep [] w w') : NamesS w' ao l ms := by
  rcases h with e | ⟨g, e1, e2, e3, e4⟩
  · exact Or.inl e
  · exact Or.inr ⟨g, e1, Nat.lt_of_lt_of_le e2 k.size, fun j x hj => (k.cell e2 (by simp)).trans (e3 j x hj), e4⟩

theorem NamesS.did {w w' : World} {ao : Option Addr} {l : List ByteArray} {ms ms' : List NdM} (h : NamesS w ao l ms) (k : Keep (fps ms) w w') (d : ∀ b, b < w.heap.size → b ∉ fps ms → b ∉ fps ms') : NamesS w' ao l ms' := by
  rcases h with e | ⟨g, e1, e2, e3, e4⟩
  · exact Or.inl e
  · exact Or.inr ⟨g, e1, Nat.lt_of_lt_of_le e2 k.size, fun j x hj => (k.cell e2 e4).trans (e3 j x hj), d g e2 e4⟩

theorem NamesS.of {w : World} {base c : Nat} {ao : Option Addr} {l : List ByteArray} {ms : List NdM} (h : w.ownsRow base 9 1 (.slice ao l.length c) l.length (l.map Value.string)) (hs : ∀ k ∈ rowOf (.slice ao l.length c), k ∉ fps ms) : NamesS w ao l ms := by
  rcases NamesA.of h with e | ⟨g, e1, e2, e3⟩
  · exact Or.inl e
  · exact Or.inr ⟨g, e1, e2, e3, hs g (by rw [e1]; simp [rowOf, Value.ownBlock])⟩

theorem Md.names_bound {c : Nat} {s : Md.St} (g : Md.Good c s) (hc : c < 1000000) (o : Md.Op) : (Md.step s o).2.names.length ≤ 1000000 := by
  have hz : ∀ x : Int, (Md.er x).names.length ≤ 1000000 := fun x => Nat.zero_le _
  unfold Md.step
  by_cases p : Md.paths o ≠ 0
  · rw [if_pos p]; exact hz _
  rw [if_neg p]
  clear p
  by_cases p : Md.numbers o ≠ 0
  · rw [if_pos p]; exact hz _
  rw [if_neg p]
  clear p
  by_cases p : o.kind = 1
  · rw [if_pos p]
    unfold Md.stat
    simp only
    split
    · exact Nat.zero_le _
    · exact hz _
  rw [if_neg p]
  clear p
  by_cases p : o.kind = 2
  · rw [if_pos p]
    unfold Md.list
    simp only
    split
    · split
      · show (Md.names _).length ≤ _
        rw [Md.names_length]
        exact Nat.le_of_lt (g.bd.sz hc _)
      · exact hz _
    · exact hz _
  rw [if_neg p]
  clear p
  by_cases p : o.kind = 3
  · rw [if_pos p]
    unfold Md.read
    simp only
    split
    · exact Nat.zero_le _
    · exact hz _
  rw [if_neg p]
  clear p
  by_cases p : o.kind = 4
  · rw [if_pos p]; exact hz _
  rw [if_neg p]
  clear p
  by_cases p : o.kind = 11
  · rw [if_pos p]; exact hz _
  rw [if_neg p]
  clear p
  by_cases p : o.kind = 5 ∨ o.kind = 6
  · rw [if_pos p]; exact hz _
  rw [if_neg p]
  clear p
  by_cases p : o.kind = 7
  · rw [if_pos p]; exact hz _
  rw [if_neg p]
  clear p
  by_cases p : o.kind = 8
  · rw [if_pos p]; exact hz _
  rw [if_neg p]
  clear p
  by_cases p : o.kind = 10
  · rw [if_pos p]; exact hz _
  rw [if_neg p]
  clear p
  by_cases p : o.kind = 9
  · rw [if_pos p]; exact hz _
  rw [if_neg p]
  exact hz _

theorem okTell (k : Int) (p : ByteArray) (n : Int) (hk0 : 0 ≤ k) (hk : k ≤ 1000) (hp : p.size ≤ 300) (hn0 : 0 ≤ n) (hn : n ≤ 100000000) : OpOk (Md.tell k p n) :=
  okOp (o := Md.tell k p n) hk0 hk hp (Nat.zero_le _) (Int.le_refl 0) (by show (0 : Int) ≤ _; omega) hn0 hn (Nat.zero_le _)

theorem okRen (p t : ByteArray) (hp : p.size ≤ 300) (ht : t.size ≤ 300) : OpOk ⟨9, p, t, 0, 0, ⟨#[]⟩⟩ :=
  okOp (o := ⟨9, p, t, 0, 0, ⟨#[]⟩⟩) (by show (0 : Int) ≤ 9; omega) (by show (9 : Int) ≤ _; omega) hp ht (Int.le_refl 0) (by show (0 : Int) ≤ _; omega) (Int.le_refl 0) (by show (0 : Int) ≤ _; omega) (Nat.zero_le _)

set_option maxRecDepth 100000 in
set_option maxHeartbeats 16000000 in
theorem modelRenames_walk (ao : Option Addr) (l : List Md.Op) (cap : Nat) (F0 G0 : ByteArray) (w : World) (A : OpsA w ao l) (hl : l.length ≤ 9223372036854775807) (hF0 : F0.size ≤ 9223372036854775807) (hG0 : G0.size ≤ 9223372036854775807) (T : Tabs w) :
    Calls Tryd.prog 13 #[.slice ao l.length cap, .string F0, .string G0] w fun e w' => e = .returned (.bool true) ∧ Keep [] w w' := by
  obtain ⟨F, hF⟩ : ∃ F, F = F0.extract 0 (min (F0.size : Int) 200).toNat := ⟨_, rfl⟩
  obtain ⟨G, hG⟩ : ∃ G, G = G0.extract 0 (min (G0.size : Int) 200).toNat := ⟨_, rfl⟩
  have hFs : F.size ≤ 300 := by rw [hF, ByteArray.size_extract]; omega
  have hGs : G.size ≤ 300 := by rw [hG, ByteArray.size_extract]; omega
  have HF := Lib.hid hF
  have HG := Lib.hid hG
  have HA := Lib.hid A
  have HT := Lib.hid T
  clear hF hG A T
  go_enter Tryd.func13, Tryd.ntmps13
  go_wp2_with fail
  refine (lshown_any w HT.out).mono ?_
  rintro e w1 ⟨rfl, k1⟩
  have HT1 := Lib.hid (HT.out.keep k1 (by simp))
  have HA1 := Lib.hid (HA.out.keep k1)
  go_wp2_with fail
  refine (lnew w1).mono ?_
  rintro e w2 ⟨mb, m0, rfl, L0⟩
  have cD := does_any mb m0 Md.new ao l cap 40 w2 0 L0 Md.Good_new (by omega) HA1.out hl HT1.out
  rw [show ((40 : Nat) : Int) = 40 from rfl] at cD
  obtain ⟨s, hs⟩ : ∃ s, s = Md.steps Md.new ((l.take 40).map Md.cut) := ⟨_, rfl⟩
  have gs : Md.Good 80 s := by
    have := Md.good_steps Md.Good_new ((l.take 40).map Md.cut)
    rw [← hs] at this
    exact this.mono (by rw [List.length_map, List.length_take]; omega)
  have us : Md.U s := by rw [hs]; exact Md.U_steps Md.U_new Md.Good_new _
  rw [← hs] at cD
  clear L0 hs
  go_wp2_with fail
  refine cD.mono ?_
  rintro e w3 ⟨rfl, n0, L0, _, _⟩
  go_upto_region 8 with fail
  rw [← HF.out, ← HG.out]
  obtain ⟨v0, hv0⟩ : ∃ v, v = w3 := ⟨_, rfl⟩
  rw [← hv0] at L0 ⊢
  clear hv0
  obtain ⟨S, hS⟩ : ∃ r, r = (Md.step s (Md.tell 1 F 0)).2 := ⟨_, rfl⟩
  obtain ⟨D, hD⟩ : ∃ r, r = (Md.step s (Md.tell 2 F 0)).2 := ⟨_, rfl⟩
  obtain ⟨R, hR⟩ : ∃ r, r = (Md.step s (Md.tell 3 F 4096)).2 := ⟨_, rfl⟩
  obtain ⟨O, hO⟩ : ∃ r, r = (Md.step s (Md.tell 1 G 0)).2 := ⟨_, rfl⟩
  obtain ⟨s', hs'⟩ : ∃ z, z = (Md.step s ⟨9, F, G, 0, 0, ⟨#[]⟩⟩).1 := ⟨_, rfl⟩
  obtain ⟨X, hX⟩ : ∃ r, r = (Md.step s ⟨9, F, G, 0, 0, ⟨#[]⟩⟩).2 := ⟨_, rfl⟩
  obtain ⟨Z, hZ⟩ : ∃ r, r = (Md.step s' (Md.tell 1 F 0)).2 := ⟨_, rfl⟩
  have t1 : Md.step s (Md.tell 1 F 0) = (s, S) := by rw [hS]; exact Md.step_tell s _ (Or.inl rfl)
  have t2 : Md.step s (Md.tell 2 F 0) = (s, D) := by rw [hD]; exact Md.step_tell s _ (Or.inr (Or.inl rfl))
  have t3 : Md.step s (Md.tell 3 F 4096) = (s, R) := by rw [hR]; exact Md.step_tell s _ (Or.inr (Or.inr rfl))
  have t4 : Md.step s (Md.tell 1 G 0) = (s, O) := by rw [hO]; exact Md.step_tell s _ (Or.inl rfl)
  have t5 : Md.step s ⟨9, F, G, 0, 0, ⟨#[]⟩⟩ = (s', X) := by rw [hs', hX]
  have t9 : Md.step s' (Md.tell 1 F 0) = (s', Z) := by rw [hZ]; exact Md.step_tell s' _ (Or.inl rfl)
  have gs' : Md.Good 82 s' := by have := gs.step (⟨9, F, G, 0, 0, ⟨#[]⟩⟩ : Md.Op); rw [t5] at this; exact this
  have hplain : X.err = 0 → Md.step s' (Md.tell 1 G 0) = (s', S) ∧ Md.step s' (Md.tell 2 G 0) = (s', D) ∧ Md.step s' (Md.tell 3 G 4096) = (s', R) ∧ S.err = 0 ∧ (F = G ∨ (O.err = 0 ∧ O.dir = false ∧ 1 < S.links ∧ Z.err = 0) ∨ Z.err = 2) := fun hx => by
    obtain ⟨p1, p2, p3⟩ := Md.ren_plain gs us F G (by rw [t5]; exact hx)
    rw [t5] at p1 p3
    rw [t1] at p2 p3
    rw [t4, t9] at p3
    have e1 := p1 1 0 (Or.inl rfl) (by decide) (by decide)
    have e2 := p1 2 0 (Or.inr (Or.inl rfl)) (by decide) (by decide)
    have e3 := p1 3 4096 (Or.inr (Or.inr rfl)) (by decide) (by decide)
    rw [t1] at e1
    rw [t2] at e2
    rw [t3] at e3
    refine ⟨?_, ?_, ?_, p2, p3⟩
    · have := Md.step_tell s' (Md.tell 1 G 0) (Or.inl rfl); rw [e1] at this; exact this
    · have := Md.step_tell s' (Md.tell 2 G 0) (Or.inr (Or.inl rfl)); rw [e2] at this; exact this
    · have := Md.step_tell s' (Md.tell 3 G 4096) (Or.inr (Or.inr rfl)); rw [e3] at this; exact this
  have nS : S.names.length ≤ 1000000 := by rw [hS]; exact Md.names_bound gs (by omega) _
  have nD : D.names.length ≤ 1000000 := by rw [hD]; exact Md.names_bound gs (by omega) _
  have nR : R.names.length ≤ 1000000 := by rw [hR]; exact Md.names_bound gs (by omega) _
  have HGS := Lib.hid gs
  have HGS' := Lib.hid gs'
  have HPL := Lib.hid hplain
  have HN := Lib.hid (And.intro nS (And.intro nD nR))
  have H1 := Lib.hid t1
  have H2 := Lib.hid t2
  have H3 := Lib.hid t3
  have H4 := Lib.hid t4
  have H5 := Lib.hid t5
  have H9 := Lib.hid t9
  clear hS hD hR hO hs' hX hZ t1 t2 t3 t4 t5 t9 gs gs' us hplain nS nD nR cD HF HG HA HA1
  have c1 := ldo L0 HGS.out (by omega) (okTell 1 F 0 (by decide) (by decide) hFs (by decide) (by decide)) HT1.out H1.out
  simp only [opL, Md.tell] at c1
  clear L0
  go_upto_region 9 with (go_at_call 22; refine c1.mono ?_; rintro e v1 ⟨n1, a1, q1, rfl, row1, L1, k1, d1, sep1⟩)
  obtain ⟨W1, hW1⟩ : ∃ W, W = v1.alloc (.cells ([.int .i64 S.err, .string S.data, .slice a1 S.names.length q1, .bool S.dir, .int .i64 S.links, .int .i64 S.size] : List Value).toArray 33) := ⟨_, rfl⟩
  obtain ⟨r1, hr1⟩ : ∃ b, b = v1.heap.size := ⟨_, rfl⟩
  have R1 : Blk W1 r1 [.int .i64 S.err, .string S.data, .slice a1 S.names.length q1, .bool S.dir, .int .i64 S.links, .int .i64 S.size] 33 := by rw [hW1, hr1]; exact Blk.new' v1 _ _
  have kW1 : Keep [] v1 W1 := by rw [hW1]; exact (Keep.refl _ _).alloc _
  have x1 : r1 ∉ fps n1 := fun e => by have := L1.is.mem.lt r1 e; omega
  have L1 := L1.step kW1
  have N1 := (NamesS.of row1 sep1).keep kW1
  rw [← hW1, ← hr1]
  clear c1 k1 d1 hW1 hr1 row1 sep1 kW1
  have c2 := ldo L1 HGS.out (by omega) (okTell 2 F 0 (by decide) (by decide) hFs (by decide) (by decide)) HT1.out H2.out
  simp only [opL, Md.tell] at c2
  clear L1
  go_upto_region 10 with (go_at_call 22; refine c2.mono ?_; rintro e v2 ⟨n2, a2, q2, rfl, row2, L2, k2, d2, sep2⟩)
  obtain ⟨W2, hW2⟩ : ∃ W, W = v2.alloc (.cells ([.int .i64 D.err, .string D.data, .slice a2 D.names.length q2, .bool D.dir, .int .i64 D.links, .int .i64 D.size] : List Value).toArray 33) := ⟨_, rfl⟩
  obtain ⟨r2, hr2⟩ : ∃ b, b = v2.heap.size := ⟨_, rfl⟩
  have R2 : Blk W2 r2 [.int .i64 D.err, .string D.data, .slice a2 D.names.length q2, .bool D.dir, .int .i64 D.links, .int .i64 D.size] 33 := by rw [hW2, hr2]; exact Blk.new' v2 _ _
  have kW2 : Keep [] v2 W2 := by rw [hW2]; exact (Keep.refl _ _).alloc _
  have x2 : r2 ∉ fps n2 := fun e => by have := L2.is.mem.lt r2 e; omega
  have L2 := L2.step kW2
  have R1x := (R1.keep k2 x1).keep kW2 (by simp)
  have x1 := d2 r1 R1.lt x1
  clear R1
  have R1 := R1x
  clear R1x
  have N1 := (N1.did k2 d2).keep kW2
  have N2 := (NamesS.of row2 sep2).keep kW2
  rw [← hW2, ← hr2]
  clear c2 k2 d2 hW2 hr2 row2 sep2 kW2
  have c3 := ldo L2 HGS.out (by omega) (okTell 3 F 4096 (by decide) (by decide) hFs (by decide) (by decide)) HT1.out H3.out
  simp only [opL, Md.tell] at c3
  clear L2
  go_upto_region 11 with (go_at_call 22; refine c3.mono ?_; rintro e v3 ⟨n3, a3, q3, rfl, row3, L3, k3, d3, sep3⟩)
  obtain ⟨W3, hW3⟩ : ∃ W, W = v3.alloc (.cells ([.int .i64 R.err, .string R.data, .slice a3 R.names.length q3, .bool R.dir, .int .i64 R.links, .int .i64 R.size] : List Value).toArray 33) := ⟨_, rfl⟩
  obtain ⟨r3, hr3⟩ : ∃ b, b = v3.heap.size := ⟨_, rfl⟩
  have R3 : Blk W3 r3 [.int .i64 R.err, .string R.data, .slice a3 R.names.length q3, .bool R.dir, .int .i64 R.links, .int .i64 R.size] 33 := by rw [hW3, hr3]; exact Blk.new' v3 _ _
  have kW3 : Keep [] v3 W3 := by rw [hW3]; exact (Keep.refl _ _).alloc _
  have x3 : r3 ∉ fps n3 := fun e => by have := L3.is.mem.lt r3 e; omega
  have L3 := L3.step kW3
  have R1x := (R1.keep k3 x1).keep kW3 (by simp)
  have x1 := d3 r1 R1.lt x1
  clear R1
  have R1 := R1x
  clear R1x
  have R2x := (R2.keep k3 x2).keep kW3 (by simp)
  have x2 := d3 r2 R2.lt x2
  clear R2
  have R2 := R2x
  clear R2x
  have N1 := (N1.did k3 d3).keep kW3
  have N2 := (N2.did k3 d3).keep kW3
  have N3 := (NamesS.of row3 sep3).keep kW3
  rw [← hW3, ← hr3]
  clear c3 k3 d3 hW3 hr3 row3 sep3 kW3
  have c4 := ldo L3 HGS.out (by omega) (okTell 1 G 0 (by decide) (by decide) hGs (by decide) (by decide)) HT1.out H4.out
  simp only [opL, Md.tell] at c4
  clear L3
  go_upto_region 12 with (go_at_call 22; refine c4.mono ?_; rintro e v4 ⟨n4, a4, q4, rfl, row4, L4, k4, d4, sep4⟩)
  obtain ⟨W4, hW4⟩ : ∃ W, W = v4.alloc (.cells ([.int .i64 O.err, .string O.data, .slice a4 O.names.length q4, .bool O.dir, .int .i64 O.links, .int .i64 O.size] : List Value).toArray 33) := ⟨_, rfl⟩
  obtain ⟨r4, hr4⟩ : ∃ b, b = v4.heap.size := ⟨_, rfl⟩
  have R4 : Blk W4 r4 [.int .i64 O.err, .string O.data, .slice a4 O.names.length q4, .bool O.dir, .int .i64 O.links, .int .i64 O.size] 33 := by rw [hW4, hr4]; exact Blk.new' v4 _ _
  have kW4 : Keep [] v4 W4 := by rw [hW4]; exact (Keep.refl _ _).alloc _
  have x4 : r4 ∉ fps n4 := fun e => by have := L4.is.mem.lt r4 e; omega
  have L4 := L4.step kW4
  have R1x := (R1.keep k4 x1).keep kW4 (by simp)
  have x1 := d4 r1 R1.lt x1
  clear R1
  have R1 := R1x
  clear R1x
  have R2x := (R2.keep k4 x2).keep kW4 (by simp)
  have x2 := d4 r2 R2.lt x2
  clear R2
  have R2 := R2x
  clear R2x
  have R3x := (R3.keep k4 x3).keep kW4 (by simp)
  have x3 := d4 r3 R3.lt x3
  clear R3
  have R3 := R3x
  clear R3x
  have N1 := (N1.did k4 d4).keep kW4
  have N2 := (N2.did k4 d4).keep kW4
  have N3 := (N3.did k4 d4).keep kW4
  have N4 := (NamesS.of row4 sep4).keep kW4
  rw [← hW4, ← hr4]
  clear c4 k4 d4 hW4 hr4 row4 sep4 kW4
  have c5 := ldo L4 HGS.out (by omega) (okRen F G hFs hGs) HT1.out H5.out
  simp only [opL] at c5
  clear L4
  go_upto_region 13 with (go_at_call 22; refine c5.mono ?_; rintro e v5 ⟨n5, a5, q5, rfl, row5, L5, k5, d5, sep5⟩)
  obtain ⟨W5, hW5⟩ : ∃ W, W = v5.alloc (.cells ([.int .i64 X.err, .string X.data, .slice a5 X.names.length q5, .bool X.dir, .int .i64 X.links, .int .i64 X.size] : List Value).toArray 33) := ⟨_, rfl⟩
  obtain ⟨r5, hr5⟩ : ∃ b, b = v5.heap.size := ⟨_, rfl⟩
  have R5 : Blk W5 r5 [.int .i64 X.err, .string X.data, .slice a5 X.names.length q5, .bool X.dir, .int .i64 X.links, .int .i64 X.size] 33 := by rw [hW5, hr5]; exact Blk.new' v5 _ _
  have kW5 : Keep [] v5 W5 := by rw [hW5]; exact (Keep.refl _ _).alloc _
  have x5 : r5 ∉ fps n5 := fun e => by have := L5.is.mem.lt r5 e; omega
  have L5 := L5.step kW5
  have R1x := (R1.keep k5 x1).keep kW5 (by simp)
  have x1 := d5 r1 R1.lt x1
  clear R1
  have R1 := R1x
  clear R1x
  have R2x := (R2.keep k5 x2).keep kW5 (by simp)
  have x2 := d5 r2 R2.lt x2
  clear R2
  have R2 := R2x
  clear R2x
  have R3x := (R3.keep k5 x3).keep kW5 (by simp)
  have x3 := d5 r3 R3.lt x3
  clear R3
  have R3 := R3x
  clear R3x
  have R4x := (R4.keep k5 x4).keep kW5 (by simp)
  have x4 := d5 r4 R4.lt x4
  clear R4
  have R4 := R4x
  clear R4x
  have N1 := (N1.did k5 d5).keep kW5
  have N2 := (N2.did k5 d5).keep kW5
  have N3 := (N3.did k5 d5).keep kW5
  have N4 := (N4.did k5 d5).keep kW5
  have N5 := (NamesS.of row5 sep5).keep kW5
  rw [← hW5, ← hr5]
  clear c5 k5 d5 hW5 hr5 row5 sep5 kW5
  have z5 := R5.cell 0
  simp only [List.getElem?_cons_zero] at z5
  by_cases hx : X.err = 0
  · obtain ⟨u6, u7, u8, hS0, hcase⟩ := HPL.out hx
    rw [hx] at z5
    have H6 := Lib.hid u6
    have H7 := Lib.hid u7
    have H8 := Lib.hid u8
    have HS0 := Lib.hid hS0
    have HC := Lib.hid hcase
    clear hx u6 u7 u8 HPL hS0 hcase
    have c6 := ldo L5 HGS'.out (by omega) (okTell 1 G 0 (by decide) (by decide) hGs (by decide) (by decide)) HT1.out H6.out
    simp only [opL, Md.tell] at c6
    clear L5
    go_upto_region 16 with (go_at_call 22; refine c6.mono ?_; rintro e v6 ⟨n6, a6, q6, rfl, row6, L6, k6, d6, sep6⟩)
    obtain ⟨W6, hW6⟩ : ∃ W, W = v6.alloc (.cells ([.int .i64 S.err, .string S.data, .slice a6 S.names.length q6, .bool S.dir, .int .i64 S.links, .int .i64 S.size] : List Value).toArray 33) := ⟨_, rfl⟩
    obtain ⟨r6, hr6⟩ : ∃ b, b = v6.heap.size := ⟨_, rfl⟩
    have R6 : Blk W6 r6 [.int .i64 S.err, .string S.data, .slice a6 S.names.length q6, .bool S.dir, .int .i64 S.links, .int .i64 S.size] 33 := by rw [hW6, hr6]; exact Blk.new' v6 _ _
    have kW6 : Keep [] v6 W6 := by rw [hW6]; exact (Keep.refl _ _).alloc _
    have x6 : r6 ∉ fps n6 := fun e => by have := L6.is.mem.lt r6 e; omega
    have L6 := L6.step kW6
    have R1x := (R1.keep k6 x1).keep kW6 (by simp)
    have x1 := d6 r1 R1.lt x1
    clear R1
    have R1 := R1x
    clear R1x
    have R2x := (R2.keep k6 x2).keep kW6 (by simp)
    have x2 := d6 r2 R2.lt x2
    clear R2
    have R2 := R2x
    clear R2x
    have R3x := (R3.keep k6 x3).keep kW6 (by simp)
    have x3 := d6 r3 R3.lt x3
    clear R3
    have R3 := R3x
    clear R3x
    have R4x := (R4.keep k6 x4).keep kW6 (by simp)
    have x4 := d6 r4 R4.lt x4
    clear R4
    have R4 := R4x
    clear R4x
    have R5x := (R5.keep k6 x5).keep kW6 (by simp)
    have x5 := d6 r5 R5.lt x5
    clear R5
    have R5 := R5x
    clear R5x
    have N1 := (N1.did k6 d6).keep kW6
    have N2 := (N2.did k6 d6).keep kW6
    have N3 := (N3.did k6 d6).keep kW6
    have N4 := (N4.did k6 d6).keep kW6
    have N5 := (N5.did k6 d6).keep kW6
    have N6 := (NamesS.of row6 sep6).keep kW6
    rw [← hW6, ← hr6]
    clear c6 k6 d6 hW6 hr6 row6 sep6 kW6
    clear z5
    have c7 := ldo L6 HGS'.out (by omega) (okTell 2 G 0 (by decide) (by decide) hGs (by decide) (by decide)) HT1.out H7.out
    simp only [opL, Md.tell] at c7
    clear L6
    go_upto_region 17 with (go_at_call 22; refine c7.mono ?_; rintro e v7 ⟨n7, a7, q7, rfl, row7, L7, k7, d7, sep7⟩)
    obtain ⟨W7, hW7⟩ : ∃ W, W = v7.alloc (.cells ([.int .i64 D.err, .string D.data, .slice a7 D.names.length q7, .bool D.dir, .int .i64 D.links, .int .i64 D.size] : List Value).toArray 33) := ⟨_, rfl⟩
    obtain ⟨r7, hr7⟩ : ∃ b, b = v7.heap.size := ⟨_, rfl⟩
    have R7 : Blk W7 r7 [.int .i64 D.err, .string D.data, .slice a7 D.names.length q7, .bool D.dir, .int .i64 D.links, .int .i64 D.size] 33 := by rw [hW7, hr7]; exact Blk.new' v7 _ _
    have kW7 : Keep [] v7 W7 := by rw [hW7]; exact (Keep.refl _ _).alloc _
    have x7 : r7 ∉ fps n7 := fun e => by have := L7.is.mem.lt r7 e; omega
    have L7 := L7.step kW7
    have R1x := (R1.keep k7 x1).keep kW7 (by simp)
    have x1 := d7 r1 R1.lt x1
    clear R1
    have R1 := R1x
    clear R1x
    have R2x := (R2.keep k7 x2).keep kW7 (by simp)
    have x2 := d7 r2 R2.lt x2
    clear R2
    have R2 := R2x
    clear R2x
    have R3x := (R3.keep k7 x3).keep kW7 (by simp)
    have x3 := d7 r3 R3.lt x3
    clear R3
    have R3 := R3x
    clear R3x
    have R4x := (R4.keep k7 x4).keep kW7 (by simp)
    have x4 := d7 r4 R4.lt x4
    clear R4
    have R4 := R4x
    clear R4x
    have R5x := (R5.keep k7 x5).keep kW7 (by simp)
    have x5 := d7 r5 R5.lt x5
    clear R5
    have R5 := R5x
    clear R5x
    have R6x := (R6.keep k7 x6).keep kW7 (by simp)
    have x6 := d7 r6 R6.lt x6
    clear R6
    have R6 := R6x
    clear R6x
    have N1 := (N1.did k7 d7).keep kW7
    have N2 := (N2.did k7 d7).keep kW7
    have N3 := (N3.did k7 d7).keep kW7
    have N4 := (N4.did k7 d7).keep kW7
    have N5 := (N5.did k7 d7).keep kW7
    have N6 := (N6.did k7 d7).keep kW7
    have N7 := (NamesS.of row7 sep7).keep kW7
    rw [← hW7, ← hr7]
    clear c7 k7 d7 hW7 hr7 row7 sep7 kW7
    have c8 := ldo L7 HGS'.out (by omega) (okTell 3 G 4096 (by decide) (by decide) hGs (by decide) (by decide)) HT1.out H8.out
    simp only [opL, Md.tell] at c8
    clear L7
    go_upto_region 18 with (go_at_call 22; refine c8.mono ?_; rintro e v8 ⟨n8, a8, q8, rfl, row8, L8, k8, d8, sep8⟩)
    obtain ⟨W8, hW8⟩ : ∃ W, W = v8.alloc (.cells ([.int .i64 R.err, .string R.data, .slice a8 R.names.length q8, .bool R.dir, .int .i64 R.links, .int .i64 R.size] : List Value).toArray 33) := ⟨_, rfl⟩
    obtain ⟨r8, hr8⟩ : ∃ b, b = v8.heap.size := ⟨_, rfl⟩
    have R8 : Blk W8 r8 [.int .i64 R.err, .string R.data, .slice a8 R.names.length q8, .bool R.dir, .int .i64 R.links, .int .i64 R.size] 33 := by rw [hW8, hr8]; exact Blk.new' v8 _ _
    have kW8 : Keep [] v8 W8 := by rw [hW8]; exact (Keep.refl _ _).alloc _
    have x8 : r8 ∉ fps n8 := fun e => by have := L8.is.mem.lt r8 e; omega
    have L8 := L8.step kW8
    have R1x := (R1.keep k8 x1).keep kW8 (by simp)
    have x1 := d8 r1 R1.lt x1
    clear R1
    have R1 := R1x
    clear R1x
    have R2x := (R2.keep k8 x2).keep kW8 (by simp)
    have x2 := d8 r2 R2.lt x2
    clear R2
    have R2 := R2x
    clear R2x
    have R3x := (R3.keep k8 x3).keep kW8 (by simp)
    have x3 := d8 r3 R3.lt x3
    clear R3
    have R3 := R3x
    clear R3x
    have R4x := (R4.keep k8 x4).keep kW8 (by simp)
    have x4 := d8 r4 R4.lt x4
    clear R4
    have R4 := R4x
    clear R4x
    have R5x := (R5.keep k8 x5).keep kW8 (by simp)
    have x5 := d8 r5 R5.lt x5
    clear R5
    have R5 := R5x
    clear R5x
    have R6x := (R6.keep k8 x6).keep kW8 (by simp)
    have x6 := d8 r6 R6.lt x6
    clear R6
    have R6 := R6x
    clear R6x
    have R7x := (R7.keep k8 x7).keep kW8 (by simp)
    have x7 := d8 r7 R7.lt x7
    clear R7
    have R7 := R7x
    clear R7x
    have N1 := (N1.did k8 d8).keep kW8
    have N2 := (N2.did k8 d8).keep kW8
    have N3 := (N3.did k8 d8).keep kW8
    have N4 := (N4.did k8 d8).keep kW8
    have N5 := (N5.did k8 d8).keep kW8
    have N6 := (N6.did k8 d8).keep kW8
    have N7 := (N7.did k8 d8).keep kW8
    have N8 := (NamesS.of row8 sep8).keep kW8
    rw [← hW8, ← hr8]
    clear c8 k8 d8 hW8 hr8 row8 sep8 kW8
    have c9 := ldo L8 HGS'.out (by omega) (okTell 1 F 0 (by decide) (by decide) hFs (by decide) (by decide)) HT1.out H9.out
    simp only [opL, Md.tell] at c9
    clear L8
    go_upto_region 19 with (go_at_call 22; refine c9.mono ?_; rintro e v9 ⟨n9, a9, q9, rfl, row9, L9, k9, d9, sep9⟩)
    obtain ⟨W9, hW9⟩ : ∃ W, W = v9.alloc (.cells ([.int .i64 Z.err, .string Z.data, .slice a9 Z.names.length q9, .bool Z.dir, .int .i64 Z.links, .int .i64 Z.size] : List Value).toArray 33) := ⟨_, rfl⟩
    obtain ⟨r9, hr9⟩ : ∃ b, b = v9.heap.size := ⟨_, rfl⟩
    have R9 : Blk W9 r9 [.int .i64 Z.err, .string Z.data, .slice a9 Z.names.length q9, .bool Z.dir, .int .i64 Z.links, .int .i64 Z.size] 33 := by rw [hW9, hr9]; exact Blk.new' v9 _ _
    have kW9 : Keep [] v9 W9 := by rw [hW9]; exact (Keep.refl _ _).alloc _
    have x9 : r9 ∉ fps n9 := fun e => by have := L9.is.mem.lt r9 e; omega
    have L9 := L9.step kW9
    have R1x := (R1.keep k9 x1).keep kW9 (by simp)
    have x1 := d9 r1 R1.lt x1
    clear R1
    have R1 := R1x
    clear R1x
    have R2x := (R2.keep k9 x2).keep kW9 (by simp)
    have x2 := d9 r2 R2.lt x2
    clear R2
    have R2 := R2x
    clear R2x
    have R3x := (R3.keep k9 x3).keep kW9 (by simp)
    have x3 := d9 r3 R3.lt x3
    clear R3
    have R3 := R3x
    clear R3x
    have R4x := (R4.keep k9 x4).keep kW9 (by simp)
    have x4 := d9 r4 R4.lt x4
    clear R4
    have R4 := R4x
    clear R4x
    have R5x := (R5.keep k9 x5).keep kW9 (by simp)
    have x5 := d9 r5 R5.lt x5
    clear R5
    have R5 := R5x
    clear R5x
    have R6x := (R6.keep k9 x6).keep kW9 (by simp)
    have x6 := d9 r6 R6.lt x6
    clear R6
    have R6 := R6x
    clear R6x
    have R7x := (R7.keep k9 x7).keep kW9 (by simp)
    have x7 := d9 r7 R7.lt x7
    clear R7
    have R7 := R7x
    clear R7x
    have R8x := (R8.keep k9 x8).keep kW9 (by simp)
    have x8 := d9 r8 R8.lt x8
    clear R8
    have R8 := R8x
    clear R8x
    have N1 := (N1.did k9 d9).keep kW9
    have N2 := (N2.did k9 d9).keep kW9
    have N3 := (N3.did k9 d9).keep kW9
    have N4 := (N4.did k9 d9).keep kW9
    have N5 := (N5.did k9 d9).keep kW9
    have N6 := (N6.did k9 d9).keep kW9
    have N7 := (N7.did k9 d9).keep kW9
    have N8 := (N8.did k9 d9).keep kW9
    have N9 := (NamesS.of row9 sep9).keep kW9
    rw [← hW9, ← hr9]
    clear c9 k9 d9 hW9 hr9 row9 sep9 kW9
    have cS := fun W (k : Keep [] W9 W) => lsame_any S a1 a6 q1 q6 W (N1.a.keep k) (N6.a.keep k) HN.out.1
    have cD := fun W (k : Keep [] W9 W) => lsame_any D a2 a7 q2 q7 W (N2.a.keep k) (N7.a.keep k) HN.out.2.1
    have cR := fun W (k : Keep [] W9 W) => lsame_any R a3 a8 q3 q8 W (N3.a.keep k) (N8.a.keep k) HN.out.2.2
    have CS := Lib.hid cS
    have CD := Lib.hid cD
    have CR := Lib.hid cR
    have HB := Lib.hid (And.intro R1 (And.intro R2 (And.intro R3 (And.intro R4 (And.intro R6 (And.intro R7 (And.intro R8 R9)))))))
    have KL := k1.trans L9.keep (by simp)
    have HKL := Lib.hid KL
    obtain ⟨i0, i1, i2, i3, i4, i5⟩ : W9.cell? ⟨r1, 0, none⟩ = some (.int .i64 S.err) ∧ W9.cell? ⟨r1, 1, none⟩ = some (.string S.data) ∧ W9.cell? ⟨r1, 2, none⟩ = some (.slice a1 S.names.length q1) ∧ W9.cell? ⟨r1, 3, none⟩ = some (.bool S.dir) ∧ W9.cell? ⟨r1, 4, none⟩ = some (.int .i64 S.links) ∧ W9.cell? ⟨r1, 5, none⟩ = some (.int .i64 S.size) := ⟨R1.cell 0, R1.cell 1, R1.cell 2, R1.cell 3, R1.cell 4, R1.cell 5⟩
    obtain ⟨j0, j1, j2, j3, j4, j5⟩ : W9.cell? ⟨r6, 0, none⟩ = some (.int .i64 S.err) ∧ W9.cell? ⟨r6, 1, none⟩ = some (.string S.data) ∧ W9.cell? ⟨r6, 2, none⟩ = some (.slice a6 S.names.length q6) ∧ W9.cell? ⟨r6, 3, none⟩ = some (.bool S.dir) ∧ W9.cell? ⟨r6, 4, none⟩ = some (.int .i64 S.links) ∧ W9.cell? ⟨r6, 5, none⟩ = some (.int .i64 S.size) := ⟨R6.cell 0, R6.cell 1, R6.cell 2, R6.cell 3, R6.cell 4, R6.cell 5⟩
    clear cS cD cR R1 R2 R3 R4 R5 R6 R7 R8 R9 N1 N2 N3 N4 N5 N6 N7 N8 N9 L9 KL x1 x2 x3 x4 x5 x6 x7 x8 x9
    go_wp2_with fail
    refine (CS.out _ (Keep.refl _ _)).mono ?_
    rintro e y1 ⟨rfl, g1⟩
    clear i0 i1 i2 i3 i4 i5 j0 j1 j2 j3 j4 j5
    obtain ⟨R1, R2, R3, R4, R6, R7, R8, R9⟩ := HB.out
    have R2 := R2.keep g1 (by simp)
    have R7 := R7.keep g1 (by simp)
    obtain ⟨i0, i1, i2, i3, i4, i5⟩ : y1.cell? ⟨r2, 0, none⟩ = some (.int .i64 D.err) ∧ y1.cell? ⟨r2, 1, none⟩ = some (.string D.data) ∧ y1.cell? ⟨r2, 2, none⟩ = some (.slice a2 D.names.length q2) ∧ y1.cell? ⟨r2, 3, none⟩ = some (.bool D.dir) ∧ y1.cell? ⟨r2, 4, none⟩ = some (.int .i64 D.links) ∧ y1.cell? ⟨r2, 5, none⟩ = some (.int .i64 D.size) := ⟨R2.cell 0, R2.cell 1, R2.cell 2, R2.cell 3, R2.cell 4, R2.cell 5⟩
    obtain ⟨j0, j1, j2, j3, j4, j5⟩ : y1.cell? ⟨r7, 0, none⟩ = some (.int .i64 D.err) ∧ y1.cell? ⟨r7, 1, none⟩ = some (.string D.data) ∧ y1.cell? ⟨r7, 2, none⟩ = some (.slice a7 D.names.length q7) ∧ y1.cell? ⟨r7, 3, none⟩ = some (.bool D.dir) ∧ y1.cell? ⟨r7, 4, none⟩ = some (.int .i64 D.links) ∧ y1.cell? ⟨r7, 5, none⟩ = some (.int .i64 D.size) := ⟨R7.cell 0, R7.cell 1, R7.cell 2, R7.cell 3, R7.cell 4, R7.cell 5⟩
    clear R1 R2 R3 R4 R6 R7 R8 R9
    go_wp2_with fail
    refine (CD.out _ g1).mono ?_
    rintro e y2 ⟨rfl, g2⟩
    have g12 := g1.trans g2 (by simp)
    clear i0 i1 i2 i3 i4 i5 j0 j1 j2 j3 j4 j5
    obtain ⟨R1, R2, R3, R4, R6, R7, R8, R9⟩ := HB.out
    have R3 := R3.keep g12 (by simp)
    have R8 := R8.keep g12 (by simp)
    obtain ⟨i0, i1, i2, i3, i4, i5⟩ : y2.cell? ⟨r3, 0, none⟩ = some (.int .i64 R.err) ∧ y2.cell? ⟨r3, 1, none⟩ = some (.string R.data) ∧ y2.cell? ⟨r3, 2, none⟩ = some (.slice a3 R.names.length q3) ∧ y2.cell? ⟨r3, 3, none⟩ = some (.bool R.dir) ∧ y2.cell? ⟨r3, 4, none⟩ = some (.int .i64 R.links) ∧ y2.cell? ⟨r3, 5, none⟩ = some (.int .i64 R.size) := ⟨R3.cell 0, R3.cell 1, R3.cell 2, R3.cell 3, R3.cell 4, R3.cell 5⟩
    obtain ⟨j0, j1, j2, j3, j4, j5⟩ : y2.cell? ⟨r8, 0, none⟩ = some (.int .i64 R.err) ∧ y2.cell? ⟨r8, 1, none⟩ = some (.string R.data) ∧ y2.cell? ⟨r8, 2, none⟩ = some (.slice a8 R.names.length q8) ∧ y2.cell? ⟨r8, 3, none⟩ = some (.bool R.dir) ∧ y2.cell? ⟨r8, 4, none⟩ = some (.int .i64 R.links) ∧ y2.cell? ⟨r8, 5, none⟩ = some (.int .i64 R.size) := ⟨R8.cell 0, R8.cell 1, R8.cell 2, R8.cell 3, R8.cell 4, R8.cell 5⟩
    clear R1 R2 R3 R4 R6 R7 R8 R9
    go_wp2_with fail
    refine (CR.out _ g12).mono ?_
    rintro e y3 ⟨rfl, g3⟩
    have g13 := g12.trans g3 (by simp)
    clear i0 i1 i2 i3 i4 i5 j0 j1 j2 j3 j4 j5
    obtain ⟨R1, R2, R3, R4, R6, R7, R8, R9⟩ := HB.out
    have R1 := R1.keep g13 (by simp)
    have R4 := R4.keep g13 (by simp)
    have R9 := R9.keep g13 (by simp)
    have b0 : y3.cell? ⟨r1, 0, none⟩ = some (.int .i64 0) := by rw [← HS0.out]; exact R1.cell 0
    have b4 : y3.cell? ⟨r1, 4, none⟩ = some (.int .i64 S.links) := R1.cell 4
    have o0 : y3.cell? ⟨r4, 0, none⟩ = some (.int .i64 O.err) := R4.cell 0
    have o3 : y3.cell? ⟨r4, 3, none⟩ = some (.bool O.dir) := R4.cell 3
    have z0 : y3.cell? ⟨r9, 0, none⟩ = some (.int .i64 Z.err) := R9.cell 0
    clear R1 R2 R3 R4 R6 R7 R8 R9
    go_upto_region 21 with fail
    have KL := HKL.out.trans g13 (by simp)
    clear CS CD CR HB b0
    by_cases hfg : F = G
    · subst hfg
      go_wp2
      go_ret
      exact ⟨rfl, KL⟩
    · have hfb : (F.toList == G.toList) = false := by rw [beq_eq_false_iff_ne, Lib.toList_data, Lib.toList_data]; exact fun e => hfg (Nm.data_inj e)
      rcases HC.out with e | ⟨e1, e2, e3, e4⟩ | e
      · exact absurd e hfg
      · rw [e1] at o0
        rw [e2] at o3
        rw [e4] at z0
        clear e1 e2 e4 hfg
        go_wp2
        go_ret
        exact ⟨rfl, KL⟩
      · rw [e] at z0
        clear e hfg
        by_cases a : O.err = 0
        · rw [a] at o0
          clear a
          cases b : O.dir with
          | true =>
            rw [b] at o3
            clear b
            go_wp2
            go_ret
            exact ⟨rfl, KL⟩
          | false =>
            rw [b] at o3
            clear b
            by_cases d : 1 < S.links
            · go_wp2
              go_ret
              exact ⟨rfl, KL⟩
            · go_wp2
              go_ret
              exact ⟨rfl, KL⟩
        · have ab : (O.err == 0) = false := by rw [beq_eq_false_iff_ne]; exact a
          go_wp2
          go_ret
          exact ⟨rfl, KL⟩
  · have hxb : (X.err == 0) = false := by rw [beq_eq_false_iff_ne]; exact hx
    have KL := k1.trans L5.keep (by simp)
    clear hx HPL R1 R2 R3 R4 R5 N1 N2 N3 N4 N5 L5 x1 x2 x3 x4 x5
    go_wp2
    go_ret
    exact ⟨rfl, KL⟩


theorem modelRenames_readable : Tryd.f13.params.toList.all (fun t => Tryd.prog.readableRec t && decide (t < Tryd.prog.types.size)) = true := by kernel_rfl

open Go.ChangeShapes Go.WideShapes Go.ChangeAt in
set_option maxRecDepth 100000 in
theorem modelRenames_contract (H : Type) (enc : TypeId × Value → H) (W : World) (base : Nat) (args : Array Value) (ds gs : List (DataW H)) (before : List MemPlace)
    (hval : ∀ (j : Nat) t v, Tryd.f13.params[j]? = some t → args[j]? = some v → Value.okWide Tryd.prog W .any base t v)
    (hW : DataW.Whole enc Tryd.prog Tryd.f13.params.toList Rows.modelRenamesSpec.vars false W args.toList ds gs before) (hL : laidMetH Tryd.prog Rows.modelRenamesRow.laid W) (hSh : W.ShapedOpen Tryd.prog) (hS : (DataW.weightsEach Tryd.prog (Tryd.f13.params.toList ++ Rows.modelRenamesSpec.plain.varTypes Tryd.prog) (ds ++ gs)).all (· ≤ reachBytes) = true) :
    Calls Tryd.prog 13 args W fun e W' => ∃ v, e = .returned v ∧ Rows.modelRenamesSpec.post enc Tryd.prog Tryd.f13 false true false false W args v W' := by
  have hW' := hW
  obtain ⟨p, q, hA0, hV, rfl, _, _⟩ := hW
  have hA : DataW.TrodAll enc Tryd.prog W 0 (fun _ => true) true Tryd.f13.params.toList args.toList ds p := hA0
  rw [Tryd.params13] at hA hval
  obtain ⟨v0, v1, v2, d0, d1, d2, p0, p1, p2, rfl, rfl, rfl, h0, h1, h2⟩ := trodAll_three hA
  obtain ⟨rfl, rfl⟩ := trodVars_none hV
  obtain ⟨ao, l, c, rfl, hc, hl, hOps⟩ := open_ops (e := 36) Tryd.underlying22 Tryd.underlying36 (by kernel_rfl) rfl rfl rfl rfl rfl rfl (by kernel_rfl) (by kernel_rfl) (by kernel_rfl) (by kernel_rfl) (by kernel_rfl) (by kernel_rfl) Tryd.underlying3 Tryd.underlying9 Tryd.underlying9 Tryd.underlying3 Tryd.underlying3 Tryd.underlying9 (hval 0 22 v0 rfl rfl) h0
  obtain ⟨s, rfl, rfl, rfl, hs⟩ := Go.ChangeMaps.open_string Tryd.underlying9 (hval 1 9 v1 rfl rfl) h1
  obtain ⟨t, rfl, rfl, rfl, ht⟩ := Go.ChangeMaps.open_string Tryd.underlying9 (hval 2 9 v2 rfl rfl) h2
  refine (modelRenames_walk ao l c s t W hOps hl (by unfold maxLen at hs; omega) (by unfold maxLen at ht; omega) (tabs_of hL hSh)).mono fun e W' ⟨he, hk⟩ => ?_
  have _u := hS
  subst he
  exact ⟨_, rfl, law_post Tryd.laidOut modelRenames_readable rfl Tryd.underlying4 rfl hW' rfl hk.below0⟩

set_option maxRecDepth 100000 in
theorem modelRenames_lifted (os : Os) (started : os.Started) (H : Type) (enc : TypeId × Value → H) :
    ReturnsInHanded {} Tryd.checked os 13 .any (fun w args => (Rows.modelRenamesSpec.pre enc Tryd.prog Tryd.f13 Rows.modelRenamesRow.domain false w args ∧ laidMetH Tryd.prog Rows.modelRenamesRow.laid w) ∧ sizedMet enc Tryd.prog Tryd.f13 (OpenSpec.ofChange Rows.modelRenamesSpec) false w args)
      (Rows.modelRenamesSpec.post enc Tryd.prog Tryd.f13 false true false false) := by
  refine handed_and_shaped (C := Tryd.checked) (X := fun w _ => laidMetH Tryd.prog Rows.modelRenamesRow.laid w) (fun _ _ _ hh h => h.of_heap hh) Tryd.own started (by kernel_rfl) Tryd.func13
    (ChangeSpec.witness_shaped (enc := enc) (C := Tryd.checked) (os := os) (X := fun w _ => laidMetH Tryd.prog Rows.modelRenamesRow.laid w) false (World.laidAll Tryd.prog os Rows.modelRenamesRow.laid) #[.slice none 0 0, .string ⟨#[]⟩, .string ⟨#[]⟩] 8 (World.laidAll_os _ _ _)
      (World.shaped_of_ZipB (by kernel_rfl) (by kernel_rfl)) (by kernel_rfl) (by kernel_rfl) (by kernel_rfl)
      (by rw [MakeChecks.laidMetH_plain _ _ _ (by kernel_rfl)]; exact laidMet_laidAll _ (by kernel_rfl) (by kernel_rfl))) ?_
  intro W base args ds gs before hval hW _ hS hL hSh _
  exact modelRenames_contract H enc W base args ds gs before hval hW hL hSh hS

theorem modelRenames_row_holds : Rows.ModelRenamesSaid :=
  OpenClaim.holds_of_wide 13 Tryd.f13 rfl rfl rfl rfl rfl rfl rfl ⟨rfl, rfl, rfl, rfl, rfl⟩ rfl rfl rfl rfl rfl (by kernel_rfl) Tryd.func13 (by kernel_rfl)
    (of_decide_eq_true (by kernel_rfl)) (by unfold Func.isWrapper; first | (rw [if_pos (by decide +kernel)]; kernel_rfl) | (rw [if_neg (by decide +kernel)]; exact ⟨rfl, rfl⟩))
    (fun os started H enc _ => modelRenames_lifted os started H enc)

theorem modelRenames_holds : Rows.ModelRenamesCardSaid :=
  Claim7.holds_tied_plain_at .later [] [.data, .pinned] true (true, "284c49cd6a5ef03cb0b10374fb715a4f6b6efd2702ce299b808f79c75d858a0b") false modelRenames_row_holds (fun _ h => by cases h) (by kernel_rfl) (fun _ h => by cases h) modelRenames_row_tie rfl ⟨rfl, rfl⟩ (by kernel_rfl) rfl
    (fun f fn hf hfn => by
      obtain rfl : f = 13 := Option.some.inj ((show Tryd.prog.funcNamed "wainscot/wainscotlaw15.ModelRenames" = some 13 by kernel_rfl).symm.trans hf) |>.symm
      obtain rfl : fn = Tryd.f13 := (Option.some.inj (Tryd.func13.symm.trans hfn)).symm
      exact ⟨by kernel_rfl, fun j t ht => by
        have hm : t ∈ Tryd.f13.params.toList := by simpa using Array.mem_of_getElem? ht
        have hall : (Tryd.f13.params.toList.all fun u => !Tryd.prog.wantsStandIn u) = true := by kernel_rfl
        exact (show Tryd.prog.wantsStandIn t = false by simpa using List.all_eq_true.1 hall t hm)⟩)
    (by kernel_rfl)

#print axioms modelRenames_holds
end Go.Proofs.YtbmbjedpeepnfaaDoor
