/-
  SuperFlips: while one place is written the old superblock counts, or the new one: the law returns true, for any two superblocks, any bytes and any place. No condition.
-/
import Derived.Test.YteogkgjajhdhjaaSuperR
import Derived.Test.YteogkgjajhdhjaaSuperN
namespace Go.Proofs.Yteogkgjajhdhjaa
open Go.RowKit

/-- a superblock with another generation -/
theorem SuN.gen {B : Nat} {w : World} {t : Sp.Su} {ao : Option Addr} {c : Nat} (g : Int) (h : SuN B w (.agg #[.int .i64 t.gen, .int .i64 t.root, .int .i64 t.next, .int .i64 t.commit, .slice ao t.snaps.length c]) t) :
    SuN B w (.agg #[.int .i64 g, .int .i64 t.root, .int .i64 t.next, .int .i64 t.commit, .slice ao t.snaps.length c]) { t with gen := g } := by
  obtain ⟨ao', c', h1, h2, h3, h4⟩ := h
  simp only [Value.agg.injEq, Array.mk.injEq, List.cons.injEq, Value.slice.injEq, true_and, and_true] at h1
  obtain ⟨rfl, rfl⟩ := h1
  exact ⟨ao, c, rfl, h2, h3, h4⟩

theorem later_one {w : World} {o : Obj} {v : Value} (h : ∀ x ∈ fpOf v, (w.alloc o).drew.heap.size ≤ x) : ∀ x ∈ fpOf v, x ∉ [w.heap.size] := by
  intro x hx hb
  have h2 : w.heap.size + 1 ≤ x := by have := h x hx; simpa using this
  rw [List.mem_singleton] at hb
  omega

/-- the two places, behind the store: one of both is the old block, the other one the torn one -/
theorem flips_places {wc w17 : World} {b16 q : Nat} {va vx : Value} {A X : List UInt8} {g : Int} (hq : q < 2) (hg : (q : Int) = g % 2) (B : Blk w17 b16 [vx, vx] 27) (hK : Keep [] wc (w17.setCell ⟨b16, q, none⟩ va)) (hA : RdV (w17.setCell ⟨b16, q, none⟩ va) va A.length 1 (bv A)) (hX : RdV (w17.setCell ⟨b16, q, none⟩ va) vx X.length 1 (bv X)) :
    ∃ (v0 v1 : Value) (la lb : List UInt8), Value.slice (some ⟨b16, 0, none⟩) 2 2 = .slice (some ⟨b16, 0, none⟩) 2 2 ∧ (w17.setCell ⟨b16, q, none⟩ va).cell? ⟨b16, 0, none⟩ = some v0 ∧ (w17.setCell ⟨b16, q, none⟩ va).cell? ⟨b16, 1, none⟩ = some v1 ∧ b16 < (w17.setCell ⟨b16, q, none⟩ va).heap.size ∧ RdV (w17.setCell ⟨b16, q, none⟩ va) v0 la.length 1 (bv la) ∧ RdV (w17.setCell ⟨b16, q, none⟩ va) v1 lb.length 1 (bv lb) ∧ Hid (g % 2 = 0 ∧ la = A ∧ lb = X ∨ g % 2 = 1 ∧ la = X ∧ lb = A) ∧ Keep [] wc (w17.setCell ⟨b16, q, none⟩ va) := by
  rcases (by omega : q = 0 ∨ q = 1) with rfl | rfl
  · have BB := B.set 0 va
    exact ⟨va, vx, A, X, rfl, BB.cell 0, BB.cell 1, BB.lt, hA, hX, Lib.hid (Or.inl ⟨by omega, rfl, rfl⟩), hK⟩
  · have BB := B.set 1 va
    exact ⟨vx, va, X, A, rfl, BB.cell 0, BB.cell 1, BB.lt, hX, hA, Lib.hid (Or.inr ⟨by omega, rfl, rfl⟩), hK⟩

set_option maxRecDepth 100000 in
set_option maxHeartbeats 40000000 in
theorem superFlips_walk (s0 t0 : Sp.Su) (v u vw : Value) (l : List UInt8) (at' : Int) (w : World) (h : SuV w v s0) (k : SuV w u t0) (hv : RdV w vw l.length 1 (bv l)) (hll : l.length ≤ 9223372036854775807) :
    Calls Try.prog 14 #[v, u, vw, .int .i64 at'] w fun e w' => e = .returned (.bool true) ∧ Keep [] w w' := by
  have h0 := h
  have k0 := k
  obtain ⟨ao0, c0, rfl, _, _⟩ := h0
  obtain ⟨bo0, d0, rfl, _, _⟩ := k0
  obtain ⟨hvl, aoW, cW, rfl, hcW, hnW, hxW⟩ := hv
  have HV := Lib.hid (And.intro hvl (And.intro hnW hxW))
  clear hvl hnW hxW
  obtain ⟨i0, hi, hz0, hz1, hz2⟩ := info_parts Try.info5
  go_enter Try.func14, Try.ntmps14
  go_wp2_with fail
  refine (shown4_any _).mono ?_
  rintro e w1 ⟨rfl, k1⟩
  obtain ⟨b3, hb3⟩ : ∃ b, b = w.heap.size := ⟨_, rfl⟩
  obtain ⟨b4, hb4⟩ : ∃ b, b = w.heap.size + 1 := ⟨_, rfl⟩
  have B3 := ((Blk.new' w [.int .i64 s0.gen, .int .i64 s0.root, .int .i64 s0.next, .int .i64 s0.commit, .slice ao0 s0.snaps.length c0] 59).alloc (.cells [.int .i64 t0.gen, .int .i64 t0.root, .int .i64 t0.next, .int .i64 t0.commit, .slice bo0 t0.snaps.length d0].toArray 59)).keep k1 (by simp)
  have B4 := (Blk.new' (w.alloc (.cells [.int .i64 s0.gen, .int .i64 s0.root, .int .i64 s0.next, .int .i64 s0.commit, .slice ao0 s0.snaps.length c0].toArray 59)) [.int .i64 t0.gen, .int .i64 t0.root, .int .i64 t0.next, .int .i64 t0.commit, .slice bo0 t0.snaps.length d0] 59).keep k1 (by simp)
  rw [World.size_alloc] at B4
  have K1 : Keep [] w w1 := (((Keep.refl _ _).alloc _).alloc _).trans k1 (by simp)
  rw [← hb4] at B4 ⊢
  rw [← hb3] at B3 ⊢
  have hb41 : b4 < w1.heap.size := B4.lt
  have HB := Lib.hid (And.intro hb3 hb4)
  clear hb3 hb4 k1
  have q0 := B3.cell 0
  have q1 := B3.cell 1
  have q2 := B3.cell 2
  have q3 := B3.cell 3
  have q4 := B3.cell 4
  simp only [List.getElem?_cons_zero, List.getElem?_cons_succ] at q0 q1 q2 q3 q4
  go_wp2_with fail
  refine (cut_any s0 _ w1 (h.keep K1 (by simp))).mono ?_
  rintro e w2 ⟨ao, c, rfl, rd2, fp2, k2⟩
  obtain ⟨s, hs⟩ : ∃ s, s = Sp.cutS s0 := ⟨_, rfl⟩
  have g_eq : s0.gen = s.gen ∧ s0.root = s.root ∧ s0.next = s.next ∧ s0.commit = s.commit := by rw [hs]; exact ⟨rfl, rfl, rfl, rfl⟩
  have hle3 : s.snaps.length ≤ 10 := by rw [hs]; exact cutS_le s0
  rw [← hs] at rd2 fp2 ⊢
  have G3 := Lib.hid g_eq
  rw [g_eq.1, g_eq.2.1, g_eq.2.2.1, g_eq.2.2.2]
  clear hs g_eq q0 q1 q2 q3 q4
  have Bx := B3.keep k2 (by simp)
  obtain ⟨w3, hw3, B3c, k3⟩ := set5 Bx (.int .i64 s.gen) (.int .i64 s.root) (.int .i64 s.next) (.int .i64 s.commit) (.slice ao s.snaps.length c)
  have p0 := Bx.cell 0
  have p1 := Bx.cell 1
  have p2 := Bx.cell 2
  have p3 := Bx.cell 3
  have p4 := Bx.cell 4
  simp only [List.getElem?_cons_zero, List.getElem?_cons_succ] at p0 p1 p2 p3 p4
  have f0 := Bx.free 0
  have f1 := Bx.free 1
  have f2 := Bx.free 2
  have f3 := Bx.free 3
  have f4 := Bx.free 4
  have hbl : b3 < w1.heap.size := B3.lt
  have SN : SuN w1.heap.size w3 (.agg #[.int .i64 s.gen, .int .i64 s.root, .int .i64 s.next, .int .i64 s.commit, .slice ao s.snaps.length c]) s := (SuN.of rd2 (by omega) fp2).keep k3 (by simp; omega)
  have K3 : Keep [] w w3 := (K1.trans k2 (by simp)).trans k3 (fun x hx => by simp at hx; subst hx; right; have := HB.out; omega)
  have B4b := (B4.keep k2 (by simp)).keep k3 (by simp; have := HB.out; omega)
  have HW3 := Lib.hid hw3
  have m0 := (B4.keep k2 (by simp)).cell 0
  have m1 := (B4.keep k2 (by simp)).cell 1
  have m2 := (B4.keep k2 (by simp)).cell 2
  have m3 := (B4.keep k2 (by simp)).cell 3
  have m4 := (B4.keep k2 (by simp)).cell 4
  simp only [List.getElem?_cons_zero, List.getElem?_cons_succ] at m0 m1 m2 m3 m4
  clear hw3 rd2 fp2 B3 Bx k2 hbl
  clear k3
  have n34 : ¬ (b3 = b4) := by have := HB.out; omega
  have n43 : ¬ (b4 = b3) := by have := HB.out; omega
  go_wp2_with fail
  rw [← HW3.out]
  clear n34 n43 m0 m1 m2 m3 m4
  clear p0 p1 p2 p3 p4 f0 f1 f2 f3 f4 HW3 B4
  refine (cut_any t0 _ w3 (k.keep K3 (by simp))).mono ?_
  rintro e w4 ⟨bo, d, rfl, rd2, fp2, k2⟩
  obtain ⟨t, hs⟩ : ∃ s, s = Sp.cutS t0 := ⟨_, rfl⟩
  have g_eq : t0.gen = t.gen ∧ t0.root = t.root ∧ t0.next = t.next ∧ t0.commit = t.commit := by rw [hs]; exact ⟨rfl, rfl, rfl, rfl⟩
  have hle4 : t.snaps.length ≤ 10 := by rw [hs]; exact cutS_le t0
  rw [← hs] at rd2 fp2 ⊢
  have G4 := Lib.hid g_eq
  rw [g_eq.1, g_eq.2.1, g_eq.2.2.1, g_eq.2.2.2]
  clear hs g_eq
  have Bx := B4b.keep k2 (by simp)
  obtain ⟨w5, hw3, B4c, k3⟩ := set5 Bx (.int .i64 t.gen) (.int .i64 t.root) (.int .i64 t.next) (.int .i64 t.commit) (.slice bo t.snaps.length d)
  have p0 := Bx.cell 0
  have p1 := Bx.cell 1
  have p2 := Bx.cell 2
  have p3 := Bx.cell 3
  have p4 := Bx.cell 4
  simp only [List.getElem?_cons_zero, List.getElem?_cons_succ] at p0 p1 p2 p3 p4
  have f0 := Bx.free 0
  have f1 := Bx.free 1
  have f2 := Bx.free 2
  have f3 := Bx.free 3
  have f4 := Bx.free 4
  have hbl : b4 < w3.heap.size := B4b.lt
  have hb43 : b4 < w3.heap.size := hbl
  have TN : SuN w3.heap.size w5 (.agg #[.int .i64 t.gen, .int .i64 t.root, .int .i64 t.next, .int .i64 t.commit, .slice bo t.snaps.length d]) t := (SuN.of rd2 (by omega) fp2).keep k3 (by simp; omega)
  have K5 : Keep [] w w5 := (K3.trans k2 (by simp)).trans k3 (fun x hx => by simp at hx; subst hx; right; have := HB.out; omega)
  have B3d := (B3c.keep k2 (by simp)).keep k3 (by simp; have := HB.out; omega)
  have HW4 := Lib.hid hw3
  have SN5 := (SN.keep k2 (by simp)).keep k3 (by simp; omega)
  clear hw3 rd2 fp2 B4b B3c SN Bx k2 k3 hbl
  have q0 := B3d.cell 0
  have q1 := B3d.cell 1
  have q2 := B3d.cell 2
  have q3 := B3d.cell 3
  have q4 := B3d.cell 4
  simp only [List.getElem?_cons_zero, List.getElem?_cons_succ] at q0 q1 q2 q3 q4
  have n34 : ¬ (b3 = b4) := by have := HB.out; omega
  have n43 : ¬ (b4 = b3) := by have := HB.out; omega
  rw [HW4.out] at q0 q1 q2 q3 q4
  obtain ⟨g1, hg1⟩ : ∃ g, IntKind.i64.wrap (s.gen + 1) = g := ⟨_, rfl⟩
  go_wp2_with fail
  rw [← HW4.out]
  clear q0 q1 q2 q3 q4 n34 n43 p0 p1 p2 p3 p4 f0 f1 f2 f3 f4 HW4
  obtain ⟨w6, hw6⟩ : ∃ W, W = w5.setCell ⟨b4, 0, none⟩ (.int .i64 g1) := ⟨_, rfl⟩
  have k56 : Keep [b4] w5 w6 := by rw [hw6]; exact (Keep.refl _ _).setCell (Or.inl (by simp)) _
  have B4d : Blk w6 b4 [.int .i64 g1, .int .i64 t.root, .int .i64 t.next, .int .i64 t.commit, .slice bo t.snaps.length d] 59 := by rw [hw6]; exact B4c.set 0 _
  have B3e := B3d.keep k56 (by simp; have := HB.out; omega)
  obtain ⟨n, hn⟩ : ∃ n : Sp.Su, n = { t with gen := g1 } := ⟨_, rfl⟩
  have NN6 : SuN w3.heap.size w6 (.agg #[.int .i64 g1, .int .i64 t.root, .int .i64 t.next, .int .i64 t.commit, .slice bo t.snaps.length d]) n := by rw [hn]; exact (TN.gen g1).keep k56 (by simp; omega)
  have SN6 := SN5.keep k56 (by simp; omega)
  have K6 : Keep [] w w6 := K5.trans k56 (fun x hx => by simp at hx; subst hx; right; have := HB.out; omega)
  rw [← hw6]
  have HN := Lib.hid hn
  clear hw6 k56 hn B4c B3d TN SN5 K5
  cases hr : Sp.right s with
  | false =>
    refine (right_any s _ w6 SN6.su).mono ?_
    rintro e w7 ⟨rfl, k7⟩
    rw [hr]
    go_wp2
    go_ret
    exact ⟨rfl, K6.trans k7 (by simp)⟩
  | true =>
    refine (right_any s _ w6 SN6.su).mono ?_
    rintro e w7 ⟨rfl, k7⟩
    rw [hr]
    have T7 := B4d.keep k7 (by simp)
    have q0 := T7.cell 0
    have q1 := T7.cell 1
    have q2 := T7.cell 2
    have q3 := T7.cell 3
    have q4 := T7.cell 4
    simp only [List.getElem?_cons_zero, List.getElem?_cons_succ] at q0 q1 q2 q3 q4
    go_wp2_with fail
    clear q0 q1 q2 q3 q4
    cases ht : Sp.right n with
    | false =>
      refine (right_any n _ w7 (NN6.keep k7 (by simp)).su).mono ?_
      rintro e w8 ⟨rfl, k8⟩
      rw [ht]
      go_wp2
      go_ret
      exact ⟨rfl, (K6.trans k7 (by simp)).trans k8 (by simp)⟩
    | true =>
      refine (right_any n _ w7 (NN6.keep k7 (by simp)).su).mono ?_
      rintro e w8 ⟨rfl, k8⟩
      rw [ht]
      have k68 : Keep [] w6 w8 := k7.trans k8 (by simp)
      have K8 : Keep [] w w8 := K6.trans k68 (by simp)
      have bs := Sp.right_bd hr
      have hg0 : 0 ≤ s.gen := by have := bs.g0; omega
      have hg1b : s.gen ≤ 9223372036854775807 := by have := bs.g1; omega
      have hgn : n.gen = s.gen + 1 := by
        rw [HN.out]
        show g1 = _
        rw [← hg1, IntWalk.i64_in _ (by have := bs.g1; omega)]
      obtain ⟨m, hm⟩ : ∃ m, m = min l.length 512 := ⟨_, rfl⟩
      have hmm : min (l.length : Int) 512 = (m : Int) := by omega
      have hmm2 : min 512 (l.length : Int) = (m : Int) := by omega
      have hm512 : m ≤ 512 := by omega
      have hml : m ≤ l.length := by omega
      have hmc : m ≤ cW := by omega
      have hmcI : (m : Int) ≤ (cW : Int) := by omega
      have hms : IntKind.i64.wrap (512 - (m : Int)) = ((512 - m : Nat) : Int) := by rw [IntWalk.i64_in _ (by omega)]; omega
      obtain ⟨m', hm'⟩ : ∃ m' : Nat, m' = 512 - m := ⟨_, rfl⟩
      rw [← hm'] at hms
      obtain ⟨hvl, hnW, hxW⟩ := HV.out
      have RW : RdV w8 (.slice aoW m cW) m 1 (bv (l.take m)) := rd_take (l := l) (by omega) hml hnW (fun a ha j u hu => by
        have h2 := hxW a ha j u hu
        rw [K8.cell (World.block_lt_of_cell? _ _ h2) (by simp)]; exact h2)
      obtain ⟨nl1, aoX, cX, eX, nc1, nn1, nx1⟩ := RW
      injection eX with z1 z2 z3
      subst z1 z3
      clear z2 nc1 hvl hnW hxW
      have O8 := ownsRow_made0 w8 5 1
      have KA : Keep [] w8 (w8.alloc (.cells #[] 5)) := (Keep.refl _ _).alloc _
      have nx2 : ∀ a, aoW = some a → ∀ j u, (bv (l.take m))[j]? = some u → (w8.alloc (.cells #[] 5)).cell? (a.add j) = some u := fun a ha j u hu => by
        have h2 := nx1 a ha j u hu
        rw [KA.cell (World.block_lt_of_cell? _ _ h2) (by simp)]; exact h2
      have NX := Lib.hid nx2
      have NL := Lib.hid nl1
      have NN := Lib.hid nn1
      have HM' := Lib.hid hm'
      have hm1' : m + m' = 512 := by omega
      have HM := Lib.hid hm
      clear nx1 nx2 nl1 nn1 hm hm' hg1
      have S8 := B3e.keep k68 (by simp)
      have N8 := B4d.keep k68 (by simp)
      have hbS8 := S8.lt
      go_wp2_with (first
        | (at_builtin; refine wpList_app rfl (.tmp 39) (.tmp 44) 27 27 rfl _ _ rfl rfl (run_app_slice _ 27 _ 5 i0 _ 1 1 Try.underlying27 hi hz0 hz1 hz2 rfl (by decide) _ 0 [] O8 aoW m cW (bv (l.take m)) NL.out NN.out NX.out (bv_one _) (by unfold maxLen; omega) (by omega)) ?_; intro v2 w10 hO; rw [Nat.zero_add, List.nil_append] at hO; obtain ⟨ao2, cp2, rfl⟩ := hO.slice)
        | (at_builtin; refine wpList_app rfl (.tmp 45) (.tmp 49) 27 3 rfl _ _ rfl rfl (run_app_zeros _ 27 3 _ 5 i0 .i64 .i64 Try.underlying27 Try.underlying3 hi hz0 hz1 hz2 _ m _ hO.1 m' (by unfold maxLen; omega) (by omega)) ?_; intro v3 w12 hO2; rw [hm1'] at hO2; obtain ⟨ao3, cp3, rfl⟩ := hO2.slice))
      obtain ⟨O, hO0⟩ : ∃ O : List UInt8, O = l.take m ++ List.replicate m' 0 := ⟨_, rfl⟩
      have hOl : O.length = 512 := by rw [hO0, List.length_append, List.length_take, List.length_replicate]; omega
      have hObv : bv O = bv (l.take m) ++ List.replicate m' (.int .u8 0) := by rw [hO0, bv_append]; simp [bv]
      rw [← hObv] at hO2
      have M1 := hO.keeps KA (by intro x hx; simp [rowOf, Value.ownBlock] at hx; omega)
      have M2 := hO2.keeps M1.1 M1.2
      have rO : RdV w12 (.slice ao3 512 cp3) O.length 1 (bv O) := by rw [hOl]; exact RdV.ofOwn hO2.1
      have K12 := M2.1
      have S12 := S8.keep K12 (by simp)
      have N12 := N8.keep K12 (by simp)
      have HOL := Lib.hid hOl
      clear hO hO2 M1 M2 O8 NX NL NN S8 N8 hbS8 hObv hO0 KA
      obtain ⟨zl, aoX, cX, eX, hcO, hnnO, hxO⟩ := rO
      injection eX with z1 z2 z3
      subst z1 z3
      clear z2
      rw [HOL.out] at hcO
      have HXO := Lib.hid hxO
      have HNO := Lib.hid hnnO
      clear hxO hnnO zl
      have hcp : ¬ (cp3 = 504) := by omega
      have hcpI : (512 : Int) ≤ (cp3 : Int) := by omega
      have rT : RdV w12 (.slice (ao3.map (fun x => ({ block := x.block, off := x.off + 504 } : Addr))) 8 (cp3 - 504)) (O.drop 504).length 1 (bv (O.drop 504)) := by
        have ea : (fun x : Addr => ({ block := x.block, off := x.off + 504 } : Addr)) = fun x => x.add 504 := by funext x; simp [Addr.add]
        have := (rd_drop (m := 504) (l := O) (w := w12) (ao' := ao3.map (fun x => x.add 504)) (by rw [HOL.out]; exact hcO) (by rw [HOL.out]; omega) HNO.out HXO.out (Or.inr rfl)).1
        rw [HOL.out] at this
        rw [List.length_drop, HOL.out, ea]
        exact this
      obtain ⟨X8, hX8⟩ : ∃ x, x = txt (O.drop 504) := ⟨_, rfl⟩
      obtain ⟨Y8, hY8⟩ : ∃ x, x = txt (Pk.be s.gen.toNat 8) := ⟨_, rfl⟩
      obtain ⟨z, hz⟩ : ∃ z, (Op.bytesLess X8.toList Y8.toList || X8.toList == Y8.toList) = z := ⟨_, rfl⟩
      have cv1 := conv_str (rT.keep ((Keep.refl [] w12).drew) (by simp))
      have HT := Lib.hid rT
      have HX8 := Lib.hid hX8
      have HY8 := Lib.hid hY8
      rw [← hX8] at cv1
      clear rT hX8 hY8
      have q0 := S12.cell 0
      simp only [List.getElem?_cons_zero] at q0
      have HZ := Lib.hid (show z = true → Pk.rd (O.drop 504) ≤ s.gen.toNat from fun h => by
        rw [h, HX8.out, HY8.out, Lib.toList_data, Lib.toList_data] at hz
        exact Sp.not_later (by rw [List.length_drop, HOL.out]) (by have := bs.g1; omega) hz)
      have hbS := S12.lt
      have hY8' : txt (Pk.be s.gen.toNat 8) = Y8 := HY8.out.symm
      have hX8' : txt (O.drop 504) = X8 := HX8.out.symm
      go_cut [57] (fun s57 wx => s57 = .bool (!z) ∧ Keep [] w12 wx)
      case first =>
        go_region_law
          (first
            | (go_simp; go_at_call 62; (with_reducible refine (knum8_any s.gen _ hg0 hg1b).mono ?_); rintro e wd ⟨rfl, kd⟩; rw [hY8']; have cv2 := conv_str (HT.out.keep (((Keep.refl [] w12).drew).trans kd (by simp)) (by simp)); rw [hX8'] at cv2))
        all_goals
          go_simp
          go_wp2_with fail
          go_meet
          case rel => exact ⟨rfl, ((Keep.refl [] w12).drew).trans kd (by simp)⟩
      case rest =>
        obtain ⟨rfl, k13⟩ := hcut
        clear cv1 hX8' hY8' hz
        have K13 : Keep [] w8 wc := K12.trans k13 (by simp)
        have S13 := S12.keep k13 (by simp)
        have N13 := N12.keep k13 (by simp)
        clear q0 hbS S12 N12
        cases z with
        | false =>
          go_wp2
          go_ret
          exact ⟨rfl, K8.trans K13 (by simp)⟩
        | true =>
          have hlate := Lib.hid (HZ.out rfl)
          have q0 := S13.cell 0
          have q1 := S13.cell 1
          have q2 := S13.cell 2
          have q3 := S13.cell 3
          have q4 := S13.cell 4
          simp only [List.getElem?_cons_zero, List.getElem?_cons_succ] at q0 q1 q2 q3 q4
          obtain ⟨A, hA⟩ : ∃ B, B = Sp.block s := ⟨_, rfl⟩
          obtain ⟨B, hB⟩ : ∃ B, B = Sp.block n := ⟨_, rfl⟩
          have lA : A.length = 512 := by rw [hA]; exact Sp.block_length (Sp.right_bd hr)
          have lB : B.length = 512 := by rw [hB]; exact Sp.block_length (Sp.right_bd ht)
          have HA := Lib.hid hA
          have HBB := Lib.hid hB
          have LA := Lib.hid lA
          have LB := Lib.hid lB
          clear lA lB hA hB
          have k6c : Keep [] w6 wc := k68.trans K13 (by simp)
          go_wp2_with fail
          clear q0 q1 q2 q3 q4
          refine (bytes_ok s _ wc (SN6.keep k6c (by simp)).su hr).mono ?_
          rintro e w14 ⟨aoA, cA, rfl, oA, k14, _⟩
          rw [← HA.out] at oA
          have rA : RdV w14 (.slice aoA 512 cA) A.length 1 (bv A) := by rw [LA.out]; exact RdV.ofOwn oA
          have N14 := N13.keep k14 (by simp)
          have q0 := N14.cell 0
          have q1 := N14.cell 1
          have q2 := N14.cell 2
          have q3 := N14.cell 3
          have q4 := N14.cell 4
          simp only [List.getElem?_cons_zero, List.getElem?_cons_succ] at q0 q1 q2 q3 q4
          clear oA
          go_wp2_with fail
          clear q0 q1 q2 q3 q4
          refine (bytes_ok n _ w14 (NN6.keep (k6c.trans k14 (by simp)) (by simp)).su ht).mono ?_
          rintro e w15 ⟨aoB, cB, rfl, oB, k15, _⟩
          rw [← HBB.out] at oB
          have rB : RdV w15 (.slice aoB 512 cB) B.length 1 (bv B) := by rw [LB.out]; exact RdV.ofOwn oB
          have rA15 := Lib.hid (rA.keep k15 (by simp))
          have kc15 : Keep [] wc w15 := k14.trans k15 (by simp)
          have K15 : Keep [] w8 w15 := K13.trans kc15 (by simp)
          have S15 := S13.keep kc15 (by simp)
          have N15 := N14.keep k15 (by simp)
          obtain ⟨mm, hmA, hmA1, hmA2⟩ := mask16 at'
          obtain ⟨kk, hk1, hk2⟩ : ∃ k : Nat, (mm : Int) % 513 = (k : Int) ∧ k ≤ 512 := ⟨mm % 513, by omega, by omega⟩
          clear hmA2 hmA1 oB rA k14 k15 S13 N13 N14
          obtain ⟨yl, aoX, cX, eX, hcB, hnnB, hxB⟩ := rB
          injection eX with z1 z2 z3
          subst z1 z3
          clear z2
          rw [LB.out] at hcB
          have HXB := Lib.hid hxB
          have HNB := Lib.hid hnnB
          clear hxB hnnB yl
          have hkI : (kk : Int) ≤ 512 := by omega
          have hcBI : (512 : Int) ≤ cB := by omega
          go_wp2_with fail
          rw [hk1]
          obtain ⟨X, hX⟩ : ∃ X, X = B.take kk ++ O.drop kk := ⟨_, rfl⟩
          have HXX := Lib.hid hX
          have hXl : X.length = 512 := by rw [hX, List.length_append, List.length_take, List.length_drop, HOL.out, LB.out]; omega
          have HXL := Lib.hid hXl
          clear hXl
          go_cut [15] (fun s15 wx => ∃ ao c, s15 = .slice ao 512 c ∧ RdV wx (.slice ao 512 c) 512 1 (bv X) ∧ Keep [] w15 wx)
          case first =>
            have k12 : Keep [] w12 w15 := k13.trans kc15 (by simp)
            have NB : ∀ W, Keep [] w15 W → ∀ a, aoB = some a → ∀ j u, (bv (B.take kk))[j]? = some u → W.cell? (a.add j) = some u := fun W K a ha j u hu => by
              have h1 : (bv B)[j]? = some u := by
                simp only [bv, List.map_take] at hu ⊢
                rw [List.getElem?_take] at hu
                split at hu
                · exact hu
                · cases hu
              have h2 := HXB.out a ha j u h1
              rw [K.cell (World.block_lt_of_cell? _ _ h2) (by simp)]
              exact h2
            have HLBk := Lib.hid (show (bv (B.take kk)).length = kk * 1 by rw [bv_length, List.length_take, LB.out]; omega)
            have HLOk := Lib.hid (show (bv (O.drop kk)).length = (512 - kk) * 1 by rw [bv_length, List.length_drop, HOL.out]; omega)
            obtain ⟨aoD, hao, hsel⟩ : ∃ aoD : Option Addr, (aoD = ao3 ∧ cp3 = kk ∨ aoD = ao3.map (fun x => x.add kk)) ∧ ((¬ cp3 = kk ∧ aoD = ao3.map (fun x => x.add kk)) ∨ (cp3 = kk ∧ aoD = ao3)) := by
              by_cases hcap : cp3 = kk
              · exact ⟨ao3, Or.inl ⟨rfl, hcap⟩, Or.inr ⟨hcap, rfl⟩⟩
              · exact ⟨_, Or.inr rfl, Or.inl ⟨hcap, rfl⟩⟩
            have DR := rd_drop (m := kk) (l := O) (w := w12) (ao' := aoD) (by rw [HOL.out]; exact hcO) (by rw [HOL.out]; exact hk2) HNO.out HXO.out hao
            rw [HOL.out] at DR
            have NO : ∀ W, Keep [] w15 W → ∀ a, aoD = some a → ∀ j u, (bv (O.drop kk))[j]? = some u → W.cell? (a.add j) = some u := fun W K a ha j u hu => by
              obtain ⟨_, ao', c', e, _, _, hx⟩ := DR.1
              injection e with e1 _ _
              have h2 := hx a (e1 ▸ ha) j u hu
              rw [(k12.trans K (by simp)).cell (World.block_lt_of_cell? _ _ h2) (by simp)]
              exact h2
            have NNO : aoD = none → 512 - kk = 0 ∧ cp3 - kk = 0 := fun h => by
              have h' : ao3 = none := by
                rcases hao with ⟨h1, _⟩ | h1
                · rw [← h1]; exact h
                · rw [h1] at h; simpa using h
              have := HNO.out h'
              rw [HOL.out] at this
              omega
            have HB2 := Lib.hid NO
            have HNO2 := Lib.hid NNO
            have HNB2 := Lib.hid NB
            clear NO NNO DR hao NB
            have O15 := ownsRow_made0 w15 5 1
            have hk0 : (0 : Int) ≤ (kk : Int) := by omega
            have hkB : (kk : Int) ≤ (cB : Int) := by omega
            have hkO : (kk : Int) ≤ (cp3 : Int) := by omega
            have hkn : kk ≤ 512 := hk2
            have FA := Lib.hid (run_app_slice (P := Try.prog) (w15.alloc (.cells #[] 5)).drew 27 27 5 i0 _ 1 1 Try.underlying27 hi hz0 hz1 hz2 rfl (by decide) _ 0 [] O15.drew aoB kk cB (bv (B.take kk)) HLBk.out (fun h => by have := HNB.out h; rw [LB.out] at this; omega) (HNB2.out _ ((Keep.refl [] w15).alloc (.cells #[] 5)).drew) (bv_one _) (by unfold maxLen; omega) (by omega))
            simp only [Nat.zero_add, List.nil_append] at FA
            rcases hsel with ⟨hcap, rfl⟩ | ⟨rfl, rfl⟩
            · have hcapI : ¬ ((kk : Int) = (cp3 : Int)) := by omega
              have hcapI2 : ¬ (kk = cp3) := by omega
              go_region_held3 (fun _ => True) (trivial)
                (first
                  | ((with_reducible show (if _ = true then Oper.wp _ _ _ ((w15.alloc (.cells #[] 5)).drew) _ _ else _)); refine step_app rfl (.tmp 88) (.tmp 91) 27 27 rfl _ _ rfl rfl FA.out ?_; intro v2 w16 hO; obtain ⟨ao4, cp4, rfl⟩ := hO.slice; have KB := ((Keep.refl [] w15).alloc (.cells #[] 5)).drew; have M1 := hO.keeps KB (by simp [rowOf, Value.ownBlock]); skip)
                  | ((with_reducible show (if _ = true then Oper.wp _ _ _ w16 _ _ else _)); have o1 := hO.1; have F2 := run_app_slice (P := Try.prog) w16 27 27 5 i0 _ 1 1 Try.underlying27 hi hz0 hz1 hz2 rfl (by decide) _ kk _ o1 (ao3.map (fun x => x.add kk)) (512 - kk) (cp3 - kk) (bv (O.drop kk)) HLOk.out HNO2.out (HB2.out _ M1.1) (bv_one _) (by unfold maxLen; omega) (by omega); refine step_app rfl (.tmp 92) (.tmp 95) 27 27 rfl _ _ rfl rfl F2 ?_; intro v3 w17 hO2; clear F2 o1; rw [show kk + (512 - kk) = 512 by omega, ← bv_append] at hO2; obtain ⟨ao5, cp5, rfl⟩ := hO2.slice; have M2 := hO2.keeps M1.1 M1.2; skip))
              all_goals
                go_simp
                go_wp2
                go_meet
                case rel => exact ⟨_, _, rfl, by rw [HXX.out]; exact RdV.ofOwn hO2.1, M2.1⟩
            · have HL0 := Lib.hid (show (bv (O.drop cp3)).length = 0 * 1 by rw [HLOk.out]; omega)
              go_region_held3 (fun _ => True) (trivial)
                (first
                  | ((with_reducible show (if _ = true then Oper.wp _ _ _ ((w15.alloc (.cells #[] 5)).drew) _ _ else _)); refine step_app rfl (.tmp 88) (.tmp 91) 27 27 rfl _ _ rfl rfl FA.out ?_; intro v2 w16 hO; obtain ⟨ao4, cp4, rfl⟩ := hO.slice; have KB := ((Keep.refl [] w15).alloc (.cells #[] 5)).drew; have M1 := hO.keeps KB (by simp [rowOf, Value.ownBlock]); skip)
                  | ((with_reducible show (if _ = true then Oper.wp _ _ _ w16 _ _ else _)); have o1 := hO.1; have F2 := run_app_slice (P := Try.prog) w16 27 27 5 i0 _ 1 1 Try.underlying27 hi hz0 hz1 hz2 rfl (by decide) _ cp3 _ o1 aoD 0 0 (bv (O.drop cp3)) HL0.out (fun _ => ⟨rfl, rfl⟩) (HB2.out _ M1.1) (bv_one _) (by unfold maxLen; omega) (by omega); refine step_app rfl (.tmp 92) (.tmp 95) 27 27 rfl _ _ rfl rfl F2 ?_; intro v3 w17 hO2; clear F2 o1; rw [Nat.add_zero, ← bv_append] at hO2; have hO2 := hO2.lenEq (show cp3 = 512 by omega); obtain ⟨ao5, cp5, rfl⟩ := hO2.slice; have M2 := hO2.keeps M1.1 M1.2; skip))
              all_goals
                go_simp
                go_wp2
                go_meet
                case rel => exact ⟨_, _, rfl, by rw [HXX.out]; exact RdV.ofOwn hO2.1, M2.1⟩
          case rest =>
            obtain ⟨ao15, c15, rfl, r15, k15⟩ := hcut
            obtain ⟨q, hq1, hq2, hq3⟩ : ∃ q : Nat, bits BinOp.and IntKind.i64 s.gen 1 = (q : Int) ∧ q < 2 ∧ (q : Int) = s.gen % 2 := by simpa using mask_nat s.gen 1 (by omega)
            have rA16 := rA15.out.keep k15 (by simp)
            have S16 := S15.keep k15 (by simp)
            have N16 := N15.keep k15 (by simp)
            have HQ3 := Lib.hid hq3
            clear hq3
            go_upto_region 17 with fail
            obtain ⟨w17, hw17⟩ : ∃ W, W = wc.alloc (.cells #[.slice ao15 512 c15, .slice ao15 512 c15] 27) := ⟨_, rfl⟩
            obtain ⟨b16, hb16⟩ : ∃ b, b = wc.heap.size := ⟨_, rfl⟩
            have k17 : Keep [] wc w17 := by rw [hw17]; exact (Keep.refl _ _).alloc _
            have B16 : Blk w17 b16 [.slice ao15 512 c15, .slice ao15 512 c15] 27 := by rw [hw17, hb16]; exact Blk.new' wc _ _
            have S17 := S16.keep k17 (by simp)
            have hb3b : b3 < wc.heap.size := S16.lt
            have n316 : ¬ (b3 = b16) := by omega
            have n163 : ¬ (b16 = b3) := by omega
            rw [← hw17, ← hb16]
            have HW17 := Lib.hid hw17
            have HB16 := Lib.hid hb16
            clear hw17 hb16
            have p0 := S17.cell 0
            have q0 := B16.cell 0
            have q1 := B16.cell 1
            simp only [List.getElem?_cons_zero, List.getElem?_cons_succ] at q0 q1 p0
            have f0 := B16.free 0
            have f1 := B16.free 1
            go_cut [16] (fun s16 wx => ∃ (v0 v1 : Value) (la lb : List UInt8), s16 = .slice (some ⟨b16, 0, none⟩) 2 2 ∧ wx.cell? ⟨b16, 0, none⟩ = some v0 ∧ wx.cell? ⟨b16, 1, none⟩ = some v1 ∧ b16 < wx.heap.size ∧ RdV wx v0 la.length 1 (bv la) ∧ RdV wx v1 lb.length 1 (bv lb) ∧ Hid (s.gen % 2 = 0 ∧ la = A ∧ lb = X ∨ s.gen % 2 = 1 ∧ la = X ∧ lb = A) ∧ Keep [] wc wx)
            case first =>
              have hk16 : ∀ W v, W = w17.setCell ⟨b16, q, none⟩ v → Keep [] wc W := fun W v e => by
                rw [e, HW17.out]
                exact ((Keep.refl [] wc).alloc _).setCell (Or.inr (by rw [HB16.out]; exact Nat.le_refl _)) _
              have hrA : ∀ W, Keep [] wc W → RdV W (.slice aoA 512 cA) A.length 1 (bv A) := fun W K => rA16.keep K (by simp)
              have hrX : ∀ W, Keep [] wc W → RdV W (.slice ao15 512 c15) X.length 1 (bv X) := fun W K => by rw [HXL.out]; exact r15.keep K (by simp)
              have HK16 := Lib.hid hk16
              have HRA := Lib.hid hrA
              have HRX := Lib.hid hrX
              have HBK := Lib.hid B16
              clear hk16 hrA hrX B16 S17
              have cq : w17.cell? ⟨b16, q, none⟩ = some (.slice ao15 512 c15) := by
                rcases (by omega : q = 0 ∨ q = 1) with rfl | rfl
                · exact q0
                · exact q1
              have fq : w17.frozen? ⟨b16, q, none⟩ = false := by
                rcases (by omega : q = 0 ∨ q = 1) with rfl | rfl
                · exact f0
                · exact f1
              have hq2I : (q : Int) < 2 := by omega
              clear q0 q1 f0 f1
              clear hmm hmm2 hm512 hml hmc hmcI hms hm1' hk1 hk2 hkI hcBI hcB hcO hcp hcpI hOl hX hgn hmA S16 N16 S15 N15 NN6 SN6 K15 kc15 r15 rA16 k15
              go_wp2_with fail
              go_meet
              case rel =>
                exact flips_places hq2 HQ3.out HBK.out (HK16.out _ _ rfl) (HRA.out _ (HK16.out _ _ rfl)) (HRX.out _ (HK16.out _ _ rfl))
            case rest =>
              obtain ⟨v0, v1, la, lb, rfl, y0, y1, hb16', ra, rb, HD, k18⟩ := hcut
              have k6c2 : Keep [] w6 wc := ((k6c.trans kc15 (by simp)).trans k15 (by simp)).trans k18 (by simp)
              have KC : Keep [] w wc := ((K8.trans K15 (by simp)).trans k15 (by simp)).trans k18 (by simp)
              have S18 := S16.keep k18 (by simp)
              have N18 := N16.keep k18 (by simp)
              have HGN := Lib.hid hgn
              have HK2 := Lib.hid hk2
              clear p0 q0 q1 f0 f1 B16 S17 HW17 HB16 S16 N16 S15 N15 rA16 rA15 r15 hmm hmm2 hm512 hml hmc hmcI hms hm1' hk1 hkI hcBI hcB hcO hcp hcpI hOl hX hgn hmA hq1 hq2 n316 n163 hb3b k17
              go_upto_region 18 with fail
              obtain ⟨U, hU⟩ : ∃ U, U = chooseS la lb := ⟨_, rfl⟩
              obtain ⟨ec, hec⟩ : ∃ x, x = chooseE la lb := ⟨_, rfl⟩
              have HU := Lib.hid hU
              have HE := Lib.hid hec
              clear hU hec
              go_cut [17, 18] (fun s17 s18 wx => ∃ (b17 : Nat) (ao13 : Option Addr) (c13 : Nat), s17 = .pointer (some ⟨b17, 0, none⟩) ∧ s18 = .int .i64 ec ∧ Blk wx b17 [.int .i64 U.gen, .int .i64 U.root, .int .i64 U.next, .int .i64 U.commit, .slice ao13 U.snaps.length c13] 59 ∧ RdV wx (.slice ao13 U.snaps.length c13) U.snaps.length 3 (Sp.scells U.snaps) ∧ U.snaps.length ≤ 9223372036854775807 ∧ Keep [] wc wx)
              case first =>
                have KD : Keep [] wc wc.drew := (Keep.refl [] wc).drew
                have KZ : Keep [] wc (wc.alloc (.cells #[.int .i64 0, .int .i64 0, .int .i64 0, .int .i64 0, .slice none 0 0] 59)).drew := ((Keep.refl [] wc).alloc (.cells #[.int .i64 0, .int .i64 0, .int .i64 0, .int .i64 0, .slice none 0 0] 59)).drew
                have yd0 : wc.drew.cell? ⟨b16, 0, none⟩ = some v0 := by rw [KD.cell hb16' (by simp)]; exact y0
                have yd1 : wc.drew.cell? ⟨b16, 1, none⟩ = some v1 := by rw [KD.cell hb16' (by simp)]; exact y1
                have yz0 : (wc.alloc (.cells #[.int .i64 0, .int .i64 0, .int .i64 0, .int .i64 0, .slice none 0 0] 59)).drew.cell? ⟨b16, 0, none⟩ = some v0 := by rw [KZ.cell hb16' (by simp)]; exact y0
                have yz1 : (wc.alloc (.cells #[.int .i64 0, .int .i64 0, .int .i64 0, .int .i64 0, .slice none 0 0] 59)).drew.cell? ⟨b16, 1, none⟩ = some v1 := by rw [KZ.cell hb16' (by simp)]; exact y1
                have ra1 := Lib.hid (ra.keep KD (by simp))
                have rb1 := Lib.hid (rb.keep KD (by simp))
                have ra2 := Lib.hid (ra.keep KZ (by simp))
                have rb2 := Lib.hid (rb.keep KZ (by simp))
                have HZB := Lib.hid (Blk.new' wc [.int .i64 0, .int .i64 0, .int .i64 0, .int .i64 0, .slice none 0 0] 59).drew
                clear ra rb
                go_region_held3 (fun w' => w'.cell? ⟨b16, 0, none⟩ = some v0 ∧ w'.cell? ⟨b16, 1, none⟩ = some v1) (first | (refine ⟨?_, ?_⟩ <;> with_reducible assumption) | go_keep)
                  (first
                    | (go_at_call 60; (with_reducible refine (choose_any _ _ la lb wc.drew ra1.out rb1.out).mono ?_); rintro e w18 ⟨v18, rfl, sn13, k13⟩; rw [← HU.out] at sn13; rw [← HE.out]; obtain ⟨ao13, c13, rfl, rd13, le13, fp13⟩ := sn13; have K19 := KD.trans k13 (by simp); have yw0 : w18.cell? ⟨b16, 0, none⟩ = some v0 := (by rw [K19.cell hb16' (by simp)]; exact y0); have yw1 : w18.cell? ⟨b16, 1, none⟩ = some v1 := (by rw [K19.cell hb16' (by simp)]; exact y1); have yv0 : (w18.alloc (.cells #[.int .i64 0, .int .i64 0, .int .i64 0, .int .i64 0, .slice none 0 0] 59)).cell? ⟨b16, 0, none⟩ = some v0 := (by rw [((Keep.refl [] w18).alloc _).cell (Nat.lt_of_lt_of_le hb16' K19.size) (by simp)]; exact yw0); have yx0 : (w18.alloc (.cells #[.int .i64 U.gen, .int .i64 U.root, .int .i64 U.next, .int .i64 U.commit, .slice ao13 U.snaps.length c13] 59)).cell? ⟨b16, 0, none⟩ = some v0 := (by rw [((Keep.refl [] w18).alloc _).cell (Nat.lt_of_lt_of_le hb16' K19.size) (by simp)]; exact yw0); have yv1 : (w18.alloc (.cells #[.int .i64 0, .int .i64 0, .int .i64 0, .int .i64 0, .slice none 0 0] 59)).cell? ⟨b16, 1, none⟩ = some v1 := (by rw [((Keep.refl [] w18).alloc _).cell (Nat.lt_of_lt_of_le hb16' K19.size) (by simp)]; exact yw1); have yx1 : (w18.alloc (.cells #[.int .i64 U.gen, .int .i64 U.root, .int .i64 U.next, .int .i64 U.commit, .slice ao13 U.snaps.length c13] 59)).cell? ⟨b16, 1, none⟩ = some v1 := (by rw [((Keep.refl [] w18).alloc _).cell (Nat.lt_of_lt_of_le hb16' K19.size) (by simp)]; exact yw1))
                    | (go_at_call 60; (with_reducible refine (choose_any _ _ la lb (wc.alloc (.cells #[.int .i64 0, .int .i64 0, .int .i64 0, .int .i64 0, .slice none 0 0] 59)).drew ra2.out rb2.out).mono ?_); rintro e w18 ⟨v18, rfl, sn13, k13⟩; rw [← HU.out] at sn13; rw [← HE.out]; obtain ⟨ao13, c13, rfl, rd13, le13, fp13⟩ := sn13; have K19 := KZ.trans k13 (by simp); have yw0 : w18.cell? ⟨b16, 0, none⟩ = some v0 := (by rw [K19.cell hb16' (by simp)]; exact y0); have yw1 : w18.cell? ⟨b16, 1, none⟩ = some v1 := (by rw [K19.cell hb16' (by simp)]; exact y1); have Z3 := HZB.out.keep k13 (by simp); have ZL := Z3.lt; have zz0 := Z3.cell 0; have zz1 := Z3.cell 1; have zz2 := Z3.cell 2; have zz3 := Z3.cell 3; have zz4 := Z3.cell 4; simp only [List.getElem?_cons_zero, List.getElem?_cons_succ] at zz0 zz1 zz2 zz3 zz4; have zf0 := Z3.free 0; have zf1 := Z3.free 1; have zf2 := Z3.free 2; have zf3 := Z3.free 3; have zf4 := Z3.free 4; have yv0 : (((((w18.setCell ⟨wc.heap.size, 0, none⟩ (.int .i64 U.gen)).setCell ⟨wc.heap.size, 1, none⟩ (.int .i64 U.root)).setCell ⟨wc.heap.size, 2, none⟩ (.int .i64 U.next)).setCell ⟨wc.heap.size, 3, none⟩ (.int .i64 U.commit)).setCell ⟨wc.heap.size, 4, none⟩ (.slice ao13 U.snaps.length c13)).cell? ⟨b16, 0, none⟩ = some v0 := (by rw [(set5k w18 wc.heap.size _ _ _ _ _).cell (Nat.lt_of_lt_of_le hb16' K19.size) (by intro hx; rw [List.mem_singleton] at hx; exact absurd hx (Nat.ne_of_lt hb16'))]; exact yw0); have yv1 : (((((w18.setCell ⟨wc.heap.size, 0, none⟩ (.int .i64 U.gen)).setCell ⟨wc.heap.size, 1, none⟩ (.int .i64 U.root)).setCell ⟨wc.heap.size, 2, none⟩ (.int .i64 U.next)).setCell ⟨wc.heap.size, 3, none⟩ (.int .i64 U.commit)).setCell ⟨wc.heap.size, 4, none⟩ (.slice ao13 U.snaps.length c13)).cell? ⟨b16, 1, none⟩ = some v1 := (by rw [(set5k w18 wc.heap.size _ _ _ _ _).cell (Nat.lt_of_lt_of_le hb16' K19.size) (by intro hx; rw [List.mem_singleton] at hx; exact absurd hx (Nat.ne_of_lt hb16'))]; exact yw1)))
                all_goals
                  go_simp
                  go_wp2
                  go_meet
                  case rel =>
                    refine ⟨_, ao13, c13, rfl, rfl, ?_, ?_, le13, ?_⟩
                    · first | (with_reducible exact Blk.new' _ _ _) | (with_reducible exact set5b Z3 _ _ _ _ _)
                    · first | (with_reducible exact rd13.keep ((Keep.refl [] _).alloc _) (by simp)) | exact rd13.keep (set5k _ _ _ _ _ _ _) (later_one fp13)
                    · first | (with_reducible exact K19.alloc _) | exact set5K K19 (Nat.le_refl _) _ _ _ _ _
              case rest =>
                obtain ⟨b17, ao13, c13, rfl, rfl, B17, rd17, le17, k19⟩ := hcut
                have F := flips hr ht HGN.out HOL.out hlate.out HK2.out (la := la) (lb := lb) (by have := HD.out; rw [HA.out, HXX.out, HBB.out] at this; exact this)
                rw [← HU.out, ← HE.out] at F
                obtain ⟨hUor, rfl, hfull⟩ := F
                have HUO := Lib.hid hUor
                have HFU := Lib.hid hfull
                have S19 := S18.keep k19 (by simp)
                have N19 := N18.keep k19 (by simp)
                have SF := (SN6.keep (k6c2.trans k19 (by simp)) (by simp)).su
                have NF := NN6.keep (k6c2.trans k19 (by simp)) (by simp)
                have KC2 := KC.trans k19 (by simp)
                clear hUor hfull ra rb y0 y1 hb16' k18 k19 KC S18 N18 SN6 NN6 k6c2 K15 kc15 k15
                have q0 := B17.cell 0
                have q1 := B17.cell 1
                have q2 := B17.cell 2
                have q3 := B17.cell 3
                have q4 := B17.cell 4
                have p0 := S19.cell 0
                have p1 := S19.cell 1
                have p2 := S19.cell 2
                have p3 := S19.cell 3
                have p4 := S19.cell 4
                simp only [List.getElem?_cons_zero, List.getElem?_cons_succ] at q0 q1 q2 q3 q4 p0 p1 p2 p3 p4
                go_wp2_with fail
                refine (same_any U s _ _ _ ⟨ao13, c13, rfl, rd17, le17⟩ SF).mono ?_
                rintro e w20 ⟨rfl, k20⟩
                clear q0 q1 q2 q3 q4 p0 p1 p2 p3 p4
                have B20 := B17.keep k20 (by simp)
                have N20 := N19.keep k20 (by simp)
                have q0 := B20.cell 0
                have q1 := B20.cell 1
                have q2 := B20.cell 2
                have q3 := B20.cell 3
                have q4 := B20.cell 4
                have p0 := N20.cell 0
                have p1 := N20.cell 1
                have p2 := N20.cell 2
                have p3 := N20.cell 3
                have p4 := N20.cell 4
                simp only [List.getElem?_cons_zero, List.getElem?_cons_succ] at q0 q1 q2 q3 q4 p0 p1 p2 p3 p4
                obtain ⟨x1, hx1⟩ : ∃ x, x = Sp.sameB U s := ⟨_, rfl⟩
                obtain ⟨x2, hx2⟩ : ∃ x, x = Sp.sameB U n := ⟨_, rfl⟩
                have hor : x1 = true ∨ x2 = true := by
                  rcases HUO.out with h | h
                  · left; rw [hx1, h]; exact Sp.sameB_self s
                  · right; rw [hx2, h]; exact Sp.sameB_self n
                have hfl : kk = 512 → x2 = true := fun h => by rw [hx2, HFU.out h]; exact Sp.sameB_self n
                have HX2 := Lib.hid hx2
                have HFL := Lib.hid hfl
                have HOR := Lib.hid hor
                rw [← hx1]
                clear hx1 hx2 hor hfl
                go_wp2_with fail
                refine (same_any U n _ _ _ ⟨ao13, c13, rfl, rd17.keep k20 (by simp), le17⟩ (NF.keep k20 (by simp)).su).mono ?_
                rintro e w21 ⟨rfl, k21⟩
                rw [← HX2.out]
                clear q0 q1 q2 q3 q4 p0 p1 p2 p3 p4
                have KF := (KC2.trans k20 (by simp)).trans k21 (by simp)
                by_cases hkk : kk = 512
                · obtain rfl := HFL.out hkk
                  have hkb : ((kk : Int) == 512) = true := by rw [beq_iff_eq]; omega
                  clear hkk
                  go_wp2
                  go_ret
                  exact ⟨rfl, KF⟩
                · have hkb : ((kk : Int) == 512) = false := by rw [beq_eq_false_iff_ne]; omega
                  clear hkk
                  cases x1 with
                  | true =>
                    go_wp2
                    go_ret
                    exact ⟨rfl, KF⟩
                  | false =>
                    obtain rfl : x2 = true := by have := HOR.out; simpa using this
                    go_wp2
                    go_ret
                    exact ⟨rfl, KF⟩


theorem superFlips_readable : Try.f14.params.toList.all (fun t => Try.prog.readableRec t && decide (t < Try.prog.types.size)) = true := by kernel_rfl

open Go.ChangeShapes Go.WideShapes Go.ChangeAt in
set_option maxRecDepth 100000 in
theorem superFlips_contract (H : Type) (enc : TypeId × Value → H) (W : World) (base : Nat) (args : Array Value) (ds gs : List (DataW H)) (before : List MemPlace)
    (hval : ∀ (j : Nat) t v, Try.f14.params[j]? = some t → args[j]? = some v → Value.okWide Try.prog W .any base t v)
    (hW : DataW.Whole enc Try.prog Try.f14.params.toList Rows.superFlipsSpec.vars false W args.toList ds gs before) :
    Calls Try.prog 14 args W fun e W' => ∃ v, e = .returned v ∧ Rows.superFlipsSpec.post enc Try.prog Try.f14 false true false false W args v W' := by
  have hW' := hW
  obtain ⟨p, q, hA0, hV, rfl, _, _⟩ := hW
  have hA : DataW.TrodAll enc Try.prog W 0 (fun _ => true) true Try.f14.params.toList args.toList ds p := hA0
  rw [Try.params14] at hA hval
  obtain ⟨v0, v1, v2, v3, d0, d1, d2, d3, p0, p1, p2, p3, rfl, rfl, rfl, h0, h1, h2, h3⟩ := trodAll_four hA
  obtain ⟨rfl, rfl⟩ := trodVars_none hV
  obtain ⟨s, hs, _⟩ := open_super Try.underlying59 (by kernel_rfl) rfl rfl rfl rfl rfl (by kernel_rfl) (by kernel_rfl) (by kernel_rfl) (by kernel_rfl) (by kernel_rfl) Try.underlying3 Try.underlying3 Try.underlying3 Try.underlying3 Try.underlying57 Try.underlying81 (by kernel_rfl) rfl rfl rfl (by kernel_rfl) (by kernel_rfl) (by kernel_rfl) Try.underlying9 Try.underlying3 Try.underlying3 (hval 0 59 v0 rfl rfl) h0
  obtain ⟨t, ht, _⟩ := open_super Try.underlying59 (by kernel_rfl) rfl rfl rfl rfl rfl (by kernel_rfl) (by kernel_rfl) (by kernel_rfl) (by kernel_rfl) (by kernel_rfl) Try.underlying3 Try.underlying3 Try.underlying3 Try.underlying3 Try.underlying57 Try.underlying81 (by kernel_rfl) rfl rfl rfl (by kernel_rfl) (by kernel_rfl) (by kernel_rfl) Try.underlying9 Try.underlying3 Try.underlying3 (hval 1 59 v1 rfl rfl) h1
  obtain ⟨l, hl, hll⟩ := open_bytes Try.underlying27 Try.underlying5 (by kernel_rfl) (hval 2 27 v2 rfl rfl) h2
  obtain ⟨a3, rfl, rfl, rfl, w3⟩ := open_int Try.underlying3 (hval 3 3 v3 rfl rfl) h3
  refine (superFlips_walk s t v0 v1 v2 l a3 W hs ht hl hll).mono fun e W' ⟨he, hk⟩ => ?_
  subst he
  exact ⟨_, rfl, law_post Try.laidOut superFlips_readable rfl Try.underlying4 rfl hW' rfl hk.below0⟩

set_option maxRecDepth 100000 in
theorem superFlips_lifted (os : Os) (started : os.Started) (H : Type) (enc : TypeId × Value → H) :
    ReturnsInHanded {} Try.checked os 14 .any (Rows.superFlipsSpec.pre6 enc Try.prog Try.f14 Rows.superFlipsRow.domain false) (Rows.superFlipsSpec.post enc Try.prog Try.f14 false true false false) := by
  refine returnsInHanded_of_change_sized (C := Try.checked) Try.own started (by kernel_rfl) Try.func14
    (ChangeSpec.witness6 (enc := enc) (C := Try.checked) false ⟨#[], #[.agg #[.int .i64 0, .int .i64 0, .int .i64 0, .int .i64 0, .slice none 0 0], .agg #[.int .i64 0, .int .i64 0, .int .i64 0, .int .i64 0, .slice none 0 0], .slice none 0 0, .int .i64 0], []⟩ 8 (by kernel_rfl) (by kernel_rfl) (by kernel_rfl) (by kernel_rfl)) ?_
  intro W base args ds gs before hval hW _ _ _
  exact superFlips_contract H enc W base args ds gs before hval hW

theorem superFlips_holds : Rows.SuperFlipsSaid :=
  OpenClaim.holds_of_wide 14 Try.f14 rfl rfl rfl rfl rfl rfl rfl ⟨rfl, rfl, rfl, rfl, rfl⟩ rfl rfl rfl rfl rfl (by kernel_rfl) Try.func14 (by kernel_rfl)
    (of_decide_eq_true (by kernel_rfl)) (by unfold Func.isWrapper; first | (rw [if_pos (by decide +kernel)]; kernel_rfl) | (rw [if_neg (by decide +kernel)]; exact ⟨rfl, rfl⟩))
    (fun os started H enc _ => superFlips_lifted os started H enc)

#print axioms superFlips_holds
end Go.Proofs.Yteogkgjajhdhjaa
