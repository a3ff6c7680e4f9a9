/-
  SuperTorn: a superblock that is torn is one of both, or none: the law returns true, for any two superblocks and any place. No condition.
-/
import Derived.Test.YteogkgjajhdhjaaSuperL
import Derived.Test.YteogkgjajhdhjaaSuperQ
namespace Go.Proofs.Yteogkgjajhdhjaa
open Go.RowKit

set_option maxRecDepth 100000 in
set_option maxHeartbeats 40000000 in
theorem superTorn_walk (s0 t0 : Sp.Su) (v u : Value) (at' : Int) (w : World) (h : SuV w v s0) (k : SuV w u t0) :
    Calls Try.prog 13 #[v, u, .int .i64 at'] w fun e w' => e = .returned (.bool true) ∧ Keep [] w w' := by
  have h0 := h
  have k0 := k
  obtain ⟨ao0, c0, rfl, _, _⟩ := h0
  obtain ⟨bo0, d0, rfl, _, _⟩ := k0
  obtain ⟨i0, hi, hz0, hz1, hz2⟩ := info_parts Try.info5
  go_enter Try.func13, Try.ntmps13
  go_wp2_with fail
  refine (shown4_any _).mono ?_
  rintro e w1 ⟨rfl, k1⟩
  obtain ⟨b3, hb3⟩ : ∃ b, b = w.heap.size := ⟨_, rfl⟩
  obtain ⟨b4, hb4⟩ : ∃ b, b = w.heap.size + 1 := ⟨_, rfl⟩
  have B3 := ((Blk.new' w [.int .i64 s0.gen, .int .i64 s0.root, .int .i64 s0.next, .int .i64 s0.commit, .slice ao0 s0.snaps.length c0] 59).alloc (.cells [.int .i64 t0.gen, .int .i64 t0.root, .int .i64 t0.next, .int .i64 t0.commit, .slice bo0 t0.snaps.length d0].toArray 59)).keep k1 (by simp)
  have B4 := (Blk.new' (w.alloc (.cells [.int .i64 s0.gen, .int .i64 s0.root, .int .i64 s0.next, .int .i64 s0.commit, .slice ao0 s0.snaps.length c0].toArray 59)) [.int .i64 t0.gen, .int .i64 t0.root, .int .i64 t0.next, .int .i64 t0.commit, .slice bo0 t0.snaps.length d0] 59).keep k1 (by simp)
  rw [World.size_alloc] at B4
  have K1 : Keep [] w w1 := (((Keep.refl _ _).alloc _).alloc _).trans k1 (by simp)
  rw [← hb4] at B4 ⊢
  rw [← hb3] at B3 ⊢
  have hb41 : b4 < w1.heap.size := B4.lt
  have HB := Lib.hid (And.intro hb3 hb4)
  clear hb3 hb4 k1
  have q0 := B3.cell 0
  have q1 := B3.cell 1
  have q2 := B3.cell 2
  have q3 := B3.cell 3
  have q4 := B3.cell 4
  simp only [List.getElem?_cons_zero, List.getElem?_cons_succ] at q0 q1 q2 q3 q4
  go_wp2_with fail
  refine (cut_any s0 _ w1 (h.keep K1 (by simp))).mono ?_
  rintro e w2 ⟨ao, c, rfl, rd2, fp2, k2⟩
  obtain ⟨s, hs⟩ : ∃ s, s = Sp.cutS s0 := ⟨_, rfl⟩
  have g_eq : s0.gen = s.gen ∧ s0.root = s.root ∧ s0.next = s.next ∧ s0.commit = s.commit := by rw [hs]; exact ⟨rfl, rfl, rfl, rfl⟩
  have hle3 : s.snaps.length ≤ 10 := by rw [hs]; exact cutS_le s0
  rw [← hs] at rd2 fp2 ⊢
  have G3 := Lib.hid g_eq
  rw [g_eq.1, g_eq.2.1, g_eq.2.2.1, g_eq.2.2.2]
  clear hs g_eq q0 q1 q2 q3 q4
  have Bx := B3.keep k2 (by simp)
  obtain ⟨w3, hw3, B3c, k3⟩ := set5 Bx (.int .i64 s.gen) (.int .i64 s.root) (.int .i64 s.next) (.int .i64 s.commit) (.slice ao s.snaps.length c)
  have p0 := Bx.cell 0
  have p1 := Bx.cell 1
  have p2 := Bx.cell 2
  have p3 := Bx.cell 3
  have p4 := Bx.cell 4
  simp only [List.getElem?_cons_zero, List.getElem?_cons_succ] at p0 p1 p2 p3 p4
  have f0 := Bx.free 0
  have f1 := Bx.free 1
  have f2 := Bx.free 2
  have f3 := Bx.free 3
  have f4 := Bx.free 4
  have hbl : b3 < w1.heap.size := B3.lt
  have SN : SuN w1.heap.size w3 (.agg #[.int .i64 s.gen, .int .i64 s.root, .int .i64 s.next, .int .i64 s.commit, .slice ao s.snaps.length c]) s := (SuN.of rd2 (by omega) fp2).keep k3 (by simp; omega)
  have K3 : Keep [] w w3 := (K1.trans k2 (by simp)).trans k3 (fun x hx => by simp at hx; subst hx; right; have := HB.out; omega)
  have B4b := (B4.keep k2 (by simp)).keep k3 (by simp; have := HB.out; omega)
  have HW3 := Lib.hid hw3
  have m0 := (B4.keep k2 (by simp)).cell 0
  have m1 := (B4.keep k2 (by simp)).cell 1
  have m2 := (B4.keep k2 (by simp)).cell 2
  have m3 := (B4.keep k2 (by simp)).cell 3
  have m4 := (B4.keep k2 (by simp)).cell 4
  simp only [List.getElem?_cons_zero, List.getElem?_cons_succ] at m0 m1 m2 m3 m4
  clear hw3 rd2 fp2 B3 Bx k2 hbl
  clear k3
  have n34 : ¬ (b3 = b4) := by have := HB.out; omega
  have n43 : ¬ (b4 = b3) := by have := HB.out; omega
  go_wp2_with fail
  rw [← HW3.out]
  clear n34 n43 m0 m1 m2 m3 m4
  clear p0 p1 p2 p3 p4 f0 f1 f2 f3 f4 HW3 B4
  refine (cut_any t0 _ w3 (k.keep K3 (by simp))).mono ?_
  rintro e w4 ⟨bo, d, rfl, rd2, fp2, k2⟩
  obtain ⟨t, hs⟩ : ∃ s, s = Sp.cutS t0 := ⟨_, rfl⟩
  have g_eq : t0.gen = t.gen ∧ t0.root = t.root ∧ t0.next = t.next ∧ t0.commit = t.commit := by rw [hs]; exact ⟨rfl, rfl, rfl, rfl⟩
  have hle4 : t.snaps.length ≤ 10 := by rw [hs]; exact cutS_le t0
  rw [← hs] at rd2 fp2 ⊢
  have G4 := Lib.hid g_eq
  rw [g_eq.1, g_eq.2.1, g_eq.2.2.1, g_eq.2.2.2]
  clear hs g_eq
  have Bx := B4b.keep k2 (by simp)
  obtain ⟨w5, hw3, B4c, k3⟩ := set5 Bx (.int .i64 t.gen) (.int .i64 t.root) (.int .i64 t.next) (.int .i64 t.commit) (.slice bo t.snaps.length d)
  have p0 := Bx.cell 0
  have p1 := Bx.cell 1
  have p2 := Bx.cell 2
  have p3 := Bx.cell 3
  have p4 := Bx.cell 4
  simp only [List.getElem?_cons_zero, List.getElem?_cons_succ] at p0 p1 p2 p3 p4
  have f0 := Bx.free 0
  have f1 := Bx.free 1
  have f2 := Bx.free 2
  have f3 := Bx.free 3
  have f4 := Bx.free 4
  have hbl : b4 < w3.heap.size := B4b.lt
  have TN : SuN w3.heap.size w5 (.agg #[.int .i64 t.gen, .int .i64 t.root, .int .i64 t.next, .int .i64 t.commit, .slice bo t.snaps.length d]) t := (SuN.of rd2 (by omega) fp2).keep k3 (by simp; omega)
  have K5 : Keep [] w w5 := (K3.trans k2 (by simp)).trans k3 (fun x hx => by simp at hx; subst hx; right; have := HB.out; omega)
  have B3d := (B3c.keep k2 (by simp)).keep k3 (by simp; have := HB.out; omega)
  have HW4 := Lib.hid hw3
  have SN5 := (SN.keep k2 (by simp)).keep k3 (by simp; omega)
  clear hw3 rd2 fp2 B4b B3c SN Bx k2 k3 hbl
  have q0 := B3d.cell 0
  have q1 := B3d.cell 1
  have q2 := B3d.cell 2
  have q3 := B3d.cell 3
  have q4 := B3d.cell 4
  simp only [List.getElem?_cons_zero, List.getElem?_cons_succ] at q0 q1 q2 q3 q4
  have n34 : ¬ (b3 = b4) := by have := HB.out; omega
  have n43 : ¬ (b4 = b3) := by have := HB.out; omega
  rw [HW4.out] at q0 q1 q2 q3 q4
  go_wp2_with fail
  rw [← HW4.out]
  clear q0 q1 q2 q3 q4 n34 n43 p0 p1 p2 p3 p4 f0 f1 f2 f3 f4 HW4
  cases hr : Sp.right s with
  | false =>
    refine (right_any s _ w5 SN5.su).mono ?_
    rintro e w6 ⟨rfl, k6⟩
    rw [hr]
    go_wp2
    go_ret
    exact ⟨rfl, K5.trans k6 (by simp)⟩
  | true =>
    refine (right_any s _ w5 SN5.su).mono ?_
    rintro e w6 ⟨rfl, k6⟩
    rw [hr]
    have T6 := B4c.keep k6 (by simp)
    have q0 := T6.cell 0
    have q1 := T6.cell 1
    have q2 := T6.cell 2
    have q3 := T6.cell 3
    have q4 := T6.cell 4
    simp only [List.getElem?_cons_zero, List.getElem?_cons_succ] at q0 q1 q2 q3 q4
    go_wp2_with fail
    clear q0 q1 q2 q3 q4
    cases ht : Sp.right t with
    | false =>
      refine (right_any t _ w6 (TN.keep k6 (by simp)).su).mono ?_
      rintro e w7 ⟨rfl, k7⟩
      rw [ht]
      go_wp2
      go_ret
      exact ⟨rfl, (K5.trans k6 (by simp)).trans k7 (by simp)⟩
    | true =>
      refine (right_any t _ w6 (TN.keep k6 (by simp)).su).mono ?_
      rintro e w7 ⟨rfl, k7⟩
      rw [ht]
      have k57 := k6.trans k7 (by simp)
      have S7 := B3d.keep k57 (by simp)
      have T7 := B4c.keep k57 (by simp)
      have q0 := S7.cell 0
      have p0 := T7.cell 0
      simp only [List.getElem?_cons_zero] at q0 p0
      by_cases hg : s.gen = t.gen
      · have hgb : (s.gen == t.gen) = true := by simpa using hg
        have HG := Lib.hid hg
        clear hg
        go_wp2
        go_ret
        exact ⟨rfl, K5.trans k57 (by simp)⟩
      · have hgb : (s.gen == t.gen) = false := by rw [beq_eq_false_iff_ne]; exact hg
        have HG := Lib.hid hg
        have q1 := S7.cell 1
        have q2 := S7.cell 2
        have q3 := S7.cell 3
        have q4 := S7.cell 4
        simp only [List.getElem?_cons_zero, List.getElem?_cons_succ] at q1 q2 q3 q4
        clear hg T6
        go_wp2_with fail
        clear q0 q1 q2 q3 q4 p0
        obtain ⟨A, hA⟩ : ∃ B, B = Sp.block s := ⟨_, rfl⟩
        obtain ⟨B, hB⟩ : ∃ B, B = Sp.block t := ⟨_, rfl⟩
        have lA : A.length = 512 := by rw [hA]; exact Sp.block_length (Sp.right_bd hr)
        have lB : B.length = 512 := by rw [hB]; exact Sp.block_length (Sp.right_bd ht)
        refine (bytes_ok s _ w7 (SN5.keep k57 (by simp)).su hr).mono ?_
        rintro e w8 ⟨aoA, cA, rfl, oA, k8, _⟩
        rw [← hA] at oA
        have rA : RdV w8 (.slice aoA 512 cA) A.length 1 (bv A) := by rw [lA]; exact RdV.ofOwn oA
        have HA := Lib.hid hA
        have HBB := Lib.hid hB
        have LA := Lib.hid lA
        have LB := Lib.hid lB
        have T8 := T7.keep k8 (by simp)
        have q0 := T8.cell 0
        have q1 := T8.cell 1
        have q2 := T8.cell 2
        have q3 := T8.cell 3
        have q4 := T8.cell 4
        simp only [List.getElem?_cons_zero, List.getElem?_cons_succ] at q0 q1 q2 q3 q4
        clear hA hB lA lB oA
        go_wp2_with fail
        clear q0 q1 q2 q3 q4
        refine (bytes_ok t _ w8 (TN.keep (k57.trans k8 (by simp)) (by simp)).su ht).mono ?_
        rintro e w9 ⟨aoB, cB, rfl, oB, k9, _⟩
        rw [← HBB.out] at oB
        have rB : RdV w9 (.slice aoB 512 cB) B.length 1 (bv B) := by rw [LB.out]; exact RdV.ofOwn oB
        have rA9 := rA.keep k9 (by simp)
        have k59 := (k57.trans k8 (by simp)).trans k9 (by simp)
        have K9 := K5.trans k59 (by simp)
        obtain ⟨m, hm, hm1, hm2⟩ := mask16 at'
        have hm3 : at' % 65536 = (m : Int) := hm2.symm
        obtain ⟨kk, hk1, hk2⟩ : ∃ k : Nat, (m : Int) % 513 = (k : Int) ∧ k ≤ 512 := ⟨m % 513, by omega, by omega⟩
        clear hm2 hm1 oB rA T7 T8 S7 k8 k9
        obtain ⟨zl, aoX, cX, eX, hcA, hnnA, hxA⟩ := rA9
        injection eX with z1 z2 z3
        subst z1 z3
        clear z2
        rw [LA.out] at hcA
        obtain ⟨yl, aoX, cX, eX, hcB, hnnB, hxB⟩ := rB
        injection eX with z1 z2 z3
        subst z1 z3
        clear z2
        rw [LB.out] at hcB
        have HXA := Lib.hid hxA
        have HXB := Lib.hid hxB
        have HNA := Lib.hid hnnA
        have HNB := Lib.hid hnnB
        clear hxA hxB hnnA hnnB zl yl
        have hkI : (kk : Int) ≤ 512 := by omega
        have hcAI : (512 : Int) ≤ cA := by omega
        have hcBI : (512 : Int) ≤ cB := by omega
        go_wp2_with fail
        rw [hk1]
        have NA : ∀ W, Keep [] w9 W → ∀ a, aoA = some a → ∀ j u, (bv (A.take kk))[j]? = some u → W.cell? (a.add j) = some u := fun W K a ha j u hu => by
          have h1 : (bv A)[j]? = some u := by
            simp only [bv, List.map_take] at hu ⊢
            rw [List.getElem?_take] at hu
            split at hu
            · exact hu
            · cases hu
          have h2 := HXA.out a ha j u h1
          rw [K.cell (World.block_lt_of_cell? _ _ h2) (by simp)]
          exact h2
        have LAk : (bv (A.take kk)).length = kk * 1 := by rw [bv_length, List.length_take, LA.out]; omega
        have LBk : (bv (B.drop kk)).length = (512 - kk) * 1 := by rw [bv_length, List.length_drop, LB.out]; omega
        obtain ⟨aoD, hao, hsel⟩ : ∃ aoD : Option Addr, (aoD = aoB ∧ cB = kk ∨ aoD = aoB.map (fun x => x.add kk)) ∧ ((¬ cB = kk ∧ aoD = aoB.map (fun x => x.add kk)) ∨ (cB = kk ∧ aoD = aoB)) := by
          by_cases hcap : cB = kk
          · exact ⟨aoB, Or.inl ⟨rfl, hcap⟩, Or.inr ⟨hcap, rfl⟩⟩
          · exact ⟨_, Or.inr rfl, Or.inl ⟨hcap, rfl⟩⟩
        have DR := rd_drop (m := kk) (l := B) (w := w9) (ao' := aoD) (by rw [LB.out]; exact hcB) (by rw [LB.out]; exact hk2) HNB.out HXB.out hao
        rw [LB.out] at DR
        have NB : ∀ W, Keep [] w9 W → ∀ a, aoD = some a → ∀ j u, (bv (B.drop kk))[j]? = some u → W.cell? (a.add j) = some u := fun W K a ha j u hu => by
          obtain ⟨_, ao', c', e, _, _, hx⟩ := DR.1
          injection e with e1 _ _
          have h2 := hx a (e1 ▸ ha) j u hu
          rw [K.cell (World.block_lt_of_cell? _ _ h2) (by simp)]
          exact h2
        have NNB : aoD = none → 512 - kk = 0 ∧ cB - kk = 0 := fun h => by
          have h' : aoB = none := by
            rcases hao with ⟨h1, _⟩ | h1
            · rw [← h1]; exact h
            · rw [h1] at h; simpa using h
          have := HNB.out h'
          rw [LB.out] at this
          omega
        have HB2 := Lib.hid NB
        have HNB2 := Lib.hid NNB
        clear NB NNB DR hao
        have HNA2 := Lib.hid NA
        have HLAk := Lib.hid LAk
        have HLBk := Lib.hid LBk
        have O9 := ownsRow_made0 w9 5 1
        clear NA LAk LBk
        have hk0 : (0 : Int) ≤ (kk : Int) := by omega
        have hkA : (kk : Int) ≤ (cA : Int) := by omega
        have hkB : (kk : Int) ≤ (cB : Int) := by omega
        have hkn : kk ≤ 512 := hk2
        have O9b := ownsRow_made0 (w9.alloc (.cells #[.int .i64 0, .int .i64 0, .int .i64 0, .int .i64 0, .slice none 0 0] 59)) 5 1
        rw [World.size_alloc] at O9b
        rcases hsel with ⟨hcap, rfl⟩ | ⟨rfl, rfl⟩
        · skip
          have hcapI : ¬ ((kk : Int) = (cB : Int)) := by omega
          have hcapI2 : ¬ (kk = cB) := by omega
          go_upto_region 11 with fail
          go_cut [12, 13] (fun s12 s13 wx => ∃ (b12 : Nat) (ao13 : Option Addr) (c13 : Nat), s12 = .pointer (some ⟨b12, 0, none⟩) ∧ s13 = .int .i64 (ofE (A.take kk ++ B.drop kk)) ∧ Blk wx b12 [.int .i64 (ofS (A.take kk ++ B.drop kk)).gen, .int .i64 (ofS (A.take kk ++ B.drop kk)).root, .int .i64 (ofS (A.take kk ++ B.drop kk)).next, .int .i64 (ofS (A.take kk ++ B.drop kk)).commit, .slice ao13 (ofS (A.take kk ++ B.drop kk)).snaps.length c13] 59 ∧ RdV wx (.slice ao13 (ofS (A.take kk ++ B.drop kk)).snaps.length c13) (ofS (A.take kk ++ B.drop kk)).snaps.length 3 (Sp.scells (ofS (A.take kk ++ B.drop kk)).snaps) ∧ (ofS (A.take kk ++ B.drop kk)).snaps.length ≤ 9223372036854775807 ∧ Keep [] w9 wx)
          case first =>
            have FA := Lib.hid (run_app_slice (P := Try.prog) (w9.alloc (.cells #[] 5)).drew 27 27 5 i0 _ 1 1 Try.underlying27 hi hz0 hz1 hz2 rfl (by decide) _ 0 [] O9.drew aoA kk cA (bv (A.take kk)) HLAk.out (fun h => by have := HNA.out h; omega) (HNA2.out _ ((Keep.refl [] w9).alloc (.cells #[] 5)).drew) (bv_one _) (by unfold maxLen; omega) (by omega))
            simp only [Nat.zero_add, List.nil_append] at FA
            have FC := Lib.hid (run_app_slice (P := Try.prog) ((w9.alloc (.cells #[] 5)).alloc (.cells #[.int .i64 0, .int .i64 0, .int .i64 0, .int .i64 0, .slice none 0 0] 59)).drew 27 27 5 i0 _ 1 1 Try.underlying27 hi hz0 hz1 hz2 rfl (by decide) _ 0 [] (O9.alloc (.cells #[.int .i64 0, .int .i64 0, .int .i64 0, .int .i64 0, .slice none 0 0] 59)).drew aoA kk cA (bv (A.take kk)) HLAk.out (fun h => by have := HNA.out h; omega) (HNA2.out _ (((Keep.refl [] w9).alloc (.cells #[] 5)).alloc (.cells #[.int .i64 0, .int .i64 0, .int .i64 0, .int .i64 0, .slice none 0 0] 59)).drew) (bv_one _) (by unfold maxLen; omega) (by omega))
            simp only [Nat.zero_add, List.nil_append] at FC
            have FB := Lib.hid (run_app_slice (P := Try.prog) ((w9.alloc (.cells #[.int .i64 0, .int .i64 0, .int .i64 0, .int .i64 0, .slice none 0 0] 59)).alloc (.cells #[] 5)).drew 27 27 5 i0 _ 1 1 Try.underlying27 hi hz0 hz1 hz2 rfl (by decide) _ 0 [] O9b.drew aoA kk cA (bv (A.take kk)) HLAk.out (fun h => by have := HNA.out h; omega) (HNA2.out _ (((Keep.refl [] w9).alloc (.cells #[.int .i64 0, .int .i64 0, .int .i64 0, .int .i64 0, .slice none 0 0] 59)).alloc (.cells #[] 5)).drew) (bv_one _) (by unfold maxLen; omega) (by omega))
            simp only [Nat.zero_add, List.nil_append] at FB
            go_region_held3 (fun _ => True) (trivial)
              (first
                | ((with_reducible show (if _ = true then Oper.wp _ _ _ ((w9.alloc (.cells #[] 5)).drew) _ _ else _)); refine step_app rfl (.tmp 67) (.tmp 70) 27 27 rfl _ _ rfl rfl FA.out ?_; intro v2 w10 hO; obtain ⟨ao2, cp2, rfl⟩ := hO.slice; have KB := ((Keep.refl [] w9).alloc (.cells #[] 5)).drew; have M1 := hO.keeps KB (by simp [rowOf, Value.ownBlock]); skip)
                | ((with_reducible show (if _ = true then Oper.wp _ _ _ (((w9.alloc (.cells #[] 5)).alloc (.cells #[.int .i64 0, .int .i64 0, .int .i64 0, .int .i64 0, .slice none 0 0] 59)).drew) _ _ else _)); refine step_app rfl (.tmp 67) (.tmp 70) 27 27 rfl _ _ rfl rfl FC.out ?_; intro v2 w10 hO; obtain ⟨ao2, cp2, rfl⟩ := hO.slice; have KB := (((Keep.refl [] w9).alloc (.cells #[] 5)).alloc (.cells #[.int .i64 0, .int .i64 0, .int .i64 0, .int .i64 0, .slice none 0 0] 59)).drew; have ZB := (Blk.new' (w9.alloc (.cells #[] 5)) [.int .i64 0, .int .i64 0, .int .i64 0, .int .i64 0, .slice none 0 0] 59).drew; (try rw [World.size_alloc] at ZB); have Z1 := ZB.grown hO.2.1 (by simp [Value.ownBlock]); have M1 := hO.keeps KB (by simp [rowOf, Value.ownBlock]); skip)
                | ((with_reducible show (if _ = true then Oper.wp _ _ _ (((w9.alloc (.cells #[.int .i64 0, .int .i64 0, .int .i64 0, .int .i64 0, .slice none 0 0] 59)).alloc (.cells #[] 5)).drew) _ _ else _)); refine step_app rfl (.tmp 67) (.tmp 70) 27 27 rfl _ _ rfl rfl FB.out ?_; intro v2 w10 hO; obtain ⟨ao2, cp2, rfl⟩ := hO.slice; have KB := (((Keep.refl [] w9).alloc (.cells #[.int .i64 0, .int .i64 0, .int .i64 0, .int .i64 0, .slice none 0 0] 59)).alloc (.cells #[] 5)).drew; have ZB := ((Blk.new' w9 [.int .i64 0, .int .i64 0, .int .i64 0, .int .i64 0, .slice none 0 0] 59).alloc (.cells #[] 5)).drew; (try rw [World.size_alloc] at ZB); have Z1 := ZB.grown hO.2.1 (by simp [Value.ownBlock]); have M1 := hO.keeps KB (by simp [rowOf, Value.ownBlock]); skip)
                | ((with_reducible show (if _ = true then Oper.wp _ _ _ w10 _ _ else _)); have o1 := hO.1; have F2 := run_app_slice (P := Try.prog) w10 27 27 5 i0 _ 1 1 Try.underlying27 hi hz0 hz1 hz2 rfl (by decide) _ kk _ o1 (aoB.map (fun x => x.add kk)) (512 - kk) (cB - kk) (bv (B.drop kk)) HLBk.out HNB2.out (HB2.out _ M1.1) (bv_one _) (by unfold maxLen; omega) (by omega); refine step_app rfl (.tmp 71) (.tmp 74) 27 27 rfl _ _ rfl rfl F2 ?_; intro v3 w12 hO2; clear F2 o1; rw [show kk + (512 - kk) = 512 by omega, ← bv_append] at hO2; have KB2 := M1.1; (try have Z2 := Z1.grown hO2.2.1 (by have q1 := hO.2.2; have q2 := Z1.lt; intro e; have q3 := q1 _ (mem_rowOf.2 e.symm); simp [rowOf, Value.ownBlock] at q3 q2; omega)); obtain ⟨ao3, cp3, rfl⟩ := hO2.slice; have M2 := hO2.keeps KB2 M1.2; skip)
                | ((with_reducible show (if _ = true then Oper.wp _ _ _ (w10.alloc (.cells #[.int .i64 0, .int .i64 0, .int .i64 0, .int .i64 0, .slice none 0 0] 59)) _ _ else _)); have o1 := hO.1.alloc (.cells #[.int .i64 0, .int .i64 0, .int .i64 0, .int .i64 0, .slice none 0 0] 59); have F2 := run_app_slice (P := Try.prog) (w10.alloc (.cells #[.int .i64 0, .int .i64 0, .int .i64 0, .int .i64 0, .slice none 0 0] 59)) 27 27 5 i0 _ 1 1 Try.underlying27 hi hz0 hz1 hz2 rfl (by decide) _ kk _ o1 (aoB.map (fun x => x.add kk)) (512 - kk) (cB - kk) (bv (B.drop kk)) HLBk.out HNB2.out (HB2.out _ (M1.1.alloc (.cells #[.int .i64 0, .int .i64 0, .int .i64 0, .int .i64 0, .slice none 0 0] 59))) (bv_one _) (by unfold maxLen; omega) (by omega); refine step_app rfl (.tmp 71) (.tmp 74) 27 27 rfl _ _ rfl rfl F2 ?_; intro v3 w12 hO2; clear F2 o1; rw [show kk + (512 - kk) = 512 by omega, ← bv_append] at hO2; have KB2 := (M1.1.alloc (.cells #[.int .i64 0, .int .i64 0, .int .i64 0, .int .i64 0, .slice none 0 0] 59)); have ZB2 := Blk.new' w10 [.int .i64 0, .int .i64 0, .int .i64 0, .int .i64 0, .slice none 0 0] 59; have Z2 := ZB2.grown hO2.2.1 (by intro e; have q3 := own_row_lt hO.1 _ (mem_rowOf.2 e.symm); omega); obtain ⟨ao3, cp3, rfl⟩ := hO2.slice; have M2 := hO2.keeps KB2 M1.2; skip)
                | (go_at_call 55; have r12 : RdV w12 (.slice ao3 512 cp3) (A.take kk ++ B.drop kk).length 1 (bv (A.take kk ++ B.drop kk)) := (by rw [List.length_append, List.length_take, List.length_drop, LA.out, LB.out, show min kk 512 + (512 - kk) = 512 by omega]; exact RdV.ofOwn hO2.1); (with_reducible refine (of_any _ (A.take kk ++ B.drop kk) w12 r12).mono ?_); rintro e w13 ⟨v13, rfl, sn13, k13⟩; obtain ⟨ao13, c13, rfl, rd13, le13, fp13⟩ := sn13; have K13 := (M2.1).trans k13 (by simp); (try (have Z3 := Z2.keep k13 (by simp); have ZL := Z2.lt; have zz0 := Z3.cell 0; have zz1 := Z3.cell 1; have zz2 := Z3.cell 2; have zz3 := Z3.cell 3; have zz4 := Z3.cell 4; simp only [List.getElem?_cons_zero, List.getElem?_cons_succ] at zz0 zz1 zz2 zz3 zz4; have zf0 := Z3.free 0; have zf1 := Z3.free 1; have zf2 := Z3.free 2; have zf3 := Z3.free 3; have zf4 := Z3.free 4)); clear hO hO2 r12)
                | (go_at_call 55; have r12 : RdV w12 (.slice ao3 512 cp3) (A.take kk ++ B.drop kk).length 1 (bv (A.take kk ++ B.drop kk)) := (by rw [List.length_append, List.length_take, List.length_drop, LA.out, LB.out, show min kk 512 + (512 - kk) = 512 by omega]; exact RdV.ofOwn hO2.1); (with_reducible refine (of_any _ (A.take kk ++ B.drop kk) _ (r12.keep ((Keep.refl [] w12).alloc (.cells #[.int .i64 0, .int .i64 0, .int .i64 0, .int .i64 0, .slice none 0 0] 59)) (by simp))).mono ?_); rintro e w13 ⟨v13, rfl, sn13, k13⟩; obtain ⟨ao13, c13, rfl, rd13, le13, fp13⟩ := sn13; have K13 := (M2.1.alloc (.cells #[.int .i64 0, .int .i64 0, .int .i64 0, .int .i64 0, .slice none 0 0] 59)).trans k13 (by simp); (try (have Z3 := (Blk.new' w12 [.int .i64 0, .int .i64 0, .int .i64 0, .int .i64 0, .slice none 0 0] 59).keep k13 (by simp); have ZL := (Blk.new' w12 [.int .i64 0, .int .i64 0, .int .i64 0, .int .i64 0, .slice none 0 0] 59).lt; have zz0 := Z3.cell 0; have zz1 := Z3.cell 1; have zz2 := Z3.cell 2; have zz3 := Z3.cell 3; have zz4 := Z3.cell 4; simp only [List.getElem?_cons_zero, List.getElem?_cons_succ] at zz0 zz1 zz2 zz3 zz4; have zf0 := Z3.free 0; have zf1 := Z3.free 1; have zf2 := Z3.free 2; have zf3 := Z3.free 3; have zf4 := Z3.free 4)); clear hO hO2 r12))
            all_goals
              go_simp
              go_wp2
              go_meet
              case rel =>
                have g1 := M1.1.size
                have g2 := M2.1.size
                refine ⟨_, ao13, c13, rfl, rfl, ?_, ?_, le13, ?_⟩
                · first | (with_reducible exact Blk.new' _ _ _) | (with_reducible exact set5b Z3 _ _ _ _ _)
                · first | (with_reducible exact rd13.keep ((Keep.refl [] _).alloc _) (by simp)) | exact rd13.keep (set5k _ _ _ _ _ _ _) (fun x hx hb => by rw [List.mem_singleton] at hb; have := fp13 x hx; (try simp at this); (try simp at ZL); omega)
                · first | (with_reducible exact K13.alloc _) | exact set5K K13 (by first | exact Nat.le_refl _ | omega) _ _ _ _ _
          case rest =>
            obtain ⟨b12, ao13, c13, rfl, rfl, B12, rd13, le13, K13⟩ := hcut
            obtain ⟨X, hX⟩ : ∃ X, X = A.take kk ++ B.drop kk := ⟨_, rfl⟩
            rw [← hX] at B12 rd13 le13 ⊢
            have hec := ofE_cases X
            have hone : ∀ z, Sp.of X = some z → z = s ∨ z = t := fun z hz => Sp.torn_one hr ht HG.out hkn (by rw [← HA.out, ← HBB.out, ← hX]; exact hz)
            have hnone : Sp.of X = none → 0 < kk ∧ kk < 512 := fun hz => Sp.torn_none hr ht hkn (by rw [← HA.out, ← HBB.out, ← hX]; exact hz)
            obtain ⟨u, hu⟩ : ∃ u, u = ofS X := ⟨_, rfl⟩
            obtain ⟨ec, hecc⟩ : ∃ x, x = ofE X := ⟨_, rfl⟩
            rw [← hu] at B12 rd13 le13
            rw [← hecc] at hec ⊢
            have k5c := k59.trans K13 (by simp)
            have S13 := B3d.keep k5c (by simp)
            have T13 := B4c.keep k5c (by simp)
            have SNf := (SN5.keep k5c (by simp)).su
            have TNf := (TN.keep k5c (by simp)).su
            cases ho : Sp.of X with
            | none =>
              obtain ⟨z1, z2⟩ := hnone ho
              have hE : ec = 12 := by rw [hecc]; exact (ofS_none ho).2
              have z1I : (0 : Int) < (kk : Int) := by omega
              have z2I : (kk : Int) < 512 := by omega
              subst hE
              clear hecc hec hone hnone hu hX ho S13 T13 B12 z1 z2
              go_wp2
              all_goals
                go_ret
                exact ⟨rfl, K9.trans K13 (by simp)⟩
            | some z =>
              have hE : ec = 0 := by rw [hecc]; exact (ofS_some ho).2
              have hU : u = z := by rw [hu]; exact (ofS_some ho).1
              have hz := hone z ho
              rw [← hU] at hz
              subst hE
              have q0 := B12.cell 0
              have q1 := B12.cell 1
              have q2 := B12.cell 2
              have q3 := B12.cell 3
              have q4 := B12.cell 4
              have p0 := S13.cell 0
              have p1 := S13.cell 1
              have p2 := S13.cell 2
              have p3 := S13.cell 3
              have p4 := S13.cell 4
              simp only [List.getElem?_cons_zero, List.getElem?_cons_succ] at q0 q1 q2 q3 q4 p0 p1 p2 p3 p4
              clear hecc hec hone hnone hu hX ho hU
              have HZ := Lib.hid hz
              clear hz
              go_wp2_with fail
              refine (same_any u s _ _ _ ⟨ao13, c13, rfl, rd13, le13⟩ SNf).mono ?_
              rintro e w20 ⟨rfl, k20⟩
              clear q0 q1 q2 q3 q4 p0 p1 p2 p3 p4
              have B20 := B12.keep k20 (by simp)
              have T20 := T13.keep k20 (by simp)
              have q0 := B20.cell 0
              have q1 := B20.cell 1
              have q2 := B20.cell 2
              have q3 := B20.cell 3
              have q4 := B20.cell 4
              have p0 := T20.cell 0
              have p1 := T20.cell 1
              have p2 := T20.cell 2
              have p3 := T20.cell 3
              have p4 := T20.cell 4
              simp only [List.getElem?_cons_zero, List.getElem?_cons_succ] at q0 q1 q2 q3 q4 p0 p1 p2 p3 p4
              obtain ⟨x1, hx1⟩ : ∃ x, x = Sp.sameB u s := ⟨_, rfl⟩
              obtain ⟨x2, hx2⟩ : ∃ x, x = Sp.sameB u t := ⟨_, rfl⟩
              have hor : x1 = true ∨ x2 = true := by
                rcases HZ.out with h | h
                · left; rw [hx1, h]; exact Sp.sameB_self s
                · right; rw [hx2, h]; exact Sp.sameB_self t
              have HX1 := Lib.hid hx1
              have HX2 := Lib.hid hx2
              rw [← hx1]
              clear hx1 hx2
              go_wp2_with fail
              refine (same_any u t _ _ _ ⟨ao13, c13, rfl, rd13.keep k20 (by simp), le13⟩ ((TN.keep k5c (by simp)).keep k20 (by simp)).su).mono ?_
              rintro e w21 ⟨rfl, k21⟩
              rw [← HX2.out]
              clear q0 q1 q2 q3 q4 p0 p1 p2 p3 p4
              have KF := ((K9.trans K13 (by simp)).trans k20 (by simp)).trans k21 (by simp)
              cases x1 with
              | true =>
                clear hor
                go_wp2
                go_ret
                exact ⟨rfl, KF⟩
              | false =>
                obtain rfl : x2 = true := by simpa using hor
                go_wp2
                go_ret
                exact ⟨rfl, KF⟩
        · have HL0 := Lib.hid (show (bv (B.drop cB)).length = 0 * 1 by rw [HLBk.out]; omega)
          go_upto_region 11 with fail
          go_cut [12, 13] (fun s12 s13 wx => ∃ (b12 : Nat) (ao13 : Option Addr) (c13 : Nat), s12 = .pointer (some ⟨b12, 0, none⟩) ∧ s13 = .int .i64 (ofE (A.take cB ++ B.drop cB)) ∧ Blk wx b12 [.int .i64 (ofS (A.take cB ++ B.drop cB)).gen, .int .i64 (ofS (A.take cB ++ B.drop cB)).root, .int .i64 (ofS (A.take cB ++ B.drop cB)).next, .int .i64 (ofS (A.take cB ++ B.drop cB)).commit, .slice ao13 (ofS (A.take cB ++ B.drop cB)).snaps.length c13] 59 ∧ RdV wx (.slice ao13 (ofS (A.take cB ++ B.drop cB)).snaps.length c13) (ofS (A.take cB ++ B.drop cB)).snaps.length 3 (Sp.scells (ofS (A.take cB ++ B.drop cB)).snaps) ∧ (ofS (A.take cB ++ B.drop cB)).snaps.length ≤ 9223372036854775807 ∧ Keep [] w9 wx)
          case first =>
            have FA := Lib.hid (run_app_slice (P := Try.prog) (w9.alloc (.cells #[] 5)).drew 27 27 5 i0 _ 1 1 Try.underlying27 hi hz0 hz1 hz2 rfl (by decide) _ 0 [] O9.drew aoA cB cA (bv (A.take cB)) HLAk.out (fun h => by have := HNA.out h; omega) (HNA2.out _ ((Keep.refl [] w9).alloc (.cells #[] 5)).drew) (bv_one _) (by unfold maxLen; omega) (by omega))
            simp only [Nat.zero_add, List.nil_append] at FA
            have FC := Lib.hid (run_app_slice (P := Try.prog) ((w9.alloc (.cells #[] 5)).alloc (.cells #[.int .i64 0, .int .i64 0, .int .i64 0, .int .i64 0, .slice none 0 0] 59)).drew 27 27 5 i0 _ 1 1 Try.underlying27 hi hz0 hz1 hz2 rfl (by decide) _ 0 [] (O9.alloc (.cells #[.int .i64 0, .int .i64 0, .int .i64 0, .int .i64 0, .slice none 0 0] 59)).drew aoA cB cA (bv (A.take cB)) HLAk.out (fun h => by have := HNA.out h; omega) (HNA2.out _ (((Keep.refl [] w9).alloc (.cells #[] 5)).alloc (.cells #[.int .i64 0, .int .i64 0, .int .i64 0, .int .i64 0, .slice none 0 0] 59)).drew) (bv_one _) (by unfold maxLen; omega) (by omega))
            simp only [Nat.zero_add, List.nil_append] at FC
            have FB := Lib.hid (run_app_slice (P := Try.prog) ((w9.alloc (.cells #[.int .i64 0, .int .i64 0, .int .i64 0, .int .i64 0, .slice none 0 0] 59)).alloc (.cells #[] 5)).drew 27 27 5 i0 _ 1 1 Try.underlying27 hi hz0 hz1 hz2 rfl (by decide) _ 0 [] O9b.drew aoA cB cA (bv (A.take cB)) HLAk.out (fun h => by have := HNA.out h; omega) (HNA2.out _ (((Keep.refl [] w9).alloc (.cells #[.int .i64 0, .int .i64 0, .int .i64 0, .int .i64 0, .slice none 0 0] 59)).alloc (.cells #[] 5)).drew) (bv_one _) (by unfold maxLen; omega) (by omega))
            simp only [Nat.zero_add, List.nil_append] at FB
            go_region_held3 (fun _ => True) (trivial)
              (first
                | ((with_reducible show (if _ = true then Oper.wp _ _ _ ((w9.alloc (.cells #[] 5)).drew) _ _ else _)); refine step_app rfl (.tmp 67) (.tmp 70) 27 27 rfl _ _ rfl rfl FA.out ?_; intro v2 w10 hO; obtain ⟨ao2, cp2, rfl⟩ := hO.slice; have KB := ((Keep.refl [] w9).alloc (.cells #[] 5)).drew; have M1 := hO.keeps KB (by simp [rowOf, Value.ownBlock]); skip)
                | ((with_reducible show (if _ = true then Oper.wp _ _ _ (((w9.alloc (.cells #[] 5)).alloc (.cells #[.int .i64 0, .int .i64 0, .int .i64 0, .int .i64 0, .slice none 0 0] 59)).drew) _ _ else _)); refine step_app rfl (.tmp 67) (.tmp 70) 27 27 rfl _ _ rfl rfl FC.out ?_; intro v2 w10 hO; obtain ⟨ao2, cp2, rfl⟩ := hO.slice; have KB := (((Keep.refl [] w9).alloc (.cells #[] 5)).alloc (.cells #[.int .i64 0, .int .i64 0, .int .i64 0, .int .i64 0, .slice none 0 0] 59)).drew; have ZB := (Blk.new' (w9.alloc (.cells #[] 5)) [.int .i64 0, .int .i64 0, .int .i64 0, .int .i64 0, .slice none 0 0] 59).drew; (try rw [World.size_alloc] at ZB); have Z1 := ZB.grown hO.2.1 (by simp [Value.ownBlock]); have M1 := hO.keeps KB (by simp [rowOf, Value.ownBlock]); skip)
                | ((with_reducible show (if _ = true then Oper.wp _ _ _ (((w9.alloc (.cells #[.int .i64 0, .int .i64 0, .int .i64 0, .int .i64 0, .slice none 0 0] 59)).alloc (.cells #[] 5)).drew) _ _ else _)); refine step_app rfl (.tmp 67) (.tmp 70) 27 27 rfl _ _ rfl rfl FB.out ?_; intro v2 w10 hO; obtain ⟨ao2, cp2, rfl⟩ := hO.slice; have KB := (((Keep.refl [] w9).alloc (.cells #[.int .i64 0, .int .i64 0, .int .i64 0, .int .i64 0, .slice none 0 0] 59)).alloc (.cells #[] 5)).drew; have ZB := ((Blk.new' w9 [.int .i64 0, .int .i64 0, .int .i64 0, .int .i64 0, .slice none 0 0] 59).alloc (.cells #[] 5)).drew; (try rw [World.size_alloc] at ZB); have Z1 := ZB.grown hO.2.1 (by simp [Value.ownBlock]); have M1 := hO.keeps KB (by simp [rowOf, Value.ownBlock]); skip)
                | ((with_reducible show (if _ = true then Oper.wp _ _ _ w10 _ _ else _)); have o1 := hO.1; have F2 := run_app_slice (P := Try.prog) w10 27 27 5 i0 _ 1 1 Try.underlying27 hi hz0 hz1 hz2 rfl (by decide) _ cB _ o1 aoD 0 0 (bv (B.drop cB)) HL0.out (fun _ => ⟨rfl, rfl⟩) (HB2.out _ M1.1) (bv_one _) (by unfold maxLen; omega) (by omega); refine step_app rfl (.tmp 71) (.tmp 74) 27 27 rfl _ _ rfl rfl F2 ?_; intro v3 w12 hO2; clear F2 o1; rw [Nat.add_zero, ← bv_append] at hO2; have hO2 := hO2.lenEq (show cB = 512 by omega); have KB2 := M1.1; (try have Z2 := Z1.grown hO2.2.1 (by have q1 := hO.2.2; have q2 := Z1.lt; intro e; have q3 := q1 _ (mem_rowOf.2 e.symm); simp [rowOf, Value.ownBlock] at q3 q2; omega)); obtain ⟨ao3, cp3, rfl⟩ := hO2.slice; have M2 := hO2.keeps KB2 M1.2; skip)
                | ((with_reducible show (if _ = true then Oper.wp _ _ _ (w10.alloc (.cells #[.int .i64 0, .int .i64 0, .int .i64 0, .int .i64 0, .slice none 0 0] 59)) _ _ else _)); have o1 := hO.1.alloc (.cells #[.int .i64 0, .int .i64 0, .int .i64 0, .int .i64 0, .slice none 0 0] 59); have F2 := run_app_slice (P := Try.prog) (w10.alloc (.cells #[.int .i64 0, .int .i64 0, .int .i64 0, .int .i64 0, .slice none 0 0] 59)) 27 27 5 i0 _ 1 1 Try.underlying27 hi hz0 hz1 hz2 rfl (by decide) _ cB _ o1 aoD 0 0 (bv (B.drop cB)) HL0.out (fun _ => ⟨rfl, rfl⟩) (HB2.out _ (M1.1.alloc (.cells #[.int .i64 0, .int .i64 0, .int .i64 0, .int .i64 0, .slice none 0 0] 59))) (bv_one _) (by unfold maxLen; omega) (by omega); refine step_app rfl (.tmp 71) (.tmp 74) 27 27 rfl _ _ rfl rfl F2 ?_; intro v3 w12 hO2; clear F2 o1; rw [Nat.add_zero, ← bv_append] at hO2; have hO2 := hO2.lenEq (show cB = 512 by omega); have KB2 := (M1.1.alloc (.cells #[.int .i64 0, .int .i64 0, .int .i64 0, .int .i64 0, .slice none 0 0] 59)); have ZB2 := Blk.new' w10 [.int .i64 0, .int .i64 0, .int .i64 0, .int .i64 0, .slice none 0 0] 59; have Z2 := ZB2.grown hO2.2.1 (by intro e; have q3 := own_row_lt hO.1 _ (mem_rowOf.2 e.symm); omega); obtain ⟨ao3, cp3, rfl⟩ := hO2.slice; have M2 := hO2.keeps KB2 M1.2; skip)
                | (go_at_call 55; have r12 : RdV w12 (.slice ao3 512 cp3) (A.take cB ++ B.drop cB).length 1 (bv (A.take cB ++ B.drop cB)) := (by rw [List.length_append, List.length_take, List.length_drop, LA.out, LB.out, show min cB 512 + (512 - cB) = 512 by omega]; exact RdV.ofOwn hO2.1); (with_reducible refine (of_any _ (A.take cB ++ B.drop cB) w12 r12).mono ?_); rintro e w13 ⟨v13, rfl, sn13, k13⟩; obtain ⟨ao13, c13, rfl, rd13, le13, fp13⟩ := sn13; have K13 := (M2.1).trans k13 (by simp); (try (have Z3 := Z2.keep k13 (by simp); have ZL := Z2.lt; have zz0 := Z3.cell 0; have zz1 := Z3.cell 1; have zz2 := Z3.cell 2; have zz3 := Z3.cell 3; have zz4 := Z3.cell 4; simp only [List.getElem?_cons_zero, List.getElem?_cons_succ] at zz0 zz1 zz2 zz3 zz4; have zf0 := Z3.free 0; have zf1 := Z3.free 1; have zf2 := Z3.free 2; have zf3 := Z3.free 3; have zf4 := Z3.free 4)); clear hO hO2 r12)
                | (go_at_call 55; have r12 : RdV w12 (.slice ao3 512 cp3) (A.take cB ++ B.drop cB).length 1 (bv (A.take cB ++ B.drop cB)) := (by rw [List.length_append, List.length_take, List.length_drop, LA.out, LB.out, show min cB 512 + (512 - cB) = 512 by omega]; exact RdV.ofOwn hO2.1); (with_reducible refine (of_any _ (A.take cB ++ B.drop cB) _ (r12.keep ((Keep.refl [] w12).alloc (.cells #[.int .i64 0, .int .i64 0, .int .i64 0, .int .i64 0, .slice none 0 0] 59)) (by simp))).mono ?_); rintro e w13 ⟨v13, rfl, sn13, k13⟩; obtain ⟨ao13, c13, rfl, rd13, le13, fp13⟩ := sn13; have K13 := (M2.1.alloc (.cells #[.int .i64 0, .int .i64 0, .int .i64 0, .int .i64 0, .slice none 0 0] 59)).trans k13 (by simp); (try (have Z3 := (Blk.new' w12 [.int .i64 0, .int .i64 0, .int .i64 0, .int .i64 0, .slice none 0 0] 59).keep k13 (by simp); have ZL := (Blk.new' w12 [.int .i64 0, .int .i64 0, .int .i64 0, .int .i64 0, .slice none 0 0] 59).lt; have zz0 := Z3.cell 0; have zz1 := Z3.cell 1; have zz2 := Z3.cell 2; have zz3 := Z3.cell 3; have zz4 := Z3.cell 4; simp only [List.getElem?_cons_zero, List.getElem?_cons_succ] at zz0 zz1 zz2 zz3 zz4; have zf0 := Z3.free 0; have zf1 := Z3.free 1; have zf2 := Z3.free 2; have zf3 := Z3.free 3; have zf4 := Z3.free 4)); clear hO hO2 r12))
            all_goals
              go_simp
              go_wp2
              go_meet
              case rel =>
                have g1 := M1.1.size
                have g2 := M2.1.size
                refine ⟨_, ao13, c13, rfl, rfl, ?_, ?_, le13, ?_⟩
                · first | (with_reducible exact Blk.new' _ _ _) | (with_reducible exact set5b Z3 _ _ _ _ _)
                · first | (with_reducible exact rd13.keep ((Keep.refl [] _).alloc _) (by simp)) | exact rd13.keep (set5k _ _ _ _ _ _ _) (fun x hx hb => by rw [List.mem_singleton] at hb; have := fp13 x hx; (try simp at this); (try simp at ZL); omega)
                · first | (with_reducible exact K13.alloc _) | exact set5K K13 (by first | exact Nat.le_refl _ | omega) _ _ _ _ _
          case rest =>
            obtain ⟨b12, ao13, c13, rfl, rfl, B12, rd13, le13, K13⟩ := hcut
            obtain ⟨X, hX⟩ : ∃ X, X = A.take cB ++ B.drop cB := ⟨_, rfl⟩
            rw [← hX] at B12 rd13 le13 ⊢
            have hec := ofE_cases X
            have hone : ∀ z, Sp.of X = some z → z = s ∨ z = t := fun z hz => Sp.torn_one hr ht HG.out hkn (by rw [← HA.out, ← HBB.out, ← hX]; exact hz)
            have hnone : Sp.of X = none → 0 < cB ∧ cB < 512 := fun hz => Sp.torn_none hr ht hkn (by rw [← HA.out, ← HBB.out, ← hX]; exact hz)
            obtain ⟨u, hu⟩ : ∃ u, u = ofS X := ⟨_, rfl⟩
            obtain ⟨ec, hecc⟩ : ∃ x, x = ofE X := ⟨_, rfl⟩
            rw [← hu] at B12 rd13 le13
            rw [← hecc] at hec ⊢
            have k5c := k59.trans K13 (by simp)
            have S13 := B3d.keep k5c (by simp)
            have T13 := B4c.keep k5c (by simp)
            have SNf := (SN5.keep k5c (by simp)).su
            have TNf := (TN.keep k5c (by simp)).su
            cases ho : Sp.of X with
            | none =>
              obtain ⟨z1, z2⟩ := hnone ho
              have hE : ec = 12 := by rw [hecc]; exact (ofS_none ho).2
              have z1I : (0 : Int) < (cB : Int) := by omega
              have z2I : (cB : Int) < 512 := by omega
              subst hE
              clear hecc hec hone hnone hu hX ho S13 T13 B12 z1 z2
              go_wp2
              all_goals
                go_ret
                exact ⟨rfl, K9.trans K13 (by simp)⟩
            | some z =>
              have hE : ec = 0 := by rw [hecc]; exact (ofS_some ho).2
              have hU : u = z := by rw [hu]; exact (ofS_some ho).1
              have hz := hone z ho
              rw [← hU] at hz
              subst hE
              have q0 := B12.cell 0
              have q1 := B12.cell 1
              have q2 := B12.cell 2
              have q3 := B12.cell 3
              have q4 := B12.cell 4
              have p0 := S13.cell 0
              have p1 := S13.cell 1
              have p2 := S13.cell 2
              have p3 := S13.cell 3
              have p4 := S13.cell 4
              simp only [List.getElem?_cons_zero, List.getElem?_cons_succ] at q0 q1 q2 q3 q4 p0 p1 p2 p3 p4
              clear hecc hec hone hnone hu hX ho hU
              have HZ := Lib.hid hz
              clear hz
              go_wp2_with fail
              refine (same_any u s _ _ _ ⟨ao13, c13, rfl, rd13, le13⟩ SNf).mono ?_
              rintro e w20 ⟨rfl, k20⟩
              clear q0 q1 q2 q3 q4 p0 p1 p2 p3 p4
              have B20 := B12.keep k20 (by simp)
              have T20 := T13.keep k20 (by simp)
              have q0 := B20.cell 0
              have q1 := B20.cell 1
              have q2 := B20.cell 2
              have q3 := B20.cell 3
              have q4 := B20.cell 4
              have p0 := T20.cell 0
              have p1 := T20.cell 1
              have p2 := T20.cell 2
              have p3 := T20.cell 3
              have p4 := T20.cell 4
              simp only [List.getElem?_cons_zero, List.getElem?_cons_succ] at q0 q1 q2 q3 q4 p0 p1 p2 p3 p4
              obtain ⟨x1, hx1⟩ : ∃ x, x = Sp.sameB u s := ⟨_, rfl⟩
              obtain ⟨x2, hx2⟩ : ∃ x, x = Sp.sameB u t := ⟨_, rfl⟩
              have hor : x1 = true ∨ x2 = true := by
                rcases HZ.out with h | h
                · left; rw [hx1, h]; exact Sp.sameB_self s
                · right; rw [hx2, h]; exact Sp.sameB_self t
              have HX1 := Lib.hid hx1
              have HX2 := Lib.hid hx2
              rw [← hx1]
              clear hx1 hx2
              go_wp2_with fail
              refine (same_any u t _ _ _ ⟨ao13, c13, rfl, rd13.keep k20 (by simp), le13⟩ ((TN.keep k5c (by simp)).keep k20 (by simp)).su).mono ?_
              rintro e w21 ⟨rfl, k21⟩
              rw [← HX2.out]
              clear q0 q1 q2 q3 q4 p0 p1 p2 p3 p4
              have KF := ((K9.trans K13 (by simp)).trans k20 (by simp)).trans k21 (by simp)
              cases x1 with
              | true =>
                clear hor
                go_wp2
                go_ret
                exact ⟨rfl, KF⟩
              | false =>
                obtain rfl : x2 = true := by simpa using hor
                go_wp2
                go_ret
                exact ⟨rfl, KF⟩


theorem superTorn_readable : Try.f13.params.toList.all (fun t => Try.prog.readableRec t && decide (t < Try.prog.types.size)) = true := by kernel_rfl

open Go.ChangeShapes Go.WideShapes Go.ChangeAt in
set_option maxRecDepth 100000 in
theorem superTorn_contract (H : Type) (enc : TypeId × Value → H) (W : World) (base : Nat) (args : Array Value) (ds gs : List (DataW H)) (before : List MemPlace)
    (hval : ∀ (j : Nat) t v, Try.f13.params[j]? = some t → args[j]? = some v → Value.okWide Try.prog W .any base t v)
    (hW : DataW.Whole enc Try.prog Try.f13.params.toList Rows.superTornSpec.vars false W args.toList ds gs before) :
    Calls Try.prog 13 args W fun e W' => ∃ v, e = .returned v ∧ Rows.superTornSpec.post enc Try.prog Try.f13 false true false false W args v W' := by
  have hW' := hW
  obtain ⟨p, q, hA0, hV, rfl, _, _⟩ := hW
  have hA : DataW.TrodAll enc Try.prog W 0 (fun _ => true) true Try.f13.params.toList args.toList ds p := hA0
  rw [Try.params13] at hA hval
  obtain ⟨v0, v1, v2, d0, d1, d2, p0, p1, p2, rfl, rfl, rfl, h0, h1, h2⟩ := trodAll_three hA
  obtain ⟨rfl, rfl⟩ := trodVars_none hV
  obtain ⟨s, hs, _⟩ := open_super Try.underlying59 (by kernel_rfl) rfl rfl rfl rfl rfl (by kernel_rfl) (by kernel_rfl) (by kernel_rfl) (by kernel_rfl) (by kernel_rfl) Try.underlying3 Try.underlying3 Try.underlying3 Try.underlying3 Try.underlying57 Try.underlying81 (by kernel_rfl) rfl rfl rfl (by kernel_rfl) (by kernel_rfl) (by kernel_rfl) Try.underlying9 Try.underlying3 Try.underlying3 (hval 0 59 v0 rfl rfl) h0
  obtain ⟨t, ht, _⟩ := open_super Try.underlying59 (by kernel_rfl) rfl rfl rfl rfl rfl (by kernel_rfl) (by kernel_rfl) (by kernel_rfl) (by kernel_rfl) (by kernel_rfl) Try.underlying3 Try.underlying3 Try.underlying3 Try.underlying3 Try.underlying57 Try.underlying81 (by kernel_rfl) rfl rfl rfl (by kernel_rfl) (by kernel_rfl) (by kernel_rfl) Try.underlying9 Try.underlying3 Try.underlying3 (hval 1 59 v1 rfl rfl) h1
  obtain ⟨a2, rfl, rfl, rfl, w2⟩ := open_int Try.underlying3 (hval 2 3 v2 rfl rfl) h2
  refine (superTorn_walk s t v0 v1 a2 W hs ht).mono fun e W' ⟨he, hk⟩ => ?_
  subst he
  exact ⟨_, rfl, law_post Try.laidOut superTorn_readable rfl Try.underlying4 rfl hW' rfl hk.below0⟩

set_option maxRecDepth 100000 in
theorem superTorn_lifted (os : Os) (started : os.Started) (H : Type) (enc : TypeId × Value → H) :
    ReturnsInHanded {} Try.checked os 13 .any (Rows.superTornSpec.pre6 enc Try.prog Try.f13 Rows.superTornRow.domain false) (Rows.superTornSpec.post enc Try.prog Try.f13 false true false false) := by
  refine returnsInHanded_of_change_sized (C := Try.checked) Try.own started (by kernel_rfl) Try.func13
    (ChangeSpec.witness6 (enc := enc) (C := Try.checked) false ⟨#[], #[.agg #[.int .i64 0, .int .i64 0, .int .i64 0, .int .i64 0, .slice none 0 0], .agg #[.int .i64 0, .int .i64 0, .int .i64 0, .int .i64 0, .slice none 0 0], .int .i64 0], []⟩ 8 (by kernel_rfl) (by kernel_rfl) (by kernel_rfl) (by kernel_rfl)) ?_
  intro W base args ds gs before hval hW _ _ _
  exact superTorn_contract H enc W base args ds gs before hval hW

theorem superTorn_holds : Rows.SuperTornSaid :=
  OpenClaim.holds_of_wide 13 Try.f13 rfl rfl rfl rfl rfl rfl rfl ⟨rfl, rfl, rfl, rfl, rfl⟩ rfl rfl rfl rfl rfl (by kernel_rfl) Try.func13 (by kernel_rfl)
    (of_decide_eq_true (by kernel_rfl)) (by unfold Func.isWrapper; first | (rw [if_pos (by decide +kernel)]; kernel_rfl) | (rw [if_neg (by decide +kernel)]; exact ⟨rfl, rfl⟩))
    (fun os started H enc _ => superTorn_lifted os started H enc)

#print axioms superTorn_holds
end Go.Proofs.Yteogkgjajhdhjaa
