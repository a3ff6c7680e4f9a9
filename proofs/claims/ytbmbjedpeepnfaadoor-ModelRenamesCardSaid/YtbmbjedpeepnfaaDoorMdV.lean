/-
  Package model: read. No condition but that the op was cut, that its numbers are right, and that the nodes lie in memory.
-/
import Derived.Test.YtbmbjedpeepnfaaDoorMdN
import Derived.Test.YtbmbjedpeepnfaaDoorMdRd
namespace Go.Proofs.YtbmbjedpeepnfaaDoor
open Go.RowKit

theorem DRow.sub {w : World} {xs : List UInt8} {g cap : Nat} (h : DRow w (.slice (some ⟨g, 0, none⟩) xs.length cap) xs) (M N : Nat) (hM : M ≤ xs.length) (hN : N ≤ xs.length - M) : RdV w (.slice (some ⟨g, M, none⟩) N (cap - M)) N 1 (bv ((xs.drop M).take N)) := by
  obtain ⟨_, ao, c, e, hc, _, hx⟩ := h.rd
  injection e with e1 _ e3
  subst e1 e3
  refine ⟨by simp [bv]; omega, _, _, rfl, by omega, (fun e => by cases e), fun a ha j u hu => ?_⟩
  injection ha with ha
  subst ha
  have e2 : (⟨g, M, none⟩ : Addr).add j = (⟨g, 0, none⟩ : Addr).add (M + j) := by
    unfold Addr.add
    by_cases hj : j = 0
    · subst hj
      by_cases hm : M = 0
      · subst hm; rfl
      · simp [hm]
    · rw [if_neg hj, if_neg (by omega)]; simp
  rw [e2]
  refine hx _ rfl (M + j) u ?_
  simp only [bv, List.map_take, List.map_drop] at hu ⊢
  rw [List.getElem?_take] at hu
  split at hu
  · rw [List.getElem?_drop] at hu; exact hu
  · cases hu

theorem rd_empty (w : World) (ao : Option Addr) (c : Nat) (h : ao = none → c = 0) : RdV w (.slice ao 0 c) 0 1 (bv []) :=
  ⟨rfl, ao, c, rfl, Nat.zero_le _, fun e => ⟨rfl, h e⟩, fun _ _ j u hu => by simp [bv] at hu⟩

theorem read_eq (xs : List UInt8) (o n : Nat) : (xs.drop (min o xs.length)).take (min n (xs.length - min o xs.length)) = (xs.drop o).take n := by
  by_cases c1 : o ≤ xs.length
  · rw [Nat.min_eq_left c1]
    by_cases c2 : n ≤ xs.length - o
    · rw [Nat.min_eq_left c2]
    · rw [Nat.min_eq_right (by omega), List.take_of_length_le (by rw [List.length_drop]; omega), List.take_of_length_le (by rw [List.length_drop]; omega)]
  · have hM : min o xs.length = xs.length := Nat.min_eq_right (by omega)
    rw [hM, List.drop_of_length_le (Nat.le_refl _), List.drop_of_length_le (l := xs) (by omega)]
    simp

set_option maxRecDepth 100000 in
set_option maxHeartbeats 8000000 in
theorem read_any (mb : Nat) (ms : List NdM) (s : Md.St) (o : Md.Op) (w : World) (h : IsM w mb ms s) (k : Ok s) (ok : OpOk o) (T : Tabs w) (h0 : 0 ≤ o.off) (hn : 0 ≤ o.n) (hbig : ∀ (i : Nat) (nd : Md.Nd), s[i]? = some nd → nd.data.length ≤ 10000000) :
    Calls Tryd.prog 44 #[.pointer (some ⟨mb, 0, none⟩), .agg (opL o).toArray] w fun e w' => TellOut (Md.read s o) w w' e := by
  obtain ⟨w0, hw0⟩ : ∃ W, W = (w.alloc (.cells #[.int .i64 o.kind, .string o.path, .string o.to', .int .i64 o.off, .int .i64 o.n, .string o.data] 36)).alloc (.cells #[.int .i64 0, .string ⟨#[]⟩, .slice none 0 0, .bool false, .int .i64 0, .int .i64 0] 33) := ⟨_, rfl⟩
  simp only [opL]
  go_enter Tryd.func44, Tryd.ntmps44
  go_wp2_with fail
  rw [← hw0]
  have K0 : Keep [] w w0 := by rw [hw0]; exact ((Keep.refl _ _).alloc _).alloc _
  obtain ⟨b4, hb4⟩ : ∃ b, b = w.heap.size + 1 := ⟨_, rfl⟩
  have B40 : Blk w0 b4 [.int .i64 0, .string ⟨#[]⟩, .slice none 0 0, .bool false, .int .i64 0, .int .i64 0] 33 := by
    have := Blk.new' (w.alloc (.cells #[.int .i64 o.kind, .string o.path, .string o.to', .int .i64 o.off, .int .i64 o.n, .string o.data] 36)) [.int .i64 0, .string ⟨#[]⟩, .slice none 0 0, .bool false, .int .i64 0, .int .i64 0] 33
    rw [hw0, hb4]
    simpa using this
  have h4w : w.heap.size ≤ b4 := by omega
  obtain ⟨b3, hb3⟩ : ∃ b, b = w.heap.size := ⟨_, rfl⟩
  have BO : Blk w0 b3 [.int .i64 o.kind, .string o.path, .string o.to', .int .i64 o.off, .int .i64 o.n, .string o.data] 36 := by rw [hw0, hb3]; exact (Blk.new' _ _ _).alloc _
  rw [← hb4, ← hb3]
  clear hw0 hb4 hb3
  refine (file_any mb ms s o.path w0 (h.keep K0 (by simp) (by simp)) k ok.p (T.keep K0 (by simp)) (Md.there_ok k.leads k.pos o.path).lt).mono ?_
  rintro e w1 ⟨rfl, k1⟩
  have K1 := K0.trans k1 (by simp)
  have B41 := B40.keep k1 (by simp)
  obtain ⟨R, hR⟩ : ∃ R, R = Md.file s o.path := ⟨_, rfl⟩
  have hF : Md.read s o = match R.1, decide (R.2 = 0) with | some i, true => ⟨0, ⟨(((Md.dataOf s i).drop o.off.toNat).take o.n.toNat).toArray⟩, [], false, 0, 0⟩ | _, _ => Md.er R.2 := by unfold Md.read; rw [← hR]; rfl
  have hfacts := file_walk k R hR
  rw [← hR]
  have HF := Lib.hid hF
  obtain ⟨is, er⟩ := R
  obtain ⟨iv, hiv⟩ : ∃ v, v = is.map (fun i => at0 (blkOf ms i)) := ⟨_, rfl⟩
  rw [← hiv]
  have HIV := Lib.hid hiv
  have hM := h.mem.keep K1 (by simp)
  have BO1 := BO.keep k1 (by simp)
  clear hF hR hiv k1 K0 B40
  by_cases he : er = 0
  · subst he
    obtain ⟨q, _, his, _, _, _, _, hq⟩ := hfacts rfl
    simp only at his
    subst his
    obtain ⟨nd, hnd⟩ : ∃ nd, s[q]? = some nd := ⟨_, List.getElem?_eq_getElem hq⟩
    obtain ⟨y, hy⟩ := hM.both' hnd
    have hN := hM.at' q y nd hy hnd
    obtain ⟨bq, hbq⟩ : ∃ b, b = blkOf ms q := ⟨_, rfl⟩
    have hyb : y.b = bq := by rw [hbq]; unfold blkOf; rw [hy]
    have Bq := hN.blk
    rw [hyb] at Bq
    obtain rfl : iv = some (at0 bq) := by rw [HIV.out, hbq]; rfl
    obtain ⟨xs, hxs⟩ : ∃ xs, xs = nd.data := ⟨_, rfl⟩
    have hb := hbig q nd hnd
    have hrow := hN.own
    rw [← hxs] at hb hrow
    obtain ⟨M, hM1⟩ : ∃ M, M = min o.off.toNat xs.length := ⟨_, rfl⟩
    obtain ⟨N, hN5⟩ : ∃ N, N = min o.n.toNat (xs.length - M) := ⟨_, rfl⟩
    have hf : Md.read s o = ⟨0, Nm.tx ((xs.drop M).take N), [], false, 0, 0⟩ := by
      rw [HF.out, hN5, hM1, read_eq, hxs]
      show (⟨0, ⟨(((Md.dataOf s q).drop o.off.toNat).take o.n.toNat).toArray⟩, [], false, 0, 0⟩ : Md.Rep) = _
      unfold Md.dataOf
      rw [hnd]
      rfl
    have HF2 := Lib.hid hf
    have o3 := BO1.cell 3
    have o4 := BO1.cell 4
    simp only [List.getElem?_cons_zero, List.getElem?_cons_succ] at o3 o4
    obtain ⟨L, hL⟩ : ∃ L, L = xs.length := ⟨_, rfl⟩
    rw [← hL] at hM1 hN5
    have m1 : min o.off (L : Int) = (M : Int) := by omega
    have m2 : M ≤ L := by omega
    have w2 : min o.n ((L - M : Nat) : Int) = (N : Int) := by omega
    have w3 : N ≤ L - M := by omega
    have hL1 : L ≤ 10000000 := by omega
    have p0 := B41.cell 0
    have p1 := B41.cell 1
    have p2 := B41.cell 2
    have p3 := B41.cell 3
    have p4 := B41.cell 4
    have p5 := B41.cell 5
    simp only [List.getElem?_cons_zero, List.getElem?_cons_succ] at p0 p1 p2 p3 p4 p5
    have f0 := B41.free 0
    have f1 := B41.free 1
    have f2 := B41.free 2
    have f3 := B41.free 3
    have f4 := B41.free 4
    have f5 := B41.free 5
    have HB41 := Lib.hid B41
    have hOPEN := hrow.len_cap (by rw [← hL]; unfold maxLen; omega)
    have HM1 := Lib.hid (And.intro hM1 (And.intro hN5 hL))
    have HBO := Lib.hid BO1
    clear hf hN hy hnd hbq hfacts HF hxs hM1 hN5 hb B41 BO1 h0 hn hbig k hM T ok
    rcases hOPEN with ⟨hx0, hdv⟩ | ⟨g, cap, _, hdv, hc, hcm, _, _, _, _⟩
    · have hL0 : L = 0 := by rw [hL, hx0]; rfl
      have hM0 : M = 0 := by omega
      have hN0 : N = 0 := by omega
      rw [hdv] at Bq
      have d1 := Bq.cell 1
      simp only [List.getElem?_cons_zero, List.getElem?_cons_succ] at d1
      subst hL0 hM0 hN0
      have HX0 := Lib.hid hx0
      have c1 : ∀ n, (convert 48 9 (.slice none 0 0)).run Tryd.prog (w1.drewN n) = .ok (.string (Nm.tx [])) (w1.drewN n) := fun n => conv_str (l := []) (rd_empty _ none 0 (fun _ => rfl))
      clear hx0 hdv hrow hyb hL m2 w3 hL1
      have m1' : min o.off 0 = 0 := by simpa using m1
      have w2' : min o.n 0 = 0 := by simpa using w2
      obtain ⟨LT, hLT⟩ : ∃ z, z = Nm.tx ((xs.drop 0).take 0) := ⟨_, rfl⟩
      have HLT := Lib.hid hLT.symm
      have cc : ∀ W, Keep [] w1 W → (convert 48 9 (.slice none 0 0)).run Tryd.prog W = .ok (.string LT) W := fun W _ => by rw [hLT]; exact conv_str (l := []) (rd_empty _ none 0 (fun _ => rfl))
      clear m1 w2 hLT c1
      go_upto_region 4 with fail
      go_quiet (fail)
      obtain ⟨W, hW⟩ : ∃ W, W = w1.drewN nq := ⟨_, rfl⟩
      have KW : Keep [] w1 W := by rw [hW]; exact (Keep.refl [] w1).drewN nq
      rw [← hW]
      have c1 := cc W KW
      have B41 := HB41.out.keep KW (by simp)
      have BOW := HBO.out.keep KW (by simp)
      have o4 := BOW.cell 4
      have p0 := B41.cell 0
      have p1 := B41.cell 1
      have p2 := B41.cell 2
      have p3 := B41.cell 3
      have p4 := B41.cell 4
      have p5 := B41.cell 5
      simp only [List.getElem?_cons_zero, List.getElem?_cons_succ] at p0 p1 p2 p3 p4 p5 o4
      have f0 := B41.free 0
      have f1 := B41.free 1
      have f2 := B41.free 2
      have f3 := B41.free 3
      have f4 := B41.free 4
      have f5 := B41.free 5
      have R0 : ∀ x0, (W.setCell ⟨b4, 0, none⟩ x0).cell? ⟨b4, 0, none⟩ = some x0 := fun x0 => (B41.set 0 x0).cell 0
      have R1 : ∀ x0 x1, ((W.setCell ⟨b4, 0, none⟩ x0).setCell ⟨b4, 1, none⟩ x1).cell? ⟨b4, 1, none⟩ = some x1 := fun x0 x1 => ((B41.set 0 x0).set 1 x1).cell 1
      have R2 : ∀ x0 x1 x2, (((W.setCell ⟨b4, 0, none⟩ x0).setCell ⟨b4, 1, none⟩ x1).setCell ⟨b4, 2, none⟩ x2).cell? ⟨b4, 2, none⟩ = some x2 := fun x0 x1 x2 => (((B41.set 0 x0).set 1 x1).set 2 x2).cell 2
      have R3 : ∀ x0 x1 x2 x3, ((((W.setCell ⟨b4, 0, none⟩ x0).setCell ⟨b4, 1, none⟩ x1).setCell ⟨b4, 2, none⟩ x2).setCell ⟨b4, 3, none⟩ x3).cell? ⟨b4, 3, none⟩ = some x3 := fun x0 x1 x2 x3 => ((((B41.set 0 x0).set 1 x1).set 2 x2).set 3 x3).cell 3
      have R4 : ∀ x0 x1 x2 x3 x4, (((((W.setCell ⟨b4, 0, none⟩ x0).setCell ⟨b4, 1, none⟩ x1).setCell ⟨b4, 2, none⟩ x2).setCell ⟨b4, 3, none⟩ x3).setCell ⟨b4, 4, none⟩ x4).cell? ⟨b4, 4, none⟩ = some x4 := fun x0 x1 x2 x3 x4 => (((((B41.set 0 x0).set 1 x1).set 2 x2).set 3 x3).set 4 x4).cell 4
      have R5 : ∀ x0 x1 x2 x3 x4 x5, ((((((W.setCell ⟨b4, 0, none⟩ x0).setCell ⟨b4, 1, none⟩ x1).setCell ⟨b4, 2, none⟩ x2).setCell ⟨b4, 3, none⟩ x3).setCell ⟨b4, 4, none⟩ x4).setCell ⟨b4, 5, none⟩ x5).cell? ⟨b4, 5, none⟩ = some x5 := fun x0 x1 x2 x3 x4 x5 => ((((((B41.set 0 x0).set 1 x1).set 2 x2).set 3 x3).set 4 x4).set 5 x5).cell 5
      have K1W := K1.trans KW (by simp)
      have KF : ∀ x0 x1 x2 x3 x4 x5, Keep [] w ((((((W.setCell ⟨b4, 0, none⟩ x0).setCell ⟨b4, 1, none⟩ x1).setCell ⟨b4, 2, none⟩ x2).setCell ⟨b4, 3, none⟩ x3).setCell ⟨b4, 4, none⟩ x4).setCell ⟨b4, 5, none⟩ x5) := fun x0 x1 x2 x3 x4 x5 => ((((((K1W.setCell (Or.inr h4w) _).setCell (Or.inr h4w) _).setCell (Or.inr h4w) _).setCell (Or.inr h4w) _).setCell (Or.inr h4w) _).setCell (Or.inr h4w) _)
      clear B41 BOW cc hW K1W KW
      go_wp2
      refine bodyPost_ret (v := repV none 0 ⟨0, LT, [], false, 0, 0⟩) ?_ rfl ?_
      · simp [repV, results, Tryd.results44, go_sem, R0, R1, R2, R3, R4, R5]
      · unfold TellOut
        rw [HF2.out, HLT.out]
        exact ⟨rfl, rfl, KF _ _ _ _ _ _⟩
    · rw [hdv, ← hL] at Bq
      rw [hdv] at hrow
      have d1 := Bq.cell 1
      simp only [List.getElem?_cons_zero, List.getElem?_cons_succ] at d1
      by_cases hcap : cap - M = 0
      · have hLM : L = M := by omega
        have hcM : cap = M := by omega
        have hN0 : N = 0 := by omega
        subst hN0 hLM hcM
        obtain ⟨LT, hLT⟩ : ∃ z, z = Nm.tx ((xs.drop cap).take 0) := ⟨_, rfl⟩
        have HLT := Lib.hid hLT.symm
        have cc : ∀ W, Keep [] w1 W → (convert 48 9 (.slice (some ⟨g, 0, none⟩) 0 0)).run Tryd.prog W = .ok (.string LT) W := fun W _ => by rw [hLT]; exact conv_str (l := []) (rd_empty _ _ 0 (fun e => by cases e))
        have w2' : min o.n 0 = 0 := by simpa using w2
        clear hLT hdv hyb hL w2 hc hrow hcap
        go_upto_region 4 with fail
        go_quiet (fail)
        obtain ⟨W, hW⟩ : ∃ W, W = w1.drewN nq := ⟨_, rfl⟩
        have KW : Keep [] w1 W := by rw [hW]; exact (Keep.refl [] w1).drewN nq
        rw [← hW]
        have c1 := cc W KW
        have B41 := HB41.out.keep KW (by simp)
        have BOW := HBO.out.keep KW (by simp)
        have o4 := BOW.cell 4
        have p0 := B41.cell 0
        have p1 := B41.cell 1
        have p2 := B41.cell 2
        have p3 := B41.cell 3
        have p4 := B41.cell 4
        have p5 := B41.cell 5
        simp only [List.getElem?_cons_zero, List.getElem?_cons_succ] at p0 p1 p2 p3 p4 p5 o4
        have f0 := B41.free 0
        have f1 := B41.free 1
        have f2 := B41.free 2
        have f3 := B41.free 3
        have f4 := B41.free 4
        have f5 := B41.free 5
        have R0 : ∀ x0, (W.setCell ⟨b4, 0, none⟩ x0).cell? ⟨b4, 0, none⟩ = some x0 := fun x0 => (B41.set 0 x0).cell 0
        have R1 : ∀ x0 x1, ((W.setCell ⟨b4, 0, none⟩ x0).setCell ⟨b4, 1, none⟩ x1).cell? ⟨b4, 1, none⟩ = some x1 := fun x0 x1 => ((B41.set 0 x0).set 1 x1).cell 1
        have R2 : ∀ x0 x1 x2, (((W.setCell ⟨b4, 0, none⟩ x0).setCell ⟨b4, 1, none⟩ x1).setCell ⟨b4, 2, none⟩ x2).cell? ⟨b4, 2, none⟩ = some x2 := fun x0 x1 x2 => (((B41.set 0 x0).set 1 x1).set 2 x2).cell 2
        have R3 : ∀ x0 x1 x2 x3, ((((W.setCell ⟨b4, 0, none⟩ x0).setCell ⟨b4, 1, none⟩ x1).setCell ⟨b4, 2, none⟩ x2).setCell ⟨b4, 3, none⟩ x3).cell? ⟨b4, 3, none⟩ = some x3 := fun x0 x1 x2 x3 => ((((B41.set 0 x0).set 1 x1).set 2 x2).set 3 x3).cell 3
        have R4 : ∀ x0 x1 x2 x3 x4, (((((W.setCell ⟨b4, 0, none⟩ x0).setCell ⟨b4, 1, none⟩ x1).setCell ⟨b4, 2, none⟩ x2).setCell ⟨b4, 3, none⟩ x3).setCell ⟨b4, 4, none⟩ x4).cell? ⟨b4, 4, none⟩ = some x4 := fun x0 x1 x2 x3 x4 => (((((B41.set 0 x0).set 1 x1).set 2 x2).set 3 x3).set 4 x4).cell 4
        have R5 : ∀ x0 x1 x2 x3 x4 x5, ((((((W.setCell ⟨b4, 0, none⟩ x0).setCell ⟨b4, 1, none⟩ x1).setCell ⟨b4, 2, none⟩ x2).setCell ⟨b4, 3, none⟩ x3).setCell ⟨b4, 4, none⟩ x4).setCell ⟨b4, 5, none⟩ x5).cell? ⟨b4, 5, none⟩ = some x5 := fun x0 x1 x2 x3 x4 x5 => ((((((B41.set 0 x0).set 1 x1).set 2 x2).set 3 x3).set 4 x4).set 5 x5).cell 5
        have K1W := K1.trans KW (by simp)
        have KF : ∀ x0 x1 x2 x3 x4 x5, Keep [] w ((((((W.setCell ⟨b4, 0, none⟩ x0).setCell ⟨b4, 1, none⟩ x1).setCell ⟨b4, 2, none⟩ x2).setCell ⟨b4, 3, none⟩ x3).setCell ⟨b4, 4, none⟩ x4).setCell ⟨b4, 5, none⟩ x5) := fun x0 x1 x2 x3 x4 x5 => ((((((K1W.setCell (Or.inr h4w) _).setCell (Or.inr h4w) _).setCell (Or.inr h4w) _).setCell (Or.inr h4w) _).setCell (Or.inr h4w) _).setCell (Or.inr h4w) _)
        clear B41 BOW cc hW K1W KW
        go_wp2
        refine bodyPost_ret (v := repV none 0 ⟨0, LT, [], false, 0, 0⟩) ?_ rfl ?_
        · simp [repV, results, Tryd.results44, go_sem, R0, R1, R2, R3, R4, R5]
        · unfold TellOut
          rw [HF2.out, HLT.out]
          exact ⟨rfl, rfl, KF _ _ _ _ _ _⟩
      · skip
        obtain ⟨D, hD⟩ : ∃ D, D = L - M := ⟨_, rfl⟩
        obtain ⟨C, hC⟩ : ∃ C, C = cap - M := ⟨_, rfl⟩
        have hLc : L ≤ cap := by omega
        have hMc : M ≤ cap := by omega
        have hI1 : (M : Int) ≤ (L : Int) := by omega
        have hI2 : (M : Int) ≤ (cap : Int) := by omega
        have hI3 : (N : Int) ≤ (C : Int) := by omega
        have hI4 : N ≤ C := by omega
        have hI5 : N ≤ D := by omega
        have hI6 : (N : Int) ≤ (D : Int) := by omega
        have hDC : D ≤ C := by omega
        rw [← hD] at w2
        have HW2 := Lib.hid w2
        have HDC := Lib.hid (And.intro hD hC)
        obtain ⟨LT, hLT⟩ : ∃ z, z = Nm.tx ((xs.drop M).take N) := ⟨_, rfl⟩
        have HLT := Lib.hid hLT.symm
        have cc : ∀ W, Keep [] w1 W → (convert 48 9 (.slice (some ⟨g, M, none⟩) N C)).run Tryd.prog W = .ok (.string LT) W := fun W kw => by
          have r := (hrow.keep kw (by simp)).sub M N (by omega) (by omega)
          have hl2 : ((xs.drop M).take N).length = N := by rw [List.length_take, List.length_drop]; omega
          rw [hLT, hC]
          exact conv_str (l := (xs.drop M).take N) (by rw [hl2]; exact r)
        clear hLT hdv hyb hL hc hrow w2 hI3 hI4 hI5 hI6 hDC hD hC
        go_upto_region 4 with fail
        go_quiet (fail)
        obtain ⟨W, hW⟩ : ∃ W, W = w1.drewN nq := ⟨_, rfl⟩
        have KW : Keep [] w1 W := by rw [hW]; exact (Keep.refl [] w1).drewN nq
        rw [← hW, ← HDC.out.1, ← HDC.out.2]
        have hI3 : (N : Int) ≤ (C : Int) := by have := HDC.out; omega
        have hI5 : N ≤ D := by have := HDC.out; omega
        have hI6 : (N : Int) ≤ (D : Int) := by have := HDC.out; omega
        have hDC : D ≤ C := by have := HDC.out; omega
        have w2 := HW2.out
        clear m1 hLc hMc hI1 hI2 m2 w3
        have c1 := cc W KW
        have B41 := HB41.out.keep KW (by simp)
        have BOW := HBO.out.keep KW (by simp)
        have o4 := BOW.cell 4
        have p0 := B41.cell 0
        have p1 := B41.cell 1
        have p2 := B41.cell 2
        have p3 := B41.cell 3
        have p4 := B41.cell 4
        have p5 := B41.cell 5
        simp only [List.getElem?_cons_zero, List.getElem?_cons_succ] at p0 p1 p2 p3 p4 p5 o4
        have f0 := B41.free 0
        have f1 := B41.free 1
        have f2 := B41.free 2
        have f3 := B41.free 3
        have f4 := B41.free 4
        have f5 := B41.free 5
        have R0 : ∀ x0, (W.setCell ⟨b4, 0, none⟩ x0).cell? ⟨b4, 0, none⟩ = some x0 := fun x0 => (B41.set 0 x0).cell 0
        have R1 : ∀ x0 x1, ((W.setCell ⟨b4, 0, none⟩ x0).setCell ⟨b4, 1, none⟩ x1).cell? ⟨b4, 1, none⟩ = some x1 := fun x0 x1 => ((B41.set 0 x0).set 1 x1).cell 1
        have R2 : ∀ x0 x1 x2, (((W.setCell ⟨b4, 0, none⟩ x0).setCell ⟨b4, 1, none⟩ x1).setCell ⟨b4, 2, none⟩ x2).cell? ⟨b4, 2, none⟩ = some x2 := fun x0 x1 x2 => (((B41.set 0 x0).set 1 x1).set 2 x2).cell 2
        have R3 : ∀ x0 x1 x2 x3, ((((W.setCell ⟨b4, 0, none⟩ x0).setCell ⟨b4, 1, none⟩ x1).setCell ⟨b4, 2, none⟩ x2).setCell ⟨b4, 3, none⟩ x3).cell? ⟨b4, 3, none⟩ = some x3 := fun x0 x1 x2 x3 => ((((B41.set 0 x0).set 1 x1).set 2 x2).set 3 x3).cell 3
        have R4 : ∀ x0 x1 x2 x3 x4, (((((W.setCell ⟨b4, 0, none⟩ x0).setCell ⟨b4, 1, none⟩ x1).setCell ⟨b4, 2, none⟩ x2).setCell ⟨b4, 3, none⟩ x3).setCell ⟨b4, 4, none⟩ x4).cell? ⟨b4, 4, none⟩ = some x4 := fun x0 x1 x2 x3 x4 => (((((B41.set 0 x0).set 1 x1).set 2 x2).set 3 x3).set 4 x4).cell 4
        have R5 : ∀ x0 x1 x2 x3 x4 x5, ((((((W.setCell ⟨b4, 0, none⟩ x0).setCell ⟨b4, 1, none⟩ x1).setCell ⟨b4, 2, none⟩ x2).setCell ⟨b4, 3, none⟩ x3).setCell ⟨b4, 4, none⟩ x4).setCell ⟨b4, 5, none⟩ x5).cell? ⟨b4, 5, none⟩ = some x5 := fun x0 x1 x2 x3 x4 x5 => ((((((B41.set 0 x0).set 1 x1).set 2 x2).set 3 x3).set 4 x4).set 5 x5).cell 5
        have K1W := K1.trans KW (by simp)
        have KF : ∀ x0 x1 x2 x3 x4 x5, Keep [] w ((((((W.setCell ⟨b4, 0, none⟩ x0).setCell ⟨b4, 1, none⟩ x1).setCell ⟨b4, 2, none⟩ x2).setCell ⟨b4, 3, none⟩ x3).setCell ⟨b4, 4, none⟩ x4).setCell ⟨b4, 5, none⟩ x5) := fun x0 x1 x2 x3 x4 x5 => ((((((K1W.setCell (Or.inr h4w) _).setCell (Or.inr h4w) _).setCell (Or.inr h4w) _).setCell (Or.inr h4w) _).setCell (Or.inr h4w) _).setCell (Or.inr h4w) _)
        clear B41 BOW cc hW K1W KW
        go_wp2
        refine bodyPost_ret (v := repV none 0 ⟨0, LT, [], false, 0, 0⟩) ?_ rfl ?_
        · simp [repV, results, Tryd.results44, go_sem, R0, R1, R2, R3, R4, R5]
        · unfold TellOut
          rw [HF2.out, HLT.out]
          exact ⟨rfl, rfl, KF _ _ _ _ _ _⟩
  · have heb : (er == 0) = false := by rw [beq_eq_false_iff_ne]; exact he
    have hf : Md.read s o = Md.er er := by
      rw [HF.out]
      have hd : decide (er = 0) = false := decide_eq_false he
      cases is with
      | none => rfl
      | some i => simp only [hd]
    have HF2 := Lib.hid hf
    clear he hf
    have p0 := B41.cell 0
    have p1 := B41.cell 1
    have p2 := B41.cell 2
    have p3 := B41.cell 3
    have p4 := B41.cell 4
    have p5 := B41.cell 5
    simp only [List.getElem?_cons_zero, List.getElem?_cons_succ] at p0 p1 p2 p3 p4 p5
    have f0 := B41.free 0
    have f1 := B41.free 1
    have f2 := B41.free 2
    have f3 := B41.free 3
    have f4 := B41.free 4
    have f5 := B41.free 5
    have R0 : ∀ x0, (w1.setCell ⟨b4, 0, none⟩ x0).cell? ⟨b4, 0, none⟩ = some x0 := fun x0 => (B41.set 0 x0).cell 0
    have R1 : ∀ x0 x1, ((w1.setCell ⟨b4, 0, none⟩ x0).setCell ⟨b4, 1, none⟩ x1).cell? ⟨b4, 1, none⟩ = some x1 := fun x0 x1 => ((B41.set 0 x0).set 1 x1).cell 1
    have R2 : ∀ x0 x1 x2, (((w1.setCell ⟨b4, 0, none⟩ x0).setCell ⟨b4, 1, none⟩ x1).setCell ⟨b4, 2, none⟩ x2).cell? ⟨b4, 2, none⟩ = some x2 := fun x0 x1 x2 => (((B41.set 0 x0).set 1 x1).set 2 x2).cell 2
    have R3 : ∀ x0 x1 x2 x3, ((((w1.setCell ⟨b4, 0, none⟩ x0).setCell ⟨b4, 1, none⟩ x1).setCell ⟨b4, 2, none⟩ x2).setCell ⟨b4, 3, none⟩ x3).cell? ⟨b4, 3, none⟩ = some x3 := fun x0 x1 x2 x3 => ((((B41.set 0 x0).set 1 x1).set 2 x2).set 3 x3).cell 3
    have R4 : ∀ x0 x1 x2 x3 x4, (((((w1.setCell ⟨b4, 0, none⟩ x0).setCell ⟨b4, 1, none⟩ x1).setCell ⟨b4, 2, none⟩ x2).setCell ⟨b4, 3, none⟩ x3).setCell ⟨b4, 4, none⟩ x4).cell? ⟨b4, 4, none⟩ = some x4 := fun x0 x1 x2 x3 x4 => (((((B41.set 0 x0).set 1 x1).set 2 x2).set 3 x3).set 4 x4).cell 4
    have R5 : ∀ x0 x1 x2 x3 x4 x5, ((((((w1.setCell ⟨b4, 0, none⟩ x0).setCell ⟨b4, 1, none⟩ x1).setCell ⟨b4, 2, none⟩ x2).setCell ⟨b4, 3, none⟩ x3).setCell ⟨b4, 4, none⟩ x4).setCell ⟨b4, 5, none⟩ x5).cell? ⟨b4, 5, none⟩ = some x5 := fun x0 x1 x2 x3 x4 x5 => ((((((B41.set 0 x0).set 1 x1).set 2 x2).set 3 x3).set 4 x4).set 5 x5).cell 5
    have KF : ∀ x0 x1 x2 x3 x4 x5, Keep [] w ((((((w1.setCell ⟨b4, 0, none⟩ x0).setCell ⟨b4, 1, none⟩ x1).setCell ⟨b4, 2, none⟩ x2).setCell ⟨b4, 3, none⟩ x3).setCell ⟨b4, 4, none⟩ x4).setCell ⟨b4, 5, none⟩ x5) := fun x0 x1 x2 x3 x4 x5 => ((((((K1.setCell (Or.inr h4w) _).setCell (Or.inr h4w) _).setCell (Or.inr h4w) _).setCell (Or.inr h4w) _).setCell (Or.inr h4w) _).setCell (Or.inr h4w) _)
    go_wp2
    refine bodyPost_ret (v := repV none 0 (Md.er er)) ?_ rfl ?_
    · simp [repV, Md.er, results, Tryd.results44, go_sem, R0, R1, R2, R3, R4, R5]
    · unfold TellOut
      rw [HF2.out]
      exact ⟨rfl, rfl, KF _ _ _ _ _ _⟩
end Go.Proofs.YtbmbjedpeepnfaaDoor
