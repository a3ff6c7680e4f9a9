/-
  Layer 4's laws: cut: a superblock of at most ten snapshots, its own. No condition but that the snapshots can be read.
-/
import Derived.Test.YteogkgjajhdhjaaSuperEq
import Derived.Test.YteogkgjajhdhjaaSuperC
namespace Go.Proofs.Yteogkgjajhdhjaa
open Go.RowKit

theorem Try.info81c : (Try.prog.info? 81).map (fun i => (i.zero, i.size, i.bytes)) = some (some (.agg #[.string ⟨#[]⟩, .int .i64 0, .int .i64 0]), 3, 32) := by kernel_rfl

def Sp.cutS (s : Sp.Su) : Sp.Su := { s with snaps := s.snaps.take 10 }

theorem scells_take (l : List Sp.Sn) (k : Nat) : Sp.scells (l.take k) = (Sp.scells l).take (k * 3) := by
  induction l generalizing k with
  | nil => simp [Sp.scells]
  | cons x l ih =>
    cases k with
    | zero => simp [Sp.scells]
    | succ k =>
      have h := ih k
      simp only [Sp.scells, List.take_succ_cons, List.flatMap_cons] at h ⊢
      rw [h, show (k + 1) * 3 = x.cells.length + k * 3 by simp [Sp.Sn.cells]; omega, List.take_length_add_append]

theorem scells_one (l : List Sp.Sn) : ∀ u ∈ Sp.scells l, u.oneCell' = true := by
  intro u hu
  simp only [Sp.scells, List.mem_flatMap, Sp.Sn.cells] at hu
  obtain ⟨x, _, hx⟩ := hu
  simp at hx
  rcases hx with rfl | rfl | rfl <;> rfl

set_option maxRecDepth 100000 in
set_option maxHeartbeats 1600000 in
theorem cut_any (s : Sp.Su) (v : Value) (w : World) (h : SuV w v s) : Calls Try.prog 52 #[v] w fun e w' => ∃ ao c, e = .returned (.agg #[.int .i64 s.gen, .int .i64 s.root, .int .i64 s.next, .int .i64 s.commit, .slice ao (Sp.cutS s).snaps.length c]) ∧ RdV w' (.slice ao (Sp.cutS s).snaps.length c) (Sp.cutS s).snaps.length 3 (Sp.scells (Sp.cutS s).snaps) ∧ (∀ x ∈ fpOf (.slice ao (Sp.cutS s).snaps.length c), w.heap.size ≤ x) ∧ Keep [] w w' := by
  obtain ⟨ao, c, rfl, hr, hl⟩ := h
  obtain ⟨i0, hi, hz0, hz1, hz2⟩ := info_parts Try.info81c
  obtain ⟨k, hk, hkl, hk10, hcut⟩ : ∃ k : Nat, k = min s.snaps.length 10 ∧ k ≤ s.snaps.length ∧ k ≤ 10 ∧ Sp.scells (Sp.cutS s).snaps = (Sp.scells s.snaps).take (k * 3) := by
    refine ⟨min s.snaps.length 10, rfl, by omega, by omega, ?_⟩
    unfold Sp.cutS
    rw [← scells_take]
    congr 1
    rcases Nat.le_total s.snaps.length 10 with h | h
    · rw [Nat.min_eq_left h, List.take_of_length_le h, List.take_length]
    · rw [Nat.min_eq_right h]
  have hcl : (Sp.cutS s).snaps.length = k := by rw [hk]; unfold Sp.cutS; rw [List.length_take, Nat.min_comm]
  obtain ⟨hrl, ao', c', e', hc, hnn, hx⟩ := hr
  cases e'
  have HC := Lib.hid hcut
  have HL := Lib.hid hcl
  have HX := Lib.hid hx
  have HN := Lib.hid hnn
  have HRL := Lib.hid hrl
  clear hcut hcl hx hnn hrl
  obtain ⟨b1, hb1⟩ : ∃ b, b = w.heap.size := ⟨_, rfl⟩
  obtain ⟨b2, hb2⟩ : ∃ b, b = w.heap.size + 1 := ⟨_, rfl⟩
  obtain ⟨WA, hWA⟩ : ∃ W, W = ((w.alloc (.cells #[.int .i64 s.gen, .int .i64 s.root, .int .i64 s.next, .int .i64 s.commit, .slice ao s.snaps.length c] 59)).alloc (.cells #[.int .i64 0, .int .i64 0, .int .i64 0, .int .i64 0, .slice none 0 0] 59)).alloc (.cells #[] 81) := ⟨_, rfl⟩
  have KA : Keep [] w WA := by rw [hWA]; exact (((Keep.refl _ _).alloc _).alloc _).alloc _
  have hsz : WA.heap.size = w.heap.size + 3 := by rw [hWA]; simp
  have B1 : Blk WA b1 [.int .i64 s.gen, .int .i64 s.root, .int .i64 s.next, .int .i64 s.commit, .slice ao s.snaps.length c] 59 := by rw [hWA, hb1]; exact ((Blk.new' _ _ _).alloc _).alloc _
  have B2 : Blk WA b2 [.int .i64 0, .int .i64 0, .int .i64 0, .int .i64 0, .slice none 0 0] 59 := by
    have := (Blk.new' (w.alloc (.cells #[.int .i64 s.gen, .int .i64 s.root, .int .i64 s.next, .int .i64 s.commit, .slice ao s.snaps.length c] 59)) [.int .i64 0, .int .i64 0, .int .i64 0, .int .i64 0, .slice none 0 0] 59).alloc (.cells #[] 81)
    rw [hWA, hb2]
    simpa using this
  have O1 : WA.ownsRow 0 81 3 (.slice (some ⟨w.heap.size + 2, 0, none⟩) 0 0) 0 [] := by
    have := ownsRow_made0 ((w.alloc (.cells #[.int .i64 s.gen, .int .i64 s.root, .int .i64 s.next, .int .i64 s.commit, .slice ao s.snaps.length c] 59)).alloc (.cells #[.int .i64 0, .int .i64 0, .int .i64 0, .int .i64 0, .slice none 0 0] 59)) 81 3
    rw [hWA]
    simpa using this
  have news : ∀ a, ao = some a → ∀ j u, ((Sp.scells s.snaps).take (k * 3))[j]? = some u → WA.cell? (a.add j) = some u := fun a ha j u hu => by
    have h1 := HX.out a ha j u (by rw [List.getElem?_take] at hu; split at hu; exact hu; cases hu)
    rw [KA.cell (World.block_lt_of_cell? w _ h1) (by simp)]
    exact h1
  have nl : ((Sp.scells s.snaps).take (k * 3)).length = k * 3 := by rw [List.length_take, HRL.out]; omega
  have NW := Lib.hid news
  have NL := Lib.hid nl
  have HB := Lib.hid (And.intro hb1 (And.intro hb2 hsz))
  have HWA := Lib.hid hWA
  clear news nl hb1 hb2 hsz hWA
  have hkm : min (s.snaps.length : Int) 10 = (k : Int) := by rw [hk]; omega
  clear hk
  go_enter Try.func52, Try.ntmps52
  go_wp2_with (at_builtin; rw [← HWA.out]; refine wpList_app rfl (.tmp 3) (.tmp 10) 57 57 rfl _ _ rfl rfl (run_app_slice WA 57 _ 81 i0 _ 3 32 Try.underlying57 hi hz0 hz1 hz2 rfl (by decide) _ 0 [] O1 ao _ c _ NL.out (fun h => by have := HN.out h; omega) NW.out (fun u hu => scells_one s.snaps u (List.mem_of_mem_take hu)) (by unfold maxLen; omega) (by omega)) ?_; intro v2 w2 hO; rw [Nat.zero_add, List.nil_append] at hO; obtain ⟨ao2, cp2, rfl⟩ := hO.slice; have n1 : some b1 ≠ (Value.slice (some ⟨w.heap.size + 2, 0, none⟩) 0 0).ownBlock := (by simp [Value.ownBlock]; have := HB.out; omega); have n2 : some b2 ≠ (Value.slice (some ⟨w.heap.size + 2, 0, none⟩) 0 0).ownBlock := (by simp [Value.ownBlock]; have := HB.out; omega); have n12 : b2 ≠ b1 := (by have := HB.out; omega); have C1 := B1.grown hO.2.1 n1; have C2 := B2.grown hO.2.1 n2; have hb1w := HB.out.1; have hb2w := HB.out.2.1; rw [← hb2w, ← hb1w]; have c4 := C1.cell 4; have g4 := C1.free 4; have c0 := C1.cell 0; have c1 := C1.cell 1; have c2 := C1.cell 2; have c3 := C1.cell 3; simp only [List.getElem?_cons_zero, List.getElem?_cons_succ] at c0 c1 c2 c3; have m0 := C2.cell 0; have m1 := C2.cell 1; have m2 := C2.cell 2; have m3 := C2.cell 3; have m4 := C2.cell 4; simp only [List.getElem?_cons_zero, List.getElem?_cons_succ] at m0 m1 m2 m3 m4; have l0 := C2.free 0; have l1 := C2.free 1; have l2 := C2.free 2; have l3 := C2.free 3; have l4 := C2.free 4; have n21 : ¬ (b1 = b2) := (by omega); have D1 := C1.set 4 (.slice ao2 k cp2); have D2 := C2.setOther (p := ⟨b1, 4, none⟩) n12 (.slice ao2 k cp2); have q0 := D1.cell 0; have q1 := D1.cell 1; have q2 := D1.cell 2; have q3 := D1.cell 3; have q4 := D1.cell 4; simp only [List.set_cons_succ, List.set_cons_zero, List.getElem?_cons_zero, List.getElem?_cons_succ] at c4 q0 q1 q2 q3 q4; clear hb1w hb2w C1 C2 n1 n2; have p0 := D2.cell 0; have p1 := D2.cell 1; have p2 := D2.cell 2; have p3 := D2.cell 3; have p4 := D2.cell 4; simp only [List.getElem?_cons_zero, List.getElem?_cons_succ] at p0 p1 p2 p3 p4; have f0 := D2.free 0; have f1 := D2.free 1; have f2 := D2.free 2; have f3 := D2.free 3; have f4 := D2.free 4; have R0 : ∀ x0, ((w2.setCell ⟨b1, 4, none⟩ (.slice ao2 k cp2)).setCell ⟨b2, 0, none⟩ x0).cell? ⟨b2, 0, none⟩ = some x0 := fun x0 => (D2.set 0 x0).cell 0; have R1 : ∀ x0 x1, (((w2.setCell ⟨b1, 4, none⟩ (.slice ao2 k cp2)).setCell ⟨b2, 0, none⟩ x0).setCell ⟨b2, 1, none⟩ x1).cell? ⟨b2, 1, none⟩ = some x1 := fun x0 x1 => ((D2.set 0 x0).set 1 x1).cell 1; have R2 : ∀ x0 x1 x2, ((((w2.setCell ⟨b1, 4, none⟩ (.slice ao2 k cp2)).setCell ⟨b2, 0, none⟩ x0).setCell ⟨b2, 1, none⟩ x1).setCell ⟨b2, 2, none⟩ x2).cell? ⟨b2, 2, none⟩ = some x2 := fun x0 x1 x2 => (((D2.set 0 x0).set 1 x1).set 2 x2).cell 2; have R3 : ∀ x0 x1 x2 x3, (((((w2.setCell ⟨b1, 4, none⟩ (.slice ao2 k cp2)).setCell ⟨b2, 0, none⟩ x0).setCell ⟨b2, 1, none⟩ x1).setCell ⟨b2, 2, none⟩ x2).setCell ⟨b2, 3, none⟩ x3).cell? ⟨b2, 3, none⟩ = some x3 := fun x0 x1 x2 x3 => ((((D2.set 0 x0).set 1 x1).set 2 x2).set 3 x3).cell 3; have R4 : ∀ x0 x1 x2 x3 x4, ((((((w2.setCell ⟨b1, 4, none⟩ (.slice ao2 k cp2)).setCell ⟨b2, 0, none⟩ x0).setCell ⟨b2, 1, none⟩ x1).setCell ⟨b2, 2, none⟩ x2).setCell ⟨b2, 3, none⟩ x3).setCell ⟨b2, 4, none⟩ x4).cell? ⟨b2, 4, none⟩ = some x4 := fun x0 x1 x2 x3 x4 => (((((D2.set 0 x0).set 1 x1).set 2 x2).set 3 x3).set 4 x4).cell 4)
  have hap0 : ∀ x ∈ fpOf (.slice ao2 k cp2), w.heap.size + 2 ≤ x := fun x hx => by
    have h1 := hO.2.2 x (fpOf_rowOf hx)
    have h2 := HB.out
    simp [rowOf, Value.ownBlock] at h1
    omega
  refine bodyPost_ret (v := .agg #[.int .i64 s.gen, .int .i64 s.root, .int .i64 s.next, .int .i64 s.commit, .slice ao2 k cp2]) ?_ rfl ⟨ao2, cp2, ?_, ?_, ?_, ?_⟩
  · simp [results, Try.results52, go_sem, R0, R1, R2, R3, R4]
  · rw [HL.out]
  · have hr2 := RdV.ofOwn hO.1
    rw [← HC.out] at hr2
    rw [HL.out]
    refine hr2.keep (F := [b1, b2]) ?_ (fun x hx hb => by have h1 := hap0 x hx; have h2 := HB.out; simp at hb; omega)
    exact ((((((Keep.refl _ _).setCell (Or.inl (by simp)) _).setCell (Or.inl (by simp)) _).setCell (Or.inl (by simp)) _).setCell (Or.inl (by simp)) _).setCell (Or.inl (by simp)) _).setCell (Or.inl (by simp)) _
  · rw [HL.out]
    exact fun x hx => by have := hap0 x hx; omega
  · have h1 : w.heap.size ≤ b1 := by have := HB.out; omega
    have h2 : w.heap.size ≤ b2 := by have := HB.out; omega
    refine ((((((KA.grown hO.2.1 (fun x hx => Or.inr ?_)).setCell (Or.inr h1) _).setCell (Or.inr h2) _).setCell (Or.inr h2) _).setCell (Or.inr h2) _).setCell (Or.inr h2) _).setCell (Or.inr h2) _
    simp [Value.ownBlock] at hx
    omega
end Go.Proofs.Yteogkgjajhdhjaa
