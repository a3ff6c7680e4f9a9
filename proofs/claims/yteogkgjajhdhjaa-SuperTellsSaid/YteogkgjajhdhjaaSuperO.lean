/-
  How a superblock among the arguments of a law is opened. No condition.
-/
import Derived.Test.YteogkgjajhdhjaaOpen2
import Derived.Test.YteogkgjajhdhjaaSuperB
namespace Go.Proofs.Yteogkgjajhdhjaa
open Go.ChangeShapes Go.WideShapes Go.ChangeAt Go.RowKit Go.Deep

theorem open_snaps {H : Type} {enc : TypeId × Value → H} {P : Program} {t e : TypeId} {f0 f1 f2 : Field} (ht : P.underlying t = some (.slice e)) (he : P.underlying e = some (.struct #[f0, f1, f2])) (ce : P.cellsOf e = 3)
    (o0 : f0.offset = 0) (o1 : f1.offset = 1) (o2 : f2.offset = 2) (c0 : P.cellsOf f0.type = 1) (c1 : P.cellsOf f1.type = 1) (c2 : P.cellsOf f2.type = 1)
    (t0 : P.underlying f0.type = some .string) (t1 : P.underlying f1.type = some (.int .i64)) (t2 : P.underlying f2.type = some (.int .i64))
    {W : World} {fuel : Nat} {c : Value} {x : DataW H × List MemPlace} (hf : DataW.trod enc P W 0 (fun _ => true) true fuel t [c] = some x) :
    ∃ (l : List Sp.Sn) (ao : Option Addr) (cap : Nat), c = .slice ao l.length cap ∧ RdV W (.slice ao l.length cap) l.length 3 (Sp.scells l) ∧ l.length ≤ 9223372036854775807 := by
  rcases open_slice ht hf with ⟨hcs, hx⟩ | ⟨a, len, cap, m, n, D, Pl, hcs, _, hl, hm, hmm, _, hx⟩
  · simp at hcs
    subst hcs
    exact ⟨[], none, 0, rfl, ⟨rfl, none, 0, rfl, Nat.le_refl _, fun _ => ⟨rfl, rfl⟩, fun a ha => by cases ha⟩, by simp⟩
  · simp at hcs
    subst hcs
    simp only [if_true] at hmm
    unfold maxLen at hm
    have key : ∀ i, i < len → ∃ y : Sp.Sn, ∀ j u, y.cells[j]? = some u → W.cell? (a.add (i * 3 + j)) = some u := by
      intro i hi
      obtain ⟨cs', h1, h2⟩ := hx i (by omega)
      rw [ce] at h1
      obtain ⟨_, hlen, hcell⟩ := World.cells?_some h1
      obtain ⟨xs, k, hk, hxy, _, hxl, hf⟩ := DataW.trod_struct he h2
      match xs, hxl, cs', hlen with
      | [y0, y1, y2], _, [u0, u1, u2], _ =>
        have g0 := hf 0 f0 rfl
        have g1 := hf 1 f1 rfl
        have g2 := hf 2 f2 rfl
        simp [o0, o1, o2, c0, c1, c2] at g0 g1 g2
        obtain ⟨s, e0, _, w0⟩ := DataW.trod_string t0 g0
        obtain ⟨n1, e1, _, w1⟩ := DataW.trod_int t1 g1
        obtain ⟨n2, e2, _, w2⟩ := DataW.trod_int t2 g2
        simp only [List.cons.injEq, and_true] at e0 e1 e2
        subst e0 e1 e2
        refine ⟨⟨s, n1, n2⟩, fun j u hu => ?_⟩
        have hj : j < 3 := (List.getElem?_eq_some_iff.1 hu).1
        have := hcell j (by omega)
        rw [Go.Deep.add_add] at this
        rw [this]
        exact hu
    have : Nonempty Sp.Sn := ⟨⟨⟨#[]⟩, 0, 0⟩⟩
    obtain ⟨B, hB⟩ : ∃ B : Nat → Sp.Sn, ∀ i, i < len → ∀ j u, (B i).cells[j]? = some u → W.cell? (a.add (i * 3 + j)) = some u := ⟨fun i => if h : i < len then (key i h).choose else ⟨⟨#[]⟩, 0, 0⟩, fun i hi => by simp only [dif_pos hi]; exact (key i hi).choose_spec⟩
    have hlen : ((List.range len).map B).length = len := by simp
    refine ⟨(List.range len).map B, some a, cap, by rw [hlen], ?_, by rw [hlen]; omega⟩
    rw [hlen]
    refine ⟨by rw [scells_length, hlen], some a, cap, rfl, by omega, (fun h => by cases h), (fun a' ha' j u hu => ?_)⟩
    cases ha'
    have hj : j < len * 3 := by have := (List.getElem?_eq_some_iff.1 hu).1; rw [scells_length, hlen] at this; exact this
    have h1 : ((List.range len).map B)[j / 3]? = some (B (j / 3)) := by rw [List.getElem?_map, List.getElem?_range (by omega)]; rfl
    have h2 := scells_get _ (j / 3) (j % 3) _ h1 (by omega)
    rw [show j / 3 * 3 + j % 3 = j by omega] at h2
    rw [h2] at hu
    have := hB (j / 3) (by omega) (j % 3) u hu
    rwa [show j / 3 * 3 + j % 3 = j by omega] at this

/-- what the numbers of a superblock among the arguments may be -/
structure SuWf (s : Sp.Su) : Prop where
  g0 : -9223372036854775808 ≤ s.gen
  g1 : s.gen ≤ 9223372036854775807

theorem open_super {H : Type} {enc : TypeId × Value → H} {P : Program} {t e : TypeId} {f0 f1 f2 f3 f4 h0 h1 h2 : Field} (hs : P.underlying t = some (.struct #[f0, f1, f2, f3, f4])) (hC : P.cellsOf t = 5)
    (o0 : f0.offset = 0) (o1 : f1.offset = 1) (o2 : f2.offset = 2) (o3 : f3.offset = 3) (o4 : f4.offset = 4) (c0 : P.cellsOf f0.type = 1) (c1 : P.cellsOf f1.type = 1) (c2 : P.cellsOf f2.type = 1) (c3 : P.cellsOf f3.type = 1) (c4 : P.cellsOf f4.type = 1)
    (t0 : P.underlying f0.type = some (.int .i64)) (t1 : P.underlying f1.type = some (.int .i64)) (t2 : P.underlying f2.type = some (.int .i64)) (t3 : P.underlying f3.type = some (.int .i64)) (t4 : P.underlying f4.type = some (.slice e))
    (he : P.underlying e = some (.struct #[h0, h1, h2])) (ce : P.cellsOf e = 3)
    (p0 : h0.offset = 0) (p1 : h1.offset = 1) (p2 : h2.offset = 2) (d0 : P.cellsOf h0.type = 1) (d1 : P.cellsOf h1.type = 1) (d2 : P.cellsOf h2.type = 1)
    (s0 : P.underlying h0.type = some .string) (s1 : P.underlying h1.type = some (.int .i64)) (s2 : P.underlying h2.type = some (.int .i64))
    {W : World} {base : Nat} {v : Value} {d : DataW H} {p : List MemPlace} (hval : Value.okWide P W .any base t v) (h : DataW.Trod enc P W 0 (fun _ => true) true t v d p) : ∃ s : Sp.Su, SuV W v s ∧ SuWf s := by
  obtain ⟨cs, rfl, hsz⟩ := okWide_struct hs hval
  obtain ⟨l⟩ := cs
  match l, hsz.trans hC with
  | [v0, v1, v2, v3, v4], _ =>
    obtain ⟨fuel, hf⟩ := h
    obtain ⟨xs, n, _, hx, _, hlen, hg⟩ := DataW.trod_struct hs hf
    match xs, hlen with
    | [y0, y1, y2, y3, y4], _ =>
      have g0 := hg 0 f0 rfl
      have g1 := hg 1 f1 rfl
      have g2 := hg 2 f2 rfl
      have g3 := hg 3 f3 rfl
      have g4 := hg 4 f4 rfl
      simp [Value.cells, o0, o1, o2, o3, o4, c0, c1, c2, c3, c4] at g0 g1 g2 g3 g4
      obtain ⟨n0, e0, _, w0⟩ := DataW.trod_int t0 g0
      obtain ⟨n1, e1, _, w1⟩ := DataW.trod_int t1 g1
      obtain ⟨n2, e2, _, w2⟩ := DataW.trod_int t2 g2
      obtain ⟨n3, e3, _, w3⟩ := DataW.trod_int t3 g3
      obtain ⟨sn, ao, cap, rfl, hr, hle⟩ := open_snaps t4 he ce p0 p1 p2 d0 d1 d2 s0 s1 s2 g4
      simp only [List.cons.injEq, and_true] at e0 e1 e2 e3
      subst e0 e1 e2 e3
      exact ⟨⟨n0, n1, n2, n3, sn⟩, ⟨ao, cap, rfl, hr, hle⟩, ⟨(wf_i64 w0).1, (wf_i64 w0).2⟩⟩
end Go.Proofs.Yteogkgjajhdhjaa
