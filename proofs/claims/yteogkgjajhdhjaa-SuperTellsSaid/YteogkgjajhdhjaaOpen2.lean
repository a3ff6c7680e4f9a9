/-
  How more arguments of the laws are opened: texts, long numbers, bytes, fields. No condition.
-/
import Derived.Test.YteogkgjajhdhjaaLawOpen
import Derived.Test.YteogkgjajhdhjaaPackA
namespace Go.Proofs.Yteogkgjajhdhjaa
open Go.ChangeShapes Go.WideShapes Go.ChangeAt Go.RowKit Go.Deep

theorem wf_u64 {n : Int} (h : (Lit.int .u64 n).wf = true) : 0 ≤ n ∧ n ≤ 18446744073709551615 := by
  simpa [Lit.wf, IntKind.min, IntKind.max, IntKind.signed, IntKind.bits] using h

theorem wf_u8 {n : Int} (h : (Lit.int .u8 n).wf = true) : 0 ≤ n ∧ n ≤ 255 := by
  simpa [Lit.wf, IntKind.min, IntKind.max, IntKind.signed, IntKind.bits] using h

theorem open_text {H : Type} {enc : TypeId × Value → H} {P : Program} {t : TypeId} (ht : P.underlying t = some .string) {W : World} {base : Nat} {v : Value} {d : DataW H} {p : List MemPlace}
    (hval : Value.okWide P W .any base t v) (h : DataW.Trod enc P W 0 (fun _ => true) true t v d p) : ∃ s : ByteArray, v = .string s ∧ s.size ≤ 9223372036854775807 := by
  obtain ⟨s, rfl⟩ := okWide_string ht hval
  obtain ⟨fuel, hf⟩ := h
  obtain ⟨s', h, _, hw⟩ := DataW.trod_string ht hf
  simp [Value.cells] at h
  subst h
  exact ⟨s, rfl, by unfold maxLen at hw; omega⟩

/-- a list of bytes among the arguments -/
theorem open_bytes {H : Type} {enc : TypeId × Value → H} {P : Program} {t e : TypeId} (ht : P.underlying t = some (.slice e)) (he : P.underlying e = some (.int .u8)) (hc : P.cellsOf e = 1) {W : World} {base : Nat} {v : Value} {d : DataW H} {p : List MemPlace}
    (hval : Value.okWide P W .any base t v) (h : DataW.Trod enc P W 0 (fun _ => true) true t v d p) : ∃ l : List UInt8, RdV W v l.length 1 (bv l) ∧ l.length ≤ 9223372036854775807 := by
  obtain ⟨a0, len, cap, rfl⟩ := okWide_slice ht hval
  obtain ⟨fuel, hf⟩ := h
  rcases open_slice1 ht hc hf with ⟨hcs, hx⟩ | ⟨a, len', cap', m, n, V, D, Pl, hcs, _, hl, hm, hz, hx, hcell⟩
  · simp [Value.cells] at hcs
    obtain ⟨rfl, rfl, rfl⟩ := hcs
    exact ⟨[], ⟨rfl, none, 0, rfl, Nat.le_refl _, fun _ => ⟨rfl, rfl⟩, fun a ha => by cases ha⟩, by simp⟩
  · simp [Value.cells] at hcs
    obtain ⟨rfl, rfl, rfl⟩ := hcs
    simp only [if_true] at hz
    unfold maxLen at hm
    have key : ∀ i, i < len → ∃ b : UInt8, W.cell? (a.add i) = some (.int .u8 b.toNat) := by
      intro i hi
      obtain ⟨h1, h2⟩ := hcell i (by omega)
      obtain ⟨k, hk, _, hw⟩ := DataW.trod_int he h2
      simp only [List.cons.injEq, and_true] at hk
      have hb := wf_u8 hw
      refine ⟨UInt8.ofNat k.toNat, ?_⟩
      rw [h1, hk]
      congr 2
      simp
      omega
    obtain ⟨B, hB⟩ := choose_lt key
    refine ⟨(List.range len).map B, ⟨by simp [bv], some a, cap, by simp, by simpa using hl, (fun h => by cases h), (fun a' ha' j u hu => ?_)⟩, by simp; omega⟩
    cases ha'
    simp only [bv, List.map_map, List.getElem?_map] at hu
    obtain ⟨x, hx, rfl⟩ := Option.map_eq_some_iff.1 hu
    rw [List.getElem?_range (by have := (List.getElem?_eq_some_iff.1 hx).1; simpa using this)] at hx
    cases hx
    exact hB j (by have := (List.getElem?_eq_some_iff.1 (Option.map_eq_some_iff.1 hu).choose_spec.1).1; simpa using this)

/-- a field of the law's list -/
structure Fld where
  kind : Int
  n : Int
  v : Int
  s : ByteArray
  deriving Inhabited

/-- what the values of a field may be -/
structure Fld.Ok (f : Fld) : Prop where
  k0 : -9223372036854775808 ≤ f.kind
  k1 : f.kind ≤ 9223372036854775807
  n0 : -9223372036854775808 ≤ f.n
  n1 : f.n ≤ 9223372036854775807
  v0 : 0 ≤ f.v
  v1 : f.v ≤ 18446744073709551615
  s1 : f.s.size ≤ 9223372036854775807

/-- its cells -/
def Fld.cells (f : Fld) : List Value := [.int .i64 f.kind, .int .i64 f.n, .int .u64 f.v, .string f.s]
def fcells (l : List Fld) : List Value := l.flatMap Fld.cells

theorem fcells_get : ∀ (l : List Fld) (k j : Nat) (f : Fld), l[k]? = some f → j < 4 → (fcells l)[k * 4 + j]? = f.cells[j]?
  | [], k, j, f, h, _ => by simp at h
  | x :: l, 0, j, f, h, hj => by
    simp at h
    subst h
    simp only [fcells, List.flatMap_cons]
    rw [List.getElem?_append_left (by simp [Fld.cells]; omega)]
    simp
  | x :: l, k + 1, j, f, h, hj => by
    simp at h
    have := fcells_get l k j f h hj
    simp only [fcells, List.flatMap_cons]
    rw [List.getElem?_append_right (by simp [Fld.cells]; omega)]
    rw [show (k + 1) * 4 + j - x.cells.length = k * 4 + j by simp [Fld.cells]; omega]
    exact this

theorem fcells_length (l : List Fld) : (fcells l).length = l.length * 4 := by
  induction l with
  | nil => rfl
  | cons x l ih => simp only [fcells, List.flatMap_cons, List.length_append, List.length_cons]; simp only [fcells] at ih; rw [ih]; simp [Fld.cells]; omega

theorem open_fields {H : Type} {enc : TypeId × Value → H} {P : Program} {t e : TypeId} {f0 f1 f2 f3 : Field} (ht : P.underlying t = some (.slice e)) (he : P.underlying e = some (.struct #[f0, f1, f2, f3])) (ce : P.cellsOf e = 4)
    (o0 : f0.offset = 0) (o1 : f1.offset = 1) (o2 : f2.offset = 2) (o3 : f3.offset = 3) (c0 : P.cellsOf f0.type = 1) (c1 : P.cellsOf f1.type = 1) (c2 : P.cellsOf f2.type = 1) (c3 : P.cellsOf f3.type = 1)
    (t0 : P.underlying f0.type = some (.int .i64)) (t1 : P.underlying f1.type = some (.int .i64)) (t2 : P.underlying f2.type = some (.int .u64)) (t3 : P.underlying f3.type = some .string)
    {W : World} {base : Nat} {v : Value} {d : DataW H} {p : List MemPlace}
    (hval : Value.okWide P W .any base t v) (h : DataW.Trod enc P W 0 (fun _ => true) true t v d p) : ∃ l : List Fld, RdV W v l.length 4 (fcells l) ∧ l.length ≤ 9223372036854775807 ∧ ∀ f ∈ l, f.Ok := by
  obtain ⟨a0, len, cap, rfl⟩ := okWide_slice ht hval
  obtain ⟨fuel, hf⟩ := h
  rcases open_slice ht hf with ⟨hcs, hx⟩ | ⟨a, len', cap', m, n, D, Pl, hcs, _, hl, hm, hmm, _, hx⟩
  · simp [Value.cells] at hcs
    obtain ⟨rfl, rfl, rfl⟩ := hcs
    exact ⟨[], ⟨rfl, none, 0, rfl, Nat.le_refl _, fun _ => ⟨rfl, rfl⟩, fun a ha => by cases ha⟩, by simp, by simp⟩
  · simp [Value.cells] at hcs
    obtain ⟨rfl, rfl, rfl⟩ := hcs
    simp only [if_true] at hmm
    unfold maxLen at hm
    have key : ∀ i, i < len → ∃ f : Fld, f.Ok ∧ ∀ j u, f.cells[j]? = some u → W.cell? (a.add (i * 4 + j)) = some u := by
      intro i hi
      obtain ⟨cs', h1, h2⟩ := hx i (by omega)
      rw [ce] at h1
      obtain ⟨_, hlen, hcell⟩ := World.cells?_some h1
      obtain ⟨xs, k, hk, hxy, _, hxl, hf⟩ := DataW.trod_struct he h2
      match xs, hxl, cs', hlen with
      | [y0, y1, y2, y3], _, [u0, u1, u2, u3], _ =>
        have g0 := hf 0 f0 rfl
        have g1 := hf 1 f1 rfl
        have g2 := hf 2 f2 rfl
        have g3 := hf 3 f3 rfl
        simp [o0, o1, o2, o3, c0, c1, c2, c3] at g0 g1 g2 g3
        obtain ⟨n0, e0, _, w0⟩ := DataW.trod_int t0 g0
        obtain ⟨n1, e1, _, w1⟩ := DataW.trod_int t1 g1
        obtain ⟨n2, e2, _, w2⟩ := DataW.trod_int t2 g2
        obtain ⟨s, e3, _, w3⟩ := DataW.trod_string t3 g3
        simp only [List.cons.injEq, and_true] at e0 e1 e2 e3
        subst e0 e1 e2 e3
        refine ⟨⟨n0, n1, n2, s⟩, ⟨(wf_i64 w0).1, (wf_i64 w0).2, (wf_i64 w1).1, (wf_i64 w1).2, (wf_u64 w2).1, (wf_u64 w2).2, by unfold maxLen at w3; show s.size ≤ _; omega⟩, fun j u hu => ?_⟩
        have hj : j < 4 := (List.getElem?_eq_some_iff.1 hu).1
        have := hcell j (by omega)
        rw [Go.Deep.add_add] at this
        rw [this]
        exact hu
    obtain ⟨B, hB⟩ := choose_lt key
    refine ⟨(List.range len).map B, ⟨by rw [fcells_length, List.length_map], some a, cap, by simp, by simpa using hl, (fun h => by cases h), (fun a' ha' j u hu => ?_)⟩, by simp; omega, fun f hf => ?_⟩
    · cases ha'
      have hj : j < len * 4 := by have := (List.getElem?_eq_some_iff.1 hu).1; rw [fcells_length] at this; simpa using this
      have h1 : ((List.range len).map B)[j / 4]? = some (B (j / 4)) := by rw [List.getElem?_map, List.getElem?_range (by omega)]; rfl
      have h2 := fcells_get _ (j / 4) (j % 4) _ h1 (by omega)
      rw [show j / 4 * 4 + j % 4 = j by omega] at h2
      rw [h2] at hu
      have := (hB (j / 4) (by omega)).2 (j % 4) u hu
      rwa [show j / 4 * 4 + j % 4 = j by omega] at this
    · obtain ⟨i, hi, rfl⟩ := List.mem_map.1 hf
      exact (hB i (List.mem_range.1 hi)).1
end Go.Proofs.Yteogkgjajhdhjaa
