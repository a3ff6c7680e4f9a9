/-
  Package model: the map of methods that Do makes: what each kind of op finds in it. No condition.
-/
import Derived.Test.YtbmbjedpeepnfaaDoorMdMap
namespace Go.Proofs.YtbmbjedpeepnfaaDoor
open Go.RowKit Go.Maps

theorem law3 : Keyed Tryd.prog 3 := int_keyed Tryd.underlying3
theorem wf_of {k : Int} (h0 : -9223372036854775808 ≤ k) (h1 : k ≤ 9223372036854775807) : (Lit.int .i64 k).wf = true := by
  simp [Lit.wf, IntKind.min, IntKind.max, IntKind.signed, IntKind.bits]; omega

/-- a method of the file system in block b, as a value, and as it reads -/
abbrev methV (n b : Nat) : Value := .func (.func n) #[.pointer (some ⟨b, 0, none⟩)] #[]
def methD (n b : Nat) : DataW Unit := .agg [.lit (.int .i64 n), .lit (.int .i64 b)]
def methIn (n : Nat) : List Value → List Value → Option (DataW Unit × List MemPlace)
  | [.pointer (some ⟨b, 0, none⟩)], [] => some (methD n b, [])
  | _, _ => none
def methElem : Value → Option (DataW Unit × List MemPlace)
  | .func (.func n) f c => methIn n f.toList c.toList
  | .nilFunc => some (.nil, [])
  | _ => none

theorem methIn_inv {k n b : Nat} {f c : List Value} {ps : List MemPlace} (h : methIn k f c = some (methD n b, ps)) : k = n ∧ f = [.pointer (some ⟨b, 0, none⟩)] ∧ c = [] := by
  unfold methIn at h
  split at h
  · rename_i b'
    simp only [Option.some.injEq, Prod.mk.injEq, methD, DataW.agg.injEq, List.cons.injEq, DataW.lit.injEq, Lit.int.injEq, true_and, and_true] at h
    obtain ⟨⟨h1, h2⟩, _⟩ := h
    obtain rfl : k = n := by omega
    obtain rfl : b' = b := by omega
    exact ⟨rfl, rfl, rfl⟩
  · cases h

theorem methElem_inv {v : Value} {n b : Nat} {ps : List MemPlace} (h : methElem v = some (methD n b, ps)) : v = methV n b := by
  unfold methElem at h
  split at h
  · rename_i k f c
    obtain ⟨rfl, h1, h2⟩ := methIn_inv h
    have e1 : f = #[.pointer (some ⟨b, 0, none⟩)] := by rw [← Array.toArray_toList (xs := f), h1]
    have e2 : c = #[] := by rw [← Array.toArray_toList (xs := c), h2]
    rw [e1, e2]
  · simp [methD] at h
  · cases h

theorem methElem_nil {v : Value} {ps : List MemPlace} (h : methElem v = some (.nil, ps)) : v = .nilFunc := by
  unfold methElem at h
  split at h
  · unfold methIn at h
    split at h
    · simp [methD] at h
    · cases h
  · rfl
  · cases h

def doesD (b : Nat) : DataW Unit := ((((((((DataW.map [] : DataW Unit).put (.int .i64 4) (methD 45 b)).put (.int .i64 11) (methD 46 b)).put (.int .i64 5) (methD 47 b)).put (.int .i64 6) (methD 47 b)).put (.int .i64 7) (methD 48 b)).put (.int .i64 8) (methD 49 b)).put (.int .i64 10) (methD 50 b)).put (.int .i64 9) (methD 51 b)

theorem does_step {w : World} {m n : Nat} {D : DataW Unit} (h : w.ownsMap Tryd.prog 3 methElem m n D) (hn : n < 1000) (k : Int) (h0 : 0 ≤ k) (h1 : k ≤ 100) (g b : Nat) :
    ∃ w', (Instr.mapUpdate 69 (.map (some m)) (.int .i64 k) (methV g b)).run Tryd.prog w = .ok () w' ∧ w'.ownsMap Tryd.prog 3 methElem m (n + 1) (D.put (.int .i64 k) (methD g b)) ∧ Keep [m] w w' := by
  obtain ⟨w', hrun, r1, r2⟩ := h.store law3 Tryd.underlying69 (by unfold maxLen; omega) (keyOf_int_mk Tryd.underlying3 (wf_of (k := k) (by omega) (by omega))) (val := methV g b) (d := methD g b) (ps := []) rfl
  exact ⟨w', hrun, r1, (Keep.refl _ _).grown r2.grown (fun j hj => by injection hj with hj; subst hj; exact Or.inl (by simp))⟩

/-- the map is made -/
theorem does_made (W : World) (b : Nat) : ∃ w1 w2 w3 w4 w5 w6 w7 w8,
    (Instr.mapUpdate 69 (.map (some W.heap.size)) (.int .i64 4) (methV 45 b)).run Tryd.prog (W.alloc (.map #[] 0)) = .ok () w1 ∧
    (Instr.mapUpdate 69 (.map (some W.heap.size)) (.int .i64 11) (methV 46 b)).run Tryd.prog w1 = .ok () w2 ∧
    (Instr.mapUpdate 69 (.map (some W.heap.size)) (.int .i64 5) (methV 47 b)).run Tryd.prog w2 = .ok () w3 ∧
    (Instr.mapUpdate 69 (.map (some W.heap.size)) (.int .i64 6) (methV 47 b)).run Tryd.prog w3 = .ok () w4 ∧
    (Instr.mapUpdate 69 (.map (some W.heap.size)) (.int .i64 7) (methV 48 b)).run Tryd.prog w4 = .ok () w5 ∧
    (Instr.mapUpdate 69 (.map (some W.heap.size)) (.int .i64 8) (methV 49 b)).run Tryd.prog w5 = .ok () w6 ∧
    (Instr.mapUpdate 69 (.map (some W.heap.size)) (.int .i64 10) (methV 50 b)).run Tryd.prog w6 = .ok () w7 ∧
    (Instr.mapUpdate 69 (.map (some W.heap.size)) (.int .i64 9) (methV 51 b)).run Tryd.prog w7 = .ok () w8 ∧
    w8.ownsMap Tryd.prog 3 methElem W.heap.size 8 (doesD b) ∧ Keep [] W w8 := by
  have h0 : (W.alloc (.map #[] 0)).ownsMap Tryd.prog 3 methElem W.heap.size 0 (.map []) := World.ownsMap_made W _ _ _
  obtain ⟨w1, r1, h1, k1⟩ := does_step h0 (by omega) 4 (by omega) (by omega) 45 b
  obtain ⟨w2, r2, h2, k2⟩ := does_step h1 (by omega) 11 (by omega) (by omega) 46 b
  obtain ⟨w3, r3, h3, k3⟩ := does_step h2 (by omega) 5 (by omega) (by omega) 47 b
  obtain ⟨w4, r4, h4, k4⟩ := does_step h3 (by omega) 6 (by omega) (by omega) 47 b
  obtain ⟨w5, r5, h5, k5⟩ := does_step h4 (by omega) 7 (by omega) (by omega) 48 b
  obtain ⟨w6, r6, h6, k6⟩ := does_step h5 (by omega) 8 (by omega) (by omega) 49 b
  obtain ⟨w7, r7, h7, k7⟩ := does_step h6 (by omega) 10 (by omega) (by omega) 50 b
  obtain ⟨w8, r8, h8, k8⟩ := does_step h7 (by omega) 9 (by omega) (by omega) 51 b
  refine ⟨w1, w2, w3, w4, w5, w6, w7, w8, r1, r2, r3, r4, r5, r6, r7, r8, h8, ?_⟩
  have hs : ∀ x ∈ [W.heap.size], x ∈ ([] : List Nat) ∨ W.heap.size ≤ x := fun x hx => Or.inr (by simp at hx; omega)
  exact (((((((((Keep.refl [] W).alloc _).trans k1 hs).trans k2 hs).trans k3 hs).trans k4 hs).trans k5 hs).trans k6 hs).trans k7 hs).trans k8 hs

theorem does_look {w : World} {m b : Nat} (h : w.ownsMap Tryd.prog 3 methElem m 8 (doesD b)) (k : Int) (h0 : -9223372036854775808 ≤ k) (h1 : k ≤ 9223372036854775807) :
    ∃ v ps, (Instr.lookup 69 (.map (some m)) (.int .i64 k) true).run Tryd.prog w = .ok (.tuple #[v, .bool (Maps.has (doesD b) (.int .i64 k))]) w ∧ methElem v = some ((doesD b).atKey (.int .i64 k) .nil, ps) :=
  h.look_ok law3 Tryd.underlying69 (Tryd.zeroValue67 _) (zd := .nil) (zp := []) rfl (keyOf_int_mk Tryd.underlying3 (wf_of h0 h1))

theorem does_find {w : World} {m b : Nat} (h : w.ownsMap Tryd.prog 3 methElem m 8 (doesD b)) (k : Int) (h0 : 0 ≤ k) (h1 : k ≤ 100) (g : Nat) (hg : (doesD b).atKey (.int .i64 k) .nil = methD g b) (hh : Maps.has (doesD b) (.int .i64 k) = true) :
    (Instr.lookup 69 (.map (some m)) (.int .i64 k) true).run Tryd.prog w = .ok (.tuple #[methV g b, .bool true]) w := by
  obtain ⟨v, ps, hrun, hv⟩ := does_look h k (by omega) (by omega)
  rw [hg] at hv
  rw [hrun, methElem_inv hv, hh]

theorem does_none {w : World} {m b : Nat} (h : w.ownsMap Tryd.prog 3 methElem m 8 (doesD b)) (k : Int) (h0 : -9223372036854775808 ≤ k) (h1 : k ≤ 9223372036854775807) (hk : k ≠ 4 ∧ k ≠ 11 ∧ k ≠ 5 ∧ k ≠ 6 ∧ k ≠ 7 ∧ k ≠ 8 ∧ k ≠ 10 ∧ k ≠ 9) :
    (Instr.lookup 69 (.map (some m)) (.int .i64 k) true).run Tryd.prog w = .ok (.tuple #[.nilFunc, .bool false]) w := by
  obtain ⟨v, ps, hrun, hv⟩ := does_look h k h0 h1
  obtain ⟨a1, a2, a3, a4, a5, a6, a7, a8⟩ := hk
  have ne : ∀ j : Int, k ≠ j → (Lit.int .i64 k) ≠ .int .i64 j := fun j hj e => hj (by injection e)
  have e1 : (doesD b).atKey (.int .i64 k) .nil = .nil := by
    unfold doesD
    rw [atKey_put_other (ne _ a8), atKey_put_other (ne _ a7), atKey_put_other (ne _ a6), atKey_put_other (ne _ a5), atKey_put_other (ne _ a4), atKey_put_other (ne _ a3), atKey_put_other (ne _ a2), atKey_put_other (ne _ a1)]
    rfl
  have e2 : Maps.has (doesD b) (.int .i64 k) = false := by
    unfold doesD
    rw [has_put_other (ne _ a8), has_put_other (ne _ a7), has_put_other (ne _ a6), has_put_other (ne _ a5), has_put_other (ne _ a4), has_put_other (ne _ a3), has_put_other (ne _ a2), has_put_other (ne _ a1)]
    rfl
  rw [e1] at hv
  rw [hrun, methElem_nil hv, e2]
end Go.Proofs.YtbmbjedpeepnfaaDoor
