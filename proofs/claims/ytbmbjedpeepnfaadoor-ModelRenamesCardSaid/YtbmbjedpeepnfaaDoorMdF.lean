/-
  Package model: what holds of a place that was walked to; a directory's entries changed; rmdir. No condition but that the op was cut, and that the nodes lie in memory.
-/
import Derived.Test.YtbmbjedpeepnfaaDoorMdE
namespace Go.Proofs.YtbmbjedpeepnfaaDoor
open Go.RowKit

namespace Md
theorem isDir_lt {s : St} {q : Nat} (h : isDir s q = true) : ∃ nd, s[q]? = some nd ∧ nd.dir = true := by
  unfold isDir at h
  cases e : s[q]? with
  | none => rw [e] at h; cases h
  | some nd => rw [e] at h; exact ⟨nd, rfl, h⟩

/-- a place of this file system -/
structure PlOk (s : St) (p : Pl) : Prop where
  par : ∀ q, p.parent = some q → isDir s q = true ∧ p.is' = look (entsOf s q) p.name ∧ p.name.size ≤ 1000
  lt : ∀ i, p.is' = some i → i < s.length

theorem walkP_ok {s : St} (k : Leads s) : ∀ (l : List ByteArray) (p : Pl), (∀ x ∈ l, x.size ≤ 1000) → PlOk s p → PlOk s (walkP s p l).1
  | [], p, _, h => h
  | x :: l, p, hl, h => by
    unfold walkP
    cases e : p.is' with
    | none => exact ⟨fun q hq => (by cases hq), fun i hi => (by cases hi)⟩
    | some i =>
      simp only
      by_cases d : isDir s i = true
      · rw [if_pos d]
        refine walkP_ok k l _ (fun y hy => hl y (by simp [hy])) ⟨fun q hq => ?_, fun j hj => ?_⟩
        · injection hq with hq
          subst hq
          exact ⟨d, rfl, hl x (by simp)⟩
        · obtain ⟨nd, hn, _⟩ := isDir_lt d
          have h2 : look (entsOf s i) x = some j := hj
          unfold entsOf at h2
          rw [hn] at h2
          exact k i nd hn (x, j) (look_mem h2)
      · rw [if_neg d]
        exact ⟨fun q hq => (by cases hq), fun i hi => (by cases hi)⟩

theorem walk_ok {s : St} (k : Leads s) (h0 : 0 < s.length) (path : ByteArray) : PlOk s (walk s path).1 := by
  unfold walk
  cases e : Nm.split path with
  | none => exact ⟨fun q hq => (by cases hq), fun i hi => (by cases hi)⟩
  | some l => exact walkP_ok k l _ (split_sizes e) ⟨fun q hq => (by cases hq), fun i hi => by injection hi with hi; subst hi; exact h0⟩

theorem there_ok {s : St} (k : Leads s) (h0 : 0 < s.length) (path : ByteArray) : PlOk s (there s path).1 := by
  have := walk_ok k h0 path
  unfold there
  by_cases c : (walk s path).2 = 0 ∧ (walk s path).1.is' = none
  · simp only [if_pos c]; exact this
  · simp only [if_neg c]; exact this

theorem setNd_set {s : St} {q : Nat} {nd : Nd} (h : s[q]? = some nd) (f : Nd → Nd) : setNd s q f = s.set q (f nd) := by
  unfold setNd
  apply List.ext_getElem?
  intro j
  rw [List.getElem?_modify, List.getElem?_set]
  by_cases e : q = j
  · subst e
    rw [h]
    have := (List.getElem?_eq_some_iff.1 h).1
    simp [this]
  · simp [e]
end Md

theorem set_same {α : Type} {l : List α} {i : Nat} {x : α} (h : l[i]? = some x) : l.set i x = l := by
  apply List.ext_getElem?
  intro j
  rw [List.getElem?_set]
  by_cases e : i = j
  · subst e
    have := (List.getElem?_eq_some_iff.1 h).1
    rw [h]
    simp [this]
  · simp [e]

/-- a directory's entries changed -/
theorem Mem.entered {w w' : World} {ms : List NdM} {s : Md.St} (h : Mem w ms s) {q : Nat} {x : NdM} {nd : Md.Nd} {m : Nat} (hx : ms[q]? = some x) (hn : s[q]? = some nd) (hm : x.m = some m) {l' : List (ByteArray × Nat)} (k : Keep [m] w w') (N : NMap w' m (bents (blkOf ms) l')) :
    Mem w' ms (Md.setNd s q fun nd => { nd with ents := l' }) := by
  have hN := h.at' q x nd hx hn
  have hd : nd.dir = true := by
    rcases hN.ents with ⟨e, _⟩ | ⟨_, _, e, _⟩
    · rw [hm] at e; cases e
    · exact e
  have hin : m ∈ x.fp := by simp [NdM.fp, hm]
  have r := h.set (F := [m]) (x' := x) (nd' := { nd with ents := l' }) hx k (fun j hj => by simp at hj; subst hj; exact Or.inl hin) rfl (fun j hj => Or.inl hj)
    ⟨hN.blk.keep k (fun e => by
        simp at e
        exact hN.apart.1 (by rw [e, hm]; simp)),
      hN.own.keep k (fun i hi e => by
        simp at e
        subst e
        exact hN.apart.2 i (by rw [hm]; simp) hi),
      Or.inr ⟨m, hm, hd, N⟩, hN.apart⟩
  rw [show ms.set q x = ms from set_same hx] at r
  rw [Md.setNd_set hn]
  exact r
end Go.Proofs.YtbmbjedpeepnfaaDoor
