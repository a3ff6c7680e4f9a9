/-
  Who is below whom: plain. No condition.
-/
import Derived.Test.YtbmbjedpeepnfaaDoorNmJ
namespace Go.Proofs.YtbmbjedpeepnfaaDoor
open Go.RowKit
namespace Nm

theorem below_of {s t : ByteArray} {a b : List ByteArray} (ha : split s = some a) (hb : split t = some b) : below s t = (decide (b.length ≤ a.length) && decide (a.take b.length = b)) := by
  unfold below; rw [ha, hb]

theorem below_none {s t : ByteArray} (h : split s = none) : below s t = false ∧ below t s = false := by
  unfold below
  rw [h]
  cases split t <;> simp

/-- a path is below each of its beginnings -/
theorem below_take {s : ByteArray} {l : List ByteArray} (h : split s = some l) (k : Nat) : below s (jtx (l.take k)) = true := by
  rw [below_of h (split_take h k)]
  simp
  omega

/-- and none of those that are shorter is below it -/
theorem take_below {s : ByteArray} {l : List ByteArray} (h : split s = some l) {k : Nat} (hk : k < l.length) : below (jtx (l.take k)) s = false := by
  rw [below_of (split_take h k) h]
  have : ¬ l.length ≤ (l.take k).length := by rw [List.length_take]; omega
  simp only [this, decide_false, Bool.false_and]

theorem below_parts {s t : ByteArray} (h : below s t = true) : ∃ a b c, split s = some a ∧ split t = some b ∧ a = b ++ c ∧ s = jtx a ∧ t = jtx b := by
  unfold below at h
  split at h
  · rename_i a b ha hb
    simp only [Bool.and_eq_true, decide_eq_true_eq] at h
    refine ⟨a, b, a.drop b.length, ha, hb, ?_, (split_some ha).1, (split_some hb).1⟩
    conv => lhs; rw [← List.take_append_drop b.length a, h.2]
  · cases h

/-- who is below another one begins as that does -/
theorem below_begins {s t : ByteArray} (h : below s t = true) : t = sl ∨ (t.size ≤ s.size ∧ s.extract 0 t.size = t ∧ (t.size < s.size → s.get! t.size = 47)) := by
  obtain ⟨a, b, c, _, _, rfl, rfl, rfl⟩ := below_parts h
  by_cases hb : b = []
  · left; rw [hb]; decide +kernel
  · right
    by_cases hc : c = []
    · subst hc
      rw [List.append_nil]
      refine ⟨Nat.le_refl _, ?_, fun h => absurd h (by omega)⟩
      apply data_inj
      rw [Lib.extract_from_zero, ← data_size, List.take_length]
    · rw [jtx_append hb hc]
      refine ⟨by rw [ByteArray.size_append]; omega, ?_, fun hlt => ?_⟩
      · apply data_inj
        rw [Lib.extract_from_zero, show (jtx b ++ jtx c).data.toList = (jtx b).data.toList ++ (jtx c).data.toList by simp, ← data_size, List.take_left]
      · rw [get_at hlt]
        have h1 : 0 < (jtx c).size := by rw [jtx_size]; omega
        have := ByteArray.getElem_append_right (a := jtx b) (b := jtx c) (i := (jtx b).size) (Nat.le_refl _) (h := by rw [ByteArray.size_append]; omega)
        rw [this, ← get_at (by omega)]
        simp only [Nat.sub_self]
        unfold jtx
        rfl

/-- each below the other: the same -/
theorem below_both {s t : ByteArray} (h : below s t = true) : below t s = decide (s = t) := by
  obtain ⟨a, b, c, ha, hb, hac, hs, ht⟩ := below_parts h
  rw [below_of hb ha]
  by_cases hc : c = []
  · subst hc
    rw [List.append_nil] at hac
    subst hac
    rw [hs, ← ht, ht]
    simp
  · have hl : ¬ a.length ≤ b.length := by
      have : c.length ≠ 0 := by simpa using hc
      rw [hac, List.length_append]; omega
    have hne : s ≠ t := fun e => by
      rw [e, hb] at ha
      have := Option.some.inj ha
      rw [this] at hl; omega
    simp only [hl, decide_false, Bool.false_and, hne]

/-- a path with a name more -/
theorem jtx_snoc (l : List ByteArray) (t : ByteArray) : jtx (l ++ [t]) = if l = [] then sl ++ t else jtx l ++ sl ++ t := by
  have h1 : jtx [t] = sl ++ t := by
    apply data_inj
    rw [jtx_data]
    unfold jl
    rw [List.map_cons, List.map_nil, Lib.join_one]
    simp [sl]
  by_cases h : l = []
  · subst h; rw [if_pos rfl]; exact h1
  · rw [if_neg h, jtx_append h (by simp), h1, ByteArray.append_assoc]

/-- just if the text is a name, and there is room -/
theorem split_snoc {s : ByteArray} {l : List ByteArray} (h : split s = some l) (t : ByteArray) (hf : 47 ∉ t.data.toList) (h0 : 1 ≤ t.size) : split (jtx (l ++ [t])) = if right t = true ∧ (jtx (l ++ [t])).size ≤ 200 then some (l ++ [t]) else none := by
  obtain ⟨_, h2, _⟩ := split_some h
  have hsz : 2 ≤ (jtx (l ++ [t])).size := by
    rw [jtx_snoc]
    split
    · rw [ByteArray.size_append]; have : sl.size = 1 := rfl; omega
    · rw [ByteArray.size_append, ByteArray.size_append, jtx_size]; have : sl.size = 1 := rfl; omega
  rw [split_jtx (by simp) (fun x hx => ?_) hsz]
  · have : (l ++ [t]).all right = right t := by
      rw [List.all_append, List.all_eq_true.2 h2]; simp
    rw [this]
    by_cases hr : right t = true
    · by_cases hz : (jtx (l ++ [t])).size ≤ 200
      · rw [if_pos ⟨hz, hr⟩, if_pos ⟨hr, hz⟩]
      · rw [if_neg (fun x => hz x.1), if_neg (fun x => hz x.2)]
    · rw [if_neg (fun x => hr x.2), if_neg (fun x => hr x.1)]
  · rcases List.mem_append.1 hx with hx | hx
    · exact right_flat (h2 x hx)
    · simp at hx; rw [hx]; exact hf

/-- nothing behind the slash: no path, but for the root -/
theorem split_slash {s : ByteArray} {l : List ByteArray} (h : split s = some l) (t : ByteArray) (h0 : t.size = 0) : split (jtx (l ++ [t])) = if l = [] then some [] else none := by
  obtain ⟨_, h2, _⟩ := split_some h
  have ht : t.data.toList = [] := List.eq_nil_of_length_eq_zero (by rw [data_size]; exact h0)
  by_cases hl : l = []
  · subst hl
    rw [if_pos rfl]
    have : t = ⟨#[]⟩ := data_inj (by rw [ht])
    subst this
    decide +kernel
  · rw [if_neg hl]
    have hf : ∀ x ∈ l ++ [t], 47 ∉ x.data.toList := by
      intro x hx
      rcases List.mem_append.1 hx with hx | hx
      · exact right_flat (h2 x hx)
      · simp at hx; rw [hx, ht]; simp
    have hz : 2 ≤ (jtx (l ++ [t])).size := by
      rw [jtx_snoc, if_neg hl, ByteArray.size_append, ByteArray.size_append, jtx_size]; have : sl.size = 1 := rfl; omega
    rw [split_jtx (by simp) hf hz, if_neg]
    rintro ⟨_, ha⟩
    have := List.all_eq_true.1 ha t (by simp)
    have := right_pos this
    omega

end Nm
end Go.Proofs.YtbmbjedpeepnfaaDoor
