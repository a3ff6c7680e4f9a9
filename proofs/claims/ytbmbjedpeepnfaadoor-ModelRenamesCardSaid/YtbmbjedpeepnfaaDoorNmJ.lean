/-
  Paths and their names: names put together with slashes, and a text cut at its slashes, are each other's. Plain. No condition.
-/
import Derived.Test.YtbmbjedpeepnfaaDoorNmC
import Derived.Lib.Join
import Derived.Lib.IndexMore
import Derived.Lib.CountLaws
namespace Go.Proofs.YtbmbjedpeepnfaaDoor
open Go.RowKit
namespace Nm

theorem occ_hit {s : List UInt8} {i : Nat} (h : Lib.occAt s [47] i = true) : s = s.take i ++ 47 :: s.drop (i + 1) := by
  unfold Lib.occAt at h
  have hp := List.isPrefixOf_iff_prefix.1 h
  obtain ⟨t, ht⟩ := hp
  have h1 : s.drop (i + 1) = t := by
    rw [← List.drop_drop, ← ht]; rfl
  rw [h1]
  conv => lhs; rw [← List.take_append_drop i s, ← ht]
  rfl

theorem joinTail_ne {r : List (List UInt8)} (h : r ≠ []) : Lib.joinTail [47] r = 47 :: Lib.join r [47] := by
  cases r with
  | nil => exact absurd rfl h
  | cons y r => rw [Lib.join_cons]; simp [Lib.joinTail]

theorem splitK_ne (k : Nat) (s : List UInt8) : Lib.splitK [47] 0 k s ≠ [] := by
  cases k with
  | zero => simp [Lib.splitK]
  | succ k => unfold Lib.splitK; split <;> simp

/-- the pieces put together again -/
theorem join_splitK : ∀ (k : Nat) (s : List UInt8), Lib.join (Lib.splitK [47] 0 k s) [47] = s
  | 0, s => Lib.join_one s _
  | k + 1, s => by
    unfold Lib.splitK
    rcases Lib.index_spec s [47] with ⟨h, _⟩ | ⟨i, h, _, ho, _⟩
    · rw [h]; exact Lib.join_one s _
    · have hb : (Lib.index s [47] == -1) = false := by rw [h, beq_eq_false_iff_ne]; omega
      rw [hb]
      simp only [Bool.false_eq_true, if_false]
      rw [Lib.join_cons, joinTail_ne (splitK_ne _ _), join_splitK k, h]
      exact (occ_hit ho).symm

theorem join_append {b c : List (List UInt8)} (hb : b ≠ []) (hc : c ≠ []) : Lib.join (b ++ c) [47] = Lib.join b [47] ++ 47 :: Lib.join c [47] := by
  cases b with
  | nil => exact absurd rfl hb
  | cons x b =>
    rw [List.cons_append, Lib.join_cons, Lib.join_cons, List.append_assoc, ← joinTail_ne hc]
    simp [Lib.joinTail]

theorem index_none47 {x : List UInt8} (h : 47 ∉ x) : Lib.index x [47] = -1 := by
  rcases Lib.index_spec x [47] with ⟨h1, _⟩ | ⟨i, _, _, ho, _⟩
  · exact h1
  · refine absurd ?_ h
    rw [occ_hit ho]
    simp

theorem index_hit47 {x r : List UInt8} (h : 47 ∉ x) : Lib.index (x ++ 47 :: r) [47] = x.length := by
  refine Lib.index_first (by simp) ?_ ?_
  · unfold Lib.occAt; rw [List.drop_left' rfl]; simp
  · intro j hj
    unfold Lib.occAt
    rw [List.drop_append_of_le_length (by omega)]
    cases hd : x.drop j with
    | nil => have := congrArg List.length hd; simp at this; omega
    | cons a t =>
      have : a ∈ x := List.mem_of_mem_drop (by rw [hd]; exact List.mem_cons_self)
      have ha : a ≠ 47 := fun e => h (e ▸ this)
      have hb : ((47 : UInt8) == a) = false := by rw [beq_eq_false_iff_ne]; exact ha.symm
      simp only [List.cons_append, List.isPrefixOf_cons_cons, hb, Bool.false_and]

/-- what is put together is cut again where it was -/
theorem splitK_join : ∀ (l : List (List UInt8)), l ≠ [] → (∀ x ∈ l, 47 ∉ x) → Lib.splitK [47] 0 (Lib.count (Lib.join l [47]) [47]) (Lib.join l [47]) = l
  | [], h, _ => absurd rfl h
  | [x], _, h => by
    rw [Lib.join_one, Lib.count_miss (index_none47 (h x (by simp)))]
    rfl
  | x :: y :: r, _, h => by
    have hx := h x (by simp)
    have ih := splitK_join (y :: r) (by simp) (fun z hz => h z (by simp [hz]))
    rw [show x :: y :: r = [x] ++ (y :: r) from rfl, join_append (by simp) (by simp), Lib.join_one]
    have hi := index_hit47 (r := Lib.join (y :: r) [47]) hx
    have hd : (x ++ 47 :: Lib.join (y :: r) [47]).drop (x.length + 1) = Lib.join (y :: r) [47] := by
      rw [List.drop_append]; simp
    rw [Lib.count_hit (by simp) hi, Nat.add_comm 1]
    unfold Lib.splitK
    have hb : (Lib.index (x ++ 47 :: Lib.join (y :: r) [47]) [47] == -1) = false := by rw [hi, beq_eq_false_iff_ne]; omega
    rw [hb]
    simp only [Bool.false_eq_true, if_false, hi, Int.toNat_natCast, Nat.add_zero, List.take_left', List.length_cons, List.length_nil, Nat.zero_add]
    rw [hd, ih]
    rfl

/-- names with slashes between them -/
def jl (l : List ByteArray) : List UInt8 := Lib.join (l.map (·.data.toList)) [47]
/-- a path of names -/
def jtx (l : List ByteArray) : ByteArray := sl ++ tx (jl l)

theorem tx_data (l : List UInt8) : (tx l).data.toList = l := by simp [tx]
theorem data_tx (s : ByteArray) : tx s.data.toList = s := by cases s; simp [tx]
theorem data_size (s : ByteArray) : s.data.toList.length = s.size := by rw [Array.length_toList]; rfl
theorem data_inj {s t : ByteArray} (h : s.data.toList = t.data.toList) : s = t := by rw [← data_tx s, h, data_tx]
theorem jtx_data (l : List ByteArray) : (jtx l).data.toList = 47 :: jl l := by simp [jtx, sl, tx]
theorem jtx_size (l : List ByteArray) : (jtx l).size = 1 + (jl l).length := by rw [← data_size, jtx_data]; simp; omega

theorem map_data_inj : ∀ {l m : List ByteArray}, l.map (·.data.toList) = m.map (·.data.toList) → l = m
  | [], [], _ => rfl
  | [], _ :: _, h => by simp at h
  | _ :: _, [], h => by simp at h
  | x :: l, y :: m, h => by
    simp only [List.map_cons, List.cons.injEq] at h
    rw [data_inj h.1, map_data_inj h.2]

theorem cuts_data (s : ByteArray) : (cuts s).map (·.data.toList) = Lib.splitK [47] 0 (Lib.count s.data.toList [47]) s.data.toList := Lib.splitB_data sl 0 _ s

theorem jl_cuts (s : ByteArray) : jl (cuts s) = s.data.toList := by
  unfold jl; rw [cuts_data]; exact join_splitK _ _

theorem cuts_jl {l : List ByteArray} (h : l ≠ []) (hl : ∀ x ∈ l, 47 ∉ x.data.toList) : cuts (tx (jl l)) = l := by
  apply map_data_inj
  rw [cuts_data, tx_data]
  refine splitK_join _ (by simpa using h) ?_
  intro x hx
  obtain ⟨y, hy, rfl⟩ := List.mem_map.1 hx
  exact hl y hy

theorem right_flat {x : ByteArray} (h : right x = true) : 47 ∉ x.data.toList := by
  unfold right at h
  simp only [Bool.and_eq_true] at h
  have h2 := h.2
  unfold allOk at h2
  rw [List.all_eq_true] at h2
  intro hm
  have := h2 47 hm
  simp [okB] at this

theorem right_pos {x : ByteArray} (h : right x = true) : 1 ≤ x.size := by
  unfold right at h
  simp only [Bool.and_eq_true, decide_eq_true_eq] at h
  exact h.1.1.1.1.1

theorem right_le {x : ByteArray} (h : right x = true) : x.size ≤ 18 := by
  unfold right at h
  simp only [Bool.and_eq_true, decide_eq_true_eq] at h
  exact h.1.1.1.1.2

theorem prefix47 {s : List UInt8} (h : Lib.hasPrefix s [47] = true) : s = 47 :: s.drop 1 := by
  unfold Lib.hasPrefix at h
  obtain ⟨t, ht⟩ := List.isPrefixOf_iff_prefix.1 h
  rw [← ht]; rfl

theorem jl_nil : jl [] = [] := rfl

/-- what a path's names are -/
theorem split_some {s : ByteArray} {l : List ByteArray} (h : split s = some l) : s = jtx l ∧ (∀ x ∈ l, right x = true) ∧ s.size ≤ 200 := by
  unfold split at h
  split at h
  · rename_i hp
    have hs := prefix47 hp.1
    split at h
    · rename_i h1
      obtain rfl := Option.some.inj h
      refine ⟨data_inj ?_, (fun x hx => by cases hx), hp.2⟩
      rw [jtx_data, jl_nil, hs]
      have : s.data.toList.length = 1 := by rw [data_size, h1]
      have : s.data.toList.drop 1 = [] := List.drop_eq_nil_of_le (by omega)
      rw [this]
    · split at h
      · rename_i hall
        obtain rfl := Option.some.inj h
        refine ⟨data_inj ?_, (fun x hx => List.all_eq_true.1 hall x hx), hp.2⟩
        rw [jtx_data, jl_cuts, tx_data]
        exact hs
      · cases h
  · cases h

theorem split_nil : split (jtx []) = some [] := by decide +kernel

theorem split_jtx {l : List ByteArray} (h : l ≠ []) (hf : ∀ x ∈ l, 47 ∉ x.data.toList) (h2 : 2 ≤ (jtx l).size) : split (jtx l) = if (jtx l).size ≤ 200 ∧ l.all right = true then some l else none := by
  have hp : Lib.hasPrefix (jtx l).data.toList [47] = true := by rw [jtx_data]; simp [Lib.hasPrefix]
  have hd : tx ((jtx l).data.toList.drop 1) = tx (jl l) := by rw [jtx_data]; rfl
  unfold split
  by_cases h200 : (jtx l).size ≤ 200
  · rw [if_pos ⟨hp, h200⟩, if_neg (by omega), hd, cuts_jl h hf]
    by_cases ha : l.all right = true
    · rw [if_pos ha, if_pos ⟨h200, ha⟩]
    · rw [if_neg ha, if_neg (fun x => ha x.2)]
  · rw [if_neg (fun x => h200 x.2), if_neg (fun x => h200 x.1)]

theorem jl_append {b c : List ByteArray} (hb : b ≠ []) (hc : c ≠ []) : jl (b ++ c) = jl b ++ 47 :: jl c := by
  unfold jl
  rw [List.map_append]
  exact join_append (by simpa using hb) (by simpa using hc)

theorem jtx_append {b c : List ByteArray} (hb : b ≠ []) (hc : c ≠ []) : jtx (b ++ c) = jtx b ++ jtx c := by
  apply data_inj
  have e : (jtx b ++ jtx c).data.toList = (jtx b).data.toList ++ (jtx c).data.toList := by simp
  rw [e, jtx_data, jl_append hb hc, jtx_data, jtx_data]
  rfl

theorem jtx_take_le (l : List ByteArray) (k : Nat) : (jtx (l.take k)).size ≤ (jtx l).size := by
  by_cases h1 : l.take k = []
  · rw [h1, jtx_size, jtx_size, jl_nil]; simp
  · by_cases h2 : l.drop k = []
    · have : l.take k = l := by
        conv => rhs; rw [← List.take_append_drop k l, h2, List.append_nil]
      rw [this]; exact Nat.le_refl _
    · have := jtx_append h1 h2
      rw [List.take_append_drop] at this
      rw [this, ByteArray.size_append]; omega

theorem jl_pos {l : List ByteArray} (h : l ≠ []) (hr : ∀ x ∈ l, right x = true) : 1 ≤ (jl l).length := by
  cases l with
  | nil => exact absurd rfl h
  | cons x l =>
    have := right_pos (hr x (by simp))
    unfold jl
    rw [List.map_cons, Lib.join_cons, List.length_append, data_size]
    omega

/-- names that are right and have room make a path -/
theorem split_right {l : List ByteArray} (hr : ∀ x ∈ l, right x = true) (h200 : (jtx l).size ≤ 200) : split (jtx l) = some l := by
  by_cases h : l = []
  · subst h; exact split_nil
  · have h1 := jl_pos h hr
    rw [split_jtx h (fun x hx => right_flat (hr x hx)) (by rw [jtx_size]; omega), if_pos ⟨h200, List.all_eq_true.2 hr⟩]

theorem split_take {s : ByteArray} {l : List ByteArray} (h : split s = some l) (k : Nat) : split (jtx (l.take k)) = some (l.take k) := by
  obtain ⟨h1, h2, h3⟩ := split_some h
  have := jtx_take_le l k
  exact split_right (fun x hx => h2 x (List.mem_of_mem_take hx)) (by rw [← h1] at this; omega)

end Nm
end Go.Proofs.YtbmbjedpeepnfaaDoor
