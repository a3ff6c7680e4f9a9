/-
  The document's list of blocks that are not free, and what 'set' makes of it. Plain. No condition.
-/
import Derived.Test.YtlecdappgpbnlaaRfPlain
namespace Go.Proofs.Ytlecdappgpbnlaa
namespace Rf

/-- what the loop of 'set' still puts behind what it has: of the list that is left, and whether block n is done with -/
def ins (n : Int) : List Int → Bool → List Int
  | [], done => if done then [] else [n]
  | k :: r, done => (if !done && decide (n ≤ k) then [n] else []) ++ (if k = n then [] else [k]) ++ ins n r (done || decide (n ≤ k))

theorem ins_done (n : Int) : ∀ l : List Int, (∀ k ∈ l, k ≠ n) → ins n l true = l
  | [], _ => rfl
  | k :: r, h => by
    have hk : k ≠ n := h k (by simp)
    have := ins_done n r (fun x hx => h x (by simp [hx]))
    unfold ins
    simp only [Bool.not_true, Bool.false_and, Bool.false_eq_true, if_false, if_neg hk, List.nil_append, Bool.true_or, this]
    rfl

theorem mem_ins (n : Int) : ∀ (l : List Int) (done : Bool) (k : Int), k ∈ ins n l done ↔ (k ∈ l ∧ k ≠ n) ∨ (k = n ∧ done = false)
  | [], done, k => by cases done <;> simp [ins]
  | x :: r, done, k => by
    unfold ins
    rw [List.mem_append, List.mem_append, mem_ins n r]
    by_cases hx : x = n <;> by_cases hn : n ≤ x <;> cases done <;> by_cases e : k = n <;> by_cases e2 : k = x <;> simp [hx, hn, e, e2] <;> first | omega | (intros; omega) | simp_all | skip

theorem ins_rising (n : Int) : ∀ (l : List Int) (done : Bool), l.Pairwise (· < ·) → (done = true → ∀ k ∈ l, n ≤ k) → (ins n l done).Pairwise (· < ·)
  | [], done, _, _ => by cases done <;> simp [ins]
  | x :: r, done, hp, hd => by
    have hx := (List.pairwise_cons.1 hp).1
    have hr := (List.pairwise_cons.1 hp).2
    have ih := ins_rising n r (done || decide (n ≤ x)) hr (fun h k hk => by
      have h1 := hx k hk
      simp only [Bool.or_eq_true, decide_eq_true_eq] at h
      rcases h with h | h
      · have := hd h k (by simp [hk]); exact this
      · omega)
    unfold ins
    have hafter : ∀ y ∈ ins n r (done || decide (n ≤ x)), (n ≤ x ∨ done = true → x < y) ∧ (x < n → x < y) := by
      intro y hy
      rcases (mem_ins n r _ y).1 hy with ⟨h1, _⟩ | ⟨h1, h2⟩
      · exact ⟨fun _ => hx y h1, fun _ => hx y h1⟩
      · simp only [Bool.or_eq_false_iff, decide_eq_false_iff_not] at h2
        refine ⟨fun h => ?_, fun h => by omega⟩
        rcases h with h | h
        · exact absurd h h2.2
        · rw [h2.1] at h; cases h
    refine List.pairwise_append.2 ⟨List.pairwise_append.2 ⟨by split <;> simp, by split <;> simp, fun a ha b hb => ?_⟩, ih, fun a ha b hb => ?_⟩
    · split at ha
      · rename_i hc
        simp only [Bool.and_eq_true, decide_eq_true_eq] at hc
        split at hb
        · cases hb
        · simp at ha hb; omega
      · cases ha
    · have hb2 := hafter b hb
      rcases List.mem_append.1 ha with ha | ha
      · split at ha
        · rename_i hc
          simp only [Bool.and_eq_true, decide_eq_true_eq] at hc
          have := hb2.1 (Or.inl hc.2)
          simp at ha; omega
        · cases ha
      · split at ha
        · cases ha
        · simp at ha
          subst ha
          by_cases h : n ≤ a
          · exact hb2.1 (Or.inl h)
          · exact hb2.2 (by omega)

theorem rising_ext {l m : List Int} (hl : l.Pairwise (· < ·)) (hm : m.Pairwise (· < ·)) (h : ∀ k, k ∈ l ↔ k ∈ m) : l = m := by
  have hp : l.Perm m := (List.perm_ext_iff_of_nodup (hl.imp (fun h => by omega)) (hm.imp (fun h => by omega))).2 h
  exact List.Perm.eq_of_pairwise (fun a b _ _ h1 h2 => by omega) hl hm hp

/-- the whole list, block n set to c -/
theorem ins_used (f : Int → Int) (n c : Int) (B : Nat) (h0 : 0 ≤ n) (hB : n < B) : ins n (used f B) (c == 0) = used (upd f n c) B := by
  by_cases hc : c = 0
  · subst hc
    refine rising_ext ?_ (used_rising _ _) (fun k => ?_)
    · have e : ∀ l : List Int, l.Pairwise (· < ·) → (ins n l true).Pairwise (· < ·) := by
        intro l
        induction l with
        | nil => intro _; simp [ins]
        | cons x r ih =>
          intro hp
          have hx := (List.pairwise_cons.1 hp).1
          have hr := ih (List.pairwise_cons.1 hp).2
          unfold ins
          simp only [Bool.not_true, Bool.false_and, Bool.false_eq_true, if_false, List.nil_append, Bool.true_or]
          refine List.pairwise_append.2 ⟨by split <;> simp, hr, fun a ha b hb => ?_⟩
          split at ha
          · cases ha
          · simp at ha
            subst ha
            rcases (mem_ins n r true b).1 hb with ⟨h1, _⟩ | ⟨_, h2⟩
            · exact hx b h1
            · cases h2
      exact e _ (used_rising f B)
    · rw [mem_ins, mem_used, mem_used]
      by_cases e : k = n
      · subst e; simp [upd]
      · rw [upd_other e]; simp [e]
  · have hb : (c == 0) = false := by rw [beq_eq_false_iff_ne]; exact hc
    rw [hb]
    refine rising_ext (ins_rising n _ false (used_rising f B) (fun h => by cases h)) (used_rising _ _) (fun k => ?_)
    rw [mem_ins, mem_used, mem_used]
    by_cases e : k = n
    · subst e; simp [upd, hc]; omega
    · rw [upd_other e]; simp [e]

/-- blocks and their counts, one behind the other -/
def prs (f : Int → Int) (l : List Int) : List (Int × Int) := l.map fun k => (k, f k)

/-- the least that is free: all of the list ahead of place i are 2, 3, .. -/
theorem used_front {f : Int → Int} {B : Nat} (h : ∀ k, f k ≠ 0 → 2 ≤ k) {i : Nat} (hi : i ≤ (used f B).length) (hf : ∀ j, j < i → (used f B)[j]? = some (2 + (j : Int))) :
    (∀ k : Int, 2 ≤ k → k < 2 + (i : Int) → f k ≠ 0) ∧ ((used f B)[i]? ≠ some (2 + (i : Int)) → 2 + (i : Int) < B → f (2 + (i : Int)) = 0) := by
  have hr := used_rising f B
  constructor
  · intro k h1 h2
    have hj := hf (k - 2).toNat (by omega)
    have hm := List.mem_of_getElem? hj
    rw [show 2 + ((k - 2).toNat : Int) = k by omega] at hm
    exact (mem_used.1 hm).2.2
  · intro hne hB
    by_cases e : f (2 + (i : Int)) = 0
    · exact e
    · exfalso
      have hm : (2 + (i : Int)) ∈ used f B := mem_used.2 ⟨by omega, hB, e⟩
      obtain ⟨j, hj⟩ := List.mem_iff_getElem?.1 hm
      have hjl := (List.getElem?_eq_some_iff.1 hj).1
      rcases Nat.lt_trichotomy j i with h1 | h1 | h1
      · rw [hf j h1] at hj
        have := Option.some.inj hj
        omega
      · subst h1; exact hne hj
      · have hil : i < (used f B).length := by omega
        have hx : (used f B)[i]? = some ((used f B)[i]'hil) := List.getElem?_eq_getElem hil
        have hlt : (used f B)[i]'hil < (used f B)[j]'hjl := List.pairwise_iff_getElem.1 hr i j hil hjl h1
        have hje : (used f B)[j]'hjl = 2 + (i : Int) := (List.getElem?_eq_some_iff.1 hj).2
        have hmx := h _ (mem_used.1 (List.getElem_mem hil)).2.2
        -- what stands at i is at least 2 + i: all ahead of it rise from 2
        have hge : 2 + (i : Int) ≤ (used f B)[i]'hil := by
          by_cases h0 : i = 0
          · subst h0; omega
          · have hp := hf (i - 1) (by omega)
            have hpl : i - 1 < (used f B).length := by omega
            have hpe : (used f B)[i - 1]'hpl = 2 + ((i - 1 : Nat) : Int) := (List.getElem?_eq_some_iff.1 hp).2
            have := List.pairwise_iff_getElem.1 hr (i - 1) i hpl hil (by omega)
            omega
        omega
end Rf
end Go.Proofs.Ytlecdappgpbnlaa
