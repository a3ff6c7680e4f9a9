/-
  Counts of blocks as a function; how many are not nought. Plain Lean, no program in sight. No condition.
-/
namespace Go.Proofs.Ytlecdappgpbnlaa
namespace Rf

def upd (f : Int → Int) (k v : Int) : Int → Int := fun i => if i = k then v else f i

theorem upd_same (f : Int → Int) (k v : Int) : upd f k v k = v := by simp [upd]
theorem upd_other {f : Int → Int} {k v i : Int} (h : i ≠ k) : upd f k v i = f i := by simp [upd, h]

/-- how many of the numbers below n are not nought -/
def cntN (f : Int → Int) : Nat → Nat
  | 0 => 0
  | n + 1 => cntN f n + if f (n : Int) = 0 then 0 else 1

theorem cntN_le (f : Int → Int) (n : Nat) : cntN f n ≤ n := by
  induction n with
  | zero => exact Nat.le_refl _
  | succ n ih => unfold cntN; split <;> omega

theorem cntN_congr {f g : Int → Int} (n : Nat) (h : ∀ i : Int, 0 ≤ i → i < n → (f i = 0 ↔ g i = 0)) : cntN f n = cntN g n := by
  induction n with
  | zero => rfl
  | succ n ih =>
    unfold cntN
    rw [ih (fun i h0 h1 => h i h0 (by omega))]
    by_cases hf : f (n : Int) = 0
    · rw [if_pos hf, if_pos ((h n (by omega) (by omega)).1 hf)]
    · rw [if_neg hf, if_neg (fun hg => hf ((h n (by omega) (by omega)).2 hg))]

theorem cntN_upd_out (f : Int → Int) (k v : Int) (n : Nat) (h : k < 0 ∨ (n : Int) ≤ k) : cntN (upd f k v) n = cntN f n :=
  cntN_congr n fun i h0 h1 => by rw [upd_other (by omega)]

theorem cntN_upd (f : Int → Int) (k v : Int) (n : Nat) (h0 : 0 ≤ k) (h1 : k < n) : cntN (upd f k v) n + (if f k = 0 then 0 else 1) = cntN f n + (if v = 0 then 0 else 1) := by
  induction n with
  | zero => omega
  | succ n ih =>
    unfold cntN
    by_cases hk : k = n
    · subst hk
      rw [cntN_upd_out _ _ _ _ (Or.inr (Int.le_refl _)), upd_same]
      omega
    · have := ih (by omega)
      rw [upd_other (fun e => hk e.symm)]
      omega

theorem cntN_zero {f : Int → Int} (n : Nat) (h : ∀ i : Int, 0 ≤ i → i < n → f i = 0) : cntN f n = 0 := by
  induction n with
  | zero => rfl
  | succ n ih => unfold cntN; rw [ih (fun i a b => h i a (by omega)), if_pos (h n (by omega) (by omega))]

theorem cntN_all {f : Int → Int} (n : Nat) (hn : 2 ≤ n) (h0 : f 0 = 0) (h1 : f 1 = 0) (h : ∀ i : Int, 2 ≤ i → i < n → f i ≠ 0) : cntN f n = n - 2 := by
  induction n with
  | zero => omega
  | succ n ih =>
    by_cases e : n = 1
    · subst e; simp [cntN, h0, h1]
    · unfold cntN
      rw [ih (by omega) (fun i a b => h i a (by omega)), if_neg (h n (by omega) (by omega))]
      omega

/-- the numbers below n that are not nought, rising -/
def used (f : Int → Int) : Nat → List Int
  | 0 => []
  | n + 1 => used f n ++ (if f (n : Int) = 0 then [] else [(n : Int)])

theorem used_length (f : Int → Int) (n : Nat) : (used f n).length = cntN f n := by
  induction n with
  | zero => rfl
  | succ n ih => unfold used cntN; rw [List.length_append, ih]; split <;> rfl

theorem mem_used {f : Int → Int} {n : Nat} {k : Int} : k ∈ used f n ↔ 0 ≤ k ∧ k < n ∧ f k ≠ 0 := by
  induction n with
  | zero => simp [used]; omega
  | succ n ih =>
    unfold used
    rw [List.mem_append, ih]
    by_cases h : f (n : Int) = 0
    · rw [if_pos h]
      simp only [List.not_mem_nil, or_false]
      constructor
      · rintro ⟨a, b, c⟩; exact ⟨a, by omega, c⟩
      · rintro ⟨a, b, c⟩
        refine ⟨a, ?_, c⟩
        by_cases e : k = n
        · subst e; exact absurd h c
        · omega
    · rw [if_neg h]
      simp only [List.mem_singleton]
      constructor
      · rintro (⟨a, b, c⟩ | rfl)
        · exact ⟨a, by omega, c⟩
        · exact ⟨by omega, by omega, h⟩
      · rintro ⟨a, b, c⟩
        by_cases e : k = n
        · exact Or.inr e
        · exact Or.inl ⟨a, by omega, c⟩

theorem used_rising (f : Int → Int) (n : Nat) : (used f n).Pairwise (· < ·) := by
  induction n with
  | zero => exact List.Pairwise.nil
  | succ n ih =>
    unfold used
    refine List.pairwise_append.2 ⟨ih, by split <;> simp, fun a ha b hb => ?_⟩
    have h1 := (mem_used.1 ha).2.1
    split at hb
    · cases hb
    · rw [List.mem_singleton] at hb; omega

theorem used_nodup (f : Int → Int) (n : Nat) : (used f n).Nodup := (used_rising f n).imp (fun h => by omega)

theorem cntN_mono {f g : Int → Int} (n : Nat) (h : ∀ k, f k ≠ 0 → g k ≠ 0) : cntN f n ≤ cntN g n := by
  induction n with
  | zero => exact Nat.le_refl _
  | succ n ih =>
    unfold cntN
    by_cases hf : f (n : Int) = 0
    · rw [if_pos hf]; split <;> omega
    · rw [if_neg hf, if_neg (h _ hf)]; omega

theorem cntN_eq {f g : Int → Int} (n : Nat) (h : ∀ k, f k ≠ 0 → g k ≠ 0) (he : cntN f n = cntN g n) : ∀ k : Int, 0 ≤ k → k < n → g k ≠ 0 → f k ≠ 0 := by
  induction n with
  | zero => intro k a b; omega
  | succ n ih =>
    unfold cntN at he
    have hm := cntN_mono n h
    intro k a b hg
    by_cases e : k = n
    · subst e
      intro hf
      rw [if_pos hf, if_neg hg] at he
      omega
    · refine ih ?_ k a (by omega) hg
      by_cases hf : f (n : Int) = 0
      · rw [if_pos hf] at he; split at he <;> omega
      · rw [if_neg hf, if_neg (h _ hf)] at he; omega

/-- what holds of the counts f of B blocks, all below 'low' being taken -/
structure Good (f : Int → Int) (B low : Int) : Prop where
  b0 : 2 ≤ B
  b1 : B ≤ 4294967296
  l0 : 2 ≤ low
  l1 : low ≤ B
  inn : ∀ k, f k ≠ 0 → 2 ≤ k ∧ k < B
  pos : ∀ k, 0 ≤ f k
  used : ∀ k, 2 ≤ k → k < low → f k ≠ 0

theorem Good.out {f : Int → Int} {B low k : Int} (h : Good f B low) (hk : k < 2 ∨ B ≤ k) : f k = 0 := by
  by_cases e : f k = 0
  · exact e
  · have := h.inn k e; omega

theorem Good.set {f : Int → Int} {B low k v : Int} (h : Good f B low) (h2 : 2 ≤ k) (hB : k < B) (hv : 0 < v) : Good (upd f k v) B low := by
  refine ⟨h.b0, h.b1, h.l0, h.l1, fun i hi => ?_, fun i => ?_, fun i a b => ?_⟩
  · by_cases e : i = k
    · omega
    · rw [upd_other e] at hi; exact h.inn i hi
  · by_cases e : i = k
    · subst e; rw [upd_same]; omega
    · rw [upd_other e]; exact h.pos i
  · by_cases e : i = k
    · subst e; rw [upd_same]; omega
    · rw [upd_other e]; exact h.used i a b

theorem Good.zero {f : Int → Int} {B low k : Int} (h : Good f B low) (h2 : 2 ≤ k) (hB : k < B) : Good (upd f k 0) B (if k < low then k else low) := by
  refine ⟨h.b0, h.b1, by have := h.l0; split <;> omega, by have := h.l1; split <;> omega, fun i hi => ?_, fun i => ?_, fun i a b => ?_⟩
  · by_cases e : i = k
    · omega
    · rw [upd_other e] at hi; exact h.inn i hi
  · by_cases e : i = k
    · subst e; rw [upd_same]; omega
    · rw [upd_other e]; exact h.pos i
  · have : i ≠ k ∧ i < low := by split at b <;> omega
    rw [upd_other this.1]; exact h.used i a this.2

theorem Good.low {f : Int → Int} {B low : Int} (h : Good f B low) {l : Int} (h0 : 2 ≤ l) (h1 : l ≤ B) (hu : ∀ k, 2 ≤ k → k < l → f k ≠ 0) : Good f B l :=
  ⟨h.b0, h.b1, h0, h1, h.inn, h.pos, hu⟩

theorem Good.new {B : Int} (h0 : 2 ≤ B) (h1 : B ≤ 4294967296) : Good (fun _ => 0) B 2 :=
  ⟨h0, h1, Int.le_refl _, h0, fun _ h => absurd rfl h, fun _ => Int.le_refl _, fun k a b => by omega⟩

theorem Good.same {f g : Int → Int} {B low : Int} (h : Good f B low) (e : ∀ k, f k = g k) : Good g B low := by
  obtain rfl : f = g := funext e
  exact h
end Rf
end Go.Proofs.Ytlecdappgpbnlaa
