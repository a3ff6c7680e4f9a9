/-
  Layer 4, plain: while one place is written the old superblock counts, or the new one. No condition.
-/
import Derived.Test.YteogkgjajhdhjaaSuperL
import Derived.Test.YteogkgjajhdhjaaSuperQ
namespace Go.Proofs.Yteogkgjajhdhjaa

theorem flips {s n : Sp.Su} (hs : Sp.right s = true) (hn : Sp.right n = true) (hg : n.gen = s.gen + 1) {O : List UInt8} (hO : O.length = 512) (hl : Pk.rd (O.drop 504) ≤ s.gen.toNat) {k : Nat} (hk : k ≤ 512) {la lb : List UInt8}
    (h : s.gen % 2 = 0 ∧ la = Sp.block s ∧ lb = (Sp.block n).take k ++ O.drop k ∨ s.gen % 2 = 1 ∧ la = (Sp.block n).take k ++ O.drop k ∧ lb = Sp.block s) :
    (chooseS la lb = s ∨ chooseS la lb = n) ∧ chooseE la lb = 0 ∧ (k = 512 → chooseS la lb = n) := by
  have bs := Sp.right_bd hs
  have bn := Sp.right_bd hn
  have gs := bs.g0
  have gn := bn.g0
  have hln := Sp.block_length bn
  have hfull : k = 512 → (Sp.block n).take k ++ O.drop k = Sp.block n := fun e => by
    subst e
    rw [List.take_of_length_le (by omega), List.drop_of_length_le (by omega), List.append_nil]
  obtain ⟨X, hX⟩ : ∃ X, X = (Sp.block n).take k ++ O.drop k := ⟨_, rfl⟩
  rw [← hX] at h hfull
  have key : (chooseS la lb = s ∧ k ≠ 512) ∨ chooseS la lb = n := by
    cases ho : Sp.of X with
    | none =>
      left
      have hno : ∀ b p, bestOf b p X = b := fun b p => bestOf_no (fun a1 => by rw [(ofS_none ho).2] at a1; exact absurd a1 (by decide))
      refine ⟨?_, fun e => by rw [hfull e, Sp.of_complete hn] at ho; cases ho⟩
      rw [chooseS_eq]
      rcases h with ⟨h1, rfl, rfl⟩ | ⟨h1, rfl, rfl⟩
      · rw [bestOf_block hs, if_pos ⟨h1, by simp only; omega⟩, hno]
      · rw [hno, bestOf_block hs, if_pos ⟨h1, by simp only; omega⟩]
    | some u =>
      obtain ⟨hu, hb⟩ := Sp.of_sound ho
      by_cases hgt : s.gen < u.gen
      · right
        have hun : u = n := Sp.torn_later hs hn hg hO hl hk (by rw [← hX]; exact ho) hgt
        rw [hun] at hb
        rw [chooseS_eq]
        rcases h with ⟨h1, rfl, rfl⟩ | ⟨h1, rfl, rfl⟩
        · rw [bestOf_block hs, if_pos ⟨h1, by simp only; omega⟩, ← hb, bestOf_block hn, if_pos ⟨by omega, by omega⟩]
        · rw [← hb, bestOf_block hn, if_pos ⟨by omega, by simp only; omega⟩, bestOf_block hs, if_neg (fun hc => by have := hc.2; omega)]
      · left
        refine ⟨?_, fun e => by rw [hfull e, Sp.of_complete hn] at ho; cases ho; omega⟩
        rw [← hb] at h
        rw [chooseS_eq]
        rcases h with ⟨h1, rfl, rfl⟩ | ⟨h1, rfl, rfl⟩
        · rw [bestOf_block hs, if_pos ⟨h1, by simp only; omega⟩, bestOf_block hu, if_neg (fun hc => hgt hc.2)]
        · rw [bestOf_block hu]
          by_cases hc : u.gen % 2 = 0 ∧ (0 : Int) < u.gen
          · rw [if_pos hc, bestOf_block hs, if_pos ⟨h1, by omega⟩]
          · rw [if_neg hc, bestOf_block hs, if_pos ⟨h1, by simp only; omega⟩]
  refine ⟨key.imp And.left id, ?_, fun e => key.elim (fun h => absurd e h.2) id⟩
  rcases key with h | h
  · exact chooseE_pos h.1 (by omega)
  · exact chooseE_pos h (by omega)
end Go.Proofs.Yteogkgjajhdhjaa
