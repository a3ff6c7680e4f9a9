/-
  Layer 4, plain: a block that is torn is one of both, or none; while one place is written the old one counts, or the new one. No program in sight. No condition.
-/
import Derived.Test.YteogkgjajhdhjaaSuperP
namespace Go.Proofs.Yteogkgjajhdhjaa

theorem lessSnoc : ∀ (x y : List UInt8) (c d : UInt8), x.length = y.length → Op.bytesLess (x ++ [c]) (y ++ [d]) = (Op.bytesLess x y || (x == y && decide (c < d)))
  | [], [], c, d, _ => by simp [Op.bytesLess]
  | a :: x, b :: y, c, d, h => by
    have ih := lessSnoc x y c d (by simpa using h)
    simp only [List.cons_append, Op.bytesLess, ih]
    by_cases hab : a = b
    · subst hab
      simp
    · have h1 : (a == b) = false := by simp [hab]
      simp [h1]
  | [], _ :: _, _, _, h => by simp at h
  | _ :: _, [], _, _, h => by simp at h

theorem beInj (n a b : Nat) (ha : a < 256 ^ n) (hb : b < 256 ^ n) (h : Pk.be a n = Pk.be b n) : a = b := by
  have := congrArg Pk.rd h
  rwa [Pk.rd_be, Pk.rd_be, Nat.mod_eq_of_lt ha, Nat.mod_eq_of_lt hb] at this

theorem beLess : ∀ (n a b : Nat), a < 256 ^ n → b < 256 ^ n → Op.bytesLess (Pk.be a n) (Pk.be b n) = decide (a < b)
  | 0, a, b, ha, hb => by
    simp at ha hb
    subst ha hb
    rfl
  | n + 1, a, b, ha, hb => by
    have ha' : a / 256 < 256 ^ n := by rw [Nat.pow_succ] at ha; omega
    have hb' : b / 256 < 256 ^ n := by rw [Nat.pow_succ] at hb; omega
    have ih := beLess n (a / 256) (b / 256) ha' hb'
    simp only [Pk.be]
    rw [lessSnoc _ _ _ _ (by rw [Pk.be_length, Pk.be_length]), ih]
    have hc : ∀ x : Nat, (UInt8.ofNat x).toNat = x % 256 := fun x => by simp
    by_cases hq : a / 256 = b / 256
    · have e1 : (Pk.be (a / 256) n == Pk.be (b / 256) n) = true := by rw [hq]; simp
      rw [e1]
      have : decide (UInt8.ofNat a < UInt8.ofNat b) = decide (a < b) := by
        rw [decide_eq_decide, UInt8.lt_iff_toNat_lt, hc, hc]
        omega
      rw [this]
      simp
      omega
    · have e1 : (Pk.be (a / 256) n == Pk.be (b / 256) n) = false := by
        rw [beq_eq_false_iff_ne]
        exact fun h => hq (beInj n _ _ ha' hb' h)
      rw [e1]
      simp
      omega


namespace Sp
theorem block_front {s : Su} (h : right s = true) : (block s).take 8 = Pk.be s.gen.toNat 8 ∧ (block s).drop 504 = Pk.be s.gen.toNat 8 := by
  have hfl := fields_length (right_bd h)
  obtain ⟨Z, hZ⟩ : ∃ Z, Z = List.replicate (504 - (fields s).length) (0 : UInt8) := ⟨_, rfl⟩
  have hfz : (fields s ++ Z).length = 504 := by rw [hZ, List.length_append, List.length_replicate]; omega
  constructor
  · unfold block fields head
    simp only [List.append_assoc]
    exact List.take_left' (Pk.be_length _ _)
  · unfold block
    rw [← hZ, ← hfz, List.drop_left]

theorem gen_eq {s t : Su} (hs : right s = true) (ht : right t = true) (h : Pk.be s.gen.toNat 8 = Pk.be t.gen.toNat 8) : s.gen = t.gen := by
  have b1 := right_bd hs
  have b2 := right_bd ht
  have g0 := b1.g0
  have g1 := b1.g1
  have k0 := b2.g0
  have k1 := b2.g1
  have := beInj 8 s.gen.toNat t.gen.toNat (show _ < 18446744073709551616 by omega) (show _ < 18446744073709551616 by omega) h
  omega

theorem block_inj {s t : Su} (hs : right s = true) (ht : right t = true) (h : block s = block t) : s = t := by
  have h1 := of_complete hs
  rw [h, of_complete ht] at h1
  exact (Option.some.inj h1).symm

theorem torn_take8 {A B : List UInt8} {k : Nat} (hA : A.length = 512) (hk : k ≤ 512) (h8 : 8 ≤ k) : (A.take k ++ B.drop k).take 8 = A.take 8 := by
  rw [List.take_append_of_le_length (by rw [List.length_take]; omega), List.take_take, Nat.min_eq_left h8]
theorem torn_drop504 {A B : List UInt8} {k : Nat} (hA : A.length = 512) (hk : k ≤ 504) : (A.take k ++ B.drop k).drop 504 = B.drop 504 := by
  rw [List.drop_append, List.drop_of_length_le (by rw [List.length_take]; omega), List.nil_append, List.length_take, List.drop_drop]
  congr 1
  omega
theorem torn_all {A B : List UInt8} {k : Nat} (hA : A.length = 512) (h : 504 ≤ k) (hk : k ≤ 512) (hd : (A.take k ++ B.drop k).drop 504 = A.drop 504) : A.take k ++ B.drop k = A := by
  have h1 : (A.take k ++ B.drop k).take 504 = A.take 504 := by
    rw [List.take_append_of_le_length (by rw [List.length_take]; omega), List.take_take, Nat.min_eq_left h]
  rw [← List.take_append_drop 504 (A.take k ++ B.drop k), h1, hd, List.take_append_drop]
theorem torn_rest {A B : List UInt8} {k : Nat} (hA : A.length = 512) (hk : k ≤ 8) (ht : (A.take k ++ B.drop k).take 8 = B.take 8) : A.take k ++ B.drop k = B := by
  have h1 : (A.take k ++ B.drop k).drop 8 = B.drop 8 := by
    rw [List.drop_append, List.drop_of_length_le (by rw [List.length_take]; omega), List.nil_append, List.length_take, List.drop_drop]
    congr 1
    omega
  rw [← List.take_append_drop 8 (A.take k ++ B.drop k), h1, ht, List.take_append_drop]

theorem torn_one {s t u : Su} (hs : right s = true) (ht : right t = true) (hne : s.gen ≠ t.gen) {k : Nat} (hk : k ≤ 512) (h : of ((block s).take k ++ (block t).drop k) = some u) : u = s ∨ u = t := by
  obtain ⟨hu, hb⟩ := of_sound h
  obtain ⟨f1, f2⟩ := block_front hu
  rw [hb] at f1 f2
  obtain ⟨s1, s2⟩ := block_front hs
  obtain ⟨t1, t2⟩ := block_front ht
  have hls := block_length (right_bd hs)
  have hlt := block_length (right_bd ht)
  by_cases h8 : 8 ≤ k
  · by_cases h504 : k ≤ 504
    · rw [torn_take8 hls hk h8, s1] at f1
      rw [torn_drop504 hls h504, t2] at f2
      exact absurd ((gen_eq hs hu f1).trans (gen_eq ht hu f2).symm) hne
    · rw [torn_take8 hls hk h8, s1] at f1
      left
      apply block_inj hu hs
      rw [hb]
      exact torn_all hls (by omega) hk (by rw [f2, s2, f1])
  · right
    rw [torn_drop504 hls (by omega), t2] at f2
    apply block_inj hu ht
    rw [hb]
    exact torn_rest hls (by omega) (by rw [f1, t1, f2])

theorem torn_none {s t : Su} (hs : right s = true) (ht : right t = true) {k : Nat} (hk : k ≤ 512) (h : of ((block s).take k ++ (block t).drop k) = none) : 0 < k ∧ k < 512 := by
  have hls := block_length (right_bd hs)
  have hlt := block_length (right_bd ht)
  refine ⟨Nat.pos_of_ne_zero fun h0 => ?_, Nat.lt_of_le_of_ne hk fun h5 => ?_⟩
  · subst h0
    simp only [List.take_zero, List.nil_append, List.drop_zero] at h
    rw [of_complete ht] at h
    cases h
  · subst h5
    rw [List.take_of_length_le (by omega), List.drop_of_length_le (by omega), List.append_nil, of_complete hs] at h
    cases h
/-- bytes that are not behind a number's are no greater number -/
theorem not_later {a : List UInt8} (ha : a.length = 8) {g : Nat} (hg : g < 18446744073709551616) (h : (Op.bytesLess a (Pk.be g 8) || a == Pk.be g 8) = true) : Pk.rd a ≤ g := by
  have h1 := Pk.be_rd a
  rw [ha] at h1
  have h2 : Pk.rd a < 18446744073709551616 := by have := Pk.rd_lt a; rw [ha] at this; exact this
  rw [← h1, beLess 8 _ _ h2 hg, Bool.or_eq_true] at h
  rcases h with h | h
  · have := of_decide_eq_true h
    omega
  · have := beInj 8 _ _ h2 hg (beq_iff_eq.1 h)
    omega

theorem torn_later {s n u : Su} (hs : right s = true) (hn : right n = true) (_hg : n.gen = s.gen + 1) {O : List UInt8} (_hO : O.length = 512) (hl : Pk.rd (O.drop 504) ≤ s.gen.toNat) {k : Nat} (hk : k ≤ 512)
    (h : of ((block n).take k ++ O.drop k) = some u) (hgt : s.gen < u.gen) : u = n := by
  obtain ⟨hu, hb⟩ := of_sound h
  obtain ⟨f1, f2⟩ := block_front hu
  rw [hb] at f1 f2
  obtain ⟨n1, n2⟩ := block_front hn
  have hln := block_length (right_bd hn)
  have hbu := right_bd hu
  have hbs := right_bd hs
  have g1 := hbu.g1
  have g0 := hbs.g0
  by_cases h504 : k ≤ 504
  · rw [torn_drop504 hln h504] at f2
    rw [f2, Pk.rd_be, Nat.mod_eq_of_lt (show _ < 18446744073709551616 by omega)] at hl
    omega
  · rw [torn_take8 hln hk (by omega), n1] at f1
    apply block_inj hu hn
    rw [hb]
    exact torn_all hln (by omega) hk (by rw [f2, n2, f1])
end Sp
end Go.Proofs.Yteogkgjajhdhjaa
