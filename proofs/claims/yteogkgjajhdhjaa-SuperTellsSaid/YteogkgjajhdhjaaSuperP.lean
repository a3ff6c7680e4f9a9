/-
  Layer 4, plain: a block is read as s just if s may be and the block is its. No program in sight. No condition.
-/
import Derived.Test.YteogkgjajhdhjaaSuperC
import Derived.Test.YteogkgjajhdhjaaPackCuts
namespace Go.Proofs.Yteogkgjajhdhjaa
namespace Sp

theorem of_sound {b : List UInt8} {s : Su} (h : of b = some s) : right s = true ∧ block s = b := by
  unfold of at h
  split at h
  case isFalse => cases h
  rename_i hc
  obtain ⟨h512, hsign, hbad, hno, hgen, hr⟩ := hc
  cases h
  refine ⟨hr, ?_⟩
  have hbd := right_bd hr
  have hch : chain (readAll b).1.commit [] (readAll b).1.snaps = true := by
    have := hr
    simp only [right, Bool.and_eq_true] at this
    exact this.2
  obtain ⟨r0, hr0⟩ : ∃ r, r = (⟨b.take 504, false⟩ : Pk.Rd) := ⟨_, rfl⟩
  obtain ⟨r1, hr1⟩ : ∃ r, r = r0.skip 8 := ⟨_, rfl⟩
  obtain ⟨r2, hr2⟩ : ∃ r, r = r1.skip 4 := ⟨_, rfl⟩
  obtain ⟨r3, hr3⟩ : ∃ r, r = r2.skip 4 := ⟨_, rfl⟩
  obtain ⟨r4, hr4⟩ : ∃ r, r = r3.skip 4 := ⟨_, rfl⟩
  obtain ⟨r5, hr5⟩ : ∃ r, r = r4.skip 8 := ⟨_, rfl⟩
  obtain ⟨r6, hr6⟩ : ∃ r, r = r5.skip 1 := ⟨_, rfl⟩
  obtain ⟨n, hn⟩ : ∃ n, n = Pk.rd (r5.take 1) := ⟨_, rfl⟩
  obtain ⟨p, hp⟩ : ∃ p, p = readSnaps n r6 := ⟨_, rfl⟩
  have e : readAll b = (⟨num (r0.take 8), Pk.rd (r2.take 4), Pk.rd (r3.take 4), num (r4.take 8), p.1⟩, p.2) := by
    rw [hp, hn, hr6, hr5, hr4, hr3, hr2, hr1, hr0]
    rfl
  rw [e] at hbad hno hgen hbd hch ⊢
  simp only at hbad hno hgen hch ⊢
  rw [← hr0, ← hr1] at hsign
  rw [hp] at hbad hch
  obtain ⟨i1, i2, i3⟩ := readSnaps_split _ n r6 [] hbad hch
  rw [hr6] at i2
  obtain ⟨b5, t5, l5⟩ := good_split r5 1 1 rfl i2
  rw [hr5] at b5
  obtain ⟨b4, t4, l4⟩ := good_split r4 8 8 rfl b5
  rw [hr4] at b4
  obtain ⟨b3, t3, l3⟩ := good_split r3 4 4 rfl b4
  rw [hr3] at b3
  obtain ⟨b2, t2, l2⟩ := good_split r2 4 4 rfl b3
  rw [hr2] at b2
  obtain ⟨b1, t1, l1⟩ := good_split r1 4 4 rfl b2
  rw [hr1] at b1
  obtain ⟨b0, t0, l0⟩ := good_split r0 8 8 rfl b1
  rw [← hr1] at t0
  rw [← hr2] at t1
  rw [← hr3] at t2
  rw [← hr4] at t3
  rw [← hr5] at t4
  rw [← hr6] at t5
  rw [← hp] at i1 i3
  have g0 := hbd.g0
  have c0 := hbd.c0
  simp only at g0 c0
  have hz : p.2.b = List.replicate p.2.b.length 0 := by
    have h2 : p.2.b.all (· == 0) = true := by
      simp only [Pk.Rd.noughts, Bool.and_eq_true] at hno
      exact hno.2
    exact List.eq_replicate_of_mem (fun x hx => by have := List.all_eq_true.1 h2 x hx; simpa using this)
  have hf : fields ⟨num (r0.take 8), Pk.rd (r2.take 4), Pk.rd (r3.take 4), num (r4.take 8), p.1⟩ ++ p.2.b = b.take 504 := by
    have e0 : b.take 504 = r0.b := by rw [hr0]
    rw [e0, t0, t1, t2, t3, t4, t5, i3]
    simp only [fields, head]
    rw [be_num _ 8 l0 (by omega), be_int _ 4 l2, be_int _ 4 l3, be_num _ 8 l4 c0, i1, hn, ← hsign]
    have e5 : Pk.be (Pk.rd (r5.take 1)) 1 = r5.take 1 := by
      have := Pk.be_rd (r5.take 1)
      rwa [l5] at this
    rw [e5]
    simp only [List.append_assoc]
  have hlen : (fields ⟨num (r0.take 8), Pk.rd (r2.take 4), Pk.rd (r3.take 4), num (r4.take 8), p.1⟩).length + p.2.b.length = 504 := by
    have := congrArg List.length hf
    rw [List.length_append, List.length_take] at this
    omega
  unfold block
  rw [show 504 - (fields ⟨num (r0.take 8), Pk.rd (r2.take 4), Pk.rd (r3.take 4), num (r4.take 8), p.1⟩).length = p.2.b.length by omega, ← hz, hf]
  have hd : Pk.be (num (r0.take 8)).toNat 8 = b.drop 504 := by
    rw [← hgen]
    exact be_num _ 8 (by rw [List.length_drop]; omega) (by omega)
  simp only
  rw [hd, List.take_append_drop]

theorem num_be (v : Int) (h0 : 0 ≤ v) (h1 : v ≤ 281474976710655) : num (Pk.be v.toNat 8) = v := by
  unfold num
  rw [Pk.rd_be, Nat.mod_eq_of_lt (by omega), if_pos (by omega)]
  omega

theorem readSnaps_whole (commit : Int) (hc : commit ≤ 281474976710655) (Z : List UInt8) : ∀ l : List Sn, (∀ x ∈ l, SnOk commit x) → readSnaps l.length ⟨l.flatMap snapB ++ Z, false⟩ = (l, ⟨Z, false⟩)
  | [], _ => by simp [readSnaps]
  | x :: l, h => by
    obtain ⟨h1, h2, h3, h4, h5⟩ := h x (by simp)
    have ih := readSnaps_whole commit hc Z l (fun y hy => h y (by simp [hy]))
    have hnl := nm_len x
    have eB : (x :: l).flatMap snapB ++ Z = UInt8.ofNat (nm x).length :: (nm x ++ (Pk.be x.root.toNat 4 ++ (Pk.be x.commit.toNat 8 ++ (l.flatMap snapB ++ Z)))) := by
      simp [snapB, List.append_assoc]
    obtain ⟨w1, w2⟩ := whole_text (nm x) (by omega) (Pk.be x.root.toNat 4 ++ (Pk.be x.commit.toNat 8 ++ (l.flatMap snapB ++ Z)))
    obtain ⟨g1, g2⟩ := rd_good (Pk.be x.root.toNat 4) (Pk.be x.commit.toNat 8 ++ (l.flatMap snapB ++ Z)) 4 (by rw [Pk.be_length]; rfl)
    obtain ⟨g3, g4⟩ := rd_good (Pk.be x.commit.toNat 8) (l.flatMap snapB ++ Z) 8 (by rw [Pk.be_length]; rfl)
    rw [List.length_cons, readSnaps, eB]
    simp only [Bool.false_eq_true, if_false, w1, w2, g1, g2, g3, g4, ih]
    have e1 : txt (nm x) = x.name := txt_data x.name
    have e2 : ((Pk.rd (Pk.be x.root.toNat 4) : Nat) : Int) = x.root := by rw [Pk.rd_be, Nat.mod_eq_of_lt (by omega)]; omega
    rw [e1, e2, num_be _ h4 (by omega)]

theorem of_complete {s : Su} (h : right s = true) : of (block s) = some s := by
  have hbd := right_bd h
  obtain ⟨g0, g1, r0, r1, n0, n1, c0, c1, hl, hx⟩ := hbd
  have hfl := fields_length (right_bd h)
  have hbl := block_length (right_bd h)
  obtain ⟨Z, hZ⟩ : ∃ Z, Z = List.replicate (504 - (fields s).length) (0 : UInt8) := ⟨_, rfl⟩
  have hfz : (fields s ++ Z).length = 504 := by rw [hZ, List.length_append, List.length_replicate]; omega
  have ht : (block s).take 504 = fields s ++ Z := by
    unfold block
    rw [← hZ, ← hfz, List.take_left]
  have hd : (block s).drop 504 = Pk.be s.gen.toNat 8 := by
    unfold block
    rw [← hZ, ← hfz, List.drop_left]
  have hfe : fields s ++ Z = Pk.be s.gen.toNat 8 ++ (sign ++ (Pk.be s.root.toNat 4 ++ (Pk.be s.next.toNat 4 ++ (Pk.be s.commit.toNat 8 ++ (Pk.be s.snaps.length 1 ++ (s.snaps.flatMap snapB ++ Z)))))) := by
    simp [fields, head, List.append_assoc]
  obtain ⟨a0, d0⟩ := rd_good (Pk.be s.gen.toNat 8) (sign ++ (Pk.be s.root.toNat 4 ++ (Pk.be s.next.toNat 4 ++ (Pk.be s.commit.toNat 8 ++ (Pk.be s.snaps.length 1 ++ (s.snaps.flatMap snapB ++ Z)))))) 8 (by rw [Pk.be_length]; rfl)
  obtain ⟨a1, d1⟩ := rd_good sign (Pk.be s.root.toNat 4 ++ (Pk.be s.next.toNat 4 ++ (Pk.be s.commit.toNat 8 ++ (Pk.be s.snaps.length 1 ++ (s.snaps.flatMap snapB ++ Z))))) 4 rfl
  obtain ⟨a2, d2⟩ := rd_good (Pk.be s.root.toNat 4) (Pk.be s.next.toNat 4 ++ (Pk.be s.commit.toNat 8 ++ (Pk.be s.snaps.length 1 ++ (s.snaps.flatMap snapB ++ Z)))) 4 (by rw [Pk.be_length]; rfl)
  obtain ⟨a3, d3⟩ := rd_good (Pk.be s.next.toNat 4) (Pk.be s.commit.toNat 8 ++ (Pk.be s.snaps.length 1 ++ (s.snaps.flatMap snapB ++ Z))) 4 (by rw [Pk.be_length]; rfl)
  obtain ⟨a4, d4⟩ := rd_good (Pk.be s.commit.toNat 8) (Pk.be s.snaps.length 1 ++ (s.snaps.flatMap snapB ++ Z)) 8 (by rw [Pk.be_length]; rfl)
  obtain ⟨a5, d5⟩ := rd_good (Pk.be s.snaps.length 1) (s.snaps.flatMap snapB ++ Z) 1 (by rw [Pk.be_length]; rfl)
  have en : Pk.rd (Pk.be s.snaps.length 1) = s.snaps.length := by rw [Pk.rd_be, Nat.mod_eq_of_lt (by omega)]
  have er : ((Pk.rd (Pk.be s.root.toNat 4) : Nat) : Int) = s.root := by rw [Pk.rd_be, Nat.mod_eq_of_lt (by omega)]; omega
  have ex : ((Pk.rd (Pk.be s.next.toNat 4) : Nat) : Int) = s.next := by rw [Pk.rd_be, Nat.mod_eq_of_lt (by omega)]; omega
  have es := readSnaps_whole s.commit c1 Z s.snaps hx
  have eg := num_be s.gen (by omega) g1
  have ec := num_be s.commit c0 c1
  have eA : readAll (block s) = (s, ⟨Z, false⟩) := by
    unfold readAll
    rw [ht, hfe]
    simp only [a0, d0, d1, a2, d2, a3, d3, a4, d4, a5, d5, en, er, ex, es, eg, ec]
  unfold of
  rw [if_pos, eA]
  refine ⟨hbl, ?_, ?_, ?_, ?_, ?_⟩
  · rw [ht, hfe, d0, a1]
  · rw [eA]
  · rw [eA, hZ]; simp [Pk.Rd.noughts]
  · rw [eA, hd, eg]
  · rw [eA]; exact h

theorem of_iff (b : List UInt8) (s : Su) : of b = some s ↔ right s = true ∧ block s = b :=
  ⟨of_sound, fun ⟨h1, h2⟩ => by rw [← h2]; exact of_complete h1⟩
end Sp
end Go.Proofs.Yteogkgjajhdhjaa
