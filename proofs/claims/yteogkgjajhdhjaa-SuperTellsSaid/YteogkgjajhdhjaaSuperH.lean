/-
  Layer 4: Choose of package super: the one of two that counts. No condition but that the bytes can be read.
-/
import Derived.Test.YteogkgjajhdhjaaSuperE
namespace Go.Proofs.Yteogkgjajhdhjaa
open Go.RowKit

theorem of_any (v : Value) (l : List UInt8) (w : World) (h : RdV w v l.length 1 (bv l)) : Calls Try.prog 55 #[v] w (OfOut l w) := by
  by_cases h512 : l.length = 512
  · exact of_walk v l w h h512
  · exact of_short v l w h h512

theorem of_right {l : List UInt8} {s : Sp.Su} (h : Sp.of l = some s) : Sp.right s = true := by
  unfold Sp.of at h
  split at h
  · rename_i hc
    cases h
    exact hc.2.2.2.2.2
  · cases h

theorem ofS_gen (l : List UInt8) : 0 ≤ (ofS l).gen ∧ (ofS l).gen ≤ 281474976710655 := by
  unfold ofS
  cases h : Sp.of l with
  | none => simp
  | some s =>
    have := Sp.right_bd (of_right h)
    have h0 := this.g0
    have h1 := this.g1
    simp
    omega

/-- is it taken in place of the best one so far? -/
def takenB (best : Sp.Su) (place : Int) (l : List UInt8) : Bool := decide (ofE l = 0 ∧ (ofS l).gen % 2 = place ∧ best.gen < (ofS l).gen)
def bestOf (best : Sp.Su) (place : Int) (l : List UInt8) : Sp.Su := if takenB best place l then ofS l else best
def bestAt (la lb : List UInt8) : Nat → Sp.Su
  | 0 => ⟨0, 0, 0, 0, []⟩
  | 1 => bestOf ⟨0, 0, 0, 0, []⟩ 0 la
  | _ => bestOf (bestOf ⟨0, 0, 0, 0, []⟩ 0 la) 1 lb
def chooseS (la lb : List UInt8) : Sp.Su := bestAt la lb 2
def chooseE (la lb : List UInt8) : Int := if (chooseS la lb).gen = 0 then 12 else 0

theorem bestAt_gen (la lb : List UInt8) (k : Nat) : 0 ≤ (bestAt la lb k).gen := by
  have h1 : ∀ b p l, 0 ≤ b.gen → 0 ≤ (bestOf b p l).gen := fun b p l h => by unfold bestOf; split; exact (ofS_gen l).1; exact h
  match k with
  | 0 => exact Int.le_refl 0
  | 1 => exact h1 _ _ _ (Int.le_refl 0)
  | k + 2 => exact h1 _ _ _ (h1 _ _ _ (Int.le_refl 0))

def ChooseOut (la lb : List UInt8) (w : World) (e : Ending) (w' : World) : Prop := ∃ v, e = .returned (.tuple #[v, .int .i64 (chooseE la lb)]) ∧ SuN w.heap.size w' v (chooseS la lb) ∧ Keep [] w w'

theorem choose_zero {la lb : List UInt8} (h : (chooseS la lb).gen = 0) : chooseS la lb = ⟨0, 0, 0, 0, []⟩ := by
  have key : ∀ b p l, (bestOf b p l).gen = 0 → 0 ≤ b.gen → bestOf b p l = b := fun b p l h hb => by
    unfold bestOf takenB at h ⊢
    split
    · rename_i hc
      rw [if_pos hc] at h
      simp at hc
      omega
    · rfl
  unfold chooseS bestAt at h ⊢
  have h1 := key _ _ _ h (bestAt_gen la lb 1)
  have h2 : (bestOf ⟨0, 0, 0, 0, []⟩ 0 la).gen = 0 := by rw [h1] at h; exact h
  rw [h1]
  exact key _ _ _ h2 (Int.le_refl 0)

/-- the loop of Choose: the best so far lies at b6; W0 is the world at its begin -/
structure ChAt (W0 wr : World) (b6 : Nat) (s : Sp.Su) (ao : Option Addr) (c : Nat) : Prop where
  keep : Keep [b6] W0 wr
  best : Blk wr b6 [.int .i64 s.gen, .int .i64 s.root, .int .i64 s.next, .int .i64 s.commit, .slice ao s.snaps.length c] 59
  rd : RdV wr (.slice ao s.snaps.length c) s.snaps.length 3 (Sp.scells s.snaps)
  le : s.snaps.length ≤ 9223372036854775807
  fp : ∀ x ∈ fpOf (.slice ao s.snaps.length c), W0.heap.size ≤ x

theorem ChAt.moved {W0 wr w' : World} {b6 : Nat} {s : Sp.Su} {ao : Option Addr} {c : Nat} (h : ChAt W0 wr b6 s ao c) (k : Keep [] wr w') : ChAt W0 w' b6 s ao c :=
  ⟨h.keep.trans k (by simp), h.best.keep k (by simp), h.rd.keep k (by simp), h.le, h.fp⟩

theorem ChAt.store {W0 wr : World} {b6 : Nat} {s : Sp.Su} {ao : Option Addr} {c : Nat} (h : ChAt W0 wr b6 s ao c) (hb : b6 < W0.heap.size) {t : Sp.Su} {ao' : Option Addr} {c' : Nat} (rd : RdV wr (.slice ao' t.snaps.length c') t.snaps.length 3 (Sp.scells t.snaps)) (le : t.snaps.length ≤ 9223372036854775807)
    (fp : ∀ x ∈ fpOf (.slice ao' t.snaps.length c'), W0.heap.size ≤ x) :
    ChAt W0 (((((wr.setCell ⟨b6, 0, none⟩ (.int .i64 t.gen)).setCell ⟨b6, 1, none⟩ (.int .i64 t.root)).setCell ⟨b6, 2, none⟩ (.int .i64 t.next)).setCell ⟨b6, 3, none⟩ (.int .i64 t.commit)).setCell ⟨b6, 4, none⟩ (.slice ao' t.snaps.length c')) b6 t ao' c' := by
  have k : Keep [b6] wr (((((wr.setCell ⟨b6, 0, none⟩ (.int .i64 t.gen)).setCell ⟨b6, 1, none⟩ (.int .i64 t.root)).setCell ⟨b6, 2, none⟩ (.int .i64 t.next)).setCell ⟨b6, 3, none⟩ (.int .i64 t.commit)).setCell ⟨b6, 4, none⟩ (.slice ao' t.snaps.length c')) :=
    (((((Keep.refl _ _).setCell (Or.inl (by simp)) _).setCell (Or.inl (by simp)) _).setCell (Or.inl (by simp)) _).setCell (Or.inl (by simp)) _).setCell (Or.inl (by simp)) _
  exact ⟨h.keep.trans k (fun x hx => Or.inl hx), ((((h.best.set 0 _).set 1 _).set 2 _).set 3 _).set 4 _, rd.keep k (fun x hx hb' => by rw [List.mem_singleton] at hb'; have := fp x hx; omega), le, fp⟩

theorem bestOf_no {best : Sp.Su} {p : Int} {l : List UInt8} (h : ofE l = 0 → (ofS l).gen % 2 = p → best.gen < (ofS l).gen → False) : bestOf best p l = best := by
  unfold bestOf takenB
  rw [if_neg]
  rw [decide_eq_true_eq]
  exact fun ⟨h1, h2, h3⟩ => h h1 h2 h3
theorem bestOf_yes {best : Sp.Su} {p : Int} {l : List UInt8} (h1 : ofE l = 0) (h2 : (ofS l).gen % 2 = p) (h3 : best.gen < (ofS l).gen) : bestOf best p l = ofS l := by
  unfold bestOf takenB
  rw [if_pos]
  exact decide_eq_true ⟨h1, h2, h3⟩

set_option maxRecDepth 100000 in
set_option maxHeartbeats 3200000 in
theorem choose_any (va vb : Value) (la lb : List UInt8) (w : World) (ha : RdV w va la.length 1 (bv la)) (hb : RdV w vb lb.length 1 (bv lb)) : Calls Try.prog 60 #[va, vb] w (ChooseOut la lb w) := by
  obtain ⟨aoA, cA, eA⟩ : ∃ ao c, va = .slice ao la.length c := by obtain ⟨_, ao, c, e, _⟩ := ha; exact ⟨ao, c, e⟩
  obtain ⟨aoB, cB, eB⟩ : ∃ ao c, vb = .slice ao lb.length c := by obtain ⟨_, ao, c, e, _⟩ := hb; exact ⟨ao, c, e⟩
  subst eA eB
  obtain ⟨W0, hW0⟩ : ∃ W, W = ((w.alloc (.cells #[.int .i64 0, .int .i64 0, .int .i64 0, .int .i64 0, .slice none 0 0] 59)).alloc (.cells #[.int .i64 0, .int .i64 0, .int .i64 0, .int .i64 0, .slice none 0 0] 59)).alloc (.cells #[.slice aoA la.length cA, .slice aoB lb.length cB] 27) := ⟨_, rfl⟩
  have K0 : Keep [] w W0 := by rw [hW0]; exact (((Keep.refl _ _).alloc _).alloc _).alloc _
  have hsz : W0.heap.size = w.heap.size + 1 + 1 + 1 := by rw [hW0]; simp
  have B4 : Blk W0 w.heap.size [.int .i64 0, .int .i64 0, .int .i64 0, .int .i64 0, .slice none 0 0] 59 := by rw [hW0]; exact ((Blk.new' _ _ _).alloc _).alloc _
  have B6 : Blk W0 (w.heap.size + 1) [.int .i64 0, .int .i64 0, .int .i64 0, .int .i64 0, .slice none 0 0] 59 := by
    have := (Blk.new' (w.alloc (.cells #[.int .i64 0, .int .i64 0, .int .i64 0, .int .i64 0, .slice none 0 0] 59)) [.int .i64 0, .int .i64 0, .int .i64 0, .int .i64 0, .slice none 0 0] 59).alloc (.cells #[.slice aoA la.length cA, .slice aoB lb.length cB] 27)
    rw [hW0]
    simpa using this
  have B13 : Blk W0 (w.heap.size + 1 + 1) [.slice aoA la.length cA, .slice aoB lb.length cB] 27 := by
    have := Blk.new' ((w.alloc (.cells #[.int .i64 0, .int .i64 0, .int .i64 0, .int .i64 0, .slice none 0 0] 59)).alloc (.cells #[.int .i64 0, .int .i64 0, .int .i64 0, .int .i64 0, .slice none 0 0] 59)) [.slice aoA la.length cA, .slice aoB lb.length cB] 27
    rw [hW0]
    simpa using this
  have HW := Lib.hid hW0
  clear hW0
  go_enter Try.func60, Try.ntmps60
  go_wp2
  rw [← HW.out]
  obtain ⟨b4, hb4⟩ : ∃ b, b = w.heap.size := ⟨_, rfl⟩
  obtain ⟨b6, hb6⟩ : ∃ b, b = w.heap.size + 1 := ⟨_, rfl⟩
  obtain ⟨b13, hb13⟩ : ∃ b, b = w.heap.size + 1 + 1 := ⟨_, rfl⟩
  rw [← hb13] at B13 ⊢
  rw [← hb6] at B6 ⊢
  rw [← hb4] at B4 ⊢
  have HB := Lib.hid (And.intro hb4 (And.intro hb6 (And.intro hb13 hsz)))
  clear hb4 hb6 hb13 hsz
  go_loopw [15] (fun i wr => ∃ (k : Nat) (ao : Option Addr) (c : Nat), k ≤ 2 ∧ i = .int .i64 k ∧ ChAt W0 wr b6 (bestAt la lb k) ao c) (fun i _ => 2 - (intOf i).toNat)
  case atStart => exact ⟨0, none, 0, by omega, rfl, ⟨Keep.refl _ _, B6, ⟨rfl, none, 0, rfl, Nat.le_refl _, fun _ => ⟨rfl, rfl⟩, fun a ha => by cases ha⟩, Nat.zero_le _, fun x hx => by simp [fpOf] at hx⟩⟩
  case round =>
    obtain ⟨k, ao, c, hk, rfl, C⟩ := hrel
    have D13 := B13.keep C.keep (by have := HB.out; simp; omega)
    have D4 := B4.keep C.keep (by have := HB.out; simp; omega)
    have KW := K0.trans C.keep (fun x hx => by have := HB.out; simp at hx; omega)
    have hbg := bestAt_gen la lb k
    have HNEXT := Lib.hid (show ∀ l, (k = 0 ∧ l = la ∨ k = 1 ∧ l = lb) → bestAt la lb (k + 1) = bestOf (bestAt la lb k) k l from fun l h => by rcases h with ⟨rfl, rfl⟩ | ⟨rfl, rfl⟩ <;> rfl)
    by_cases hlt : k < 2
    · have hl : ∃ (l : List UInt8) (v : Value), (k = 0 ∧ l = la ∨ k = 1 ∧ l = lb) ∧ wr.cell? ⟨b13, k, none⟩ = some v ∧ RdV wr v l.length 1 (bv l) := by
        rcases (show k = 0 ∨ k = 1 by omega) with rfl | rfl
        · exact ⟨la, _, Or.inl ⟨rfl, rfl⟩, D13.cell 0, ha.keep KW (by simp)⟩
        · exact ⟨lb, _, Or.inr ⟨rfl, rfl⟩, D13.cell 1, hb.keep KW (by simp)⟩
      obtain ⟨l, v, hkl, c13, rdv⟩ := hl
      have HN := Lib.hid (HNEXT.out l hkl)
      obtain ⟨best, hbest⟩ : ∃ b, b = bestAt la lb k := ⟨_, rfl⟩
      rw [← hbest] at C hbg HN
      have HBE := Lib.hid hbest
      clear hbest HNEXT hkl ha hb
      have hltI : (k : Int) < 2 := by omega
      go_wp2_with fail
      refine (of_any v l wr rdv).mono ?_
      rintro e w1 ⟨sv, rfl, ⟨ao', c', rfl, rd', le', fp'⟩, k1⟩
      have hg := ofS_gen l
      have C1 := C.moved k1
      have hb6 := C1.best.lt
      obtain ⟨t, ht⟩ : ∃ t, t = ofS l := ⟨_, rfl⟩
      obtain ⟨ec, hec⟩ : ∃ x, x = ofE l := ⟨_, rfl⟩
      rw [← ht] at rd' le' fp' hg
      rw [← ht, ← hec]
      have HT := Lib.hid ht
      have HE := Lib.hid hec
      have q0 := C1.best.cell 0
      simp only [List.getElem?_cons_zero] at q0
      have hsz2 := C.keep.size
      have h6W : b6 < W0.heap.size := by have := HB.out; omega
      clear C ht hec c13 k1 rdv D13 D4 KW B4 B13 B6
      by_cases h1 : ec = 0
      · have h1b : (ec == 0) = true := by simpa using h1
        have H1 := Lib.hid h1
        clear h1
        by_cases h2 : t.gen % 2 = (k : Int)
        · have h2b : (t.gen % 2 == (k : Int)) = true := by simpa using h2
          have H2 := Lib.hid h2
          clear h2
          by_cases h3 : best.gen < t.gen
          · have HB2 := Lib.hid (bestOf_yes (best := best) (p := (k : Int)) (l := l) (by rw [← HE.out]; exact H1.out) (by rw [← HT.out]; exact H2.out) (by rw [← HT.out]; exact h3))
            have p0 := C1.best.cell 0
            have p1 := C1.best.cell 1
            have p2 := C1.best.cell 2
            have p3 := C1.best.cell 3
            have p4 := C1.best.cell 4
            simp only [List.getElem?_cons_zero, List.getElem?_cons_succ] at p0 p1 p2 p3 p4
            have f0 := C1.best.free 0
            have f1 := C1.best.free 1
            have f2 := C1.best.free 2
            have f3 := C1.best.free 3
            have f4 := C1.best.free 4
            have R0 : ∀ x0, (w1.setCell ⟨b6, 0, none⟩ x0).cell? ⟨b6, 0, none⟩ = some x0 := fun x0 => (C1.best.set 0 x0).cell 0
            have R1 : ∀ x0 x1, ((w1.setCell ⟨b6, 0, none⟩ x0).setCell ⟨b6, 1, none⟩ x1).cell? ⟨b6, 1, none⟩ = some x1 := fun x0 x1 => ((C1.best.set 0 x0).set 1 x1).cell 1
            have R2 : ∀ x0 x1 x2, (((w1.setCell ⟨b6, 0, none⟩ x0).setCell ⟨b6, 1, none⟩ x1).setCell ⟨b6, 2, none⟩ x2).cell? ⟨b6, 2, none⟩ = some x2 := fun x0 x1 x2 => (((C1.best.set 0 x0).set 1 x1).set 2 x2).cell 2
            have R3 : ∀ x0 x1 x2 x3, ((((w1.setCell ⟨b6, 0, none⟩ x0).setCell ⟨b6, 1, none⟩ x1).setCell ⟨b6, 2, none⟩ x2).setCell ⟨b6, 3, none⟩ x3).cell? ⟨b6, 3, none⟩ = some x3 := fun x0 x1 x2 x3 => ((((C1.best.set 0 x0).set 1 x1).set 2 x2).set 3 x3).cell 3
            have R4 : ∀ x0 x1 x2 x3 x4, (((((w1.setCell ⟨b6, 0, none⟩ x0).setCell ⟨b6, 1, none⟩ x1).setCell ⟨b6, 2, none⟩ x2).setCell ⟨b6, 3, none⟩ x3).setCell ⟨b6, 4, none⟩ x4).cell? ⟨b6, 4, none⟩ = some x4 := fun x0 x1 x2 x3 x4 => (((((C1.best.set 0 x0).set 1 x1).set 2 x2).set 3 x3).set 4 x4).cell 4
            go_wp2
            go_roundw
            case rel => exact ⟨k + 1, ao', c', by omega, by go_num, by rw [HN.out, HB2.out, ← HT.out]; exact (C1.store h6W rd' le' (fun x hx => Nat.le_trans hsz2 (fp' x hx))).moved ((Keep.refl _ _).alloc _)⟩
            case measure => simp [intOf]; omega
          · have HB2 := Lib.hid (bestOf_no (best := best) (p := (k : Int)) (l := l) (fun a1 a2 a3 => by rw [← HE.out] at a1; rw [← HT.out] at a2 a3; exact h3 a3))
            have h3' : t.gen ≤ best.gen := by omega
            go_wp2
            go_roundw
            case rel => exact ⟨k + 1, ao, c, by omega, by go_num, by rw [HN.out, HB2.out]; exact C1.moved ((Keep.refl _ _).alloc _)⟩
            case measure => simp [intOf]; omega
        · have h2b : (t.gen % 2 == (k : Int)) = false := by rw [beq_eq_false_iff_ne]; exact h2
          have HB2 := Lib.hid (bestOf_no (best := best) (p := (k : Int)) (l := l) (fun a1 a2 a3 => by rw [← HE.out] at a1; rw [← HT.out] at a2 a3; exact h2 a2))
          clear h2
          go_wp2
          go_roundw
          case rel => exact ⟨k + 1, ao, c, by omega, by go_num, by rw [HN.out, HB2.out]; exact C1.moved ((Keep.refl _ _).alloc _)⟩
          case measure => simp [intOf]; omega
      · have h1b : (ec == 0) = false := by rw [beq_eq_false_iff_ne]; exact h1
        have HB2 := Lib.hid (bestOf_no (best := best) (p := (k : Int)) (l := l) (fun a1 a2 a3 => by rw [← HE.out] at a1; rw [← HT.out] at a2 a3; exact h1 a1))
        clear h1
        go_wp2
        go_roundw
        case rel => exact ⟨k + 1, ao, c, by omega, by go_num, by rw [HN.out, HB2.out]; exact C1.moved ((Keep.refl _ _).alloc _)⟩
        case measure => simp [intOf]; omega
    · obtain rfl : k = 2 := by omega
      obtain ⟨S, hS⟩ : ∃ S, S = chooseS la lb := ⟨_, rfl⟩
      have hS2 : bestAt la lb 2 = S := hS.symm
      rw [hS2] at C hbg
      have HS := Lib.hid hS
      clear hS hS2 HNEXT ha hb B4 B6 B13 D13
      have q0 := C.best.cell 0
      have q1 := C.best.cell 1
      have q2 := C.best.cell 2
      have q3 := C.best.cell 3
      have q4 := C.best.cell 4
      simp only [List.getElem?_cons_zero, List.getElem?_cons_succ] at q0 q1 q2 q3 q4
      have h4w : w.heap.size ≤ b4 := by have := HB.out; omega
      have h46 : b4 < W0.heap.size := by have := HB.out; omega
      have hW0 : w.heap.size ≤ W0.heap.size := K0.size
      have p0 := D4.cell 0
      have p1 := D4.cell 1
      have p2 := D4.cell 2
      have p3 := D4.cell 3
      have p4 := D4.cell 4
      simp only [List.getElem?_cons_zero, List.getElem?_cons_succ] at p0 p1 p2 p3 p4
      have f0 := D4.free 0
      have f1 := D4.free 1
      have f2 := D4.free 2
      have f3 := D4.free 3
      have f4 := D4.free 4
      have R0 : ∀ x0, (wr.setCell ⟨b4, 0, none⟩ x0).cell? ⟨b4, 0, none⟩ = some x0 := fun x0 => (D4.set 0 x0).cell 0
      have R1 : ∀ x0 x1, ((wr.setCell ⟨b4, 0, none⟩ x0).setCell ⟨b4, 1, none⟩ x1).cell? ⟨b4, 1, none⟩ = some x1 := fun x0 x1 => ((D4.set 0 x0).set 1 x1).cell 1
      have R2 : ∀ x0 x1 x2, (((wr.setCell ⟨b4, 0, none⟩ x0).setCell ⟨b4, 1, none⟩ x1).setCell ⟨b4, 2, none⟩ x2).cell? ⟨b4, 2, none⟩ = some x2 := fun x0 x1 x2 => (((D4.set 0 x0).set 1 x1).set 2 x2).cell 2
      have R3 : ∀ x0 x1 x2 x3, ((((wr.setCell ⟨b4, 0, none⟩ x0).setCell ⟨b4, 1, none⟩ x1).setCell ⟨b4, 2, none⟩ x2).setCell ⟨b4, 3, none⟩ x3).cell? ⟨b4, 3, none⟩ = some x3 := fun x0 x1 x2 x3 => ((((D4.set 0 x0).set 1 x1).set 2 x2).set 3 x3).cell 3
      have R4 : ∀ x0 x1 x2 x3 x4, (((((wr.setCell ⟨b4, 0, none⟩ x0).setCell ⟨b4, 1, none⟩ x1).setCell ⟨b4, 2, none⟩ x2).setCell ⟨b4, 3, none⟩ x3).setCell ⟨b4, 4, none⟩ x4).cell? ⟨b4, 4, none⟩ = some x4 := fun x0 x1 x2 x3 x4 => (((((D4.set 0 x0).set 1 x1).set 2 x2).set 3 x3).set 4 x4).cell 4
      have KF : ∀ x0 x1 x2 x3 x4, Keep [] w (((((wr.setCell ⟨b4, 0, none⟩ x0).setCell ⟨b4, 1, none⟩ x1).setCell ⟨b4, 2, none⟩ x2).setCell ⟨b4, 3, none⟩ x3).setCell ⟨b4, 4, none⟩ x4) := fun x0 x1 x2 x3 x4 =>
        ((((KW.setCell (Or.inr h4w) _).setCell (Or.inr h4w) _).setCell (Or.inr h4w) _).setCell (Or.inr h4w) _).setCell (Or.inr h4w) _
      have KG : ∀ x0 x1 x2 x3 x4, Keep [b4] wr (((((wr.setCell ⟨b4, 0, none⟩ x0).setCell ⟨b4, 1, none⟩ x1).setCell ⟨b4, 2, none⟩ x2).setCell ⟨b4, 3, none⟩ x3).setCell ⟨b4, 4, none⟩ x4) := fun x0 x1 x2 x3 x4 =>
        (((((Keep.refl _ _).setCell (Or.inl (by simp)) _).setCell (Or.inl (by simp)) _).setCell (Or.inl (by simp)) _).setCell (Or.inl (by simp)) _).setCell (Or.inl (by simp)) _
      by_cases h0 : S.gen = 0
      · have h0b : (S.gen == 0) = true := by simpa using h0
        have eS : chooseS la lb = ⟨0, 0, 0, 0, []⟩ := choose_zero (by rw [← HS.out]; exact h0)
        have eE : chooseE la lb = 12 := by unfold chooseE; rw [eS]; rfl
        have ES := Lib.hid eS
        have EE := Lib.hid eE
        clear h0 eS eE
        go_wp2
        refine bodyPost_ret (v := .tuple #[.agg #[.int .i64 0, .int .i64 0, .int .i64 0, .int .i64 0, .slice none 0 0], .int .i64 12]) ?_ rfl ?_
        · simp [results, Try.results60, go_sem, R0, R1, R2, R3, R4]
        · unfold ChooseOut
          rw [ES.out, EE.out]
          exact ⟨_, rfl, SuN.zero _ _, KF _ _ _ _ _⟩
      · have h0b : (S.gen == 0) = false := by rw [beq_eq_false_iff_ne]; exact h0
        have eE : chooseE la lb = 0 := by unfold chooseE; rw [← HS.out, if_neg h0]
        have EE := Lib.hid eE
        clear h0 eE
        go_wp2
        refine bodyPost_ret (v := .tuple #[.agg #[.int .i64 S.gen, .int .i64 S.root, .int .i64 S.next, .int .i64 S.commit, .slice ao S.snaps.length c], .int .i64 0]) ?_ rfl ?_
        · simp [results, Try.results60, go_sem, R0, R1, R2, R3, R4]
        · unfold ChooseOut
          rw [← HS.out, EE.out]
          exact ⟨_, rfl, ⟨ao, c, rfl, C.rd.keep (KG _ _ _ _ _) (fun x hx hb' => by rw [List.mem_singleton] at hb'; have := C.fp x hx; omega), C.le, fun x hx => Nat.le_trans hW0 (C.fp x hx)⟩, KF _ _ _ _ _⟩
end Go.Proofs.Yteogkgjajhdhjaa
