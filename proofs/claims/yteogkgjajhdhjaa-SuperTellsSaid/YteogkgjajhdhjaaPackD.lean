/-
  The reader of package pack: what each of its methods answers, and does to it. No condition but that it is a reader.
-/
import Derived.Test.YteogkgjajhdhjaaPackC
namespace Go.Proofs.Yteogkgjajhdhjaa
open Go.RowKit

/-- a reader at block br whose slice is v -/
structure IsR (w : World) (br : Nat) (v : Value) (st : Pk.Rd) : Prop where
  blk : Blk w br [v, .bool st.bad] 89
  rd : RdV w v st.b.length 1 (bv st.b)
  apart : br ∉ fpOf v
  le : st.b.length ≤ 1000000000

theorem IsR.keep {F : List Nat} {w w' : World} {br : Nat} {v : Value} {st : Pk.Rd} (h : IsR w br v st) (k : Keep F w w') (hb : br ∉ F) (hr : ∀ x ∈ fpOf v, x ∉ F) : IsR w' br v st :=
  ⟨h.blk.keep k hb, h.rd.keep k hr, h.apart, h.le⟩

/-- what a method leaves of the reader at br whose slice was v: the state st', nothing else touched -/
def ROut (w w' : World) (br : Nat) (v : Value) (st' : Pk.Rd) : Prop :=
  ∃ v', IsR w' br v' st' ∧ Keep [br] w w' ∧ ∀ k ∈ fpOf v', k ∈ fpOf v

set_option maxHeartbeats 400000 in
theorem read_any (v : Value) (l : List UInt8) (w : World) (h : RdV w v l.length 1 (bv l)) (hn : l.length ≤ 1000000000) :
    Calls Try.prog 22 #[v] w fun e w' => ∃ br v', e = .returned (.pointer (some ⟨br, 0, none⟩)) ∧ IsR w' br v' ⟨l, false⟩ ∧ Keep [] w w' ∧ w.heap.size ≤ br ∧ ∀ k ∈ fpOf v', w.heap.size ≤ k := by
  go_enter Try.func22, Try.ntmps22
  go_wp2_with fail
  refine (clone_any v l.length l w h (by omega)).mono ?_
  rintro e w1 ⟨v1, rfl, o1, k1, r1⟩
  have hsh : ∃ ao cap, v1 = .slice ao l.length cap := by
    obtain ⟨_, ao, c, e, _⟩ := RdV.ofOwn o1
    exact ⟨ao, c, e⟩
  obtain ⟨ao, cap, rfl⟩ := hsh
  go_wp2
  go_ret
  have hlt := (RdV.ofOwn o1).lt (by omega)
  refine ⟨w1.heap.size, _, rfl, ⟨Blk.new _ _ _, (RdV.ofOwn o1).keep ((Keep.refl [] _).alloc _) (by simp), fun hx => Nat.lt_irrefl _ (hlt _ hx), hn⟩, k1.alloc _, k1.size, fun k hk => r1 k (fpOf_rowOf hk)⟩

theorem add_add (a : Addr) (m j : Nat) : (a.add m).add j = a.add (m + j) := by
  unfold Addr.add
  by_cases hm : m = 0
  · subst hm; simp
  · by_cases hj : j = 0
    · subst hj; simp [hm]
    · simp [hm, hj]; omega

theorem rd_nil (w : World) : RdV w (.slice none 0 0) 0 1 (bv []) := ⟨rfl, none, 0, rfl, Nat.le_refl _, fun _ => ⟨rfl, rfl⟩, fun a ha => by cases ha⟩

theorem rd_take {w : World} {ao : Option Addr} {cap m : Nat} {l : List UInt8} (hc : l.length ≤ cap) (hm : m ≤ l.length) (hnn : ao = none → l.length = 0 ∧ cap = 0)
    (hx : ∀ a, ao = some a → ∀ j u, (bv l)[j]? = some u → w.cell? (a.add j) = some u) : RdV w (.slice ao m cap) m 1 (bv (l.take m)) := by
  refine ⟨by simp [bv]; omega, ao, cap, rfl, by omega, fun h => ⟨by have := hnn h; omega, (hnn h).2⟩, fun a ha j u hu => hx a ha j u ?_⟩
  simp only [bv, List.map_take] at hu ⊢
  rw [List.getElem?_take] at hu
  split at hu
  · exact hu
  · cases hu

theorem rd_drop {w : World} {ao ao' : Option Addr} {cap m : Nat} {l : List UInt8} (hc : l.length ≤ cap) (hm : m ≤ l.length) (hnn : ao = none → l.length = 0 ∧ cap = 0)
    (hx : ∀ a, ao = some a → ∀ j u, (bv l)[j]? = some u → w.cell? (a.add j) = some u) (ha : ao' = ao ∧ cap = m ∨ ao' = ao.map (fun x => x.add m)) :
    RdV w (.slice ao' (l.length - m) (cap - m)) (l.length - m) 1 (bv (l.drop m)) ∧ ∀ k ∈ fpOf (.slice ao' (l.length - m) (cap - m)), k ∈ fpOf (.slice ao l.length cap) := by
  refine ⟨⟨by simp [bv], ao', cap - m, rfl, by omega, fun h => ?_, fun a ha' j u hu => ?_⟩, fun k hk => ?_⟩
  · rcases ha with ⟨rfl, _⟩ | rfl
    · have := hnn h; omega
    · have := hnn (by cases ao <;> simp_all); omega
  · rcases ha with ⟨rfl, h⟩ | rfl
    · have h1 := (List.getElem?_eq_some_iff.1 hu).1
      simp [bv] at h1
      omega
    · obtain ⟨b, rfl, rfl⟩ := Option.map_eq_some_iff.1 ha'
      rw [add_add]
      refine hx b rfl _ u ?_
      simp only [bv, List.map_drop, List.getElem?_drop] at hu
      simpa [bv] using hu
  · cases ao with
    | none => rcases ha with ⟨rfl, _⟩ | rfl <;> simp [fpOf] at hk
    | some a =>
      have hb : (a.add m).block = a.block := by unfold Addr.add; split <;> rfl
      rcases ha with ⟨rfl, _⟩ | rfl
      · simp only [fpOf] at hk ⊢
        split at hk
        · cases hk
        · rw [if_neg (by omega)]; exact hk
      · simp only [fpOf, Option.map_some] at hk ⊢
        split at hk
        · cases hk
        · rw [if_neg (by omega)]; rw [hb] at hk; exact hk

theorem take_len (st : Pk.Rd) (n : Int) (h : st.can n = true) : (st.take n).length = n.toNat ∧ 0 ≤ n ∧ n ≤ st.b.length ∧ st.bad = false := by
  unfold Pk.Rd.take
  rw [if_pos h]
  simp [Pk.Rd.can] at h
  refine ⟨?_, by omega, by omega, h.1.1⟩
  simp
  omega

set_option maxRecDepth 100000 in
set_option maxHeartbeats 800000 in
theorem take_any (br : Nat) (v : Value) (st : Pk.Rd) (n : Int) (w : World) (h : IsR w br v st) :
    Calls Try.prog 65 #[.pointer (some ⟨br, 0, none⟩), .int .i64 n] w fun e w' => ∃ x, e = .returned x ∧ RdV w' x (st.take n).length 1 (bv (st.take n)) ∧ (∀ k ∈ fpOf x, k ∈ fpOf v) ∧ ROut w w' br v (st.skip n) := by
  have hle := h.le
  obtain ⟨hl, ao, cap, rfl, hc, hnn, hx⟩ := h.rd
  have c0 : w.cell? ⟨br, 0, none⟩ = some (.slice ao st.b.length cap) := h.blk.cell 0
  have c1 : w.cell? ⟨br, 1, none⟩ = some (.bool st.bad) := h.blk.cell 1
  have f0 := h.blk.free 0
  have f1 := h.blk.free 1
  have Hl := Lib.hid hl
  have Hx := Lib.hid hx
  have Hnn := Lib.hid hnn
  clear hl hx hnn
  cases hcan : st.can n with
  | true =>
    obtain ⟨ht, h0, h1, h2⟩ := take_len st n hcan
    have HT := Lib.hid ht
    clear ht
    rw [h2] at c1
    clear h2
    obtain ⟨m, rfl⟩ := Int.eq_ofNat_of_zero_le h0
    have HC := Lib.hid hcan
    clear hcan
    have hd : decide ((m : Int) < 0) = false := by simp
    have e1 : st.take (m : Int) = st.b.take m := by unfold Pk.Rd.take; rw [if_pos HC.out, Int.toNat_natCast]
    have e2 : st.skip (m : Int) = { st with b := st.b.drop m } := by unfold Pk.Rd.skip; rw [if_pos HC.out, Int.toNat_natCast]
    have hbf := (take_len st m HC.out).2.2.2
    have hm : m ≤ st.b.length := by omega
    have E1 := Lib.hid e1
    have E2 := Lib.hid e2
    have HB := Lib.hid hbf
    clear e1 e2 hbf
    have fin : ∀ (ao' : Option Addr) (W' : World), (ao' = ao ∧ cap = m ∨ ao' = ao.map (fun x => x.add m)) →
        W' = (w.setCell ⟨br, 1, none⟩ (.bool false)).setCell ⟨br, 0, none⟩ (.slice ao' (st.b.length - m) (cap - m)) →
        RdV W' (.slice ao m cap) (st.take (m : Int)).length 1 (bv (st.take (m : Int))) ∧ (∀ k ∈ fpOf (.slice ao m cap), k ∈ fpOf (.slice ao st.b.length cap)) ∧ ROut w W' br (.slice ao st.b.length cap) (st.skip (m : Int)) := by
      intro ao' W' ha hW
      subst hW
      have k1 : Keep [br] w ((w.setCell ⟨br, 1, none⟩ (.bool false)).setCell ⟨br, 0, none⟩ (.slice ao' (st.b.length - m) (cap - m))) := ((Keep.refl _ _).setCell (Or.inl (by simp)) _).setCell (Or.inl (by simp)) _
      have hfp : ∀ k ∈ fpOf (.slice ao m cap), k ∈ fpOf (.slice ao st.b.length cap) := by
        intro k hk
        cases ao with
        | none => simp [fpOf] at hk
        | some a =>
          simp only [fpOf] at hk ⊢
          split at hk
          · cases hk
          · rw [if_neg (by omega)]; exact hk
      obtain ⟨hd1, hd2⟩ := rd_drop (w := w) hc hm Hnn.out Hx.out ha
      have hnb : ∀ x ∈ fpOf (.slice ao st.b.length cap), x ∉ [br] := fun x hx hx' => by simp at hx'; subst hx'; exact h.apart hx
      refine ⟨?_, hfp, .slice ao' (st.b.length - m) (cap - m), ⟨?_, ?_, fun hx => h.apart (hd2 _ hx), ?_⟩, k1, hd2⟩
      · rw [E1.out, show (st.b.take m).length = m by simp; omega]
        exact (rd_take hc hm Hnn.out Hx.out).keep k1 (fun x hx => hnb x (hfp x hx))
      · rw [E2.out]
        have := (h.blk.set 1 (.bool false)).set 0 (.slice ao' (st.b.length - m) (cap - m))
        simpa [HB.out] using this
      · rw [E2.out]
        have := hd1.keep k1 (fun x hx => hnb x (hd2 x hx))
        simpa using this
      · rw [E2.out]; simp; omega
    have HF := Lib.hid fin
    clear fin
    go_enter Try.func65, Try.ntmps65
    go_wp2
    · go_ret
      have hh : cap = m := by assumption
      subst hh
      exact ⟨_, rfl, HF.out ao _ (Or.inl ⟨rfl, rfl⟩) (by rw [Nat.sub_self])⟩
    · go_ret
      exact ⟨_, rfl, HF.out _ _ (Or.inr rfl) rfl⟩
  | false =>
    have e1 : st.take n = [] := by unfold Pk.Rd.take; rw [hcan]; rfl
    have e2 : st.skip n = ⟨[], true⟩ := by unfold Pk.Rd.skip; rw [hcan]; rfl
    have fin : RdV ((w.setCell ⟨br, 1, none⟩ (.bool true)).setCell ⟨br, 0, none⟩ (.slice none 0 0)) (.slice none 0 0) (st.take n).length 1 (bv (st.take n)) ∧ (∀ k ∈ fpOf (.slice none 0 0), k ∈ fpOf (.slice ao st.b.length cap)) ∧
        ROut w ((w.setCell ⟨br, 1, none⟩ (.bool true)).setCell ⟨br, 0, none⟩ (.slice none 0 0)) br (.slice ao st.b.length cap) (st.skip n) := by
      rw [e1, e2]
      refine ⟨rd_nil _, fun k hk => by simp [fpOf] at hk, .slice none 0 0, ⟨?_, rd_nil _, by simp [fpOf], by simp⟩, ((Keep.refl _ _).setCell (Or.inl (by simp)) _).setCell (Or.inl (by simp)) _, fun k hk => by simp [fpOf] at hk⟩
      exact (h.blk.set 1 (.bool true)).set 0 (.slice none 0 0)
    have HF := Lib.hid fin
    clear fin e1 e2
    cases hb : st.bad with
    | true =>
      rw [hb] at c1
      clear hcan
      go_enter Try.func65, Try.ntmps65
      go_wp2
      go_ret
      exact ⟨_, rfl, HF.out⟩
    | false =>
      rw [hb] at c1
      simp [Pk.Rd.can, hb] at hcan
      rcases Int.lt_or_le n 0 with h0 | h0
      · have hd : decide (n < 0) = true := by simpa using h0
        clear hcan
        go_enter Try.func65, Try.ntmps65
        go_wp2
        go_ret
        exact ⟨_, rfl, HF.out⟩
      · have hd : decide (n < 0) = false := by simpa using h0
        have h1 := hcan h0
        clear hcan
        go_enter Try.func65, Try.ntmps65
        go_wp2
        go_ret
        exact ⟨_, rfl, HF.out⟩
end Go.Proofs.Yteogkgjajhdhjaa
