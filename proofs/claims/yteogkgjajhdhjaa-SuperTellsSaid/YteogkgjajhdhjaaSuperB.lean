/-
  Layer 4: Right of package super tells whether a superblock may be. No condition but that the snapshots can be read.
-/
import Derived.Test.YteogkgjajhdhjaaSuperA
import Derived.Outline
import Derived.Sort.Walk0
import Derived.Lib.Strings
namespace Go.Proofs.Yteogkgjajhdhjaa
open Go.RowKit

/-- a superblock as a value: its snapshots can be read -/
def SuV (w : World) (v : Value) (s : Sp.Su) : Prop :=
  ∃ ao c, v = .agg #[.int .i64 s.gen, .int .i64 s.root, .int .i64 s.next, .int .i64 s.commit, .slice ao s.snaps.length c] ∧ RdV w (.slice ao s.snaps.length c) s.snaps.length 3 (Sp.scells s.snaps) ∧ s.snaps.length ≤ 9223372036854775807

theorem scells_get : ∀ (l : List Sp.Sn) (k j : Nat) (x : Sp.Sn), l[k]? = some x → j < 3 → (Sp.scells l)[k * 3 + j]? = x.cells[j]?
  | [], k, j, f, h, _ => by simp at h
  | x :: l, 0, j, f, h, hj => by
    simp at h
    subst h
    simp only [Sp.scells, List.flatMap_cons]
    rw [List.getElem?_append_left (by simp [Sp.Sn.cells]; omega)]
    simp
  | x :: l, k + 1, j, f, h, hj => by
    simp at h
    have := scells_get l k j f h hj
    simp only [Sp.scells, List.flatMap_cons]
    rw [List.getElem?_append_right (by simp [Sp.Sn.cells]; omega)]
    rw [show (k + 1) * 3 + j - x.cells.length = k * 3 + j by simp [Sp.Sn.cells]; omega]
    exact this

theorem scells_length (l : List Sp.Sn) : (Sp.scells l).length = l.length * 3 := by
  induction l with
  | nil => rfl
  | cons x l ih => simp only [Sp.scells, List.flatMap_cons, List.length_append, List.length_cons]; simp only [Sp.scells] at ih; rw [ih]; simp [Sp.Sn.cells]; omega

theorem add_field (a : Addr) (m j : Nat) (hj : 0 < j) : a.add (m + j) = ⟨(a.add m).block, (a.add m).off + j, none⟩ := by
  rw [← add_add]
  unfold Addr.add
  split
  · omega
  · rfl

/-- what is known of the snapshots' cells: the k-th one's three cells, in any world that has kept them -/
theorem snap_cells {F : List Nat} {w w' : World} {ao : Option Addr} {n c : Nat} {l : List Sp.Sn} (h : RdV w (.slice ao n c) n 3 (Sp.scells l)) (K : Keep F w w') (hd : ∀ x ∈ fpOf (.slice ao n c), x ∉ F) {k : Nat} {x : Sp.Sn} (hk : l[k]? = some x) :
    ∃ a, ao = some a ∧ a.block < w.heap.size ∧ w'.cell? (a.add (k * 3)) = some (.string x.name) ∧ w'.cell? ⟨(a.add (k * 3)).block, (a.add (k * 3)).off + 1, none⟩ = some (.int .i64 x.root) ∧ w'.cell? ⟨(a.add (k * 3)).block, (a.add (k * 3)).off + 2, none⟩ = some (.int .i64 x.commit) := by
  have hlt := h.lt (by omega)
  obtain ⟨hl, ao', c', e, hc, hnn, hx⟩ := h.keep K hd
  cases e
  have hkl := (List.getElem?_eq_some_iff.1 hk).1
  rw [scells_length] at hl
  cases ao with
  | none => have := (hnn rfl).1; omega
  | some a =>
    have hn : n ≠ 0 := by omega
    refine ⟨a, rfl, hlt _ (by simp [fpOf, hn]), ?_, ?_, ?_⟩
    · have := hx a rfl (k * 3 + 0) _ ((scells_get l k 0 x hk (by omega)).trans rfl)
      rwa [Nat.add_zero] at this
    · have := hx a rfl (k * 3 + 1) _ ((scells_get l k 1 x hk (by omega)).trans rfl)
      rwa [add_field _ _ _ (by omega)] at this
    · have := hx a rfl (k * 3 + 2) _ ((scells_get l k 2 x hk (by omega)).trans rfl)
      rwa [add_field _ _ _ (by omega)] at this

/-- the name ahead of the k-th one -/
def prevName (l : List Sp.Sn) : Nat → ByteArray
  | 0 => ⟨#[]⟩
  | k + 1 => (l[k]?).elim ⟨#[]⟩ Sp.Sn.name

theorem leq_less (a b : ByteArray) : (Op.bytesLess a.toList b.toList || a.toList == b.toList) = !Op.bytesLess b.data.toList a.data.toList := by
  simp only [Proofs.bytesLess_eq, Lib.toList_data]
  rw [Bool.eq_iff_iff]
  simp only [Bool.or_eq_true, decide_eq_true_eq, beq_iff_eq, Bool.not_eq_true', decide_eq_false_iff_not]
  constructor
  · rintro (h | h)
    · exact List.lt_asymm h
    · rw [h]; exact List.lt_irrefl _
  · intro h
    rcases List.le_iff_lt_or_eq.1 (List.not_lt.1 h) with h | h
    · exact Or.inl h
    · exact Or.inr h

theorem nm_len (x : Sp.Sn) : (Sp.nm x).length = x.name.size := by unfold Sp.nm; rw [Array.length_toList]; rfl

def RightAt (s : Sp.Su) (q : Bool) (k : Nat) : Prop := Sp.chain s.commit (prevName s.snaps k).data.toList (s.snaps.drop k) = q

theorem right_step {s : Sp.Su} {q : Bool} {k : Nat} {x : Sp.Sn} (h : RightAt s q k) (hx : s.snaps[k]? = some x) : q = (Sp.snapOk s.commit (prevName s.snaps k).data.toList x && Sp.chain s.commit (Sp.nm x) (s.snaps.drop (k + 1))) ∧ (Sp.snapOk s.commit (prevName s.snaps k).data.toList x = true → RightAt s q (k + 1)) := by
  have hk := (List.getElem?_eq_some_iff.1 hx).1
  unfold RightAt at h ⊢
  rw [List.drop_eq_getElem_cons hk] at h
  rw [List.getElem?_eq_getElem hk] at hx
  have hxx := Option.some.inj hx
  rw [hxx] at h
  simp only [Sp.chain] at h
  refine ⟨h.symm, fun h1 => ?_⟩
  rw [h1, Bool.true_and] at h
  rw [← h]
  simp only [prevName, List.getElem?_eq_getElem hk, hxx, Option.elim]
  rfl

theorem right_end {s : Sp.Su} {q : Bool} {k : Nat} (h : RightAt s q k) (hk : s.snaps.length ≤ k) : q = true := by
  unfold RightAt at h
  rw [List.drop_of_length_le hk] at h
  exact h.symm

set_option maxRecDepth 100000 in
set_option maxHeartbeats 800000 in
theorem right_any (s : Sp.Su) (v : Value) (w : World) (h : SuV w v s) : Calls Try.prog 58 #[v] w fun e w' => e = .returned (.bool (Sp.right s)) ∧ Keep [] w w' := by
  obtain ⟨ao, c, rfl, hr, hl⟩ := h
  have HR := Lib.hid hr
  clear hr
  obtain ⟨q, hq⟩ : ∃ q, q = Sp.right s := ⟨_, rfl⟩
  have HQ := Lib.hid hq
  rw [← hq]
  clear hq
  go_enter Try.func58, Try.ntmps58
  go_wp2_with (first | (go_at_call 78; refine (within_any _ _ _ _).mono ?_; rintro e w' ⟨rfl, rfl⟩) | (go_at_call 79; refine (root_any _ _).mono ?_; rintro e w' ⟨rfl, rfl⟩))
  · have h5 : 8 < (s.snaps.length : Int) := by assumption
    go_ret
    exact ⟨by rw [HQ.out]; unfold Sp.right; rw [decide_eq_false (p := s.snaps.length ≤ 8) (by omega)]; simp, (Keep.refl _ _).alloc _⟩
  · have h1 : Sp.within s.gen 1 281474976710655 = true := by assumption
    have h2 : Sp.rootB s.root = true := by assumption
    have h3 : Sp.within s.next 2 1073741824 = true := by assumption
    have h4 : Sp.within s.commit 0 281474976710655 = true := by assumption
    have h5 : (s.snaps.length : Int) ≤ 8 := by assumption
    have h6 : RightAt s q 0 := by
      rw [HQ.out]
      unfold Sp.right RightAt
      rw [h1, h2, h3, h4, decide_eq_true (by omega)]
      simp [prevName]
    clear h1 h2 h3 h4
    go_loopw [3, 37] (fun last i wr => ∃ k : Nat, k ≤ s.snaps.length ∧ i = .int .i64 k ∧ last = .string (prevName s.snaps k) ∧ RightAt s q k ∧ Keep [] w wr ∧ Blk wr w.heap.size [.int .i64 s.gen, .int .i64 s.root, .int .i64 s.next, .int .i64 s.commit, .slice ao s.snaps.length c] 59) (fun _ i _ => s.snaps.length - (intOf i).toNat)
    case atStart => exact ⟨0, Nat.zero_le _, rfl, rfl, h6, (Keep.refl _ _).alloc _, Blk.new' _ _ _⟩
    case round =>
      obtain ⟨k, hk, rfl, rfl, hR, K, B⟩ := hrel
      by_cases hlt : k < s.snaps.length
      · obtain ⟨x, hx⟩ : ∃ x, s.snaps[k]? = some x := ⟨_, List.getElem?_eq_getElem hlt⟩
        obtain ⟨a, rfl, hab, d0, d1, d2⟩ := snap_cells HR.out K (by simp) hx
        obtain ⟨p1, p2⟩ := right_step hR hx
        have P1 := Lib.hid p1
        have HX := Lib.hid hx
        have c3 := B.cell 3
        have hle := leq_less x.name (prevName s.snaps k)
        have hP : prevName s.snaps (k + 1) = x.name := by simp [prevName, HX.out]
        have HP := Lib.hid hP
        have hbw := B.lt
        simp only [List.getElem?_cons_zero, List.getElem?_cons_succ] at c3
        clear hR p1 hx hP
        unfold Sp.snapOk at p2 P1
        go_wp2_with (first | (go_at_call 78; refine (within_any _ _ _ _).mono ?_; rintro e w' ⟨rfl, rfl⟩) | (go_at_call 79; refine (root_any _ _).mono ?_; rintro e w' ⟨rfl, rfl⟩))
        case' roundEnd =>
          have r1 : Sp.rootB x.root = true := by assumption
          have r2 : Op.bytesLess (prevName s.snaps k).data.toList x.name.data.toList = true := by assumption
          have r3 : (x.name.size : Int) ≤ 18 ∧ (!Sp.within x.commit 0 s.commit) = false := by assumption
          have r4 := p2 (by rw [nm_len, decide_eq_true (p := x.name.size ≤ 18) (by omega)]; unfold Sp.nm; rw [r1, r2]; simpa using r3.2)
          clear r1 r2 r3 p2
          go_roundw
          case rel => exact ⟨k + 1, by omega, by go_num, by rw [HP.out], r4, K.alloc _, B.alloc _⟩
          case measure => simp [intOf]; omega
        all_goals
          go_ret
          refine ⟨?_, K.alloc _⟩
          rw [P1.out, nm_len]
          unfold Sp.nm
        · have r : 18 < (x.name.size : Int) ∨ (!Sp.within x.commit 0 s.commit) = true := by assumption
          rcases r with r | r
          · rw [decide_eq_false (p := x.name.size ≤ 18) (by omega)]; simp
          · have r' : Sp.within x.commit 0 s.commit = false := by simpa using r
            rw [r']; simp
        · have r : ¬Sp.rootB x.root = true := by assumption
          simp [r]
        · have r : ¬Op.bytesLess (prevName s.snaps k).data.toList x.name.data.toList = true := by assumption
          simp [r]
        · have r : 18 < (x.name.size : Int) := by assumption
          rw [decide_eq_false (p := x.name.size ≤ 18) (by omega)]; simp
      · go_wp2
        go_ret
        exact ⟨by rw [right_end hR (by omega)]; rfl, K⟩
  all_goals
    go_ret
    exact ⟨by rw [HQ.out]; unfold Sp.right; simp [*], (Keep.refl _ _).alloc _⟩
end Go.Proofs.Yteogkgjajhdhjaa
