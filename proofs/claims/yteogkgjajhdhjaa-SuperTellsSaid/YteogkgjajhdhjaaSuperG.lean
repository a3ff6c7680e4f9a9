/-
  Layer 4's document: Same: are two superblocks the same? No condition but that both can be read.
-/
import Derived.Test.YteogkgjajhdhjaaSuperEq
import Derived.Test.YteogkgjajhdhjaaSuperC
import Derived.Deep.QuietTactic
import Derived.BigQuiet
namespace Go.Proofs.Yteogkgjajhdhjaa
open Go.RowKit

namespace Sp
def snEq (x y : Sn) : Bool := x.name.toList == y.name.toList && (x.root == y.root && (x.commit == y.commit && true))
theorem snEq_iff (x y : Sn) : snEq x y = true ↔ x = y := by
  cases x; cases y
  simp only [snEq, Bool.and_eq_true, beq_iff_eq, Bool.and_true, Lib.toList_data, Sn.mk.injEq]
  constructor
  · rintro ⟨h, h1, h2⟩
    exact ⟨ByteArray.ext (Array.toList_inj.1 h), h1, h2⟩
  · rintro ⟨rfl, h1, h2⟩
    exact ⟨rfl, h1, h2⟩

def sameB (a b : Su) : Bool := a.gen == b.gen && a.root == b.root && a.next == b.next && a.commit == b.commit && (a.snaps.length == b.snaps.length && (List.range a.snaps.length).all fun k => (a.snaps[k]?).elim false fun x => (b.snaps[k]?).elim false fun y => snEq x y)

theorem sameB_iff (a b : Su) : sameB a b = true ↔ a = b := by
  obtain ⟨g, r, n, c, l⟩ := a
  obtain ⟨g', r', n', c', l'⟩ := b
  simp only [sameB, Bool.and_eq_true, beq_iff_eq, Su.mk.injEq, List.all_eq_true, List.mem_range]
  constructor
  · rintro ⟨⟨⟨⟨h1, h2⟩, h3⟩, h4⟩, h5, h6⟩
    refine ⟨h1, h2, h3, h4, List.ext_getElem h5 fun k hk hk' => ?_⟩
    have := h6 k hk
    rw [List.getElem?_eq_getElem hk, List.getElem?_eq_getElem hk'] at this
    exact (snEq_iff _ _).1 this
  · rintro ⟨rfl, rfl, rfl, rfl, rfl⟩
    refine ⟨⟨⟨⟨rfl, rfl⟩, rfl⟩, rfl⟩, rfl, fun k hk => ?_⟩
    rw [List.getElem?_eq_getElem hk]
    exact (snEq_iff _ _).2 rfl
theorem sameB_self (a : Su) : sameB a a = true := (sameB_iff a a).2 rfl
theorem sameB_ne {a b : Su} (h : a ≠ b) : sameB a b = false := by
  cases e : sameB a b with
  | false => rfl
  | true => exact absurd ((sameB_iff a b).1 e) h
/-- the snapshots ahead of the k-th are the same -/
def EqTo (a b : Su) (k : Nat) : Prop := ∀ j, j < k → a.snaps[j]? = b.snaps[j]?
end Sp

set_option maxRecDepth 100000 in
set_option maxHeartbeats 1600000 in
theorem same_any (a b : Sp.Su) (va vb : Value) (w : World) (ha : SuV w va a) (hb : SuV w vb b) : Calls Try.prog 57 #[va, vb] w fun e w' => e = .returned (.bool (Sp.sameB a b)) ∧ Keep [] w w' := by
  obtain ⟨ao, ca, rfl, hra, hla⟩ := ha
  obtain ⟨bo, cb, rfl, hrb, hlb⟩ := hb
  have HA := Lib.hid hra
  have HB := Lib.hid hrb
  clear hra hrb
  obtain ⟨q, hq⟩ : ∃ q, q = Sp.sameB a b := ⟨_, rfl⟩
  have HQ := Lib.hid hq
  rw [← hq]
  clear hq
  obtain ⟨W0, hW0⟩ : ∃ W, W = (w.alloc (.cells #[.int .i64 a.gen, .int .i64 a.root, .int .i64 a.next, .int .i64 a.commit, .slice ao a.snaps.length ca] 59)).alloc (.cells #[.int .i64 b.gen, .int .i64 b.root, .int .i64 b.next, .int .i64 b.commit, .slice bo b.snaps.length cb] 59) := ⟨_, rfl⟩
  have K0 : Keep [] w W0 := by rw [hW0]; exact ((Keep.refl _ _).alloc _).alloc _
  have B1 : Blk W0 w.heap.size [.int .i64 a.gen, .int .i64 a.root, .int .i64 a.next, .int .i64 a.commit, .slice ao a.snaps.length ca] 59 := by rw [hW0]; exact (Blk.new' _ _ _).alloc _
  have B2 : Blk W0 (w.heap.size + 1) [.int .i64 b.gen, .int .i64 b.root, .int .i64 b.next, .int .i64 b.commit, .slice bo b.snaps.length cb] 59 := by
    have := Blk.new' (w.alloc (.cells #[.int .i64 a.gen, .int .i64 a.root, .int .i64 a.next, .int .i64 a.commit, .slice ao a.snaps.length ca] 59)) [.int .i64 b.gen, .int .i64 b.root, .int .i64 b.next, .int .i64 b.commit, .slice bo b.snaps.length cb] 59
    rw [hW0]
    simpa using this
  have HW := Lib.hid hW0
  clear hW0
  by_cases h1 : a.gen = b.gen
  rotate_left
  · have hb1 : (a.gen != b.gen) = true := by simpa using h1
    have H1 := Lib.hid h1
    clear h1
    go_enter Try.func57, Try.ntmps57
    go_wp2
    go_ret
    refine ⟨?_, by rw [← HW.out]; exact K0⟩
    rw [HQ.out, Sp.sameB_ne (by rintro rfl; exact H1.out rfl)]; rfl
  have hb1 : (a.gen != b.gen) = false := by simpa using h1
  have H1 := Lib.hid h1
  clear h1
  by_cases h2 : a.root = b.root
  rotate_left
  · have hb2 : (a.root != b.root) = true := by simpa using h2
    have H2 := Lib.hid h2
    clear h2
    go_enter Try.func57, Try.ntmps57
    go_wp2
    go_ret
    refine ⟨?_, by rw [← HW.out]; exact K0⟩
    rw [HQ.out, Sp.sameB_ne (by rintro rfl; exact H2.out rfl)]; rfl
  have hb2 : (a.root != b.root) = false := by simpa using h2
  have H2 := Lib.hid h2
  clear h2
  by_cases h3 : a.next = b.next
  rotate_left
  · have hb3 : (a.next != b.next) = true := by simpa using h3
    have H3 := Lib.hid h3
    clear h3
    go_enter Try.func57, Try.ntmps57
    go_wp2
    go_ret
    refine ⟨?_, by rw [← HW.out]; exact K0⟩
    rw [HQ.out, Sp.sameB_ne (by rintro rfl; exact H3.out rfl)]; rfl
  have hb3 : (a.next != b.next) = false := by simpa using h3
  have H3 := Lib.hid h3
  clear h3
  by_cases h4 : a.commit = b.commit
  rotate_left
  · have hb4 : (a.commit != b.commit) = true := by simpa using h4
    have H4 := Lib.hid h4
    clear h4
    go_enter Try.func57, Try.ntmps57
    go_wp2
    go_ret
    refine ⟨?_, by rw [← HW.out]; exact K0⟩
    rw [HQ.out, Sp.sameB_ne (by rintro rfl; exact H4.out rfl)]; rfl
  have hb4 : (a.commit != b.commit) = false := by simpa using h4
  have H4 := Lib.hid h4
  clear h4
  by_cases h5 : (a.snaps.length : Int) = b.snaps.length
  rotate_left
  · have hb5 : ((a.snaps.length : Int) != b.snaps.length) = true := by simpa using h5
    have H5 := Lib.hid h5
    clear h5
    go_enter Try.func57, Try.ntmps57
    go_wp2
    go_ret
    refine ⟨?_, by rw [← HW.out]; exact K0⟩
    rw [HQ.out, Sp.sameB_ne (by rintro rfl; exact H5.out rfl)]; rfl
  have hb5 : ((a.snaps.length : Int) != b.snaps.length) = false := by simpa using h5
  have H5 := Lib.hid h5
  clear h5
  go_enter Try.func57, Try.ntmps57
  go_wp2
  rw [← HW.out]
  go_loopw [5] (fun i wr => ∃ k : Nat, k ≤ a.snaps.length ∧ i = .int .i64 k ∧ Keep [] W0 wr ∧ Sp.EqTo a b k) (fun i _ => a.snaps.length - (intOf i).toNat)
  case atStart => exact ⟨0, Nat.zero_le _, rfl, Keep.refl _ _, fun j hj => by omega⟩
  case round =>
    obtain ⟨k, hk, rfl, K, E⟩ := hrel
    have C1 := B1.keep K (by simp)
    have C2 := B2.keep K (by simp)
    have c4 := C1.cell 4
    have d4 := C2.cell 4
    simp only [List.getElem?_cons_zero, List.getElem?_cons_succ] at c4 d4
    have KW := K0.trans K (by simp)
    by_cases hlt : k < a.snaps.length
    · have hlt2 : k < b.snaps.length := by have := H5.out; omega
      obtain ⟨x, hx⟩ : ∃ x, a.snaps[k]? = some x := ⟨_, List.getElem?_eq_getElem hlt⟩
      obtain ⟨y, hy⟩ : ∃ y, b.snaps[k]? = some y := ⟨_, List.getElem?_eq_getElem hlt2⟩
      obtain ⟨p, rfl, _, x0, x1, x2⟩ := snap_cells HA.out KW (by simp) hx
      obtain ⟨p', rfl, _, y0, y1, y2⟩ := snap_cells HB.out KW (by simp) hy
      have NS := fun W => neqSnap W x.name y.name x.root x.commit y.root y.commit
      have hltI : (k : Int) < a.snaps.length := by omega
      have hltI2 : (k : Int) < b.snaps.length := by omega
      have HX := Lib.hid hx
      have HY := Lib.hid hy
      obtain ⟨z, hz⟩ : ∃ z, z = Sp.snEq x y := ⟨_, rfl⟩
      have HZ := Lib.hid hz
      have hz' : (x.name.toList == y.name.toList && (x.root == y.root && (x.commit == y.commit && true))) = z := hz.symm
      simp only [hz'] at NS
      clear hx hy hz hz' hb1 hb2 hb3 hb4 hb5
      have hb8 := C1.lt
      have hb9 := C2.lt
      cases z with
      | false =>
        go_wp2_with fail
        go_quiet (fail)
        go_wp2
        go_ret
        refine ⟨?_, KW.drewN nq⟩
        rw [HQ.out, Sp.sameB_ne (fun h => by
          have e1 := HX.out
          rw [h, HY.out] at e1
          have e2 := HZ.out
          rw [(Sp.snEq_iff _ _).2 (Option.some.inj e1).symm] at e2
          cases e2)]; rfl
      | true =>
        go_wp2_with fail
        go_quiet (fail)
        go_wp2
        go_roundw
        case rel => exact ⟨k + 1, by omega, by go_num, K.drewN nq, fun j hj => by
          by_cases hjk : j < k
          · exact E j hjk
          · obtain rfl : j = k := by omega
            rw [HX.out, HY.out, (Sp.snEq_iff _ _).1 HZ.out.symm]⟩
        case measure => simp [intOf]; omega
    · obtain rfl : k = a.snaps.length := by omega
      go_wp2
      go_ret
      refine ⟨?_, KW⟩
      rw [HQ.out, (Sp.sameB_iff a b).2]; rfl
      have e5 : a.snaps = b.snaps := List.ext_getElem? fun j => by
        by_cases hj : j < a.snaps.length
        · exact E j hj
        · have h5 := H5.out
          rw [List.getElem?_eq_none (by omega), List.getElem?_eq_none (by omega)]
      obtain ⟨g, r, n, c, l⟩ := a
      obtain ⟨g', r', n', c', l'⟩ := b
      have q1 : g = g' := H1.out
      have q2 : r = r' := H2.out
      have q3 : n = n' := H3.out
      have q4 : c = c' := H4.out
      have q5 : l = l' := e5
      rw [q1, q2, q3, q4, q5]
end Go.Proofs.Yteogkgjajhdhjaa
