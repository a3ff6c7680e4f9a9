/-
  Layer 4's document: root and Right: may a superblock be? No condition but that the snapshots can be read.
-/
import Derived.Test.YteogkgjajhdhjaaSuperC
import Derived.Deep.QuietTactic
import Derived.BigQuiet
namespace Go.Proofs.Yteogkgjajhdhjaa
open Go.RowKit

theorem kroot_any (n : Int) (w : World) : Calls Try.prog 80 #[.int .i64 n] w fun e w' => e = .returned (.bool (Sp.rootB n)) ∧ w = w' := by
  by_cases h0 : n = 0
  · subst h0
    go_enter Try.func80, Try.ntmps80
    go_wp2
    go_ret
    exact ⟨by simp [Sp.rootB], rfl⟩
  · have hb : (n == 0) = false := by simpa using h0
    by_cases h1 : 2 ≤ n
    · by_cases h2 : n ≤ 4294967295
      · have e : Sp.rootB n = true := by simp [Sp.rootB, h1, h2]
        rw [e]
        clear e h0
        go_enter Try.func80, Try.ntmps80
        go_wp2
        go_ret
        exact ⟨by simp, rfl⟩
      · have e : Sp.rootB n = false := by simp [Sp.rootB, h0, h2]
        rw [e]
        clear e h0
        go_enter Try.func80, Try.ntmps80
        go_wp2
        go_ret
        exact ⟨by simp, rfl⟩
    · have e : Sp.rootB n = false := by simp [Sp.rootB, h0, h1]
      rw [e]
      clear e h0
      go_enter Try.func80, Try.ntmps80
      go_wp2
      go_ret
      exact ⟨by simp, rfl⟩

theorem less_nil (a : ByteArray) : Op.bytesLess ([] : List UInt8) a.data.toList = decide (1 ≤ a.size) := by
  have h : a.data.toList.length = a.size := by rw [Array.length_toList]; rfl
  cases hl : a.data.toList with
  | nil => rw [hl] at h; simp at h; simp [Op.bytesLess, ← h]
  | cons c l => rw [hl] at h; simp at h; simp [Op.bytesLess, ← h]

theorem less_empty (l : List UInt8) (a : ByteArray) (h : a.size < 1) : Op.bytesLess l a.data.toList = false := by
  have h1 : a.data.toList.length = a.size := by rw [Array.length_toList]; rfl
  have h2 : a.data.toList = [] := List.eq_nil_of_length_eq_zero (by omega)
  rw [h2]
  cases l <;> rfl

set_option maxRecDepth 100000 in
set_option maxHeartbeats 1600000 in
theorem kright_any (s : Sp.Su) (v : Value) (w : World) (h : SuV w v s) : Calls Try.prog 59 #[v] w fun e w' => e = .returned (.bool (Sp.right s)) ∧ Keep [] w w' := by
  obtain ⟨ao, c, rfl, hr, hl⟩ := h
  have HR := Lib.hid hr
  clear hr
  obtain ⟨q, hq⟩ : ∃ q, q = Sp.right s := ⟨_, rfl⟩
  have HQ := Lib.hid hq
  rw [← hq]
  clear hq
  by_cases hh : 1 ≤ s.gen ∧ s.gen ≤ 281474976710655 ∧ 2 ≤ s.next ∧ s.next ≤ 1073741824 ∧ 0 ≤ s.commit ∧ s.commit ≤ 281474976710655 ∧ s.snaps.length ≤ 8
  · obtain ⟨a1, a2, a3, a4, a5, a6, a7⟩ := hh
    cases hroot : Sp.rootB s.root with
    | false =>
      go_enter Try.func59, Try.ntmps59
      go_wp2_with (go_at_call 80; refine (kroot_any _ _).mono ?_; rintro e w' ⟨rfl, rfl⟩; rw [hroot])
      go_ret
      exact ⟨by rw [HQ.out]; unfold Sp.right; rw [hroot]; simp, (Keep.refl _ _).alloc _⟩
    | true =>
      have h6 : RightAt s q 0 := by
        rw [HQ.out]
        unfold Sp.right RightAt
        rw [hroot, decide_eq_true a7, (Sp.within_iff _ _ _).2 ⟨a1, a2⟩, (Sp.within_iff _ _ _).2 ⟨a3, a4⟩, (Sp.within_iff _ _ _).2 ⟨a5, a6⟩]
        simp [prevName]
      go_enter Try.func59, Try.ntmps59
      go_wp2_with (go_at_call 80; refine (kroot_any _ _).mono ?_; rintro e w' ⟨rfl, rfl⟩; rw [hroot])
      go_loopw [4] (fun i wr => ∃ k : Nat, k ≤ s.snaps.length ∧ i = .int .i64 k ∧ RightAt s q k ∧ Keep [] w wr ∧ Blk wr w.heap.size [.int .i64 s.gen, .int .i64 s.root, .int .i64 s.next, .int .i64 s.commit, .slice ao s.snaps.length c] 59) (fun i _ => s.snaps.length - (intOf i).toNat)
      case atStart => exact ⟨0, Nat.zero_le _, rfl, h6, (Keep.refl _ _).alloc _, Blk.new' _ _ _⟩
      case round =>
        obtain ⟨k, hk, rfl, hR, K, B⟩ := hrel
        have c3 := B.cell 3
        have c4 := B.cell 4
        simp only [List.getElem?_cons_zero, List.getElem?_cons_succ] at c3 c4
        by_cases hlt : k < s.snaps.length
        · obtain ⟨x, hx⟩ : ∃ x, s.snaps[k]? = some x := ⟨_, List.getElem?_eq_getElem hlt⟩
          obtain ⟨a, rfl, hab, d0, d1, d2⟩ := snap_cells HR.out K (by simp) hx
          obtain ⟨p1, p2⟩ := right_step hR hx
          have P1 := Lib.hid p1
          have HX := Lib.hid hx
          have hbw := B.lt
          clear hR p1 hx
          unfold Sp.snapOk at p2 P1
          go_wp2_with (go_at_call 80; refine (kroot_any _ _).mono ?_; rintro e w' ⟨rfl, rfl⟩)
          all_goals
            first
            | (go_ret
               refine ⟨?_, K.alloc _⟩
               rw [P1.out, nm_len]
               unfold Sp.nm Sp.within
               first
               | (have r : ((((x.name.size : Int) < 1 ∨ 18 < (x.name.size : Int)) ∨ x.commit < 0) ∨ s.commit < x.commit) := by assumption
                  have r1 : 1 ≤ (x.name.size : Int) := by assumption
                  have r2 : (x.name.size : Int) ≤ 18 := by assumption
                  have r3 : 0 ≤ x.commit := by assumption
                  rw [decide_eq_false (p := x.commit ≤ s.commit) (by omega)]
                  simp; done)
               | (have r : x.commit < 0 := by assumption
                  rw [decide_eq_false (p := 0 ≤ x.commit) (by omega)]
                  simp; done)
               | (have r : ¬Sp.rootB x.root = true := by assumption
                  simp [r]; done)
               | (have r : 18 < (x.name.size : Int) := by assumption
                  rw [decide_eq_false (p := x.name.size ≤ 18) (by omega)]
                  simp; done)
               | (have r : (x.name.size : Int) < 1 := by assumption
                  rw [less_empty _ x.name (by omega)]
                  simp; done))
            | skip
          have r0 : ((1 ≤ (x.name.size : Int) ∧ (x.name.size : Int) ≤ 18) ∧ 0 ≤ x.commit) ∧ x.commit ≤ s.commit := by assumption
          have r1 : Sp.rootB x.root = true := by assumption
          have hhead : (decide ((Sp.nm x).length ≤ 18) && Op.bytesLess (prevName s.snaps k).data.toList (Sp.nm x) && Sp.rootB x.root && Sp.within x.commit 0 s.commit) = Op.bytesLess (prevName s.snaps k).data.toList x.name.data.toList := by
            rw [nm_len, r1, decide_eq_true (p := x.name.size ≤ 18) (by omega), (Sp.within_iff _ _ _).2 ⟨by omega, by omega⟩]
            unfold Sp.nm
            simp
          rw [hhead] at p2
          have P2 := Lib.hid (hhead ▸ P1.out)
          clear hhead P1
          cases k with
          | zero =>
            have p3 := p2 (by show Op.bytesLess ([] : List UInt8) x.name.data.toList = true; rw [less_nil]; exact decide_eq_true (by omega))
            clear p2
            go_quiet (fail)
            go_wp2
            go_roundw
            case rel => exact ⟨0 + 1, by omega, by go_num, p3, (K.alloc _).drewN nq, (B.alloc _).keep ((Keep.refl [] _).drewN nq) (by simp)⟩
            case measure => simp [intOf]; omega
          | succ k =>
            obtain ⟨y, hy⟩ : ∃ y, s.snaps[k]? = some y := ⟨_, List.getElem?_eq_getElem (by omega)⟩
            have hpn : prevName s.snaps (k + 1) = y.name := by simp [prevName, hy]
            obtain ⟨a', ea, _, y0, _, _⟩ := snap_cells HR.out (K.alloc (.cells #[.string x.name, .int .i64 x.root, .int .i64 x.commit] 81)) (by simp) hy
            cases ea
            have hle := leq_less x.name y.name
            rw [hpn] at p2 P2
            have hkI : ((k : Int) < s.snaps.length) := by omega
            have hk1 : (((k + 1 : Nat) : Int) - 1) = (k : Int) := by omega
            clear hy hpn
            cases hb : Op.bytesLess y.name.data.toList x.name.data.toList with
            | true =>
              rw [hb] at hle
              have p3 := p2 hb
              clear p2 hb
              go_quiet (fail)
              go_wp2
              go_roundw
              case rel => exact ⟨k + 1 + 1, by omega, by go_num, p3, (K.alloc _).drewN nq, (B.alloc _).keep ((Keep.refl [] _).drewN nq) (by simp)⟩
              case measure => simp [intOf]; omega
            | false =>
              rw [hb] at hle
              clear p2
              go_quiet (fail)
              go_wp2
              go_ret
              exact ⟨by rw [P2.out, hb]; rfl, (K.alloc _).drewN nq⟩
        · go_wp2
          go_ret
          exact ⟨by rw [right_end hR (by omega)]; rfl, K⟩
  · have hf : Sp.right s = false := by
      cases e : Sp.right s with
      | false => rfl
      | true =>
        have b := Sp.right_bd e
        exact absurd ⟨b.g0, b.g1, b.n0, b.n1, b.c0, b.c1, b.l⟩ hh
    have HF := Lib.hid (HQ.out.trans hf)
    have HH := Lib.hid hh
    clear hf hh
    by_cases a0 : 1 ≤ s.gen
    rotate_left
    · go_enter Try.func59, Try.ntmps59
      go_wp2
      go_ret
      exact ⟨by rw [HF.out]; rfl, (Keep.refl _ _).alloc _⟩
    by_cases a1 : s.gen ≤ 281474976710655
    rotate_left
    · go_enter Try.func59, Try.ntmps59
      go_wp2
      go_ret
      exact ⟨by rw [HF.out]; rfl, (Keep.refl _ _).alloc _⟩
    by_cases a2 : 2 ≤ s.next
    rotate_left
    · go_enter Try.func59, Try.ntmps59
      go_wp2
      go_ret
      exact ⟨by rw [HF.out]; rfl, (Keep.refl _ _).alloc _⟩
    by_cases a3 : s.next ≤ 1073741824
    rotate_left
    · go_enter Try.func59, Try.ntmps59
      go_wp2
      go_ret
      exact ⟨by rw [HF.out]; rfl, (Keep.refl _ _).alloc _⟩
    by_cases a4 : 0 ≤ s.commit
    rotate_left
    · go_enter Try.func59, Try.ntmps59
      go_wp2
      go_ret
      exact ⟨by rw [HF.out]; rfl, (Keep.refl _ _).alloc _⟩
    by_cases a5 : s.commit ≤ 281474976710655
    rotate_left
    · go_enter Try.func59, Try.ntmps59
      go_wp2
      go_ret
      exact ⟨by rw [HF.out]; rfl, (Keep.refl _ _).alloc _⟩
    by_cases a6 : (s.snaps.length : Int) ≤ 8
    rotate_left
    · go_enter Try.func59, Try.ntmps59
      go_wp2
      go_ret
      exact ⟨by rw [HF.out]; rfl, (Keep.refl _ _).alloc _⟩
    exact absurd ⟨a0, a1, a2, a3, a4, a5, by omega⟩ HH.out
end Go.Proofs.Yteogkgjajhdhjaa
