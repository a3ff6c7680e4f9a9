/-
  Package refs: a Refs of the call's own; the small case with which each statement begins. No condition.
-/
import Derived.Test.YtlecdappgpbnlaaRfB
namespace Go.Proofs.Ytlecdappgpbnlaa
open Go.RowKit

/-- a Refs whose blocks are of the call's own: none is below W -/
structure LRf (W : Nat) (w : World) (r bm : Nat) (f : Int → Int) (B : Int) : Prop where
  is : ∃ low, IsRf w r bm f B low
  hr : W ≤ r
  hm : W ≤ bm

theorem LRf.keep {F : List Nat} {W : Nat} {w w' : World} {r bm : Nat} {f : Int → Int} {B : Int} (h : LRf W w r bm f B) (k : Keep F w w') (h1 : r ∉ F) (h2 : bm ∉ F) : LRf W w' r bm f B := by
  obtain ⟨⟨low, hi⟩, a, b⟩ := h
  exact ⟨⟨low, hi.keep k h1 h2⟩, a, b⟩

theorem LRf.lt {W : Nat} {w : World} {r bm : Nat} {f : Int → Int} {B : Int} (h : LRf W w r bm f B) : r < w.heap.size ∧ bm < w.heap.size := by
  obtain ⟨⟨low, hi⟩, _, _⟩ := h
  exact hi.lt

theorem LRf.congr {W : Nat} {w : World} {r bm : Nat} {f g : Int → Int} {B : Int} (h : LRf W w r bm f B) (e : ∀ k, f k = g k) : LRf W w r bm g B := by
  obtain rfl : f = g := funext e
  exact h

theorem lnew (x : Int) (w0 w : World) (K : Keep [] w0 w) (h0 : -9223372036854775808 ≤ x) (h1 : x ≤ 9223372036854775807) (B : Int) (hB : B = min (max x 2) 4294967296) :
    Calls Try.prog 9 #[.int .i64 x] w fun e w' => ∃ r bm, e = .returned (.pointer (some ⟨r, 0, none⟩)) ∧ LRf w0.heap.size w' r bm (fun _ => 0) B ∧ Keep [] w w' ∧ w.heap.size ≤ r ∧ w.heap.size ≤ bm :=
  (rnew_any x w h0 h1 B hB).mono fun _ _ ⟨r, bm, he, hi, a, b, k⟩ => ⟨r, bm, he, ⟨⟨2, hi⟩, Nat.le_trans K.size a, Nat.le_trans K.size b⟩, k, a, b⟩

theorem ltake (n : Int) {W : Nat} {w : World} {r bm : Nat} {f : Int → Int} {B : Int} (h : LRf W w r bm f B) (h2 : 2 ≤ n) (hB : n < B) (hz : f n = 0) (hu : ∀ k, 2 ≤ k → k < n → f k ≠ 0) :
    Calls Try.prog 10 #[.pointer (some ⟨r, 0, none⟩)] w fun e w' => e = .returned (.tuple #[.int .i64 n, .bool true]) ∧ LRf W w' r bm (Rf.upd f n 1) B ∧ Keep [r, bm] w w' := by
  obtain ⟨⟨low, hi⟩, a, b⟩ := h
  refine (rtake_any r bm f B low w hi).mono ?_
  rintro e w' ⟨k, ⟨m, low', m2, mB, mz, mu, rfl, hi'⟩ | ⟨hall, _, _⟩⟩
  · obtain rfl : m = n := by
      by_cases h1 : m < n
      · exact absurd mz (hu m m2 h1)
      · by_cases h3 : n < m
        · exact absurd hz (mu n h2 h3)
        · omega
    exact ⟨rfl, ⟨⟨low', hi'⟩, a, b⟩, k⟩
  · exact absurd hz (hall n h2 hB)

theorem ltake_none {W : Nat} {w : World} {r bm : Nat} {f : Int → Int} {B : Int} (h : LRf W w r bm f B) (hu : ∀ k, 2 ≤ k → k < B → f k ≠ 0) :
    Calls Try.prog 10 #[.pointer (some ⟨r, 0, none⟩)] w fun e w' => e = .returned (.tuple #[.int .i64 0, .bool false]) ∧ LRf W w' r bm f B ∧ Keep [r, bm] w w' := by
  obtain ⟨⟨low, hi⟩, a, b⟩ := h
  refine (rtake_any r bm f B low w hi).mono ?_
  rintro e w' ⟨k, ⟨m, low', m2, mB, mz, mu, rfl, hi'⟩ | ⟨hall, rfl, low', hi'⟩⟩
  · exact absurd mz (hu m m2 mB)
  · exact ⟨rfl, ⟨⟨low', hi'⟩, a, b⟩, k⟩

theorem ldec (k : Int) {W : Nat} {w : World} {r bm : Nat} {f : Int → Int} {B : Int} (h : LRf W w r bm f B) (h2 : 2 ≤ k) (hB : k < B) (hz : f k ≠ 0) (hf : f k ≤ 9223372036854775807) (b : Bool) (hb : (f k == 1) = b) :
    Calls Try.prog 11 #[.pointer (some ⟨r, 0, none⟩), .int .i64 k] w fun e w' => e = .returned (.tuple #[.bool b, .int .i64 0]) ∧ LRf W w' r bm (Rf.upd f k (f k - 1)) B ∧ Keep [r, bm] w w' := by
  obtain ⟨⟨low, hi⟩, p, q⟩ := h
  refine (rdec_any r bm f B low k w hi hf).mono ?_
  rintro e w' ⟨K, low', _, _, h3⟩
  obtain ⟨he, hi'⟩ := h3 h2 hB hz
  exact ⟨by rw [he, hb], ⟨⟨low', hi'⟩, p, q⟩, K⟩

theorem ldec_no (k : Int) {W : Nat} {w : World} {r bm : Nat} {f : Int → Int} {B : Int} (h : LRf W w r bm f B) (h2 : 2 ≤ k) (hB : k < B) (hz : f k = 0) :
    Calls Try.prog 11 #[.pointer (some ⟨r, 0, none⟩), .int .i64 k] w fun e w' => e = .returned (.tuple #[.bool false, .int .i64 13]) ∧ LRf W w' r bm f B ∧ Keep [r, bm] w w' := by
  obtain ⟨⟨low, hi⟩, p, q⟩ := h
  refine (rdec_any r bm f B low k w hi (by omega)).mono ?_
  rintro e w' ⟨K, low', _, h3, _⟩
  obtain ⟨he, hi'⟩ := h3 h2 hB hz
  exact ⟨he, ⟨⟨low', hi'⟩, p, q⟩, K⟩

theorem linc (k : Int) {W : Nat} {w : World} {r bm : Nat} {f : Int → Int} {B : Int} (h : LRf W w r bm f B) (h2 : 2 ≤ k) (hB : k < B) (hz : f k ≠ 0) (hf : f k < 9223372036854775807) :
    Calls Try.prog 16 #[.pointer (some ⟨r, 0, none⟩), .int .i64 k] w fun e w' => e = .returned (.int .i64 0) ∧ LRf W w' r bm (Rf.upd f k (f k + 1)) B ∧ Keep [r, bm] w w' := by
  obtain ⟨⟨low, hi⟩, p, q⟩ := h
  refine (rinc_any r bm f B low k w hi hf).mono ?_
  rintro e w' ⟨K, low', _, _, h3⟩
  obtain ⟨he, hi'⟩ := h3 h2 hB hz
  exact ⟨he, ⟨⟨low', hi'⟩, p, q⟩, K⟩

theorem linc_no (k : Int) {W : Nat} {w : World} {r bm : Nat} {f : Int → Int} {B : Int} (h : LRf W w r bm f B) (h2 : 2 ≤ k) (hB : k < B) (hz : f k = 0) :
    Calls Try.prog 16 #[.pointer (some ⟨r, 0, none⟩), .int .i64 k] w fun e w' => e = .returned (.int .i64 13) ∧ LRf W w' r bm f B ∧ Keep [r, bm] w w' := by
  obtain ⟨⟨low, hi⟩, p, q⟩ := h
  refine (rinc_any r bm f B low k w hi (by omega)).mono ?_
  rintro e w' ⟨K, low', _, h3, _⟩
  obtain ⟨he, hi'⟩ := h3 h2 hB hz
  exact ⟨he, ⟨⟨low', hi'⟩, p, q⟩, K⟩

theorem lmark (k : Int) {W : Nat} {w : World} {r bm : Nat} {f : Int → Int} {B : Int} (h : LRf W w r bm f B) (h2 : 2 ≤ k) (hB : k < B) (hf : f k < 9223372036854775807) (b : Bool) (hb : (f k == 0) = b) :
    Calls Try.prog 13 #[.pointer (some ⟨r, 0, none⟩), .int .i64 k] w fun e w' => e = .returned (.tuple #[.bool b, .int .i64 0]) ∧ LRf W w' r bm (Rf.upd f k (f k + 1)) B ∧ Keep [r, bm] w w' := by
  obtain ⟨⟨low, hi⟩, p, q⟩ := h
  refine (rmark_any r bm f B low k w hi hf).mono ?_
  rintro e w' ⟨K, low', _, h3⟩
  obtain ⟨he, hi'⟩ := h3 h2 hB
  exact ⟨by rw [he, hb], ⟨⟨low', hi'⟩, p, q⟩, K⟩

theorem lmark_no (k : Int) {W : Nat} {w : World} {r bm : Nat} {f : Int → Int} {B : Int} (h : LRf W w r bm f B) (hk : k < 2 ∨ B ≤ k) :
    Calls Try.prog 13 #[.pointer (some ⟨r, 0, none⟩), .int .i64 k] w fun e w' => e = .returned (.tuple #[.bool false, .int .i64 1]) ∧ LRf W w' r bm f B ∧ Keep [r, bm] w w' := by
  obtain ⟨⟨low, hi⟩, p, q⟩ := h
  have hz : f k = 0 := hi.good.out hk
  refine (rmark_any r bm f B low k w hi (by omega)).mono ?_
  rintro e w' ⟨K, low', h3, _⟩
  obtain ⟨he, hi'⟩ := h3 hk
  exact ⟨he, ⟨⟨low', hi'⟩, p, q⟩, K⟩

theorem lfree {W : Nat} {w : World} {r bm : Nat} {f : Int → Int} {B : Int} (h : LRf W w r bm f B) (n : Int) (hn : B - 2 - Rf.cntN f B.toNat = n) :
    Calls Try.prog 12 #[.pointer (some ⟨r, 0, none⟩)] w fun e w' => e = .returned (.int .i64 n) ∧ Keep [] w w' := by
  obtain ⟨⟨low, hi⟩, p, q⟩ := h
  refine (rfree_any r bm f B low w hi).mono ?_
  rintro e w' ⟨rfl, K⟩
  exact ⟨by rw [hn], K⟩

theorem lcount {W : Nat} {w : World} {r bm : Nat} {f : Int → Int} {B : Int} (h : LRf W w r bm f B) (k : Int) (h0 : -9223372036854775808 ≤ k) (h1 : k ≤ 9223372036854775807) :
    Calls Try.prog 14 #[.pointer (some ⟨r, 0, none⟩), .int .i64 k] w fun e w' => e = .returned (.int .i64 (f k)) ∧ w = w' := by
  obtain ⟨⟨low, hi⟩, p, q⟩ := h
  exact rcount_any r bm f B low k w hi h0 h1

theorem LRf.good {W : Nat} {w : World} {r bm : Nat} {f : Int → Int} {B : Int} (h : LRf W w r bm f B) : (∀ k, 0 ≤ f k) ∧ (∀ k, f k ≠ 0 → 2 ≤ k ∧ k < B) ∧ 2 ≤ B ∧ B ≤ 4294967296 := by
  obtain ⟨⟨low, hi⟩, _, _⟩ := h
  exact ⟨hi.good.pos, hi.good.inn, hi.good.b0, hi.good.b1⟩

/-- the call's own blocks are turned: what lay there ahead of the call is as it was -/
theorem own_keep {w0 w w' : World} {r bm : Nat} (K : Keep [] w0 w) (k : Keep [r, bm] w w') (hr : w0.heap.size ≤ r) (hm : w0.heap.size ≤ bm) : Keep [] w0 w' :=
  K.trans k (by simp; exact ⟨hr, hm⟩)

set_option maxRecDepth 100000 in
set_option maxHeartbeats 1600000 in
theorem shown_any (w : World) : Calls Try.prog 8 #[] w fun e w' => e = .returned (.bool true) ∧ Keep [] w w' := by
  go_enter Try.func8, Try.ntmps8
  go_wp2_with fail
  refine (lnew 5 w w (Keep.refl _ _) (by omega) (by omega) 5 (by omega)).mono ?_
  rintro e w1 ⟨r, bm, rfl, h1, k1, _, _⟩
  have hr := h1.hr
  have hm := h1.hm
  go_wp2_with fail
  refine (ltake 2 h1 (by omega) (by omega) rfl (fun k a b => by omega)).mono ?_
  rintro e w2 ⟨rfl, h2, k⟩
  have K2 := own_keep k1 k hr hm
  clear k k1 h1
  go_wp2_with fail
  refine (ltake 3 h2 (by omega) (by omega) (by simp [Rf.upd]) (fun k a b => by obtain rfl : k = 2 := (by omega)
                                                                               simp [Rf.upd])).mono ?_
  rintro e w3 ⟨rfl, h3, k⟩
  have K3 := own_keep K2 k hr hm
  clear k K2 h2
  go_wp2_with fail
  refine (linc 2 h3 (by omega) (by omega) (by simp [Rf.upd]) (by simp [Rf.upd])).mono ?_
  rintro e w4 ⟨rfl, h4, k⟩
  have K4 := own_keep K3 k hr hm
  clear k K3 h3
  have h4' := h4.congr (g := fun k => if k = 2 then 2 else if k = 3 then 1 else 0) (fun k => by by_cases e2 : k = 2 <;> by_cases e3 : k = 3 <;> by_cases e4 : k = 4 <;> (try omega) <;> (try subst e2) <;> (try subst e3) <;> (try subst e4) <;> simp [Rf.upd, *])
  clear h4
  go_wp2_with fail
  refine (ldec 2 h4' (by omega) (by omega) (by simp) (by simp) false (by simp)).mono ?_
  rintro e w5 ⟨rfl, h5, k⟩
  have K5 := own_keep K4 k hr hm
  clear k K4 h4'
  have h5' := h5.congr (g := fun k => if k = 2 then 1 else if k = 3 then 1 else 0) (fun k => by by_cases e2 : k = 2 <;> by_cases e3 : k = 3 <;> by_cases e4 : k = 4 <;> (try omega) <;> (try subst e2) <;> (try subst e3) <;> (try subst e4) <;> simp [Rf.upd, *])
  clear h5
  go_wp2_with fail
  refine (ldec 2 h5' (by omega) (by omega) (by simp) (by simp) true (by simp)).mono ?_
  rintro e w6 ⟨rfl, h6, k⟩
  have K6 := own_keep K5 k hr hm
  clear k K5 h5'
  have h6' := h6.congr (g := fun k => if k = 3 then 1 else 0) (fun k => by by_cases e2 : k = 2 <;> by_cases e3 : k = 3 <;> by_cases e4 : k = 4 <;> (try omega) <;> (try subst e2) <;> (try subst e3) <;> (try subst e4) <;> simp [Rf.upd, *])
  clear h6
  go_wp2_with fail
  refine (ltake 2 h6' (by omega) (by omega) (by simp) (fun k a b => by omega)).mono ?_
  rintro e w7 ⟨rfl, h7, k⟩
  have K7 := own_keep K6 k hr hm
  clear k K6 h6'
  go_wp2_with fail
  refine (ltake 4 h7 (by omega) (by omega) (by simp [Rf.upd]) (fun k a b => by obtain rfl | rfl : k = 2 ∨ k = 3 := by omega
                                                                               all_goals simp [Rf.upd])).mono ?_
  rintro e w8 ⟨rfl, h8, k⟩
  have K8 := own_keep K7 k hr hm
  clear k K7 h7
  have h8' := h8.congr (g := fun k => if k = 2 then 1 else if k = 3 then 1 else if k = 4 then 1 else 0) (fun k => by by_cases e2 : k = 2 <;> by_cases e3 : k = 3 <;> by_cases e4 : k = 4 <;> (try omega) <;> (try subst e2) <;> (try subst e3) <;> (try subst e4) <;> simp [Rf.upd, *])
  clear h8
  go_wp2_with fail
  refine (ltake_none h8' (fun k a b => by obtain rfl | rfl | rfl : k = 2 ∨ k = 3 ∨ k = 4 := by omega
                                          all_goals simp)).mono ?_
  rintro e w9 ⟨rfl, h9, k⟩
  have K9 := own_keep K8 k hr hm
  clear k K8 h8'
  go_wp2_with fail
  refine (lfree h9 0 (by decide)).mono ?_
  rintro e w10 ⟨rfl, k⟩
  go_wp2
  go_ret
  exact ⟨rfl, K9.trans k (by simp)⟩

end Go.Proofs.Ytlecdappgpbnlaa
