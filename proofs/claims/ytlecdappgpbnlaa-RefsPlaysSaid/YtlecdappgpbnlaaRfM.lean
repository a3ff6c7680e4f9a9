/-
  A step on both; do they tell the same of themselves? No condition but that the receivers are ones that New made, or later ones.
-/
import Derived.Test.YtlecdappgpbnlaaRfL
namespace Go.Proofs.Ytlecdappgpbnlaa
open Go.RowKit

/-- what a call on refs.Refs leaves, and one on the document's -/
abbrev RL (r bm : Nat) (f1 : Int → Int) (B : Int) (W W' : World) : Prop := (∃ low', IsRf W' r bm f1 B low') ∧ Keep [r, bm] W W'
abbrev QL (p : Nat) (v : Value) (f1 : Int → Int) (B : Int) (W W' : World) : Prop := (∃ v', IsRR W' p v' f1 B ∧ ∀ x ∈ rowOf v', x ∈ rowOf v ∨ W.heap.size ≤ x) ∧ Keep [p] W W'

theorem QL.same {p : Nat} {v : Value} {f : Int → Int} {B : Int} {W : World} (h : IsRR W p v f B) : QL p v f B W W := ⟨⟨v, h, fun _ hx => Or.inl hx⟩, Keep.refl _ _⟩
theorem QL.left {p : Nat} {v : Value} {f : Int → Int} {B : Int} {W W' : World} (h : QLeft W W' p f B) : QL p v f B W W' := by
  obtain ⟨⟨v', h1, h2⟩, k⟩ := h
  exact ⟨⟨v', h1, fun x hx => Or.inr (h2 x hx)⟩, k⟩

theorem upd_le {f : Int → Int} {n c : Int} (h : c ≤ f n + 1) : ∀ k, Rf.upd f n c k ≤ f k + 1 := fun k => by
  by_cases e : k = n
  · subst e; rw [Rf.upd_same]; exact h
  · rw [Rf.upd_other e]; omega

section
variable (r bm p : Nat) (v : Value) (f : Int → Int) (B n : Int) (hf : ∀ k, f k < 4611686018427387904)
include hf

theorem inc_both : ∃ (c : Int) (f1 : Int → Int), (∀ k, f1 k ≤ f k + 1) ∧ (∀ W low, IsRf W r bm f B low → Calls Try.prog 16 #[.pointer (some ⟨r, 0, none⟩), .int .i64 n] W fun e W' => e = .returned (.int .i64 c) ∧ RL r bm f1 B W W') ∧
    (∀ W, IsRR W p v f B → Calls Try.prog 32 #[.pointer (some ⟨p, 0, none⟩), .int .i64 n] W fun e W' => e = .returned (.int .i64 c) ∧ QL p v f1 B W W') := by
  by_cases h2 : 2 ≤ n
  · by_cases hB : n < B
    · by_cases hz : f n = 0
      · refine ⟨13, f, fun k => by omega, fun W low h => (rinc_any r bm f B low n W h (by have := hf n; omega)).mono ?_, fun W h => (qinc_state p v f B n W h h2 hB hz).mono ?_⟩
        · rintro e W' ⟨K, low', _, h3, _⟩
          exact ⟨(h3 h2 hB hz).1, ⟨low', (h3 h2 hB hz).2⟩, K⟩
        · rintro e W' ⟨rfl, rfl⟩
          exact ⟨rfl, QL.same h⟩
      · refine ⟨0, Rf.upd f n (f n + 1), upd_le (Int.le_refl _), fun W low h => (rinc_any r bm f B low n W h (by have := hf n; omega)).mono ?_, fun W h => (qinc_ok p v f B n W h h2 hB hz (by have := hf n; omega)).mono ?_⟩
        · rintro e W' ⟨K, low', _, _, h3⟩
          exact ⟨(h3 h2 hB hz).1, ⟨low', (h3 h2 hB hz).2⟩, K⟩
        · rintro e W' ⟨rfl, hl⟩
          exact ⟨rfl, QL.left hl⟩
    · refine ⟨1, f, fun k => by omega, fun W low h => (rinc_any r bm f B low n W h (by have := hf n; omega)).mono ?_, fun W h => (qinc_out p v f B n W h (by omega)).mono ?_⟩
      · rintro e W' ⟨K, low', h3, _⟩
        exact ⟨(h3 (by omega)).1, ⟨low', (h3 (by omega)).2⟩, K⟩
      · rintro e W' ⟨rfl, rfl⟩
        exact ⟨rfl, QL.same h⟩
  · refine ⟨1, f, fun k => by omega, fun W low h => (rinc_any r bm f B low n W h (by have := hf n; omega)).mono ?_, fun W h => (qinc_out p v f B n W h (by omega)).mono ?_⟩
    · rintro e W' ⟨K, low', h3, _⟩
      exact ⟨(h3 (by omega)).1, ⟨low', (h3 (by omega)).2⟩, K⟩
    · rintro e W' ⟨rfl, rfl⟩
      exact ⟨rfl, QL.same h⟩

theorem dec_both : ∃ (a : Bool) (c : Int) (f1 : Int → Int), (∀ k, f1 k ≤ f k + 1) ∧ (∀ W low, IsRf W r bm f B low → Calls Try.prog 11 #[.pointer (some ⟨r, 0, none⟩), .int .i64 n] W fun e W' => e = .returned (.tuple #[.bool a, .int .i64 c]) ∧ RL r bm f1 B W W') ∧
    (∀ W, IsRR W p v f B → Calls Try.prog 33 #[.pointer (some ⟨p, 0, none⟩), .int .i64 n] W fun e W' => e = .returned (.tuple #[.bool a, .int .i64 c]) ∧ QL p v f1 B W W') := by
  by_cases h2 : 2 ≤ n
  · by_cases hB : n < B
    · by_cases hz : f n = 0
      · refine ⟨false, 13, f, fun k => by omega, fun W low h => (rdec_any r bm f B low n W h (by have := hf n; omega)).mono ?_, fun W h => (qdec_state p v f B n W h h2 hB hz).mono ?_⟩
        · rintro e W' ⟨K, low', _, h3, _⟩
          exact ⟨(h3 h2 hB hz).1, ⟨low', (h3 h2 hB hz).2⟩, K⟩
        · rintro e W' ⟨rfl, rfl⟩
          exact ⟨rfl, QL.same h⟩
      · refine ⟨f n == 1, 0, Rf.upd f n (f n - 1), upd_le (by omega), fun W low h => (rdec_any r bm f B low n W h (by have := hf n; omega)).mono ?_, fun W h => (qdec_ok p v f B n W h h2 hB hz (by have := hf n; omega)).mono ?_⟩
        · rintro e W' ⟨K, low', _, _, h3⟩
          exact ⟨(h3 h2 hB hz).1, ⟨low', (h3 h2 hB hz).2⟩, K⟩
        · rintro e W' ⟨rfl, hl⟩
          exact ⟨rfl, QL.left hl⟩
    · refine ⟨false, 1, f, fun k => by omega, fun W low h => (rdec_any r bm f B low n W h (by have := hf n; omega)).mono ?_, fun W h => (qdec_out p v f B n W h (by omega)).mono ?_⟩
      · rintro e W' ⟨K, low', h3, _⟩
        exact ⟨(h3 (by omega)).1, ⟨low', (h3 (by omega)).2⟩, K⟩
      · rintro e W' ⟨rfl, rfl⟩
        exact ⟨rfl, QL.same h⟩
  · refine ⟨false, 1, f, fun k => by omega, fun W low h => (rdec_any r bm f B low n W h (by have := hf n; omega)).mono ?_, fun W h => (qdec_out p v f B n W h (by omega)).mono ?_⟩
    · rintro e W' ⟨K, low', h3, _⟩
      exact ⟨(h3 (by omega)).1, ⟨low', (h3 (by omega)).2⟩, K⟩
    · rintro e W' ⟨rfl, rfl⟩
      exact ⟨rfl, QL.same h⟩

theorem mark_both : ∃ (a : Bool) (c : Int) (f1 : Int → Int), (∀ k, f1 k ≤ f k + 1) ∧ (∀ W low, IsRf W r bm f B low → Calls Try.prog 13 #[.pointer (some ⟨r, 0, none⟩), .int .i64 n] W fun e W' => e = .returned (.tuple #[.bool a, .int .i64 c]) ∧ RL r bm f1 B W W') ∧
    (∀ W, IsRR W p v f B → Calls Try.prog 34 #[.pointer (some ⟨p, 0, none⟩), .int .i64 n] W fun e W' => e = .returned (.tuple #[.bool a, .int .i64 c]) ∧ QL p v f1 B W W') := by
  by_cases h2 : 2 ≤ n ∧ n < B
  · refine ⟨f n == 0, 0, Rf.upd f n (f n + 1), upd_le (Int.le_refl _), fun W low h => (rmark_any r bm f B low n W h (by have := hf n; omega)).mono ?_, fun W h => (qmark_ok p v f B n W h h2.1 h2.2 (by have := hf n; omega)).mono ?_⟩
    · rintro e W' ⟨K, low', _, h3⟩
      exact ⟨(h3 h2.1 h2.2).1, ⟨low', (h3 h2.1 h2.2).2⟩, K⟩
    · rintro e W' ⟨rfl, hl⟩
      exact ⟨rfl, QL.left hl⟩
  · refine ⟨false, 1, f, fun k => by omega, fun W low h => (rmark_any r bm f B low n W h (by have := hf n; omega)).mono ?_, fun W h => (qmark_out p v f B n W h (by omega)).mono ?_⟩
    · rintro e W' ⟨K, low', h3, _⟩
      exact ⟨(h3 (by omega)).1, ⟨low', (h3 (by omega)).2⟩, K⟩
    · rintro e W' ⟨rfl, rfl⟩
      exact ⟨rfl, QL.same h⟩
end

/-- what a step leaves -/
def DoesOut (r bm p : Nat) (v : Value) (f : Int → Int) (B : Int) (w w' : World) : Prop :=
  ∃ (f1 : Int → Int) (low' : Int) (v' : Value), (∀ k, f1 k ≤ f k + 1) ∧ IsRf w' r bm f1 B low' ∧ IsRR w' p v' f1 B ∧ (∀ x ∈ rowOf v', x ∈ rowOf v ∨ w.heap.size ≤ x) ∧ Keep [r, bm, p] w w'

/-- first the one, then the other -/
theorem does_end {r bm p : Nat} {v : Value} {f f1 : Int → Int} {B : Int} {w0 w w1 w2 : World} (hw : Keep [] w0 w) (hs : p ≠ r ∧ p ≠ bm) (hle : ∀ k, f1 k ≤ f k + 1) (h1 : RL r bm f1 B w w1) (h2 : QL p v f1 B w1 w2) : DoesOut r bm p v f B w0 w2 := by
  obtain ⟨⟨low', hi⟩, k1⟩ := h1
  obtain ⟨⟨v', hq, hrow⟩, k2⟩ := h2
  refine ⟨f1, low', v', hle, hi.keep k2 (by simp; exact fun e => hs.1 e.symm) (by simp; exact fun e => hs.2 e.symm), hq, fun x hx => ?_, ((hw.mono (G := [r, bm, p]) (by simp)).trans (k1.mono (G := [r, bm, p]) (by simp)) (by simp)).trans (k2.mono (G := [r, bm, p]) (by simp)) (by simp)⟩
  rcases hrow x hx with h | h
  · exact Or.inl h
  · have := k1.size; have := hw.size; exact Or.inr (by omega)

theorem does_end' {r bm p : Nat} {v : Value} {f f1 : Int → Int} {B : Int} {w0 w w1 w2 : World} (hw : Keep [] w0 w) (hs : p ≠ r ∧ p ≠ bm) (hv : ∀ x ∈ rowOf v, x ≠ r ∧ x ≠ bm) (hr : r < w.heap.size ∧ bm < w.heap.size) (hle : ∀ k, f1 k ≤ f k + 1) (h2 : QL p v f1 B w w1) (h1 : RL r bm f1 B w1 w2) : DoesOut r bm p v f B w0 w2 := by
  obtain ⟨⟨low', hi⟩, k1⟩ := h1
  obtain ⟨⟨v', hq, hrow⟩, k2⟩ := h2
  refine ⟨f1, low', v', hle, hi, hq.keep k1 (by simp; exact hs) (fun x hx => ?_), fun x hx => ?_, ((hw.mono (G := [r, bm, p]) (by simp)).trans (k2.mono (G := [r, bm, p]) (by simp)) (by simp)).trans (k1.mono (G := [r, bm, p]) (by simp)) (by simp)⟩
  · simp only [List.mem_cons, List.not_mem_nil, or_false]
    rcases hrow x hx with h | h
    · rintro (e | e)
      · exact (hv x h).1 e
      · exact (hv x h).2 e
    · rintro (e | e) <;> omega
  · rcases hrow x hx with h | h
    · exact Or.inl h
    · have := hw.size; exact Or.inr (by omega)

set_option maxRecDepth 100000 in
set_option maxHeartbeats 6400000 in
/-- a step on both: they answer the same -/
theorem does_any (r bm p : Nat) (v : Value) (f : Int → Int) (B low kind n : Int) (w : World) (h1 : IsRf w r bm f B low) (h2 : IsRR w p v f B) (hs : p ≠ r ∧ p ≠ bm) (hv : ∀ x ∈ rowOf v, x ≠ r ∧ x ≠ bm) (hf : ∀ k, f k < 4611686018427387904) :
    Calls Try.prog 21 #[.pointer (some ⟨r, 0, none⟩), .pointer (some ⟨p, 0, none⟩), .agg #[.int .i64 kind, .int .i64 n]] w fun e w' => e = .returned (.bool true) ∧ DoesOut r bm p v f B w w' := by
  have k0 : Keep [] w (w.alloc (.cells #[.int .i64 kind, .int .i64 n] 46)) := (Keep.refl [] w).alloc _
  have b0 := Blk.new' w [.int .i64 kind, .int .i64 n] 46
  have i0 := h1.keep k0 (by simp) (by simp)
  have q0 := h2.keep k0 (by simp) (by simp)
  obtain ⟨hr, hbm⟩ := i0.lt
  have hlt : ∀ x, x = r ∨ x = bm ∨ x = p → x < w.heap.size := fun x hx => by
    have := h1.lt; have := h2.blk.lt
    rcases hx with rfl | rfl | rfl <;> omega
  have hbx : ∀ W, Keep [r, bm, p] (w.alloc (.cells #[.int .i64 kind, .int .i64 n] 46)) W → W.cell? ⟨w.heap.size, 1, none⟩ = some (.int .i64 n) := fun W k => by
    rw [k.cell (show w.heap.size < _ by exact b0.lt) (by simp; have := hlt r (by simp); have := hlt bm (by simp); have := hlt p (by simp); omega)]
    exact b0.cell 1
  have HBX := Lib.hid hbx
  have e0 := b0.cell 0
  have e1 := b0.cell 1
  simp only [List.getElem?_cons_zero, List.getElem?_cons_succ] at e0 e1
  have HF := Lib.hid hf
  have HV := Lib.hid hv
  clear b0 hbx hlt h1 h2 hf hv
  by_cases hk1 : kind = 1
  · subst hk1
    obtain ⟨c, f1, hle, cR, cQ⟩ := inc_both r bm p v f B n HF.out
    have HLE := Lib.hid hle
    clear hle
    go_enter Try.func21, Try.ntmps21
    go_wp2_with fail
    have kd : Keep [] (w.alloc (.cells #[.int .i64 1, .int .i64 n] 46)) (w.alloc (.cells #[.int .i64 1, .int .i64 n] 46)).drew := (Keep.refl [] _).drew
    have kwd := k0.trans kd (by simp)
    have id := i0.keep kd (by simp) (by simp)
    have qd := q0.keep kd (by simp) (by simp)
    have cR1 := cR _ _ id
    have cQ1 := cQ _ qd
    have hmk : ∀ W, RL r bm f1 B (w.alloc (.cells #[.int .i64 1, .int .i64 n] 46)).drew W → W.cell? ⟨w.heap.size, 1, none⟩ = some (.int .i64 n) ∧ IsRR W p v f B := fun W h =>
      ⟨HBX.out W ((kd.mono (by simp)).trans (h.2.mono (G := [r, bm, p]) (by simp)) (by simp)), qd.keep h.2 (by simp; exact hs) (fun x hx => by have := HV.out x hx; simp; exact this)⟩
    have hmq : ∀ W, QL p v f1 B (w.alloc (.cells #[.int .i64 1, .int .i64 n] 46)).drew W → W.cell? ⟨w.heap.size, 1, none⟩ = some (.int .i64 n) ∧ IsRf W r bm f B low := fun W h =>
      ⟨HBX.out W ((kd.mono (by simp)).trans (h.2.mono (G := [r, bm, p]) (by simp)) (by simp)), id.keep h.2 (by simp; exact fun e => hs.1 e.symm) (by simp; exact fun e => hs.2 e.symm)⟩
    have HMK := Lib.hid hmk
    have HMQ := Lib.hid hmq
    have eD : (w.alloc (.cells #[.int .i64 1, .int .i64 n] 46)).drew.cell? ⟨w.heap.size, 1, none⟩ = some (.int .i64 n) := e1
    clear hmk hmq
    go_region_with (first
      | (go_at_call 16; refine cR1.mono ?_; rintro e wA ⟨rfl, hR⟩; obtain ⟨eA, qA⟩ := HMK.out wA hR; have cQ2 := cQ wA qA)
      | (go_at_call 32; refine cQ1.mono ?_; rintro e wB ⟨rfl, hQ⟩; obtain ⟨eB, iB⟩ := HMQ.out wB hQ; have cR2 := cR wB _ iB)
      | (go_at_call 32; refine cQ2.mono ?_; rintro e w2 ⟨rfl, hQ2⟩)
      | (go_at_call 16; refine cR2.mono ?_; rintro e w2 ⟨rfl, hR2⟩))
    all_goals
      go_simp
      go_wp2
      go_ret
      first
        | exact ⟨by simp, does_end kwd hs HLE.out hR hQ2⟩
        | exact ⟨by simp, does_end' kwd hs HV.out ⟨id.lt.1, id.lt.2⟩ HLE.out hQ hR2⟩
  · by_cases hk2 : kind = 2
    · subst hk2
      obtain ⟨a, c, f1, hle, cR, cQ⟩ := dec_both r bm p v f B n HF.out
      have HLE := Lib.hid hle
      clear hle
      go_enter Try.func21, Try.ntmps21
      go_wp2_with fail
      refine (cR _ _ i0).mono ?_
      rintro e w1 ⟨rfl, hR⟩
      have e1' := HBX.out w1 (hR.2.mono (by simp))
      have q1 := q0.keep hR.2 (by simp; exact hs) (fun x hx => by have := HV.out x hx; simp; exact this)
      go_wp2_with fail
      refine (cQ _ q1).mono ?_
      rintro e w2 ⟨rfl, hQ⟩
      go_wp2
      go_ret
      exact ⟨by simp, does_end k0 hs HLE.out hR hQ⟩
    · by_cases hk3 : kind = 3
      · subst hk3
        obtain ⟨a, c, f1, hle, cR, cQ⟩ := mark_both r bm p v f B n HF.out
        have HLE := Lib.hid hle
        clear hle
        go_enter Try.func21, Try.ntmps21
        go_wp2_with fail
        refine (cR _ _ i0).mono ?_
        rintro e w1 ⟨rfl, hR⟩
        have e1' := HBX.out w1 (hR.2.mono (by simp))
        have q1 := q0.keep hR.2 (by simp; exact hs) (fun x hx => by have := HV.out x hx; simp; exact this)
        go_wp2_with fail
        refine (cQ _ q1).mono ?_
        rintro e w2 ⟨rfl, hQ⟩
        go_wp2
        go_ret
        exact ⟨by simp, does_end k0 hs HLE.out hR hQ⟩
      · have b1 : (kind == 1) = false := by rw [beq_eq_false_iff_ne]; exact hk1
        have b2 : (kind == 2) = false := by rw [beq_eq_false_iff_ne]; exact hk2
        have b3 : (kind == 3) = false := by rw [beq_eq_false_iff_ne]; exact hk3
        clear hk1 hk2 hk3
        go_enter Try.func21, Try.ntmps21
        go_wp2_with fail
        refine (rtake_any r bm f B low _ i0).mono ?_
        rintro e w1 ⟨k1, ⟨m, low', m2, mB, mz, mu, rfl, hi'⟩ | ⟨hall, rfl, low', hi'⟩⟩
        · have q1 := q0.keep k1 (by simp; exact hs) (fun x hx => by have := HV.out x hx; simp; exact this)
          have cT := qtake_any p v f B m w1 q1 m2 (by omega) mu (fun _ => mz)
          have hR : RL r bm (Rf.upd f m 1) B (w.alloc (.cells #[.int .i64 kind, .int .i64 n] 46)) w1 := ⟨⟨low', hi'⟩, k1⟩
          have HLE : Hid (∀ k, Rf.upd f m 1 k ≤ f k + 1) := Lib.hid (upd_le (by rw [mz]; omega))
          have HMB := Lib.hid mB
          clear mu mz hi' k1 mB
          go_wp2_with fail
          refine cT.mono ?_
          rintro e w2 ⟨hT, _⟩
          obtain ⟨rfl, hQ⟩ := hT HMB.out
          go_wp2
          go_ret
          exact ⟨by simp, does_end k0 hs HLE.out hR (QL.left hQ)⟩
        · have q1 := q0.keep k1 (by simp; exact hs) (fun x hx => by have := HV.out x hx; simp; exact this)
          have cT := qtake_any p v f B B w1 q1 q1.good.b0 (Int.le_refl _) hall (fun h => absurd h (by omega))
          have hR : RL r bm f B (w.alloc (.cells #[.int .i64 kind, .int .i64 n] 46)) w1 := ⟨⟨low', hi'⟩, k1⟩
          have HQ := Lib.hid q1
          clear hall hi' k1
          go_wp2_with fail
          refine cT.mono ?_
          rintro e w2 ⟨_, hT⟩
          obtain ⟨rfl, rfl⟩ := hT (by first | rfl | trivial)
          go_wp2
          go_ret
          exact ⟨by simp, does_end k0 hs (fun k => by omega) hR (QL.same HQ.out)⟩
end Go.Proofs.Ytlecdappgpbnlaa
