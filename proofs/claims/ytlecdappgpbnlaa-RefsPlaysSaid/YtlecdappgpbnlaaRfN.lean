/-
  Do both tell the same of themselves, and of a block? A list of steps among a law's arguments. No condition but that the receivers are ones that New made, or later ones.
-/
import Derived.Test.YtlecdappgpbnlaaRfM
namespace Go.Proofs.Ytlecdappgpbnlaa
open Go.RowKit Go.ChangeShapes Go.WideShapes Go.ChangeAt Go.Deep

set_option maxRecDepth 100000 in
set_option maxHeartbeats 3200000 in
theorem same_any (r bm p : Nat) (v : Value) (f : Int → Int) (B low n : Int) (w : World) (h1 : IsRf w r bm f B low) (h2 : IsRR w p v f B) (hn0 : -9223372036854775808 ≤ n) (hn1 : n ≤ 9223372036854775807) :
    Calls Try.prog 22 #[.pointer (some ⟨r, 0, none⟩), .pointer (some ⟨p, 0, none⟩), .int .i64 n] w fun e w' => e = .returned (.bool true) ∧ Keep [] w w' := by
  have I := Lib.hid h1
  have Q := Lib.hid h2
  have hb1 := h1.good.b1
  have hlc := Rf.cntN_le f B.toNat
  have hle := used_le (f := f) hb1
  obtain ⟨c0, c1, _⟩ := h2.cells
  obtain ⟨ao, cc, rfl⟩ := h2.row.len
  obtain ⟨L, hL⟩ : ∃ L, L = Rf.used f B.toNat := ⟨_, rfl⟩
  have hrow := h2.row
  have hpw := h2.blk.lt
  have hbnd : ∀ x ∈ L, -9223372036854775808 ≤ x ∧ x ≤ 9223372036854775807 := fun x hx => by
    rw [hL] at hx
    have := Rf.mem_used.1 hx
    omega
  rw [← hL] at c1 hrow hle
  have HBN := Lib.hid hbnd
  have hf1 : f 1 = 0 := h1.good.out (Or.inl (by omega))
  clear h1 h2 hL hbnd
  go_enter Try.func22, Try.ntmps22
  go_wp2_with fail
  refine (rused_any r bm f B low w I.out).mono ?_
  rintro e w1 ⟨v1, rfl, o1, k1⟩
  go_wp2_with fail
  refine (qused_any p _ f B w1 (Q.out.keep k1 (by simp) (by simp))).mono ?_
  rintro e w2 ⟨v2, rfl, o2, k2⟩
  have K2 := k1.trans k2 (by simp)
  have r1 := (RdV.ofOwn o1).keep k2 (by simp)
  have r2 := RdV.ofOwn o2
  have cN := numbers_any v1 v2 (Rf.cntN f B.toNat) (Rf.used f B.toNat) w2 r1 r2 (by omega)
  clear o1 o2 r1 r2 k1 k2
  go_wp2_with fail
  refine cN.mono ?_
  rintro e w3 ⟨rfl, k3⟩
  have K3 := K2.trans k3 (by simp)
  clear cN k3 K2
  obtain ⟨F, hF⟩ : ∃ F : Int, F = B - 2 - (Rf.cntN f B.toNat : Int) := ⟨_, rfl⟩
  have cF1 := rfree_any r bm f B low w3 (I.out.keep K3 (by simp) (by simp))
  rw [← hF] at cF1
  have HF := Lib.hid hF
  clear hF
  go_wp2_with fail
  refine cF1.mono ?_
  rintro e w4 ⟨rfl, k4⟩
  have K4 := K3.trans k4 (by simp)
  have cF2 := qfree_any p _ f B w4 (Q.out.keep K4 (by simp) (by simp))
  rw [← HF.out] at cF2
  go_wp2_with fail
  refine cF2.mono ?_
  rintro e w5 ⟨rfl, k5⟩
  have K5 := K4.trans k5 (by simp)
  have iw := I.out.keep K5 (by simp) (by simp)
  have qw := Q.out.keep K5 (by simp) (by simp)
  have hFF : (F != F) = false := by simp
  clear cF1 cF2 k4 k5 K3 K4
  go_wp2_with fail
  refine (rcount_any r bm f B low n w5 iw hn0 hn1).mono ?_
  rintro e w6 ⟨rfl, rfl⟩
  go_wp2_with fail
  refine (qcount_any p _ f B n w5 qw).mono ?_
  rintro e w6 ⟨rfl, rfl⟩
  have hnn : (f n != f n) = false := by simp
  have c01 := rcount_any r bm f B low 1 w5 iw (by omega) (by omega)
  rw [hf1] at c01
  clear hf1
  go_wp2_with fail
  refine c01.mono ?_
  rintro e w6 ⟨rfl, rfl⟩
  go_wp2_with fail
  go_loopw [8] (fun i wr => ∃ k : Nat, i = .int .i64 k ∧ k ≤ L.length ∧ Keep [] w wr) (fun i _ => L.length - (intOf i).toNat)
  case atStart => exact ⟨0, rfl, Nat.zero_le _, K5⟩
  case round =>
    obtain ⟨k, rfl, hk, K⟩ := hrel
    have c1r : wr.cell? ⟨p, 1, none⟩ = some (.slice ao L.length cc) := by rw [K.cell (by exact hpw) (by simp)]; exact c1
    by_cases hlt : k < L.length
    · obtain ⟨x, hxk⟩ : ∃ x, L[k]? = some x := ⟨_, List.getElem?_eq_getElem hlt⟩
      rcases hrow with ⟨h0, _⟩ | ⟨g, c, he, hg, hc, hx⟩
      · rw [h0] at hlt; simp at hlt
      cases he
      have q0 : wr.cell? ⟨g, k * 2, none⟩ = some (.int .i64 x) := by rw [K.cell (by exact hg) (by simp)]; exact (hx k x hxk).1
      have q1 : wr.cell? ⟨g, k * 2 + 1, none⟩ = some (.int .i64 (f x)) := by rw [K.cell (by exact hg) (by simp)]; exact (hx k x hxk).2
      have hxb := HBN.out x (List.mem_of_getElem? hxk)
      have q : ∀ m, Calls Try.prog 14 #[.pointer (some ⟨r, 0, none⟩), .int .i64 x] (wr.drewN m) fun e w' => e = .returned (.int .i64 (f x)) ∧ w' = wr.drewN m := fun m => by
        refine (rcount_any r bm f B low x (wr.drewN m) (I.out.keep (K.drewN m) (by simp) (by simp)) hxb.1 hxb.2).mono ?_
        rintro e w' ⟨he, rfl⟩
        exact ⟨he, rfl⟩
      have hxx : (f x != f x) = false := by simp
      clear hx hxk hxb
      go_wp2_with fail
      go_quiet (first | (go_at_call 14; exact Calls.quiet_of_same (q _)))
      go_wp2
      go_roundw
      case rel => exact ⟨k + 1, by go_num, by omega, K.drewN _⟩
      case measure => simp [intOf]; omega
    · obtain rfl : k = L.length := by omega
      go_wp2
      go_ret
      exact ⟨rfl, K⟩

theorem wf_i64s {n : Int} (h : (Lit.int .i64 n).wf = true) : -9223372036854775808 ≤ n ∧ n ≤ 9223372036854775807 := by
  simpa [Lit.wf, IntKind.min, IntKind.max, IntKind.signed, IntKind.bits] using h

/-- the steps among the arguments -/
def Steps (W : World) (v : Value) (l : List (Int × Int)) : Prop :=
  ∃ ao c, v = .slice ao l.length c ∧ l.length ≤ c ∧ l.length ≤ 9223372036854775807 ∧ (ao = none → l = []) ∧ (∀ x ∈ l, -9223372036854775808 ≤ x.2 ∧ x.2 ≤ 9223372036854775807) ∧
    ∀ a, ao = some a → ∀ (i : Nat) x, l[i]? = some x → W.cell? (a.add (i * 2)) = some (.int .i64 x.1) ∧ W.cell? { block := (a.add (i * 2)).block, off := (a.add (i * 2)).off + 1 } = some (.int .i64 x.2)

theorem open_steps {H : Type} {enc : TypeId × Value → H} {P : Program} {t e : TypeId} {f0 f1 : Field} (ht : P.underlying t = some (.slice e)) (he : P.underlying e = some (.struct #[f0, f1])) (ce : P.cellsOf e = 2)
    (o0 : f0.offset = 0) (o1 : f1.offset = 1) (c0 : P.cellsOf f0.type = 1) (c1 : P.cellsOf f1.type = 1) (t0 : P.underlying f0.type = some (.int .i64)) (t1 : P.underlying f1.type = some (.int .i64))
    {W : World} {base : Nat} {v : Value} {d : DataW H} {p : List MemPlace}
    (hval : Value.okWide P W .any base t v) (h : DataW.Trod enc P W 0 (fun _ => true) true t v d p) : ∃ l : List (Int × Int), Steps W v l := by
  obtain ⟨a0, len, cap, rfl⟩ := okWide_slice ht hval
  obtain ⟨fuel, hf⟩ := h
  rcases open_slice ht hf with ⟨hcs, hx⟩ | ⟨a, len', cap', m, n, D, Pl, hcs, _, hl, hm, hmm, _, hx⟩
  · simp [Value.cells] at hcs
    obtain ⟨rfl, rfl, rfl⟩ := hcs
    exact ⟨[], none, 0, rfl, Nat.le_refl _, by simp, fun _ => rfl, by simp, fun a ha => by cases ha⟩
  · simp [Value.cells] at hcs
    obtain ⟨rfl, rfl, rfl⟩ := hcs
    simp only [if_true] at hmm
    unfold maxLen at hm
    have key : ∀ i, i < len → ∃ f : Int × Int, (-9223372036854775808 ≤ f.2 ∧ f.2 ≤ 9223372036854775807) ∧ W.cell? (a.add (i * 2)) = some (.int .i64 f.1) ∧ W.cell? { block := (a.add (i * 2)).block, off := (a.add (i * 2)).off + 1 } = some (.int .i64 f.2) := by
      intro i hi
      obtain ⟨cs', h1, h2⟩ := hx i (by omega)
      rw [ce] at h1
      obtain ⟨_, hlen, hcell⟩ := World.cells?_some h1
      obtain ⟨xs, k, hk, hxy, _, hxl, hf⟩ := DataW.trod_struct he h2
      match xs, hxl, cs', hlen with
      | [y0, y1], _, [u0, u1], _ =>
        have g0 := hf 0 f0 rfl
        have g1 := hf 1 f1 rfl
        simp [o0, o1, c0, c1] at g0 g1
        obtain ⟨n0, e0, _, w0⟩ := DataW.trod_int t0 g0
        obtain ⟨n1, e1, _, w1⟩ := DataW.trod_int t1 g1
        simp only [List.cons.injEq, and_true] at e0 e1
        subst e0 e1
        refine ⟨(n0, n1), wf_i64s w1, ?_, ?_⟩
        · have := hcell 0 (by omega)
          rw [show (a.add (i * 2)).add 0 = a.add (i * 2) from rfl] at this
          exact this
        · have := hcell 1 (by omega)
          rw [show (a.add (i * 2)).add 1 = { block := (a.add (i * 2)).block, off := (a.add (i * 2)).off + 1 } from rfl] at this
          exact this
    obtain ⟨C, hC⟩ := choose_lt key
    refine ⟨(List.range len).map C, some a, cap, by simp, by simpa using hl, by simp; omega, (fun h => by cases h), fun x hx => ?_, fun a' ha' i x hx => ?_⟩
    · obtain ⟨i, hi, rfl⟩ := List.mem_map.1 hx
      exact (hC i (by simpa using hi)).1
    · cases ha'
      have hil : i < len := by have := (List.getElem?_eq_some_iff.1 hx).1; simpa using this
      rw [List.getElem?_map, List.getElem?_range hil] at hx
      have := Option.some.inj hx
      subst this
      exact (hC i hil).2
end Go.Proofs.Ytlecdappgpbnlaa
