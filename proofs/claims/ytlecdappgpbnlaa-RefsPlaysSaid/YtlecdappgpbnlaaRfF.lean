/-
  Package refs: Same. No condition.
-/
import Derived.Test.YtlecdappgpbnlaaRfE
namespace Go.Proofs.Ytlecdappgpbnlaa
open Go.RowKit Go.Maps Go.Sort Go.Shelf

/-- two elements, as they read: are they the same number? -/
def sameD {H : Type} : DataW H → DataW H → Bool
  | .lit (.int _ x), .lit (.int _ y) => x == y
  | _, _ => false

theorem neq_int {H : Type} (W : World) (x y : Value) (xd yd : DataW H) (xp yp : List MemPlace) (hx : plainElem Try.prog 3 x = some (xd, xp)) (hy : plainElem Try.prog 3 y = some (yd, yp)) :
    (binOp .neq 3 x y).run Try.prog W = .ok (.bool (!sameD xd yd)) W ∧ ∀ (a b : Operand), (eqGuard .neq 3 a b x y).run Try.prog W = .ok () W := by
  obtain ⟨a, rfl, h1, _⟩ := plainElem_int_inv Try.underlying3 hx
  obtain ⟨b, rfl, h2, _⟩ := plainElem_int_inv Try.underlying3 hy
  obtain rfl : xd = .lit (.int .i64 a) := by simpa using (congrArg Prod.fst h1)
  obtain rfl : yd = .lit (.int .i64 b) := by simpa using (congrArg Prod.fst h2)
  refine ⟨?_, fun _ _ => by rw [eqGuard_at_int]; rfl⟩
  simp [go_sem, sameD, binOp]
  rfl

theorem equal_iff {w w' : World} {b b' n n' : Nat} {D D' : DataW Unit} {f g : Int → Int} {m : Nat} (o : w.ownsMap Try.prog 3 (plainElem Try.prog 3) b n D) (_o' : w'.ownsMap Try.prog 3 (plainElem Try.prog 3) b' n' D')
    (hat : ∀ k : Int, D.atKey (.int .i64 k) (.lit (.int .i64 0)) = .lit (.int .i64 (f k))) (hhas : ∀ k : Int, Maps.has D (.int .i64 k) = decide (f k ≠ 0)) (hsz : Maps.size D = Rf.cntN f m) (_hin : ∀ k, f k ≠ 0 → 0 ≤ k ∧ k < m)
    (hat' : ∀ k : Int, D'.atKey (.int .i64 k) (.lit (.int .i64 0)) = .lit (.int .i64 (g k))) (hhas' : ∀ k : Int, Maps.has D' (.int .i64 k) = decide (g k ≠ 0)) (hsz' : Maps.size D' = Rf.cntN g m) (hin' : ∀ k, g k ≠ 0 → 0 ≤ k ∧ k < m) :
    Lib.equalFuncD sameD D D' = true ↔ ∀ k, f k = g k := by
  obtain ⟨es, hD, hpw, _⟩ := o.entries law3
  obtain ⟨es', hD', hko⟩ := o.keysOf
  obtain rfl : es = es' := by rw [hD] at hD'; simpa using hD'
  have hkey : ∀ p ∈ es, ∃ x, p.1 = .int .i64 x := fun p hp => by
    obtain ⟨v, hv⟩ := hko p hp
    obtain ⟨x, _, hx, _⟩ := Maps.keyOf_i64 Try.underlying3 hv
    exact ⟨x, hx⟩
  have hgood : ∀ p ∈ es, ∀ x, p.1 = .int .i64 x → f x ≠ 0 ∧ p.2 = .lit (.int .i64 (f x)) := fun p hp x hx => by
    have hh : Maps.has D (.int .i64 x) = true := by
      rw [hD, has_eq, List.any_eq_true]
      exact ⟨p, hp, by rw [hx]; simp [Lit.sameKey]⟩
    have h2 : f x ≠ 0 := by rw [hhas x] at hh; simpa using hh
    refine ⟨h2, ?_⟩
    have h3 := hat x
    rw [hD] at h3
    rw [← h3, ← hx]
    exact (WideAt.atKey_mem _ (by rw [hx]; trivial) hpw hp).symm
  have hgd : ∀ x, f x ≠ 0 → (Lib.goodD sameD D' (.int .i64 x, .lit (.int .i64 (f x))) = true ↔ f x = g x) := fun x hx => by
    unfold Lib.goodD
    simp only
    rw [hhas' x]
    by_cases hg : g x = 0
    · simp [hg, hx]
    · have h1 : Maps.has D' (.int .i64 x) = true := by rw [hhas' x]; simp [hg]
      rw [atKey_indep h1 .nil (.lit (.int .i64 0)), hat' x]
      simp [sameD, hg]
  have hall : (Lib.entriesD D).all (Lib.goodD sameD D') = true ↔ ∀ x, f x ≠ 0 → f x = g x := by
    rw [hD]
    show es.all _ = true ↔ _
    rw [List.all_eq_true]
    constructor
    · intro h x hx
      have hh : Maps.has D (.int .i64 x) = true := by rw [hhas x]; simp [hx]
      rw [hD, has_eq, List.any_eq_true] at hh
      obtain ⟨p, hp, hs⟩ := hh
      have hp1 : p.1 = .int .i64 x := WideAt.sameKey_eq hs
      have h3 := h p hp
      rw [show p = (.int .i64 x, .lit (.int .i64 (f x))) from Prod.ext hp1 (hgood p hp x hp1).2] at h3
      exact (hgd x hx).1 h3
    · intro h p hp
      obtain ⟨x, hx⟩ := hkey p hp
      obtain ⟨h1, h2⟩ := hgood p hp x hx
      rw [show p = (.int .i64 x, .lit (.int .i64 (f x))) from Prod.ext hx h2]
      exact (hgd x h1).2 (h x h1)
  unfold Lib.equalFuncD
  rw [Bool.and_eq_true, decide_eq_true_eq, hall, hsz, hsz']
  constructor
  · rintro ⟨h1, h2⟩ k
    by_cases hf : f k = 0
    · by_cases hg : g k = 0
      · rw [hf, hg]
      · have h3 := hin' k hg
        exact absurd hf (Rf.cntN_eq m (fun k hk => by rw [← h2 k hk]; exact hk) h1 k h3.1 h3.2 hg)
    · exact h2 k hf
  · intro h
    exact ⟨Rf.cntN_congr m (fun i _ _ => by rw [h i]), fun x _ => h x⟩

theorem eqmap_any (bm bm' : Nat) (f g : Int → Int) (B : Int) (b : Bool) (w : World) (h : RMap w bm f B) (h' : RMap w bm' g B) (hb : b = true ↔ ∀ k, f k = g k) :
    Calls Try.prog 30 #[.map (some bm), .map (some bm')] w fun e w' => e = .returned (.bool b) ∧ Keep [] w w' := by
  obtain ⟨D, hown, hat, hhas, hsz, hB0, hB1, hin⟩ := h
  obtain ⟨D', hown', hat', hhas', hsz', _, _, hin'⟩ := h'
  have hcon : Calls Try.prog 30 #[.map (some bm), .map (some bm')] w (fun e w' => e = .returned (.bool (Lib.equalFuncD sameD D D')) ∧ w.grownBy w' none) :=
    AnyEq.maps_Equal_opt Try.eqA law3 (plainElem Try.prog 3) (plainElem Try.prog 3) sameD (some bm) (some bm') D D' w (Or.inr ⟨bm, _, rfl, hown⟩) (Or.inr ⟨bm', _, rfl, hown'⟩) (.int .i64 0) zero3 (.lit (.int .i64 0)) [] (plainElem_int Try.underlying3 (by decide)) neq_int
  refine hcon.mono ?_
  rintro e w' ⟨rfl, hg⟩
  have hi := equal_iff (m := B.toNat) hown hown' hat hhas hsz (fun k hk => by have := hin k hk; omega) hat' hhas' hsz' (fun k hk => by have := hin' k hk; omega)
  refine ⟨?_, (Keep.refl [] w).grown hg (fun k h => by cases h)⟩
  congr 2
  rw [Bool.eq_iff_iff, hi, hb]

set_option maxRecDepth 100000 in
set_option maxHeartbeats 800000 in
/-- Same at two of as many blocks -/
theorem rsame_eq (r bm r' bm' : Nat) (f g : Int → Int) (B low low' : Int) (b : Bool) (w : World) (h : IsRf w r bm f B low) (h' : IsRf w r' bm' g B low') (hb : b = true ↔ ∀ k, f k = g k) :
    Calls Try.prog 17 #[.pointer (some ⟨r, 0, none⟩), .pointer (some ⟨r', 0, none⟩)] w fun e w' => e = .returned (.bool b) ∧ Keep [] w w' := by
  obtain ⟨c0, c1, _, _⟩ := h.cells
  obtain ⟨d0, d1, _, _⟩ := h'.cells
  have HC := Lib.hid (eqmap_any bm bm' f g B b w.drew (h.map.drew) (h'.map.drew) hb)
  clear hb
  have hbb : (B == B) = true := beq_self_eq_true B
  go_enter Try.func17, Try.ntmps17
  go_wp2
  (refine wp_region_quiet_tail 22 (by kernel_rfl) (by kernel_rfl) ?_; simp only [List.take_succ_cons, List.take_zero, List.drop_succ_cons, List.drop_zero]; (repeat (go_big_quiet_step (fail))); with_reducible refine wpQuiet_nil ?_)
  go_wp2_with fail
  refine HC.out.mono ?_
  rintro e w' ⟨rfl, k⟩
  go_wp2
  go_ret
  exact ⟨rfl, ((Keep.refl [] w).drew).trans k (by simp)⟩

end Go.Proofs.Ytlecdappgpbnlaa
