/-
  The counts of package refs in memory: a map from blocks to counts, told by a function; look-up, store, delete, length at such a map. No condition.
-/
import Derived.Test.YtlecdappgpbnlaaBase
import Derived.Test.YtlecdappgpbnlaaRfPlain
import Derived.Test.YtlecdappgpbnlaaProg
import Derived.Maps.OwnSet
import Derived.Maps.OwnOps
namespace Go.Proofs.Ytlecdappgpbnlaa
open Go.RowKit Go.Maps

theorem law3 : Keyed Try.prog 3 := int_keyed Try.underlying3
theorem zero3 (w : World) : (zeroValue 3).run Try.prog w = .ok (.int .i64 0) w := by kernel_rfl

/-- block b is a map whose counts are f, of blocks below B -/
def RMap (w : World) (b : Nat) (f : Int → Int) (B : Int) : Prop :=
  ∃ D : DataW Unit, w.ownsMap Try.prog 3 (plainElem Try.prog 3) b (Maps.size D) D ∧ (∀ k : Int, D.atKey (.int .i64 k) (.lit (.int .i64 0)) = .lit (.int .i64 (f k))) ∧ (∀ k : Int, Maps.has D (.int .i64 k) = decide (f k ≠ 0)) ∧
    Maps.size D = Rf.cntN f B.toNat ∧ 0 ≤ B ∧ B ≤ 4294967296 ∧ (∀ k, f k ≠ 0 → 0 ≤ k ∧ k < B)

theorem ownsMap_tight {w : World} {b n : Nat} {D : DataW Unit} (h : w.ownsMap Try.prog 3 (plainElem Try.prog 3) b n D) : w.ownsMap Try.prog 3 (plainElem Try.prog 3) b (Maps.size D) D := by
  obtain ⟨es, clock, h1, h2, h3, h4⟩ := h
  refine ⟨es, clock, h1, h2, ?_, h4⟩
  rw [h4, size_eq, length_sorted]
  simp

theorem wf_of {k : Int} (h0 : -9223372036854775808 ≤ k) (h1 : k ≤ 9223372036854775807) : (Lit.int .i64 k).wf = true := by
  simp [Lit.wf, IntKind.min, IntKind.max, IntKind.signed, IntKind.bits]; omega

theorem RMap.new (w : World) (B : Int) (h0 : 0 ≤ B) (h1 : B ≤ 4294967296) : RMap (w.alloc (.map #[] 0)) w.heap.size (fun _ => 0) B := by
  refine ⟨.map [], ownsMap_tight (World.ownsMap_made w _ _ _), fun k => rfl, fun k => rfl, ?_, h0, h1, fun k h => absurd rfl h⟩
  rw [Rf.cntN_zero _ (fun _ _ _ => rfl)]; rfl

theorem RMap.lt {w : World} {b : Nat} {f : Int → Int} {B : Int} (h : RMap w b f B) : b < w.heap.size := by
  obtain ⟨D, h1, _⟩ := h
  exact h1.lt

theorem RMap.keep {F : List Nat} {w w' : World} {b : Nat} {f : Int → Int} {B : Int} (h : RMap w b f B) (k : Keep F w w') (hn : b ∉ F) : RMap w' b f B := by
  obtain ⟨D, h1, h2⟩ := h
  refine ⟨D, ?_, h2⟩
  have hl := h1.lt
  obtain ⟨es, clock, e1, e2, e3, e4⟩ := h1
  exact ⟨es, clock, (k.block b hl hn).trans e1, e2, e3, e4⟩

theorem RMap.drew {w : World} {b : Nat} {f : Int → Int} {B : Int} (h : RMap w b f B) : RMap w.drew b f B := h.keep ((Keep.refl [] w).drew) (by simp)

theorem RMap.cnt_lt {w : World} {b : Nat} {f : Int → Int} {B : Int} (h : RMap w b f B) : Rf.cntN f B.toNat ≤ 4294967296 := by
  obtain ⟨D, _, _, _, _, h0, h1, _⟩ := h
  have := Rf.cntN_le f B.toNat
  omega

theorem RMap.look {w : World} {b : Nat} {f : Int → Int} {B k : Int} (h : RMap w b f B) (h0 : -9223372036854775808 ≤ k) (h1 : k ≤ 9223372036854775807) :
    (Instr.lookup 51 (.map (some b)) (.int .i64 k) false).run Try.prog w = .ok (.int .i64 (f k)) w := by
  obtain ⟨D, hown, hat, _⟩ := h
  obtain ⟨c, hrun, hc, _⟩ := hown.lookup_int law3 Try.underlying51 Try.underlying3 (zero3 _) (keyOf_int_mk Try.underlying3 (wf_of h0 h1))
  rw [hat k] at hc
  injection hc with hc
  injection hc with _ hc
  rw [hc]; exact hrun

theorem RMap.store {w' : World} {b n : Nat} {f : Int → Int} {B k v : Int} {D : DataW Unit} (hat : ∀ k : Int, D.atKey (.int .i64 k) (.lit (.int .i64 0)) = .lit (.int .i64 (f k))) (hhas : ∀ k : Int, Maps.has D (.int .i64 k) = decide (f k ≠ 0))
    (hsz : Maps.size D = Rf.cntN f B.toNat) (hB0 : 0 ≤ B) (hB1 : B ≤ 4294967296) (hin : ∀ k, f k ≠ 0 → 0 ≤ k ∧ k < B) (hk0 : 0 ≤ k) (hkB : k < B) (hv : v ≠ 0) (ht : Tidy D)
    (hown : w'.ownsMap Try.prog 3 (plainElem Try.prog 3) b n (D.put (.int .i64 k) (.lit (.int .i64 v)))) : RMap w' b (Rf.upd f k v) B := by
  refine ⟨_, ownsMap_tight hown, fun i => ?_, fun i => ?_, ?_, hB0, hB1, fun i hi => ?_⟩
  · by_cases e : i = k
    · subst e; rw [atKey_put_same (k := .int .i64 i) ht.isMap trivial, Rf.upd_same]
    · rw [atKey_put_other (fun h => e (by injection h)), Rf.upd_other e]; exact hat i
  · by_cases e : i = k
    · subst e; rw [has_put_same (k := .int .i64 i) ht.isMap trivial, Rf.upd_same]; simp [hv]
    · rw [has_put_other (fun h => e (by injection h)), Rf.upd_other e]; exact hhas i
  · rw [size_put ht, hhas k, hsz]
    have := Rf.cntN_upd f k v B.toNat hk0 (by omega)
    rw [if_neg hv] at this
    by_cases e : f k = 0
    · simp only [e, if_true] at this; simp [e]; omega
    · rw [if_neg e] at this; simp [e]; omega
  · by_cases e : i = k
    · omega
    · rw [Rf.upd_other e] at hi; exact hin i hi

theorem RMap.drop {w' : World} {b n : Nat} {f : Int → Int} {B k : Int} {D : DataW Unit} (hat : ∀ k : Int, D.atKey (.int .i64 k) (.lit (.int .i64 0)) = .lit (.int .i64 (f k))) (hhas : ∀ k : Int, Maps.has D (.int .i64 k) = decide (f k ≠ 0))
    (hsz : Maps.size D = Rf.cntN f B.toNat) (hB0 : 0 ≤ B) (hB1 : B ≤ 4294967296) (hin : ∀ k, f k ≠ 0 → 0 ≤ k ∧ k < B) (hk0 : 0 ≤ k) (hkB : k < B) (ht : Tidy D)
    (hown : w'.ownsMap Try.prog 3 (plainElem Try.prog 3) b n (D.del (.int .i64 k))) : RMap w' b (Rf.upd f k 0) B := by
  refine ⟨_, ownsMap_tight hown, fun i => ?_, fun i => ?_, ?_, hB0, hB1, fun i hi => ?_⟩
  · by_cases e : i = k
    · subst e; rw [atKey_del_same, Rf.upd_same]
    · rw [atKey_del_other (fun h => e (by injection h)), Rf.upd_other e]; exact hat i
  · by_cases e : i = k
    · subst e; rw [has_del_same, Rf.upd_same]; simp
    · rw [has_del_other (fun h => e (by injection h)), Rf.upd_other e]; exact hhas i
  · have h1 := size_del (k := .int .i64 k) ht
    rw [hhas k, hsz] at h1
    have := Rf.cntN_upd f k 0 B.toNat hk0 (by omega)
    by_cases e : f k = 0
    · simp [e] at this h1; omega
    · simp [e] at this h1; omega
  · by_cases e : i = k
    · subst e; rw [Rf.upd_same] at hi; omega
    · rw [Rf.upd_other e] at hi; exact hin i hi

section
variable {w : World} {ops : Array Oper} {rest : List Oper} {o : Oper} {a : Act} {Q : Exit → Act → World → Prop}

/-- 'm[k] = v', v not nought -/
theorem wpList_rstore {b : Nat} {f : Int → Int} {B k v : Int} (h : RMap w b f B) (hg : o.guard = none) (m x u : Operand) (hop : o.op = Op.mapUpdate 51 m x u) (hm : a.eval m = .map (some b)) (hx : a.eval x = .int .i64 k) (hu : a.eval u = .int .i64 v)
    (hk0 : 0 ≤ k) (hkB : k < B) (hv0 : 0 < v) (hv1 : v ≤ 9223372036854775807) (hK : ∀ w', RMap w' b (Rf.upd f k v) B → Keep [b] w w' → wpList Try.prog ops Q rest (a.put o.dst undef) w') : wpList Try.prog ops Q (o :: rest) a w := by
  have hc := h.cnt_lt
  obtain ⟨D, hown, hat, hhas, hsz, hB0, hB1, hin⟩ := h
  refine wpList_mapUpdate_in _ hg m x u 51 hop 3 3 law3 Try.underlying51 _ b _ D hm hown (by rw [hsz]; unfold maxLen; omega) _ _ _ hx hu (keyOf_int_mk Try.underlying3 (wf_of (by omega) (by omega))) _ [] (plainElem_int Try.underlying3 (wf_of (by omega) hv1)) ?_
  intro w' hown' ht'
  exact hK w' (RMap.store hat hhas hsz hB0 hB1 hin hk0 hkB (by omega) (hown.tidy law3) hown') ((Keep.refl _ _).grown ht'.grown (fun k hk => by cases hk; exact Or.inl (by simp)))

/-- 'delete(m, k)' -/
theorem wpList_rdrop {b : Nat} {f : Int → Int} {B k : Int} (h : RMap w b f B) (hg : o.guard = none) (m x : Operand) (hop : o.op = Op.call { callee := Callee.builtin Builtin.delete, args := #[m, x], argTypes := #[51, 3] }) (hm : a.eval m = .map (some b)) (hx : a.eval x = .int .i64 k)
    (hk0 : 0 ≤ k) (hkB : k < B) (hK : ∀ w', RMap w' b (Rf.upd f k 0) B → Keep [b] w w' → wpList Try.prog ops Q rest (a.put o.dst (.tuple #[])) w') : wpList Try.prog ops Q (o :: rest) a w := by
  obtain ⟨D, hown, hat, hhas, hsz, hB0, hB1, hin⟩ := h
  refine wpList_delete_own _ hg m x 51 3 hop 3 law3 Try.underlying51 _ b _ D hm hown _ _ hx (keyOf_int_mk Try.underlying3 (wf_of (by omega) (by omega))) ?_
  intro w' hown' ht'
  exact hK w' (RMap.drop hat hhas hsz hB0 hB1 hin hk0 hkB (hown.tidy law3) hown') ((Keep.refl _ _).grown ht'.grown (fun k hk => by cases hk; exact Or.inl (by simp)))
end

theorem RMap.len {w : World} {b : Nat} {f : Int → Int} {B : Int} (h : RMap w b f B) (ty : TypeId) : (Builtin.len_ #[51] ty #[.map (some b)]).run Try.prog w = .ok (.int .i64 (Rf.cntN f B.toNat)) w := by
  obtain ⟨D, hown, hat, hhas, hsz, _⟩ := h
  rw [← hsz]
  exact hown.len Try.underlying51 ty

end Go.Proofs.Ytlecdappgpbnlaa
